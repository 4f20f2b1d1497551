/-
  Parts of the proof of RupTwice: What follows of clauses and literals at once (unit propagation): no program in sight. The search for what follows at once: its steps and where it comes to rest. No program in sight. What is known, as a list; a row of clauses each of which hands on to the next. No program in sight. Values of variables: plain (turned from wip/laws A1, A3, A5, A8), and as a search's literals. Values of variables as what a search has found. lits.Is. Literals. lits.Var. assign.Value. assign.Set. Chunks in another order; whole objects; what calls hand back, taken apart. assign.New, Clause, Known. Maps from numbers to slices that grow. The search as a function (the queue of chapter 21), and that it answers right. No program in sight. The document's search (round by round), and that it answers right. No program in sight. A base of clauses that are added and dropped: places by literal. No program in sight. slices.SortFunc at []int, first part: reading, exchanging, comparing; insertion sort; heap sort. slices.SortFunc at []int, second part: partitions. slices.SortFunc at []int, third part: reversing, the partial insertion sort, the pivot, the patterns. slices.SortFunc at []int, fourth part: bits.Len, the patterns, the sort. Literals in their order, each once: plain Lean. Parts of slices that grow; what is marked; what was there before an append.
-/
import Derived.Test.YtdmbfmgebgdfnaaDoorE2
import Derived.Test.YtdmbfmgebgdfnaaDoorBm34
import Derived.Test.YtdmbfmgebgdfnaaDoorBm31
import Derived.Sort.AssemblyPlain
namespace Go.Proofs.YtdmbfmgebgdfnaaDoor

/-- a literal follows at once -/
inductive Up (C : List (List Int)) (S : List Int) : Int → Prop
  | start {l : Int} : l ∈ S → Up C S l
  | unit {c : List Int} {l : Int} : c ∈ C → l ∈ c → (∀ m ∈ c, m ≠ l → Up C S (-m)) → Up C S l
/-- they can't be -/
def Cfl (C : List (List Int)) (S : List Int) : Prop := (∃ l, Up C S l ∧ Up C S (-l)) ∨ ∃ c ∈ C, ∀ m ∈ c, Up C S (-m)

/-- where a search comes to rest without a conflict, it has found all -/
theorem up_fix {C : List (List Int)} {S : List Int} {T : Int → Prop} (hS : ∀ l ∈ S, T l) (hcon : ∀ l, T l → ¬ T (-l))
    (hunit : ∀ c ∈ C, ∀ l ∈ c, (∀ m ∈ c, m ≠ l → T (-m)) → T l) (hno : ∀ c ∈ C, ¬ ∀ m ∈ c, T (-m)) (hsub : ∀ l, T l → Up C S l) : (∀ l, Up C S l ↔ T l) ∧ ¬ Cfl C S := by
  have h1 : ∀ l, Up C S l → T l := by
    intro l h
    induction h with
    | start h => exact hS _ h
    | unit hc hl _ ih => exact hunit _ hc _ hl ih
  refine ⟨fun l => ⟨h1 l, hsub l⟩, ?_⟩
  rintro (⟨l, a, b⟩ | ⟨c, hc, h⟩)
  · exact hcon l (h1 l a) (h1 _ b)
  · exact hno c hc fun m hm => h1 _ (h m hm)
/-- a clause follows of clauses: its opposites can't be -/
def Imp (C : List (List Int)) (c : List Int) : Prop := Cfl C (c.map fun l => -l)
theorem imp_self {C : List (List Int)} {q c : List Int} (hc : c ∈ C) (h : ∀ l ∈ c, l ∈ q) : Imp C q :=
  .inr ⟨c, hc, fun m hm => .start (List.mem_map.2 ⟨m, h m hm, rfl⟩)⟩
end Go.Proofs.YtdmbfmgebgdfnaaDoor

namespace Go.Proofs.YtdmbfmgebgdfnaaDoor

/-- what a clause is worth -/
inductive Wth where
  | fa : Wth
  | tr : Wth
  | un : Wth
def nonF (T : Int → Bool) (c : List Int) : List Int := c.filter fun l => !T (-l)
/-- .. and the one literal that is left (0: none), where T tells the true literals -/
def clauseW (T : Int → Bool) (c : List Int) : Wth × Int :=
  match nonF T c with
  | [] => (.fa, 0)
  | l :: r => if (l :: r).any T = true then (.tr, 0) else if (r.all fun m => m == l) = true then (.un, l) else (.un, 0)
theorem mem_nonF {T : Int → Bool} {c : List Int} {l : Int} : l ∈ nonF T c ↔ l ∈ c ∧ T (-l) = false := by
  simp [nonF, List.mem_filter]
theorem W_fa {T : Int → Bool} {c : List Int} : (clauseW T c).1 = .fa ↔ ∀ m ∈ c, T (-m) = true := by
  unfold clauseW
  cases hN : nonF T c with
  | nil =>
    refine ⟨fun _ m hm => ?_, fun _ => rfl⟩
    cases h : T (-m) with
    | true => rfl
    | false =>
      have : m ∈ nonF T c := mem_nonF.2 ⟨hm, h⟩
      rw [hN] at this
      cases this
  | cons l r =>
    have hl : l ∈ nonF T c := by rw [hN]; exact List.mem_cons_self ..
    obtain ⟨h1, h2⟩ := mem_nonF.1 hl
    refine ⟨fun h => ?_, fun h => by rw [h l h1] at h2; cases h2⟩
    exfalso
    by_cases ha : (l :: r).any T = true
    · simp only [ha, if_true] at h; cases h
    · simp only [ha, if_false] at h
      by_cases hb : (r.all fun m => m == l) = true
      · simp only [hb, if_true] at h; cases h
      · simp only [hb, if_false] at h; cases h
theorem W_unit {T : Int → Bool} {c : List Int} {w : Wth} {l : Int} (h : clauseW T c = (w, l)) (h0 : l ≠ 0) : l ∈ c ∧ T l = false ∧ T (-l) = false ∧ ∀ m ∈ c, m ≠ l → T (-m) = true := by
  unfold clauseW at h
  cases hN : nonF T c with
  | nil => rw [hN] at h; cases h; exact absurd rfl h0
  | cons a r =>
    rw [hN] at h
    have ha : a ∈ nonF T c := by rw [hN]; exact List.mem_cons_self ..
    by_cases hb : (a :: r).any T = true
    · simp only [hb, if_true] at h; cases h; exact absurd rfl h0
    · simp only [hb, if_false] at h
      by_cases hc : (r.all fun m => m == a) = true
      · simp only [hc, if_true] at h
        cases h
        obtain ⟨h1, h2⟩ := mem_nonF.1 ha
        refine ⟨h1, ?_, h2, fun m hm hne => ?_⟩
        · cases ht : T l with
          | false => rfl
          | true => exact absurd (by simp [ht]) hb
        · cases ht : T (-m) with
          | true => rfl
          | false =>
            have : m ∈ nonF T c := mem_nonF.2 ⟨hm, ht⟩
            rw [hN] at this
            rcases List.mem_cons.1 this with e | e
            · exact absurd e hne
            · have := List.all_eq_true.1 hc m e
              exact absurd (by simpa using this) hne
      · simp only [hc, if_false] at h; cases h; exact absurd rfl h0
/-- a clause that asks for nothing -/
def Sat1 (T : Int → Bool) (c : List Int) : Prop := ∀ l ∈ c, (∀ m ∈ c, m ≠ l → T (-m) = true) → T l = true
theorem W_rest {T : Int → Bool} {c : List Int} (h : (clauseW T c).1 ≠ .fa) (h2 : (clauseW T c).2 = 0) (hc : ∀ l ∈ c, l ≠ 0) : Sat1 T c := by
  intro l hl hm
  unfold clauseW at h h2
  cases hN : nonF T c with
  | nil => rw [hN] at h; exact absurd rfl h
  | cons a r =>
    rw [hN] at h2
    have hall : ∀ m ∈ nonF T c, m = l := fun m hmem => by
      obtain ⟨a1, a2⟩ := mem_nonF.1 hmem
      by_cases e : m = l
      · exact e
      · rw [hm m a1 e] at a2; cases a2
    have hal : a = l := hall a (by rw [hN]; exact List.mem_cons_self ..)
    subst hal
    have hr : (r.all fun m => m == a) = true := List.all_eq_true.2 fun m hmr => by
      have := hall m (by rw [hN]; exact List.mem_cons_of_mem _ hmr)
      simp [this]
    by_cases hb : (a :: r).any T = true
    · obtain ⟨k, hk, ht⟩ := List.any_eq_true.1 hb
      have := hall k (by rw [hN]; exact hk)
      rw [← this]; exact ht
    · simp only [hb, hr, if_true, if_false] at h2
      exact absurd h2 (hc a hl)
/-! the search -/
def setL (T : Int → Bool) (l : Int) : Int → Bool := fun m => m == l || T m
/-- what has been found follows, and is no contradiction -/
structure Fnd (C : List (List Int)) (S : List Int) (T : Int → Bool) : Prop where
  sub : ∀ l, T l = true → Up C S l
  con : ∀ l, T l = true → T (-l) = false
theorem Fnd.none (C : List (List Int)) (S : List Int) : Fnd C S fun _ => false := ⟨(fun _ h => by cases h), (fun _ h => by cases h)⟩
theorem Fnd.set {C : List (List Int)} {S : List Int} {T : Int → Bool} (h : Fnd C S T) {l : Int} (hl : Up C S l) (h0 : l ≠ 0) (hn : T (-l) = false) : Fnd C S (setL T l) := by
  refine ⟨fun m hm => ?_, fun m hm => ?_⟩
  · simp only [setL, Bool.or_eq_true, beq_iff_eq] at hm
    rcases hm with rfl | hm
    · exact hl
    · exact h.sub m hm
  · simp only [setL, Bool.or_eq_true, beq_iff_eq] at hm
    simp only [setL, Bool.or_eq_false_iff, beq_eq_false_iff_ne]
    rcases hm with rfl | hm
    · exact ⟨by omega, hn⟩
    · refine ⟨fun e => ?_, h.con m hm⟩
      rw [← e, Int.neg_neg, hm] at hn
      cases hn
theorem Fnd.cfl {C : List (List Int)} {S : List Int} {T : Int → Bool} (h : Fnd C S T) {l : Int} (hl : Up C S l) (hn : T (-l) = true) : Cfl C S := .inl ⟨l, hl, h.sub _ hn⟩
theorem Fnd.cfl_clause {C : List (List Int)} {S : List Int} {T : Int → Bool} (h : Fnd C S T) {c : List Int} (hc : c ∈ C) (hw : (clauseW T c).1 = .fa) : Cfl C S := .inr ⟨c, hc, fun m hm => h.sub _ (W_fa.1 hw m hm)⟩
theorem Fnd.unit {C : List (List Int)} {S : List Int} {T : Int → Bool} (h : Fnd C S T) {c : List Int} (hc : c ∈ C) {w : Wth} {l : Int} (hw : clauseW T c = (w, l)) (h0 : l ≠ 0) : Up C S l := by
  obtain ⟨h1, _, _, h2⟩ := W_unit hw h0
  exact .unit hc h1 fun m hm hne => h.sub _ (h2 m hm hne)
/-- the search's answer -/
def IsClo (C : List (List Int)) (S : List Int) : Option (Int → Bool) → Prop
  | none => Cfl C S
  | some T => (∀ l, Up C S l ↔ T l = true) ∧ ¬ Cfl C S
/-- where it comes to rest -/
theorem Fnd.rest {C : List (List Int)} {S : List Int} {T : Int → Bool} (h : Fnd C S T) (hS : ∀ l ∈ S, T l = true) (hC : ∀ c ∈ C, c ≠ [] ∧ Sat1 T c) : IsClo C S (some T) := by
  refine up_fix (T := fun l => T l = true) hS (fun l hl hn => by rw [h.con l hl] at hn; cases hn) (fun c hc => (hC c hc).2) (fun c hc hall => ?_) h.sub
  obtain ⟨h1, h2⟩ := hC c hc
  cases c with
  | nil => exact h1 rfl
  | cons l r =>
    have := h2 l (List.mem_cons_self ..) fun m hm _ => hall m hm
    have hl := hall l (List.mem_cons_self ..)
    rw [h.con l this] at hl
    cases hl
/-! the search by a queue: P are the literals that have been worked off -/
def Worked (C : List (List Int)) (T P : Int → Bool) : Prop := ∀ c ∈ C, 2 ≤ c.length → ∀ l ∈ c, (∀ m ∈ c, m ≠ l → P (-m) = true) → T l = true
theorem Worked.none {C : List (List Int)} (hC : ∀ c ∈ C, c.Nodup) (T : Int → Bool) : Worked C T fun _ => false := by
  intro c hc h2 l hl h
  have hnd := hC c hc
  match c, h2, hnd with
  | a :: b :: r, _, hnd =>
    exfalso
    by_cases e : a = l
    · have hb : b ≠ l := fun e2 => by
        rw [List.nodup_cons] at hnd
        exact hnd.1 (by rw [e, ← e2]; exact List.mem_cons_self ..)
      exact Bool.false_ne_true (h b (by simp) hb)
    · exact Bool.false_ne_true (h a (by simp) e)
theorem Worked.mono {C : List (List Int)} {T T' P : Int → Bool} (h : Worked C T P) (hT : ∀ l, T l = true → T' l = true) : Worked C T' P := fun c hc h2 l hl hm => hT l (h c hc h2 l hl hm)
/-- a literal worked off: the clauses of its opposite ask for nothing any more -/
theorem Worked.step {C : List (List Int)} {T T' P : Int → Bool} {k : Int} (h : Worked C T P) (hT : ∀ l, T l = true → T' l = true) (hP : ∀ l, P l = true → T' l = true) (hk : T' k = true) (hs : ∀ c ∈ C, -k ∈ c → Sat1 T' c) : Worked C T' (setL P k) := by
  intro c hc h2 l hl hm
  have hP' : ∀ m, setL P k m = true → T' m = true := fun m hm => by
    simp only [setL, Bool.or_eq_true, beq_iff_eq] at hm
    rcases hm with rfl | hm
    · exact hk
    · exact hP m hm
  by_cases hkc : -k ∈ c
  · exact hs c hc hkc l hl fun m hm' hne => hP' _ (hm m hm' hne)
  · refine hT l (h c hc h2 l hl fun m hm' hne => ?_)
    have := hm m hm' hne
    simp only [setL, Bool.or_eq_true, beq_iff_eq] at this
    rcases this with e | e
    · exact absurd (by rw [← e, Int.neg_neg]; exact hm') hkc
    · exact e
/-- the queue is empty -/
theorem Worked.done {C : List (List Int)} {T : Int → Bool} (h : Worked C T T) (h1 : ∀ c ∈ C, c.length < 2 → c ≠ [] ∧ Sat1 T c) : ∀ c ∈ C, c ≠ [] ∧ Sat1 T c := by
  intro c hc
  by_cases h2 : c.length < 2
  · exact h1 c hc h2
  · refine ⟨fun e => by rw [e] at h2; exact h2 (by simp), h c hc (by omega)⟩
theorem Sat1.mono1 {T T' : Int → Bool} {c : List Int} (hc : c.length < 2) (h : c ≠ [] ∧ Sat1 T c) (hT : ∀ l, T l = true → T' l = true) : c ≠ [] ∧ Sat1 T' c := by
  obtain ⟨h0, h1⟩ := h
  match c, hc, h0 with
  | [a], _, _ =>
    refine ⟨by simp, fun l hl hm => hT l (h1 l hl fun m hm' hne => ?_)⟩
    rw [List.mem_singleton.1 hm', List.mem_singleton.1 hl] at hne
    exact absurd rfl hne
end Go.Proofs.YtdmbfmgebgdfnaaDoor

namespace Go.Proofs.YtdmbfmgebgdfnaaDoor

/-- the true literals by their variables -/
def knownT (T : Int → Bool) (n : Nat) : List Int := (List.range (n + 1)).flatMap fun v : Nat => if T (v : Int) = true then [(v : Int)] else if T (-(v : Int)) = true then [-(v : Int)] else []
/-! the row -/
def chainC (n : Nat) : List (List Int) := (List.range (n - 1)).map fun v : Nat => [-((v : Int) + 1), (v : Int) + 2]
def upT (a n : Int) : Int → Bool := fun l => decide (a ≤ l) && decide (l ≤ n)
end Go.Proofs.YtdmbfmgebgdfnaaDoor

namespace Go.Proofs.YtdmbfmgebgdfnaaDoor

def isLit (l n : Int) : Bool := decide (l ≠ 0) && decide (-n ≤ l) && decide (l ≤ n)
def absI (l : Int) : Int := if l < 0 then -l else l
def valOf (v : List Int) (l : Int) : Int :=
  if isLit l ((v.length : Int) - 1) then
    (let x := v.getD (absI l).toNat 0
     if l < 0 ∧ x ≠ 0 then 3 - x else x)
  else 0
theorem isLit_spec {l n : Int} : isLit l n = true ↔ l ≠ 0 ∧ -n ≤ l ∧ l ≤ n := by simp [isLit, and_assoc]
def canSet (v : List Int) (l : Int) : Bool := isLit l ((v.length : Int) - 1) && !decide (valOf v l = 2)
def setOf (v : List Int) (l : Int) : List Int := if canSet v l then v.set (absI l).toNat (if 0 < l then 1 else 2) else v
theorem setOf_len (v : List Int) (l : Int) : (setOf v l).length = v.length := by unfold setOf; split <;> simp
theorem getD_mem {v : List Int} {n : Nat} (h : n < v.length) : v.getD n 0 ∈ v := by
  rw [List.getD_eq_getElem?_getD, List.getElem?_eq_getElem h]
  exact List.getElem_mem _
theorem valOf_lit {v : List Int} {y : Int} (hl : isLit y ((v.length : Int) - 1) = true) : valOf v y = if y < 0 ∧ v.getD (absI y).toNat 0 ≠ 0 then 3 - v.getD (absI y).toNat 0 else v.getD (absI y).toNat 0 := by
  unfold valOf
  rw [if_pos hl]
structure ClSt where
  left : Int
  many : Int
  worth : Int
def clStep (v : List Int) (s : ClSt) (l : Int) : ClSt :=
  if valOf v l = 2 then s
  else
    let w := if valOf v l = 1 then 1 else if s.worth = 2 then 0 else s.worth
    if s.many = 0 ∨ l ≠ s.left then ⟨l, s.many + 1, w⟩ else ⟨s.left, s.many, w⟩
def clauseOf (v : List Int) (c : List Int) : Int × Int :=
  let s := c.foldl (clStep v) ⟨0, 0, 2⟩
  (s.worth, if s.many = 1 ∧ s.worth = 0 then s.left else 0)
theorem valOf_cases {v : List Int} (hv : ∀ x ∈ v, x = 0 ∨ x = 1 ∨ x = 2) (l : Int) : valOf v l = 0 ∨ valOf v l = 1 ∨ valOf v l = 2 := by
  unfold valOf
  split
  · rename_i hl
    have hl' := isLit_spec.1 hl
    have hlt : (absI l).toNat < v.length := by unfold absI; split <;> omega
    rcases hv _ (getD_mem hlt) with h | h | h <;> simp only [h] <;> split <;> omega
  · exact .inl rfl
def clauseSpec (v c : List Int) : Int × Int :=
  if ∃ l ∈ c, valOf v l = 1 then (1, 0)
  else match c.filter (fun l => decide (valOf v l = 0)) with
    | [] => (2, 0)
    | u :: r => (0, if ∀ x ∈ r, x = u then u else 0)
structure ClInv (v p : List Int) (s : ClSt) : Prop where
  w1 : s.worth = 1 ↔ ∃ l ∈ p, valOf v l = 1
  w2 : s.worth = 2 ↔ ∀ l ∈ p, valOf v l = 2
  w0 : s.worth = 0 ∨ s.worth = 1 ∨ s.worth = 2
  pos : 0 ≤ s.many
  m0 : s.many = 0 ↔ ∀ l ∈ p, valOf v l = 2
  m1 : s.many = 1 ↔ (s.left ∈ p ∧ valOf v s.left ≠ 2) ∧ ∀ l ∈ p, valOf v l ≠ 2 → l = s.left
  lt : s.many ≠ 0 → s.left ∈ p ∧ valOf v s.left ≠ 2
theorem clStep_inv {v : List Int} (hv : ∀ x ∈ v, x = 0 ∨ x = 1 ∨ x = 2) {p : List Int} {s : ClSt} (hi : ClInv v p s) (l : Int) : ClInv v (p ++ [l]) (clStep v s l) := by
  obtain ⟨w1, w2, w0, pos, m0, m1, lt⟩ := hi
  unfold clStep
  by_cases h2 : valOf v l = 2
  · rw [if_pos h2]
    have hmem : ∀ x, x ∈ p ++ [l] ↔ x ∈ p ∨ x = l := by simp
    refine ⟨?_, ?_, w0, pos, ?_, ?_, fun h => ⟨List.mem_append_left _ (lt h).1, (lt h).2⟩⟩
    · rw [w1]
      constructor
      · rintro ⟨x, h1, h3⟩; exact ⟨x, List.mem_append_left _ h1, h3⟩
      · rintro ⟨x, h1, h3⟩
        rcases (hmem x).1 h1 with h1 | rfl
        · exact ⟨x, h1, h3⟩
        · omega
    · rw [w2]
      constructor
      · intro h x hx
        rcases (hmem x).1 hx with hx | rfl
        · exact h x hx
        · exact h2
      · intro h x hx; exact h x (List.mem_append_left _ hx)
    · rw [m0]
      constructor
      · intro h x hx
        rcases (hmem x).1 hx with hx | rfl
        · exact h x hx
        · exact h2
      · intro h x hx; exact h x (List.mem_append_left _ hx)
    · rw [m1]
      constructor
      · rintro ⟨⟨h1, h3⟩, h4⟩
        refine ⟨⟨List.mem_append_left _ h1, h3⟩, fun x hx hn => ?_⟩
        rcases (hmem x).1 hx with hx | rfl
        · exact h4 x hx hn
        · exact absurd h2 hn
      · rintro ⟨⟨h1, h3⟩, h4⟩
        refine ⟨⟨?_, h3⟩, fun x hx hn => h4 x (List.mem_append_left _ hx) hn⟩
        rcases (hmem _).1 h1 with h1 | h1
        · exact h1
        · rw [h1] at h3; exact absurd h2 h3
  · rw [if_neg h2]
    have hmem : ∀ x, x ∈ p ++ [l] ↔ x ∈ p ∨ x = l := by simp
    have hl : l ∈ p ++ [l] := by simp
    have hc := valOf_cases hv l
    have hw : ∀ a b, (⟨a, b, if valOf v l = 1 then 1 else if s.worth = 2 then 0 else s.worth⟩ : ClSt).worth = (if valOf v l = 1 then 1 else if s.worth = 2 then 0 else s.worth) := fun _ _ => rfl
    have k1 : (if valOf v l = 1 then (1 : Int) else if s.worth = 2 then 0 else s.worth) = 1 ↔ ∃ x ∈ p ++ [l], valOf v x = 1 := by
      by_cases h1 : valOf v l = 1
      · rw [if_pos h1]; exact ⟨fun _ => ⟨l, hl, h1⟩, fun _ => rfl⟩
      · rw [if_neg h1]
        have : (∃ x ∈ p ++ [l], valOf v x = 1) ↔ s.worth = 1 := by
          rw [w1]
          constructor
          · rintro ⟨x, hx, hx1⟩
            rcases (hmem x).1 hx with hx | rfl
            · exact ⟨x, hx, hx1⟩
            · exact absurd hx1 h1
          · rintro ⟨x, hx, hx1⟩; exact ⟨x, List.mem_append_left _ hx, hx1⟩
        rw [this]
        split <;> omega
    have k2 : (if valOf v l = 1 then (1 : Int) else if s.worth = 2 then 0 else s.worth) = 2 ↔ ∀ x ∈ p ++ [l], valOf v x = 2 := by
      constructor
      · intro h
        split at h
        · omega
        · split at h <;> omega
      · intro h; exact absurd (h l hl) h2
    have k0 : (if valOf v l = 1 then (1 : Int) else if s.worth = 2 then 0 else s.worth) = 0 ∨ (if valOf v l = 1 then (1 : Int) else if s.worth = 2 then 0 else s.worth) = 1 ∨ (if valOf v l = 1 then (1 : Int) else if s.worth = 2 then 0 else s.worth) = 2 := by
      split
      · omega
      · split <;> omega
    by_cases hm : s.many = 0 ∨ l ≠ s.left
    · simp only [if_pos hm]
      refine ⟨k1, k2, k0, by simp only; omega, ?_, ?_, fun _ => ⟨hl, h2⟩⟩
      · constructor
        · intro h; simp only at h; omega
        · intro h; exact absurd (h l hl) h2
      · simp only
        constructor
        · intro h
          have h0 : s.many = 0 := by omega
          refine ⟨⟨hl, h2⟩, fun x hx hn => ?_⟩
          rcases (hmem x).1 hx with hx | rfl
          · exact absurd (m0.1 h0 x hx) hn
          · rfl
        · rintro ⟨_, h⟩
          by_cases h0 : s.many = 0
          · omega
          · have := h s.left (List.mem_append_left _ (lt h0).1) (lt h0).2
            rcases hm with hm | hm
            · exact absurd hm h0
            · exact absurd this.symm hm
    · simp only [if_neg hm]
      simp only [not_or, ne_eq, Decidable.not_not] at hm
      obtain ⟨hm0, hml⟩ := hm
      refine ⟨k1, k2, k0, pos, ?_, ?_, fun h => ⟨List.mem_append_left _ (lt h).1, (lt h).2⟩⟩
      · constructor
        · intro h; exact absurd h hm0
        · intro h; exact absurd (h l hl) h2
      · simp only
        rw [m1]
        constructor
        · rintro ⟨⟨h1, h3⟩, h4⟩
          refine ⟨⟨List.mem_append_left _ h1, h3⟩, fun x hx hn => ?_⟩
          rcases (hmem x).1 hx with hx | rfl
          · exact h4 x hx hn
          · exact hml
        · rintro ⟨_, h4⟩
          exact ⟨lt hm0, fun x hx hn => h4 x (List.mem_append_left _ hx) hn⟩
theorem clFold_inv {v : List Int} (hv : ∀ x ∈ v, x = 0 ∨ x = 1 ∨ x = 2) : ∀ (c p : List Int) (s : ClSt), ClInv v p s → ClInv v (p ++ c) (c.foldl (clStep v) s)
  | [], p, s, h => by simpa using h
  | l :: c, p, s, h => by
    have := clFold_inv hv c (p ++ [l]) _ (clStep_inv hv h l)
    simpa using this
theorem clauseOf_spec {v : List Int} (hv : ∀ x ∈ v, x = 0 ∨ x = 1 ∨ x = 2) (c : List Int) : clauseOf v c = clauseSpec v c := by
  have hi := clFold_inv hv c [] ⟨0, 0, 2⟩ ⟨by simp, by simp, .inr (.inr rfl), by simp, by simp, by simp, by simp⟩
  rw [List.nil_append] at hi
  unfold clauseOf clauseSpec
  simp only
  generalize c.foldl (clStep v) ⟨0, 0, 2⟩ = s at hi
  obtain ⟨w1, w2, w0, pos, m0, m1, lt⟩ := hi
  by_cases h1 : ∃ l ∈ c, valOf v l = 1
  · have := w1.2 h1
    rw [if_pos h1, this, if_neg (by omega)]
  · rw [if_neg h1]
    have n1 : ∀ l ∈ c, valOf v l ≠ 1 := fun l hl e => h1 ⟨l, hl, e⟩
    cases hf : c.filter (fun l => decide (valOf v l = 0)) with
    | nil =>
      have : ∀ l ∈ c, valOf v l = 2 := by
        intro l hl
        rcases valOf_cases hv l with h | h | h
        · have : l ∈ c.filter (fun l => decide (valOf v l = 0)) := List.mem_filter.2 ⟨hl, by simp [h]⟩
          rw [hf] at this
          cases this
        · exact absurd h (n1 l hl)
        · exact h
      rw [w2.2 this, if_neg (by omega)]
    | cons u r =>
      have hmem : ∀ x, x ∈ u :: r ↔ x ∈ c ∧ valOf v x = 0 := by
        intro x
        rw [← hf, List.mem_filter]
        simp
      have hu := (hmem u).1 (List.mem_cons_self ..)
      have hw : s.worth = 0 := by
        rcases w0 with h | h | h
        · exact h
        · exact absurd (w1.1 h) h1
        · have := w2.1 h u hu.1; omega
      rw [hw]
      have hne : ∀ x ∈ c, valOf v x ≠ 2 → valOf v x = 0 := by
        intro x hx hn
        rcases valOf_cases hv x with h | h | h
        · exact h
        · exact absurd h (n1 x hx)
        · exact absurd h hn
      by_cases hm : s.many = 1
      · obtain ⟨⟨a1, a2⟩, a3⟩ := m1.1 hm
        have hul := a3 u hu.1 (by omega)
        rw [if_pos ⟨hm, rfl⟩]
        simp only
        rw [if_pos]
        · rw [hul]
        · intro x hx
          have := (hmem x).1 (List.mem_cons_of_mem _ hx)
          rw [hul]
          exact a3 x this.1 (by omega)
      · rw [if_neg fun h => hm h.1]
        simp only
        rw [if_neg]
        intro hr
        apply hm
        have h0 : s.many ≠ 0 := fun h0 => by have := m0.1 h0 u hu.1; omega
        have key : ∀ x ∈ c, valOf v x ≠ 2 → x = u := fun x hx hn => by
          rcases List.mem_cons.1 ((hmem x).2 ⟨hx, hne x hx hn⟩) with h | h
          · exact h
          · exact hr x h
        have hl := lt h0
        refine m1.2 ⟨hl, fun x hx hn => ?_⟩
        rw [key x hx hn, key s.left hl.1 hl.2]
theorem valOf_set {v : List Int} {y l : Int} (hy : isLit y ((v.length : Int) - 1) = true) (hl : isLit l ((v.length : Int) - 1) = true) :
    valOf (v.set (absI y).toNat (if 0 < y then 1 else 2)) l = if absI l = absI y then (if l = y then 1 else 2) else valOf v l := by
  have hy' := isLit_spec.1 hy
  have hl' := isLit_spec.1 hl
  have h1 : (absI y).toNat < v.length ∧ 0 ≤ absI y := by unfold absI; split <;> omega
  have h2 : (absI l).toNat < v.length ∧ 0 ≤ absI l := by unfold absI; split <;> omega
  have hset : isLit l (((v.set (absI y).toNat (if 0 < y then 1 else 2)).length : Int) - 1) = true := by rw [List.length_set]; exact hl
  rw [valOf_lit hset, valOf_lit hl]
  by_cases e : absI l = absI y
  · rw [if_pos e, e, List.getD_eq_getElem?_getD, List.getElem?_set_self h1.1, Option.getD_some]
    have : l = y ∨ l = -y := by unfold absI at e; split at e <;> split at e <;> omega
    by_cases hp : 0 < y
    · rcases this with rfl | rfl
      · simp [hp, show ¬ l < 0 by omega]
      · simp [hp, show ¬ -y = y by omega]
    · rcases this with rfl | rfl
      · simp [hp, show l < 0 by omega]
      · simp [hp, show ¬ -y = y by omega]
  · have hne : (absI y).toNat ≠ (absI l).toNat := by omega
    rw [if_neg e, List.getD_eq_getElem?_getD, List.getElem?_set_ne hne, ← List.getD_eq_getElem?_getD]
theorem isLit_neg {y n : Int} : isLit (-y) n = isLit y n := by
  rw [Bool.eq_iff_iff, isLit_spec, isLit_spec]
  omega
theorem absI_neg (y : Int) : absI (-y) = absI y := by unfold absI; split <;> split <;> omega
theorem unknown_zero {v : List Int} (hv : ∀ x ∈ v, x = 0 ∨ x = 1 ∨ x = 2) {y : Int} (hy : isLit y ((v.length : Int) - 1) = true) (h0 : valOf v y = 0) : v.getD (absI y).toNat 0 = 0 := by
  have hy' := isLit_spec.1 hy
  have hlt : (absI y).toNat < v.length := by unfold absI; split <;> omega
  have hx := hv _ (getD_mem hlt)
  rw [valOf_lit hy] at h0
  generalize v.getD (absI y).toNat 0 = x at hx h0
  rcases hx with rfl | rfl | rfl
  · rfl
  · split at h0 <;> omega
  · split at h0 <;> omega
def knownAt (v : List Int) (t : Nat) : List Int := if v.getD t 0 = 1 then [(t : Int)] else if v.getD t 0 = 2 then [-(t : Int)] else []
def knownOf (v : List Int) : List Int := (List.range v.length).flatMap (knownAt v)
end Go.Proofs.YtdmbfmgebgdfnaaDoor

namespace Go.Proofs.YtdmbfmgebgdfnaaDoor

def trueL (v : List Int) (l : Int) : Bool := decide (valOf v l = 1)
theorem val_opp {v : List Int} (hv : ∀ x ∈ v, x = 0 ∨ x = 1 ∨ x = 2) (l : Int) : valOf v (-l) = if valOf v l = 0 then 0 else 3 - valOf v l := by
  cases hl : isLit l ((v.length : Int) - 1) with
  | false =>
    have h1 : valOf v l = 0 := by unfold valOf; rw [hl]; rfl
    have h2 : valOf v (-l) = 0 := by unfold valOf; rw [isLit_neg, hl]; rfl
    rw [h1, h2, if_pos rfl]
  | true =>
    have hn : isLit (-l) ((v.length : Int) - 1) = true := by rw [isLit_neg]; exact hl
    have hl' := isLit_spec.1 hl
    have hlt : (absI l).toNat < v.length := by unfold absI; split <;> omega
    have hx := hv _ (getD_mem hlt)
    rw [valOf_lit hn, valOf_lit hl, absI_neg]
    generalize v.getD (absI l).toNat 0 = x at hx
    by_cases h0 : l < 0
    · have h1 : ¬ -l < 0 := by omega
      rcases hx with rfl | rfl | rfl <;> simp [h0, h1] <;> omega
    · have h1 : -l < 0 := by omega
      rcases hx with rfl | rfl | rfl <;> simp [h0, h1] <;> omega
theorem trueL_neg {v : List Int} (hv : ∀ x ∈ v, x = 0 ∨ x = 1 ∨ x = 2) (l : Int) : trueL v (-l) = decide (valOf v l = 2) := by
  unfold trueL
  rw [val_opp hv]
  rcases valOf_cases hv l with h | h | h <;> rw [h] <;> rfl
theorem val_nolit {v : List Int} {l : Int} (h : isLit l ((v.length : Int) - 1) = false) : valOf v l = 0 := by
  unfold valOf
  rw [h]; rfl
theorem canSet_iff {v : List Int} {l : Int} : canSet v l = true ↔ isLit l ((v.length : Int) - 1) = true ∧ valOf v l ≠ 2 := by
  unfold canSet
  simp
theorem trueL_set {v : List Int} (hv : ∀ x ∈ v, x = 0 ∨ x = 1 ∨ x = 2) {l : Int} (hc : canSet v l = true) : trueL (setOf v l) = setL (trueL v) l := by
  obtain ⟨hl, h2⟩ := canSet_iff.1 hc
  funext m
  have hs : setOf v l = v.set (absI l).toNat (if 0 < l then 1 else 2) := by unfold setOf; rw [if_pos hc]
  simp only [setL, trueL, hs]
  cases hm : isLit m ((v.length : Int) - 1) with
  | false =>
    have hne : m ≠ l := fun e => by rw [e, hl] at hm; cases hm
    rw [val_nolit hm, val_nolit (by rw [List.length_set]; exact hm), beq_false_of_ne hne]
    rfl
  | true =>
    rw [valOf_set hl hm]
    have hm' := isLit_spec.1 hm
    have hl' := isLit_spec.1 hl
    by_cases e : absI m = absI l
    · rw [if_pos e]
      by_cases e2 : m = l
      · rw [if_pos e2, e2]; simp
      · have e3 : m = -l := by unfold absI at e; split at e <;> split at e <;> omega
        have h3 : valOf v m ≠ 1 := by
          rw [e3, val_opp hv]
          rcases valOf_cases hv l with h | h | h <;> rw [h]
          · simp
          · simp
          · exact absurd h h2
        rw [if_neg e2, beq_false_of_ne e2, decide_eq_false h3]
        rfl
    · rw [if_neg e, beq_false_of_ne (fun e2 => e (by rw [e2])), Bool.false_or]
theorem setOf_ok {v : List Int} (hv : ∀ x ∈ v, x = 0 ∨ x = 1 ∨ x = 2) (l : Int) : ∀ x ∈ setOf v l, x = 0 ∨ x = 1 ∨ x = 2 := by
  intro x hx
  unfold setOf at hx
  split at hx
  · rcases List.mem_or_eq_of_mem_set hx with h | h
    · exact hv x h
    · rw [h]; split <;> simp
  · exact hv x hx
def wcode : Wth → Int
  | .fa => 2
  | .tr => 1
  | .un => 0
theorem clauseSpec_W {v : List Int} (hv : ∀ x ∈ v, x = 0 ∨ x = 1 ∨ x = 2) (c : List Int) : clauseSpec v c = (wcode (clauseW (trueL v) c).1, (clauseW (trueL v) c).2) := by
  have hN : nonF (trueL v) c = c.filter fun l => !decide (valOf v l = 2) := by
    unfold nonF
    congr 1
    funext l
    rw [trueL_neg hv]
  unfold clauseSpec clauseW
  by_cases h1 : ∃ l ∈ c, valOf v l = 1
  · rw [if_pos h1]
    obtain ⟨l, hl, h⟩ := h1
    have hmem : l ∈ nonF (trueL v) c := by rw [hN, List.mem_filter]; exact ⟨hl, by rw [h]; rfl⟩
    cases hn : nonF (trueL v) c with
    | nil => rw [hn] at hmem; cases hmem
    | cons a r =>
      rw [hn] at hmem
      have hany : (a :: r).any (trueL v) = true := List.any_eq_true.2 ⟨l, hmem, by unfold trueL; rw [h]; rfl⟩
      simp only [hany, if_true]
      rfl
  · rw [if_neg h1]
    have hF : nonF (trueL v) c = c.filter fun l => decide (valOf v l = 0) := by
      rw [hN]
      apply List.filter_congr
      intro l hl
      have hne : valOf v l ≠ 1 := fun h => h1 ⟨l, hl, h⟩
      rcases valOf_cases hv l with h | h | h
      · rw [h]; rfl
      · exact absurd h hne
      · rw [h]; rfl
    rw [← hF]
    cases hn : nonF (trueL v) c with
    | nil => rfl
    | cons a r =>
      have hany : ¬ (a :: r).any (trueL v) = true := fun h => by
        obtain ⟨k, hk, ht⟩ := List.any_eq_true.1 h
        have hmem : k ∈ nonF (trueL v) c := by rw [hn]; exact hk
        exact h1 ⟨k, (mem_nonF.1 hmem).1, of_decide_eq_true ht⟩
      simp only [hany, if_false]
      by_cases hall : ∀ x ∈ r, x = a
      · have h2 : (r.all fun m => m == a) = true := List.all_eq_true.2 fun x hx => by simp [hall x hx]
        rw [if_pos hall]
        simp only [h2, if_true]
        rfl
      · have h2 : ¬ (r.all fun m => m == a) = true := fun h => hall fun x hx => by simpa using List.all_eq_true.1 h x hx
        rw [if_neg hall]
        simp only [h2, if_false]
        rfl
theorem knownOf_T {v : List Int} (hv : ∀ x ∈ v, x = 0 ∨ x = 1 ∨ x = 2) (h0 : v.getD 0 0 = 0) {n : Nat} (hn : v.length = n + 1) : knownOf v = knownT (trueL v) n := by
  unfold knownOf knownT
  rw [hn]
  have key : ∀ t ∈ List.range (n + 1), knownAt v t = if trueL v (t : Int) = true then [(t : Int)] else if trueL v (-(t : Int)) = true then [-(t : Int)] else [] := by
    intro t ht
    have ht := List.mem_range.1 ht
    unfold knownAt
    rw [trueL_neg hv]
    unfold trueL
    by_cases h : t = 0
    · subst h
      rw [val_nolit (by unfold isLit; simp), h0]
      simp
    · have hl : isLit (t : Int) ((v.length : Int) - 1) = true := isLit_spec.2 ⟨by omega, by omega, by omega⟩
      have hneg : ¬ ((t : Int) < 0) := by omega
      have habs : (absI (t : Int)).toNat = t := by unfold absI; rw [if_neg hneg]; omega
      rw [valOf_lit hl, habs]
      simp only [hneg, false_and, if_false, decide_eq_true_eq]
  rw [List.flatMap_def, List.flatMap_def]
  congr 1
  exact List.map_congr_left key
end Go.Proofs.YtdmbfmgebgdfnaaDoor

namespace Go.Proofs.YtdmbfmgebgdfnaaDoor
open Go.RowKit

def isI (l n : Int) : Bool := bif (bif (!decide (l = (0 : Int))) then (decide ((IntKind.wrap .i64 (0 - n)) ≤ l)) else false) then (decide (l ≤ n)) else false
theorem Is_run (fuel d : Nat) (l n : Int) (h : AHeap) : run fuel (d + 1) F_lits_Is [.int .i64 l, .int .i64 n] h = some (.bool (isI l n), h) :=
  pure_of rfl rfl (cc2 rfl rfl) (by rw [e_lits_Is]) rfl
theorem isI_iff {l n : Int} (h0 : -9223372036854775808 < n) (h1 : n ≤ 9223372036854775807) : isI l n = true ↔ l ≠ 0 ∧ -n ≤ l ∧ l ≤ n := by
  unfold isI
  rw [wrap64 (by omega) (by omega)]
  by_cases a : l = 0
  · simp [a]
  · by_cases b : -n ≤ l <;> by_cases c : l ≤ n <;> simp [a, b, c]

end Go.Proofs.YtdmbfmgebgdfnaaDoor

namespace Go.Proofs.YtdmbfmgebgdfnaaDoor
open Go.RowKit

theorem succI {n : Nat} (h : n < 9000000000000000000) : IntKind.wrap .i64 ((n : Int) + 1) = ((n + 1 : Nat) : Int) := by rw [wrap64 (by omega) (by omega)]; omega

/-! lits.Var -/
def varI (l : Int) : Int := bif decide (l < IntKind.wrap .i64 (0 - l)) then IntKind.wrap .i64 (0 - l) else l
def okInt (l : Int) : Prop := -9223372036854775808 < l ∧ l ≤ 9223372036854775807
end Go.Proofs.YtdmbfmgebgdfnaaDoor

namespace Go.Proofs.YtdmbfmgebgdfnaaDoor
open Go.RowKit

theorem Var_run (fuel d : Nat) (l : Int) (h : AHeap) : run fuel (d + 1) F_lits_Var [.int .i64 l] h = some (.int .i64 (varI l), h) :=
  pure_of rfl rfl (cc1 rfl) (by rw [e_lits_Var]) rfl
end Go.Proofs.YtdmbfmgebgdfnaaDoor

namespace Go.Proofs.YtdmbfmgebgdfnaaDoor
open Go.RowKit

abbrev i8C (v : List Int) : List AVal := v.map (.int .i8)
abbrev aSl (V : Nat) (v : List Int) : Sl := .mk ⟨V, 0, 0⟩ v.length true
theorem isI_lit2 {l n : Int} (h0 : -9223372036854775808 < n) (h1 : n ≤ 9223372036854775807) : isI l n = isLit l n := by
  rw [Bool.eq_iff_iff, isI_iff h0 h1, isLit_spec]
theorem value_run (fuel d : Nat) {h0 h : AHeap} {L : List Chunk} {i j A V : Nat} {v : List Int} (hs : Sep0 h0 h L) (hi : L[i]? = some (.own 1 A 0 1 [.slice (aSl V v)])) (hj : L[j]? = some (.own 1 V 0 v.length (i8C v))) (hv : ∀ x ∈ v, x = 0 ∨ x = 1 ∨ x = 2) (hn : v.length < 10000) {l : Int} (hl : -9223372036854775807 ≤ l ∧ l ≤ 9223372036854775807) :
    run fuel (d + 2) F_assign_Assign_Value [.ptr (.mk ⟨A, 0, 0⟩ 1), .int .i64 l] h = some (.int .i64 (valOf v l), h) := by
  have c0 : h.cell (.mk ⟨A, 0, 0 + 0⟩ 1) = some (.slice (aSl V v)) := hs.part hi (by omega) rfl
  have hcells : h.sliceCells 1 (aSl V v) = some (i8C v) := (hs.sep.own hj).cells true
  rw [e_assign_Assign_Value]
  simp only [Pt.chk, field_mk, Option.bind_some, c0, slice_slice, Sl.len]
  rw [wrap64 (n := (v.length : Int) - 1) (by omega) (by omega), Is_run, isI_lit2 (by omega) (by omega)]
  simp only [Option.bind_some, bool_bool]
  cases hli : isLit l ((v.length : Int) - 1) with
  | false => rw [val_nolit hli]; rfl
  | true =>
    have hl' := isLit_spec.1 hli
    have hlt : (absI l).toNat < v.length := by unfold absI; split <;> omega
    have hab : varI l = absI l := by
      unfold varI absI
      rw [wrap64 (n := 0 - l) (by omega) (by omega)]
      by_cases hneg : l < 0
      · rw [decide_eq_true (show l < 0 - l by omega), if_pos hneg, cond_true]; omega
      · rw [decide_eq_false (show ¬ l < 0 - l by omega), if_neg hneg, cond_false]
    have ha0 : 0 ≤ absI l := by unfold absI; split <;> omega
    simp only [Bool.not_true, cond_false, c0, Option.bind_some, slice_slice]
    rw [Var_run fuel d]
    simp only [Option.bind_some, int_int, c0, slice_slice, hab]
    have a1 : h.addr 1 (aSl V v) (absI l) = some ((aSl V v).at 1 (absI l)) := addr_at hcells ha0 (by simp only [Sl.len]; omega)
    have a2 : h.cell ((aSl V v).at 1 (absI l)) = some (.int .i8 (v.getD (absI l).toNat 0)) := cell_at hcells ha0 (by rw [List.getElem?_map, List.getElem?_eq_getElem hlt, List.getD_eq_getElem?_getD, List.getElem?_eq_getElem hlt]; rfl)
    have hx := hv _ (getD_mem hlt)
    simp only [same_self, a1, a2, Option.bind_some]
    rw [valOf_lit hli]
    generalize v.getD (absI l).toNat 0 = x at hx
    rw [show AVal.int? .i8 (.int .i8 x) = some x from rfl, Option.bind_some, wrap64 (n := x) (by omega) (by omega)]
    by_cases hneg : l < 0
    · by_cases hx0 : x = 0
      · subst hx0
        rw [decide_eq_true hneg]
        simp
      · rw [decide_eq_true hneg, cond_true, decide_eq_false hx0, wrap64 (by omega) (by omega), if_pos ⟨hneg, hx0⟩]
        rfl
    · rw [decide_eq_false hneg, cond_false, cond_false, if_neg (fun h => hneg h.1)]
end Go.Proofs.YtdmbfmgebgdfnaaDoor

namespace Go.Proofs.YtdmbfmgebgdfnaaDoor
open Go.RowKit

theorem i8C_set (v : List Int) {k : Nat} (hk : k < v.length) (x : Int) : (i8C v).take k ++ [AVal.int .i8 x] ++ (i8C v).drop (k + 1) = i8C (v.set k x) := by
  rw [List.set_eq_take_append_cons_drop, if_pos hk]
  simp
theorem set_run (fuel d : Nat) {h0 h : AHeap} {L : List Chunk} {i j A V : Nat} {v : List Int} (hs : Sep0 h0 h L) (hi : L[i]? = some (.own 1 A 0 1 [.slice (aSl V v)])) (hj : L[j]? = some (.own 1 V 0 v.length (i8C v))) (hv : ∀ x ∈ v, x = 0 ∨ x = 1 ∨ x = 2) (hn : v.length < 10000) {l : Int} (hl : -9223372036854775807 ≤ l ∧ l ≤ 9223372036854775807) :
    ∃ h', run fuel (d + 3) F_assign_Assign_Set [.ptr (.mk ⟨A, 0, 0⟩ 1), .int .i64 l] h = some (.bool (canSet v l), h') ∧ Sep0 h0 h' (L.set j (.own 1 V 0 v.length (i8C (setOf v l)))) := by
  have c0 : h.cell (.mk ⟨A, 0, 0 + 0⟩ 1) = some (.slice (aSl V v)) := hs.part hi (by omega) rfl
  have hcells : h.sliceCells 1 (aSl V v) = some (i8C v) := (hs.sep.own hj).cells true
  have same0 : L.set j (.own 1 V 0 v.length (i8C v)) = L := by
    obtain ⟨j1, j2⟩ := List.getElem?_eq_some_iff.1 hj
    rw [← j2]
    exact List.set_getElem_self j1
  rw [e_assign_Assign_Set]
  simp only [Pt.chk, field_mk, Option.bind_some, c0, slice_slice, Sl.len]
  rw [wrap64 (n := (v.length : Int) - 1) (by omega) (by omega), Is_run, isI_lit2 (by omega) (by omega)]
  simp only [Option.bind_some, bool_bool]
  cases hli : isLit l ((v.length : Int) - 1) with
  | false =>
    have hc : canSet v l = false := by unfold canSet; rw [hli]; rfl
    have hso : setOf v l = v := by unfold setOf; rw [hc]; rfl
    rw [hc, hso, same0]
    exact ⟨h, rfl, hs⟩
  | true =>
    have hl' := isLit_spec.1 hli
    simp only [Bool.not_true, beq_self_eq_true, cond_true]
    rw [value_run fuel d hs hi hj hv hn hl]
    simp only [Option.bind_some, int_int, bool_bool]
    by_cases h2 : valOf v l = 2
    · have hc : canSet v l = false := by unfold canSet; rw [hli, h2]; rfl
      have hso : setOf v l = v := by unfold setOf; rw [hc]; rfl
      rw [hc, hso, same0, decide_eq_true h2]
      exact ⟨h, rfl, hs⟩
    · have hc : canSet v l = true := canSet_iff.2 ⟨hli, h2⟩
      have hso : setOf v l = v.set (absI l).toNat (if 0 < l then 1 else 2) := by unfold setOf; rw [if_pos hc]
      have hlt : (absI l).toNat < v.length := by unfold absI; split <;> omega
      rw [hc, hso, decide_eq_false h2, cond_false]
      by_cases hp : 0 < l
      · have hab : absI l = l := by unfold absI; rw [if_neg (by omega)]
        rw [hab] at hlt ⊢
        obtain ⟨h', e1, s1⟩ := hs.put (o := l.toNat) (l := l.toNat + 1) (vs := [.int .i8 1]) hj (by simp) (by simp; omega)
        have a1 : h.addr 1 (aSl V v) l = some ((aSl V v).at 1 l) := addr_at hcells (by omega) (by simp only [Sl.len]; omega)
        have a2 : (aSl V v).at 1 l = .mk ⟨V, 0, l.toNat⟩ (l.toNat + 1) := by simp [Sl.at]
        rw [decide_eq_true hp, cond_true, c0, Option.bind_some, slice_slice, Option.bind_some, a1, Option.bind_some, a2, e1, if_pos hp]
        rw [List.length_singleton, i8C_set v hlt] at s1
        exact ⟨h', rfl, s1⟩
      · have hab : absI l = -l := by unfold absI; rw [if_pos (by omega)]
        rw [hab] at hlt ⊢
        obtain ⟨h', e1, s1⟩ := hs.put (o := (-l).toNat) (l := (-l).toNat + 1) (vs := [.int .i8 2]) hj (by simp) (by simp; omega)
        have a1 : h.addr 1 (aSl V v) (-l) = some ((aSl V v).at 1 (-l)) := addr_at hcells (by omega) (by simp only [Sl.len]; omega)
        have a2 : (aSl V v).at 1 (-l) = .mk ⟨V, 0, (-l).toNat⟩ ((-l).toNat + 1) := by simp [Sl.at]
        rw [decide_eq_false hp, cond_false, c0, Option.bind_some, slice_slice, Option.bind_some, wrap64 (n := 0 - l) (by omega) (by omega), show 0 - l = -l by omega, a1, Option.bind_some, a2, e1, if_neg hp]
        rw [List.length_singleton, i8C_set v hlt] at s1
        exact ⟨h', rfl, s1⟩
end Go.Proofs.YtdmbfmgebgdfnaaDoor

namespace Go.Proofs.YtdmbfmgebgdfnaaDoor
open Go.RowKit

/-! chunks in another order -/
theorem Sep0.perm {h0 h : AHeap} {L L' : List Chunk} (hs : Sep0 h0 h L) (hp : L.Perm L') : Sep0 h0 h L' :=
  ⟨⟨fun c hc => hs.sep.all c (hp.mem_iff.2 hc), hp.pairwise hs.sep.far fun h => Chunk.Far.symm h⟩, hs.ext, fun c hc => hs.fresh c (hp.mem_iff.2 hc)⟩
theorem Sep0.sub {h0 h : AHeap} {L L' : List Chunk} (hs : Sep0 h0 h L) (hp : L'.Sublist L) : Sep0 h0 h L' :=
  ⟨⟨fun c hc => hs.sep.all c (hp.subset hc), hs.sep.far.sublist hp⟩, hs.ext, fun c hc => hs.fresh c (hp.subset hc)⟩
theorem Sep0.cons {h0 h : AHeap} {L : List Chunk} {c : Chunk} (hs : Sep0 h0 h (L ++ [c])) : Sep0 h0 h (c :: L) := hs.perm (List.perm_append_singleton _ L)
theorem mapOf_some (h : AHeap) (m : Nat) : h.mapOf (some m) = h.maps[m]? := rfl
/-! what calls hand back, taken apart -/
theorem tup2 (a b : AVal) : AVal.isTup 2 (.tup [a, b]) = true := rfl
theorem comp0 (a : AVal) (l : List AVal) : AVal.comp 0 (.tup (a :: l)) = some a := rfl
theorem comp1 (a b : AVal) (l : List AVal) : AVal.comp 1 (.tup (a :: b :: l)) = some b := rfl
theorem all_len {α : Type} {l : List α} {z : List α} {n : Nat} (hl : l.length = n) (hz : z.length = n) : l.take 0 ++ z ++ l.drop (0 + z.length) = z := by
  rw [List.take_zero, List.nil_append, List.drop_eq_nil_of_le (by omega), List.append_nil]
/-- a whole object written -/
theorem Sep0.putAll {h0 h : AHeap} {L : List Chunk} (hs : Sep0 h0 h L) {i id n : Nat} {cs vs : List AVal} (hi : L[i]? = some (.own 1 id 0 n cs)) (hc : cs.length = n) (hv : vs.length = n) :
    ∃ h', h.storeAt vs (.mk ⟨id, 0, 0⟩ n) = some h' ∧ Sep0 h0 h' (L.set i (.own 1 id 0 n vs)) := by
  obtain ⟨h', e1, s1⟩ := hs.put (o := 0) (l := n) (vs := vs) hi (by omega) (by omega)
  rw [all_len hc hv] at s1
  exact ⟨h', e1, s1⟩
/-- fewer chunks -/
theorem Sep0.init {h0 h : AHeap} {L : List Chunk} {c : Chunk} (hs : Sep0 h0 h (L ++ [c])) : Sep0 h0 h L :=
  ⟨⟨fun d hd => hs.sep.all d (List.mem_append_left _ hd), hs.sep.far.sublist (List.sublist_append_left ..)⟩, hs.ext, fun d hd => hs.fresh d (List.mem_append_left _ hd)⟩
theorem Sep0.junk {h0 h : AHeap} {L : List Chunk} (hs : Sep0 h0 h L) {cs : List AVal} : Sep0 h0 (h.push 1 cs) L := (hs.push 1 cs.length (cs := cs) (by simp)).init
theorem intsC_app (a b : List Int) : intsC (a ++ b) = intsC a ++ intsC b := List.map_append
theorem set_last {α : Type} (X : List α) (c d : α) : (X ++ [c]).set X.length d = X ++ [d] := by simp
theorem set0 {α : Type} (a x : α) (L : List α) : (a :: L).set 0 x = x :: L := rfl
theorem set1 {α : Type} (a b x : α) (L : List α) : (a :: b :: L).set 1 x = a :: x :: L := rfl
theorem set2 {α : Type} (a b c x : α) (L : List α) : (a :: b :: c :: L).set 2 x = a :: b :: x :: L := rfl
theorem set3 {α : Type} (a b c d x : α) (L : List α) : (a :: b :: c :: d :: L).set 3 x = a :: b :: c :: x :: L := rfl
end Go.Proofs.YtdmbfmgebgdfnaaDoor

namespace Go.Proofs.YtdmbfmgebgdfnaaDoor
open Go.RowKit

abbrev aO (A V : Nat) (v : List Int) : Chunk := .own 1 A 0 1 [.slice (aSl V v)]
abbrev aV (V : Nat) (v : List Int) : Chunk := .own 1 V 0 v.length (i8C v)
theorem cut_run (fuel d : Nat) (n : Int) (h : AHeap) (h0 : 0 ≤ n) (h1 : n ≤ 4000) : run fuel (d + 1) F_assign_Cut [.int .i64 n] h = some (.int .i64 n, h) := by
  rw [e_assign_Cut, bif_neg (show ¬ n < 0 by omega), bif_neg (by omega)]
theorem anew_run (fuel d : Nat) {h0 h : AHeap} {L : List Chunk} (hs : Sep0 h0 h L) {n : Nat} (hn : n ≤ 4000) :
    ∃ A V h', run fuel (d + 2) F_assign_New [.int .i64 (n : Int)] h = some (.ptr (.mk ⟨A, 0, 0⟩ 1), h') ∧ Sep0 h0 h' (L ++ [aV V (List.replicate (n + 1) 0), aO A V (List.replicate (n + 1) 0)]) := by
  rw [e_assign_New, cut_run _ _ _ _ (by omega) (by omega)]
  simp only [Option.bind_some, int_int]
  rw [wrap64 (by omega) (by omega), mk_ok (by omega) (by omega) (by omega), cond_true, show ((n : Int) + 1).toNat = n + 1 by omega, repeat_one, eqI_self]
  have e0 : List.replicate (n + 1) (AVal.int .i8 0) = i8C (List.replicate (n + 1) 0) := by simp [i8C]
  have s1 := hs.push 1 (List.replicate (n + 1) (0 : Int)).length (cs := i8C (List.replicate (n + 1) 0)) (by simp)
  have s2 := s1.push 1 1 (cs := [.slice (aSl h.next (List.replicate (n + 1) 0))]) rfl
  have e1 : AVal.slice (.mk ⟨h.next, 0, 0⟩ (n + 1) true) = .slice (aSl h.next (List.replicate (n + 1) 0)) := by simp [aSl]
  rw [e0, e1]
  rw [List.append_assoc] at s2
  exact ⟨_, h.next, _, rfl, s2⟩

section
variable {h0 h : AHeap} {L : List Chunk} {i j A V : Nat} {v : List Int}
theorem aclause_loop (fuel d : Nat) (hs : Sep0 h0 h L) (hi : L[i]? = some (aO A V v)) (hj : L[j]? = some (aV V v)) (hv : ∀ x ∈ v, x = 0 ∨ x = 1 ∨ x = 2) (hn : v.length < 10000) {s : Sl} {c : List Int} (hc : h.sliceCells 1 s = some (intsC c)) (hcl : c.length < 1000000000) (hlit : ∀ l ∈ c, -9223372036854775807 ≤ l ∧ l ≤ 9223372036854775807) :
    ∀ (n k : Nat) (st : ClSt), c.length < n + k → k ≤ c.length → 0 ≤ st.many → st.many ≤ k →
      l_assign_Assign_Clause_0 fuel (d + 2) n [(0, .ptr (.mk ⟨A, 0, 0⟩ 1)), (6, .int .i64 st.left), (7, .int .i64 st.many), (8, .int .i64 st.worth), (12, .slice s), (13, .int .i64 (c.length : Int)), (14, .int .i64 (k : Int))] h =
        some (.exit 0, [(6, .int .i64 ((c.drop k).foldl (clStep v) st).left), (7, .int .i64 ((c.drop k).foldl (clStep v) st).many), (8, .int .i64 ((c.drop k).foldl (clStep v) st).worth)], h) := by
  intro n
  induction n with
  | zero => intro k st h1 h2; omega
  | succ n ih =>
    intro k st h1 h2 h3 h4
    rw [l_assign_Assign_Clause_0_eq]
    by_cases hk : k < c.length
    · have hg : (intsC c)[(k : Int).toNat]? = some (.int .i64 c[k]) := by simp [List.getElem?_eq_getElem hk]
      have hd : c.drop k = c[k] :: c.drop (k + 1) := List.drop_eq_getElem_cons hk
      rw [bif_pos (by omega), read1 hc (by omega) hg]
      simp only [int_int, Option.bind_some]
      rw [value_run fuel d hs hi hj hv hn (hlit _ (List.getElem_mem hk))]
      simp only [int_int, Option.bind_some]
      rw [hd, List.foldl_cons, succI (by omega)]
      generalize hx : valOf v c[k] = x
      have hstep : clStep v st c[k] = if x = 2 then st else if st.many = 0 ∨ c[k] ≠ st.left then ⟨c[k], st.many + 1, if x = 1 then 1 else if st.worth = 2 then 0 else st.worth⟩ else ⟨st.left, st.many, if x = 1 then 1 else if st.worth = 2 then 0 else st.worth⟩ := by
        unfold clStep; rw [hx]
      have go : ∀ w, w = (if x = 1 then 1 else if st.worth = 2 then 0 else st.worth) → x ≠ 2 →
          k_assign_Assign_Clause_2 fuel (d + 2) n .normal [(0, .ptr (.mk ⟨A, 0, 0⟩ 1)), (6, .int .i64 st.left), (7, .int .i64 st.many), (8, .int .i64 w), (10, .int .i64 c[k]), (12, .slice s), (13, .int .i64 (c.length : Int)), (14, .int .i64 (k : Int))] h =
          some (.exit 0, [(6, .int .i64 ((c.drop (k + 1)).foldl (clStep v) (clStep v st c[k])).left), (7, .int .i64 ((c.drop (k + 1)).foldl (clStep v) (clStep v st c[k])).many), (8, .int .i64 ((c.drop (k + 1)).foldl (clStep v) (clStep v st c[k])).worth)], h) := by
        intro w hw' hx2
        rw [k_assign_Assign_Clause_2_n, succI (by omega)]
        rw [hstep, if_neg hx2, ← hw']
        by_cases hm : st.many = 0 ∨ c[k] ≠ st.left
        · rw [if_pos hm]
          have e : (bif decide (st.many = 0) then true else !decide (c[k] = st.left)) = true := by
            rcases hm with hm | hm <;> by_cases h9 : st.many = 0 <;> simp [hm, h9]
          rw [e, cond_true, wrap64 (by omega) (by omega)]
          exact ih (k + 1) ⟨c[k], st.many + 1, w⟩ (by omega) (by omega) (by simp only; omega) (by simp only; omega)
        · rw [if_neg hm]
          have e : (bif decide (st.many = 0) then true else !decide (c[k] = st.left)) = false := by
            simp only [not_or, ne_eq, Decidable.not_not] at hm
            simp [hm.1, hm.2]
          rw [e, cond_false]
          exact ih (k + 1) ⟨st.left, st.many, w⟩ (by omega) (by omega) h3 (by simp only; omega)
      by_cases hx2 : x = 2
      · simp only [hx2, decide_true, cond_true]
        rw [hstep, if_pos hx2]
        exact ih (k + 1) st (by omega) (by omega) h3 (by omega)
      · simp only [hx2, decide_false, cond_false]
        by_cases hx1 : x = 1
        · simp only [hx1, decide_true, cond_true, Option.bind_some]
          exact go 1 (by rw [if_pos hx1]) hx2
        · simp only [hx1, decide_false, cond_false]
          by_cases hw2 : st.worth = 2
          · simp only [hw2, decide_true, cond_true, Option.bind_some, k_assign_Assign_Clause_1_n]
            exact go 0 (by rw [if_neg hx1, if_pos hw2]) hx2
          · simp only [hw2, decide_false, cond_false, Option.bind_some, k_assign_Assign_Clause_1_n]
            exact go st.worth (by rw [if_neg hx1, if_neg hw2]) hx2
    · have : k = c.length := by omega
      subst this
      rw [bif_neg (by omega)]
      simp only [List.drop_length, List.foldl_nil]
theorem aclause_run (fuel d : Nat) (hs : Sep0 h0 h L) (hi : L[i]? = some (aO A V v)) (hj : L[j]? = some (aV V v)) (hv : ∀ x ∈ v, x = 0 ∨ x = 1 ∨ x = 2) (hn : v.length < 10000) {s : Sl} {c : List Int} (hc : h.sliceCells 1 s = some (intsC c)) (hcl : c.length < 1000000000) (hf : c.length < fuel) (hlit : ∀ l ∈ c, -9223372036854775807 ≤ l ∧ l ≤ 9223372036854775807) :
    run fuel (d + 3) F_assign_Assign_Clause [.ptr (.mk ⟨A, 0, 0⟩ 1), .slice s] h = some (.tup [.int .i64 (clauseSpec v c).1, .int .i64 (clauseSpec v c).2], h) := by
  have hl : s.len = c.length := by have := sliceCells_len hc; simp at this; omega
  rw [e_assign_Assign_Clause, hl]
  have := aclause_loop fuel d hs hi hj hv hn hc hcl hlit fuel 0 ⟨0, 0, 2⟩ (by omega) (by omega) (by simp) (by simp)
  simp only [Int.natCast_zero] at this
  rw [this, ← clauseOf_spec hv]
  simp only [Option.bind_some, k_assign_Assign_Clause_0_x0, List.drop_zero, clauseOf]
  generalize c.foldl (clStep v) ⟨0, 0, 2⟩ = st
  by_cases h1 : st.many = 1 <;> by_cases h2 : st.worth = 0 <;> simp [h1, h2]

end
end Go.Proofs.YtdmbfmgebgdfnaaDoor

namespace Go.Proofs.YtdmbfmgebgdfnaaDoor
open Go.RowKit

abbrev Key := Int × Sl × List Int
def esK (ks : List Key) : List (AVal × AVal) := ks.map fun t => (.int .i64 t.1, .slice t.2.1)
def chK (ks : List Key) : List Chunk := ks.map fun t => .part 1 t.2.1 (intsC t.2.2)
def findK (x : Int) : List Key → Option (Sl × List Int)
  | [] => none
  | t :: r => if x = t.1 then some t.2 else findK x r
def setK (x : Int) (p : Sl × List Int) : List Key → List Key
  | [] => [(x, p)]
  | t :: r => if x = t.1 then (t.1, p) :: r else t :: setK x p r
def slK (x : Int) (ks : List Key) : Sl := match findK x ks with
  | some p => p.1
  | none => .nil
def lisK (x : Int) (ks : List Key) : List Int := match findK x ks with
  | some p => p.2
  | none => []
theorem mfind_K (x : Int) : ∀ ks : List Key, mfind (.int .i64 x) (esK ks) = some ((findK x ks).map fun p => .slice p.1)
  | [] => rfl
  | t :: ks => by
    have ih := mfind_K x ks
    have e : esK (t :: ks) = (.int .i64 t.1, .slice t.2.1) :: esK ks := rfl
    rw [e, mfind]
    simp only [AVal.keyEq, decide_true, cond_true, Option.bind_some, findK]
    by_cases h : x = t.1
    · rw [decide_eq_true h, cond_true, if_pos h]; rfl
    · rw [decide_eq_false h, cond_false, if_neg h, ih]
theorem mgot_K (x : Int) (ks : List Key) : mgot (.slice .nil) ((findK x ks).map fun p => .slice p.1) = .slice (slK x ks) := by
  unfold slK
  cases findK x ks <;> rfl
theorem mset_K (x : Int) (p : Sl × List Int) : ∀ ks : List Key, mset (.int .i64 x) (.slice p.1) (esK ks) = some (esK (setK x p ks))
  | [] => rfl
  | t :: ks => by
    have ih := mset_K x p ks
    have e : esK (t :: ks) = (.int .i64 t.1, .slice t.2.1) :: esK ks := rfl
    rw [e, mset]
    simp only [AVal.keyEq, decide_true, cond_true, Option.bind_some, setK]
    by_cases h : x = t.1
    · rw [decide_eq_true h, cond_true, if_pos h]; rfl
    · rw [decide_eq_false h, cond_false, if_neg h, ih]; rfl
theorem find_set (x : Int) (p : Sl × List Int) : ∀ ks : List Key, findK x (setK x p ks) = some p
  | [] => by simp [setK, findK]
  | t :: ks => by
    simp only [setK]
    by_cases h : x = t.1
    · rw [if_pos h]; simp only [findK]; rw [if_pos h]
    · rw [if_neg h]; simp only [findK]; rw [if_neg h]; exact find_set x p ks
theorem find_set_ne {x y : Int} (hne : y ≠ x) (p : Sl × List Int) : ∀ ks : List Key, findK y (setK x p ks) = findK y ks
  | [] => by simp only [setK, findK]; rw [if_neg hne]
  | t :: ks => by
    simp only [setK]
    by_cases h : x = t.1
    · rw [if_pos h]
      simp only [findK]
      rw [if_neg (fun e => hne (e.trans h.symm)), if_neg (fun e => hne (e.trans h.symm))]
    · rw [if_neg h]
      simp only [findK]
      by_cases h2 : y = t.1
      · rw [if_pos h2, if_pos h2]
      · rw [if_neg h2, if_neg h2]; exact find_set_ne hne p ks
theorem find_idx {x : Int} {p : Sl × List Int} : ∀ {ks : List Key}, findK x ks = some p → ∃ i, ks[i]? = some (x, p) ∧ ∀ q, setK x q ks = ks.set i (x, q)
  | [], h => by cases h
  | t :: ks, h => by
    simp only [findK] at h
    by_cases e : x = t.1
    · rw [if_pos e] at h
      cases h
      refine ⟨0, ?_, fun q => ?_⟩
      · rw [e]; rfl
      · simp only [setK]; rw [if_pos e, e]; rfl
    · rw [if_neg e] at h
      obtain ⟨i, h1, h2⟩ := find_idx h
      refine ⟨i + 1, h1, fun q => ?_⟩
      simp only [setK]
      rw [if_neg e, h2 q]; rfl
theorem find_none {x : Int} : ∀ {ks : List Key}, findK x ks = none → ∀ q, setK x q ks = ks ++ [(x, q)]
  | [], _, q => rfl
  | t :: ks, h, q => by
    simp only [findK] at h
    by_cases e : x = t.1
    · rw [if_pos e] at h; cases h
    · rw [if_neg e] at h
      simp only [setK]
      rw [if_neg e, find_none h q]; rfl
section
variable {h0 h : AHeap} {A : List Chunk} {ks : List Key} {j m : Nat}
theorem chK_get {x : Int} {p : Sl × List Int} {i : Nat} (hi : ks[i]? = some (x, p)) : (A ++ chK ks)[A.length + i]? = some (.part 1 p.1 (intsC p.2)) := by
  rw [List.getElem?_append_right (by omega), Nat.add_sub_cancel_left]
  unfold chK
  rw [List.getElem?_map, hi]; rfl
/-- what is looked up -/
theorem Sep0.lookK (hs : Sep0 h0 h (A ++ chK ks)) (x : Int) : h.sliceCells 1 (slK x ks) = some (intsC (lisK x ks)) ∧ (slK x ks).len = (lisK x ks).length := by
  unfold slK lisK
  cases hf : findK x ks with
  | none => exact ⟨rfl, rfl⟩
  | some p =>
    obtain ⟨i, h1, _⟩ := find_idx hf
    have hi := chK_get (A := A) h1
    have hl := hs.lenP hi
    simp only [List.length_map, Nat.mul_one] at hl
    exact ⟨hs.cellsP hi, hl.symm⟩
/-- a number put behind those of a key -/
theorem Sep0.addK (hs : Sep0 h0 h (A ++ chK ks)) (hj : A[j]? = some (.mp h0.maps.length m (esK ks))) (x v : Int) (hb : (slK x ks).len < 1000000000) :
    ∃ s' h', h.append false 1 8 (slK x ks) 1 [.int .i64 v] = some (s', h') ∧ Sep0 h0 h' A ∧
      Sep0 h0 (h'.setMap m (esK (setK x (s', lisK x ks ++ [v]) ks))) (A.set j (.mp h0.maps.length m (esK (setK x (s', lisK x ks ++ [v]) ks))) ++ chK (setK x (s', lisK x ks ++ [v]) ks)) := by
  have hjl := (List.getElem?_eq_some_iff.1 hj).1
  unfold slK at hb
  unfold slK lisK
  cases hf : findK x ks with
  | none =>
    simp only
    have s1 := hs.addNil 1
    have s2 := s1.toPart (i := (A ++ chK ks).length) (sz := 1) (s := .nil) (cs := []) (by simp)
    rw [set_last] at s2
    obtain ⟨s', h', e1, s3, _⟩ := s2.growP (i := (A ++ chK ks).length) (sz := 1) (bytes := 8) (m := 1) (s := .nil) (cs := []) (vs := [.int .i64 v]) (by simp) rfl (by simp [Sl.len]) (by simp [Sl.len])
    rw [set_last] at s3
    refine ⟨s', h', e1, s3.sub (by rw [List.append_assoc]; exact List.sublist_append_left ..), ?_⟩
    have s4 := s3.setMap (i := j) (m := m) (es := esK ks) (by rw [List.append_assoc, List.getElem?_append_left hjl]; exact hj) (esK (setK x (s', [] ++ [v]) ks))
    rw [List.append_assoc, List.set_append_left _ _ hjl] at s4
    have e5 : chK (setK x (s', [] ++ [v]) ks) = chK ks ++ [.part 1 s' ([] ++ [.int .i64 v])] := by
      rw [find_none hf]
      simp [chK]
    rw [e5]
    exact s4
  | some p =>
    rw [hf] at hb
    simp only at hb ⊢
    obtain ⟨i, h1, h2⟩ := find_idx hf
    have hi := chK_get (A := A) h1
    obtain ⟨s', h', e1, s3, _⟩ := hs.growP (bytes := 8) (m := 1) (vs := [.int .i64 v]) hi rfl (by omega) (by omega)
    rw [List.set_append_right _ _ (by omega), Nat.add_sub_cancel_left] at s3
    refine ⟨s', h', e1, s3.sub (List.sublist_append_left ..), ?_⟩
    have s4 := s3.setMap (i := j) (m := m) (es := esK ks) (by rw [List.getElem?_append_left hjl]; exact hj) (esK (setK x (s', p.2 ++ [v]) ks))
    rw [List.set_append_left _ _ hjl] at s4
    have e5 : chK (setK x (s', p.2 ++ [v]) ks) = (chK ks).set i (.part 1 s' (intsC p.2 ++ [.int .i64 v])) := by
      rw [h2]
      unfold chK
      rw [List.map_set]
      congr 1
      simp
    rw [e5]
    exact s4
end
end Go.Proofs.YtdmbfmgebgdfnaaDoor

namespace Go.Proofs.YtdmbfmgebgdfnaaDoor

/-- values, and the literals that wait -/
abbrev St := List Int × List Int
def setV (s : St) (l : Int) : Option St := if valOf s.1 l = 1 then some s else if canSet s.1 l = true then some (setOf s.1 l, s.2 ++ [l]) else none
def lookV (s : St) (c : List Int) : Option St := if (clauseSpec s.1 c).1 = 2 then none else if (clauseSpec s.1 c).2 = 0 then some s else setV s (clauseSpec s.1 c).2
def allV {α : Type} (f : St → α → Option St) : St → List α → Option St
  | s, [] => some s
  | s, a :: r => match f s a with
    | none => none
    | some s' => allV f s' r
def drainV (by' : Int → List (List Int)) : Nat → St → Option (List Int)
  | 0, _ => none
  | _ + 1, (v, []) => some v
  | n + 1, (v, l :: q) => match allV lookV (v, q) (by' (-l)) with
    | none => none
    | some s => drainV by' n s
def closeV (by' : Int → List (List Int)) (small : List (List Int)) (n N : Nat) (S : List Int) : Option (List Int) :=
  match allV setV (List.replicate (n + 1) 0, []) S with
  | none => none
  | some s => match allV lookV s small with
    | none => none
    | some s => drainV by' N s

structure Inv (C : List (List Int)) (S : List Int) (n : Nat) (s : St) : Prop where
  len : s.1.length = n + 1
  val : ∀ x ∈ s.1, x = 0 ∨ x = 1 ∨ x = 2
  fnd : Fnd C S (trueL s.1)
  tru : ∀ m ∈ s.2, trueL s.1 m = true
  zero : s.1.getD 0 0 = 0
structure Stp' (s t : St) : Prop where
  mono : ∀ m, trueL s.1 m = true → trueL t.1 m = true
  new : ∀ m, trueL t.1 m = true → trueL s.1 m = true ∨ m ∈ t.2
  keep : ∀ m ∈ s.2, m ∈ t.2
  cnt : t.2.length + t.1.count 0 = s.2.length + s.1.count 0
theorem Stp'.refl (s : St) : Stp' s s := ⟨fun _ h => h, fun _ h => .inl h, fun _ h => h, rfl⟩
theorem Stp'.trans {s t u : St} (a : Stp' s t) (b : Stp' t u) : Stp' s u :=
  ⟨fun m h => b.mono m (a.mono m h), fun m h => by
    rcases b.new m h with h | h
    · rcases a.new m h with h | h
      · exact .inl h
      · exact .inr (b.keep m h)
    · exact .inr h, fun m h => b.keep m (a.keep m h), b.cnt.trans a.cnt⟩
section
variable {C : List (List Int)} {S : List Int} {n : Nat}
theorem setV_ok {s : St} (h : Inv C S n s) {l : Int} (hl : Up C S l) (hi : isLit l n = true) : match setV s l with
    | none => Cfl C S
    | some t => Inv C S n t ∧ Stp' s t ∧ trueL t.1 l = true := by
  obtain ⟨v, q⟩ := s
  have hlen := h.len
  have hi' : isLit l ((v.length : Int) - 1) = true := by
    have : (v.length : Int) - 1 = n := by simp only at hlen; omega
    rw [this]; exact hi
  unfold setV
  by_cases h1 : valOf v l = 1
  · rw [if_pos h1]
    exact ⟨h, Stp'.refl _, decide_eq_true h1⟩
  · rw [if_neg h1]
    by_cases hc : canSet v l = true
    · rw [if_pos hc]
      have hT := trueL_set h.val hc
      have h2 := (canSet_iff.1 hc).2
      have h0 : valOf v l = 0 := by
        rcases valOf_cases h.val l with e | e | e
        · exact e
        · exact absurd e h1
        · exact absurd e h2
      have hl0 := isLit_spec.1 hi
      have hneg : trueL v (-l) = false := by rw [trueL_neg h.val]; exact decide_eq_false h2
      have hlT : setL (trueL v) l l = true := by simp [setL]
      refine ⟨⟨by simp only [setOf_len]; exact hlen, setOf_ok h.val l, ?_, fun m hm => ?_, ?_⟩, ⟨fun m hm => ?_, fun m hm => ?_, fun m hm => List.mem_append_left _ hm, ?_⟩, ?_⟩
      · simp only
        rw [hT]
        exact h.fnd.set hl hl0.1 hneg
      · simp only at hm ⊢
        rw [hT]
        rcases List.mem_append.1 hm with hm | hm
        · simp [setL, h.tru m hm]
        · rw [List.mem_singleton.1 hm]; exact hlT
      · have hs : setOf v l = v.set (absI l).toNat (if 0 < l then 1 else 2) := by unfold setOf; rw [if_pos hc]
        have hk : (absI l).toNat ≠ 0 := by unfold absI; split <;> omega
        have hz := h.zero
        simp only at hz ⊢
        rw [hs, List.getD_eq_getElem?_getD, List.getElem?_set_ne hk, ← List.getD_eq_getElem?_getD]
        exact hz
      · simp only at hm ⊢
        rw [hT]
        simp [setL, hm]
      · simp only at hm ⊢
        rw [hT] at hm
        simp only [setL, Bool.or_eq_true, beq_iff_eq] at hm
        rcases hm with rfl | hm
        · exact .inr (List.mem_append_right _ (List.mem_singleton.2 rfl))
        · exact .inl hm
      · have hz := unknown_zero h.val hi' h0
        have hl'' := isLit_spec.1 hi'
        have hlt : (absI l).toNat < v.length := by unfold absI; split <;> omega
        simp only at hz hlt ⊢
        have hget : v[(absI l).toNat] = 0 := by rw [List.getD_eq_getElem?_getD, List.getElem?_eq_getElem hlt] at hz; exact hz
        have hs : setOf v l = v.set (absI l).toNat (if 0 < l then 1 else 2) := by unfold setOf; rw [if_pos hc]
        have hpos : 0 < v.count 0 := List.count_pos_iff.2 (hget ▸ List.getElem_mem hlt)
        rw [hs, List.count_set hlt, hget]
        have hne : ((if 0 < l then (1 : Int) else 2) == 0) = false := by split <;> rfl
        rw [hne]
        simp
        omega
      · simp only
        rw [hT]; exact hlT
    · rw [if_neg hc]
      have h2 : valOf v l = 2 := by
        by_cases e : valOf v l = 2
        · exact e
        · exact absurd (canSet_iff.2 ⟨hi', e⟩) hc
      exact h.fnd.cfl hl (by simp only; rw [trueL_neg h.val]; exact decide_eq_true h2)
theorem lookV_ok {s : St} (h : Inv C S n s) {c : List Int} (hc : c ∈ C) (hr : ∀ l ∈ c, isLit l n = true) : match lookV s c with
    | none => Cfl C S
    | some t => Inv C S n t ∧ Stp' s t ∧ c ≠ [] ∧ Sat1 (trueL t.1) c := by
  have hW := clauseSpec_W h.val c
  unfold lookV
  rw [hW]
  simp only
  by_cases h2 : wcode (clauseW (trueL s.1) c).1 = 2
  · rw [if_pos h2]
    have : (clauseW (trueL s.1) c).1 = .fa := by
      cases he : (clauseW (trueL s.1) c).1 with
      | fa => rfl
      | tr => rw [he] at h2; cases h2
      | un => rw [he] at h2; cases h2
    exact h.fnd.cfl_clause hc this
  · rw [if_neg h2]
    have hfa : (clauseW (trueL s.1) c).1 ≠ .fa := fun e => h2 (by rw [e]; rfl)
    have hne : c ≠ [] := fun e => hfa (by rw [e]; rfl)
    by_cases h0 : (clauseW (trueL s.1) c).2 = 0
    · rw [if_pos h0]
      exact ⟨h, Stp'.refl _, hne, W_rest hfa h0 fun l hl => (isLit_spec.1 (hr l hl)).1⟩
    · rw [if_neg h0]
      have hweq : clauseW (trueL s.1) c = ((clauseW (trueL s.1) c).1, (clauseW (trueL s.1) c).2) := rfl
      obtain ⟨u1, u2, u3, u4⟩ := W_unit hweq h0
      have hup := h.fnd.unit hc hweq h0
      have := setV_ok h hup (hr _ u1)
      cases hs : setV s (clauseW (trueL s.1) c).2 with
      | none => rw [hs] at this; exact this
      | some t =>
        rw [hs] at this
        obtain ⟨a, b, e⟩ := this
        refine ⟨a, b, hne, fun l hl hm => ?_⟩
        by_cases e1 : l = (clauseW (trueL s.1) c).2
        · rw [e1]; exact e
        · have := hm _ u1 (fun e2 => e1 e2.symm)
          rw [a.fnd.con _ e] at this
          cases this
theorem setAll_ok : ∀ {L : List Int} {s : St}, Inv C S n s → (∀ l ∈ L, Up C S l ∧ isLit l n = true) → match allV setV s L with
    | none => Cfl C S
    | some t => Inv C S n t ∧ Stp' s t ∧ ∀ l ∈ L, trueL t.1 l = true
  | [], s, h, _ => ⟨h, Stp'.refl _, fun l hl => by cases hl⟩
  | l :: L, s, h, hL => by
    have h1 := setV_ok h (hL l (List.mem_cons_self ..)).1 (hL l (List.mem_cons_self ..)).2
    unfold allV
    cases hs : setV s l with
    | none => rw [hs] at h1; exact h1
    | some t =>
      rw [hs] at h1
      have h2 := setAll_ok (L := L) h1.1 fun m hm => hL m (List.mem_cons_of_mem _ hm)
      simp only
      cases hs2 : allV setV t L with
      | none => rw [hs2] at h2; exact h2
      | some u =>
        rw [hs2] at h2
        refine ⟨h2.1, h1.2.1.trans h2.2.1, fun m hm => ?_⟩
        rcases List.mem_cons.1 hm with rfl | hm
        · exact h2.2.1.mono _ h1.2.2
        · exact h2.2.2 m hm
theorem lookAll_ok : ∀ {L : List (List Int)} {s : St}, Inv C S n s → (∀ c ∈ L, c ∈ C ∧ ∀ l ∈ c, isLit l n = true) → match allV lookV s L with
    | none => Cfl C S
    | some t => Inv C S n t ∧ Stp' s t ∧ ∀ c ∈ L, c ≠ [] ∧ ∃ u : St, Stp' s u ∧ Stp' u t ∧ Sat1 (trueL u.1) c
  | [], s, h, _ => ⟨h, Stp'.refl _, fun l hl => by cases hl⟩
  | c :: L, s, h, hL => by
    have h1 := lookV_ok h (hL c (List.mem_cons_self ..)).1 (hL c (List.mem_cons_self ..)).2
    unfold allV
    cases hs : lookV s c with
    | none => rw [hs] at h1; exact h1
    | some t =>
      rw [hs] at h1
      have h2 := lookAll_ok (L := L) h1.1 fun m hm => hL m (List.mem_cons_of_mem _ hm)
      simp only
      cases hs2 : allV lookV t L with
      | none => rw [hs2] at h2; exact h2
      | some u =>
        rw [hs2] at h2
        refine ⟨h2.1, h1.2.1.trans h2.2.1, fun m hm => ?_⟩
        rcases List.mem_cons.1 hm with rfl | hm
        · exact ⟨h1.2.2.1, t, h1.2.1, h2.2.1, h1.2.2.2⟩
        · obtain ⟨a, w, b, e, f⟩ := h2.2.2 m hm
          exact ⟨a, w, h1.2.1.trans b, e, f⟩
theorem Worked.step2 {T T' P : Int → Bool} {k : Int} (h : Worked C T P) (hT : ∀ l, T l = true → T' l = true) (hs : ∀ c ∈ C, -k ∈ c → ∃ U : Int → Bool, (∀ l, setL P k l = true → U l = true) ∧ (∀ l, U l = true → T' l = true) ∧ Sat1 U c) : Worked C T' (setL P k) := by
  intro c hc h2 l hl hm
  by_cases hkc : -k ∈ c
  · obtain ⟨U, u1, u2, u3⟩ := hs c hc hkc
    exact u2 l (u3 l hl fun m hm' hne => u1 _ (hm m hm' hne))
  · refine hT l (h c hc h2 l hl fun m hm' hne => ?_)
    have := hm m hm' hne
    simp only [setL, Bool.or_eq_true, beq_iff_eq] at this
    rcases this with e | e
    · exact absurd (by rw [← e, Int.neg_neg]; exact hm') hkc
    · exact e
theorem drain_ok {by' : Int → List (List Int)} (hby : ∀ x c, c ∈ by' x ↔ c ∈ C ∧ x ∈ c) (hlit : ∀ c ∈ C, ∀ l ∈ c, isLit l n = true) : ∀ (N : Nat) (s : St) (P : Int → Bool), Inv C S n s → Worked C (trueL s.1) P → (∀ m, P m = true → trueL s.1 m = true) → (∀ m, trueL s.1 m = true → P m = true ∨ m ∈ s.2) → (∀ c ∈ C, c.length < 2 → c ≠ [] ∧ Sat1 (trueL s.1) c) → (∀ l ∈ S, trueL s.1 l = true) → s.2.length + s.1.count 0 < N → match drainV by' N s with
    | none => Cfl C S
    | some v => IsClo C S (some (trueL v)) ∧ v.length = n + 1 ∧ (∀ x ∈ v, x = 0 ∨ x = 1 ∨ x = 2) ∧ v.getD 0 0 = 0
  | 0, s, P, h, h1, h2, h3, h4, h5, h6 => by omega
  | N + 1, (v, []), P, h, h1, h2, h3, h4, h5, h6 => by
    have hP : ∀ m, trueL v m = true → P m = true := fun m hm => by
      rcases h3 m hm with e | e
      · exact e
      · cases e
    have hw : Worked C (trueL v) (trueL v) := fun c hc hl l hm ha => h1 c hc hl l hm fun m hm' hne => hP _ (ha m hm' hne)
    exact ⟨h.fnd.rest h5 (hw.done h4), h.len, h.val, h.zero⟩
  | N + 1, (v, l :: q), P, h, h1, h2, h3, h4, h5, h6 => by
    have hq : Inv C S n (v, q) := ⟨h.len, h.val, h.fnd, fun m hm => h.tru m (List.mem_cons_of_mem _ hm), h.zero⟩
    have hl : trueL v l = true := h.tru l (List.mem_cons_self ..)
    have ha := lookAll_ok (L := by' (-l)) hq fun c hc => ⟨((hby _ c).1 hc).1, hlit c ((hby _ c).1 hc).1⟩
    unfold drainV
    cases hs : allV lookV (v, q) (by' (-l)) with
    | none => rw [hs] at ha; exact ha
    | some t =>
      rw [hs] at ha
      obtain ⟨a1, a2, a3⟩ := ha
      have hPl : ∀ m, setL P l m = true → trueL v m = true := fun m hm => by
        simp only [setL, Bool.or_eq_true, beq_iff_eq] at hm
        rcases hm with rfl | hm
        · exact hl
        · exact h2 m hm
      refine drain_ok hby hlit N t (setL P l) a1 (h1.step2 a2.mono fun c hc hk => ?_) (fun m hm => a2.mono m (hPl m hm)) (fun m hm => ?_) (fun c hc hlen => Sat1.mono1 hlen (h4 c hc hlen) a2.mono) (fun m hm => a2.mono m (h5 m hm)) ?_
      · obtain ⟨_, u, b1, b2, b3⟩ := a3 c ((hby _ c).2 ⟨hc, hk⟩)
        exact ⟨trueL u.1, fun m hm => b1.mono m (hPl m hm), b2.mono, b3⟩
      · rcases a2.new m hm with e | e
        · rcases h3 m e with e | e
          · exact .inl (by simp [setL, e])
          · rcases List.mem_cons.1 e with rfl | e
            · exact .inl (by simp [setL])
            · exact .inr (a2.keep m e)
        · exact .inr e
      · have := a2.cnt
        simp only [List.length_cons] at h6 this
        omega
theorem val_zeros (k : Nat) (l : Int) : valOf (List.replicate k 0) l = 0 := by
  cases hl : isLit l (((List.replicate k (0 : Int)).length : Int) - 1) with
  | false => exact val_nolit hl
  | true =>
    have hl' := isLit_spec.1 hl
    have hg : (List.replicate k (0 : Int)).getD (absI l).toNat 0 = 0 := by
      rw [List.getD_eq_getElem?_getD, List.getElem?_replicate]
      split <;> rfl
    rw [valOf_lit hl, hg]
    simp
theorem closeV_ok {by' : Int → List (List Int)} {small : List (List Int)} (hby : ∀ x c, c ∈ by' x ↔ c ∈ C ∧ x ∈ c) (hsm : ∀ c, c ∈ small ↔ c ∈ C ∧ c.length < 2) (hnd : ∀ c ∈ C, c.Nodup) (hlit : ∀ c ∈ C, ∀ l ∈ c, isLit l n = true) (hS : ∀ l ∈ S, isLit l n = true) {N : Nat} (hN : n + 1 < N) : match closeV by' small n N S with
    | none => Cfl C S
    | some v => IsClo C S (some (trueL v)) ∧ v.length = n + 1 ∧ (∀ x ∈ v, x = 0 ∨ x = 1 ∨ x = 2) ∧ v.getD 0 0 = 0 := by
  have hT0 : trueL (List.replicate (n + 1) 0) = fun _ => false := by
    funext l
    unfold trueL
    rw [val_zeros]; rfl
  have h0 : Inv C S n (List.replicate (n + 1) 0, []) := ⟨by simp, fun x hx => .inl (List.eq_of_mem_replicate hx), by simp only; rw [hT0]; exact Fnd.none C S, (fun m hm => by cases hm), by simp⟩
  have h1 := setAll_ok (L := S) h0 fun l hl => ⟨.start hl, hS l hl⟩
  unfold closeV
  cases hs : allV setV (List.replicate (n + 1) 0, []) S with
  | none => rw [hs] at h1; exact h1
  | some s =>
    rw [hs] at h1
    obtain ⟨a1, a2, a3⟩ := h1
    simp only
    have h2 := lookAll_ok (L := small) a1 fun c hc => ⟨((hsm c).1 hc).1, hlit c ((hsm c).1 hc).1⟩
    cases hs2 : allV lookV s small with
    | none => rw [hs2] at h2; exact h2
    | some t =>
      rw [hs2] at h2
      obtain ⟨b1, b2, b3⟩ := h2
      simp only
      have hst := a2.trans b2
      refine drain_ok hby hlit N t (fun _ => false) b1 (Worked.none hnd _) (fun m hm => by cases hm) (fun m hm => ?_) (fun c hc hl => ?_) (fun l hl => b2.mono l (a3 l hl)) ?_
      · rcases hst.new m hm with e | e
        · simp only at e
          rw [hT0] at e
          cases e
        · exact .inr e
      · obtain ⟨c1, u, c2, c3, c4⟩ := b3 c ((hsm c).2 ⟨hc, hl⟩)
        exact Sat1.mono1 hl ⟨c1, c4⟩ c3.mono
      · have := hst.cnt
        simp only [List.length_nil, List.count_replicate_self, Nat.zero_add] at this
        omega
end
end Go.Proofs.YtdmbfmgebgdfnaaDoor

namespace Go.Proofs.YtdmbfmgebgdfnaaDoor

def roundV (v : List Int) : List (List Int) → Bool → Option (List Int × Bool)
  | [], m => some (v, m)
  | c :: r, m => if (clauseSpec v c).1 = 2 then none else if (clauseSpec v c).2 = 0 then roundV v r m else if canSet v (clauseSpec v c).2 = true then roundV (setOf v (clauseSpec v c).2) r true else none
def refV (C : List (List Int)) : Nat → List Int → Option (List Int)
  | 0, _ => none
  | n + 1, v => match roundV v C false with
    | none => none
    | some p => if p.2 = true then refV C n p.1 else some p.1
def startV (v : List Int) : List Int → Option (List Int)
  | [] => some v
  | l :: r => if canSet v l = true then startV (setOf v l) r else none
def refCloV (C : List (List Int)) (n N : Nat) (S : List Int) : Option (List Int) := match startV (List.replicate (n + 1) 0) S with
  | none => none
  | some v => refV C N v
section
variable {C : List (List Int)} {S : List Int} {n : Nat}
theorem Inv.drop {v q : List Int} (h : Inv C S n (v, q)) : Inv C S n (v, []) := ⟨h.len, h.val, h.fnd, (fun m hm => by cases hm), h.zero⟩
end
end Go.Proofs.YtdmbfmgebgdfnaaDoor

namespace Go.Proofs.YtdmbfmgebgdfnaaDoor

/-- clauses by place; none: it was dropped -/
abbrev BaseL := List (Option (List Int))
def atB (cl : BaseL) (i : Nat) : Option (List Int) := cl.getD i none
/-- the places of those of a kind -/
def idsP (p : List Int → Bool) (cl : BaseL) : List Nat := (List.range cl.length).filter fun i => match atB cl i with
  | some l => p l
  | none => false
theorem mem_ids {p : List Int → Bool} {cl : BaseL} {i : Nat} : i ∈ idsP p cl ↔ ∃ l, atB cl i = some l ∧ p l = true := by
  unfold idsP
  rw [List.mem_filter, List.mem_range]
  cases h : atB cl i with
  | none => simp
  | some l =>
    have hi : i < cl.length := by
      rcases Nat.lt_or_ge i cl.length with h1 | h1
      · exact h1
      · unfold atB at h
        rw [List.getD_eq_getElem?_getD, List.getElem?_eq_none h1] at h
        cases h
    simp [hi]
theorem ids_add (p : List Int → Bool) (cl : BaseL) (l : List Int) : idsP p (cl ++ [some l]) = idsP p cl ++ (if p l = true then [cl.length] else []) := by
  unfold idsP
  rw [List.length_append, List.length_singleton, List.range_succ, List.filter_append]
  congr 1
  · apply List.filter_congr
    intro i hi
    have hi := List.mem_range.1 hi
    have : atB (cl ++ [some l]) i = atB cl i := by
      unfold atB
      rw [List.getD_eq_getElem?_getD, List.getElem?_append_left hi, ← List.getD_eq_getElem?_getD]
    rw [this]
  · have : atB (cl ++ [some l]) cl.length = some l := by
      unfold atB
      rw [List.getD_eq_getElem?_getD, List.getElem?_append_right (Nat.le_refl _), Nat.sub_self]
      rfl
    rw [List.filter_cons, this]
    simp only [List.filter_nil]
theorem atB_set (cl : BaseL) (i j : Nat) : atB (cl.set i none) j = if i = j then none else atB cl j := by
  unfold atB
  rw [List.getD_eq_getElem?_getD, List.getElem?_set]
  by_cases h : i = j
  · rw [if_pos h, if_pos h]
    split <;> rfl
  · rw [if_neg h, if_neg h, ← List.getD_eq_getElem?_getD]
theorem ids_drop (p : List Int → Bool) (cl : BaseL) (i : Nat) : idsP p (cl.set i none) = (idsP p cl).filter fun k => k != i := by
  unfold idsP
  rw [List.length_set, List.filter_filter]
  apply List.filter_congr
  intro j _
  rw [atB_set]
  by_cases h : i = j
  · subst h; simp
  · rw [if_neg h]
    have : (j != i) = true := by simp; omega
    rw [this]
    simp
/-- the first place of a clause -/
def fstB (cl : BaseL) (l : List Int) : Option Nat := (List.range cl.length).find? fun i => atB cl i == some l
theorem find_filter {α : Type} (p q : α → Bool) : ∀ (L : List α), (∀ a ∈ L, q a = true → p a = true) → (L.filter p).find? q = L.find? q
  | [], _ => rfl
  | a :: L, h => by
    have ih := find_filter p q L fun b hb => h b (List.mem_cons_of_mem _ hb)
    rw [List.filter_cons]
    by_cases hp : p a = true
    · rw [if_pos hp, List.find?_cons, List.find?_cons, ih]
    · rw [if_neg hp, List.find?_cons, ih]
      have : q a = false := by
        cases hq : q a with
        | false => rfl
        | true => exact absurd (h a (List.mem_cons_self ..) hq) hp
      rw [this]
theorem ids_find {p : List Int → Bool} {cl : BaseL} {l : List Int} (hp : p l = true) : (idsP p cl).find? (fun i => atB cl i == some l) = fstB cl l := by
  unfold idsP fstB
  apply find_filter
  intro i _ h
  have : atB cl i = some l := by simpa using h
  rw [this]
  exact hp
/-- those that are there, in their order -/
def thereB (cl : BaseL) : List (List Int) := cl.filterMap id
theorem there_add (cl : BaseL) (l : List Int) : thereB (cl ++ [some l]) = thereB cl ++ [l] := by simp [thereB]
theorem fstB_cons (o : Option (List Int)) (cl : BaseL) (l : List Int) : fstB (o :: cl) l = if o = some l then some 0 else (fstB cl l).map (· + 1) := by
  unfold fstB
  rw [List.length_cons, List.range_succ_eq_map, List.find?_cons]
  have h0 : atB (o :: cl) 0 = o := rfl
  rw [h0]
  by_cases h : o = some l
  · have : (o == some l) = true := by simp [h]
    rw [this, if_pos h]
  · have : (o == some l) = false := by simpa using h
    rw [this, if_neg h, List.find?_map]
    rfl
theorem fstB_none {l : List Int} : ∀ {cl : BaseL}, fstB cl l = none → l ∉ thereB cl
  | [], _, h => by cases h
  | o :: cl, h0, h => by
    rw [fstB_cons] at h0
    by_cases e : o = some l
    · rw [if_pos e] at h0; cases h0
    · rw [if_neg e] at h0
      have h1 : fstB cl l = none := by
        cases hf : fstB cl l with
        | none => rfl
        | some i => rw [hf] at h0; cases h0
      have ih := fstB_none h1
      cases o with
      | none => exact ih (by simpa [thereB] using h)
      | some m =>
        have : l = m ∨ l ∈ thereB cl := by simpa [thereB] using h
        rcases this with rfl | h2
        · exact e rfl
        · exact ih h2
theorem fstB_some {l : List Int} : ∀ {cl : BaseL} {i : Nat}, fstB cl l = some i → atB cl i = some l ∧ l ∈ thereB cl ∧ thereB (cl.set i none) = (thereB cl).erase l
  | [], i, h => by cases h
  | o :: cl, i, h => by
    rw [fstB_cons] at h
    by_cases e : o = some l
    · rw [if_pos e] at h
      cases h
      subst e
      refine ⟨rfl, by simp [thereB], by simp [thereB]⟩
    · rw [if_neg e] at h
      cases hf : fstB cl l with
      | none => rw [hf] at h; cases h
      | some j =>
        rw [hf] at h
        cases h
        obtain ⟨h1, h2, h3⟩ := fstB_some hf
        refine ⟨h1, ?_, ?_⟩
        · cases o with
          | none => simpa [thereB] using h2
          | some m => exact List.mem_cons_of_mem _ h2
        · cases o with
          | none => simpa [thereB] using h3
          | some m =>
            have hne : m ≠ l := fun h => e (by rw [h])
            have e1 : thereB ((some m :: cl).set (j + 1) none) = m :: thereB (cl.set j none) := by simp [thereB]
            have e2 : thereB (some m :: cl) = m :: thereB cl := by simp [thereB]
            rw [e1, e2, h3, List.erase_cons_tail (by simpa using hne)]
end Go.Proofs.YtdmbfmgebgdfnaaDoor

namespace Go.Proofs.YtdmbfmgebgdfnaaDoor
open Go.RowKit Go.Sort

theorem addI {a b : Nat} (h : a + b < 9000000000000000000) : IntKind.wrap .i64 ((a : Int) + (b : Int)) = ((a + b : Nat) : Int) := by rw [wrap64 (by omega) (by omega)]; omega
theorem addLit {a : Nat} (k : Nat) (h : a + k < 9000000000000000000) {z : Int} (hz : z = (k : Int)) : IntKind.wrap .i64 ((a : Int) + z) = ((a + k : Nat) : Int) := by subst hz; exact addI h
theorem subI {a b : Nat} (h : b ≤ a) (h2 : a < 9000000000000000000) : IntKind.wrap .i64 ((a : Int) - (b : Int)) = ((a - b : Nat) : Int) := by rw [wrap64 (by omega) (by omega)]; omega
theorem predI {a : Nat} (h : 1 ≤ a) (h2 : a < 9000000000000000000) : IntKind.wrap .i64 ((a : Int) - 1) = ((a - 1 : Nat) : Int) := by rw [wrap64 (by omega) (by omega)]; omega
theorem sucI {n : Nat} (h : n < 9000000000000000000) : IntKind.wrap .i64 ((n : Int) + 1) = ((n + 1 : Nat) : Int) := by rw [wrap64 (by omega) (by omega)]; omega
theorem wrapN {n : Nat} (h : n < 9000000000000000000) : IntKind.wrap .i64 (n : Int) = (n : Int) := wrap64 (by omega) (by omega)
def ltO (ord : Int → Int → Int) (x y : Int) : Bool := decide (ord x y < 0)
/-- A function that compares. -/
def CmpOk (fuel f : Nat) (cps : List Pt) (ord : Int → Int → Int) (D : Nat) : Prop :=
  ∀ e, D ≤ e → ∀ (x y : Int) (h : AHeap), run fuel e f ([.int .i64 x, .int .i64 y] ++ cps.map .ptr) h = some (.int .i64 (ord x y), h)

section
variable {fuel f : Nat} {cps : List Pt} {ord : Int → Int → Int} {D : Nat} {h : AHeap} {id gen n : Nat} {c : Bool} {d : Array Int}

theorem own_size (ho : Own h 1 id gen n (intsC d.toList)) : d.size = n := by have := ho.len; simpa using this

theorem rdK (ho : Own h 1 id gen n (intsC d.toList)) {i : Nat} (hi : i < n) {β : Type} (K : Int → Option β) :
    ((h.addr 1 (.mk ⟨id, gen, 0⟩ n c) (i : Int)).bind fun p => (h.cell p).bind fun u => (AVal.int? .i64 u).bind K) = K d[i]! := by
  have hs := ho.cells c
  have hsz := own_size ho
  have hd : i < d.size := by omega
  rw [addr_at hs (by omega) (by simp [Sl.len]; omega), Option.bind_some, cell_at hs (v := .int .i64 d[i]!) (by omega) (by simp [hd]), Option.bind_some, int_int, Option.bind_some]

theorem swpK (ho : Own h 1 id gen n (intsC d.toList)) {i j : Nat} (hi : i < n) (hj : j < n) : ∃ h', Own h' 1 id gen n (intsC (swp d i j).toList) ∧ Keeps h h' (· = id) ∧ ∀ {β : Type} (K : AHeap → Option β),
    ((h.addr 1 (.mk ⟨id, gen, 0⟩ n c) (j : Int)).bind fun p => (h.cell p).bind fun u => (AVal.int? .i64 u).bind fun n3 =>
      (h.addr 1 (.mk ⟨id, gen, 0⟩ n c) (i : Int)).bind fun p => (h.cell p).bind fun u => (AVal.int? .i64 u).bind fun n6 =>
      (h.addr 1 (.mk ⟨id, gen, 0⟩ n c) (i : Int)).bind fun p => (h.storeAt [.int .i64 n3] p).bind fun h8 =>
      (h8.addr 1 (.mk ⟨id, gen, 0⟩ n c) (j : Int)).bind fun p => (h8.storeAt [.int .i64 n6] p).bind K) = K h' := by
  have hsz := own_size ho
  obtain ⟨a1, h1, e1, o1, k1, _⟩ := ho.intsStore (j := (i : Int)) (by omega) (by omega) c d[j]!
  obtain ⟨a2, h2, e2, o2, k2, _⟩ := o1.intsStore (j := (j : Int)) (by omega) (by omega) c d[i]!
  refine ⟨h2, ?_, k1.trans k2, fun K => ?_⟩
  · have : (swp d i j).toList = (d.toList.set i d[j]!).set j d[i]! := by simp [swp]
    rw [this]
    exact o2
  · rw [rdK ho hj, rdK ho hi, a1, Option.bind_some, e1, Option.bind_some, a2, Option.bind_some, e2, Option.bind_some]

theorem swp_size (d : Array Int) (i j : Nat) : (swp d i j).size = d.size := by simp [swp]

theorem dlt (x y : Int) : decide (ord x y < 0) = ltO ord x y := rfl

/-- What a function makes of a row. -/
def Srt (h h' : AHeap) (id gen n : Nat) (d : Array Int) : Prop := Own h' 1 id gen n (intsC d.toList) ∧ Keeps h h' (· = id)

/-! insertion sort -/
theorem ins_inner (hc : CmpOk fuel f cps ord D) {e : Nat} (he : D ≤ e) (hn : n < 1000000000000) (a b i : Nat) : ∀ (j m : Nat) (d : Array Int) (h : AHeap), j < m → j < n → Own h 1 id gen n (intsC d.toList) →
    ∃ h', l_slices_insertionSortCmpFunc_int_1 fuel e m [(0, .slice (.mk ⟨id, gen, 0⟩ n c)), (1, .int .i64 (a : Int)), (2, .int .i64 (b : Int)), (3, .func f cps), (8, .int .i64 (i : Int)), (9, .int .i64 (j : Int))] h =
      some (.exit 2, [(0, .slice (.mk ⟨id, gen, 0⟩ n c)), (1, .int .i64 (a : Int)), (2, .int .i64 (b : Int)), (3, .func f cps), (8, .int .i64 (i : Int))], h') ∧ Srt h h' id gen n (insInner (ltO ord) a j d) := by
  intro j
  induction j with
  | zero =>
    intro m d h hm hj ho
    obtain ⟨m, rfl⟩ : ∃ m', m = m' + 1 := ⟨m - 1, by omega⟩
    rw [l_slices_insertionSortCmpFunc_int_1_eq, bif_neg (by omega)]
    simp only [Option.bind_some, k_slices_insertionSortCmpFunc_int_2_n, cond_false]
    exact ⟨h, rfl, by simpa [insInner] using ho, Keeps.refl _ _⟩
  | succ j ih =>
    intro m d h hm hj ho
    obtain ⟨m, rfl⟩ : ∃ m', m = m' + 1 := ⟨m - 1, by omega⟩
    rw [l_slices_insertionSortCmpFunc_int_1_eq, predI (by omega) (by omega), Nat.add_sub_cancel]
    unfold insInner
    by_cases ha : a < j + 1
    · rw [bif_pos (by omega), rdK ho hj, rdK ho (by omega), hc _ he]
      simp only [Option.bind_some, int_int, dlt (ord := ord)]
      simp only [Option.bind_some, k_slices_insertionSortCmpFunc_int_2_n]
      cases hlt : ltO ord d[j + 1]! d[j]! with
      | true =>
        obtain ⟨h2, o2, k2, e2⟩ := swpK (c := c) ho (i := j + 1) (j := j) hj (by omega)
        rw [cond_true, predI (by omega) (by omega), Nat.add_sub_cancel, e2]
        obtain ⟨h', q1, q2, q3⟩ := ih m _ h2 (by omega) (by omega) o2
        refine ⟨h', q1, ?_, k2.trans q3⟩
        simpa [ha] using q2
      | false =>
        rw [cond_false]
        exact ⟨h, rfl, by simpa using ho, Keeps.refl _ _⟩
    · rw [bif_neg (by omega)]
      simp only [Option.bind_some, k_slices_insertionSortCmpFunc_int_2_n, cond_false]
      exact ⟨h, rfl, by simpa [ha] using ho, Keeps.refl _ _⟩

theorem ins_outer (hc : CmpOk fuel f cps ord D) {e : Nat} (he : D ≤ e) (hn : n < 1000000000000) (hf : n < fuel) (a b : Nat) (hb : b ≤ n) : ∀ (k i m : Nat) (d : Array Int) (h : AHeap), k < m → b - i = k → i < 2000000000000 → Own h 1 id gen n (intsC d.toList) →
    ∃ h', l_slices_insertionSortCmpFunc_int_0 fuel e m [(0, .slice (.mk ⟨id, gen, 0⟩ n c)), (1, .int .i64 (a : Int)), (2, .int .i64 (b : Int)), (3, .func f cps), (8, .int .i64 (i : Int))] h = some (.exit 0, [], h') ∧ Srt h h' id gen n (insOuter (ltO ord) a b i d) := by
  intro k
  induction k with
  | zero =>
    intro i m d h hm hk hi ho
    obtain ⟨m, rfl⟩ : ∃ m', m = m' + 1 := ⟨m - 1, by omega⟩
    rw [l_slices_insertionSortCmpFunc_int_0_eq, bif_neg (by omega)]
    refine ⟨h, rfl, ?_, Keeps.refl _ _⟩
    rw [insOuter, if_neg (by omega)]
    exact ho
  | succ k ih =>
    intro i m d h hm hk hi ho
    obtain ⟨m, rfl⟩ : ∃ m', m = m' + 1 := ⟨m - 1, by omega⟩
    obtain ⟨h1, e1, o1, k1⟩ := ins_inner (c := c) hc he hn a b i i fuel d h (by omega) (by omega) ho
    rw [l_slices_insertionSortCmpFunc_int_0_eq, bif_pos (by omega), e1, Option.bind_some]
    simp only [k_slices_insertionSortCmpFunc_int_1_x2]
    rw [sucI (by omega)]
    obtain ⟨h2, e2, o2, k2⟩ := ih (i + 1) m _ h1 (by omega) (by omega) (by omega) o1
    refine ⟨h2, e2, ?_, k1.trans k2⟩
    rw [insOuter, if_pos (by omega)]
    exact o2

theorem insertion_run (hc : CmpOk fuel f cps ord D) {e : Nat} (he : D ≤ e) (hn : n < 1000000000000) (hf : n < fuel) {a b : Nat} (ha : a ≤ n) (hb : b ≤ n) (ho : Own h 1 id gen n (intsC d.toList)) :
    ∃ h', run fuel (e + 1) F_slices_insertionSortCmpFunc_int [.slice (.mk ⟨id, gen, 0⟩ n c), .int .i64 (a : Int), .int .i64 (b : Int), .func f cps] h = some (.tup [], h') ∧ Srt h h' id gen n (insertionSort (ltO ord) d a b) := by
  obtain ⟨h1, e1, q⟩ := ins_outer (c := c) hc he hn hf a b hb (b - (a + 1)) (a + 1) fuel d h (by omega) rfl (by omega) ho
  refine ⟨h1, ?_, q⟩
  rw [e_slices_insertionSortCmpFunc_int, sucI (by omega), e1]
  simp only [Option.bind_some, k_slices_insertionSortCmpFunc_int_0_x0]

/-! heap sort -/
theorem sift_loop (hc : CmpOk fuel f cps ord D) {e : Nat} (he : D ≤ e) (hn : n < 1000000000000) (hi first : Nat) (hb : first + hi ≤ n) : ∀ (k root m : Nat) (d : Array Int) (h : AHeap), hi - root ≤ k → k < m → root < 1000000000000 → Own h 1 id gen n (intsC d.toList) →
    ∃ h' x, (l_slices_siftDownCmpFunc_int_0 fuel e m [(0, .slice (.mk ⟨id, gen, 0⟩ n c)), (2, .int .i64 (hi : Int)), (3, .int .i64 (first : Int)), (4, .func f cps), (10, .int .i64 (root : Int))] h) = some (x, [], h') ∧ (x = .exit 0 ∨ x = .ret) ∧ Srt h h' id gen n (siftDown (ltO ord) hi first root d) := by
  intro k
  induction k with
  | zero =>
    intro root m d h hk hm hr ho
    obtain ⟨m, rfl⟩ : ∃ m', m = m' + 1 := ⟨m - 1, by omega⟩
    have e2 : IntKind.wrap .i64 ((2 : Int) * (root : Int)) = ((2 * root : Nat) : Int) := by rw [wrap64 (by omega) (by omega)]; omega
    rw [l_slices_siftDownCmpFunc_int_0_eq, e2, sucI (by omega), bif_pos (by omega)]
    refine ⟨h, _, rfl, .inl rfl, ?_, Keeps.refl _ _⟩
    rw [siftDown, dif_pos (by omega)]
    exact ho
  | succ k ih =>
    intro root m d h hk hm hr ho
    obtain ⟨m, rfl⟩ : ∃ m', m = m' + 1 := ⟨m - 1, by omega⟩
    have e2 : IntKind.wrap .i64 ((2 : Int) * (root : Int)) = ((2 * root : Nat) : Int) := by rw [wrap64 (by omega) (by omega)]; omega
    rw [l_slices_siftDownCmpFunc_int_0_eq, e2, sucI (by omega)]
    by_cases hge : hi ≤ 2 * root + 1
    · rw [bif_pos (by omega)]
      refine ⟨h, _, rfl, .inl rfl, ?_, Keeps.refl _ _⟩
      rw [siftDown, dif_pos (by omega)]
      exact ho
    -- the second half, from the child chosen
    have step : ∀ ch, ch < hi → root < ch → (∀ (x11 : Nat), x11 = ch → ∃ h' x, k_slices_siftDownCmpFunc_int_2 fuel e m .normal [(0, .slice (.mk ⟨id, gen, 0⟩ n c)), (2, .int .i64 (hi : Int)), (3, .int .i64 (first : Int)), (4, .func f cps), (10, .int .i64 (root : Int)), (11, .int .i64 (x11 : Int))] h = some (x, [], h') ∧ (x = .exit 0 ∨ x = .ret) ∧
        Srt h h' id gen n (if !ltO ord d[first + root]! d[first + ch]! then d else siftDown (ltO ord) hi first ch (swp d (first + root) (first + ch)))) := by
      intro ch h1 h2 x11 hx
      subst hx
      rw [k_slices_siftDownCmpFunc_int_2_n, addI (by omega), addI (by omega), rdK ho (by omega), rdK ho (by omega), hc _ he]
      simp only [Option.bind_some, int_int, dlt (ord := ord)]
      cases hlt : ltO ord d[first + root]! d[first + x11]! with
      | false => exact ⟨h, _, rfl, .inr rfl, by simpa using ho, Keeps.refl _ _⟩
      | true =>
        obtain ⟨h3, o3, k3, e3⟩ := swpK (c := c) ho (i := first + root) (j := first + x11) (by omega) (by omega)
        simp only [Bool.not_true, cond_false, Bool.false_eq_true, if_false]
        rw [e3]
        obtain ⟨h', x, q1, q2, q3, q4⟩ := ih x11 m _ h3 (by omega) (by omega) (by omega) o3
        exact ⟨h', x, q1, q2, q3, k3.trans q4⟩
    rw [bif_neg (by omega), siftDown, dif_neg (by omega), sucI (by omega)]
    by_cases h1 : 2 * root + 1 + 1 < hi
    · rw [bif_pos (by omega), addI (by omega), sucI (by omega), rdK ho (by omega), rdK ho (by omega), hc _ he]
      simp only [Option.bind_some, int_int, dlt (ord := ord)]
      simp only [Option.bind_some, k_slices_siftDownCmpFunc_int_1_n]
      cases hlt : ltO ord d[first + (2 * root + 1)]! d[first + (2 * root + 1) + 1]! with
      | true =>
        simp only [cond_true, Option.bind_some, decide_eq_true h1, Bool.and_self, if_true]
        rw [sucI (by omega)]
        obtain ⟨h', x, q1, q2, q3⟩ := step (2 * root + 2) (by omega) (by omega) _ rfl
        refine ⟨h', x, q1, q2, ?_⟩
        rw [dif_pos (by omega)]
        exact q3
      | false =>
        simp only [cond_false, Option.bind_some, Bool.and_false, Bool.false_eq_true, if_false]
        exact step (2 * root + 1) (by omega) (by omega) _ rfl
    · rw [bif_neg (by omega)]
      simp only [Option.bind_some, k_slices_siftDownCmpFunc_int_1_n, cond_false, decide_eq_false h1, Bool.false_and, Bool.false_eq_true, if_false]
      exact step (2 * root + 1) (by omega) (by omega) _ rfl

theorem sift_run (hc : CmpOk fuel f cps ord D) {e : Nat} (he : D ≤ e) (hn : n < 1000000000000) (hf : n < fuel) {lo hi first : Nat} (hb : first + hi ≤ n) (hl : lo < 1000000000000) (ho : Own h 1 id gen n (intsC d.toList)) :
    ∃ h', run fuel (e + 1) F_slices_siftDownCmpFunc_int [.slice (.mk ⟨id, gen, 0⟩ n c), .int .i64 (lo : Int), .int .i64 (hi : Int), .int .i64 (first : Int), .func f cps] h = some (.tup [], h') ∧ Srt h h' id gen n (siftDown (ltO ord) hi first lo d) := by
  obtain ⟨h1, x, e1, hx, q⟩ := sift_loop (c := c) hc he hn hi first hb n lo fuel d h (by omega) (by omega) hl ho
  refine ⟨h1, ?_, q⟩
  rw [e_slices_siftDownCmpFunc_int, e1]
  rcases hx with rfl | rfl
  · simp only [Option.bind_some, k_slices_siftDownCmpFunc_int_0_x0]
  · simp only [Option.bind_some, k_slices_siftDownCmpFunc_int_0_r]

theorem heap_build (hc : CmpOk fuel f cps ord D) {e : Nat} (he : D ≤ e) (hn : n < 1000000000000) (hf : n < fuel) (hi first : Nat) (hb : first + hi ≤ n) (z : Int) (hz : z = 0) : ∀ (k m : Nat) (d : Array Int) (h : AHeap), k < m → k ≤ n → Own h 1 id gen n (intsC d.toList) →
    ∃ h', l_slices_heapSortCmpFunc_int_0 fuel (e + 1) m [(0, .slice (.mk ⟨id, gen, 0⟩ n c)), (3, .func f cps), (8, .int .i64 (first : Int)), (9, .int .i64 z), (10, .int .i64 (hi : Int)), (11, .int .i64 ((k : Int) - 1))] h =
      some (.exit 0, [(0, .slice (.mk ⟨id, gen, 0⟩ n c)), (3, .func f cps), (8, .int .i64 (first : Int)), (9, .int .i64 z), (10, .int .i64 (hi : Int))], h') ∧ Srt h h' id gen n (heapBuild (ltO ord) hi first k d) := by
  intro k
  induction k with
  | zero =>
    intro m d h hm hk ho
    obtain ⟨m, rfl⟩ : ∃ m', m = m' + 1 := ⟨m - 1, by omega⟩
    rw [l_slices_heapSortCmpFunc_int_0_eq, bif_neg (by omega)]
    exact ⟨h, rfl, ho, Keeps.refl _ _⟩
  | succ k ih =>
    intro m d h hm hk ho
    obtain ⟨m, rfl⟩ : ∃ m', m = m' + 1 := ⟨m - 1, by omega⟩
    obtain ⟨h1, e1, o1, k1⟩ := sift_run (c := c) hc he hn hf hb (lo := k) (by omega) ho
    have e2 : (((k + 1 : Nat) : Int) - 1) = (k : Int) := by omega
    rw [e2, l_slices_heapSortCmpFunc_int_0_eq, bif_pos (by omega), e1, Option.bind_some, wrap64 (by omega) (by omega)]
    obtain ⟨h2, q1, q2, q3⟩ := ih m _ h1 (by omega) (by omega) o1
    exact ⟨h2, q1, q2, k1.trans q3⟩

theorem heap_pop (hc : CmpOk fuel f cps ord D) {e : Nat} (he : D ≤ e) (hn : n < 1000000000000) (hf : n < fuel) (first : Nat) : ∀ (k m : Nat) (d : Array Int) (h : AHeap), k < m → first + k ≤ n → Own h 1 id gen n (intsC d.toList) →
    ∃ h', l_slices_heapSortCmpFunc_int_1 fuel (e + 1) m [(0, .slice (.mk ⟨id, gen, 0⟩ n c)), (3, .func f cps), (8, .int .i64 (first : Int)), (9, .int .i64 0), (12, .int .i64 ((k : Int) - 1))] h =
      some (.exit 2, [], h') ∧ Srt h h' id gen n (heapPop (ltO ord) first k d) := by
  intro k
  induction k with
  | zero =>
    intro m d h hm hk ho
    obtain ⟨m, rfl⟩ : ∃ m', m = m' + 1 := ⟨m - 1, by omega⟩
    rw [l_slices_heapSortCmpFunc_int_1_eq, bif_neg (by omega)]
    exact ⟨h, rfl, ho, Keeps.refl _ _⟩
  | succ k ih =>
    intro m d h hm hk ho
    obtain ⟨m, rfl⟩ : ∃ m', m = m' + 1 := ⟨m - 1, by omega⟩
    obtain ⟨h1, o1, k1, e1⟩ := swpK (c := c) ho (i := first) (j := first + k) (by omega) (by omega)
    have e2 : (((k + 1 : Nat) : Int) - 1) = (k : Int) := by omega
    obtain ⟨h2, e3, o2, k2⟩ := sift_run (c := c) hc he hn hf (lo := 0) (hi := k) (first := first) (by omega) (by omega) o1
    rw [e2, l_slices_heapSortCmpFunc_int_1_eq, bif_pos (by omega), addI (by omega), e1, show (0 : Int) = ((0 : Nat) : Int) from rfl, e3, Option.bind_some, wrap64 (n := (k : Int) - 1) (by omega) (by omega)]
    obtain ⟨h3, q1, q2, q3⟩ := ih m _ h2 (by omega) (by omega) o2
    exact ⟨h3, q1, q2, k1.trans (k2.trans q3)⟩

theorem heap_run (hc : CmpOk fuel f cps ord D) {e : Nat} (he : D ≤ e) (hn : n < 1000000000000) (hf : n + 1 < fuel) {a b : Nat} (ha : a ≤ b) (hb : b ≤ n) (hpos : 0 < b - a) (ho : Own h 1 id gen n (intsC d.toList)) :
    ∃ h', run fuel (e + 2) F_slices_heapSortCmpFunc_int [.slice (.mk ⟨id, gen, 0⟩ n c), .int .i64 (a : Int), .int .i64 (b : Int), .func f cps] h = some (.tup [], h') ∧ Srt h h' id gen n (heapSort (ltO ord) d a b) := by
  have hd : (Int.tdiv ((b - a - 1 : Nat) : Int) 2) = ((b - a - 1) / 2 : Nat) := by
    rw [Int.tdiv_eq_ediv_of_nonneg (by omega)]; omega
  obtain ⟨h1, e1, o1, k1⟩ := heap_build (c := c) hc he hn (by omega) (b - a) a (by omega) 0 rfl ((b - a - 1) / 2 + 1) fuel d h (by omega) (by omega) ho
  obtain ⟨h2, e2, o2, k2⟩ := heap_pop (c := c) hc he hn (by omega) a (b - a) fuel _ h1 (by omega) (by omega) o1
  have e3 : ((((b - a - 1) / 2 + 1 : Nat) : Int) - 1) = (((b - a - 1) / 2 : Nat) : Int) := by omega
  rw [e3] at e1
  refine ⟨h2, ?_, o2, k1.trans k2⟩
  rw [e_slices_heapSortCmpFunc_int, subI ha (by omega), predI (by omega) (by omega), hd, wrapN (by omega), e1, Option.bind_some]
  simp only [k_slices_heapSortCmpFunc_int_0_x0]
  rw [wrap64 (n := ((b - a : Nat) : Int) - 1) (by omega) (by omega), e2]
  simp only [Option.bind_some, k_slices_heapSortCmpFunc_int_1_x2]
end
end Go.Proofs.YtdmbfmgebgdfnaaDoor

namespace Go.Proofs.YtdmbfmgebgdfnaaDoor
open Go.RowKit Go.Sort
section
variable {fuel f : Nat} {cps : List Pt} {ord : Int → Int → Int} {D : Nat} {h : AHeap} {id gen n : Nat} {c : Bool} {d : Array Int}

theorem part_up0 (hc : CmpOk fuel f cps ord D) {e : Nat} (he : D ≤ e) (hn : n < 1000000000000) {a j : Nat} (ha : a < n) (hj : j < n) (ho : Own h 1 id gen n (intsC d.toList)) : ∀ (k i m : Nat), j + 1 - i ≤ k → k < m → i < 2000000000000 →
    l_slices_partitionCmpFunc_int_0 fuel e m [(0, .slice (.mk ⟨id, gen, 0⟩ n c)), (1, .int .i64 (a : Int)), (4, .func f cps), (12, .int .i64 (i : Int)), (13, .int .i64 (j : Int))] h = some (.exit 0, [(0, .slice (.mk ⟨id, gen, 0⟩ n c)), (1, .int .i64 (a : Int)), (4, .func f cps), (12, .int .i64 ((scanUp (fun x => ltO ord x d[a]!) d j i : Nat) : Int)), (13, .int .i64 (j : Int))], h) := by
  intro k
  induction k with
  | zero =>
    intro i m h1 h2 h3
    obtain ⟨m, rfl⟩ : ∃ m', m = m' + 1 := ⟨m - 1, by omega⟩
    rw [l_slices_partitionCmpFunc_int_0_eq, bif_neg (by omega)]
    simp only [Option.bind_some, k_slices_partitionCmpFunc_int_1_n, cond_false]
    rw [scanUp, decide_eq_false (show ¬ i ≤ j by omega)]
    rfl
  | succ k ih =>
    intro i m h1 h2 h3
    obtain ⟨m, rfl⟩ : ∃ m', m = m' + 1 := ⟨m - 1, by omega⟩
    rw [l_slices_partitionCmpFunc_int_0_eq, scanUp]
    by_cases hij : i ≤ j
    · rw [bif_pos (by omega), rdK ho (by omega), rdK ho ha, hc _ he]
      simp only [Option.bind_some, int_int, dlt (ord := ord), k_slices_partitionCmpFunc_int_1_n, decide_eq_true hij, Bool.true_and]
      cases hlt : ltO ord d[i]! d[a]! with
      | true =>
        simp only [cond_true, if_true, hlt]
        rw [sucI (by omega)]
        exact ih (i + 1) m (by omega) (by omega) (by omega)
      | false => simp only [cond_false, Bool.false_eq_true, if_false, hlt]
    · rw [bif_neg (by omega)]
      simp only [Option.bind_some, k_slices_partitionCmpFunc_int_1_n, cond_false, decide_eq_false hij, Bool.false_and, Bool.false_eq_true, if_false]

theorem part_dn1 (hc : CmpOk fuel f cps ord D) {e : Nat} (he : D ≤ e) (hn : n < 1000000000000) {a i : Nat} (ha : a < n) (hi : 1 ≤ i) (ho : Own h 1 id gen n (intsC d.toList)) : ∀ (j m : Nat), j < m → j < n →
    l_slices_partitionCmpFunc_int_1 fuel e m [(0, .slice (.mk ⟨id, gen, 0⟩ n c)), (1, .int .i64 (a : Int)), (4, .func f cps), (12, .int .i64 (i : Int)), (13, .int .i64 (j : Int))] h = some (.exit 2, [(0, .slice (.mk ⟨id, gen, 0⟩ n c)), (1, .int .i64 (a : Int)), (4, .func f cps), (12, .int .i64 (i : Int)), (13, .int .i64 ((scanDown (fun x => !ltO ord x d[a]!) d i j : Nat) : Int))], h) := by
  intro j
  induction j with
  | zero =>
    intro m h1 h2
    obtain ⟨m, rfl⟩ : ∃ m', m = m' + 1 := ⟨m - 1, by omega⟩
    rw [l_slices_partitionCmpFunc_int_1_eq, bif_neg (by omega)]
    simp only [Option.bind_some, k_slices_partitionCmpFunc_int_3_n, cond_false, scanDown]
  | succ j ih =>
    intro m h1 h2
    obtain ⟨m, rfl⟩ : ∃ m', m = m' + 1 := ⟨m - 1, by omega⟩
    rw [l_slices_partitionCmpFunc_int_1_eq, scanDown]
    by_cases hij : i ≤ j + 1
    · rw [bif_pos (by omega), rdK ho h2, rdK ho ha, hc _ he]
      simp only [Option.bind_some, int_int, dlt (ord := ord), k_slices_partitionCmpFunc_int_3_n, decide_eq_true hij, Bool.true_and]
      cases hlt : !ltO ord d[j + 1]! d[a]! with
      | true =>
        simp only [cond_true, if_true, hlt]
        rw [predI (by omega) (by omega), Nat.add_sub_cancel]
        exact ih m (by omega) (by omega)
      | false => simp only [cond_false, Bool.false_eq_true, if_false, hlt]
    · rw [bif_neg (by omega)]
      simp only [Option.bind_some, k_slices_partitionCmpFunc_int_3_n, cond_false, decide_eq_false hij, Bool.false_and, Bool.false_eq_true, if_false]

theorem part_up3 (hc : CmpOk fuel f cps ord D) {e : Nat} (he : D ≤ e) (hn : n < 1000000000000) {a j : Nat} (ha : a < n) (hj : j < n) (ho : Own h 1 id gen n (intsC d.toList)) : ∀ (k i m : Nat), j + 1 - i ≤ k → k < m → i < 2000000000000 →
    l_slices_partitionCmpFunc_int_3 fuel e m [(0, .slice (.mk ⟨id, gen, 0⟩ n c)), (1, .int .i64 (a : Int)), (4, .func f cps), (12, .int .i64 (i : Int)), (13, .int .i64 (j : Int))] h = some (.exit 6, [(0, .slice (.mk ⟨id, gen, 0⟩ n c)), (1, .int .i64 (a : Int)), (4, .func f cps), (12, .int .i64 ((scanUp (fun x => ltO ord x d[a]!) d j i : Nat) : Int)), (13, .int .i64 (j : Int))], h) := by
  intro k
  induction k with
  | zero =>
    intro i m h1 h2 h3
    obtain ⟨m, rfl⟩ : ∃ m', m = m' + 1 := ⟨m - 1, by omega⟩
    rw [l_slices_partitionCmpFunc_int_3_eq, bif_neg (by omega)]
    simp only [Option.bind_some, k_slices_partitionCmpFunc_int_6_n, cond_false]
    rw [scanUp, decide_eq_false (show ¬ i ≤ j by omega)]
    rfl
  | succ k ih =>
    intro i m h1 h2 h3
    obtain ⟨m, rfl⟩ : ∃ m', m = m' + 1 := ⟨m - 1, by omega⟩
    rw [l_slices_partitionCmpFunc_int_3_eq, scanUp]
    by_cases hij : i ≤ j
    · rw [bif_pos (by omega), rdK ho (by omega), rdK ho ha, hc _ he]
      simp only [Option.bind_some, int_int, dlt (ord := ord), k_slices_partitionCmpFunc_int_6_n, decide_eq_true hij, Bool.true_and]
      cases hlt : ltO ord d[i]! d[a]! with
      | true =>
        simp only [cond_true, if_true, hlt]
        rw [sucI (by omega)]
        exact ih (i + 1) m (by omega) (by omega) (by omega)
      | false => simp only [cond_false, Bool.false_eq_true, if_false, hlt]
    · rw [bif_neg (by omega)]
      simp only [Option.bind_some, k_slices_partitionCmpFunc_int_6_n, cond_false, decide_eq_false hij, Bool.false_and, Bool.false_eq_true, if_false]

theorem part_dn4 (hc : CmpOk fuel f cps ord D) {e : Nat} (he : D ≤ e) (hn : n < 1000000000000) {a i : Nat} (ha : a < n) (hi : 1 ≤ i) (ho : Own h 1 id gen n (intsC d.toList)) : ∀ (j m : Nat), j < m → j < n →
    l_slices_partitionCmpFunc_int_4 fuel e m [(0, .slice (.mk ⟨id, gen, 0⟩ n c)), (1, .int .i64 (a : Int)), (4, .func f cps), (12, .int .i64 (i : Int)), (13, .int .i64 (j : Int))] h = some (.exit 8, [(0, .slice (.mk ⟨id, gen, 0⟩ n c)), (1, .int .i64 (a : Int)), (4, .func f cps), (12, .int .i64 (i : Int)), (13, .int .i64 ((scanDown (fun x => !ltO ord x d[a]!) d i j : Nat) : Int))], h) := by
  intro j
  induction j with
  | zero =>
    intro m h1 h2
    obtain ⟨m, rfl⟩ : ∃ m', m = m' + 1 := ⟨m - 1, by omega⟩
    rw [l_slices_partitionCmpFunc_int_4_eq, bif_neg (by omega)]
    simp only [Option.bind_some, k_slices_partitionCmpFunc_int_8_n, cond_false, scanDown]
  | succ j ih =>
    intro m h1 h2
    obtain ⟨m, rfl⟩ : ∃ m', m = m' + 1 := ⟨m - 1, by omega⟩
    rw [l_slices_partitionCmpFunc_int_4_eq, scanDown]
    by_cases hij : i ≤ j + 1
    · rw [bif_pos (by omega), rdK ho h2, rdK ho ha, hc _ he]
      simp only [Option.bind_some, int_int, dlt (ord := ord), k_slices_partitionCmpFunc_int_8_n, decide_eq_true hij, Bool.true_and]
      cases hlt : !ltO ord d[j + 1]! d[a]! with
      | true =>
        simp only [cond_true, if_true, hlt]
        rw [predI (by omega) (by omega), Nat.add_sub_cancel]
        exact ih m (by omega) (by omega)
      | false => simp only [cond_false, Bool.false_eq_true, if_false, hlt]
    · rw [bif_neg (by omega)]
      simp only [Option.bind_some, k_slices_partitionCmpFunc_int_8_n, cond_false, decide_eq_false hij, Bool.false_and, Bool.false_eq_true, if_false]

theorem peq_up1 (hc : CmpOk fuel f cps ord D) {e : Nat} (he : D ≤ e) (hn : n < 1000000000000) {a j : Nat} (ha : a < n) (hj : j < n) (ho : Own h 1 id gen n (intsC d.toList)) : ∀ (k i m : Nat), j + 1 - i ≤ k → k < m → i < 2000000000000 →
    l_slices_partitionEqualCmpFunc_int_1 fuel e m [(0, .slice (.mk ⟨id, gen, 0⟩ n c)), (1, .int .i64 (a : Int)), (4, .func f cps), (11, .int .i64 (i : Int)), (12, .int .i64 (j : Int))] h = some (.exit 2, [(0, .slice (.mk ⟨id, gen, 0⟩ n c)), (1, .int .i64 (a : Int)), (4, .func f cps), (11, .int .i64 ((scanUp (fun x => !ltO ord d[a]! x) d j i : Nat) : Int)), (12, .int .i64 (j : Int))], h) := by
  intro k
  induction k with
  | zero =>
    intro i m h1 h2 h3
    obtain ⟨m, rfl⟩ : ∃ m', m = m' + 1 := ⟨m - 1, by omega⟩
    rw [l_slices_partitionEqualCmpFunc_int_1_eq, bif_neg (by omega)]
    simp only [Option.bind_some, k_slices_partitionEqualCmpFunc_int_2_n, cond_false]
    rw [scanUp, decide_eq_false (show ¬ i ≤ j by omega)]
    rfl
  | succ k ih =>
    intro i m h1 h2 h3
    obtain ⟨m, rfl⟩ : ∃ m', m = m' + 1 := ⟨m - 1, by omega⟩
    rw [l_slices_partitionEqualCmpFunc_int_1_eq, scanUp]
    by_cases hij : i ≤ j
    · rw [bif_pos (by omega), rdK ho ha, rdK ho (by omega), hc _ he]
      simp only [Option.bind_some, int_int, dlt (ord := ord), k_slices_partitionEqualCmpFunc_int_2_n, decide_eq_true hij, Bool.true_and]
      cases hlt : !ltO ord d[a]! d[i]! with
      | true =>
        simp only [cond_true, if_true, hlt]
        rw [sucI (by omega)]
        exact ih (i + 1) m (by omega) (by omega) (by omega)
      | false => simp only [cond_false, Bool.false_eq_true, if_false, hlt]
    · rw [bif_neg (by omega)]
      simp only [Option.bind_some, k_slices_partitionEqualCmpFunc_int_2_n, cond_false, decide_eq_false hij, Bool.false_and, Bool.false_eq_true, if_false]

theorem peq_dn2 (hc : CmpOk fuel f cps ord D) {e : Nat} (he : D ≤ e) (hn : n < 1000000000000) {a i : Nat} (ha : a < n) (hi : 1 ≤ i) (ho : Own h 1 id gen n (intsC d.toList)) : ∀ (j m : Nat), j < m → j < n →
    l_slices_partitionEqualCmpFunc_int_2 fuel e m [(0, .slice (.mk ⟨id, gen, 0⟩ n c)), (1, .int .i64 (a : Int)), (4, .func f cps), (11, .int .i64 (i : Int)), (12, .int .i64 (j : Int))] h = some (.exit 4, [(0, .slice (.mk ⟨id, gen, 0⟩ n c)), (1, .int .i64 (a : Int)), (4, .func f cps), (11, .int .i64 (i : Int)), (12, .int .i64 ((scanDown (fun x => ltO ord d[a]! x) d i j : Nat) : Int))], h) := by
  intro j
  induction j with
  | zero =>
    intro m h1 h2
    obtain ⟨m, rfl⟩ : ∃ m', m = m' + 1 := ⟨m - 1, by omega⟩
    rw [l_slices_partitionEqualCmpFunc_int_2_eq, bif_neg (by omega)]
    simp only [Option.bind_some, k_slices_partitionEqualCmpFunc_int_4_n, cond_false, scanDown]
  | succ j ih =>
    intro m h1 h2
    obtain ⟨m, rfl⟩ : ∃ m', m = m' + 1 := ⟨m - 1, by omega⟩
    rw [l_slices_partitionEqualCmpFunc_int_2_eq, scanDown]
    by_cases hij : i ≤ j + 1
    · rw [bif_pos (by omega), rdK ho ha, rdK ho h2, hc _ he]
      simp only [Option.bind_some, int_int, dlt (ord := ord), k_slices_partitionEqualCmpFunc_int_4_n, decide_eq_true hij, Bool.true_and]
      cases hlt : ltO ord d[a]! d[j + 1]! with
      | true =>
        simp only [cond_true, if_true, hlt]
        rw [predI (by omega) (by omega), Nat.add_sub_cancel]
        exact ih m (by omega) (by omega)
      | false => simp only [cond_false, Bool.false_eq_true, if_false, hlt]
    · rw [bif_neg (by omega)]
      simp only [Option.bind_some, k_slices_partitionEqualCmpFunc_int_4_n, cond_false, decide_eq_false hij, Bool.false_and, Bool.false_eq_true, if_false]

/-! partitionEqual -/
theorem peq_loop (hc : CmpOk fuel f cps ord D) {e : Nat} (he : D ≤ e) (hn : n < 1000000000000) (hf : n + 2 < fuel) {a : Nat} (ha : a < n) : ∀ (k i j m : Nat) (d : Array Int) (h : AHeap), j + 1 - i ≤ k → k < m → 1 ≤ i → i < 2000000000000 → j < n → Own h 1 id gen n (intsC d.toList) →
    ∃ h', l_slices_partitionEqualCmpFunc_int_0 fuel e m [(0, .slice (.mk ⟨id, gen, 0⟩ n c)), (1, .int .i64 (a : Int)), (4, .func f cps), (11, .int .i64 (i : Int)), (12, .int .i64 (j : Int))] h = some (.exit 0, [(11, .int .i64 ((partEqLoop (ltO ord) a i j d).1 : Nat))], h') ∧ Srt h h' id gen n (partEqLoop (ltO ord) a i j d).2 := by
  intro k
  induction k with
  | zero =>
    intro i j m d h h1 h2 h3 h4 h5 ho
    obtain ⟨m, rfl⟩ : ∃ m', m = m' + 1 := ⟨m - 1, by omega⟩
    have e1 := peq_up1 (c := c) (j := j) hc he hn ha h5 ho n i fuel (by omega) (by omega) h4
    have g1 := scanUp_ge (fun x => !ltO ord d[a]! x) d j i
    have g3 := (scanUp_spec (fun x => !ltO ord d[a]! x) d j _ i rfl)
    rw [partEqLoop_eq]
    generalize hi2 : scanUp (fun x => !ltO ord d[a]! x) d j i = i2 at *
    have e2 := peq_dn2 (c := c) (i := i2) hc he hn ha (by omega) ho j fuel (by omega) h5
    have g2 := scanDown_le (fun x => ltO ord d[a]! x) d i2 j
    generalize hj2 : scanDown (fun x => ltO ord d[a]! x) d i2 j = j2 at *
    rw [l_slices_partitionEqualCmpFunc_int_0_eq, e1]
    simp only [Option.bind_some, k_slices_partitionEqualCmpFunc_int_1_x2, e2, k_slices_partitionEqualCmpFunc_int_3_x4]
    rw [bif_pos (by omega), if_pos (by omega)]
    exact ⟨h, rfl, ho, Keeps.refl _ _⟩
  | succ k ih =>
    intro i j m d h h1 h2 h3 h4 h5 ho
    obtain ⟨m, rfl⟩ : ∃ m', m = m' + 1 := ⟨m - 1, by omega⟩
    have e1 := peq_up1 (c := c) (j := j) hc he hn ha h5 ho n i fuel (by omega) (by omega) h4
    have g1 := scanUp_ge (fun x => !ltO ord d[a]! x) d j i
    rw [partEqLoop_eq]
    generalize hi2 : scanUp (fun x => !ltO ord d[a]! x) d j i = i2 at *
    have e2 := peq_dn2 (c := c) (i := i2) hc he hn ha (by omega) ho j fuel (by omega) h5
    have g2 := scanDown_le (fun x => ltO ord d[a]! x) d i2 j
    generalize hj2 : scanDown (fun x => ltO ord d[a]! x) d i2 j = j2 at *
    rw [l_slices_partitionEqualCmpFunc_int_0_eq, e1]
    simp only [Option.bind_some, k_slices_partitionEqualCmpFunc_int_1_x2, e2, k_slices_partitionEqualCmpFunc_int_3_x4]
    by_cases hgt : j2 < i2
    · rw [bif_pos (by omega), if_pos (by omega)]
      exact ⟨h, rfl, ho, Keeps.refl _ _⟩
    · rw [bif_neg (by omega), if_neg (by omega)]
      obtain ⟨h3', o3, k3, e3⟩ := swpK (c := c) ho (i := i2) (j := j2) (by omega) (by omega)
      rw [e3, sucI (by omega), predI (by omega) (by omega)]
      obtain ⟨h', q1, q2, q3⟩ := ih (i2 + 1) (j2 - 1) m _ h3' (by omega) (by omega) (by omega) (by omega) (by omega) o3
      exact ⟨h', q1, q2, k3.trans q3⟩

theorem peq_run (hc : CmpOk fuel f cps ord D) {e : Nat} (he : D ≤ e) (hn : n < 1000000000000) (hf : n + 2 < fuel) {a b pv : Nat} (ha : a < b) (hb : b ≤ n) (hp : pv < n) (ho : Own h 1 id gen n (intsC d.toList)) :
    ∃ h', run fuel (e + 1) F_slices_partitionEqualCmpFunc_int [.slice (.mk ⟨id, gen, 0⟩ n c), .int .i64 (a : Int), .int .i64 (b : Int), .int .i64 (pv : Int), .func f cps] h = some (.int .i64 ((partitionEqual (ltO ord) d a b pv).1 : Nat), h') ∧ Srt h h' id gen n (partitionEqual (ltO ord) d a b pv).2 := by
  obtain ⟨h1, o1, k1, e1⟩ := swpK (c := c) ho (i := a) (j := pv) (by omega) (by omega)
  obtain ⟨h2, e2, o2, k2⟩ := peq_loop (c := c) (a := a) hc he hn hf (by omega) n (a + 1) (b - 1) fuel _ h1 (by omega) (by omega) (by omega) (by omega) (by omega) o1
  refine ⟨h2, ?_, o2, k1.trans k2⟩
  rw [e_slices_partitionEqualCmpFunc_int, e1, sucI (by omega), predI (by omega) (by omega), e2]
  simp only [Option.bind_some, k_slices_partitionEqualCmpFunc_int_0_x0]
  rfl

/-! partition -/
theorem part_loop (hc : CmpOk fuel f cps ord D) {e : Nat} (he : D ≤ e) (hn : n < 1000000000000) (hf : n + 2 < fuel) {a : Nat} (ha : a < n) : ∀ (k i j m : Nat) (d : Array Int) (h : AHeap), j + 1 - i ≤ k → k < m → 1 ≤ i → i < 2000000000000 → j < n → Own h 1 id gen n (intsC d.toList) →
    ∃ h', l_slices_partitionCmpFunc_int_2 fuel e m [(0, .slice (.mk ⟨id, gen, 0⟩ n c)), (1, .int .i64 (a : Int)), (4, .func f cps), (12, .int .i64 (i : Int)), (13, .int .i64 (j : Int))] h = some (.exit 4, [(0, .slice (.mk ⟨id, gen, 0⟩ n c)), (1, .int .i64 (a : Int)), (13, .int .i64 ((partLoop (ltO ord) a i j d).1 : Nat))], h') ∧ Srt h h' id gen n (partLoop (ltO ord) a i j d).2 := by
  intro k
  induction k with
  | zero =>
    intro i j m d h h1 h2 h3 h4 h5 ho
    obtain ⟨m, rfl⟩ : ∃ m', m = m' + 1 := ⟨m - 1, by omega⟩
    have e1 := part_up3 (c := c) (j := j) hc he hn ha h5 ho n i fuel (by omega) (by omega) h4
    have g1 := scanUp_ge (fun x => ltO ord x d[a]!) d j i
    rw [partLoop_eq]
    generalize hi2 : scanUp (fun x => ltO ord x d[a]!) d j i = i2 at *
    have e2 := part_dn4 (c := c) (i := i2) hc he hn ha (by omega) ho j fuel (by omega) h5
    have g2 := scanDown_le (fun x => !ltO ord x d[a]!) d i2 j
    generalize hj2 : scanDown (fun x => !ltO ord x d[a]!) d i2 j = j2 at *
    rw [l_slices_partitionCmpFunc_int_2_eq, e1]
    simp only [Option.bind_some, k_slices_partitionCmpFunc_int_5_x6, e2, k_slices_partitionCmpFunc_int_7_x8]
    rw [bif_pos (by omega), if_pos (by omega)]
    exact ⟨h, rfl, ho, Keeps.refl _ _⟩
  | succ k ih =>
    intro i j m d h h1 h2 h3 h4 h5 ho
    obtain ⟨m, rfl⟩ : ∃ m', m = m' + 1 := ⟨m - 1, by omega⟩
    have e1 := part_up3 (c := c) (j := j) hc he hn ha h5 ho n i fuel (by omega) (by omega) h4
    have g1 := scanUp_ge (fun x => ltO ord x d[a]!) d j i
    rw [partLoop_eq]
    generalize hi2 : scanUp (fun x => ltO ord x d[a]!) d j i = i2 at *
    have e2 := part_dn4 (c := c) (i := i2) hc he hn ha (by omega) ho j fuel (by omega) h5
    have g2 := scanDown_le (fun x => !ltO ord x d[a]!) d i2 j
    generalize hj2 : scanDown (fun x => !ltO ord x d[a]!) d i2 j = j2 at *
    rw [l_slices_partitionCmpFunc_int_2_eq, e1]
    simp only [Option.bind_some, k_slices_partitionCmpFunc_int_5_x6, e2, k_slices_partitionCmpFunc_int_7_x8]
    by_cases hgt : j2 < i2
    · rw [bif_pos (by omega), if_pos (by omega)]
      exact ⟨h, rfl, ho, Keeps.refl _ _⟩
    · rw [bif_neg (by omega), if_neg (by omega)]
      obtain ⟨h3', o3, k3, e3⟩ := swpK (c := c) ho (i := i2) (j := j2) (by omega) (by omega)
      rw [e3, sucI (by omega), predI (by omega) (by omega)]
      obtain ⟨h', q1, q2, q3⟩ := ih (i2 + 1) (j2 - 1) m _ h3' (by omega) (by omega) (by omega) (by omega) (by omega) o3
      exact ⟨h', q1, q2, k3.trans q3⟩

theorem partLoop_lt (lt : Int → Int → Bool) (a : Nat) : ∀ (k i j : Nat) (d : Array Int), j + 1 - i ≤ k → (partLoop lt a i j d).1 ≤ j := by
  intro k
  induction k with
  | zero =>
    intro i j d h
    have g1 := scanUp_ge (fun x => lt x d[a]!) d j i
    have g2 := scanDown_le (fun x => !lt x d[a]!) d (scanUp (fun x => lt x d[a]!) d j i) j
    rw [partLoop_eq, if_pos (by omega)]
    exact g2
  | succ k ih =>
    intro i j d h
    have g1 := scanUp_ge (fun x => lt x d[a]!) d j i
    have g2 := scanDown_le (fun x => !lt x d[a]!) d (scanUp (fun x => lt x d[a]!) d j i) j
    rw [partLoop_eq]
    split
    · exact g2
    · have := ih (scanUp (fun x => lt x d[a]!) d j i + 1) (scanDown (fun x => !lt x d[a]!) d (scanUp (fun x => lt x d[a]!) d j i) j - 1) (swp d (scanUp (fun x => lt x d[a]!) d j i) (scanDown (fun x => !lt x d[a]!) d (scanUp (fun x => lt x d[a]!) d j i) j)) (by omega)
      omega

theorem part_run (hc : CmpOk fuel f cps ord D) {e : Nat} (he : D ≤ e) (hn : n < 1000000000000) (hf : n + 2 < fuel) {a b pv : Nat} (ha : a < b) (hb : b ≤ n) (hp : pv < n) (ho : Own h 1 id gen n (intsC d.toList)) :
    ∃ h', run fuel (e + 1) F_slices_partitionCmpFunc_int [.slice (.mk ⟨id, gen, 0⟩ n c), .int .i64 (a : Int), .int .i64 (b : Int), .int .i64 (pv : Int), .func f cps] h = some (.tup [.int .i64 ((Sort.partition (ltO ord) d a b pv).1 : Nat), .bool (Sort.partition (ltO ord) d a b pv).2.1], h') ∧ Srt h h' id gen n (Sort.partition (ltO ord) d a b pv).2.2 := by
  obtain ⟨h1, o1, k1, e1⟩ := swpK (c := c) ho (i := a) (j := pv) (by omega) (by omega)
  have e2 := part_up0 (c := c) (a := a) (j := b - 1) hc he hn (by omega) (by omega) o1 n (a + 1) fuel (by omega) (by omega) (by omega)
  have g1 := scanUp_ge (fun x => ltO ord x (swp d a pv)[a]!) (swp d a pv) (b - 1) (a + 1)
  unfold Sort.partition
  simp only
  generalize hi2 : scanUp (fun x => ltO ord x (swp d a pv)[a]!) (swp d a pv) (b - 1) (a + 1) = i2 at *
  have e3 := part_dn1 (c := c) (a := a) (i := i2) hc he hn (by omega) (by omega) o1 (b - 1) fuel (by omega) (by omega)
  have g2 := scanDown_le (fun x => !ltO ord x (swp d a pv)[a]!) (swp d a pv) i2 (b - 1)
  generalize hj2 : scanDown (fun x => !ltO ord x (swp d a pv)[a]!) (swp d a pv) i2 (b - 1) = j2 at *
  rw [e_slices_partitionCmpFunc_int, e1, sucI (by omega), predI (by omega) (by omega), e2]
  simp only [Option.bind_some, k_slices_partitionCmpFunc_int_0_x0, e3, k_slices_partitionCmpFunc_int_2_x2]
  by_cases hgt : j2 < i2
  · rw [bif_pos (by omega), if_pos (by omega)]
    obtain ⟨h3, o3, k3, e4⟩ := swpK (c := c) o1 (i := j2) (j := a) (by omega) (by omega)
    rw [e4]
    exact ⟨h3, rfl, o3, k1.trans k3⟩
  · rw [bif_neg (by omega), if_neg (by omega)]
    obtain ⟨h3, o3, k3, e4⟩ := swpK (c := c) o1 (i := i2) (j := j2) (by omega) (by omega)
    rw [e4, sucI (by omega), predI (by omega) (by omega)]
    obtain ⟨h4, e5, o4, k4⟩ := part_loop (c := c) (a := a) hc he hn hf (by omega) n (i2 + 1) (j2 - 1) fuel _ h3 (by omega) (by omega) (by omega) (by omega) (by omega) o3
    have g3 := partLoop_lt (ltO ord) a n (i2 + 1) (j2 - 1) (swp (swp d a pv) i2 j2) (by omega)
    rw [e5]
    simp only [Option.bind_some, k_slices_partitionCmpFunc_int_4_x4]
    obtain ⟨h5, o5, k5, e6⟩ := swpK (c := c) o4 (i := (partLoop (ltO ord) a (i2 + 1) (j2 - 1) (swp (swp d a pv) i2 j2)).1) (j := a) (by omega) (by omega)
    rw [e6]
    exact ⟨h5, rfl, o5, k1.trans (k3.trans (k4.trans k5))⟩
end
end Go.Proofs.YtdmbfmgebgdfnaaDoor

namespace Go.Proofs.YtdmbfmgebgdfnaaDoor
open Go.RowKit Go.Sort
section
variable {fuel f : Nat} {cps : List Pt} {ord : Int → Int → Int} {D : Nat} {h : AHeap} {id gen n : Nat} {c : Bool} {d : Array Int}

/-! reverseRange -/
theorem rev_loop (e : Nat) (hn : n < 1000000000000) : ∀ (k i j m : Nat) (d : Array Int) (h : AHeap), j - i ≤ k → k < m → i < 2000000000000 → j < n → Own h 1 id gen n (intsC d.toList) →
    ∃ h', l_slices_reverseRangeCmpFunc_int_0 fuel e m [(0, .slice (.mk ⟨id, gen, 0⟩ n c)), (8, .int .i64 (i : Int)), (9, .int .i64 (j : Int))] h = some (.exit 0, [], h') ∧ Srt h h' id gen n (reverseLoop i j d) := by
  intro k
  induction k with
  | zero =>
    intro i j m d h h1 h2 h3 h4 ho
    obtain ⟨m, rfl⟩ : ∃ m', m = m' + 1 := ⟨m - 1, by omega⟩
    rw [l_slices_reverseRangeCmpFunc_int_0_eq, bif_neg (by omega), reverseLoop, if_neg (by omega)]
    exact ⟨h, rfl, ho, Keeps.refl _ _⟩
  | succ k ih =>
    intro i j m d h h1 h2 h3 h4 ho
    obtain ⟨m, rfl⟩ : ∃ m', m = m' + 1 := ⟨m - 1, by omega⟩
    rw [l_slices_reverseRangeCmpFunc_int_0_eq, reverseLoop]
    by_cases hij : i < j
    · obtain ⟨h2', o2, k2, e2⟩ := swpK (c := c) ho (i := i) (j := j) (by omega) (by omega)
      rw [bif_pos (by omega), if_pos hij, e2, sucI (by omega), predI (by omega) (by omega)]
      obtain ⟨h', q1, q2, q3⟩ := ih (i + 1) (j - 1) m _ h2' (by omega) (by omega) (by omega) (by omega) o2
      exact ⟨h', q1, q2, k2.trans q3⟩
    · rw [bif_neg (by omega), if_neg hij]
      exact ⟨h, rfl, ho, Keeps.refl _ _⟩
theorem rev_run (e : Nat) (hn : n < 1000000000000) (hf : n < fuel) {a b : Nat} (ha : a < b) (hb : b ≤ n) (ho : Own h 1 id gen n (intsC d.toList)) :
    ∃ h', run fuel (e + 1) F_slices_reverseRangeCmpFunc_int [.slice (.mk ⟨id, gen, 0⟩ n c), .int .i64 (a : Int), .int .i64 (b : Int), .func f cps] h = some (.tup [], h') ∧ Srt h h' id gen n (reverseRange d a b) := by
  obtain ⟨h1, e1, q⟩ := rev_loop (c := c) (fuel := fuel) e hn n a (b - 1) fuel d h (by omega) (by omega) (by omega) (by omega) ho
  refine ⟨h1, ?_, q⟩
  rw [e_slices_reverseRangeCmpFunc_int, predI (by omega) (by omega), e1]
  simp only [Option.bind_some, k_slices_reverseRangeCmpFunc_int_0_x0]

/-! the partial insertion sort -/
theorem pis_scan (hc : CmpOk fuel f cps ord D) {e : Nat} (he : D ≤ e) (hn : n < 1000000000000) {a b : Nat} (hb : b ≤ n) (x10 : Int) (ho : Own h 1 id gen n (intsC d.toList)) : ∀ (k i m : Nat), b - i ≤ k → k < m → 1 ≤ i → i ≤ n →
    l_slices_partialInsertionSortCmpFunc_int_1 fuel e m [(0, .slice (.mk ⟨id, gen, 0⟩ n c)), (1, .int .i64 (a : Int)), (2, .int .i64 (b : Int)), (3, .func f cps), (9, .int .i64 (i : Int)), (10, .int .i64 x10)] h = some (.exit 2, [(0, .slice (.mk ⟨id, gen, 0⟩ n c)), (1, .int .i64 (a : Int)), (2, .int .i64 (b : Int)), (3, .func f cps), (9, .int .i64 ((scanSorted (ltO ord) d b i : Nat) : Int)), (10, .int .i64 x10)], h) := by
  intro k
  induction k with
  | zero =>
    intro i m h1 h2 h3 h4
    obtain ⟨m, rfl⟩ : ∃ m', m = m' + 1 := ⟨m - 1, by omega⟩
    rw [l_slices_partialInsertionSortCmpFunc_int_1_eq, bif_neg (by omega)]
    simp only [Option.bind_some, k_slices_partialInsertionSortCmpFunc_int_2_n, cond_false]
    rw [scanSorted, decide_eq_false (show ¬ i < b by omega)]
    rfl
  | succ k ih =>
    intro i m h1 h2 h3 h4
    obtain ⟨m, rfl⟩ : ∃ m', m = m' + 1 := ⟨m - 1, by omega⟩
    rw [l_slices_partialInsertionSortCmpFunc_int_1_eq, scanSorted]
    by_cases hij : i < b
    · rw [bif_pos (by omega), rdK ho (by omega), predI (by omega) (by omega), rdK ho (by omega), hc _ he]
      simp only [Option.bind_some, int_int, dlt (ord := ord), k_slices_partialInsertionSortCmpFunc_int_2_n, decide_eq_true hij, Bool.true_and]
      cases hlt : !ltO ord d[i]! d[i - 1]! with
      | true =>
        simp only [cond_true, if_true]
        rw [sucI (by omega)]
        exact ih (i + 1) m (by omega) (by omega) (by omega) (by omega)
      | false => simp only [cond_false, Bool.false_eq_true, if_false]
    · rw [bif_neg (by omega)]
      simp only [Option.bind_some, k_slices_partialInsertionSortCmpFunc_int_2_n, cond_false, decide_eq_false hij, Bool.false_and, Bool.false_eq_true, if_false]

theorem pis_down (hc : CmpOk fuel f cps ord D) {e : Nat} (he : D ≤ e) (hn : n < 1000000000000) {a b i : Nat} (x10 : Int) : ∀ (j m : Nat) (d : Array Int) (h : AHeap), j < m → j < n → Own h 1 id gen n (intsC d.toList) →
    ∃ h', l_slices_partialInsertionSortCmpFunc_int_2 fuel e m [(0, .slice (.mk ⟨id, gen, 0⟩ n c)), (1, .int .i64 (a : Int)), (2, .int .i64 (b : Int)), (3, .func f cps), (9, .int .i64 (i : Int)), (10, .int .i64 x10), (11, .int .i64 (j : Int))] h = some (.exit 4, [(0, .slice (.mk ⟨id, gen, 0⟩ n c)), (1, .int .i64 (a : Int)), (2, .int .i64 (b : Int)), (3, .func f cps), (9, .int .i64 (i : Int)), (10, .int .i64 x10)], h') ∧ Srt h h' id gen n (shiftDown (ltO ord) j d) := by
  intro j
  induction j with
  | zero =>
    intro m d h h1 h2 ho
    obtain ⟨m, rfl⟩ : ∃ m', m = m' + 1 := ⟨m - 1, by omega⟩
    rw [l_slices_partialInsertionSortCmpFunc_int_2_eq, bif_neg (by omega)]
    exact ⟨h, rfl, ho, Keeps.refl _ _⟩
  | succ j ih =>
    intro m d h h1 h2 ho
    obtain ⟨m, rfl⟩ : ∃ m', m = m' + 1 := ⟨m - 1, by omega⟩
    rw [l_slices_partialInsertionSortCmpFunc_int_2_eq, bif_pos (by omega), predI (by omega) (by omega), Nat.add_sub_cancel, rdK ho h2, rdK ho (by omega), hc _ he, shiftDown]
    simp only [Option.bind_some, int_int, dlt (ord := ord)]
    cases hlt : ltO ord d[j + 1]! d[j]! with
    | true =>
      obtain ⟨h2', o2, k2, e2⟩ := swpK (c := c) ho (i := j + 1) (j := j) (by omega) (by omega)
      simp only [Bool.not_true, cond_false, Bool.false_eq_true, if_false]
      rw [e2]
      obtain ⟨h', q1, q2, q3⟩ := ih m _ h2' (by omega) (by omega) o2
      exact ⟨h', q1, q2, k2.trans q3⟩
    | false =>
      simp only [Bool.not_false, cond_true, if_true]
      exact ⟨h, rfl, ho, Keeps.refl _ _⟩

theorem pis_up (hc : CmpOk fuel f cps ord D) {e : Nat} (he : D ≤ e) (hn : n < 1000000000000) {a b i : Nat} (hb : b ≤ n) (x10 : Int) : ∀ (k j m : Nat) (d : Array Int) (h : AHeap), b - j ≤ k → k < m → 1 ≤ j → j < 2000000000000 → Own h 1 id gen n (intsC d.toList) →
    ∃ h', l_slices_partialInsertionSortCmpFunc_int_3 fuel e m [(0, .slice (.mk ⟨id, gen, 0⟩ n c)), (1, .int .i64 (a : Int)), (2, .int .i64 (b : Int)), (3, .func f cps), (9, .int .i64 (i : Int)), (10, .int .i64 x10), (12, .int .i64 (j : Int))] h = some (.exit 6, [(0, .slice (.mk ⟨id, gen, 0⟩ n c)), (1, .int .i64 (a : Int)), (2, .int .i64 (b : Int)), (3, .func f cps), (9, .int .i64 (i : Int)), (10, .int .i64 x10)], h') ∧ Srt h h' id gen n (shiftUp (ltO ord) b j d) := by
  intro k
  induction k with
  | zero =>
    intro j m d h h1 h2 h3 h4 ho
    obtain ⟨m, rfl⟩ : ∃ m', m = m' + 1 := ⟨m - 1, by omega⟩
    rw [l_slices_partialInsertionSortCmpFunc_int_3_eq, bif_neg (by omega), shiftUp, if_neg (by omega)]
    exact ⟨h, rfl, ho, Keeps.refl _ _⟩
  | succ k ih =>
    intro j m d h h1 h2 h3 h4 ho
    obtain ⟨m, rfl⟩ : ∃ m', m = m' + 1 := ⟨m - 1, by omega⟩
    rw [l_slices_partialInsertionSortCmpFunc_int_3_eq, shiftUp]
    by_cases hjb : j < b
    · rw [bif_pos (by omega), if_pos hjb, predI (by omega) (by omega), rdK ho (by omega), rdK ho (by omega), hc _ he]
      simp only [Option.bind_some, int_int, dlt (ord := ord)]
      cases hlt : ltO ord d[j]! d[j - 1]! with
      | true =>
        obtain ⟨h2', o2, k2, e2⟩ := swpK (c := c) ho (i := j) (j := j - 1) (by omega) (by omega)
        simp only [Bool.not_true, cond_false, Bool.false_eq_true, if_false]
        rw [e2, sucI (by omega)]
        obtain ⟨h', q1, q2, q3⟩ := ih (j + 1) m _ h2' (by omega) (by omega) (by omega) (by omega) o2
        exact ⟨h', q1, q2, k2.trans q3⟩
      | false =>
        simp only [Bool.not_false, cond_true, if_true]
        exact ⟨h, rfl, ho, Keeps.refl _ _⟩
    · rw [bif_neg (by omega), if_neg hjb]
      exact ⟨h, rfl, ho, Keeps.refl _ _⟩

theorem scanSorted_le (lt : Int → Int → Bool) (d : Array Int) {b : Nat} : ∀ (k i : Nat), b - i ≤ k → i ≤ b → i ≤ scanSorted lt d b i ∧ scanSorted lt d b i ≤ b := by
  intro k
  induction k with
  | zero =>
    intro i h1 h2
    rw [scanSorted, decide_eq_false (show ¬ i < b by omega)]
    simp
    omega
  | succ k ih =>
    intro i h1 h2
    rw [scanSorted]
    split
    · rename_i h
      simp only [Bool.and_eq_true, decide_eq_true_eq] at h
      have := ih (i + 1) (by omega) (by omega)
      omega
    · omega

theorem pis_loop (hc : CmpOk fuel f cps ord D) {e : Nat} (he : D ≤ e) (hn : n < 1000000000000) (hf : n + 5 < fuel) {a b : Nat} (hab : a < b) (hb : b ≤ n) : ∀ (s i m : Nat) (x10 : Int) (d : Array Int) (h : AHeap), x10 = 5 - (s : Int) → s ≤ 5 → s < m → a + 1 ≤ i → i ≤ b → Own h 1 id gen n (intsC d.toList) →
    ∃ h', ((l_slices_partialInsertionSortCmpFunc_int_0 fuel e m [(0, .slice (.mk ⟨id, gen, 0⟩ n c)), (1, .int .i64 (a : Int)), (2, .int .i64 (b : Int)), (3, .func f cps), (9, .int .i64 (i : Int)), (10, .int .i64 x10)] h).bind fun p => k_slices_partialInsertionSortCmpFunc_int_0 fuel e p.1 p.2.1 p.2.2) = some (.bool (partialIns (ltO ord) a b s i d).2, h') ∧ Srt h h' id gen n (partialIns (ltO ord) a b s i d).1 := by
  intro s
  induction s with
  | zero =>
    intro i m x10 d h hx h1 h2 h3 h4 ho
    obtain ⟨m, rfl⟩ : ∃ m', m = m' + 1 := ⟨m - 1, by omega⟩
    rw [l_slices_partialInsertionSortCmpFunc_int_0_eq, bif_neg (by omega)]
    simp only [Option.bind_some, k_slices_partialInsertionSortCmpFunc_int_0_x0, partialIns]
    exact ⟨h, rfl, ho, Keeps.refl _ _⟩
  | succ s ih =>
    intro i m x10 d h hx h1 h2 h3 h4 ho
    obtain ⟨m, rfl⟩ : ∃ m', m = m' + 1 := ⟨m - 1, by omega⟩
    have e1 := pis_scan (c := c) (a := a) hc he hn hb x10 ho n i fuel (by omega) (by omega) (by omega) (by omega)
    have g1 := scanSorted_le (ltO ord) d n i (by omega) h4
    rw [l_slices_partialInsertionSortCmpFunc_int_0_eq, bif_pos (by omega), partialIns_succ]
    generalize scanSorted (ltO ord) d b i = i2 at *
    rw [e1]
    simp only [Option.bind_some, k_slices_partialInsertionSortCmpFunc_int_1_x2]
    by_cases hi2 : i2 = b
    · subst hi2
      rw [bif_pos rfl, if_pos rfl]
      simp only [Option.bind_some, k_slices_partialInsertionSortCmpFunc_int_0_r]
      exact ⟨h, rfl, ho, Keeps.refl _ _⟩
    · rw [bif_neg (by omega), if_neg hi2, subI (by omega) (by omega)]
      by_cases h50 : b - a < 50
      · rw [bif_pos (by omega), if_pos h50]
        simp only [Option.bind_some, k_slices_partialInsertionSortCmpFunc_int_0_r]
        exact ⟨h, rfl, ho, Keeps.refl _ _⟩
      · rw [bif_neg (by omega), if_neg h50, predI (by omega) (by omega)]
        obtain ⟨h2', o2, k2, e2⟩ := swpK (c := c) ho (i := i2) (j := i2 - 1) (by omega) (by omega)
        rw [e2, subI (by omega) (by omega)]
        -- behind the first shift
        have tail : ∀ (d2 : Array Int) (h3 : AHeap), Own h3 1 id gen n (intsC d2.toList) → ∃ h', ((k_slices_partialInsertionSortCmpFunc_int_4 fuel e m .normal [(0, .slice (.mk ⟨id, gen, 0⟩ n c)), (1, .int .i64 (a : Int)), (2, .int .i64 (b : Int)), (3, .func f cps), (9, .int .i64 (i2 : Int)), (10, .int .i64 x10)] h3).bind fun p => k_slices_partialInsertionSortCmpFunc_int_0 fuel e p.1 p.2.1 p.2.2) = some (.bool (partialIns (ltO ord) a b s i2 (fixUp (ltO ord) b i2 d2)).2, h') ∧ Srt h3 h' id gen n (partialIns (ltO ord) a b s i2 (fixUp (ltO ord) b i2 d2)).1 := by
          intro d2 h3 o3
          rw [k_slices_partialInsertionSortCmpFunc_int_4_n, subI (by omega) (by omega)]
          unfold fixUp
          have ex : IntKind.wrap .i64 (x10 + 1) = 5 - (s : Int) := by rw [wrap64 (by omega) (by omega)]; omega
          by_cases hg : b - i2 ≥ 2
          · rw [bif_pos (by omega), if_pos hg, sucI (by omega)]
            obtain ⟨h4, e4, o4, k4⟩ := pis_up (c := c) (a := a) (i := i2) hc he hn hb x10 n (i2 + 1) fuel d2 h3 (by omega) (by omega) (by omega) (by omega) o3
            rw [e4]
            simp only [Option.bind_some, k_slices_partialInsertionSortCmpFunc_int_5_x6]
            obtain ⟨h', q1, q2, q3⟩ := ih i2 m (IntKind.wrap .i64 (x10 + 1)) _ h4 ex (by omega) (by omega) (by omega) (by omega) o4
            exact ⟨h', q1, q2, k4.trans q3⟩
          · rw [bif_neg (by omega), if_neg hg]
            exact ih i2 m (IntKind.wrap .i64 (x10 + 1)) _ h3 ex (by omega) (by omega) (by omega) (by omega) o3
        by_cases hg : i2 - a ≥ 2
        · rw [bif_pos (by omega), fixDown, if_pos hg]
          obtain ⟨h3, e3, o3, k3⟩ := pis_down (c := c) (a := a) (b := b) (i := i2) hc he hn x10 (i2 - 1) fuel _ h2' (by omega) (by omega) o2
          rw [e3]
          simp only [Option.bind_some, k_slices_partialInsertionSortCmpFunc_int_3_x4]
          obtain ⟨h', q1, q2, q3⟩ := tail _ h3 o3
          exact ⟨h', q1, q2, k2.trans (k3.trans q3)⟩
        · rw [bif_neg (by omega), fixDown, if_neg hg]
          simp only [Option.bind_some]
          obtain ⟨h', q1, q2, q3⟩ := tail _ h2' o2
          exact ⟨h', q1, q2, k2.trans q3⟩

theorem pis_run (hc : CmpOk fuel f cps ord D) {e : Nat} (he : D ≤ e) (hn : n < 1000000000000) (hf : n + 5 < fuel) {a b : Nat} (ha : a < b) (hb : b ≤ n) (ho : Own h 1 id gen n (intsC d.toList)) :
    ∃ h', run fuel (e + 1) F_slices_partialInsertionSortCmpFunc_int [.slice (.mk ⟨id, gen, 0⟩ n c), .int .i64 (a : Int), .int .i64 (b : Int), .func f cps] h = some (.bool (partialInsertionSort (ltO ord) d a b).2, h') ∧ Srt h h' id gen n (partialInsertionSort (ltO ord) d a b).1 := by
  rw [e_slices_partialInsertionSortCmpFunc_int, sucI (by omega)]
  exact pis_loop (c := c) hc he hn hf ha hb 5 (a + 1) fuel 0 d h (by omega) (by omega) (by omega) (by omega) (by omega) ho

/-! the pivot -/
theorem order2_run (hc : CmpOk fuel f cps ord D) {e : Nat} (he : D ≤ e) {a b : Nat} (ha : a < n) (hb : b < n) (ho : Own h 1 id gen n (intsC d.toList)) {sid : Nat} (hne : id ≠ sid) {s : Int} (hs : Own h 1 sid 0 1 [.int .i64 s]) :
    ∃ (h' : AHeap) (x y : Nat) (s' : Int), run fuel (e + 1) F_slices_order2CmpFunc_int [.slice (.mk ⟨id, gen, 0⟩ n c), .int .i64 (a : Int), .int .i64 (b : Int), .ptr (.mk ⟨sid, 0, 0⟩ 1), .func f cps] h = some (.tup [.int .i64 (x : Int), .int .i64 (y : Int)], h') ∧
      ((x = a ∧ y = b) ∨ (x = b ∧ y = a)) ∧ Own h' 1 id gen n (intsC d.toList) ∧ Own h' 1 sid 0 1 [.int .i64 s'] ∧ Keeps h h' (· = sid) := by
  rw [e_slices_order2CmpFunc_int, rdK ho hb, rdK ho ha, hc _ he]
  simp only [Option.bind_some, int_int, dlt (ord := ord)]
  cases hlt : ltO ord d[b]! d[a]! with
  | true =>
    obtain ⟨h1, e1, o1, k1, _⟩ := hs.put (o := 0) (l := 1) (vs := [.int .i64 (IntKind.wrap .i64 (s + 1))]) (by simp) (by simp)
    simp only [cond_true, chk_mk, Option.bind_some, hs.part (o := 0) (l := 1) (by omega) rfl, int_int, e1]
    exact ⟨h1, b, a, _, rfl, .inr ⟨rfl, rfl⟩, ho.keep k1 hne, o1, k1⟩
  | false =>
    simp only [cond_false]
    exact ⟨h, a, b, s, rfl, .inl ⟨rfl, rfl⟩, ho, hs, Keeps.refl _ _⟩

theorem median_run (hc : CmpOk fuel f cps ord D) {e : Nat} (he : D ≤ e) {a b x : Nat} (ha : a < n) (hb : b < n) (hx : x < n) (ho : Own h 1 id gen n (intsC d.toList)) {sid : Nat} (hne : id ≠ sid) {s : Int} (hs : Own h 1 sid 0 1 [.int .i64 s]) :
    ∃ (h' : AHeap) (y : Nat) (s' : Int), run fuel (e + 2) F_slices_medianCmpFunc_int [.slice (.mk ⟨id, gen, 0⟩ n c), .int .i64 (a : Int), .int .i64 (b : Int), .int .i64 (x : Int), .ptr (.mk ⟨sid, 0, 0⟩ 1), .func f cps] h = some (.int .i64 (y : Int), h') ∧
      (y = a ∨ y = b ∨ y = x) ∧ Own h' 1 id gen n (intsC d.toList) ∧ Own h' 1 sid 0 1 [.int .i64 s'] ∧ Keeps h h' (· = sid) := by
  obtain ⟨h1, x1, y1, s1, e1, c1, o1, q1, k1⟩ := order2_run (c := c) hc he ha hb ho hne hs
  obtain ⟨h2, x2, y2, s2, e2, c2, o2, q2, k2⟩ := order2_run (c := c) hc he (a := y1) (b := x) (by omega) hx o1 hne q1
  obtain ⟨h3, x3, y3, s3, e3, c3, o3, q3, k3⟩ := order2_run (c := c) hc he (a := x1) (b := x2) (by omega) (by omega) o2 hne q2
  refine ⟨h3, y3, s3, ?_, by omega, o3, q3, k1.trans (k2.trans k3)⟩
  rw [e_slices_medianCmpFunc_int, e1]
  simp only [Option.bind_some, isTup_tup, List.length_cons, List.length_nil, Nat.beq, cond_true, comp_tup, List.getElem?_cons_zero, List.getElem?_cons_succ, int_int, e2, e3]

theorem adj_run (hc : CmpOk fuel f cps ord D) {e : Nat} (he : D ≤ e) (hn : n < 1000000000000) {a : Nat} (ha : 1 ≤ a) (hb : a + 1 < n) (ho : Own h 1 id gen n (intsC d.toList)) {sid : Nat} (hne : id ≠ sid) {s : Int} (hs : Own h 1 sid 0 1 [.int .i64 s]) :
    ∃ (h' : AHeap) (y : Nat) (s' : Int), run fuel (e + 3) F_slices_medianAdjacentCmpFunc_int [.slice (.mk ⟨id, gen, 0⟩ n c), .int .i64 (a : Int), .ptr (.mk ⟨sid, 0, 0⟩ 1), .func f cps] h = some (.int .i64 (y : Int), h') ∧
      (y = a - 1 ∨ y = a ∨ y = a + 1) ∧ Own h' 1 id gen n (intsC d.toList) ∧ Own h' 1 sid 0 1 [.int .i64 s'] ∧ Keeps h h' (· = sid) := by
  obtain ⟨h1, y, s1, e1, c1, o1, q1, k1⟩ := median_run (c := c) hc he (a := a - 1) (b := a) (x := a + 1) (by omega) (by omega) hb ho hne hs
  refine ⟨h1, y, s1, ?_, c1, o1, q1, k1⟩
  rw [e_slices_medianAdjacentCmpFunc_int, predI (by omega) (by omega), sucI (by omega), e1]
  simp only [Option.bind_some, int_int]

theorem divI {a : Nat} (k : Nat) (h : a < 9000000000000000000) (hk : 1 ≤ k) : IntKind.wrap .i64 (Int.tdiv (a : Int) (k : Int)) = ((a / k : Nat) : Int) := by
  rw [Int.tdiv_eq_ediv_of_nonneg (by omega), ← Int.natCast_ediv, wrapN]
  exact Nat.lt_of_le_of_lt (Nat.div_le_self _ _) h
theorem mulI {a b : Nat} (h : a * b < 9000000000000000000) : IntKind.wrap .i64 ((a : Int) * (b : Int)) = ((a * b : Nat) : Int) := by rw [← Int.natCast_mul, wrapN h]

theorem choose_run (hc : CmpOk fuel f cps ord D) {e : Nat} (he : D ≤ e) (hn : n < 1000000000000) {a b : Nat} (ha : a < b) (hb : b ≤ n) (ho : Own h 1 id gen n (intsC d.toList)) :
    ∃ (h' : AHeap) (y : Nat) (z : Int), run fuel (e + 4) F_slices_choosePivotCmpFunc_int [.slice (.mk ⟨id, gen, 0⟩ n c), .int .i64 (a : Int), .int .i64 (b : Int), .func f cps] h = some (.tup [.int .i64 (y : Int), .int .i64 z], h') ∧ a ≤ y ∧ y < b ∧ Srt h h' id gen n d := by
  have hlt := ho.lt
  have o0 : Own (h.push 1 [.int .i64 (0 : Int)]) 1 id gen n (intsC d.toList) := ho.keep (Keeps.push h 1 _ fun _ => False) (fun h => h)
  have s0 : Own (h.push 1 [.int .i64 (0 : Int)]) 1 h.next 0 1 [.int .i64 (0 : Int)] := Own.of_push 1 1 _ rfl
  have hne : id ≠ h.next := by rw [next_len]; omega
  have k0 : Keeps h (h.push 1 [.int .i64 (0 : Int)]) (· = id) := Keeps.push h 1 _ _
  have knew : ∀ {h' : AHeap}, Keeps (h.push 1 [.int .i64 (0 : Int)]) h' (· = h.next) → Keeps h h' (· = id) := fun k => (keeps_new (Keeps.push h 1 _ _) k (by intro i hi; rw [hi, next_len]; exact Nat.le_refl _)).mono (fun _ _ h => h.elim)
  have m1 : IntKind.wrap .i64 ((a : Int) + IntKind.wrap .i64 (IntKind.wrap .i64 (Int.tdiv ((b - a : Nat) : Int) 4) * 1)) = ((a + (b - a) / 4 * 1 : Nat) : Int) := by
    rw [show (4 : Int) = ((4 : Nat) : Int) from rfl, divI 4 (by omega) (by omega), show (1 : Int) = ((1 : Nat) : Int) from rfl, mulI (by omega), addI (by omega)]
  have m2 : IntKind.wrap .i64 ((a : Int) + IntKind.wrap .i64 (IntKind.wrap .i64 (Int.tdiv ((b - a : Nat) : Int) 4) * 2)) = ((a + (b - a) / 4 * 2 : Nat) : Int) := by
    rw [show (4 : Int) = ((4 : Nat) : Int) from rfl, divI 4 (by omega) (by omega), show (2 : Int) = ((2 : Nat) : Int) from rfl, mulI (by omega), addI (by omega)]
  have m3 : IntKind.wrap .i64 ((a : Int) + IntKind.wrap .i64 (IntKind.wrap .i64 (Int.tdiv ((b - a : Nat) : Int) 4) * 3)) = ((a + (b - a) / 4 * 3 : Nat) : Int) := by
    rw [show (4 : Int) = ((4 : Nat) : Int) from rfl, divI 4 (by omega) (by omega), show (3 : Int) = ((3 : Nat) : Int) from rfl, mulI (by omega), addI (by omega)]
  -- what the end makes of it
  have fin : ∀ (h' : AHeap) (y : Nat) (s : Int), a ≤ y → y < b → Own h' 1 id gen n (intsC d.toList) → Own h' 1 h.next 0 1 [.int .i64 s] → Keeps (h.push 1 [.int .i64 (0 : Int)]) h' (· = h.next) →
      ∃ (h'' : AHeap) (y2 : Nat) (z : Int), k_slices_choosePivotCmpFunc_int_1 fuel (e + 3) .normal [(11, .ptr (.mk ⟨h.next, 0, 0⟩ 1)), (13, .int .i64 (y : Int))] h' = some (.tup [.int .i64 (y2 : Int), .int .i64 z], h'') ∧ a ≤ y2 ∧ y2 < b ∧ Srt h h'' id gen n d := by
    intro h' y s h1 h2 o q k
    rw [k_slices_choosePivotCmpFunc_int_1_n, q.part (o := 0) (l := 1) (by omega) rfl]
    simp only [Option.bind_some, int_int]
    by_cases z0 : s = 0
    · rw [bif_pos z0]; exact ⟨h', y, _, rfl, h1, h2, o, knew k⟩
    · rw [bif_neg z0]
      by_cases z1 : s = 12
      · rw [bif_pos z1]; exact ⟨h', y, _, rfl, h1, h2, o, knew k⟩
      · rw [bif_neg z1]; exact ⟨h', y, _, rfl, h1, h2, o, knew k⟩
  rw [e_slices_choosePivotCmpFunc_int, subI (by omega) (by omega), m1, m2, m3]
  clear m1 m2 m3
  by_cases h8 : 8 ≤ b - a
  · rw [bif_pos (by omega)]
    have mid : ∀ (h' : AHeap) (i j k : Nat) (s : Int), a ≤ i → i < b → a ≤ j → j < b → a ≤ k → k < b → Own h' 1 id gen n (intsC d.toList) → Own h' 1 h.next 0 1 [.int .i64 s] → Keeps (h.push 1 [.int .i64 (0 : Int)]) h' (· = h.next) →
        ∃ (h'' : AHeap) (y : Nat) (z : Int), ((k_slices_choosePivotCmpFunc_int_0 fuel (e + 3) .normal [(0, .slice (.mk ⟨id, gen, 0⟩ n c)), (3, .func f cps), (11, .ptr (.mk ⟨h.next, 0, 0⟩ 1)), (12, .int .i64 (i : Int)), (13, .int .i64 (j : Int)), (14, .int .i64 (k : Int))] h').bind fun p8 =>
          k_slices_choosePivotCmpFunc_int_1 fuel (e + 3) p8.1 p8.2.1 p8.2.2) = some (.tup [.int .i64 (y : Int), .int .i64 z], h'') ∧ a ≤ y ∧ y < b ∧ Srt h h'' id gen n d := by
      intro h' i j k s i1 i2 j1 j2 k1 k2 o q kk
      obtain ⟨h1, y, s1, e1, c1, o1, q1, kk1⟩ := median_run (c := c) (e := e + 1) hc (by omega) (a := i) (b := j) (x := k) (by omega) (by omega) (by omega) o hne q
      rw [k_slices_choosePivotCmpFunc_int_0_n, e1]
      simp only [Option.bind_some, int_int]
      exact fin h1 y s1 (by omega) (by omega) o1 q1 (kk.trans kk1)
    by_cases h50 : 50 ≤ b - a
    · rw [bif_pos (by omega)]
      obtain ⟨h1, y1, s1, e1, c1, o1, q1, k1⟩ := adj_run (c := c) hc he hn (a := a + (b - a) / 4 * 1) (by omega) (by omega) o0 hne s0
      obtain ⟨h2, y2, s2, e2, c2, o2, q2, k2⟩ := adj_run (c := c) hc he hn (a := a + (b - a) / 4 * 2) (by omega) (by omega) o1 hne q1
      obtain ⟨h3, y3, s3, e3, c3, o3, q3, k3⟩ := adj_run (c := c) hc he hn (a := a + (b - a) / 4 * 3) (by omega) (by omega) o2 hne q2
      rw [e1]
      simp only [Option.bind_some, int_int, e2, e3]
      exact mid h3 y1 y2 y3 s3 (by omega) (by omega) (by omega) (by omega) (by omega) (by omega) o3 q3 (k1.trans (k2.trans k3))
    · rw [bif_neg (by omega)]
      simp only [Option.bind_some]
      exact mid _ _ _ _ 0 (by omega) (by omega) (by omega) (by omega) (by omega) (by omega) o0 s0 (Keeps.refl _ _)
  · rw [bif_neg (by omega)]
    simp only [Option.bind_some]
    exact fin _ _ 0 (by omega) (by omega) o0 s0 (Keeps.refl _ _)
end
end Go.Proofs.YtdmbfmgebgdfnaaDoor

namespace Go.Proofs.YtdmbfmgebgdfnaaDoor
open Go.RowKit Go.Sort

theorem wrap_u64 {n : Int} (h0 : 0 ≤ n) (h1 : n < 18446744073709551616) : IntKind.wrap .u64 n = n := by
  simp [IntKind.wrap, IntKind.bits, IntKind.signed]
  omega
theorem wrap_u8 (n : Int) : IntKind.wrap .u8 n = n % 256 := by
  simp [IntKind.wrap, IntKind.bits, IntKind.signed]
theorem wrap_u64_range (n : Int) : 0 ≤ IntKind.wrap .u64 n ∧ IntKind.wrap .u64 n < 18446744073709551616 := by
  simp [IntKind.wrap, IntKind.bits, IntKind.signed]
  omega

/-! bits.Len -/
theorem bitsLen_shift {n k : Nat} (h : 2 ^ k ≤ n) : bitsLen n = bitsLen (n / 2 ^ k) + k := by
  have key : ∀ j, bitsLen n ≤ j ↔ bitsLen (n / 2 ^ k) + k ≤ j := by
    intro j
    rw [bitsLen_le_iff]
    rcases Nat.lt_or_ge j k with hj | hj
    · have : 2 ^ j ≤ 2 ^ k := Nat.pow_le_pow_right (by omega) (by omega)
      constructor
      · intro h1; omega
      · intro h1; omega
    · have e : bitsLen (n / 2 ^ k) + k ≤ j ↔ bitsLen (n / 2 ^ k) ≤ j - k := by omega
      rw [e, bitsLen_le_iff, Nat.div_lt_iff_lt_mul (Nat.two_pow_pos k), ← Nat.pow_add, Nat.sub_add_cancel hj]
  exact Nat.le_antisymm ((key _).2 (Nat.le_refl _)) ((key _).1 (Nat.le_refl _))

theorem lenTab_all : (List.range 256).all (fun i => bstr_633d862b.data.toList[i]? == some (UInt8.ofNat (bitsLen i))) = true := by kernel_rfl
theorem lenTab_at {i : Nat} (h : i < 256) : strAt bstr_633d862b (i : Int) = some (bitsLen i : Int) := by
  have := List.all_eq_true.1 lenTab_all i (List.mem_range.2 h)
  have h2 : bstr_633d862b.data.toList[i]? = some (UInt8.ofNat (bitsLen i)) := by simpa using this
  have h3 : bitsLen i ≤ 8 := (bitsLen_le_iff i 8).2 (by omega)
  unfold strAt
  rw [bif_pos (by omega), Int.toNat_natCast, h2]
  simp
  omega

theorem len64_2 (fuel d : Nat) {x : Nat} (hx : x < 256) {b : Nat} (hb : b < 1000) (h : AHeap) : k_bits_Len64_2 fuel d .normal [(0, .int .u64 (x : Int)), (2, .int .i64 (b : Int))] h = some (.int .i64 ((bitsLen x + b : Nat) : Int), h) := by
  have h3 : bitsLen x ≤ 8 := (bitsLen_le_iff x 8).2 (by omega)
  have e : IntKind.wrap .u8 (x : Int) = (x : Int) := by rw [wrap_u8]; omega
  rw [k_bits_Len64_2_n, e]
  rw [lenTab_at hx, Option.bind_some, wrapN (by omega), addI (by omega), Nat.add_comm]
theorem fdivN (a b : Nat) : Int.fdiv (a : Int) (b : Int) = ((a / b : Nat) : Int) := by
  rw [Int.fdiv_eq_ediv_of_nonneg _ (by omega)]
  exact (Int.natCast_ediv a b).symm
theorem len64_1 (fuel d : Nat) {x : Nat} (hx : x < 65536) {b : Nat} (hb : b < 900) (h : AHeap) : k_bits_Len64_1 fuel d .normal [(0, .int .u64 (x : Int)), (2, .int .i64 (b : Int))] h = some (.int .i64 ((bitsLen x + b : Nat) : Int), h) := by
  rw [k_bits_Len64_1_n]
  by_cases h8 : 256 ≤ x
  · have e : Int.fdiv (x : Int) (2 ^ min (Int.toNat (8 : Int)) (IntKind.bits .u64)) = ((x / 2 ^ 8 : Nat) : Int) := fdivN x (2 ^ 8)
    have e2 : IntKind.wrap .i64 ((b : Int) + 8) = ((b + 8 : Nat) : Int) := addLit 8 (by omega) rfl
    rw [bif_pos (by omega), e, e2]
    simp only [Option.bind_some]
    rw [len64_2 fuel d (by omega) (by omega), bitsLen_shift (n := x) (k := 8) (by omega)]
    congr 3; omega
  · rw [bif_neg (by omega)]
    simp only [Option.bind_some]
    exact len64_2 fuel d (by omega) (by omega) h
theorem len64_0 (fuel d : Nat) {x : Nat} (hx : x < 4294967296) {b : Nat} (hb : b < 800) (h : AHeap) : k_bits_Len64_0 fuel d .normal [(0, .int .u64 (x : Int)), (2, .int .i64 (b : Int))] h = some (.int .i64 ((bitsLen x + b : Nat) : Int), h) := by
  rw [k_bits_Len64_0_n]
  by_cases h8 : 65536 ≤ x
  · have e : Int.fdiv (x : Int) (2 ^ min (Int.toNat (16 : Int)) (IntKind.bits .u64)) = ((x / 2 ^ 16 : Nat) : Int) := fdivN x (2 ^ 16)
    have e2 : IntKind.wrap .i64 ((b : Int) + 16) = ((b + 16 : Nat) : Int) := addLit 16 (by omega) rfl
    rw [bif_pos (by omega), e, e2]
    simp only [Option.bind_some]
    rw [len64_1 fuel d (by omega) (by omega), bitsLen_shift (n := x) (k := 16) (by omega)]
    congr 3; omega
  · rw [bif_neg (by omega)]
    simp only [Option.bind_some]
    exact len64_1 fuel d (by omega) (by omega) h
theorem len64_run (fuel d : Nat) {x : Nat} (hx : x < 4294967296) (h : AHeap) : run fuel (d + 1) F_bits_Len64 [.int .u64 (x : Int)] h = some (.int .i64 (bitsLen x : Int), h) := by
  refine pure_of rfl rfl (cc1 rfl) (r := .int .i64 (bitsLen x : Int)) (h' := AHeap.none) ?_ rfl
  rw [e_bits_Len64, bif_neg (by omega)]
  simp only [Option.bind_some]
  have := len64_0 fuel d hx (b := 0) (by omega) AHeap.none
  simpa using this
theorem len_run (fuel d : Nat) {x : Nat} (hx : x < 4294967296) (h : AHeap) : run fuel (d + 2) F_bits_Len [.int .u64 (x : Int)] h = some (.int .i64 (bitsLen x : Int), h) := by
  refine pure_of rfl rfl (cc1 rfl) (r := .int .i64 (bitsLen x : Int)) (h' := AHeap.none) ?_ rfl
  rw [e_bits_Len, len64_run fuel d hx]
  rfl
theorem next2_run (fuel d : Nat) {x : Nat} (hx : x < 4294967296) (h : AHeap) : run fuel (d + 3) F_slices_nextPowerOfTwo [.int .i64 (x : Int)] h = some (.int .u64 ((2 ^ bitsLen x : Nat) : Int), h) := by
  have hb : bitsLen x ≤ 32 := (bitsLen_le_iff x 32).2 (by omega)
  have hp : 2 ^ bitsLen x ≤ 2 ^ 32 := Nat.pow_le_pow_right (by omega) hb
  refine pure_of rfl rfl (cc1 rfl) (r := .int .u64 ((2 ^ bitsLen x : Nat) : Int)) (h' := AHeap.none) ?_ rfl
  rw [e_slices_nextPowerOfTwo, wrap_u64 (by omega) (by omega), len_run fuel d hx]
  simp only [Option.bind_some, int_int]
  have e : min (Int.toNat (bitsLen x : Int)) (IntKind.bits .u64) = bitsLen x := by
    rw [Int.toNat_natCast]; exact Nat.min_eq_left (Nat.le_trans hb (by decide))
  rw [bif_neg (by omega), e, Int.one_mul, show ((2 : Int) ^ bitsLen x) = ((2 ^ bitsLen x : Nat) : Int) from by simp]
  generalize 2 ^ bitsLen x = p at *
  rw [wrap_u64 (by omega) (by omega)]

/-! xorshift -/
theorem bits_range (op : BinOp) (a b : Int) : 0 ≤ bitsOp op .u64 a b ∧ bitsOp op .u64 a b < 18446744073709551616 := by
  unfold bitsOp
  exact wrap_u64_range _
theorem xnext_run (fuel d : Nat) {h : AHeap} {rid : Nat} {s : Int} (ho : Own h 1 rid 0 1 [.int .u64 s]) :
    ∃ (h' : AHeap) (r : Int), run fuel (d + 1) F_slices_xorshift_Next [.ptr (.mk ⟨rid, 0, 0⟩ 1)] h = some (.int .u64 r, h') ∧ 0 ≤ r ∧ r < 18446744073709551616 ∧ Own h' 1 rid 0 1 [.int .u64 r] ∧ Keeps h h' (· = rid) := by
  rw [e_slices_xorshift_Next]
  obtain ⟨h1, e1, o1, k1, _⟩ := ho.put (o := 0) (l := 1) (vs := [.int .u64 (bitsOp .xor .u64 s (IntKind.wrap .u64 (s * 2 ^ min (Int.toNat (13 : Int)) (IntKind.bits .u64))))]) (by simp) (by simp)
  obtain ⟨s1, hs1⟩ : ∃ s1, s1 = bitsOp .xor .u64 s (IntKind.wrap .u64 (s * 2 ^ min (Int.toNat (13 : Int)) (IntKind.bits .u64))) := ⟨_, rfl⟩
  rw [← hs1] at e1 o1
  have o1 : Own h1 1 rid 0 1 [.int .u64 s1] := o1
  obtain ⟨h2, e2, o2, k2, _⟩ := o1.put (o := 0) (l := 1) (vs := [.int .u64 (bitsOp .xor .u64 s1 (Int.fdiv s1 (2 ^ min (Int.toNat (7 : Int)) (IntKind.bits .u64))))]) (by simp) (by simp)
  obtain ⟨s2, hs2⟩ : ∃ s2, s2 = bitsOp .xor .u64 s1 (Int.fdiv s1 (2 ^ min (Int.toNat (7 : Int)) (IntKind.bits .u64))) := ⟨_, rfl⟩
  rw [← hs2] at e2 o2
  have o2 : Own h2 1 rid 0 1 [.int .u64 s2] := o2
  obtain ⟨h3, e3, o3, k3, _⟩ := o2.put (o := 0) (l := 1) (vs := [.int .u64 (bitsOp .xor .u64 s2 (IntKind.wrap .u64 (s2 * 2 ^ min (Int.toNat (17 : Int)) (IntKind.bits .u64))))]) (by simp) (by simp)
  have o3 : Own h3 1 rid 0 1 [.int .u64 (bitsOp .xor .u64 s2 (IntKind.wrap .u64 (s2 * 2 ^ min (Int.toNat (17 : Int)) (IntKind.bits .u64))))] := o3
  simp only [chk_mk, Option.bind_some, ho.part (o := 0) (l := 1) (by omega) rfl, int_int, ← hs1, e1, o1.part (o := 0) (l := 1) (by omega) rfl, ← hs2, e2, o2.part (o := 0) (l := 1) (by omega) rfl, e3, o3.part (o := 0) (l := 1) (by omega) rfl]
  exact ⟨h3, _, rfl, (bits_range _ _ _).1, (bits_range _ _ _).2, o3, k1.trans (k2.trans k3)⟩

theorem and_le {r : Int} {m : Nat} (h0 : 0 ≤ r) (h1 : r < 18446744073709551616) (hm : m < 18446744073709551616) : ∃ o : Nat, bitsOp .and .u64 r (m : Int) = (o : Int) ∧ o ≤ m := by
  obtain ⟨x, rfl⟩ : ∃ x : Nat, r = (x : Int) := ⟨r.toNat, by omega⟩
  have hx : x < 18446744073709551616 := by omega
  refine ⟨x &&& m, ?_, Nat.and_le_right⟩
  unfold bitsOp
  have hle : x &&& m ≤ m := Nat.and_le_right
  have e : (BitVec.ofInt (IntKind.bits .u64) (x : Int) &&& BitVec.ofInt (IntKind.bits .u64) (m : Int)).toNat = x &&& m := by
    rw [BitVec.toNat_and]
    simp only [BitVec.ofInt_natCast, BitVec.toNat_ofNat, IntKind.bits]
    rw [Nat.mod_eq_of_lt (by omega), Nat.mod_eq_of_lt (by omega)]
  simp only [e]
  exact wrap_u64 (by omega) (by omega)

section
variable {fuel f : Nat} {cps : List Pt} {ord : Int → Int → Int} {D : Nat} {h : AHeap} {id gen n : Nat} {c : Bool} {d : Array Int}

/-! breakPatterns -/
theorem brk_loop (e : Nat) (hn : n < 1000000000) (hf : 5 < fuel) {a b : Nat} (hab : 8 ≤ b - a) (hb : b ≤ n) {rid : Nat} (hne : id ≠ rid) : ∀ (k i m : Nat) (d : Array Int) (h : AHeap) (s : Int), i + k = a + (b - a) / 4 * 2 + 2 → k ≤ 3 → k < m → d.size = n → Own h 1 id gen n (intsC d.toList) → Own h 1 rid 0 1 [.int .u64 s] →
    ∃ (h' : AHeap) (d' : Array Int), l_slices_breakPatternsCmpFunc_int_0 fuel (e + 1) m [(0, .slice (.mk ⟨id, gen, 0⟩ n c)), (1, .int .i64 (a : Int)), (8, .int .i64 ((b - a : Nat) : Int)), (9, .ptr (.mk ⟨rid, 0, 0⟩ 1)), (10, .int .u64 ((2 ^ bitsLen (b - a) : Nat) : Int)), (11, .int .i64 (i : Int))] h = some (.exit 0, [], h') ∧
      PermIn a b d d' ∧ Own h' 1 id gen n (intsC d'.toList) ∧ Keeps h h' (fun r => r = id ∨ r = rid) := by
  have hbl : 2 ^ bitsLen (b - a) ≤ 2 * (b - a) := two_pow_bitsLen_le (by omega)
  have hpos : 0 < 2 ^ bitsLen (b - a) := Nat.two_pow_pos _
  have m2 : IntKind.wrap .i64 (IntKind.wrap .i64 ((a : Int) + IntKind.wrap .i64 (IntKind.wrap .i64 (Int.tdiv ((b - a : Nat) : Int) 4) * 2)) + 1) = ((a + (b - a) / 4 * 2 + 1 : Nat) : Int) := by
    rw [show (4 : Int) = ((4 : Nat) : Int) from rfl, divI 4 (by omega) (by omega), show (2 : Int) = ((2 : Nat) : Int) from rfl, mulI (by omega), addI (by omega), sucI (by omega)]
  have e10 : IntKind.wrap .u64 (((2 ^ bitsLen (b - a) : Nat) : Int) - 1) = ((2 ^ bitsLen (b - a) - 1 : Nat) : Int) := by rw [wrap_u64 (by omega) (by omega)]; omega
  intro k
  induction k with
  | zero =>
    intro i m d h s h1 h2 h3 hsz ho hr
    obtain ⟨m, rfl⟩ : ∃ m', m = m' + 1 := ⟨m - 1, by omega⟩
    rw [l_slices_breakPatternsCmpFunc_int_0_eq, m2, bif_neg (by omega)]
    exact ⟨h, d, rfl, permIn_refl _ _ _, ho, Keeps.refl _ _⟩
  | succ k ih =>
    intro i m d h s h1 h2 h3 hsz ho hr
    obtain ⟨m, rfl⟩ : ∃ m', m = m' + 1 := ⟨m - 1, by omega⟩
    rw [l_slices_breakPatternsCmpFunc_int_0_eq, m2, bif_pos (by omega)]
    obtain ⟨h2', r, e2, r0, r1, q2, k2⟩ := xnext_run fuel e hr
    obtain ⟨o, eo, ho'⟩ := and_le (m := 2 ^ bitsLen (b - a) - 1) r0 r1 (by omega)
    rw [e2]
    simp only [Option.bind_some, int_int, e10, eo]
    rw [wrapN (by omega)]
    clear m2
    have oo := ho.keep k2 hne
    -- the place that is drawn
    have tail : ∀ (t : Nat), t < b - a → ∃ (h' : AHeap) (d' : Array Int), k_slices_breakPatternsCmpFunc_int_1 fuel (e + 1) m .normal [(0, .slice (.mk ⟨id, gen, 0⟩ n c)), (1, .int .i64 (a : Int)), (8, .int .i64 ((b - a : Nat) : Int)), (9, .ptr (.mk ⟨rid, 0, 0⟩ 1)), (10, .int .u64 ((2 ^ bitsLen (b - a) : Nat) : Int)), (11, .int .i64 (i : Int)), (12, .int .i64 (t : Int))] h2' = some (.exit 0, [], h') ∧
      PermIn a b d d' ∧ Own h' 1 id gen n (intsC d'.toList) ∧ Keeps h h' (fun r => r = id ∨ r = rid) := by
      intro t ht
      rw [k_slices_breakPatternsCmpFunc_int_1_n, addI (by omega), sucI (by omega)]
      obtain ⟨h3', o3, k3, e3⟩ := swpK (c := c) oo (i := i) (j := a + t) (by omega) (by omega)
      rw [e3]
      obtain ⟨h', d', q1, q3, q4, q5⟩ := ih (i + 1) m _ h3' r (by omega) (by omega) (by omega) (by rw [swp_size]; exact hsz) o3 (q2.keep k3 (fun e => hne e.symm))
      refine ⟨h', d', q1, permIn_trans _ _ _ a b (swp_permIn d a b i (a + t) (by omega) (by omega) (by omega) (by omega) (by omega)) q3, q4, ?_⟩
      exact (k2.mono fun _ _ e => .inr e).trans ((k3.mono fun _ _ e => .inl e).trans q5)
    by_cases hge : b - a ≤ o
    · rw [bif_pos (by omega), subI hge (by omega)]
      simp only [Option.bind_some]
      exact tail (o - (b - a)) (by omega)
    · rw [bif_neg (by omega)]
      simp only [Option.bind_some]
      exact tail o (by omega)

theorem brk_run (e : Nat) (hn : n < 1000000000) (hf : 5 < fuel) {a b : Nat} (hab : a ≤ b) (hb : b ≤ n) (ho : Own h 1 id gen n (intsC d.toList)) :
    ∃ (h' : AHeap) (d' : Array Int), run fuel (e + 4) F_slices_breakPatternsCmpFunc_int [.slice (.mk ⟨id, gen, 0⟩ n c), .int .i64 (a : Int), .int .i64 (b : Int), .func f cps] h = some (.tup [], h') ∧ PermIn a b d d' ∧ Srt h h' id gen n d' := by
  have hsz := own_size ho
  rw [e_slices_breakPatternsCmpFunc_int, subI hab (by omega)]
  by_cases h8 : 8 ≤ b - a
  · have hlt := ho.lt
    have hne : id ≠ h.next := by rw [next_len]; omega
    have o0 : Own (h.push 1 [.int .u64 (0 : Int)]) 1 id gen n (intsC d.toList) := ho.keep (Keeps.push h 1 _ fun _ => False) (fun h => h)
    have s0 : Own (h.push 1 [.int .u64 (0 : Int)]) 1 h.next 0 1 [.int .u64 (0 : Int)] := Own.of_push 1 1 _ rfl
    obtain ⟨h1, e1, s1, k1, _⟩ := s0.put (o := 0) (l := 1) (vs := [.int .u64 (IntKind.wrap .u64 (IntKind.wrap .i64 ((b - a : Nat) : Int)))]) (by simp) (by simp)
    have m2 : IntKind.wrap .i64 (IntKind.wrap .i64 ((a : Int) + IntKind.wrap .i64 (IntKind.wrap .i64 (Int.tdiv ((b - a : Nat) : Int) 4) * 2)) - 1) = ((a + (b - a) / 4 * 2 - 1 : Nat) : Int) := by
      rw [show (4 : Int) = ((4 : Nat) : Int) from rfl, divI 4 (by omega) (by omega), show (2 : Int) = ((2 : Nat) : Int) from rfl, mulI (by omega), addI (by omega), predI (by omega) (by omega)]
    rw [wrapN (by omega)] at e1 s1
    rw [bif_pos (by omega), e1, Option.bind_some, next2_run fuel e (by omega), m2]
    simp only [Option.bind_some, int_int]
    clear m2
    obtain ⟨h', d', q1, q2, q3, q4⟩ := brk_loop (c := c) (fuel := fuel) (e + 2) hn hf h8 hb hne 3 (a + (b - a) / 4 * 2 - 1) fuel d h1 _ (by omega) (by omega) (by omega) hsz (o0.keep k1 hne) s1
    rw [q1]
    simp only [Option.bind_some, k_slices_breakPatternsCmpFunc_int_0_x0]
    refine ⟨h', d', rfl, q2, q3, ?_⟩
    have k3 : Keeps h h1 fun _ => False := keeps_new (Keeps.push h 1 _ _) k1 (by intro i hi; rw [hi, next_len]; exact Nat.le_refl _)
    refine ⟨Nat.le_trans k3.len q4.len, fun i row hi hn => q4.rows i row (k3.rows i row hi (fun h => h)) ?_, fun m es hm => q4.maps m es (k3.maps m es hm)⟩
    rintro (rfl | rfl)
    · exact hn rfl
    · have := (List.getElem?_eq_some_iff.1 hi).1
      rw [next_len] at this
      omega
  · rw [bif_neg (by omega)]
    exact ⟨h, d, rfl, permIn_refl _ _ _, ho, Keeps.refl _ _⟩

/-! pdqsort -/
theorem pdq_loop (hS : SWO (ltO ord)) (hc : CmpOk fuel f cps ord D) (hn : n < 1000000000) (hf : n + 5 < fuel) : ∀ (N a b m dd : Nat) (x3 : Int) (wb wp : Bool) (d : Array Int) (h : AHeap), b - a ≤ N → N < m → a ≤ b → b ≤ n → D + 5 + bitsLen (b - a) ≤ dd → Below (ltO ord) a b d → Own h 1 id gen n (intsC d.toList) →
    ∃ (h' : AHeap) (d' : Array Int), l_slices_pdqsortCmpFunc_int_0 fuel dd m [(0, .slice (.mk ⟨id, gen, 0⟩ n c)), (1, .int .i64 (a : Int)), (2, .int .i64 (b : Int)), (3, .int .i64 x3), (4, .func f cps), (10, .bool wb), (11, .bool wp)] h = some (.ret, [], h') ∧ PermIn a b d d' ∧ SortedIn (ltO ord) a b d' ∧ Srt h h' id gen n d' := by
  intro N
  induction N using Nat.strongRecOn with
  | _ N IH =>
  intro a b m dd x3 wb wp d h hN hm hab hb hdd hB ho
  have hsz := own_size ho
  obtain ⟨m, rfl⟩ : ∃ m', m = m' + 1 := ⟨m - 1, by omega⟩
  rw [l_slices_pdqsortCmpFunc_int_0_eq, subI hab (by omega)]
  by_cases h12 : b - a ≤ 12
  · obtain ⟨e, rfl⟩ : ∃ e, dd = e + 1 := ⟨dd - 1, by omega⟩
    obtain ⟨h1, e1, o1, k1⟩ := insertion_run (c := c) hc (e := e) (by omega) (by omega) (by omega) (a := a) (b := b) (by omega) hb ho
    rw [bif_pos (by omega), e1]
    obtain ⟨q1, q2⟩ := insertionSort_holds hS d a b hab (by omega)
    exact ⟨h1, _, rfl, q1, q2, o1, k1⟩
  rw [bif_neg (by omega)]
  by_cases hl : x3 = 0
  · obtain ⟨e, rfl⟩ : ∃ e, dd = e + 2 := ⟨dd - 2, by omega⟩
    obtain ⟨h1, e1, o1, k1⟩ := heap_run (c := c) hc (e := e) (by omega) (by omega) (by omega) hab hb (by omega) ho
    rw [bif_pos hl, e1]
    obtain ⟨q1, q2⟩ := heapSort_holds hS d a b hab (by omega)
    exact ⟨h1, _, rfl, q1, q2, o1, k1⟩
  rw [bif_neg hl]
  -- from the choice on
  have A4 : ∀ (d3 : Array Int) (h3 : AHeap) (x3 : Int) (pv : Nat), PermIn a b d d3 → a ≤ pv → pv < b → Srt h h3 id gen n d3 →
      ∃ (h' : AHeap) (d' : Array Int), k_slices_pdqsortCmpFunc_int_3 fuel dd m .normal [(0, .slice (.mk ⟨id, gen, 0⟩ n c)), (1, .int .i64 (a : Int)), (2, .int .i64 (b : Int)), (3, .int .i64 x3), (4, .func f cps), (10, .bool wb), (11, .bool wp), (12, .int .i64 ((b - a : Nat) : Int)), (13, .int .i64 (pv : Int))] h3 = some (.ret, [], h') ∧ PermIn a b d d' ∧ SortedIn (ltO ord) a b d' ∧ Srt h h' id gen n d' := by
    intro d3 h3 x3 pv P3 hp1 hp2 hs3
    obtain ⟨o3, k3⟩ := hs3
    have b3 : b ≤ d3.size := by rw [P3.1, hsz]; exact hb
    have B3 : Below (ltO ord) a b d3 := hB.perm (by omega) P3
    -- the round that parts
    have part : ∃ (h' : AHeap) (d' : Array Int), k_slices_pdqsortCmpFunc_int_4 fuel dd m .normal [(0, .slice (.mk ⟨id, gen, 0⟩ n c)), (1, .int .i64 (a : Int)), (2, .int .i64 (b : Int)), (3, .int .i64 x3), (4, .func f cps), (10, .bool wb), (11, .bool wp), (12, .int .i64 ((b - a : Nat) : Int)), (13, .int .i64 (pv : Int)), (97, .bool false)] h3 = some (.ret, [], h') ∧ PermIn a b d d' ∧ SortedIn (ltO ord) a b d' ∧ Srt h h' id gen n d' := by
      obtain ⟨e, rfl⟩ : ∃ e, dd = e + 1 := ⟨dd - 1, by omega⟩
      obtain ⟨h4, e4, o4, k4⟩ := part_run (c := c) hc (e := e) (by omega) (by omega) (by omega) (a := a) (b := b) (pv := pv) (by omega) hb (by omega) o3
      rw [k_slices_pdqsortCmpFunc_int_4_n, cond_false, e4]
      rcases hx : Sort.partition (ltO ord) d3 a b pv with ⟨mid, ap, d4⟩
      rw [hx] at o4
      obtain ⟨g1, g2, hs4, hBa, hBr, hleft, hright⟩ := round_part hS (partition_holds (ltO ord)) hp1 hp2 b3 B3 hx
      simp only [Option.bind_some, isTup_tup, List.length_cons, List.length_nil, Nat.beq, cond_true, comp_tup, List.getElem?_cons_zero, List.getElem?_cons_succ, int_int, bool_bool]
      rw [subI g1 (by omega), subI (by omega) (by omega), sucI (by omega)]
      by_cases hlt : mid - a < b - mid
      · rw [bif_pos (by omega)]
        have hbl : bitsLen (mid - a) + 1 ≤ bitsLen (b - a) := bitsLen_half (by omega) (by omega)
        obtain ⟨h5, d5, e5, p5, s5, o5, k5⟩ := IH (mid - a) (by omega) a mid fuel e x3 true true d4 h4 (Nat.le_refl _) (by omega) g1 (by omega) (by omega) hBa o4
        have e5' : run fuel (e + 1) F_slices_pdqsortCmpFunc_int [.slice (.mk ⟨id, gen, 0⟩ n c), .int .i64 (a : Int), .int .i64 (mid : Int), .int .i64 x3, .func f cps] h4 = some (.tup [], h5) := by
          rw [e_slices_pdqsortCmpFunc_int, e5]
          simp only [Option.bind_some, k_slices_pdqsortCmpFunc_int_0_r]
        obtain ⟨hBL, hfin⟩ := hleft _ p5 s5
        have hbl2 : bitsLen (b - (mid + 1)) ≤ bitsLen (b - a) := bitsLen_mono (by omega)
        obtain ⟨h6, d6, e6, p6, s6, o6, k6⟩ := IH (b - (mid + 1)) (by omega) (mid + 1) b m (e + 1) x3 (decide (IntKind.wrap .i64 (Int.tdiv ((b - a : Nat) : Int) 8) ≤ ((mid - a : Nat) : Int))) ap d5 h5 (Nat.le_refl _) (by omega) (by omega) hb (by omega) hBL o5
        obtain ⟨q1, q2⟩ := hfin _ p6 s6
        rw [e5', Option.bind_some, e6]
        exact ⟨h6, d6, rfl, permIn_trans _ _ _ a b P3 q1, q2, o6, k3.trans (k4.trans (k5.trans k6))⟩
      · rw [bif_neg (by omega)]
        have hbl : bitsLen (b - (mid + 1)) + 1 ≤ bitsLen (b - a) := bitsLen_half (by omega) (by omega)
        obtain ⟨h5, d5, e5, p5, s5, o5, k5⟩ := IH (b - (mid + 1)) (by omega) (mid + 1) b fuel e x3 true true d4 h4 (Nat.le_refl _) (by omega) (by omega) hb (by omega) hBr o4
        have e5' : run fuel (e + 1) F_slices_pdqsortCmpFunc_int [.slice (.mk ⟨id, gen, 0⟩ n c), .int .i64 ((mid + 1 : Nat) : Int), .int .i64 (b : Int), .int .i64 x3, .func f cps] h4 = some (.tup [], h5) := by
          rw [e_slices_pdqsortCmpFunc_int, e5]
          simp only [Option.bind_some, k_slices_pdqsortCmpFunc_int_0_r]
        obtain ⟨hBL, hfin⟩ := hright _ p5 s5
        have hbl2 : bitsLen (mid - a) ≤ bitsLen (b - a) := bitsLen_mono (by omega)
        obtain ⟨h6, d6, e6, p6, s6, o6, k6⟩ := IH (mid - a) (by omega) a mid m (e + 1) x3 (decide (IntKind.wrap .i64 (Int.tdiv ((b - a : Nat) : Int) 8) ≤ ((b - mid : Nat) : Int))) ap d5 h5 (Nat.le_refl _) (by omega) g1 (by omega) (by omega) hBL o5
        obtain ⟨q1, q2⟩ := hfin _ p6 s6
        rw [e5', Option.bind_some, e6]
        exact ⟨h6, d6, rfl, permIn_trans _ _ _ a b P3 q1, q2, o6, k3.trans (k4.trans (k5.trans k6))⟩
    rw [k_slices_pdqsortCmpFunc_int_3_n]
    by_cases ha0 : 0 < a
    · rw [bif_pos (by omega), predI (by omega) (by omega), rdK o3 (by omega), rdK o3 (by omega), hc _ (by omega)]
      simp only [Option.bind_some, int_int, dlt (ord := ord)]
      cases hlt : ltO ord d3[a - 1]! d3[pv]! with
      | true => exact part
      | false =>
        obtain ⟨e, rfl⟩ : ∃ e, dd = e + 1 := ⟨dd - 1, by omega⟩
        obtain ⟨h4, e4, o4, k4⟩ := peq_run (c := c) hc (e := e) (by omega) (by omega) (by omega) (a := a) (b := b) (pv := pv) (by omega) hb (by omega) o3
        rw [Bool.not_false, k_slices_pdqsortCmpFunc_int_4_n, cond_true, e4]
        rcases hx : partitionEqual (ltO ord) d3 a b pv with ⟨mid, d4⟩
        rw [hx] at o4
        obtain ⟨g1, g2, hs4, hB4, hfin⟩ := round_eq hS (partitionEqual_holds (ltO ord)) ha0 hp1 hp2 b3 B3 hlt hx
        simp only [Option.bind_some, int_int]
        have hbl2 : bitsLen (b - mid) ≤ bitsLen (b - a) := bitsLen_mono (by omega)
        obtain ⟨h6, d6, e6, p6, s6, o6, k6⟩ := IH (b - mid) (by omega) mid b m (e + 1) x3 wb wp d4 h4 (Nat.le_refl _) (by omega) g2 hb (by omega) hB4 o4
        obtain ⟨q1, q2⟩ := hfin _ p6 s6
        rw [e6]
        exact ⟨h6, d6, rfl, permIn_trans _ _ _ a b P3 q1, q2, o6, k3.trans (k4.trans k6)⟩
    · rw [bif_neg (by omega)]
      simp only [Option.bind_some]
      exact part
  -- from the pivot on
  have A2 : ∀ (d2 : Array Int) (h2 : AHeap) (x3 x14 : Int) (pv : Nat), PermIn a b d d2 → a ≤ pv → pv < b → Srt h h2 id gen n d2 →
      ∃ (h' : AHeap) (d' : Array Int), k_slices_pdqsortCmpFunc_int_2 fuel dd m .normal [(0, .slice (.mk ⟨id, gen, 0⟩ n c)), (1, .int .i64 (a : Int)), (2, .int .i64 (b : Int)), (3, .int .i64 x3), (4, .func f cps), (10, .bool wb), (11, .bool wp), (12, .int .i64 ((b - a : Nat) : Int)), (13, .int .i64 (pv : Int)), (14, .int .i64 x14)] h2 = some (.ret, [], h') ∧ PermIn a b d d' ∧ SortedIn (ltO ord) a b d' ∧ Srt h h' id gen n d' := by
    intro d2 h2 x3 x14 pv P2 hp1 hp2 hs2
    rw [k_slices_pdqsortCmpFunc_int_2_n]
    cases hcond : (bif (bif wb then wp else false) then (decide (x14 = (1 : Int))) else false) with
    | false =>
      simp only [cond_false, Option.bind_some]
      exact A4 d2 h2 x3 pv P2 hp1 hp2 hs2
    | true =>
      obtain ⟨e, rfl⟩ : ∃ e, dd = e + 1 := ⟨dd - 1, by omega⟩
      have b2 : b ≤ d2.size := by rw [P2.1, hsz]; exact hb
      have B2 : Below (ltO ord) a b d2 := hB.perm (by omega) P2
      obtain ⟨h3, e3, o3, k3⟩ := pis_run (c := c) hc (e := e) (by omega) (by omega) (by omega) (a := a) (b := b) (by omega) hb hs2.1
      obtain ⟨q1, q2⟩ := partialInsertionSort_holds hS d2 a b (by omega) b2 B2
      rw [cond_true, e3]
      simp only [Option.bind_some, bool_bool]
      cases hp : (partialInsertionSort (ltO ord) d2 a b).2 with
      | true =>
        simp only [cond_true, Option.bind_some, k_slices_pdqsortCmpFunc_int_3_r]
        exact ⟨h3, _, rfl, permIn_trans _ _ _ a b P2 q1, q2 hp, o3, hs2.2.trans k3⟩
      | false =>
        simp only [cond_false, Option.bind_some]
        exact A4 _ h3 x3 pv (permIn_trans _ _ _ a b P2 q1) hp1 hp2 ⟨o3, hs2.2.trans k3⟩
  -- behind the patterns
  have A1 : ∀ (d1 : Array Int) (h1 : AHeap) (x3 : Int), PermIn a b d d1 → Srt h h1 id gen n d1 →
      ∃ (h' : AHeap) (d' : Array Int), k_slices_pdqsortCmpFunc_int_1 fuel dd m .normal [(0, .slice (.mk ⟨id, gen, 0⟩ n c)), (1, .int .i64 (a : Int)), (2, .int .i64 (b : Int)), (3, .int .i64 x3), (4, .func f cps), (10, .bool wb), (11, .bool wp), (12, .int .i64 ((b - a : Nat) : Int))] h1 = some (.ret, [], h') ∧ PermIn a b d d' ∧ SortedIn (ltO ord) a b d' ∧ Srt h h' id gen n d' := by
    intro d1 h1 x3 P1 hs1
    obtain ⟨e, rfl⟩ : ∃ e, dd = e + 4 := ⟨dd - 4, by omega⟩
    obtain ⟨h2, y, z, e2, y1, y2, o2, k2⟩ := choose_run (c := c) hc (e := e) (by omega) (by omega) (a := a) (b := b) (by omega) hb hs1.1
    rw [k_slices_pdqsortCmpFunc_int_1_n, e2]
    simp only [Option.bind_some, isTup_tup, List.length_cons, List.length_nil, Nat.beq, cond_true, comp_tup, List.getElem?_cons_zero, List.getElem?_cons_succ, int_int]
    by_cases hz : z = 2
    · obtain ⟨h3, e3, o3, k3⟩ := rev_run (c := c) (fuel := fuel) (f := f) (cps := cps) (e + 3) (by omega) (by omega) (a := a) (b := b) (by omega) hb o2
      have b1 : b ≤ d1.size := by rw [P1.1, hsz]; exact hb
      rw [bif_pos hz, e3, predI (by omega) (by omega), subI y1 (by omega), subI (by omega) (by omega)]
      simp only [Option.bind_some]
      exact A2 _ h3 x3 1 (b - 1 - (y - a)) (permIn_trans _ _ _ a b P1 (reverseRange_holds d1 a b hab b1)) (by omega) (by omega) ⟨o3, hs1.2.trans (k2.trans k3)⟩
    · rw [bif_neg hz]
      simp only [Option.bind_some]
      exact A2 d1 h2 x3 z y P1 y1 y2 ⟨o2, hs1.2.trans k2⟩
  cases wb with
  | true =>
    simp only [Bool.not_true, cond_false, Option.bind_some]
    exact A1 d h x3 (permIn_refl _ _ _) ⟨ho, Keeps.refl _ _⟩
  | false =>
    obtain ⟨e, he⟩ : ∃ e, dd = e + 4 := ⟨dd - 4, by omega⟩
    obtain ⟨h1, d1, e1, p1, s1⟩ := brk_run (c := c) (fuel := fuel) (f := f) (cps := cps) e hn (by omega) hab hb ho
    simp only [Bool.not_false, cond_true]
    rw [← he] at e1
    rw [e1]
    simp only [Option.bind_some]
    exact A1 d1 h1 _ p1 s1

theorem sortFunc_run (hS : SWO (ltO ord)) (hc : CmpOk fuel f cps ord D) (hn : n < 1000000000) (hf : n + 5 < fuel) {e : Nat} (he : D + 40 ≤ e) (ho : Own h 1 id gen n (intsC d.toList)) :
    ∃ (h' : AHeap) (d' : Array Int), run fuel e F_slices_SortFunc_s_int_int [.slice (.mk ⟨id, gen, 0⟩ n c), .func f cps] h = some (.tup [], h') ∧ d'.toList.Perm d.toList ∧ SortedIn (ltO ord) 0 n d' ∧ Srt h h' id gen n d' := by
  have hsz := own_size ho
  have hbl : bitsLen n ≤ 30 := (bitsLen_le_iff n 30).2 (by omega)
  obtain ⟨e, rfl⟩ : ∃ e', e = e' + 3 := ⟨e - 3, by omega⟩
  obtain ⟨h1, d1, e1, p1, s1, t1⟩ := pdq_loop (c := c) hS hc hn hf n 0 n fuel (e + 1) (bitsLen n : Int) true true d h (by omega) (by omega) (by omega) (by omega) (by simp only [Nat.sub_zero]; omega) (.inl rfl) ho
  refine ⟨h1, d1, ?_, ?_, s1, t1⟩
  · rw [e_slices_SortFunc_s_int_int, len_mk, wrap_u64 (by omega) (by omega), len_run fuel e (by omega)]
    simp only [Option.bind_some, int_int]
    rw [e_slices_pdqsortCmpFunc_int, show (0 : Int) = ((0 : Nat) : Int) from rfl, e1]
    simp only [Option.bind_some, k_slices_pdqsortCmpFunc_int_0_r]
  · have := p1.2.2
    have h2 : d1.size = n := by rw [p1.1, hsz]
    have e1 : d1.extract 0 n = d1 := by rw [← h2]; exact Array.extract_size
    have e2 : d.extract 0 n = d := by rw [← hsz]; exact Array.extract_size
    rwa [e1, e2] at this
end
end Go.Proofs.YtdmbfmgebgdfnaaDoor

namespace Go.Proofs.YtdmbfmgebgdfnaaDoor
open Go.RowKit Go.Sort

/-- which of two literals stands first -/
def ltL (x y : Int) : Bool := decide (varI x < varI y) || (decide (varI x = varI y) && decide (x < y))
theorem ltL_iff {x y : Int} : ltL x y = true ↔ varI x < varI y ∨ (varI x = varI y ∧ x < y) := by simp [ltL]
theorem ltL_irrefl (x : Int) : ltL x x = false := by simp [ltL]
theorem ltL_trans {x y z : Int} (h1 : ltL x y = true) (h2 : ltL y z = true) : ltL x z = true := by rw [ltL_iff] at *; omega
theorem ltL_tot {x y : Int} (h1 : ltL x y = false) (h2 : ltL y x = false) : x = y := by
  rw [← Bool.not_eq_true, ltL_iff] at h1 h2; omega
theorem ltL_asym {x y : Int} (h1 : ltL x y = true) : ltL y x = false := by
  cases h : ltL y x with
  | false => rfl
  | true => have := ltL_trans h1 h; rw [ltL_irrefl] at this; cases this
theorem swo_ltL : SWO ltL where
  irrefl := ltL_irrefl
  trans := fun x y z h1 h2 => ltL_trans h1 h2
  ntrans := fun x y z h1 h2 => by
    rw [← Bool.not_eq_true, ltL_iff] at *; omega

def insO (x : Int) : List Int → List Int
  | [] => [x]
  | y :: l => if x = y then y :: l else if ltL x y = true then x :: y :: l else y :: insO x l
/-- a clause's literals in their order, each once -/
def normL (l : List Int) : List Int := l.foldr insO []

def SortedL (l : List Int) : Prop := l.Pairwise fun a b => ltL a b = true

theorem mem_insO {x z : Int} : ∀ {l : List Int}, z ∈ insO x l ↔ z = x ∨ z ∈ l
  | [] => by simp [insO]
  | y :: l => by
    unfold insO
    split
    · rename_i h; subst h; simp
    · split
      · simp
      · simp only [List.mem_cons, mem_insO (l := l)]
        constructor
        · rintro (h | h | h) <;> simp [h]
        · rintro (h | h | h) <;> simp [h]
theorem mem_normL {z : Int} : ∀ {l : List Int}, z ∈ normL l ↔ z ∈ l
  | [] => by simp [normL]
  | x :: l => by
    show z ∈ insO x (normL l) ↔ _
    rw [mem_insO, mem_normL (l := l), List.mem_cons]
theorem insO_sorted {x : Int} : ∀ {l : List Int}, SortedL l → SortedL (insO x l)
  | [], _ => by simp [insO, SortedL]
  | y :: l, h => by
    have h' := List.pairwise_cons.1 h
    unfold insO
    split
    · exact h
    · rename_i hxy
      split
      · rename_i hlt
        exact List.pairwise_cons.2 ⟨fun z hz => by
          rcases List.mem_cons.1 hz with rfl | hz
          · exact hlt
          · exact ltL_trans hlt (h'.1 z hz), h⟩
      · rename_i hlt
        refine List.pairwise_cons.2 ⟨fun z hz => ?_, insO_sorted h'.2⟩
        rcases mem_insO.1 hz with rfl | hz
        · cases hc : ltL y z with
          | true => rfl
          | false => exact absurd (ltL_tot (by simpa using hlt) hc) hxy
        · exact h'.1 z hz
theorem normL_sorted : ∀ (l : List Int), SortedL (normL l)
  | [] => by simp [normL, SortedL]
  | x :: l => insO_sorted (normL_sorted l)
theorem sortedL_unique : ∀ {a b : List Int}, SortedL a → SortedL b → (∀ x, x ∈ a ↔ x ∈ b) → a = b
  | [], [], _, _, _ => rfl
  | [], y :: b, _, _, h => by have := (h y).2 (List.mem_cons_self ..); cases this
  | x :: a, [], _, _, h => by have := (h x).1 (List.mem_cons_self ..); cases this
  | x :: a, y :: b, ha, hb, h => by
    have ha' := List.pairwise_cons.1 ha
    have hb' := List.pairwise_cons.1 hb
    have e : x = y := by
      rcases List.mem_cons.1 ((h x).1 (List.mem_cons_self ..)) with e | h1
      · exact e
      · rcases List.mem_cons.1 ((h y).2 (List.mem_cons_self ..)) with e | h2
        · exact e.symm
        · have := ltL_asym (hb'.1 x h1)
          rw [ha'.1 y h2] at this
          cases this
    subst e
    congr 1
    refine sortedL_unique ha'.2 hb'.2 fun z => ?_
    have hz := h z
    simp only [List.mem_cons] at hz
    constructor
    · intro hm
      rcases hz.1 (.inr hm) with e | h1
      · subst e; have := ha'.1 z hm; rw [ltL_irrefl] at this; cases this
      · exact h1
    · intro hm
      rcases hz.2 (.inr hm) with e | h1
      · subst e; have := hb'.1 z hm; rw [ltL_irrefl] at this; cases this
      · exact h1
theorem normL_congr {a b : List Int} (h : ∀ x, x ∈ a ↔ x ∈ b) : normL a = normL b :=
  sortedL_unique (normL_sorted a) (normL_sorted b) fun x => by rw [mem_normL, mem_normL]; exact h x
theorem normL_of_sorted {a : List Int} (h : SortedL a) : normL a = a :=
  sortedL_unique (normL_sorted a) h fun x => mem_normL
theorem normL_idem (l : List Int) : normL (normL l) = normL l := normL_of_sorted (normL_sorted l)
theorem insO_length (x : Int) : ∀ l : List Int, (insO x l).length ≤ l.length + 1
  | [] => by simp [insO]
  | y :: l => by
    unfold insO
    split
    · simp
    · split
      · simp
      · have := insO_length x l; simp; omega
theorem normL_length : ∀ l : List Int, (normL l).length ≤ l.length
  | [] => by simp [normL]
  | x :: l => by
    have h1 := insO_length x (normL l)
    have h2 := normL_length l
    show (insO x (normL l)).length ≤ _
    simp only [List.length_cons]; omega

/-- whether no variable stands there twice, side by side -/
def saysL : List Int → Bool
  | [] => true
  | [_] => true
  | a :: b :: r => !decide (varI b = varI a) && saysL (b :: r)

/-- lits.order -/
def cmpI (a b : Int) : Int := bif decide (a < b) then -1 else bif decide (b < a) then 1 else 0
def ordL (x y : Int) : Int := bif decide (cmpI (varI x) (varI y) = 0) then cmpI x y else cmpI (varI x) (varI y)
theorem cmpI_lt {a b : Int} (h : a < b) : cmpI a b = -1 := by unfold cmpI; rw [bif_pos h]
theorem cmpI_gt {a b : Int} (h : b < a) : cmpI a b = 1 := by unfold cmpI; rw [bif_neg (by omega), bif_pos h]
theorem cmpI_self (a : Int) : cmpI a a = 0 := by unfold cmpI; rw [bif_neg (by omega), bif_neg (by omega)]
theorem ltO_ordL : ltO ordL = ltL := by
  funext x y
  unfold ltO ordL
  rcases Int.lt_trichotomy (varI x) (varI y) with h | h | h
  · rw [cmpI_lt h, bif_neg (by omega)]; simp [ltL, h]
  · rw [h, cmpI_self, bif_pos rfl]
    rcases Int.lt_trichotomy x y with h2 | h2 | h2
    · rw [cmpI_lt h2]; simp [ltL, h, h2]
    · subst h2; rw [cmpI_self]; simp [ltL]
    · rw [cmpI_gt h2]
      have : ¬ x < y := by omega
      simp [ltL, h, this]
  · rw [cmpI_gt h, bif_neg (by omega)]
    have h1 : ¬ varI x < varI y := by omega
    have h2 : ¬ varI x = varI y := by omega
    simp [ltL, h1, h2]
end Go.Proofs.YtdmbfmgebgdfnaaDoor

namespace Go.Proofs.YtdmbfmgebgdfnaaDoor
open Go.RowKit

theorem freeze_cells {h : AHeap} {r : Ref} {n m : Nat} {c : Bool} {cs us : List AVal} (hs : h.sliceCells 1 (.mk r n c) = some cs) (hm : cs.mapM (freezeV h m) = some us) : freezeV h (m + 1) (.slice (.mk r n c)) = some (.slice (.lst n false us)) := by
  by_cases h0 : n = 0
  · subst h0
    simp [AHeap.sliceCells] at hs
    subst hs
    simp at hm
    subst hm
    simp [freezeV]
  · obtain ⟨row, h1, h2, h3, h4, h5, rfl⟩ := sliceCells_row hs h0
    have hs2 : h.sliceCells row.sz (.mk r n false) = some ((row.cells.drop r.off).take (n * 1)) := by rw [h2]; exact sliceCells_of h1 h2 h3 h4 h5
    simp only [freezeV, beq_eq, decide_eq_false h0, cond_false, h1, hs2, Option.bind_some, hm, Option.map_some]

theorem Sep0.tl {h0 h : AHeap} {c : Chunk} {L : List Chunk} (hs : Sep0 h0 h (c :: L)) : Sep0 h0 h L :=
  ⟨⟨fun x hx => hs.sep.all x (List.mem_cons_of_mem _ hx), (List.pairwise_cons.1 hs.sep.far).2⟩, hs.ext, fun x hx => hs.fresh x (List.mem_cons_of_mem _ hx)⟩
/-- a part of a slice that grows: its cells -/
theorem Grown.cutS {h : AHeap} {s : Sl} {l : List Int} (hg : Grown h 1 s (intsC l)) {lo hi : Nat} (h1 : lo ≤ hi) (h2 : hi ≤ l.length) (c : Bool) : h.sliceCells 1 (s.cut 1 lo hi c) = some (intsC ((l.drop lo).take (hi - lo))) := by
  generalize hcs : intsC l = cs at hg
  have small : hi = 0 → l = [] → h.sliceCells 1 (s.cut 1 lo hi c) = some [] → h.sliceCells 1 (s.cut 1 lo hi c) = some (intsC ((l.drop lo).take (hi - lo))) := by
    intro e1 e2 e3
    rw [e3, e2]
    simp
  cases hg with
  | nil =>
    have : l = [] := by simpa using hcs
    exact small (by subst this; simpa using h2) this rfl
  | none =>
    have e : l = [] := by simpa using hcs
    have e0 : hi = 0 := by subst e; simpa using h2
    refine small e0 e ?_
    subst e0
    obtain rfl : lo = 0 := by omega
    rfl
  | room =>
    have e : l = [] := by simpa using hcs
    have e0 : hi = 0 := by subst e; simpa using h2
    refine small e0 e ?_
    subst e0
    obtain rfl : lo = 0 := by omega
    rfl
  | @row id gen n cs row q1 q2 q3 q4 q5 q6 q7 =>
    have hs : h.sliceCells 1 (.mk ⟨id, gen, lo⟩ (hi - lo) (c || (false && Nat.beq hi n))) = some (intsC ((l.drop lo).take (hi - lo))) := by
      have := sliceCells_of (r := ⟨id, gen, lo⟩) (n := hi - lo) (c := (c || (false && Nat.beq hi n))) q1 q7 q5 (by rw [q4]; exact Nat.le_refl _) (by simp only; rw [q2, ← hcs]; simp; omega)
      rw [this, q2, ← hcs]
      simp
    have e : Sl.cut (.mk ⟨id, gen, 0⟩ n false) 1 lo hi c = .mk ⟨id, gen, lo⟩ (hi - lo) (c || (false && Nat.beq hi n)) := by simp only [Sl.cut, Nat.mul_one, Nat.zero_add]
    rw [e, hs]
  | @full id gen n cs row q0 q1 q2 q3 q4 q5 q6 q7 =>
    have hs : h.sliceCells 1 (.mk ⟨id, gen, lo⟩ (hi - lo) (c || (true && Nat.beq hi n))) = some (intsC ((l.drop lo).take (hi - lo))) := by
      have := sliceCells_of (r := ⟨id, gen, lo⟩) (n := hi - lo) (c := (c || (true && Nat.beq hi n))) q1 q7 q5 (by rw [q4]; exact Nat.le_refl _) (by simp only; rw [q2, ← hcs]; simp; omega)
      rw [this, q2, ← hcs]
      simp
    have e : Sl.cut (.mk ⟨id, gen, 0⟩ n true) 1 lo hi c = .mk ⟨id, gen, lo⟩ (hi - lo) (c || (true && Nat.beq hi n)) := by simp only [Sl.cut, Nat.mul_one, Nat.zero_add]
    rw [e, hs]
theorem cut_len {s : Sl} {lo hi : Nat} {c : Bool} (h : s = .nil → hi ≤ lo) : (s.cut 1 lo hi c).len = hi - lo := by
  cases s with
  | nil => have := h rfl; simp [Sl.cut, Sl.len]; omega
  | mk r n c => rfl
  | lst n c cs => rfl
end Go.Proofs.YtdmbfmgebgdfnaaDoor
