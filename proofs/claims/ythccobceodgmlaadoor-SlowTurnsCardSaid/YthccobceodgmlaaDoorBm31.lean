/-
  Several rows of one's own, side by side: objects that are written, slices that grow.
-/
import Derived.Test.YthccobceodgmlaaDoorBm23
namespace Go.Proofs.YthccobceodgmlaaDoor
open Go.RowKit

/-- One thing of the heap that is one's own. -/
inductive Chunk where
  | own (sz id gen n : Nat) (cs : List AVal)
  | grown (sz : Nat) (s : Sl) (cs : List AVal)
def Chunk.row : Chunk → Option Nat
  | .own _ id _ _ _ => some id
  | .grown _ s _ => s.row
def Chunk.holds (h : AHeap) : Chunk → Prop
  | .own sz id gen n cs => Own h sz id gen n cs
  | .grown sz s cs => Grown h sz s cs
def Chunk.Far (a b : Chunk) : Prop := ∀ r, a.row = some r → b.row ≠ some r
theorem Chunk.Far.symm {a b : Chunk} (h : Chunk.Far a b) : Chunk.Far b a := fun r hb ha => h r ha hb
theorem Chunk.row_lt {h : AHeap} {c : Chunk} (hc : c.holds h) {r : Nat} (hr : c.row = some r) : r < h.rows.length := by
  cases c with
  | own => cases hr; exact Own.lt hc
  | grown => exact Grown.row_lt hc hr
theorem Chunk.keep {h h' : AHeap} {t : Nat → Prop} (hk : Keeps h h' t) {c : Chunk} (hc : c.holds h) (hn : ∀ r, c.row = some r → ¬ t r) : c.holds h' := by
  cases c with
  | own => exact Own.keep hk hc (hn _ rfl)
  | grown => exact Grown.keep hk hc hn

/-- All of them hold, no two in one row. -/
structure Sep (h : AHeap) (L : List Chunk) : Prop where
  all : ∀ c ∈ L, c.holds h
  far : L.Pairwise Chunk.Far

section
variable {h : AHeap} {L : List Chunk}
theorem Sep.nil (h : AHeap) : Sep h [] := ⟨(fun _ h => by cases h), List.Pairwise.nil⟩
theorem Sep.get (hs : Sep h L) {i : Nat} {c : Chunk} (hi : L[i]? = some c) : c.holds h := hs.all c (List.mem_of_getElem? hi)
theorem Sep.own (hs : Sep h L) {i : Nat} {sz id gen n : Nat} {cs : List AVal} (hi : L[i]? = some (.own sz id gen n cs)) : Own h sz id gen n cs := hs.get hi
theorem Sep.grown (hs : Sep h L) {i : Nat} {sz : Nat} {s : Sl} {cs : List AVal} (hi : L[i]? = some (.grown sz s cs)) : Grown h sz s cs := hs.get hi
theorem Sep.one {c : Chunk} (hc : c.holds h) : Sep h [c] := ⟨fun d hd => by rw [List.mem_singleton.1 hd]; exact hc, List.pairwise_singleton _ _⟩
/-- .. where nothing of them is changed -/
theorem Sep.keep {h' : AHeap} {t : Nat → Prop} (hs : Sep h L) (hk : Keeps h h' t) (ht : ∀ c ∈ L, ∀ r, c.row = some r → ¬ t r) : Sep h' L :=
  ⟨fun c hc => Chunk.keep hk (hs.all c hc) (ht c hc), hs.far⟩
theorem Sep.ext {h' : AHeap} (hs : Sep h L) (hk : Keeps h h' fun _ => False) : Sep h' L := hs.keep hk fun _ _ _ _ => id
/-- a new one behind them -/
theorem Sep.add {h' : AHeap} {t : Nat → Prop} {c : Chunk} (hs : Sep h L) (hk : Keeps h h' t) (ht : ∀ r, t r → h.rows.length ≤ r) (hc : c.holds h') (hn : ∀ r, c.row = some r → h.rows.length ≤ r) : Sep h' (L ++ [c]) := by
  have hs' : Sep h' L := hs.keep hk fun c hc r hr h1 => by have := Chunk.row_lt (hs.all c hc) hr; have := ht r h1; omega
  refine ⟨fun d hd => ?_, ?_⟩
  · rcases List.mem_append.1 hd with hd | hd
    · exact hs'.all d hd
    · rw [List.mem_singleton.1 hd]; exact hc
  · rw [List.pairwise_append]
    refine ⟨hs.far, List.pairwise_singleton _ _, fun a ha b hb r hr hbr => ?_⟩
    rw [List.mem_singleton.1 hb] at hbr
    have := Chunk.row_lt (hs.all a ha) hr
    have := hn r hbr
    omega
theorem Sep.push (hs : Sep h L) (sz n : Nat) {cs : List AVal} (hl : cs.length = n * sz) : Sep (h.push sz cs) (L ++ [.own sz h.next 0 n cs]) :=
  hs.add (t := fun _ => False) (Keeps.push _ _ _ _) (fun _ h => h.elim) (Own.push h sz n cs hl) fun r hr => by cases hr; exact Nat.le_refl _
/-- no slice yet -/
theorem Sep.addNil (hs : Sep h L) (sz : Nat) : Sep h (L ++ [.grown sz .nil []]) :=
  hs.add (t := fun _ => False) (Keeps.refl _ _) (fun _ h => h.elim) .nil fun r hr => by cases hr
theorem Sep.addMake (hs : Sep h L) (sz : Nat) (c : Bool) : Sep (h.push sz []) (L ++ [.grown sz (.mk ⟨h.next, 0, 0⟩ 0 c) []]) :=
  hs.add (t := fun _ => False) (Keeps.push _ _ _ _) (fun _ h => h.elim) (Grown.make sz c) fun r hr => by
    cases c with
    | true => cases hr
    | false => cases hr; exact Nat.le_refl _

theorem pairwise_set {α : Type} {R : α → α → Prop} (hR : ∀ {a b}, R a b → R b a) {L : List α} (hp : L.Pairwise R) {i : Nat} {c : α} (hc : ∀ j b, L[j]? = some b → j ≠ i → R c b) : (L.set i c).Pairwise R := by
  rw [List.pairwise_iff_getElem] at hp ⊢
  intro a b ha hb hab
  simp only [List.length_set] at ha hb
  rw [List.getElem_set, List.getElem_set]
  by_cases h1 : i = a
  · rw [if_pos h1, if_neg (by omega)]
    exact hc b _ (List.getElem?_eq_getElem hb) (by omega)
  · rw [if_neg h1]
    by_cases h2 : i = b
    · rw [if_pos h2]
      exact hR (hc a _ (List.getElem?_eq_getElem ha) (by omega))
    · rw [if_neg h2]
      exact hp a b ha hb hab
/-- one of them changed -/
theorem Sep.set {h' : AHeap} {i : Nat} {c c' : Chunk} (hs : Sep h L) (hi : L[i]? = some c) (hk : Keeps h h' fun r => c.row = some r) (hc : c'.holds h') (hr : ∀ r, c'.row = some r → c.row = some r ∨ h.rows.length ≤ r) : Sep h' (L.set i c') := by
  have hfar : ∀ j b, L[j]? = some b → j ≠ i → Chunk.Far c b := by
    intro j b hb hj
    have hp := List.pairwise_iff_getElem.1 hs.far
    obtain ⟨i1, i2⟩ := List.getElem?_eq_some_iff.1 hi
    obtain ⟨j1, j2⟩ := List.getElem?_eq_some_iff.1 hb
    rcases Nat.lt_or_gt_of_ne hj with hlt | hlt
    · have := hp j i j1 i1 hlt
      rw [i2, j2] at this
      exact this.symm
    · have := hp i j i1 j1 hlt
      rwa [i2, j2] at this
  refine ⟨fun d hd => ?_, pairwise_set (fun h => Chunk.Far.symm h) hs.far fun j b hb hj r hr' hbr => ?_⟩
  · obtain ⟨j, hj⟩ := List.mem_iff_getElem?.1 hd
    rw [List.getElem?_set] at hj
    split at hj
    · rename_i hij
      split at hj
      · cases hj; exact hc
      · cases hj
    · rename_i hij
      exact Chunk.keep hk (hs.get hj) fun r hdr hcr => hfar j d hj (fun e => hij e.symm) r hcr hdr
  · rcases hr r hr' with h1 | h1
    · exact hfar j b hb hj r h1 hbr
    · have := Chunk.row_lt (hs.get hb) hbr
      omega
/-- elements appended -/
theorem Sep.grow (hs : Sep h L) {i : Nat} {sz bytes m : Nat} {s : Sl} {cs vs : List AVal} (hi : L[i]? = some (.grown sz s cs)) (hv : vs.length = m * sz) (hb : (s.len + m) * bytes ≤ 140737488355328) (hb' : s.len + m ≤ 140737488355328) :
    ∃ s' h', h.append false sz bytes s m vs = some (s', h') ∧ Sep h' (L.set i (.grown sz s' (cs ++ vs))) ∧ s'.len = s.len + m ∧ Keeps h h' (fun r => s.row = some r) := by
  obtain ⟨s', h', e1, e2, e3, e4, e5⟩ := (hs.grown hi).more hv hb hb'
  refine ⟨s', h', e1, hs.set hi e4 e2 fun r hr => ?_, e3, e4⟩
  rcases e5 with e5 | e5
  · exact .inl (by rw [← hr]; exact e5.symm)
  · have hr' : s'.row = some r := hr
    rw [e5] at hr'
    cases hr'
    exact .inr (Nat.le_refl _)

/-! A row's parts. -/
theorem Own.part {sz id gen n : Nat} {cs : List AVal} (ho : Own h sz id gen n cs) {o l : Nat} {v : AVal} (hl : o < l) (hv : cs[o]? = some v) : h.cell (.mk ⟨id, gen, o⟩ l) = some v := by
  obtain ⟨⟨row, h1, rfl, rfl, h4, h5, h6⟩, hlen⟩ := ho
  rw [cell_row h1 h4 (Nat.le_refl _) hl]
  exact hv
theorem Own.parts {sz id gen n : Nat} {cs : List AVal} (ho : Own h sz id gen n cs) {o k l : Nat} (hl : o + k ≤ l) (hk : o + k ≤ cs.length) : h.cellsAt k (.mk ⟨id, gen, o⟩ l) = some ((cs.drop o).take k) := by
  obtain ⟨⟨row, h1, rfl, rfl, h4, h5, h6⟩, hlen⟩ := ho
  simp [AHeap.cellsAt, AHeap.span, AHeap.live, ble_eq, hl, h1, h4, hk]
theorem Own.put {sz id gen n : Nat} {cs : List AVal} (ho : Own h sz id gen n cs) {o l : Nat} {vs : List AVal} (hl : o + vs.length ≤ l) (hl' : o + vs.length ≤ cs.length) :
    ∃ h', h.storeAt vs (.mk ⟨id, gen, o⟩ l) = some h' ∧ Own h' sz id gen n (cs.take o ++ vs ++ cs.drop (o + vs.length)) ∧ Keeps h h' (· = id) ∧ h'.rows.length = h.rows.length := by
  obtain ⟨⟨row, h1, rfl, rfl, h4, h5, h6⟩, hlen⟩ := ho
  have hlt := (List.getElem?_eq_some_iff.1 h1).1
  refine ⟨h.setRow id { row with cells := AHeap.overlay row.cells o vs, valid := row.gen }, ?_, ⟨⟨{ row with cells := AHeap.overlay row.cells o vs, valid := row.gen }, ?_, rfl, rfl, Nat.le_refl _, h5, h6⟩, ?_⟩, Keeps.setRow _ _ _, by simp [AHeap.setRow]⟩
  · simp only [AHeap.storeAt, ble_eq, hl, decide_true, cond_true, AHeap.store, h1, h5, Bool.not_false, beq_eq, Bool.and_self, hl']
  · simp only [AHeap.setRow]
    exact List.getElem?_set_self hlt
  · simp; omega
/-- a part written -/
theorem Sep.put (hs : Sep h L) {i : Nat} {sz id gen n o l : Nat} {cs vs : List AVal} (hi : L[i]? = some (.own sz id gen n cs)) (hl : o + vs.length ≤ l) (hl' : o + vs.length ≤ cs.length) :
    ∃ h', h.storeAt vs (.mk ⟨id, gen, o⟩ l) = some h' ∧ Sep h' (L.set i (.own sz id gen n (cs.take o ++ vs ++ cs.drop (o + vs.length)))) ∧ Keeps h h' (· = id) := by
  obtain ⟨h', e1, e2, e3, _⟩ := (hs.own hi).put hl hl'
  exact ⟨h', e1, hs.set hi (e3.mono fun r _ e => by subst e; rfl) e2 fun r hr => .inl hr, e3⟩
theorem Sep.part (hs : Sep h L) {i : Nat} {sz id gen n o l : Nat} {cs : List AVal} (hi : L[i]? = some (.own sz id gen n cs)) {v : AVal} (hl : o < l) (hv : cs[o]? = some v) : h.cell (.mk ⟨id, gen, o⟩ l) = some v := (hs.own hi).part hl hv
theorem Sep.len (hs : Sep h L) {i : Nat} {sz : Nat} {s : Sl} {cs : List AVal} (hi : L[i]? = some (.grown sz s cs)) : cs.length = s.len * sz := (hs.grown hi).len

theorem freeze_open (n m : Nat) (c : Bool) {cs us : List AVal} (hc : closedL cs = false) (hm : cs.mapM (freezeV h n) = some us) : freezeV h (n + 1) (.slice (.lst m c cs)) = some (.slice (.lst m false us)) := by
  simp [freezeV, hc, hm]
theorem Grown.isOpen {sz : Nat} {s : Sl} {cs : List AVal} (hg : Grown h sz s cs) (hne : cs ≠ []) : (AVal.slice s).closed = false := by
  cases hg with
  | nil => exact absurd rfl hne
  | none => exact absurd rfl hne
  | room => exact absurd rfl hne
  | row => rfl
end

end Go.Proofs.YthccobceodgmlaaDoor
