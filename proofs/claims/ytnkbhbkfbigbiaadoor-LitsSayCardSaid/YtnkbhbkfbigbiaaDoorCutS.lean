/-
  Parts of slices that grow; what is marked; what was there before an append.
-/
import Derived.Test.YtnkbhbkfbigbiaaDoorBm31
namespace Go.Proofs.YtnkbhbkfbigbiaaDoor
open Go.RowKit

theorem freeze_cells {h : AHeap} {r : Ref} {n m : Nat} {c : Bool} {cs us : List AVal} (hs : h.sliceCells 1 (.mk r n c) = some cs) (hm : cs.mapM (freezeV h m) = some us) : freezeV h (m + 1) (.slice (.mk r n c)) = some (.slice (.lst n false us)) := by
  by_cases h0 : n = 0
  · subst h0
    simp [AHeap.sliceCells] at hs
    subst hs
    simp at hm
    subst hm
    simp [freezeV]
  · obtain ⟨row, h1, h2, h3, h4, h5, rfl⟩ := sliceCells_row hs h0
    have hs2 : h.sliceCells row.sz (.mk r n false) = some ((row.cells.drop r.off).take (n * 1)) := by rw [h2]; exact sliceCells_of h1 h2 h3 h4 h5
    simp only [freezeV, beq_eq, decide_eq_false h0, cond_false, h1, hs2, Option.bind_some, hm, Option.map_some]

theorem hasSz_mark {h : AHeap} (ids : List Nat) (sz : Nat) (s : Sl) : (h.markRo ids).hasSz sz s = h.hasSz sz s := by
  cases s with
  | nil => rfl
  | lst n c cs => rfl
  | mk r n c =>
    simp only [AHeap.hasSz, rows_mark]
    cases h.rows[r.id]? with
    | none => rfl
    | some row => simp only [Option.map_some]; cases ids.elem r.id <;> rfl
theorem Grown.freezeI {h : AHeap} {s : Sl} {l : List Int} (hg : Grown h 1 s (intsC l)) : freezeV h 8 (.slice s) = some (.slice (lstI l)) := by
  rw [hg.freeze (n := 7) (by omega) (freeze_intsC 6 _)]
  have := hg.len
  simp only [List.length_map, Nat.mul_one] at this
  rw [← this]
theorem Own.freezeI {h : AHeap} {id gen n : Nat} {c : Bool} {l : List Int} (ho : Own h 1 id gen n (intsC l)) : freezeV h 8 (.slice (.mk ⟨id, gen, 0⟩ n c)) = some (.slice (lstI l)) := by
  rw [ho.freeze (n := 7) c (freeze_intsC 6 _)]
  have := ho.len
  simp only [List.length_map, Nat.mul_one] at this
  rw [← this]
/-- a part of a slice that grows, as a value -/
theorem Grown.cutI {h : AHeap} {s : Sl} {l : List Int} (hg : Grown h 1 s (intsC l)) {lo hi : Nat} (h1 : lo ≤ hi) (h2 : hi ≤ l.length) (c : Bool) : freezeV h 8 (.slice (s.cut 1 lo hi c)) = some (.slice (lstI ((l.drop lo).take (hi - lo)))) := by
  have hl := hg.len
  simp only [List.length_map, Nat.mul_one] at hl
  have hlen : ((l.drop lo).take (hi - lo)).length = hi - lo := by simp; omega
  generalize hcs : intsC l = cs at hg
  have zero : ∀ r : Ref, ∀ c : Bool, freezeV h 8 (.slice (.mk r 0 c)) = some (.slice (.lst 0 false [])) := fun r c => freeze_cells (h := h) (r := r) (n := 0) (c := c) (cs := []) (us := []) rfl rfl
  have small : hi = 0 → l = [] → freezeV h 8 (.slice (s.cut 1 lo hi c)) = some (.slice (.lst 0 false [])) → freezeV h 8 (.slice (s.cut 1 lo hi c)) = some (.slice (lstI ((l.drop lo).take (hi - lo)))) := by
    intro e1 e2 e3
    rw [e3, e2]
    simp
  cases hg with
  | nil =>
    have : l = [] := by simpa using hcs
    exact small (by subst this; simpa using h2) this (freeze_nil 7)
  | none =>
    have e : l = [] := by simpa using hcs
    have e0 : hi = 0 := by subst e; simpa using h2
    refine small e0 e ?_
    subst e0
    obtain rfl : lo = 0 := by omega
    exact zero _ _
  | room =>
    have e : l = [] := by simpa using hcs
    have e0 : hi = 0 := by subst e; simpa using h2
    refine small e0 e ?_
    subst e0
    obtain rfl : lo = 0 := by omega
    exact zero _ _
  | @row id gen n cs row q1 q2 q3 q4 q5 q6 q7 =>
    have hs : h.sliceCells 1 (.mk ⟨id, gen, lo⟩ (hi - lo) (c || (false && Nat.beq hi n))) = some (intsC ((l.drop lo).take (hi - lo))) := by
      have := sliceCells_of (r := ⟨id, gen, lo⟩) (n := hi - lo) (c := (c || (false && Nat.beq hi n))) q1 q7 q5 (by rw [q4]; exact Nat.le_refl _) (by simp only; rw [q2, ← hcs]; simp; omega)
      rw [this, q2, ← hcs]
      simp
    have e : Sl.cut (.mk ⟨id, gen, 0⟩ n false) 1 lo hi c = .mk ⟨id, gen, lo⟩ (hi - lo) (c || (false && Nat.beq hi n)) := by simp only [Sl.cut, Nat.mul_one, Nat.zero_add]
    rw [e, freeze_cells hs (freeze_intsC 6 _)]
    show some (AVal.slice (.lst (hi - lo) false _)) = some (AVal.slice (.lst ((l.drop lo).take (hi - lo)).length false _))
    rw [hlen]

theorem Sep0.tl {h0 h : AHeap} {c : Chunk} {L : List Chunk} (hs : Sep0 h0 h (c :: L)) : Sep0 h0 h L :=
  ⟨⟨fun x hx => hs.sep.all x (List.mem_cons_of_mem _ hx), (List.pairwise_cons.1 hs.sep.far).2⟩, hs.ext, fun x hx => hs.fresh x (List.mem_cons_of_mem _ hx)⟩
/-- a part of a slice that grows: its cells -/
theorem Grown.cutS {h : AHeap} {s : Sl} {l : List Int} (hg : Grown h 1 s (intsC l)) {lo hi : Nat} (h1 : lo ≤ hi) (h2 : hi ≤ l.length) (c : Bool) : h.sliceCells 1 (s.cut 1 lo hi c) = some (intsC ((l.drop lo).take (hi - lo))) := by
  generalize hcs : intsC l = cs at hg
  have small : hi = 0 → l = [] → h.sliceCells 1 (s.cut 1 lo hi c) = some [] → h.sliceCells 1 (s.cut 1 lo hi c) = some (intsC ((l.drop lo).take (hi - lo))) := by
    intro e1 e2 e3
    rw [e3, e2]
    simp
  cases hg with
  | nil =>
    have : l = [] := by simpa using hcs
    exact small (by subst this; simpa using h2) this rfl
  | none =>
    have e : l = [] := by simpa using hcs
    have e0 : hi = 0 := by subst e; simpa using h2
    refine small e0 e ?_
    subst e0
    obtain rfl : lo = 0 := by omega
    rfl
  | room =>
    have e : l = [] := by simpa using hcs
    have e0 : hi = 0 := by subst e; simpa using h2
    refine small e0 e ?_
    subst e0
    obtain rfl : lo = 0 := by omega
    rfl
  | @row id gen n cs row q1 q2 q3 q4 q5 q6 q7 =>
    have hs : h.sliceCells 1 (.mk ⟨id, gen, lo⟩ (hi - lo) (c || (false && Nat.beq hi n))) = some (intsC ((l.drop lo).take (hi - lo))) := by
      have := sliceCells_of (r := ⟨id, gen, lo⟩) (n := hi - lo) (c := (c || (false && Nat.beq hi n))) q1 q7 q5 (by rw [q4]; exact Nat.le_refl _) (by simp only; rw [q2, ← hcs]; simp; omega)
      rw [this, q2, ← hcs]
      simp
    have e : Sl.cut (.mk ⟨id, gen, 0⟩ n false) 1 lo hi c = .mk ⟨id, gen, lo⟩ (hi - lo) (c || (false && Nat.beq hi n)) := by simp only [Sl.cut, Nat.mul_one, Nat.zero_add]
    rw [e, hs]
theorem cut_len {s : Sl} {lo hi : Nat} {c : Bool} (h : s = .nil → hi ≤ lo) : (s.cut 1 lo hi c).len = hi - lo := by
  cases s with
  | nil => have := h rfl; simp [Sl.cut, Sl.len]; omega
  | mk r n c => rfl
  | lst n c cs => rfl
/-- What was there before an append is there still. -/
theorem Grown.old {h h' : AHeap} {sz bytes m : Nat} {s s' : Sl} {cs vs : List AVal} (hg : Grown h sz s cs) (e : h.append false sz bytes s m vs = some (s', h')) : h'.sliceCells sz s = some cs := by
  cases hg with
  | nil => rfl
  | none => rfl
  | room => rfl
  | @row id gen n cs row q1 q2 q3 q4 q5 q6 q7 =>
    have hlt := (List.getElem?_eq_some_iff.1 q1).1
    unfold AHeap.append at e
    rw [Bool.cond_eq_ite] at e
    split at e
    · cases e
      have := sliceCells_of (r := ⟨id, gen, 0⟩) (n := n) (c := false) q1 q7 q5 (by rw [q4]; exact Nat.le_refl _) (by simp only; rw [q2]; omega)
      rw [this, q2]
      simp only [List.drop_zero]
      rw [List.take_of_length_le (by omega)]
    · rw [Bool.cond_eq_ite] at e
      split at e
      · cases e
      · simp only [q1] at e
        rw [Bool.cond_eq_ite] at e
        split at e
        · simp only [Option.some.injEq, Prod.mk.injEq] at e
          obtain ⟨rfl, rfl⟩ := e
          have e1 : (Nat.beq gen row.gen && Nat.beq (0 + n * sz) row.cells.length) = true := by
            rw [q4, q2, q3, Nat.zero_add]; simp [Nat.beq_refl]
          have hq := sliceCells_of (h := h.setRow id { sz := row.sz, cells := row.cells.take (0 + n * sz) ++ vs, gen := row.gen + 1, valid := bif Nat.beq gen row.gen && Nat.beq (0 + n * sz) row.cells.length then row.valid else row.gen + 1, ro := false }) (r := ⟨id, gen, 0⟩) (n := n) (c := false)
            (row := { sz := row.sz, cells := row.cells.take (0 + n * sz) ++ vs, gen := row.gen + 1, valid := bif Nat.beq gen row.gen && Nat.beq (0 + n * sz) row.cells.length then row.valid else row.gen + 1, ro := false })
            (List.getElem?_set_self hlt) q7 (by simp only [e1, cond_true]; exact q5) (by simp only; omega) (by simp only [List.length_append, List.length_take]; rw [q2]; omega)
          rw [hq]
          simp only [List.drop_zero, Nat.zero_add]
          rw [List.take_append_of_le_length (by rw [List.length_take, q2]; omega), List.take_take, Nat.min_self, q2, List.take_of_length_le (by omega)]
        · cases e

theorem Grown.freezeOld {h1 h2 : AHeap} {s : Sl} {l : List Int} {cs : List AVal} (hg : Grown h1 1 s cs) (hs : h2.sliceCells 1 s = some (intsC l)) (hl : l.length = s.len) : freezeV h2 8 (.slice s) = some (.slice (lstI l)) := by
  have zero : s.len = 0 → l = [] := fun h => List.eq_nil_of_length_eq_zero (by omega)
  cases hg with
  | nil => rw [zero rfl]; exact freeze_nil 7
  | none => rw [zero rfl]; exact freeze_cells (cs := []) (us := []) rfl rfl
  | room => rw [zero rfl]; exact freeze_cells (cs := []) (us := []) rfl rfl
  | row => rw [freeze_cells hs (freeze_intsC 6 _)]; simp only [Sl.len] at hl; rw [← hl]

end Go.Proofs.YtnkbhbkfbigbiaaDoor
