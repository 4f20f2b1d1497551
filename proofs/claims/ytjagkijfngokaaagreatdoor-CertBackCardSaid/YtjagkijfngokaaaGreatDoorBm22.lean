/-
 Slices of a heap's own, cell by cell.
-/
import Derived.Test.YtjagkijfngokaaaGreatDoorBm20
namespace Go.Proofs.YtjagkijfngokaaaGreatDoor
open Go.RowKit
theorem bif_pos {α : Type} {c : Prop} {_ : Decidable c} (h : c) (a b : α) : (bif decide c then a else b) = a := by simp [h]
theorem bif_neg {α : Type} {c : Prop} {_ : Decidable c} (h : ¬ c) (a b : α) : (bif decide c then a else b) = b := by simp [h]
theorem bif_npos {α : Type} {c : Prop} {_ : Decidable c} (h : c) (a b : α) : (bif !decide c then a else b) = b := by simp [h]
theorem bif_nneg {α : Type} {c : Prop} {_ : Decidable c} (h : ¬ c) (a b : α) : (bif !decide c then a else b) = a := by simp [h]
theorem cond_pos {α : Type} {b : Bool} (x y : α) (h : b = true) : (bif b then x else y) = x := by rw [h]; rfl
theorem cond_neg {α : Type} {b : Bool} (x y : α) (h : b = false) : (bif b then x else y) = y := by rw [h]; rfl
def Sl.at (s : Sl) (sz : Nat) (j : Int) : Pt :=
 match s with
 | .nil => .nil
 | .mk r _ _ => .mk ⟨r.id, r.gen, r.off + j.toNat * sz⟩ (r.off + j.toNat * sz + sz)
 | .lst _ _ cs => .fp 0 ((cs.drop (j.toNat * sz)).take sz)
theorem lst_cells {h : AH} {sz n : Nat} {c : Bool} {ds cs : List AV} (hs : h.sliceCells sz (.lst n c ds) = some cs) : ds = cs ∧ ds.length = n * sz := by
 simp only [AH.sliceCells, Bool.cond_eq_ite] at hs
 split at hs
 · rename_i h0; rw [nbeq] at h0; cases hs; exact ⟨rfl, h0⟩
 · cases hs
theorem addr_at {h : AH} {sz : Nat} {s : Sl} {cs : List AV} (hs : h.sliceCells sz s = some cs) {j : Int} (h0 : 0 ≤ j) (hj : j < (s.len : Int)) : h.addr sz s j = some (s.at sz j) := by
 cases s with
 | nil => simp only [Sl.len] at hj; omega
 | lst n c ds =>
   simp only [Sl.len] at hj
   simp only [AH.addr, h0, hj, decide_true, Bool.and_self, cond_true, Sl.at]
 | mk r n c =>
   simp only [Sl.len] at hj
   obtain ⟨row, h1, h2, h3, h4, h5, rfl⟩ := sliceCells_row hs (by omega)
   simp only [AH.addr, h0, hj, decide_true, Bool.and_true, cond_true, h1, beq_eq, h2, Sl.at]
theorem cell_at {h : AH} {s : Sl} {cs : List AV} (hs : h.sliceCells 1 s = some cs) {j : Int} {v : AV} (_ : 0 ≤ j) (hv : cs[j.toNat]? = some v) : h.cell (s.at 1 j) = some v := by
 have hlt := (List.getElem?_eq_some_iff.1 hv).1
 have hlen := sliceCells_len hs
 cases s with
 | nil => simp only [Sl.len, Nat.zero_mul] at hlen; omega
 | lst n c ds =>
   obtain ⟨rfl, hl⟩ := lst_cells hs
   simp only [Sl.at, AH.cell, Nat.mul_one]
   rw [List.getElem?_take, if_pos (by omega), List.getElem?_drop, Nat.add_zero]; exact hv
 | mk r n c =>
   simp only [Sl.len, Nat.mul_one] at hlen
   obtain ⟨row, h1, h2, h3, h4, h5, rfl⟩ := sliceCells_row hs (by omega)
   rw [List.getElem?_take, if_pos (by omega), List.getElem?_drop] at hv
   simp only [Sl.at, AH.cell, Nat.mul_one, blt_eq, Nat.lt_add_one, decide_true, cond_true, AH.live, h1, ble_eq, h3, h4, Bool.and_self, o_bd, hv]
abbrev intsC (l : List Int) : List AV := l.map (.int .i64)
structure Own (h : AH) (sz id gen n : Nat) (cs : List AV) : Prop where
 ex : ∃ row, h.rows[id]? = some row ∧ row.cells = cs ∧ row.gen = gen ∧ row.valid ≤ gen ∧ row.ro = false ∧ row.sz = sz
 len : cs.length = n * sz
abbrev Own.sl (id gen n : Nat) (c : Bool) : Sl := .mk ⟨id, gen, 0⟩ n c
theorem Own.lt {h : AH} {sz id gen n : Nat} {cs : List AV} (ho : Own h sz id gen n cs) : id < h.rows.length := by
 obtain ⟨⟨row, h1, _⟩, _⟩ := ho
 exact (List.getElem?_eq_some_iff.1 h1).1
theorem Own.cells {h : AH} {sz id gen n : Nat} {cs : List AV} (ho : Own h sz id gen n cs) (c : Bool) : h.sliceCells sz (.mk ⟨id, gen, 0⟩ n c) = some cs := by
 obtain ⟨⟨row, h1, rfl, h3, h4, h5, h6⟩, hl⟩ := ho
 rw [sliceCells_of (r := ⟨id, gen, 0⟩) h1 h6 h4 (by rw [h3]; exact Nat.le_refl _) (by rw [hl]; simp)]
 simp only [List.drop_zero]
 rw [List.take_of_length_le (by omega)]
theorem Own.keep {h h' : AH} {t : Nat → Prop} (hk : Keeps h h' t) {sz id gen n : Nat} {cs : List AV} (ho : Own h sz id gen n cs) (hn : ¬ t id) : Own h' sz id gen n cs := by
 obtain ⟨⟨row, h1, h2⟩, hl⟩ := ho
 exact ⟨⟨row, hk.2 _ _ h1 hn, h2⟩, hl⟩
theorem Own.push (h : AH) (sz n : Nat) (cs : List AV) (hl : cs.length = n * sz) : Own (h.push sz cs) sz h.rows.length 0 n cs :=
 ⟨⟨{ cells := cs, sz := sz }, by simp [AH.push], rfl, rfl, Nat.le_refl _, rfl, rfl⟩, hl⟩
theorem Own.store {h : AH} {id gen n : Nat} {cs : List AV} (ho : Own h 1 id gen n cs) {j : Int} (h0 : 0 ≤ j) (hj : j < (n : Int)) (c : Bool) (v : AV) :
   h.addr 1 (.mk ⟨id, gen, 0⟩ n c) j = some (Sl.at (.mk ⟨id, gen, 0⟩ n c) 1 j) ∧
   ∃ h', h.storeAt [v] (Sl.at (.mk ⟨id, gen, 0⟩ n c) 1 j) = some h' ∧ Own h' 1 id gen n (cs.set j.toNat v) ∧ Keeps h h' (· = id) ∧ h'.rows.length = h.rows.length := by
 refine ⟨addr_at (ho.cells c) h0 (by simpa [Sl.len] using hj), ?_⟩
 obtain ⟨⟨row, h1, rfl, rfl, h4, h5, h6⟩, hl⟩ := ho
 have hlt := (List.getElem?_eq_some_iff.1 h1).1
 rw [Nat.mul_one] at hl
 have e : AH.overlay row.cells (0 + j.toNat * 1) [v] = row.cells.set j.toNat v := by
   rw [List.set_eq_take_append_cons_drop, if_pos (by omega)]
   simp [AH.overlay]
 have hle : 0 + j.toNat * 1 + 1 ≤ row.cells.length := by omega
 refine ⟨h.setRow id { row with cells := row.cells.set j.toNat v, valid := row.gen }, ?_, ⟨⟨{ row with cells := row.cells.set j.toNat v, valid := row.gen }, ?_, rfl, rfl, Nat.le_refl _, h5, h6⟩, by simpa using hl⟩, Keeps.setRow _ _ _, by simp [AH.setRow]⟩
 · simp only [Sl.at, AH.storeAt, List.length_singleton, ble_eq, Nat.le_refl, decide_true, cond_true, AH.store, h1, h5, Bool.not_false, beq_eq, Bool.and_self, hle, e]
 · simp only [AH.setRow]
   exact List.getElem?_set_self hlt
abbrev Ext (h h' : AH) : Prop := Keeps h h' fun _ => False
theorem Ext.to {h h' : AH} (he : Ext h h') (t : Nat → Prop) : Keeps h h' t := he.mono fun _ _ => False.elim
theorem repeat_one (a : AV) (n : Nat) : repeatCells [a] n = List.replicate n a := by
 induction n with
 | zero => rfl
 | succ n ih => simp [repeatCells, ih, List.replicate_succ]
def Sl.Apart (s : Sl) (j : Nat) : Prop := ∀ r, s.row = some r → s.len ≠ 0 → r ≠ j
theorem sliceCells_ext {h h' : AH} (hk : Ext h h') {s : Sl} {sz : Nat} {cs : List AV} (hs : h.sliceCells sz s = some cs) : h'.sliceCells sz s = some cs :=
 sliceCells_keep hk hs fun _ _ _ => id
def Sl.From (s : Sl) (b : Nat) : Prop := ∀ r, s.row = some r → b ≤ r
theorem Sl.From.nil (b : Nat) : Sl.From .nil b := fun r h => by cases h
theorem Sl.From.mono {s : Sl} {a b : Nat} (h : s.From b) (hab : a ≤ b) : s.From a := fun r hr => Nat.le_trans hab (h r hr)
theorem Grown.row_lt {h : AH} {sz : Nat} {s : Sl} {cs : List AV} (hg : Grown h sz s cs) {r : Nat} (hr : s.row = some r) : r < h.rows.length := by
 cases hg with
 | nil => cases hr
 | none => cases hr
 | room h1 => cases hr; exact (List.getElem?_eq_some_iff.1 h1).1
 | row h1 => cases hr; exact (List.getElem?_eq_some_iff.1 h1).1
 | full h0 h1 => rw [Sl.row_some hr]; exact (List.getElem?_eq_some_iff.1 h1).1
def Nest (h : AH) (s : Sl) (cc : List (List Int)) : Prop :=
 ∃ ss : List Sl, h.sliceCells 1 s = some (ss.map AV.slice) ∧ ss.length = cc.length ∧ ∀ (k : Nat) s' c, ss[k]? = some s' → cc[k]? = some c → h.sliceCells 1 s' = some (intsC c)
theorem Nest.ext {h h' : AH} {s : Sl} {cc : List (List Int)} (hn : Nest h s cc) (hk : Ext h h') : Nest h' s cc := by
 obtain ⟨ss, h1, h2, h3⟩ := hn
 exact ⟨ss, sliceCells_ext hk h1, h2, fun k s' c a b => sliceCells_ext hk (h3 k s' c a b)⟩
theorem Nest.len {h : AH} {s : Sl} {cc : List (List Int)} (hn : Nest h s cc) : s.len = cc.length := by
 obtain ⟨ss, h1, h2, _⟩ := hn
 have := sliceCells_len h1
 simp at this
 omega
theorem Nest.read {h : AH} {s : Sl} {cc : List (List Int)} (hn : Nest h s cc) {m : Nat} (hm : m < cc.length) :
   ∃ s', h.addr 1 s (m : Int) = some (s.at 1 (m : Int)) ∧ h.cell (s.at 1 (m : Int)) = some (.slice s') ∧ h.sliceCells 1 s' = some (intsC (cc.getD m [])) ∧ s'.len = (cc.getD m []).length := by
 have hl := hn.len
 obtain ⟨ss, h1, h2, h3⟩ := hn
 have hg : ss[m]? = some ss[m] := List.getElem?_eq_getElem (by omega)
 have hc : cc[m]? = some (cc.getD m []) := by rw [List.getD_eq_getElem?_getD, List.getElem?_eq_getElem hm]; rfl
 have h4 := h3 m _ _ hg hc
 refine ⟨ss[m], addr_at h1 (by omega) (by omega), cell_at h1 (by omega) (by simp [hg]), h4, ?_⟩
 have := sliceCells_len h4
 simp at this
 rw [List.getD_eq_getElem?_getD]
 omega
def Pt.fld (o : Nat) : Pt → Pt
 | .nil => .nil
 | .mk r l => .mk ⟨r.id, r.gen, r.off + o⟩ l
 | .fp _ cs => .fp 0 (cs.drop o)
abbrev pairsC (l : List (Int × Int)) : List AV := l.flatMap fun p => [.int .i64 p.1, .int .i64 p.2]
theorem pairsC_len (l : List (Int × Int)) : (pairsC l).length = l.length * 2 := by
 induction l with
 | nil => rfl
 | cons q l ih =>
   have ec : pairsC (q :: l) = .int .i64 q.1 :: .int .i64 q.2 :: pairsC l := rfl
   rw [ec, List.length_cons, List.length_cons, ih, List.length_cons]
   omega
end Go.Proofs.YtjagkijfngokaaaGreatDoor
