/-
  Slices of a heap's own, cell by cell.
-/
import Derived.Test.YtmjbjgbcpaagmaaDoorBm20
namespace Go.Proofs.YtmjbjgbcpaagmaaDoor
open Go.RowKit

theorem bif_pos {α : Type} {c : Prop} {_ : Decidable c} (h : c) (a b : α) : (bif decide c then a else b) = a := by simp [h]
theorem bif_neg {α : Type} {c : Prop} {_ : Decidable c} (h : ¬ c) (a b : α) : (bif decide c then a else b) = b := by simp [h]
theorem bif_npos {α : Type} {c : Prop} {_ : Decidable c} (h : c) (a b : α) : (bif !decide c then a else b) = b := by simp [h]
theorem bif_nneg {α : Type} {c : Prop} {_ : Decidable c} (h : ¬ c) (a b : α) : (bif !decide c then a else b) = a := by simp [h]

theorem cond_pos {α : Type} {b : Bool} (x y : α) (h : b = true) : (bif b then x else y) = x := by rw [h]; rfl
theorem cond_neg {α : Type} {b : Bool} (x y : α) (h : b = false) : (bif b then x else y) = y := by rw [h]; rfl

/-- Where element j of a slice stands. -/
def Sl.at (s : Sl) (sz : Nat) (j : Int) : Pt :=
  match s with
  | .nil => .nil
  | .mk r _ _ => .mk ⟨r.id, r.gen, r.off + j.toNat * sz⟩ (r.off + j.toNat * sz + sz)
  | .lst _ _ cs => .fp 0 ((cs.drop (j.toNat * sz)).take sz)

theorem lst_cells {h : AHeap} {sz n : Nat} {c : Bool} {ds cs : List AVal} (hs : h.sliceCells sz (.lst n c ds) = some cs) : ds = cs ∧ ds.length = n * sz := by
  simp only [AHeap.sliceCells, Bool.cond_eq_ite] at hs
  split at hs
  · rename_i h0; rw [nbeq] at h0; cases hs; exact ⟨rfl, h0⟩
  · cases hs

theorem addr_at {h : AHeap} {sz : Nat} {s : Sl} {cs : List AVal} (hs : h.sliceCells sz s = some cs) {j : Int} (h0 : 0 ≤ j) (hj : j < (s.len : Int)) : h.addr sz s j = some (s.at sz j) := by
  cases s with
  | nil => simp only [Sl.len] at hj; omega
  | lst n c ds =>
    simp only [Sl.len] at hj
    simp only [AHeap.addr, h0, hj, decide_true, Bool.and_self, cond_true, Sl.at]
  | mk r n c =>
    simp only [Sl.len] at hj
    obtain ⟨row, h1, h2, h3, h4, h5, rfl⟩ := sliceCells_row hs (by omega)
    simp only [AHeap.addr, h0, hj, decide_true, Bool.and_true, cond_true, h1, beq_eq, h2, Sl.at]

theorem cellsAt_at {h : AHeap} {sz : Nat} {s : Sl} {cs : List AVal} (hs : h.sliceCells sz s = some cs) {j : Int} (_ : 0 ≤ j) (hj : j < (s.len : Int)) : h.cellsAt sz (s.at sz j) = some ((cs.drop (j.toNat * sz)).take sz) := by
  cases s with
  | nil => simp only [Sl.len] at hj; omega
  | lst n c ds =>
    obtain ⟨rfl, hl⟩ := lst_cells hs
    simp only [Sl.len] at hj
    have hmul : (j.toNat + 1) * sz ≤ n * sz := Nat.mul_le_mul_right _ (by omega)
    rw [Nat.add_mul, Nat.one_mul] at hmul
    have hl2 : ((ds.drop (j.toNat * sz)).take sz).length = sz := by simp; omega
    simp only [Sl.at, AHeap.cellsAt, hl2, ble_eq, Nat.le_refl, decide_true, cond_true, List.take_take, Nat.min_self]
  | mk r n c =>
    simp only [Sl.len] at hj
    obtain ⟨row, h1, h2, h3, h4, h5, rfl⟩ := sliceCells_row hs (by omega)
    have hmul : (j.toNat + 1) * sz ≤ n * sz := Nat.mul_le_mul_right _ (by omega)
    rw [Nat.add_mul, Nat.one_mul] at hmul
    have hle : r.off + j.toNat * sz + sz ≤ row.cells.length := by omega
    simp only [Sl.at, AHeap.cellsAt, ble_eq, Nat.le_refl, decide_true, cond_true, AHeap.span, AHeap.live, h1, h3, h4, Bool.and_self, Option.bind_some, hle]
    rw [← List.drop_drop, List.drop_take, List.take_take, Nat.min_eq_left (by omega)]

theorem cell_at {h : AHeap} {s : Sl} {cs : List AVal} (hs : h.sliceCells 1 s = some cs) {j : Int} {v : AVal} (_ : 0 ≤ j) (hv : cs[j.toNat]? = some v) : h.cell (s.at 1 j) = some v := by
  have hlt := (List.getElem?_eq_some_iff.1 hv).1
  have hlen := sliceCells_len hs
  cases s with
  | nil => simp only [Sl.len, Nat.zero_mul] at hlen; omega
  | lst n c ds =>
    obtain ⟨rfl, hl⟩ := lst_cells hs
    simp only [Sl.at, AHeap.cell, Nat.mul_one]
    rw [List.getElem?_take, if_pos (by omega), List.getElem?_drop, Nat.add_zero]; exact hv
  | mk r n c =>
    simp only [Sl.len, Nat.mul_one] at hlen
    obtain ⟨row, h1, h2, h3, h4, h5, rfl⟩ := sliceCells_row hs (by omega)
    rw [List.getElem?_take, if_pos (by omega), List.getElem?_drop] at hv
    simp only [Sl.at, AHeap.cell, Nat.mul_one, blt_eq, Nat.lt_add_one, decide_true, cond_true, AHeap.live, h1, ble_eq, h3, h4, Bool.and_self, Option.bind_some, hv]

/-- The cells of a list of numbers. -/
abbrev intsC (l : List Int) : List AVal := l.map (.int .i64)
theorem intsC_get {l : List Int} {i : Nat} (h : i < l.length) : (intsC l)[i]? = some (.int .i64 l[i]) := by
  simp [List.getElem?_eq_getElem h]
theorem intsC_getI {l : List Int} {j : Int} (h : j.toNat < l.length) : (intsC l)[j.toNat]? = some (.int .i64 (l.getD j.toNat 0)) := by
  simp [List.getElem?_eq_getElem h]

/-- A number of a slice of numbers, read. -/
theorem readI {h : AHeap} {s : Sl} {c : List Int} (hs : h.sliceCells 1 s = some (intsC c)) {j : Int} (h0 : 0 ≤ j) (hj : j.toNat < c.length) :
    h.addr 1 s j = some (s.at 1 j) ∧ h.cell (s.at 1 j) = some (.int .i64 (c.getD j.toNat 0)) := by
  have hl := sliceCells_len hs
  simp only [List.length_map, Nat.mul_one] at hl
  exact ⟨addr_at hs h0 (by omega), cell_at hs h0 (intsC_getI hj)⟩

/-- A row of the heap's own that is all known. -/
structure Own (h : AHeap) (sz id gen n : Nat) (cs : List AVal) : Prop where
  ex : ∃ row, h.rows[id]? = some row ∧ row.cells = cs ∧ row.gen = gen ∧ row.valid ≤ gen ∧ row.ro = false ∧ row.sz = sz
  len : cs.length = n * sz

abbrev Own.sl (id gen n : Nat) (c : Bool) : Sl := .mk ⟨id, gen, 0⟩ n c

theorem Own.lt {h : AHeap} {sz id gen n : Nat} {cs : List AVal} (ho : Own h sz id gen n cs) : id < h.rows.length := by
  obtain ⟨⟨row, h1, _⟩, _⟩ := ho
  exact (List.getElem?_eq_some_iff.1 h1).1

theorem Own.cells {h : AHeap} {sz id gen n : Nat} {cs : List AVal} (ho : Own h sz id gen n cs) (c : Bool) : h.sliceCells sz (.mk ⟨id, gen, 0⟩ n c) = some cs := by
  obtain ⟨⟨row, h1, rfl, h3, h4, h5, h6⟩, hl⟩ := ho
  rw [sliceCells_of (r := ⟨id, gen, 0⟩) h1 h6 h4 (by rw [h3]; exact Nat.le_refl _) (by rw [hl]; simp)]
  simp only [List.drop_zero]
  rw [List.take_of_length_le (by omega)]

theorem Own.keep {h h' : AHeap} {t : Nat → Prop} (hk : Keeps h h' t) {sz id gen n : Nat} {cs : List AVal} (ho : Own h sz id gen n cs) (hn : ¬ t id) : Own h' sz id gen n cs := by
  obtain ⟨⟨row, h1, h2⟩, hl⟩ := ho
  exact ⟨⟨row, hk.2 _ _ h1 hn, h2⟩, hl⟩

theorem Own.push (h : AHeap) (sz n : Nat) (cs : List AVal) (hl : cs.length = n * sz) : Own (h.push sz cs) sz h.rows.length 0 n cs :=
  ⟨⟨{ cells := cs, sz := sz }, by simp [AHeap.push], rfl, rfl, Nat.le_refl _, rfl, rfl⟩, hl⟩

/-- A cell written. -/
theorem Own.store {h : AHeap} {id gen n : Nat} {cs : List AVal} (ho : Own h 1 id gen n cs) {j : Int} (h0 : 0 ≤ j) (hj : j < (n : Int)) (c : Bool) (v : AVal) :
    h.addr 1 (.mk ⟨id, gen, 0⟩ n c) j = some (Sl.at (.mk ⟨id, gen, 0⟩ n c) 1 j) ∧
    ∃ h', h.storeAt [v] (Sl.at (.mk ⟨id, gen, 0⟩ n c) 1 j) = some h' ∧ Own h' 1 id gen n (cs.set j.toNat v) ∧ Keeps h h' (· = id) ∧ h'.rows.length = h.rows.length := by
  refine ⟨addr_at (ho.cells c) h0 (by simpa [Sl.len] using hj), ?_⟩
  obtain ⟨⟨row, h1, rfl, rfl, h4, h5, h6⟩, hl⟩ := ho
  have hlt := (List.getElem?_eq_some_iff.1 h1).1
  rw [Nat.mul_one] at hl
  have e : AHeap.overlay row.cells (0 + j.toNat * 1) [v] = row.cells.set j.toNat v := by
    rw [List.set_eq_take_append_cons_drop, if_pos (by omega)]
    simp [AHeap.overlay]
  have hle : 0 + j.toNat * 1 + 1 ≤ row.cells.length := by omega
  refine ⟨h.setRow id { row with cells := row.cells.set j.toNat v, valid := row.gen }, ?_, ⟨⟨{ row with cells := row.cells.set j.toNat v, valid := row.gen }, ?_, rfl, rfl, Nat.le_refl _, h5, h6⟩, by simpa using hl⟩, Keeps.setRow _ _ _, by simp [AHeap.setRow]⟩
  · simp only [Sl.at, AHeap.storeAt, List.length_singleton, ble_eq, Nat.le_refl, decide_true, cond_true, AHeap.store, h1, h5, Bool.not_false, beq_eq, Bool.and_self, hle, e]
  · simp only [AHeap.setRow]
    exact List.getElem?_set_self hlt

theorem Own.intsStore {h : AHeap} {id gen n : Nat} {l : List Int} (ho : Own h 1 id gen n (intsC l)) {j : Int} (h0 : 0 ≤ j) (hj : j < (n : Int)) (c : Bool) (x : Int) :
    h.addr 1 (.mk ⟨id, gen, 0⟩ n c) j = some (Sl.at (.mk ⟨id, gen, 0⟩ n c) 1 j) ∧
    ∃ h', h.storeAt [.int .i64 x] (Sl.at (.mk ⟨id, gen, 0⟩ n c) 1 j) = some h' ∧ Own h' 1 id gen n (intsC (l.set j.toNat x)) ∧ Keeps h h' (· = id) ∧ h'.rows.length = h.rows.length := by
  have := ho.store h0 hj c (.int .i64 x)
  rwa [← List.map_set] at this

/-- Nothing but new rows. -/
abbrev Ext (h h' : AHeap) : Prop := Keeps h h' fun _ => False
theorem Ext.to {h h' : AHeap} (he : Ext h h') (t : Nat → Prop) : Keeps h h' t := he.mono fun _ _ => False.elim
theorem Keeps.toNew {a b c : AHeap} (h : Ext a b) {t : Nat → Prop} (k : Keeps b c t) (ht : ∀ i, t i → a.rows.length ≤ i) : Ext a c :=
  ⟨Nat.le_trans h.1 k.1, fun i row hi _ => k.2 i row (h.2 i row hi id) fun hti => by
    have := ht i hti
    have := (List.getElem?_eq_some_iff.1 hi).1
    omega, fun m es hm => k.3 m es (h.3 m es hm)⟩

theorem repeat_one (a : AVal) (n : Nat) : repeatCells [a] n = List.replicate n a := by
  induction n with
  | zero => rfl
  | succ n ih => simp [repeatCells, ih, List.replicate_succ]

/-- A slice that is read lies in a row that is there. -/
theorem sliceCells_lt {h : AHeap} {sz : Nat} {s : Sl} {cs : List AVal} (hs : h.sliceCells sz s = some cs) {r : Nat} (hr : s.row = some r) (hn : s.len ≠ 0) : r < h.rows.length := by
  cases s with
  | nil => cases hr
  | lst => cases hr
  | mk r' n c =>
    have hr' := Sl.row_some hr
    subst hr'
    obtain ⟨row, h1, _⟩ := sliceCells_row hs hn
    exact (List.getElem?_eq_some_iff.1 h1).1
/-- A slice whose cells don't lie in row j. -/
def Sl.Apart (s : Sl) (j : Nat) : Prop := ∀ r, s.row = some r → s.len ≠ 0 → r ≠ j
theorem apart_new {h : AHeap} {sz : Nat} {s : Sl} {cs : List AVal} (hs : h.sliceCells sz s = some cs) {j : Nat} (hj : h.rows.length ≤ j) : s.Apart j := fun r hr hn => by
  have := sliceCells_lt hs hr hn; omega
theorem sliceCells_one {h h' : AHeap} {j : Nat} (hk : Keeps h h' (· = j)) {s : Sl} {sz : Nat} {cs : List AVal} (hs : h.sliceCells sz s = some cs) (ha : s.Apart j) : h'.sliceCells sz s = some cs :=
  sliceCells_keep hk hs fun r hr hn => ha r hr hn
theorem sliceCells_ext {h h' : AHeap} (hk : Ext h h') {s : Sl} {sz : Nat} {cs : List AVal} (hs : h.sliceCells sz s = some cs) : h'.sliceCells sz s = some cs :=
  sliceCells_keep hk hs fun _ _ _ => id

/-- A slice in rows from some on. -/
def Sl.From (s : Sl) (b : Nat) : Prop := ∀ r, s.row = some r → b ≤ r
theorem Sl.From.nil (b : Nat) : Sl.From .nil b := fun r h => by cases h
theorem Sl.From.mono {s : Sl} {a b : Nat} (h : s.From b) (hab : a ≤ b) : s.From a := fun r hr => Nat.le_trans hab (h r hr)

/-- One more element at a slice's end, as 'append(s, x)' makes it. -/
theorem growOne {h : AHeap} {sz bytes : Nat} {s : Sl} {cs vs : List AVal} (hg : Grown h sz s cs) (hv : vs.length = sz) (hb : (s.len + 1) * bytes ≤ 140737488355328) (hb' : s.len + 1 ≤ 140737488355328) :
    AHeap.sliceCells (AHeap.push h sz vs) sz (Sl.mk ⟨AHeap.next h, 0, 0⟩ 1 true) = some vs ∧
    ∃ s' h', AHeap.append (AHeap.push h sz vs) false sz bytes s (Sl.mk ⟨AHeap.next h, 0, 0⟩ 1 true).len vs = some (s', h') ∧ Grown h' sz s' (cs ++ vs) ∧ s'.len = s.len + 1 ∧ Keeps h h' (fun i => s.row = some i) ∧
      (∀ b, s.From b → b ≤ h.rows.length → s'.From b) ∧ (∀ r, s'.row = some r → s.row = some r ∨ h.rows.length ≤ r) := by
  have hown := Own.push h sz 1 vs (by rw [Nat.one_mul]; exact hv)
  have hk := Keeps.push h sz vs (fun i => s.row = some i)
  have hg' : Grown (h.push sz vs) sz s cs := hg.keep (Keeps.push h sz vs fun _ => False) fun _ _ => id
  obtain ⟨s', h', e1, e2, e3, e4, e5⟩ := hg'.append (bytes := bytes) (m := 1) (xs := vs) (by rw [Nat.one_mul]; exact hv) (by omega) hb hb' some
  have hbs : ∀ x : Option (Sl × AHeap), x.bind some = x := fun x => by cases x <;> rfl
  rw [hbs] at e1
  refine ⟨hown.cells true, s', h', e1, e2, e4, hk.trans e3, fun b hf hbl r hr => ?_, fun r hr => ?_⟩
  rcases e5 with e5 | e5
  · exact hf r (by rw [← e5]; exact hr)
  · rw [e5] at hr
    cases hr
    have := hk.1; omega
  · rcases e5 with e5 | e5
    · left; rw [← e5]; exact hr
    · rw [e5] at hr
      cases hr
      right
      exact hk.1

theorem growOneExt {h0 h : AHeap} (hx : Ext h0 h) {sz bytes : Nat} {s : Sl} {cs vs : List AVal} (hf : s.From h0.rows.length) (hg : Grown h sz s cs) (hv : vs.length = sz) (hb : (s.len + 1) * bytes ≤ 140737488355328) (hb' : s.len + 1 ≤ 140737488355328) :
    AHeap.sliceCells (AHeap.push h sz vs) sz (Sl.mk ⟨AHeap.next h, 0, 0⟩ 1 true) = some vs ∧
    ∃ s' h', AHeap.append (AHeap.push h sz vs) false sz bytes s (Sl.mk ⟨AHeap.next h, 0, 0⟩ 1 true).len vs = some (s', h') ∧ Grown h' sz s' (cs ++ vs) ∧ s'.len = s.len + 1 ∧ Ext h0 h' ∧ s'.From h0.rows.length := by
  obtain ⟨e0, s', h', e1, e2, e3, e4, e5, _⟩ := growOne hg hv hb hb'
  exact ⟨e0, s', h', e1, e2, e3, Keeps.toNew hx e4 hf, e5 _ hf hx.1⟩

theorem Grown.row_lt {h : AHeap} {sz : Nat} {s : Sl} {cs : List AVal} (hg : Grown h sz s cs) {r : Nat} (hr : s.row = some r) : r < h.rows.length := by
  cases hg with
  | nil => cases hr
  | none => cases hr
  | room h1 => cases hr; exact (List.getElem?_eq_some_iff.1 h1).1
  | row h1 => cases hr; exact (List.getElem?_eq_some_iff.1 h1).1
  | full h0 h1 => rw [Sl.row_some hr]; exact (List.getElem?_eq_some_iff.1 h1).1

/-- A slice of slices of numbers. -/
def Nest (h : AHeap) (s : Sl) (cc : List (List Int)) : Prop :=
  ∃ ss : List Sl, h.sliceCells 1 s = some (ss.map AVal.slice) ∧ ss.length = cc.length ∧ ∀ (k : Nat) s' c, ss[k]? = some s' → cc[k]? = some c → h.sliceCells 1 s' = some (intsC c)

theorem Nest.ext {h h' : AHeap} {s : Sl} {cc : List (List Int)} (hn : Nest h s cc) (hk : Ext h h') : Nest h' s cc := by
  obtain ⟨ss, h1, h2, h3⟩ := hn
  exact ⟨ss, sliceCells_ext hk h1, h2, fun k s' c a b => sliceCells_ext hk (h3 k s' c a b)⟩
theorem Nest.len {h : AHeap} {s : Sl} {cc : List (List Int)} (hn : Nest h s cc) : s.len = cc.length := by
  obtain ⟨ss, h1, h2, _⟩ := hn
  have := sliceCells_len h1
  simp at this
  omega
theorem Nest.read {h : AHeap} {s : Sl} {cc : List (List Int)} (hn : Nest h s cc) {m : Nat} (hm : m < cc.length) :
    ∃ s', h.addr 1 s (m : Int) = some (s.at 1 (m : Int)) ∧ h.cell (s.at 1 (m : Int)) = some (.slice s') ∧ h.sliceCells 1 s' = some (intsC (cc.getD m [])) ∧ s'.len = (cc.getD m []).length := by
  have hl := hn.len
  obtain ⟨ss, h1, h2, h3⟩ := hn
  have hg : ss[m]? = some ss[m] := List.getElem?_eq_getElem (by omega)
  have hc : cc[m]? = some (cc.getD m []) := by rw [List.getD_eq_getElem?_getD, List.getElem?_eq_getElem hm]; rfl
  have h4 := h3 m _ _ hg hc
  refine ⟨ss[m], addr_at h1 (by omega) (by omega), cell_at h1 (by omega) (by simp [hg]), h4, ?_⟩
  have := sliceCells_len h4
  simp at this
  rw [List.getD_eq_getElem?_getD]
  omega

/-- A place some cells on. -/
def Pt.fld (o : Nat) : Pt → Pt
  | .nil => .nil
  | .mk r l => .mk ⟨r.id, r.gen, r.off + o⟩ l
  | .fp _ cs => .fp 0 (cs.drop o)

/-- A field of an element, read. -/
theorem cell_fld {h : AHeap} {sz : Nat} {s : Sl} {cs : List AVal} (hs : h.sliceCells sz s = some cs) {j : Int} (h0 : 0 ≤ j) (hj : j < (s.len : Int)) {o : Nat} (ho : o < sz) {v : AVal} (hv : cs[j.toNat * sz + o]? = some v) :
    Pt.field o (s.at sz j) = some ((s.at sz j).fld o) ∧ h.cell ((s.at sz j).fld o) = some v := by
  cases s with
  | nil => simp only [Sl.len] at hj; omega
  | lst n c ds =>
    obtain ⟨rfl, hl⟩ := lst_cells hs
    refine ⟨rfl, ?_⟩
    simp only [Sl.at, Pt.fld, AHeap.cell]
    rw [List.getElem?_drop, Nat.add_zero, List.getElem?_take, if_pos ho, List.getElem?_drop]
    exact hv
  | mk r n c =>
    simp only [Sl.len] at hj
    obtain ⟨row, h1, h2, h3, h4, h5, rfl⟩ := sliceCells_row hs (by omega)
    have hmul : (j.toNat + 1) * sz ≤ n * sz := Nat.mul_le_mul_right _ (by omega)
    rw [Nat.add_mul, Nat.one_mul] at hmul
    rw [List.getElem?_take, if_pos (by omega), List.getElem?_drop, ← Nat.add_assoc] at hv
    refine ⟨rfl, ?_⟩
    have hlt : r.off + j.toNat * sz + o < r.off + j.toNat * sz + sz := by omega
    simp only [Sl.at, Pt.fld, AHeap.cell, blt_eq, hlt, decide_true, cond_true, AHeap.live, h1, ble_eq, h3, h4, Bool.and_self, Option.bind_some, hv]

/-- The cells of pairs of numbers. -/
abbrev pairsC (l : List (Int × Int)) : List AVal := l.flatMap fun p => [.int .i64 p.1, .int .i64 p.2]

theorem pairsC_get : ∀ {l : List (Int × Int)} {m : Nat} {p : Int × Int}, l[m]? = some p → (pairsC l)[m * 2 + 0]? = some (.int .i64 p.1) ∧ (pairsC l)[m * 2 + 1]? = some (.int .i64 p.2)
  | [], m, p, h => by simp at h
  | q :: l, 0, p, h => by
    simp at h
    subst h
    exact ⟨rfl, rfl⟩
  | q :: l, m + 1, p, h => by
    obtain ⟨h1, h2⟩ := pairsC_get (l := l) (m := m) (p := p) (by simpa using h)
    have e0 : (m + 1) * 2 + 0 = (m * 2 + 0) + 1 + 1 := by omega
    have e1 : (m + 1) * 2 + 1 = (m * 2 + 1) + 1 + 1 := by omega
    have ec : pairsC (q :: l) = .int .i64 q.1 :: .int .i64 q.2 :: pairsC l := rfl
    rw [e0, e1, ec, List.getElem?_cons_succ, List.getElem?_cons_succ, List.getElem?_cons_succ, List.getElem?_cons_succ]
    exact ⟨h1, h2⟩

theorem pairsC_len (l : List (Int × Int)) : (pairsC l).length = l.length * 2 := by
  induction l with
  | nil => rfl
  | cons q l ih =>
    have ec : pairsC (q :: l) = .int .i64 q.1 :: .int .i64 q.2 :: pairsC l := rfl
    rw [ec, List.length_cons, List.length_cons, ih, List.length_cons]
    omega

theorem readP {h : AHeap} {s : Sl} {l : List (Int × Int)} (hs : h.sliceCells 2 s = some (pairsC l)) {m : Nat} (hm : m < l.length) :
    h.addr 2 s (m : Int) = some (s.at 2 (m : Int)) ∧ Pt.field 0 (s.at 2 (m : Int)) = some ((s.at 2 (m : Int)).fld 0) ∧ Pt.field 1 (s.at 2 (m : Int)) = some ((s.at 2 (m : Int)).fld 1) ∧
      h.cell ((s.at 2 (m : Int)).fld 0) = some (.int .i64 (l.getD m (0, 0)).1) ∧ h.cell ((s.at 2 (m : Int)).fld 1) = some (.int .i64 (l.getD m (0, 0)).2) := by
  have hl := sliceCells_len hs
  rw [pairsC_len] at hl
  have hg : l[m]? = some (l.getD m (0, 0)) := by rw [List.getD_eq_getElem?_getD, List.getElem?_eq_getElem hm]; rfl
  obtain ⟨g0, g1⟩ := pairsC_get hg
  obtain ⟨a1, a2⟩ := cell_fld hs (j := (m : Int)) (o := 0) (by omega) (by omega) (by omega) (by rw [Int.toNat_natCast]; exact g0)
  obtain ⟨b1, b2⟩ := cell_fld hs (j := (m : Int)) (o := 1) (by omega) (by omega) (by omega) (by rw [Int.toNat_natCast]; exact g1)
  exact ⟨addr_at hs (by omega) (by omega), a1, b1, a2, b2⟩

end Go.Proofs.YtmjbjgbcpaagmaaDoor
