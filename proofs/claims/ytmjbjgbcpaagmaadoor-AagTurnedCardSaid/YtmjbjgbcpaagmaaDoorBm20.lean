/-
  Plain facts of abstract heaps.
-/
import Derived.Test.YtmjbjgbcpaagmaaDoorBm19
import Derived.Laws.BitsLemmas
import Derived.Laws.BitsAllLaws
namespace Go.Proofs.YtmjbjgbcpaagmaaDoor
open Go.RowKit

/-- Something that nothing unfolds. -/
noncomputable def hide {α : Sort _} (a : α) : α := Classical.choose (⟨a, rfl⟩ : ∃ x, x = a)
theorem hide_eq {α : Sort _} (a : α) : hide a = a := Classical.choose_spec (⟨a, rfl⟩ : ∃ x, x = a)

theorem bool_bool (b : Bool) : AVal.bool? (.bool b) = some b := rfl
theorem int_int (k : IntKind) (n : Int) : AVal.int? k (.int k n) = some n := by simp [AVal.int?]
theorem str_str (s : ByteArray) : AVal.str? (.str s) = some s := rfl
theorem ptr_ptr (p : Pt) : AVal.ptr? (.ptr p) = some p := rfl
theorem slice_slice (s : Sl) : AVal.slice? (.slice s) = some s := rfl
theorem map_map (m : Option Nat) : AVal.map? (.map m) = some m := rfl
theorem agg_agg (cs : List AVal) : AVal.agg? (.agg cs) = some cs := rfl
theorem comp_tup (i : Nat) (vs : List AVal) : AVal.comp i (.tup vs) = vs[i]? := rfl
theorem isTup_tup (n : Nat) (vs : List AVal) : AVal.isTup n (.tup vs) = Nat.beq vs.length n := rfl
theorem chk_mk (r : Ref) (l : Nat) : Pt.chk (.mk r l) = some (.mk r l) := rfl
theorem field_mk (o : Nat) (r : Ref) (l : Nat) : Pt.field o (.mk r l) = some (.mk ⟨r.id, r.gen, r.off + o⟩ l) := rfl
theorem nilTest_ptr_nil : nilTest .ptr (.ptr .nil) = some true := rfl
theorem nilTest_ptr_mk (r : Ref) (l : Nat) : nilTest .ptr (.ptr (.mk r l)) = some false := rfl
theorem nilTest_slice_nil : nilTest .slice (.slice .nil) = some true := rfl
theorem nilTest_slice_mk (r : Ref) (l : Nat) (c : Bool) : nilTest .slice (.slice (.mk r l c)) = some false := rfl
theorem nilTest_nilif : nilTest .iface .nilif = some true := rfl
theorem len_nil : Sl.len .nil = 0 := rfl
theorem len_mk (r : Ref) (n : Nat) (c : Bool) : Sl.len (.mk r n c) = n := rfl
theorem next_len (h : AHeap) : AHeap.next h = h.rows.length := rfl
theorem kBlock_ret {β : Type} (id : Nat) (k : Kx β) (fr : Fr) (h : AHeap) : kBlock id k .ret fr h = k .ret fr h := rfl

theorem same_self {β : Type} (v : AVal × AHeap) (k : Option β) : same (some v) v k = k := same_eq k rfl

theorem wrap64 {n : Int} (h0 : -9223372036854775808 ≤ n) (h1 : n ≤ 9223372036854775807) : IntKind.wrap .i64 n = n := by
  rw [IntKind.wrap_i64]; omega

theorem beq_eq {a b : Nat} : Nat.beq a b = decide (a = b) := by
  rw [Bool.eq_iff_iff]; simp
theorem ble_eq {a b : Nat} : Nat.ble a b = decide (a ≤ b) := by
  rw [Bool.eq_iff_iff]; simp
theorem blt_eq {a b : Nat} : Nat.blt a b = decide (a < b) := by
  rw [Bool.eq_iff_iff]; simp

/-- The row that a slice lies in. -/
def Sl.row : Sl → Option Nat
  | .nil => none
  | .mk r n c => bif c && Nat.beq n 0 then none else some r.id
  | .lst _ _ _ => none
theorem Sl.row_mk {r : Ref} {n : Nat} (h : n ≠ 0) (c : Bool) : Sl.row (.mk r n c) = some r.id := by simp [Sl.row, beq_eq, h]
theorem Sl.row_open (r : Ref) (n : Nat) : Sl.row (.mk r n false) = some r.id := rfl
theorem Sl.row_some {r : Ref} {n : Nat} {c : Bool} {i : Nat} (h : Sl.row (.mk r n c) = some i) : i = r.id := by
  simp only [Sl.row] at h
  cases hc : (c && Nat.beq n 0) <;> rw [hc] at h <;> simp at h
  exact h.symm

/-- These rows are as they were. -/
structure Keeps (h h' : AHeap) (t : Nat → Prop) : Prop where
  len : h.rows.length ≤ h'.rows.length
  rows : ∀ (i : Nat) row, h.rows[i]? = some row → ¬ t i → h'.rows[i]? = some row
  maps : ∀ (m : Nat) es, h.maps[m]? = some es → h'.maps[m]? = some es

theorem Keeps.refl (h : AHeap) (t : Nat → Prop) : Keeps h h t := ⟨Nat.le_refl _, fun _ _ h _ => h, fun _ _ h => h⟩
theorem Keeps.trans {a b c : AHeap} {t : Nat → Prop} (h : Keeps a b t) (k : Keeps b c t) : Keeps a c t := ⟨Nat.le_trans h.1 k.1, fun i row hi ht => k.2 i row (h.2 i row hi ht) ht, fun m es hm => k.3 m es (h.3 m es hm)⟩
theorem Keeps.mono {a b : AHeap} {t u : Nat → Prop} (h : Keeps a b t) (hu : ∀ i, i < a.rows.length → t i → u i) : Keeps a b u :=
  ⟨h.1, fun i row hi hn => h.2 i row hi fun ht => hn (hu i (List.getElem?_eq_some_iff.1 hi).1 ht), h.3⟩
theorem Keeps.push (h : AHeap) (sz : Nat) (cs : List AVal) (t : Nat → Prop) : Keeps h (h.push sz cs) t :=
  ⟨by simp [AHeap.push], fun i row hi _ => (getElem?_append_one _ _ _ _).2 (.inl ⟨(List.getElem?_eq_some_iff.1 hi).1, hi⟩), fun _ _ h => h⟩
theorem Keeps.setRow (h : AHeap) (i : Nat) (r : ARow) : Keeps h (h.setRow i r) (· = i) :=
  ⟨by simp [AHeap.setRow], fun j row hj hn => by simp only [AHeap.setRow]; rw [List.getElem?_set_ne (fun e => hn e.symm)]; exact hj, fun _ _ h => h⟩
theorem Keeps.newMap (h : AHeap) (t : Nat → Prop) : Keeps h h.newMap t :=
  ⟨Nat.le_refl _, fun _ _ h _ => h, fun m es hm => (getElem?_append_one _ _ _ _).2 (.inl ⟨(List.getElem?_eq_some_iff.1 hm).1, hm⟩)⟩

theorem sliceCells_keep {h h' : AHeap} {t : Nat → Prop} (hk : Keeps h h' t) {s : Sl} {sz : Nat} {cs : List AVal} (hs : h.sliceCells sz s = some cs) (hn : ∀ i, s.row = some i → s.len ≠ 0 → ¬ t i) : h'.sliceCells sz s = some cs := by
  cases s with
  | nil => exact hs
  | lst => exact hs
  | mk r n c =>
    simp only [AHeap.sliceCells, Bool.cond_eq_ite] at hs ⊢
    split at hs
    · rename_i h0; rw [if_pos h0]; exact hs
    · rename_i h0
      rw [if_neg h0]
      split at hs
      · rename_i row hrow
        have h9 : n ≠ 0 := fun e => h0 (by rw [e]; rfl)
        have := hk.2 _ row hrow (hn _ (Sl.row_mk h9 c) h9)
        rw [this]
        simp only
        split at hs
        · rename_i hsz
          rw [if_pos hsz]
          simp only [AHeap.span, AHeap.live, hrow, this] at hs ⊢
          exact hs
        · cases hs
      · cases hs

/-- What a slice's cells are, row by row. -/
theorem sliceCells_row {h : AHeap} {sz : Nat} {r : Ref} {n : Nat} {c : Bool} {cs : List AVal} (hs : h.sliceCells sz (.mk r n c) = some cs) (hn : n ≠ 0) :
    ∃ row, h.rows[r.id]? = some row ∧ row.sz = sz ∧ row.valid ≤ r.gen ∧ r.gen ≤ row.gen ∧ r.off + n * sz ≤ row.cells.length ∧ cs = (row.cells.drop r.off).take (n * sz) := by
  simp only [AHeap.sliceCells, Bool.cond_eq_ite, beq_eq, decide_eq_true_eq, if_neg hn] at hs
  split at hs
  case h_2 => cases hs
  rename_i row hrow
  split at hs
  case isFalse => cases hs
  rename_i hsz
  simp only [AHeap.span, AHeap.live, hrow, Bool.cond_eq_ite] at hs
  split at hs
  case isFalse => cases hs
  rename_i hv
  simp only [Bool.and_eq_true, nble] at hv
  simp only [Option.bind_some] at hs
  split at hs
  case isFalse => cases hs
  rename_i hl
  rw [nble] at hl
  simp at hs
  exact ⟨row, hrow, nbeq.1 (by rw [beq_eq]; simpa using hsz), hv.1, hv.2, hl, hs.symm⟩

theorem sliceCells_of {h : AHeap} {sz : Nat} {r : Ref} {n : Nat} {c : Bool} {row : ARow} (h1 : h.rows[r.id]? = some row) (h2 : row.sz = sz) (h3 : row.valid ≤ r.gen) (h4 : r.gen ≤ row.gen) (h5 : r.off + n * sz ≤ row.cells.length) :
    h.sliceCells sz (.mk r n c) = some ((row.cells.drop r.off).take (n * sz)) := by
  simp only [AHeap.sliceCells, Bool.cond_eq_ite, beq_eq, decide_eq_true_eq]
  split
  · rename_i h0; subst h0; simp
  · simp [h1, h2, AHeap.span, AHeap.live, h3, h4, h5, ble_eq]

theorem sliceCells_len {h : AHeap} {sz : Nat} {s : Sl} {cs : List AVal} (hs : h.sliceCells sz s = some cs) : cs.length = s.len * sz := by
  cases s with
  | nil => simp [AHeap.sliceCells] at hs; subst hs; simp [Sl.len]
  | lst n c ds =>
    simp only [AHeap.sliceCells, Bool.cond_eq_ite] at hs
    split at hs
    · rename_i h0; rw [nbeq] at h0; cases hs; exact h0
    · cases hs
  | mk r n c =>
    by_cases hn : n = 0
    · subst hn
      simp [AHeap.sliceCells] at hs
      subst hs; simp [Sl.len]
    · obtain ⟨row, _, _, _, _, h5, rfl⟩ := sliceCells_row hs hn
      simp [Sl.len]; omega

/-- A cell of a slice of one-cell elements, read. -/
theorem read1 {h : AHeap} {s : Sl} {cs : List AVal} (hs : h.sliceCells 1 s = some cs) {j : Int} {v : AVal} (h0 : 0 ≤ j) (hv : cs[j.toNat]? = some v) {β : Type} (k : AVal → Option β) :
    ((h.addr 1 s j).bind fun p => (h.cell p).bind k) = k v := by
  have hlt := (List.getElem?_eq_some_iff.1 hv).1
  have hlen := sliceCells_len hs
  cases s with
  | nil => simp only [Sl.len, Nat.zero_mul] at hlen; omega
  | lst n c ds =>
    simp only [Sl.len, Nat.mul_one] at hlen
    have hds : ds = cs := by
      simp only [AHeap.sliceCells, Bool.cond_eq_ite] at hs
      split at hs
      · cases hs; rfl
      · cases hs
    subst hds
    have hj' : j < (n : Int) := by omega
    have h9 : ((ds.drop j.toNat).take 1)[0]? = some v := by
      rw [List.getElem?_take, if_pos (by omega), List.getElem?_drop, Nat.add_zero]; exact hv
    simp only [AHeap.addr, h0, hj', decide_true, Bool.and_self, cond_true, Option.bind_some, AHeap.cell, Nat.mul_one, h9]
  | mk r n c =>
    simp only [Sl.len, Nat.mul_one] at hlen
    obtain ⟨row, h1, h2, h3, h4, h5, rfl⟩ := sliceCells_row hs (by omega)
    have hj : j.toNat < n := by omega
    have hj' : j < (n : Int) := by omega
    rw [List.getElem?_take, if_pos (by omega), List.getElem?_drop] at hv
    simp only [AHeap.addr, h0, hj', decide_true, Bool.and_true, cond_true, h1, beq_eq, h2, Option.bind_some, AHeap.cell, Nat.mul_one, blt_eq, Nat.lt_add_one, AHeap.live, ble_eq, h3, h4, hv]

/-- .. written: the row is the heap's own. -/
theorem write1 {h : AHeap} {r : Ref} {n : Nat} {c : Bool} {row : ARow} (h1 : h.rows[r.id]? = some row) (h2 : row.sz = 1) (h3 : row.gen = r.gen) (h4 : row.ro = false) (h5 : r.off + n ≤ row.cells.length) {j : Int} (h0 : 0 ≤ j) (hj : j < (n : Int)) (v : AVal) {β : Type} (k : AHeap → Option β) :
    ((h.addr 1 (.mk r n c) j).bind fun p => (h.storeAt [v] p).bind k) = k (h.setRow r.id { row with cells := row.cells.set (r.off + j.toNat) v, valid := row.gen }) := by
  have e : AHeap.overlay row.cells (r.off + j.toNat) [v] = row.cells.set (r.off + j.toNat) v := by
    rw [List.set_eq_take_append_cons_drop, if_pos (by omega)]
    simp [AHeap.overlay]
  have hle : r.off + j.toNat + 1 ≤ row.cells.length := by omega
  simp only [AHeap.addr, h0, hj, decide_true, Bool.and_true, cond_true, h1, beq_eq, h2, Option.bind_some, Nat.mul_one, AHeap.storeAt, ble_eq, List.length_singleton, Nat.le_refl, AHeap.store, h4, Bool.not_false, h3, hle, e]

/-- A cell behind a pointer. -/
theorem cell_row {h : AHeap} {r : Ref} {l : Nat} {row : ARow} (h1 : h.rows[r.id]? = some row) (h3 : row.valid ≤ r.gen) (h4 : r.gen ≤ row.gen) (hl : r.off < l) : h.cell (.mk r l) = row.cells[r.off]? := by
  simp [AHeap.cell, AHeap.live, h1, h3, h4, hl, blt_eq, ble_eq]

/-- A slice that grows by append: the whole of a row of the heap's own. -/
inductive Grown (h : AHeap) (sz : Nat) : Sl → List AVal → Prop
  | nil : Grown h sz .nil []
  | none {r : Ref} : Grown h sz (.mk r 0 true) []
  | room {id gen} {row : ARow} (h1 : h.rows[id]? = some row) (hg : row.gen = gen) (hv : row.valid ≤ gen) (hr : row.ro = false) (hs : row.sz = sz) : Grown h sz (.mk ⟨id, gen, 0⟩ 0 false) []
  | row {id gen n cs} {row : ARow} (h1 : h.rows[id]? = some row) (hc : row.cells = cs) (hn : cs.length = n * sz) (hg : row.gen = gen) (hv : row.valid ≤ gen) (hr : row.ro = false) (hs : row.sz = sz) : Grown h sz (.mk ⟨id, gen, 0⟩ n false) cs
  | full {id gen n cs} {row : ARow} (h0 : n ≠ 0) (h1 : h.rows[id]? = some row) (hc : row.cells = cs) (hn : cs.length = n * sz) (hg : row.gen = gen) (hv : row.valid ≤ gen) (hr : row.ro = false) (hs : row.sz = sz) : Grown h sz (.mk ⟨id, gen, 0⟩ n true) cs

theorem Grown.cells {h : AHeap} {sz : Nat} {s : Sl} {cs : List AVal} (hg : Grown h sz s cs) : h.sliceCells sz s = some cs := by
  cases hg with
  | nil => rfl
  | none => rfl
  | room => rfl
  | row h1 hc hn hg hv hr hs =>
    rw [sliceCells_of (r := ⟨_, _, 0⟩) h1 hs hv (by rw [hg]; exact Nat.le_refl _) (by rw [hc, hn]; simp)]
    simp only [List.drop_zero, hc]
    rw [List.take_of_length_le (by omega)]
  | full h0 h1 hc hn hg hv hr hs =>
    rw [sliceCells_of (r := ⟨_, _, 0⟩) h1 hs hv (by rw [hg]; exact Nat.le_refl _) (by rw [hc, hn]; simp)]
    simp only [List.drop_zero, hc]
    rw [List.take_of_length_le (by omega)]

theorem Grown.keep {h h' : AHeap} {t : Nat → Prop} (hk : Keeps h h' t) {sz : Nat} {s : Sl} {cs : List AVal} (hg : Grown h sz s cs) (hn : ∀ i, s.row = some i → ¬ t i) : Grown h' sz s cs := by
  cases hg with
  | nil => exact .nil
  | none => exact .none
  | room h1 hg hv hr hs => exact .room (hk.2 _ _ h1 (hn _ rfl)) hg hv hr hs
  | row h1 hc hn' hg hv hr hs => exact .row (hk.2 _ _ h1 (hn _ rfl)) hc hn' hg hv hr hs
  | full h0 h1 hc hn' hg hv hr hs => exact .full h0 (hk.2 _ _ h1 (hn _ (Sl.row_mk h0 true))) hc hn' hg hv hr hs

/-- One append to such a slice. -/
theorem Grown.append {h : AHeap} {sz bytes : Nat} {s : Sl} {cs xs : List AVal} {m : Nat} (hg : Grown h sz s cs) (hm : xs.length = m * sz) (h0 : m ≠ 0) (hb : (s.len + m) * bytes ≤ 140737488355328) (hb' : s.len + m ≤ 140737488355328) {β : Type} (k : Sl × AHeap → Option β) :
    ∃ s' h', ((h.append false sz bytes s m xs).bind k) = k (s', h') ∧ Grown h' sz s' (cs ++ xs) ∧ Keeps h h' (fun i => s.row = some i) ∧ s'.len = s.len + m ∧ (s'.row = s.row ∨ s'.row = some h.rows.length) := by
  cases hg with
  | nil =>
    refine ⟨.mk ⟨h.next, 0, 0⟩ m false, h.push sz xs, ?_, ?_, Keeps.push _ _ _ _, by simp [Sl.len], .inr rfl⟩
    · simp only [Sl.len, Nat.zero_add] at hb hb'
      simp [AHeap.append, beq_eq, ble_eq, h0, Sl.len, hb, hb']
    · exact .row (row := { cells := xs, sz := sz }) (by simp [AHeap.push, AHeap.next]) (by simp) hm rfl (Nat.le_refl _) rfl rfl
  | @room id gen row h1 hg hv hr hs =>
    subst hg hs
    simp only [Sl.len, Nat.zero_add] at hb hb'
    refine ⟨.mk ⟨id, row.gen + 1, 0⟩ m false, h.setRow id { sz := row.sz, cells := xs, gen := row.gen + 1, valid := bif Nat.beq row.gen row.gen && Nat.beq 0 row.cells.length then row.valid else row.gen + 1, ro := false }, ?_, ?_, ?_, by simp [Sl.len], .inl rfl⟩
    · simp [AHeap.append, beq_eq, ble_eq, h0, Sl.len, hb, hb', h1, hr, hv]
    · refine .row (row := { sz := row.sz, cells := xs, gen := row.gen + 1, valid := bif Nat.beq row.gen row.gen && Nat.beq 0 row.cells.length then row.valid else row.gen + 1, ro := false }) ?_ (by simp) hm rfl ?_ rfl rfl
      · simp only [AHeap.setRow]
        exact List.getElem?_set_self (List.getElem?_eq_some_iff.1 h1).1
      · simp only
        cases (Nat.beq row.gen row.gen && Nat.beq 0 row.cells.length) <;> simp <;> omega
    · exact (Keeps.setRow h id _).mono fun i _ e => by subst e; rfl
  | @none r =>
    refine ⟨.mk ⟨h.next, 0, 0⟩ m false, h.push sz xs, ?_, ?_, Keeps.push _ _ _ _, by simp [Sl.len], .inr rfl⟩
    · simp only [Sl.len, Nat.zero_add] at hb hb'
      have e9 : h.sliceCells sz (.mk r 0 true) = some [] := rfl
      simp [AHeap.append, beq_eq, ble_eq, h0, Sl.len, hb, hb', e9]
    · exact .row (row := { cells := xs, sz := sz }) (by simp [AHeap.push, AHeap.next]) (by simp) hm rfl (Nat.le_refl _) rfl rfl
  | @full id gen n _ row h9 h1 hc hn hg hv hr hs =>
    have hcells := (Grown.full h9 h1 hc hn hg hv hr hs).cells
    simp only [Sl.len] at hb hb'
    refine ⟨.mk ⟨h.next, 0, 0⟩ (n + m) false, h.push sz (cs ++ xs), ?_, ?_, Keeps.push _ _ _ _, by simp [Sl.len], .inr rfl⟩
    · simp [AHeap.append, beq_eq, ble_eq, h0, Sl.len, hb, hb', hcells]
    · exact .row (row := { cells := cs ++ xs, sz := sz }) (by simp [AHeap.push, AHeap.next]) rfl (by simp [hn, hm, Nat.add_mul]) rfl (Nat.le_refl _) rfl rfl
  | @row id gen n _ row h1 hc hn hg hv hr hs =>
    subst hc hg hs
    simp only [Sl.len] at hb hb'
    refine ⟨.mk ⟨id, row.gen + 1, 0⟩ (n + m) false, h.setRow id { sz := row.sz, cells := row.cells ++ xs, gen := row.gen + 1, valid := row.valid, ro := false }, ?_, ?_, ?_, rfl, .inl rfl⟩
    · have e : row.cells.take (n * row.sz) = row.cells := List.take_of_length_le (by omega)
      simp only [AHeap.append, beq_eq, ble_eq, h0, decide_false, cond_false, Sl.len, hb, hb', decide_true, Bool.and_self, Bool.not_true, h1, Bool.not_false, hr, hv, Nat.le_refl, Nat.zero_add, cond_true, Option.bind_some, e, hn]
    · refine .row (row := { sz := row.sz, cells := row.cells ++ xs, gen := row.gen + 1, valid := row.valid, ro := false }) ?_ rfl ?_ rfl (by simp only; omega) rfl rfl
      · simp only [AHeap.setRow]
        exact List.getElem?_set_self (List.getElem?_eq_some_iff.1 h1).1
      · simp [hn, hm, Nat.add_mul]
    · exact (Keeps.setRow h id _).mono fun i _ e => by subst e; rfl

end Go.Proofs.YtmjbjgbcpaagmaaDoor
