/-
 Plain facts of abstract heaps.
-/
import Derived.Test.YtjagkijfngokaaaGreatDoorBm19
import Derived.Laws.BitsLemmas
import Derived.Laws.BitsAllLaws
namespace Go.Proofs.YtjagkijfngokaaaGreatDoor
open Go.RowKit
noncomputable def hide {α : Sort _} (a : α) : α := Classical.choose (⟨a, rfl⟩ : ∃ x, x = a)
theorem hide_eq {α : Sort _} (a : α) : hide a = a := Classical.choose_spec (⟨a, rfl⟩ : ∃ x, x = a)
theorem bool_bool (b : Bool) : AV.bool? (.bool b) = some b := rfl
theorem int_int (k : IntKind) (n : Int) : AV.int? k (.int k n) = some n := by simp [AV.int?]
theorem str_str (s : ByteArray) : AV.str? (.str s) = some s := rfl
theorem slice_slice (s : Sl) : AV.slice? (.slice s) = some s := rfl
theorem map_map (m : Option Nat) : AV.map? (.map m) = some m := rfl
theorem agg_agg (cs : List AV) : AV.agg? (.agg cs) = some cs := rfl
theorem comp_tup (i : Nat) (vs : List AV) : AV.comp i (.tup vs) = vs[i]? := rfl
theorem isTup_tup (n : Nat) (vs : List AV) : AV.isTup n (.tup vs) = Nat.beq vs.length n := rfl
theorem chk_mk (r : Ref) (l : Nat) : Pt.chk (.mk r l) = some (.mk r l) := rfl
theorem field_mk (o : Nat) (r : Ref) (l : Nat) : Pt.field o (.mk r l) = some (.mk ⟨r.id, r.gen, r.off + o⟩ l) := rfl
theorem nilTest_nilif : nilTest .iface .nilif = some true := rfl
theorem len_mk (r : Ref) (n : Nat) (c : Bool) : Sl.len (.mk r n c) = n := rfl
theorem same_self {β : Type} (v : AV × AH) (k : Option β) : same (some v) v k = k := same_eq k rfl
theorem wrap64 {n : Int} (h0 : -9223372036854775808 ≤ n) (h1 : n ≤ 9223372036854775807) : IntKind.wrap .i64 n = n := by
 rw [IntKind.wrap_i64]; omega
theorem beq_eq {a b : Nat} : Nat.beq a b = decide (a = b) := by
 rw [Bool.eq_iff_iff]; simp
theorem ble_eq {a b : Nat} : Nat.ble a b = decide (a ≤ b) := by
 rw [Bool.eq_iff_iff]; simp
theorem blt_eq {a b : Nat} : Nat.blt a b = decide (a < b) := by
 rw [Bool.eq_iff_iff]; simp
def Sl.row : Sl → Option Nat
 | .nil => none
 | .mk r n c => bif c && Nat.beq n 0 then none else some r.id
 | .lst _ _ _ => none
theorem Sl.row_mk {r : Ref} {n : Nat} (h : n ≠ 0) (c : Bool) : Sl.row (.mk r n c) = some r.id := by simp [Sl.row, beq_eq, h]
theorem Sl.row_some {r : Ref} {n : Nat} {c : Bool} {i : Nat} (h : Sl.row (.mk r n c) = some i) : i = r.id := by
 simp only [Sl.row] at h
 cases hc : (c && Nat.beq n 0) <;> rw [hc] at h <;> simp at h
 exact h.symm
structure Keeps (h h' : AH) (t : Nat → Prop) : Prop where
 len : h.rows.length ≤ h'.rows.length
 rows : ∀ (i : Nat) row, h.rows[i]? = some row → ¬ t i → h'.rows[i]? = some row
 maps : ∀ (m : Nat) es, h.maps[m]? = some es → h'.maps[m]? = some es
theorem Keeps.refl (h : AH) (t : Nat → Prop) : Keeps h h t := ⟨Nat.le_refl _, fun _ _ h _ => h, fun _ _ h => h⟩
theorem Keeps.trans {a b c : AH} {t : Nat → Prop} (h : Keeps a b t) (k : Keeps b c t) : Keeps a c t := ⟨Nat.le_trans h.1 k.1, fun i row hi ht => k.2 i row (h.2 i row hi ht) ht, fun m es hm => k.3 m es (h.3 m es hm)⟩
theorem Keeps.mono {a b : AH} {t u : Nat → Prop} (h : Keeps a b t) (hu : ∀ i, i < a.rows.length → t i → u i) : Keeps a b u :=
 ⟨h.1, fun i row hi hn => h.2 i row hi fun ht => hn (hu i (List.getElem?_eq_some_iff.1 hi).1 ht), h.3⟩
theorem Keeps.push (h : AH) (sz : Nat) (cs : List AV) (t : Nat → Prop) : Keeps h (h.push sz cs) t :=
 ⟨by simp [AH.push], fun i row hi _ => (zaa _ _ _ _).2 (.inl ⟨(List.getElem?_eq_some_iff.1 hi).1, hi⟩), fun _ _ h => h⟩
theorem Keeps.setRow (h : AH) (i : Nat) (r : ARow) : Keeps h (h.setRow i r) (· = i) :=
 ⟨by simp [AH.setRow], fun j row hj hn => by simp only [AH.setRow]; rw [List.getElem?_set_ne (fun e => hn e.symm)]; exact hj, fun _ _ h => h⟩
theorem Keeps.newMap (h : AH) (t : Nat → Prop) : Keeps h h.newMap t :=
 ⟨Nat.le_refl _, fun _ _ h _ => h, fun m es hm => (zaa _ _ _ _).2 (.inl ⟨(List.getElem?_eq_some_iff.1 hm).1, hm⟩)⟩
theorem sliceCells_keep {h h' : AH} {t : Nat → Prop} (hk : Keeps h h' t) {s : Sl} {sz : Nat} {cs : List AV} (hs : h.sliceCells sz s = some cs) (hn : ∀ i, s.row = some i → s.len ≠ 0 → ¬ t i) : h'.sliceCells sz s = some cs := by
 cases s with
 | nil => exact hs
 | lst => exact hs
 | mk r n c =>
   simp only [AH.sliceCells, Bool.cond_eq_ite] at hs ⊢
   split at hs
   · rename_i h0; rw [if_pos h0]; exact hs
   · rename_i h0
     rw [if_neg h0]
     split at hs
     · rename_i row hrow
       have h9 : n ≠ 0 := fun e => h0 (by rw [e]; rfl)
       have := hk.2 _ row hrow (hn _ (Sl.row_mk h9 c) h9)
       rw [this]
       simp only
       split at hs
       · rename_i hsz
         rw [if_pos hsz]
         simp only [AH.span, AH.live, hrow, this] at hs ⊢
         exact hs
       · cases hs
     · cases hs
theorem sliceCells_row {h : AH} {sz : Nat} {r : Ref} {n : Nat} {c : Bool} {cs : List AV} (hs : h.sliceCells sz (.mk r n c) = some cs) (hn : n ≠ 0) :
   ∃ row, h.rows[r.id]? = some row ∧ row.sz = sz ∧ row.valid ≤ r.gen ∧ r.gen ≤ row.gen ∧ r.off + n * sz ≤ row.cells.length ∧ cs = (row.cells.drop r.off).take (n * sz) := by
 simp only [AH.sliceCells, Bool.cond_eq_ite, beq_eq, decide_eq_true_eq, if_neg hn] at hs
 split at hs
 case h_2 => cases hs
 rename_i row hrow
 split at hs
 case isFalse => cases hs
 rename_i hsz
 simp only [AH.span, AH.live, hrow, Bool.cond_eq_ite] at hs
 split at hs
 case isFalse => cases hs
 rename_i hv
 simp only [Bool.and_eq_true, nble] at hv
 simp only [o_bd] at hs
 split at hs
 case isFalse => cases hs
 rename_i hl
 rw [nble] at hl
 simp at hs
 exact ⟨row, hrow, nbeq.1 (by rw [beq_eq]; simpa using hsz), hv.1, hv.2, hl, hs.symm⟩
theorem sliceCells_of {h : AH} {sz : Nat} {r : Ref} {n : Nat} {c : Bool} {row : ARow} (h1 : h.rows[r.id]? = some row) (h2 : row.sz = sz) (h3 : row.valid ≤ r.gen) (h4 : r.gen ≤ row.gen) (h5 : r.off + n * sz ≤ row.cells.length) :
   h.sliceCells sz (.mk r n c) = some ((row.cells.drop r.off).take (n * sz)) := by
 simp only [AH.sliceCells, Bool.cond_eq_ite, beq_eq, decide_eq_true_eq]
 split
 · rename_i h0; subst h0; simp
 · simp [h1, h2, AH.span, AH.live, h3, h4, h5, ble_eq]
theorem sliceCells_len {h : AH} {sz : Nat} {s : Sl} {cs : List AV} (hs : h.sliceCells sz s = some cs) : cs.length = s.len * sz := by
 cases s with
 | nil => simp [AH.sliceCells] at hs; subst hs; simp [Sl.len]
 | lst n c ds =>
   simp only [AH.sliceCells, Bool.cond_eq_ite] at hs
   split at hs
   · rename_i h0; rw [nbeq] at h0; cases hs; exact h0
   · cases hs
 | mk r n c =>
   by_cases hn : n = 0
   · subst hn
     simp [AH.sliceCells] at hs
     subst hs; simp [Sl.len]
   · obtain ⟨row, _, _, _, _, h5, rfl⟩ := sliceCells_row hs hn
     simp [Sl.len]; omega
theorem cell_row {h : AH} {r : Ref} {l : Nat} {row : ARow} (h1 : h.rows[r.id]? = some row) (h3 : row.valid ≤ r.gen) (h4 : r.gen ≤ row.gen) (hl : r.off < l) : h.cell (.mk r l) = row.cells[r.off]? := by
 simp [AH.cell, AH.live, h1, h3, h4, hl, blt_eq, ble_eq]
inductive Grown (h : AH) (sz : Nat) : Sl → List AV → Prop
 | nil : Grown h sz .nil []
 | none {r : Ref} : Grown h sz (.mk r 0 true) []
 | room {id gen} {row : ARow} (h1 : h.rows[id]? = some row) (hg : row.gen = gen) (hv : row.valid ≤ gen) (hr : row.ro = false) (hs : row.sz = sz) : Grown h sz (.mk ⟨id, gen, 0⟩ 0 false) []
 | row {id gen n cs} {row : ARow} (h1 : h.rows[id]? = some row) (hc : row.cells = cs) (hn : cs.length = n * sz) (hg : row.gen = gen) (hv : row.valid ≤ gen) (hr : row.ro = false) (hs : row.sz = sz) : Grown h sz (.mk ⟨id, gen, 0⟩ n false) cs
 | full {id gen n cs} {row : ARow} (h0 : n ≠ 0) (h1 : h.rows[id]? = some row) (hc : row.cells = cs) (hn : cs.length = n * sz) (hg : row.gen = gen) (hv : row.valid ≤ gen) (hr : row.ro = false) (hs : row.sz = sz) : Grown h sz (.mk ⟨id, gen, 0⟩ n true) cs
theorem Grown.cells {h : AH} {sz : Nat} {s : Sl} {cs : List AV} (hg : Grown h sz s cs) : h.sliceCells sz s = some cs := by
 cases hg with
 | nil => rfl
 | none => rfl
 | room => rfl
 | row h1 hc hn hg hv hr hs =>
   rw [sliceCells_of (r := ⟨_, _, 0⟩) h1 hs hv (by rw [hg]; exact Nat.le_refl _) (by rw [hc, hn]; simp)]
   simp only [List.drop_zero, hc]
   rw [List.take_of_length_le (by omega)]
 | full h0 h1 hc hn hg hv hr hs =>
   rw [sliceCells_of (r := ⟨_, _, 0⟩) h1 hs hv (by rw [hg]; exact Nat.le_refl _) (by rw [hc, hn]; simp)]
   simp only [List.drop_zero, hc]
   rw [List.take_of_length_le (by omega)]
theorem Grown.keep {h h' : AH} {t : Nat → Prop} (hk : Keeps h h' t) {sz : Nat} {s : Sl} {cs : List AV} (hg : Grown h sz s cs) (hn : ∀ i, s.row = some i → ¬ t i) : Grown h' sz s cs := by
 cases hg with
 | nil => exact .nil
 | none => exact .none
 | room h1 hg hv hr hs => exact .room (hk.2 _ _ h1 (hn _ rfl)) hg hv hr hs
 | row h1 hc hn' hg hv hr hs => exact .row (hk.2 _ _ h1 (hn _ rfl)) hc hn' hg hv hr hs
 | full h0 h1 hc hn' hg hv hr hs => exact .full h0 (hk.2 _ _ h1 (hn _ (Sl.row_mk h0 true))) hc hn' hg hv hr hs
theorem Grown.append {h : AH} {sz bytes : Nat} {s : Sl} {cs xs : List AV} {m : Nat} (hg : Grown h sz s cs) (hm : xs.length = m * sz) (h0 : m ≠ 0) (hb : (s.len + m) * bytes ≤ 140737488355328) (hb' : s.len + m ≤ 140737488355328) {β : Type} (k : Sl × AH → Option β) :
   ∃ s' h', ((h.append false sz bytes s m xs).bind k) = k (s', h') ∧ Grown h' sz s' (cs ++ xs) ∧ Keeps h h' (fun i => s.row = some i) ∧ s'.len = s.len + m ∧ (s'.row = s.row ∨ s'.row = some h.rows.length) := by
 cases hg with
 | nil =>
   refine ⟨.mk ⟨h.next, 0, 0⟩ m false, h.push sz xs, ?_, ?_, Keeps.push _ _ _ _, by simp [Sl.len], .inr rfl⟩
   · simp only [Sl.len, Nat.zero_add] at hb hb'
     simp [AH.append, beq_eq, ble_eq, h0, Sl.len, hb, hb']
   · exact .row (row := { cells := xs, sz := sz }) (by simp [AH.push, AH.next]) (by simp) hm rfl (Nat.le_refl _) rfl rfl
 | @room id gen row h1 hg hv hr hs =>
   subst hg hs
   simp only [Sl.len, Nat.zero_add] at hb hb'
   refine ⟨.mk ⟨id, row.gen + 1, 0⟩ m false, h.setRow id { sz := row.sz, cells := xs, gen := row.gen + 1, valid := bif Nat.beq row.gen row.gen && Nat.beq 0 row.cells.length then row.valid else row.gen + 1, ro := false }, ?_, ?_, ?_, by simp [Sl.len], .inl rfl⟩
   · simp [AH.append, beq_eq, ble_eq, h0, Sl.len, hb, hb', h1, hr, hv]
   · refine .row (row := { sz := row.sz, cells := xs, gen := row.gen + 1, valid := bif Nat.beq row.gen row.gen && Nat.beq 0 row.cells.length then row.valid else row.gen + 1, ro := false }) ?_ (by simp) hm rfl ?_ rfl rfl
     · simp only [AH.setRow]
       exact List.getElem?_set_self (List.getElem?_eq_some_iff.1 h1).1
     · simp only
       cases (Nat.beq row.gen row.gen && Nat.beq 0 row.cells.length) <;> simp <;> omega
   · exact (Keeps.setRow h id _).mono fun i _ e => by subst e; rfl
 | @none r =>
   refine ⟨.mk ⟨h.next, 0, 0⟩ m false, h.push sz xs, ?_, ?_, Keeps.push _ _ _ _, by simp [Sl.len], .inr rfl⟩
   · simp only [Sl.len, Nat.zero_add] at hb hb'
     have e9 : h.sliceCells sz (.mk r 0 true) = some [] := rfl
     simp [AH.append, beq_eq, ble_eq, h0, Sl.len, hb, hb', e9]
   · exact .row (row := { cells := xs, sz := sz }) (by simp [AH.push, AH.next]) (by simp) hm rfl (Nat.le_refl _) rfl rfl
 | @full id gen n _ row h9 h1 hc hn hg hv hr hs =>
   have hcells := (Grown.full h9 h1 hc hn hg hv hr hs).cells
   simp only [Sl.len] at hb hb'
   refine ⟨.mk ⟨h.next, 0, 0⟩ (n + m) false, h.push sz (cs ++ xs), ?_, ?_, Keeps.push _ _ _ _, by simp [Sl.len], .inr rfl⟩
   · simp [AH.append, beq_eq, ble_eq, h0, Sl.len, hb, hb', hcells]
   · exact .row (row := { cells := cs ++ xs, sz := sz }) (by simp [AH.push, AH.next]) rfl (by simp [hn, hm, Nat.add_mul]) rfl (Nat.le_refl _) rfl rfl
 | @row id gen n _ row h1 hc hn hg hv hr hs =>
   subst hc hg hs
   simp only [Sl.len] at hb hb'
   refine ⟨.mk ⟨id, row.gen + 1, 0⟩ (n + m) false, h.setRow id { sz := row.sz, cells := row.cells ++ xs, gen := row.gen + 1, valid := row.valid, ro := false }, ?_, ?_, ?_, rfl, .inl rfl⟩
   · have e : row.cells.take (n * row.sz) = row.cells := List.take_of_length_le (by omega)
     simp only [AH.append, beq_eq, ble_eq, h0, decide_false, cond_false, Sl.len, hb, hb', decide_true, Bool.and_self, Bool.not_true, h1, Bool.not_false, hr, hv, Nat.le_refl, Nat.zero_add, cond_true, o_bd, e, hn]
   · refine .row (row := { sz := row.sz, cells := row.cells ++ xs, gen := row.gen + 1, valid := row.valid, ro := false }) ?_ rfl ?_ rfl (by simp only; omega) rfl rfl
     · simp only [AH.setRow]
       exact List.getElem?_set_self (List.getElem?_eq_some_iff.1 h1).1
     · simp [hn, hm, Nat.add_mul]
   · exact (Keeps.setRow h id _).mono fun i _ e => by subst e; rfl
end Go.Proofs.YtjagkijfngokaaaGreatDoor
