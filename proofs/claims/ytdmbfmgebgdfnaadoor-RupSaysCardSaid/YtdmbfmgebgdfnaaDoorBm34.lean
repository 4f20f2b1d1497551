/-
 Parts of rows of one's own: slices that lose their head or their tail, that are written, that grow.
-/
import Derived.Test.YtdmbfmgebgdfnaaDoorBm31
namespace Go.Proofs.YtdmbfmgebgdfnaaDoor
open Go.RowKit
theorem ztH {α : Type} (A B vs : List α) {N k : Nat} (h1 : N ≤ B.length) (h2 : k + vs.length ≤ N) :
   (((A ++ B).take (A.length + k) ++ vs ++ (A ++ B).drop (A.length + k + vs.length)).drop A.length).take N = (B.take N).take k ++ vs ++ (B.take N).drop (k + vs.length) := by
 have e1 : (A ++ B).take (A.length + k) = A ++ B.take k := by
   rw [List.take_append, List.take_of_length_le (by omega), Nat.add_sub_cancel_left]
 have e2 : (A ++ B).drop (A.length + k + vs.length) = B.drop (k + vs.length) := by
   rw [List.drop_append, List.drop_eq_nil_of_le (by omega), List.nil_append, show A.length + k + vs.length - A.length = k + vs.length by omega]
 have e3 : (A ++ (B.take k ++ vs ++ B.drop (k + vs.length))).drop A.length = B.take k ++ vs ++ B.drop (k + vs.length) := List.drop_left' rfl
 rw [e1, e2, show A ++ B.take k ++ vs ++ B.drop (k + vs.length) = A ++ (B.take k ++ vs ++ B.drop (k + vs.length)) by simp, e3]
 have hk : (B.take k).length = k := by rw [List.length_take]; omega
 rw [List.take_append, List.take_of_length_le (by rw [List.length_append, hk]; omega), List.length_append, hk, List.take_take, Nat.min_eq_left (by omega), List.drop_take]
section
variable {h : AH} {sz : Nat} {s : Sl} {cs : List AV}
theorem Part.cells (hp : Part h sz s cs) : h.sliceCells sz s = some cs := by
 cases hp with
 | of hg => exact hg.cells
 | cut h0 h1 hf hc hg hv hr hs =>
   rw [zfs (r := ⟨_, _, _⟩) h1 hs hv (by rw [hg]; exact Nat.le_refl _) hf, hc]
theorem Part.len (hp : Part h sz s cs) : cs.length = s.len * sz := za7 hp.cells
theorem Part.open (hp : Part h sz s cs) (hn : s.len ≠ 0) : ∃ id gen off n c row, s = .mk ⟨id, gen, off⟩ n c ∧ n ≠ 0 ∧ h.rows[id]? = some row ∧ off + n * sz ≤ row.cells.length ∧ cs = (row.cells.drop off).take (n * sz) ∧ row.gen = gen ∧ row.valid ≤ gen ∧ row.ro = false ∧ row.sz = sz := by
 cases hp with
 | of hg =>
   cases hg with
   | nil => exact absurd rfl hn
   | none => exact absurd rfl hn
   | room => exact absurd rfl hn
   | @row id gen n cs row h1 hc hl hg hv hr hs => exact ⟨id, gen, 0, n, false, row, rfl, hn, h1, by rw [hc, hl]; omega, by rw [hc, List.drop_zero, List.take_of_length_le (by omega)], hg, hv, hr, hs⟩
   | @full id gen n cs row h0 h1 hc hl hg hv hr hs => exact ⟨id, gen, 0, n, true, row, rfl, hn, h1, by rw [hc, hl]; omega, by rw [hc, List.drop_zero, List.take_of_length_le (by omega)], hg, hv, hr, hs⟩
 | @cut id gen off n c cs row h0 h1 hf hc hg hv hr hs => exact ⟨id, gen, off, n, c, row, rfl, hn, h1, hf, hc, hg, hv, hr, hs⟩
theorem zvO (id gen off n : Nat) (c : Bool) (sz lo hi : Nat) : Sl.cut (.mk ⟨id, gen, off⟩ n c) sz lo hi false = .mk ⟨id, gen, off + lo * sz⟩ (hi - lo) (c && Nat.beq hi n) := by simp [Sl.cut]
theorem Part.cutP (hp : Part h sz s cs) {lo hi : Nat} (h1 : lo ≤ hi) (h2 : hi ≤ s.len) : Part h sz (s.cut sz lo hi false) ((cs.drop (lo * sz)).take ((hi - lo) * sz)) := by
 by_cases hn : s.len = 0
 · obtain rfl : hi = 0 := by omega
   obtain rfl : lo = 0 := by omega
   have hl := hp.len
   rw [hn, Nat.zero_mul] at hl
   have hcs : cs = [] := List.eq_nil_of_length_eq_zero hl
   subst hcs
   rw [List.drop_nil, List.take_nil]
   cases hp with
   | of hg =>
     cases hg with
     | nil => exact .of .nil
     | @none r =>
       obtain ⟨id, gen, off⟩ := r
       rw [zvO]
       exact .of .none
     | @room id gen row h1 hg hv hr hs =>
       rw [zvO]
       exact .cut (fun h => by cases h) h1 (by simp) (by simp) hg hv hr hs
     | @row id gen n _ row h1 hc hl hg hv hr hs =>
       rw [zvO]
       exact .cut (fun h => by cases h) h1 (by simp) (by simp) hg hv hr hs
     | full h0 => exact absurd hn h0
   | @cut id gen off n c _ row h0 h1 hf hc hg hv hr hs =>
     rw [zvO]
     have hc0 : c = false := by
       cases c with
       | false => rfl
       | true => exact absurd hn (h0 rfl)
     subst hc0
     exact .cut (fun h => by cases h) h1 (by simp; omega) (by simp) hg hv hr hs
 · obtain ⟨id, gen, off, n, c, row, rfl, q0, q1, q2, q3, q4, q5, q6, q7⟩ := hp.open hn
   simp only [Sl.len] at h2
   rw [zvO]
   have hmul : lo * sz ≤ hi * sz := Nat.mul_le_mul_right _ h1
   have hmul2 : hi * sz ≤ n * sz := Nat.mul_le_mul_right _ h2
   have hsub : (hi - lo) * sz = hi * sz - lo * sz := Nat.sub_mul ..
   have hcs : (cs.drop (lo * sz)).take ((hi - lo) * sz) = (row.cells.drop (off + lo * sz)).take ((hi - lo) * sz) := by
     rw [q3, List.drop_take, List.take_take, List.drop_drop, Nat.min_eq_left (by omega)]
   rw [hcs]
   by_cases h9 : hi - lo = 0
   · cases hcb : (c && Nat.beq hi n) with
     | true =>
       rw [h9, Nat.zero_mul, List.take_zero]
       exact .of .none
     | false => exact .cut (fun h => by cases h) q1 (by omega) rfl q4 q5 q6 q7
   · exact .cut (fun _ => h9) q1 (by omega) rfl q4 q5 q6 q7
theorem Part.more {bytes m : Nat} {vs : List AV} (hp : Part h sz s cs) (hv : vs.length = m * sz) (hb : (s.len + m) * bytes ≤ 140737488355328) (hb' : s.len + m ≤ 140737488355328) :
   ∃ s' h', h.append false sz bytes s m vs = some (s', h') ∧ Part h' sz s' (cs ++ vs) ∧ s'.len = s.len + m ∧ zcs h h' (fun i => s.row = some i) ∧ (s'.row = s.row ∨ s'.row = some h.rows.length) := by
 by_cases hm0 : m = 0
 · subst hm0
   have hvs : vs = [] := List.eq_nil_of_length_eq_zero (by simpa using hv)
   subst hvs
   exact ⟨s, h, by simp [AH.append], by simpa using hp, rfl, zcs.refl _ _, .inl rfl⟩
 cases hp with
 | of hg =>
   obtain ⟨s', h', e1, e2, e3, e4, e5⟩ := hg.more (bytes := bytes) (m := m) (vs := vs) hv hb hb'
   exact ⟨s', h', e1, .of e2, e3, e4, e5⟩
 | @cut id gen off n c _ row h0 h1 hf hc hg hv' hr hs =>
   have hcells := (Part.cut h0 h1 hf hc hg hv' hr hs).cells
   have hlc : cs.length = n * sz := (Part.cut h0 h1 hf hc hg hv' hr hs).len
   simp only [Sl.len] at hb hb'
   cases c with
   | true =>
     refine ⟨.mk ⟨h.next, 0, 0⟩ (n + m) false, h.push sz (cs ++ vs), ?_, .of (.row (row := { cells := cs ++ vs, sz := sz }) (by simp [AH.push, AH.next]) rfl (by rw [List.length_append, hlc, hv, Nat.add_mul]) rfl (Nat.le_refl _) rfl rfl), by simp [Sl.len], zcs.push _ _ _ _, .inr rfl⟩
     simp [AH.append, zll, ble_eq, hm0, Sl.len, hb, hb', hcells]
   | false =>
     subst hg hs
     refine ⟨.mk ⟨id, row.gen + 1, off⟩ (n + m) false, h.setRow id { sz := row.sz, cells := row.cells.take (off + n * row.sz) ++ vs, gen := row.gen + 1, valid := bif Nat.beq row.gen row.gen && Nat.beq (off + n * row.sz) row.cells.length then row.valid else row.gen + 1, ro := false }, ?_, ?_, rfl, (zcs.setRow h id _).mono fun i _ e => by subst e; rfl, .inl rfl⟩
     · simp only [AH.append, zll, ble_eq, hm0, decide_false, cond_false, Sl.len, hb, hb', decide_true, Bool.and_self, Bool.not_true, h1, Bool.not_false, hr, hv', Nat.le_refl, hf, cond_true]
     · refine .cut (row := { sz := row.sz, cells := row.cells.take (off + n * row.sz) ++ vs, gen := row.gen + 1, valid := bif Nat.beq row.gen row.gen && Nat.beq (off + n * row.sz) row.cells.length then row.valid else row.gen + 1, ro := false }) (fun h => by cases h) ?_ ?_ ?_ rfl ?_ rfl rfl
       · simp only [AH.setRow]
         exact List.getElem?_set_self (List.getElem?_eq_some_iff.1 h1).1
       · simp only [List.length_append, List.length_take, hv, Nat.add_mul]
         omega
       · simp only
         have hA : (row.cells.take (off + n * row.sz)).length = off + n * row.sz := by rw [List.length_take]; omega
         rw [List.drop_append_of_le_length (by omega), List.drop_take, show off + n * row.sz - off = n * row.sz by omega, ← hc]
         rw [List.take_of_length_le (by rw [List.length_append, hlc, hv, Nat.add_mul]; omega)]
       · simp only
         cases (Nat.beq row.gen row.gen && Nat.beq (off + n * row.sz) row.cells.length) <;> simp <;> omega
theorem Part.put {vs : List AV} (hp : Part h sz s cs) {k o : Nat} (hk : k < s.len) (ho : o + vs.length ≤ sz) :
   ∃ p h', Pt.field o (s.at sz (k : Int)) = some p ∧ h.storeAt vs p = some h' ∧ Part h' sz s (cs.take (k * sz + o) ++ vs ++ cs.drop (k * sz + o + vs.length)) ∧ zcs h h' (fun i => s.row = some i) := by
 have hlen := hp.len
 obtain ⟨id, gen, off, n, c, row, rfl, q0, q1, q2, q3, q4, q5, q6, q7⟩ := hp.open (by omega)
 simp only [Sl.len] at hk hlen
 have hmul : (k + 1) * sz ≤ n * sz := Nat.mul_le_mul_right _ (by omega)
 rw [Nat.add_mul, Nat.one_mul] at hmul
 have hlt := (List.getElem?_eq_some_iff.1 q1).1
 refine ⟨_, h.setRow id { row with cells := AH.overlay row.cells (off + k * sz + o) vs, valid := row.gen }, rfl, ?_, ?_, (zcs.setRow h id _).mono fun i _ e => by subst e; exact Sl.row_mk q0 c⟩
 · have a1 : off + k * sz + o + vs.length ≤ off + k * sz + sz := by omega
   have a2 : off + k * sz + o + vs.length ≤ row.cells.length := by omega
   simp only [Int.toNat_natCast, AH.storeAt, ble_eq, a1, a2, decide_true, cond_true, AH.store, q1, q6, Bool.not_false, zll, q4, Bool.and_self]
 · refine .cut (row := { row with cells := AH.overlay row.cells (off + k * sz + o) vs, valid := row.gen }) (fun _ => q0) ?_ ?_ ?_ q4 (by rw [← q4]; exact Nat.le_refl _) q6 q7
   · simp only [AH.setRow]
     exact List.getElem?_set_self hlt
   · simp only [AH.overlay, List.length_append, List.length_take, List.length_drop]
     omega
   · have hR : row.cells = row.cells.take off ++ row.cells.drop off := (List.take_append_drop off row.cells).symm
     have hA : (row.cells.take off).length = off := by rw [List.length_take]; omega
     have hB : n * sz ≤ (row.cells.drop off).length := by rw [List.length_drop]; omega
     have := ztH (row.cells.take off) (row.cells.drop off) vs (N := n * sz) (k := k * sz + o) hB (by omega)
     rw [← hR, hA] at this
     simp only [AH.overlay]
     rw [q3, show off + k * sz + o = off + (k * sz + o) by omega]
     exact this.symm
end
section
variable {h0 h : AH} {L : List zcJ}
theorem Sep.partOf (hs : Sep h L) {i sz : Nat} {s : Sl} {cs : List AV} (hi : L[i]? = some (.part sz s cs)) : Part h sz s cs := hs.get hi
theorem Sep0.toPart (hs : Sep0 h0 h L) {i sz : Nat} {s : Sl} {cs : List AV} (hi : L[i]? = some (.grown sz s cs)) : Sep0 h0 h (L.set i (.part sz s cs)) := by
 refine ⟨hs.sep.set hi (zcs.refl _ _) (Part.of (hs.sep.grown hi)) (fun r hr => .inl hr), hs.ext, fun c hc r hr => ?_⟩
 rcases zqT hc with hc | rfl
 · exact hs.fresh c hc r hr
 · exact hs.fresh _ (List.mem_of_getElem? hi) r hr
theorem Sep0.cutP (hs : Sep0 h0 h L) {i sz : Nat} {s : Sl} {cs : List AV} (hi : L[i]? = some (.part sz s cs)) {lo hi' : Nat} (h1 : lo ≤ hi') (h2 : hi' ≤ s.len) : Sep0 h0 h (L.set i (.part sz (s.cut sz lo hi' false) ((cs.drop (lo * sz)).take ((hi' - lo) * sz)))) := by
 have hp := hs.sep.partOf hi
 have key : ∀ r, (s.cut sz lo hi' false).row = some r → s.row = some r := by
   intro r hr
   cases s with
   | nil => cases hr
   | lst => cases hr
   | mk q n c =>
     obtain ⟨id, gen, off⟩ := q
     rw [zvO] at hr
     have e := Sl.row_some hr
     subst e
     cases c with
     | false => rfl
     | true =>
       refine Sl.row_mk (fun h0 => ?_) true
       subst h0
       simp only [Sl.len] at h2
       obtain rfl : hi' = 0 := by omega
       obtain rfl : lo = 0 := by omega
       simp [Sl.row] at hr
 refine ⟨hs.sep.set hi (zcs.refl _ _) (hp.cutP h1 h2) (fun r hr => .inl (key r hr)), hs.ext, fun c hc r hr => ?_⟩
 rcases zqT hc with hc | rfl
 · exact hs.fresh c hc r hr
 · exact hs.fresh _ (List.mem_of_getElem? hi) r (key r hr)
theorem Sep0.growP (hs : Sep0 h0 h L) {i : Nat} {sz bytes m : Nat} {s : Sl} {cs vs : List AV} (hi : L[i]? = some (.part sz s cs)) (hv : vs.length = m * sz) (hb : (s.len + m) * bytes ≤ 140737488355328) (hb' : s.len + m ≤ 140737488355328) :
   ∃ s' h', h.append false sz bytes s m vs = some (s', h') ∧ Sep0 h0 h' (L.set i (.part sz s' (cs ++ vs))) ∧ s'.len = s.len + m := by
 obtain ⟨s', h', e1, e2, e3, e4, e5⟩ := (hs.sep.partOf hi).more hv hb hb'
 have key : ∀ r, s'.row = some r → s.row = some r ∨ h.rows.length ≤ r := fun r hr => by
   rcases e5 with e5 | e5
   · exact .inl (by rw [← hr]; exact e5.symm)
   · have hr' : s'.row = some r := hr
     rw [e5] at hr'
     cases hr'
     exact .inr (Nat.le_refl _)
 have hf : ∀ r, s.row = some r → h0.rows.length ≤ r := fun r hr => hs.fresh _ (List.mem_of_getElem? hi) r hr
 refine ⟨s', h', e1, ⟨hs.sep.set hi e4 e2 key, zkr hs.ext e4 hf, fun c hc r hr => ?_⟩, e3⟩
 rcases zqT hc with hc | rfl
 · exact hs.fresh c hc r hr
 · rcases key r hr with h1 | h1
   · exact hf r h1
   · have := hs.ext.1
     omega
theorem Sep0.putP (hs : Sep0 h0 h L) {i : Nat} {sz : Nat} {s : Sl} {cs vs : List AV} (hi : L[i]? = some (.part sz s cs)) {k o : Nat} (hk : k < s.len) (ho : o + vs.length ≤ sz) :
   ∃ p h', Pt.field o (s.at sz (k : Int)) = some p ∧ h.storeAt vs p = some h' ∧ Sep0 h0 h' (L.set i (.part sz s (cs.take (k * sz + o) ++ vs ++ cs.drop (k * sz + o + vs.length)))) := by
 obtain ⟨p, h', e1, e2, e3, e4⟩ := (hs.sep.partOf hi).put hk ho
 have hf : ∀ r, s.row = some r → h0.rows.length ≤ r := fun r hr => hs.fresh _ (List.mem_of_getElem? hi) r hr
 refine ⟨p, h', e1, e2, hs.sep.set hi e4 e3 (fun r hr => .inl hr), zkr hs.ext e4 hf, fun c hc r hr => ?_⟩
 rcases zqT hc with hc | rfl
 · exact hs.fresh c hc r hr
 · exact hf r hr
theorem Sep0.lenP (hs : Sep0 h0 h L) {i : Nat} {sz : Nat} {s : Sl} {cs : List AV} (hi : L[i]? = some (.part sz s cs)) : cs.length = s.len * sz := (hs.sep.partOf hi).len
theorem Sep0.cellsP (hs : Sep0 h0 h L) {i : Nat} {sz : Nat} {s : Sl} {cs : List AV} (hi : L[i]? = some (.part sz s cs)) : h.sliceCells sz s = some cs := (hs.sep.partOf hi).cells
end
end Go.Proofs.YtdmbfmgebgdfnaaDoor
