/-
 Values: lists of numbers, of bools, of bytes, lists of lists; what is read of them; what a body's result becomes.
-/
import Derived.Test.YtjagkijfngokaaaGreatDoorBm22
import Derived.Test.YtjagkijfngokaaaGreatDoorBm25
namespace Go.Proofs.YtjagkijfngokaaaGreatDoor
open Go.RowKit
def eqI (a b : Int) : Bool := decide (a = b)
abbrev lstM {α : Type} (f : α → AV) (l : List α) : Sl := .lst l.length false (l.map f)
abbrev lstN {α : Type} (f : α → List AV) (l : List α) : Sl := .lst l.length false (l.flatMap f)
abbrev lstI (l : List Int) : Sl := lstM (.int .i64) l
abbrev lstB (l : List Bool) : Sl := lstM .bool l
abbrev lstU (l : List UInt8) : Sl := lstM (fun b => .int .u8 (b.toNat : Int)) l
abbrev lstLL (cc : List (List Int)) : Sl := lstM (fun c => .slice (lstI c)) cc
abbrev lstP (l : List (Int × Int)) : Sl := lstN (fun p => [.int .i64 p.1, .int .i64 p.2]) l
abbrev bytesC (b : List UInt8) : List AV := b.map fun x => .int .u8 (x.toNat : Int)
abbrev boolsC (l : List Bool) : List AV := l.map .bool
theorem getD_get {α : Type} {l : List α} {i : Nat} (h : i < l.length) (d : α) : l[i]? = some (l.getD i d) := by
 rw [List.getD_eq_getElem?_getD, List.getElem?_eq_getElem h]; rfl
theorem drop_get {α : Type} {l : List α} {i : Nat} (h : i < l.length) (d : α) : l.drop i = l.getD i d :: l.drop (i + 1) := by
 rw [List.drop_eq_getElem_cons h, List.getD_eq_getElem?_getD, List.getElem?_eq_getElem h]; rfl
theorem take_get {α : Type} {l : List α} {i : Nat} (h : i < l.length) (d : α) : l.take (i + 1) = l.take i ++ [l.getD i d] := by
 rw [List.take_succ_eq_append_getElem h, List.getD_eq_getElem?_getD, List.getElem?_eq_getElem h]; rfl
section
variable {α : Type} {h : AH}
theorem cells_lstM (f : α → AV) (l : List α) (c : Bool) : h.sliceCells 1 (.lst l.length c (l.map f)) = some (l.map f) := by
 simp [AH.sliceCells]
theorem flatMap_len {f : α → List AV} {sz : Nat} (hf : ∀ a, (f a).length = sz) : ∀ l : List α, (l.flatMap f).length = l.length * sz
 | [] => by simp
 | a :: l => by rw [List.flatMap_cons, List.length_append, hf, flatMap_len hf l, List.length_cons, Nat.add_mul]; omega
theorem cells_lstN {f : α → List AV} {sz : Nat} (hf : ∀ a, (f a).length = sz) (l : List α) (c : Bool) : h.sliceCells sz (.lst l.length c (l.flatMap f)) = some (l.flatMap f) := by
 simp only [AH.sliceCells, flatMap_len hf, Nat.beq_refl, cond_true]
theorem addr_lstM (f : α → AV) {l : List α} {j : Int} (h0 : 0 ≤ j) (hj : j.toNat < l.length) (d : α) (c : Bool) : h.addr 1 (.lst l.length c (l.map f)) j = some (.fp 0 [f (l.getD j.toNat d)]) := by
 have hjn : j < (l.length : Int) := by omega
 simp only [AH.addr, h0, hjn, decide_true, Bool.and_self, cond_true, Nat.mul_one]
 have e : (l.map f).drop j.toNat = f (l.getD j.toNat d) :: (l.map f).drop (j.toNat + 1) := by
   rw [← List.map_drop, drop_get hj d, List.map_cons, List.map_drop]
 rw [e]
 rfl
theorem flatMap_drop {f : α → List AV} {sz : Nat} (hf : ∀ a, (f a).length = sz) : ∀ (l : List α) (i : Nat), (l.flatMap f).drop (i * sz) = (l.drop i).flatMap f
 | l, 0 => by simp
 | [], i + 1 => by simp
 | a :: l, i + 1 => by
   rw [List.flatMap_cons, Nat.add_mul, Nat.one_mul, Nat.add_comm, ← List.drop_drop, List.drop_left' (hf a), List.drop_succ_cons, flatMap_drop hf l i]
theorem addr_lstN {f : α → List AV} {sz : Nat} (hf : ∀ a, (f a).length = sz) {l : List α} {j : Int} (h0 : 0 ≤ j) (hj : j.toNat < l.length) (d : α) (c : Bool) : h.addr sz (.lst l.length c (l.flatMap f)) j = some (.fp 0 (f (l.getD j.toNat d))) := by
 have hjn : j < (l.length : Int) := by omega
 simp only [AH.addr, h0, hjn, decide_true, Bool.and_self, cond_true]
 rw [flatMap_drop hf, drop_get hj d, List.flatMap_cons, List.take_left' (hf _)]
theorem cell_fp (k : Nat) (v : AV) (vs : List AV) : h.cell (.fp k (v :: vs)) = some v := rfl
theorem field_fp (o k : Nat) (cs : List AV) : Pt.field o (.fp k cs) = some (.fp 0 (cs.drop o)) := rfl
theorem cellsAt_fp {n k : Nat} {cs : List AV} (hn : cs.length = n) : h.cellsAt n (.fp k cs) = some cs := by
 subst hn
 simp only [AH.cellsAt, ble_eq, Nat.le_refl, decide_true, cond_true, List.take_length]
theorem len_lst (n : Nat) (c : Bool) (cs : List AV) : Sl.len (.lst n c cs) = n := rfl
theorem cut_lstM (f : α → AV) (l : List α) {lb hb : Nat} (hb' : hb ≤ l.length) : Sl.cut (lstM f l) 1 lb hb false = lstM f ((l.drop lb).take (hb - lb)) := by
 simp only [Sl.cut, lstM, Nat.mul_one, ← List.map_drop, ← List.map_take, Bool.false_and, Bool.or_self, List.length_take, List.length_drop]
 congr 1
 omega
theorem hasSz_lstM (f : α → AV) (l : List α) (c : Bool) : h.hasSz 1 (.lst l.length c (l.map f)) = true := by simp [AH.hasSz]
theorem closedL_append : ∀ {a b : List AV}, closedL (a ++ b) = (closedL a && closedL b)
 | [], b => by simp [closedL]
 | v :: a, b => by simp [closedL, closedL_append (a := a), Bool.and_assoc]
theorem closedL_map {f : α → AV} (hf : ∀ a, (f a).closed = true) : ∀ l : List α, closedL (l.map f) = true
 | [] => rfl
 | a :: l => by simp [closedL, hf, closedL_map hf l]
theorem closedL_flatMap {f : α → List AV} (hf : ∀ a, closedL (f a) = true) : ∀ l : List α, closedL (l.flatMap f) = true
 | [] => rfl
 | a :: l => by simp [closedL_append, hf, closedL_flatMap hf l]
theorem closed_lstM {f : α → AV} (hf : ∀ a, (f a).closed = true) (l : List α) (n : Nat) : (AV.slice (.lst n false (l.map f))).closed = true := by
 simpa [AV.closed, Sl.closed] using closedL_map hf l
theorem closed_lstI (l : List Int) : (AV.slice (lstI l)).closed = true := closed_lstM (fun _ => rfl) l _
theorem canonL_none {l : List AV} {i : Nat} {v : AV} (hi : l[i]? = some v) (hv : canonV 8 v = none) : canonL l = none := by
 cases h : canonL l with
 | none => rfl
 | some as =>
   obtain ⟨h1, h2⟩ := mapM_get h
   have hlt : i < as.length := by rw [h1]; exact (List.getElem?_eq_some_iff.1 hi).1
   have := h2 i v _ hi (List.getElem?_eq_getElem hlt)
   rw [hv] at this
   cases this
theorem canonL_cons {v u : AV} {l us : List AV} (hv : canonV 8 v = some u) (hl : canonL l = some us) : canonL (v :: l) = some (u :: us) := by
 unfold canonL at hl ⊢
 rw [List.mapM_cons, hv, hl]; rfl
theorem canonL_nil : canonL [] = some [] := rfl
theorem cc1 {a u : AV} (ha : canonV 8 a = some u) : canonL [a] = some [u] := canonL_cons ha canonL_nil
theorem cc2 {a b u v : AV} (ha : canonV 8 a = some u) (hb : canonV 8 b = some v) : canonL [a, b] = some [u, v] := canonL_cons ha (cc1 hb)
theorem canon_lst {n m : Nat} {c : Bool} {cs : List AV} (hc : closedL cs = true) : canonV (n + 1) (.slice (.lst m c cs)) = some (.slice (.lst m false cs)) := by simp [canonV, hc]
theorem canon_lstM {f : α → AV} (hf : ∀ a, (f a).closed = true) (n m : Nat) (c : Bool) (l : List α) : canonV (n + 1) (.slice (.lst m c (l.map f))) = some (.slice (.lst m false (l.map f))) := canon_lst (closedL_map hf l)
theorem canon_lstN {f : α → List AV} (hf : ∀ a, closedL (f a) = true) (n m : Nat) (c : Bool) (l : List α) : canonV (n + 1) (.slice (.lst m c (l.flatMap f))) = some (.slice (.lst m false (l.flatMap f))) := canon_lst (closedL_flatMap hf l)
theorem canon_lstI (n : Nat) (l : List Int) : canonV (n + 1) (.slice (lstI l)) = some (.slice (lstI l)) := canon_lstM (fun _ => rfl) _ _ _ l
theorem canon_lstB (n : Nat) (l : List Bool) : canonV (n + 1) (.slice (lstB l)) = some (.slice (lstB l)) := canon_lstM (fun _ => rfl) _ _ _ l
theorem canon_lstU (n : Nat) (l : List UInt8) : canonV (n + 1) (.slice (lstU l)) = some (.slice (lstU l)) := canon_lstM (fun _ => rfl) _ _ _ l
theorem canon_lstP (n : Nat) (l : List (Int × Int)) : canonV (n + 1) (.slice (lstP l)) = some (.slice (lstP l)) := canon_lstN (fun _ => rfl) _ _ _ l
theorem canon_agg (n : Nat) (cs : List AV) : canonV (n + 1) (.agg cs) = (cs.mapM (canonV n)).map .agg := rfl
theorem canonM_cons {n : Nat} {v u : AV} {l us : List AV} (hv : canonV n v = some u) (hl : l.mapM (canonV n) = some us) : (v :: l).mapM (canonV n) = some (u :: us) := by
 rw [List.mapM_cons, hv, hl]; rfl
theorem canonM_nil (n : Nat) : ([] : List AV).mapM (canonV n) = some [] := rfl
theorem mapM_freeze {f g : α → AV} {n : Nat} (hf : ∀ a, freezeV h n (f a) = some (g a)) : ∀ l : List α, (l.map f).mapM (freezeV h n) = some (l.map g)
 | [] => rfl
 | a :: l => by rw [List.map_cons, List.mapM_cons, hf, mapM_freeze hf l]; rfl
theorem mapM_append {α β : Type} {f : α → Option β} : ∀ {a b : List α} {x y : List β}, a.mapM f = some x → b.mapM f = some y → (a ++ b).mapM f = some (x ++ y)
 | [], b, x, y, ha, hb => by simp at ha; subst ha; simpa using hb
 | c :: a, b, x, y, ha, hb => by
   rw [List.mapM_cons] at ha
   cases h1 : f c with
   | none => rw [h1] at ha; cases ha
   | some u =>
     cases h2 : a.mapM f with
     | none => rw [h1, h2] at ha; cases ha
     | some us =>
       rw [h1, h2] at ha
       cases ha
       rw [List.cons_append, List.mapM_cons, h1, mapM_append h2 hb]; rfl
theorem mapM_freezeN {f g : α → List AV} {n : Nat} (hf : ∀ a, (f a).mapM (freezeV h n) = some (g a)) : ∀ l : List α, (l.flatMap f).mapM (freezeV h n) = some (l.flatMap g)
 | [] => rfl
 | a :: l => by rw [List.flatMap_cons, List.flatMap_cons]; exact mapM_append (hf a) (mapM_freezeN hf l)
theorem freeze_bool (n : Nat) (x : Bool) : freezeV h (n + 1) (.bool x) = some (.bool x) := rfl
theorem freeze_tup2 (n : Nat) {a b u v : AV} (ha : freezeV h n a = some u) (hb : freezeV h n b = some v) : freezeV h (n + 1) (.tup [a, b]) = some (.tup [u, v]) := by
 simp [freezeV, ha, hb]
theorem freeze_lst (n m : Nat) (c : Bool) {cs : List AV} (hc : closedL cs = true) : freezeV h (n + 1) (.slice (.lst m c cs)) = some (.slice (.lst m false cs)) := by
 simp [freezeV, hc]
theorem freeze_lstI (n : Nat) (l : List Int) : freezeV h (n + 1) (.slice (lstI l)) = some (.slice (lstI l)) := freeze_lst _ _ _ (closedL_map (fun _ => rfl) l)
theorem Grown.freeze {n sz : Nat} {s : Sl} {cs us : List AV} (hg : Grown h sz s cs) (_ : 0 < sz) (hm : cs.mapM (freezeV h n) = some us) : freezeV h (n + 1) (.slice s) = some (.slice (.lst s.len false us)) := by
 cases hg with
 | nil => simp at hm; subst hm; rfl
 | none => simp at hm; subst hm; rfl
 | room => simp at hm; subst hm; rfl
 | @row id gen m _ row h1 hc hn hgn hv hr hs =>
   have hcells := (Grown.row h1 hc hn hgn hv hr hs).cells
   simp only [freezeV, Sl.len, Bool.cond_eq_ite]
   by_cases h0 : m = 0
   · subst h0
     have : cs = [] := by simpa using hn
     subst this
     simp at hm
     subst hm
     simp
   · rw [if_neg (by rw [nbeq]; exact h0), h1]
     simp only [hs, hcells, o_bd, hm, Option.map_some]
 | @full id gen m _ row h0 h1 hc hn hgn hv hr hs =>
   have hcells : h.sliceCells sz (.mk ⟨id, gen, 0⟩ m false) = some cs := (Grown.full h0 h1 hc hn hgn hv hr hs).cells
   simp only [freezeV, Sl.len, Bool.cond_eq_ite]
   rw [if_neg (by rw [nbeq]; exact h0), h1]
   simp only [hs, hcells, o_bd, hm, Option.map_some]
theorem Own.freeze {n sz id gen m : Nat} {cs us : List AV} (ho : Own h sz id gen m cs) (c : Bool) (hm : cs.mapM (freezeV h n) = some us) : freezeV h (n + 1) (.slice (.mk ⟨id, gen, 0⟩ m c)) = some (.slice (.lst m false us)) := by
 have hcells := ho.cells false
 obtain ⟨⟨row, h1, hc, hgn, hv, hr, hs⟩, hl⟩ := ho
 simp only [freezeV, Bool.cond_eq_ite]
 by_cases h0 : m = 0
 · subst h0
   have : cs = [] := by simpa using hl
   subst this
   simp at hm
   subst hm
   simp
 · rw [if_neg (by rw [nbeq]; exact h0), h1]
   simp only [hs, hcells, o_bd, hm, Option.map_some]
theorem freeze_intsC (n : Nat) (l : List Int) : (intsC l).mapM (freezeV h (n + 1)) = some (intsC l) := mapM_freeze (fun _ => rfl) l
theorem freeze_boolsC (n : Nat) (l : List Bool) : (boolsC l).mapM (freezeV h (n + 1)) = some (boolsC l) := mapM_freeze (fun _ => rfl) l
theorem freeze_bytesC (n : Nat) (l : List UInt8) : (bytesC l).mapM (freezeV h (n + 1)) = some (bytesC l) := mapM_freeze (fun _ => rfl) l
theorem Grown.one {sz bytes : Nat} {s : Sl} {cs vs : List AV} (hg : Grown h sz s cs) (hv : vs.length = sz) (hb : (s.len + 1) * bytes ≤ 140737488355328) (hb' : s.len + 1 ≤ 140737488355328) :
   ∃ s' h', h.append false sz bytes s 1 vs = some (s', h') ∧ Grown h' sz s' (cs ++ vs) ∧ s'.len = s.len + 1 ∧ Keeps h h' (fun i => s.row = some i) ∧ (s'.row = s.row ∨ s'.row = some h.rows.length) := by
 obtain ⟨s', h', e1, e2, e3, e4, e5⟩ := hg.append (bytes := bytes) (m := 1) (xs := vs) (by rw [Nat.one_mul]; exact hv) (by omega) hb hb' some
 have hbs : ∀ x : Option (Sl × AH), x.bind some = x := fun x => by cases x <;> rfl
 rw [hbs] at e1
 exact ⟨s', h', e1, e2, e4, e3, e5⟩
theorem Grown.snoc {sz bytes : Nat} {s : Sl} {cs vs : List AV} (hg : Grown h sz s cs) (hv : vs.length = sz) (hb : (s.len + 1) * bytes ≤ 140737488355328) (hb' : s.len + 1 ≤ 140737488355328) :
   ∃ s' h', h.append false sz bytes s 1 vs = some (s', h') ∧ Grown h' sz s' (cs ++ vs) ∧ s'.len = s.len + 1 := by
 obtain ⟨s', h', e1, e2, e3, _⟩ := hg.one hv hb hb'
 exact ⟨s', h', e1, e2, e3⟩
theorem Grown.more {sz bytes m : Nat} {s : Sl} {cs vs : List AV} (hg : Grown h sz s cs) (hv : vs.length = m * sz) (hb : (s.len + m) * bytes ≤ 140737488355328) (hb' : s.len + m ≤ 140737488355328) :
   ∃ s' h', h.append false sz bytes s m vs = some (s', h') ∧ Grown h' sz s' (cs ++ vs) ∧ s'.len = s.len + m ∧ Keeps h h' (fun i => s.row = some i) ∧ (s'.row = s.row ∨ s'.row = some h.rows.length) := by
 by_cases h0 : m = 0
 · subst h0
   have : vs = [] := by simpa using hv
   subst this
   exact ⟨s, h, by simp [AH.append], by simpa using hg, rfl, Keeps.refl _ _, .inl rfl⟩
 · obtain ⟨s', h', e1, e2, e3, e4, e5⟩ := hg.append (bytes := bytes) (m := m) (xs := vs) hv h0 hb hb' some
   have hbs : ∀ x : Option (Sl × AH), x.bind some = x := fun x => by cases x <;> rfl
   rw [hbs] at e1
   exact ⟨s', h', e1, e2, e4, e3, e5⟩
theorem Grown.make (sz : Nat) (c : Bool) : Grown (h.push sz []) sz (.mk ⟨h.next, 0, 0⟩ 0 c) [] := by
 cases c with
 | true => exact .none
 | false => exact .row (row := { cells := [], sz := sz }) (by simp [AH.push, AH.next]) rfl (by simp) rfl (Nat.le_refl _) rfl rfl
theorem Grown.hasSz {sz : Nat} {s : Sl} {cs : List AV} (hg : Grown h sz s cs) : h.hasSz sz s = true := by
 cases hg with
 | nil => rfl
 | none => rfl
 | room h1 hgen hv hr hs => simp [AH.hasSz, h1, hs]
 | row h1 hc hn hgen hv hr hs => simp [AH.hasSz, h1, hs]
 | full h0 h1 hc hn hgen hv hr hs => simp [AH.hasSz, h1, hs]
theorem Own.hasSz {sz id gen n : Nat} {cs : List AV} (ho : Own h sz id gen n cs) (c : Bool) : h.hasSz sz (.mk ⟨id, gen, 0⟩ n c) = true := by
 obtain ⟨⟨row, h1, _, _, _, _, h6⟩, _⟩ := ho
 simp [AH.hasSz, h1, h6]
theorem Grown.len {sz : Nat} {s : Sl} {cs : List AV} (hg : Grown h sz s cs) : cs.length = s.len * sz := sliceCells_len hg.cells
end
section
variable {α : Type} {h : AH}
theorem fixL_one (v : AV) : h.fixL [v] = ([(h.fixV v).1], (h.fixV v).2) := rfl
theorem fixL_cons (v : AV) (vs : List AV) : h.fixL (v :: vs) = ((h.fixV v).1 :: ((h.fixV v).2.fixL vs).1, ((h.fixV v).2.fixL vs).2) := rfl
theorem fixV_bool (x : Bool) : h.fixV (.bool x) = (.bool x, h) := rfl
theorem Grown.fix {sz : Nat} {s : Sl} {cs : List AV} (hg : Grown h sz s cs) (hc : closedL cs = true) :
   ∃ h', h.fixV (.slice s) = (.slice (.lst s.len false cs), h') ∧ Keeps h h' (fun i => s.row = some i) ∧ h'.rows.length = h.rows.length ∧ h'.maps = h.maps := by
 cases hg with
 | nil => exact ⟨h, rfl, Keeps.refl _ _, rfl, rfl⟩
 | none => exact ⟨h, rfl, Keeps.refl _ _, rfl, rfl⟩
 | room => exact ⟨h, rfl, Keeps.refl _ _, rfl, rfl⟩
 | @row id gen m _ row h1 hcs hn hgn hv hr hs =>
   have hcells := (Grown.row h1 hcs hn hgn hv hr hs).cells
   by_cases h0 : m = 0
   · subst h0
     have : cs = [] := by simpa using hn
     subst this
     exact ⟨h, rfl, Keeps.refl _ _, rfl, rfl⟩
   · refine ⟨h.setRow id { row with ro := true }, ?_, (Keeps.setRow h id _).mono fun i _ e => by subst e; rfl, by simp [AH.setRow], rfl⟩
     simp only [AH.fixV, Bool.cond_eq_ite]
     rw [if_neg (by rw [nbeq]; exact h0), h1]
     simp only [hr, Bool.false_eq_true, if_false, hs, hcells, hc, if_true, Sl.len]
 | @full id gen m _ row h0 h1 hcs hn hgn hv hr hs =>
   have hcells := (Grown.full h0 h1 hcs hn hgn hv hr hs).cells
   refine ⟨h.setRow id { row with ro := true }, ?_, (Keeps.setRow h id _).mono fun i _ e => by subst e; exact Sl.row_mk h0 true, by simp [AH.setRow], rfl⟩
   simp only [AH.fixV, Bool.cond_eq_ite]
   rw [if_neg (by rw [nbeq]; exact h0), h1]
   simp only [hr, Bool.false_eq_true, if_false, hs, hcells, hc, if_true, Sl.len]
end
def Far (s t : Sl) : Prop := ∀ r, s.row = some r → t.row ≠ some r
theorem Far.nil (s : Sl) : Far s .nil := fun r _ h => by cases h
theorem Far.symm {s t : Sl} (h : Far s t) : Far t s := fun r ht hs => h r hs ht
section
variable {h : AH}
end
section
variable {h : AH}
theorem canon_freeze : ∀ (n : Nat) {v u : AV}, canonV n v = some u → freezeV h n v = some u := by
 intro n
 induction n with
 | zero => intro v u hu; simp [canonV] at hu
 | succ n ih =>
   intro v u hu
   have lists : ∀ {cs us : List AV}, cs.mapM (canonV n) = some us → cs.mapM (freezeV h n) = some us := by
     intro cs
     induction cs with
     | nil => intro us hm; simpa using hm
     | cons c cs ihc =>
       intro us hm
       rw [List.mapM_cons] at hm ⊢
       cases h1 : canonV n c with
       | none => rw [h1] at hm; cases hm
       | some u =>
         cases h2 : cs.mapM (canonV n) with
         | none => rw [h1, h2] at hm; cases hm
         | some us' =>
           rw [h1, h2] at hm
           cases hm
           rw [ih h1, ihc h2]; rfl
   unfold canonV at hu
   split at hu
   · rename_i s
     split at hu
     · cases hu; rfl
     · rename_i len c cs
       rw [Bool.cond_eq_ite] at hu
       split at hu
       · rename_i hc; cases hu; simp [freezeV, hc]
       · cases hu
     · cases hu
   · rename_i t y
     cases hy : canonV n y with
     | none => rw [hy] at hu; cases hu
     | some u' => rw [hy] at hu; cases hu; simp [freezeV, ih hy]
   · rename_i cs
     cases hm : cs.mapM (canonV n) with
     | none => rw [hm] at hu; cases hu
     | some us => rw [hm] at hu; cases hu; simp [freezeV, lists hm]
   · rename_i cs
     cases hm : cs.mapM (canonV n) with
     | none => rw [hm] at hu; cases hu
     | some us => rw [hm] at hu; cases hu; simp [freezeV, lists hm]
   · rw [Bool.cond_eq_ite] at hu
     split at hu
     · rename_i hc
       cases hu
       cases v <;> simp_all [freezeV, AV.closed]
       rename_i p
       cases p <;> simp_all [Pt.closed]
     · cases hu
theorem mapM_canon {l us : List AV} (hl : canonL l = some us) : l.mapM (freezeV h 8) = some us := by
 induction l generalizing us with
 | nil => unfold canonL at hl; simpa using hl
 | cons c cs ihc =>
   unfold canonL at hl
   rw [List.mapM_cons] at hl ⊢
   cases h1 : canonV 8 c with
   | none => rw [h1] at hl; cases hl
   | some u =>
     cases h2 : cs.mapM (canonV 8) with
     | none => rw [h1, h2] at hl; cases hl
     | some us' =>
       rw [h1, h2] at hl
       cases hl
       rw [canon_freeze 8 h1, ihc h2]; rfl
end
theorem mm2 {g : AV → Option AV} {a b u v : AV} (ha : g a = some u) (hb : g b = some v) : [a, b].mapM g = some [u, v] := by simp [ha, hb]
theorem mm3 {g : AV → Option AV} {a b c u v x : AV} (ha : g a = some u) (hb : g b = some v) (hc : g c = some x) : [a, b, c].mapM g = some [u, v, x] := by simp [ha, hb, hc]
theorem freeze_agg {h : AH} (n : Nat) {cs us : List AV} (hm : cs.mapM (freezeV h n) = some us) : freezeV h (n + 1) (.agg cs) = some (.agg us) := by simp [freezeV, hm]
section
variable {h : AH}
theorem Own.copy {id gen n : Nat} {cs : List AV} (ho : Own h 1 id gen n cs) {off k m : Nat} {c : Bool} {xs : List AV} (hm : m ≤ xs.length) (hl : off + m ≤ n) :
   ∃ h', h.copy false 1 (.mk ⟨id, gen, off⟩ k c) m xs = some h' ∧ Own h' 1 id gen n (cs.take off ++ xs.take m ++ cs.drop (off + m)) ∧ Keeps h h' (· = id) ∧ h'.rows.length = h.rows.length := by
 by_cases h0 : m = 0
 · subst h0
   exact ⟨h, by simp [AH.copy], by simpa using ho, Keeps.refl _ _, rfl⟩
 · obtain ⟨⟨row, h1, rfl, rfl, h4, h5, h6⟩, hlen⟩ := ho
   rw [Nat.mul_one] at hlen
   have hlt := (List.getElem?_eq_some_iff.1 h1).1
   have hxl : (xs.take m).length = m := by simp; omega
   have hle : off + m ≤ row.cells.length := by omega
   refine ⟨h.setRow id { row with cells := AH.overlay row.cells off (xs.take m), valid := row.gen }, ?_, ⟨⟨{ row with cells := AH.overlay row.cells off (xs.take m), valid := row.gen }, ?_, ?_, rfl, Nat.le_refl _, h5, h6⟩, ?_⟩, Keeps.setRow _ _ _, by simp [AH.setRow]⟩
   · simp only [AH.copy, beq_eq, h0, decide_false, cond_false, h1, h6, decide_true, cond_true, Nat.mul_one, AH.store, h5, Bool.not_false, hxl, ble_eq, hle, Bool.and_self]
   · simp only [AH.setRow]
     exact List.getElem?_set_self hlt
   · simp only [AH.overlay, hxl]
   · simp; omega
end
theorem aHi_none (n : Nat) : aHi none n = some n := rfl
theorem aHi_some {x : Int} {n : Nat} (h0 : 0 ≤ x) (h1 : x ≤ n) (k : IntKind) : aHi (some (.int k x)) n = some x.toNat := by
 simp [aHi, abound, h0, h1]
theorem aLo_none (n : Nat) : aLo none n = some 0 := rfl
theorem aLo_some {x : Int} {n : Nat} (h0 : 0 ≤ x) (h1 : x ≤ n) (k : IntKind) : aLo (some (.int k x)) n = some x.toNat := by
 simp [aLo, abound, h0, h1]
theorem aMx_none (n : Nat) : aMx none n = some false := rfl
theorem ofNat_toNat (x : UInt8) : UInt8.ofNat ((x.toNat : Int)).toNat = x := by
 rw [Int.toNat_natCast]
 exact UInt8.ofNat_toNat
theorem bytesFrom_bytesC : ∀ b : List UInt8, bytesFrom (bytesC b) = some b
 | [] => rfl
 | x :: b => by
   have e : bytesC (x :: b) = .int .u8 (x.toNat : Int) :: bytesC b := rfl
   rw [e, bytesFrom, bytesFrom_bytesC b, Option.map_some, ofNat_toNat]
end Go.Proofs.YtjagkijfngokaaaGreatDoor
