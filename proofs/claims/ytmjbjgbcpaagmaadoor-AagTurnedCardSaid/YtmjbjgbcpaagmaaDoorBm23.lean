/-
  Values: lists of numbers, of bools, of bytes, lists of lists; what is read of them; what a body's result becomes.
-/
import Derived.Test.YtmjbjgbcpaagmaaDoorBm22
import Derived.Test.YtmjbjgbcpaagmaaDoorBm25
namespace Go.Proofs.YtmjbjgbcpaagmaaDoor
open Go.RowKit

/-- Two numbers: the same? -/
def eqI (a b : Int) : Bool := decide (a = b)
theorem eqI_self (a : Int) : eqI a a = true := decide_eq_true rfl

/-- What 'make' asks first. -/
theorem mk_ok {n b : Int} (h0 : 0 ≤ n) (h1 : n * b ≤ 140737488355328) (h2 : n ≤ 140737488355328) : (true && decide (0 ≤ n) && decide (n ≤ n) && decide (n * b ≤ 140737488355328) && decide (n ≤ 140737488355328)) = true := by
  simp [h0, h1, h2]
theorem mk0_ok {n b : Int} (h0 : 0 ≤ n) (h1 : n * b ≤ 140737488355328) (h2 : n ≤ 140737488355328) : (decide ((0 : Int) ≤ n) && decide (n * b ≤ 140737488355328) && decide (n ≤ 140737488355328)) = true := by
  simp [h0, h1, h2]

/-- A list of one-cell elements. -/
abbrev lstM {α : Type} (f : α → AVal) (l : List α) : Sl := .lst l.length false (l.map f)
/-- A list of elements of several cells. -/
abbrev lstN {α : Type} (f : α → List AVal) (l : List α) : Sl := .lst l.length false (l.flatMap f)
abbrev lstI (l : List Int) : Sl := lstM (.int .i64) l
abbrev lstB (l : List Bool) : Sl := lstM .bool l
abbrev lstU (l : List UInt8) : Sl := lstM (fun b => .int .u8 (b.toNat : Int)) l
abbrev lstLL (cc : List (List Int)) : Sl := lstM (fun c => .slice (lstI c)) cc
abbrev lstP (l : List (Int × Int)) : Sl := lstN (fun p => [.int .i64 p.1, .int .i64 p.2]) l
/-- The cells of bytes. -/
abbrev bytesC (b : List UInt8) : List AVal := b.map fun x => .int .u8 (x.toNat : Int)
abbrev boolsC (l : List Bool) : List AVal := l.map .bool

theorem getD_get {α : Type} {l : List α} {i : Nat} (h : i < l.length) (d : α) : l[i]? = some (l.getD i d) := by
  rw [List.getD_eq_getElem?_getD, List.getElem?_eq_getElem h]; rfl
theorem drop_get {α : Type} {l : List α} {i : Nat} (h : i < l.length) (d : α) : l.drop i = l.getD i d :: l.drop (i + 1) := by
  rw [List.drop_eq_getElem_cons h, List.getD_eq_getElem?_getD, List.getElem?_eq_getElem h]; rfl
theorem take_get {α : Type} {l : List α} {i : Nat} (h : i < l.length) (d : α) : l.take (i + 1) = l.take i ++ [l.getD i d] := by
  rw [List.take_succ_eq_append_getElem h, List.getD_eq_getElem?_getD, List.getElem?_eq_getElem h]; rfl

section
variable {α : Type} {h : AHeap}

theorem cells_lstM (f : α → AVal) (l : List α) (c : Bool) : h.sliceCells 1 (.lst l.length c (l.map f)) = some (l.map f) := by
  simp [AHeap.sliceCells]
theorem flatMap_len {f : α → List AVal} {sz : Nat} (hf : ∀ a, (f a).length = sz) : ∀ l : List α, (l.flatMap f).length = l.length * sz
  | [] => by simp
  | a :: l => by rw [List.flatMap_cons, List.length_append, hf, flatMap_len hf l, List.length_cons, Nat.add_mul]; omega
theorem cells_lstN {f : α → List AVal} {sz : Nat} (hf : ∀ a, (f a).length = sz) (l : List α) (c : Bool) : h.sliceCells sz (.lst l.length c (l.flatMap f)) = some (l.flatMap f) := by
  simp only [AHeap.sliceCells, flatMap_len hf, Nat.beq_refl, cond_true]

/-- Element j. -/
theorem addr_lstM (f : α → AVal) {l : List α} {j : Int} (h0 : 0 ≤ j) (hj : j.toNat < l.length) (d : α) (c : Bool) : h.addr 1 (.lst l.length c (l.map f)) j = some (.fp 0 [f (l.getD j.toNat d)]) := by
  have hjn : j < (l.length : Int) := by omega
  simp only [AHeap.addr, h0, hjn, decide_true, Bool.and_self, cond_true, Nat.mul_one]
  have e : (l.map f).drop j.toNat = f (l.getD j.toNat d) :: (l.map f).drop (j.toNat + 1) := by
    rw [← List.map_drop, drop_get hj d, List.map_cons, List.map_drop]
  rw [e]
  rfl
theorem flatMap_drop {f : α → List AVal} {sz : Nat} (hf : ∀ a, (f a).length = sz) : ∀ (l : List α) (i : Nat), (l.flatMap f).drop (i * sz) = (l.drop i).flatMap f
  | l, 0 => by simp
  | [], i + 1 => by simp
  | a :: l, i + 1 => by
    rw [List.flatMap_cons, Nat.add_mul, Nat.one_mul, Nat.add_comm, ← List.drop_drop, List.drop_left' (hf a), List.drop_succ_cons, flatMap_drop hf l i]
theorem flatMap_take {f : α → List AVal} {sz : Nat} (hf : ∀ a, (f a).length = sz) : ∀ (l : List α) (i : Nat), (l.flatMap f).take (i * sz) = (l.take i).flatMap f
  | l, 0 => by simp
  | [], i + 1 => by simp
  | a :: l, i + 1 => by
    rw [List.flatMap_cons, Nat.add_mul, Nat.one_mul, List.take_succ_cons, List.flatMap_cons, List.take_append, hf, Nat.add_sub_cancel, flatMap_take hf l i, List.take_of_length_le (by rw [hf]; omega)]
theorem addr_lstN {f : α → List AVal} {sz : Nat} (hf : ∀ a, (f a).length = sz) {l : List α} {j : Int} (h0 : 0 ≤ j) (hj : j.toNat < l.length) (d : α) (c : Bool) : h.addr sz (.lst l.length c (l.flatMap f)) j = some (.fp 0 (f (l.getD j.toNat d))) := by
  have hjn : j < (l.length : Int) := by omega
  simp only [AHeap.addr, h0, hjn, decide_true, Bool.and_self, cond_true]
  rw [flatMap_drop hf, drop_get hj d, List.flatMap_cons, List.take_left' (hf _)]

theorem cell_fp (k : Nat) (v : AVal) (vs : List AVal) : h.cell (.fp k (v :: vs)) = some v := rfl
theorem field_fp (o k : Nat) (cs : List AVal) : Pt.field o (.fp k cs) = some (.fp 0 (cs.drop o)) := rfl
theorem chk_fp (k : Nat) (cs : List AVal) : Pt.chk (.fp k cs) = some (.fp k cs) := rfl
theorem cellsAt_fp {n k : Nat} {cs : List AVal} (hn : cs.length = n) : h.cellsAt n (.fp k cs) = some cs := by
  subst hn
  simp only [AHeap.cellsAt, ble_eq, Nat.le_refl, decide_true, cond_true, List.take_length]
theorem len_lst (n : Nat) (c : Bool) (cs : List AVal) : Sl.len (.lst n c cs) = n := rfl

/-- A part. -/
theorem cut_lstM (f : α → AVal) (l : List α) {lb hb : Nat} (hb' : hb ≤ l.length) : Sl.cut (lstM f l) 1 lb hb false = lstM f ((l.drop lb).take (hb - lb)) := by
  simp only [Sl.cut, lstM, Nat.mul_one, ← List.map_drop, ← List.map_take, Bool.false_and, Bool.or_self, List.length_take, List.length_drop]
  congr 1
  omega
theorem cut_lstN {f : α → List AVal} {sz : Nat} (hf : ∀ a, (f a).length = sz) (l : List α) {lb hb : Nat} (hb' : hb ≤ l.length) : Sl.cut (lstN f l) sz lb hb false = lstN f ((l.drop lb).take (hb - lb)) := by
  simp only [Sl.cut, lstN, flatMap_drop hf, flatMap_take hf, Bool.false_and, Bool.or_self, List.length_take, List.length_drop]
  congr 1
  omega
theorem hasSz_lstM (f : α → AVal) (l : List α) (c : Bool) : h.hasSz 1 (.lst l.length c (l.map f)) = true := by simp [AHeap.hasSz]
theorem hasSz_lstN {f : α → List AVal} {sz : Nat} (hf : ∀ a, (f a).length = sz) (l : List α) (c : Bool) : h.hasSz sz (.lst l.length c (l.flatMap f)) = true := by
  simp only [AHeap.hasSz, flatMap_len hf, Nat.beq_refl]

/-! Such values speak of no row. -/
theorem closedL_append : ∀ {a b : List AVal}, closedL (a ++ b) = (closedL a && closedL b)
  | [], b => by simp [closedL]
  | v :: a, b => by simp [closedL, closedL_append (a := a), Bool.and_assoc]
theorem closedL_map {f : α → AVal} (hf : ∀ a, (f a).closed = true) : ∀ l : List α, closedL (l.map f) = true
  | [] => rfl
  | a :: l => by simp [closedL, hf, closedL_map hf l]
theorem closedL_flatMap {f : α → List AVal} (hf : ∀ a, closedL (f a) = true) : ∀ l : List α, closedL (l.flatMap f) = true
  | [] => rfl
  | a :: l => by simp [closedL_append, hf, closedL_flatMap hf l]
theorem closed_lstM {f : α → AVal} (hf : ∀ a, (f a).closed = true) (l : List α) (n : Nat) : (AVal.slice (.lst n false (l.map f))).closed = true := by
  simpa [AVal.closed, Sl.closed] using closedL_map hf l
theorem closed_lstN {f : α → List AVal} (hf : ∀ a, closedL (f a) = true) (l : List α) (n : Nat) : (AVal.slice (.lst n false (l.flatMap f))).closed = true := by
  simpa [AVal.closed, Sl.closed] using closedL_flatMap hf l
theorem closed_lstI (l : List Int) : (AVal.slice (lstI l)).closed = true := closed_lstM (fun _ => rfl) l _
theorem closed_lstB (l : List Bool) : (AVal.slice (lstB l)).closed = true := closed_lstM (fun _ => rfl) l _
theorem closed_lstU (l : List UInt8) : (AVal.slice (lstU l)).closed = true := closed_lstM (fun _ => rfl) l _
theorem closed_lstLL (l : List (List Int)) : (AVal.slice (lstLL l)).closed = true := closed_lstM closed_lstI l _
theorem closed_lstP (l : List (Int × Int)) : (AVal.slice (lstP l)).closed = true := closed_lstN (fun _ => rfl) l _

/-! Such values are handed over as they are. -/
theorem canonL_none {l : List AVal} {i : Nat} {v : AVal} (hi : l[i]? = some v) (hv : canonV 8 v = none) : canonL l = none := by
  cases h : canonL l with
  | none => rfl
  | some as =>
    obtain ⟨h1, h2⟩ := mapM_get h
    have hlt : i < as.length := by rw [h1]; exact (List.getElem?_eq_some_iff.1 hi).1
    have := h2 i v _ hi (List.getElem?_eq_getElem hlt)
    rw [hv] at this
    cases this
theorem canonL_cons {v u : AVal} {l us : List AVal} (hv : canonV 8 v = some u) (hl : canonL l = some us) : canonL (v :: l) = some (u :: us) := by
  unfold canonL at hl ⊢
  rw [List.mapM_cons, hv, hl]; rfl
theorem canonL_nil : canonL [] = some [] := rfl
theorem cc1 {a u : AVal} (ha : canonV 8 a = some u) : canonL [a] = some [u] := canonL_cons ha canonL_nil
theorem cc2 {a b u v : AVal} (ha : canonV 8 a = some u) (hb : canonV 8 b = some v) : canonL [a, b] = some [u, v] := canonL_cons ha (cc1 hb)
theorem cc3 {a b c u v x : AVal} (ha : canonV 8 a = some u) (hb : canonV 8 b = some v) (hc : canonV 8 c = some x) : canonL [a, b, c] = some [u, v, x] := canonL_cons ha (cc2 hb hc)
theorem cc4 {a b c d u v x y : AVal} (ha : canonV 8 a = some u) (hb : canonV 8 b = some v) (hc : canonV 8 c = some x) (hd : canonV 8 d = some y) : canonL [a, b, c, d] = some [u, v, x, y] := canonL_cons ha (cc3 hb hc hd)
theorem cc5 {a b c d e u v x y z : AVal} (ha : canonV 8 a = some u) (hb : canonV 8 b = some v) (hc : canonV 8 c = some x) (hd : canonV 8 d = some y) (he : canonV 8 e = some z) : canonL [a, b, c, d, e] = some [u, v, x, y, z] := canonL_cons ha (cc4 hb hc hd he)
theorem canon_lst {n m : Nat} {c : Bool} {cs : List AVal} (hc : closedL cs = true) : canonV (n + 1) (.slice (.lst m c cs)) = some (.slice (.lst m false cs)) := by simp [canonV, hc]
theorem canon_lstM {f : α → AVal} (hf : ∀ a, (f a).closed = true) (n m : Nat) (c : Bool) (l : List α) : canonV (n + 1) (.slice (.lst m c (l.map f))) = some (.slice (.lst m false (l.map f))) := canon_lst (closedL_map hf l)
theorem canon_lstN {f : α → List AVal} (hf : ∀ a, closedL (f a) = true) (n m : Nat) (c : Bool) (l : List α) : canonV (n + 1) (.slice (.lst m c (l.flatMap f))) = some (.slice (.lst m false (l.flatMap f))) := canon_lst (closedL_flatMap hf l)
theorem canon_lstI (n : Nat) (l : List Int) : canonV (n + 1) (.slice (lstI l)) = some (.slice (lstI l)) := canon_lstM (fun _ => rfl) _ _ _ l
theorem canon_lstB (n : Nat) (l : List Bool) : canonV (n + 1) (.slice (lstB l)) = some (.slice (lstB l)) := canon_lstM (fun _ => rfl) _ _ _ l
theorem canon_lstU (n : Nat) (l : List UInt8) : canonV (n + 1) (.slice (lstU l)) = some (.slice (lstU l)) := canon_lstM (fun _ => rfl) _ _ _ l
theorem canon_lstLL (n : Nat) (l : List (List Int)) : canonV (n + 1) (.slice (lstLL l)) = some (.slice (lstLL l)) := canon_lstM closed_lstI _ _ _ l
theorem canon_lstP (n : Nat) (l : List (Int × Int)) : canonV (n + 1) (.slice (lstP l)) = some (.slice (lstP l)) := canon_lstN (fun _ => rfl) _ _ _ l
theorem canon_nil (n : Nat) : canonV (n + 1) (.slice .nil) = some (.slice (.lst 0 false [])) := rfl
theorem canon_mk (n : Nat) (r : Ref) (m : Nat) (c : Bool) : canonV (n + 1) (.slice (.mk r m c)) = none := rfl
theorem canon_agg (n : Nat) (cs : List AVal) : canonV (n + 1) (.agg cs) = (cs.mapM (canonV n)).map .agg := rfl
theorem canonM_cons {n : Nat} {v u : AVal} {l us : List AVal} (hv : canonV n v = some u) (hl : l.mapM (canonV n) = some us) : (v :: l).mapM (canonV n) = some (u :: us) := by
  rw [List.mapM_cons, hv, hl]; rfl
theorem canonM_nil (n : Nat) : ([] : List AVal).mapM (canonV n) = some [] := rfl
/-- A slice that is handed over has its cells. -/
theorem canon_cells {n : Nat} {s : Sl} {u : AVal} (hu : canonV (n + 1) (.slice s) = some u) : ∃ s', u = .slice s' ∧ s'.len = s.len ∧ ∀ (sz : Nat) (h h' : AHeap), h'.sliceCells sz s' = h.sliceCells sz s := by
  cases s with
  | nil => cases hu; exact ⟨_, rfl, rfl, fun sz h h' => by simp [AHeap.sliceCells]⟩
  | mk => cases hu
  | lst m c cs =>
    simp only [canonV, Bool.cond_eq_ite] at hu
    split at hu
    · cases hu; exact ⟨_, rfl, rfl, fun sz h h' => rfl⟩
    · cases hu

/-! What a body's result becomes. -/
theorem mapM_freeze {f g : α → AVal} {n : Nat} (hf : ∀ a, freezeV h n (f a) = some (g a)) : ∀ l : List α, (l.map f).mapM (freezeV h n) = some (l.map g)
  | [] => rfl
  | a :: l => by rw [List.map_cons, List.mapM_cons, hf, mapM_freeze hf l]; rfl
theorem mapM_append {α β : Type} {f : α → Option β} : ∀ {a b : List α} {x y : List β}, a.mapM f = some x → b.mapM f = some y → (a ++ b).mapM f = some (x ++ y)
  | [], b, x, y, ha, hb => by simp at ha; subst ha; simpa using hb
  | c :: a, b, x, y, ha, hb => by
    rw [List.mapM_cons] at ha
    cases h1 : f c with
    | none => rw [h1] at ha; cases ha
    | some u =>
      cases h2 : a.mapM f with
      | none => rw [h1, h2] at ha; cases ha
      | some us =>
        rw [h1, h2] at ha
        cases ha
        rw [List.cons_append, List.mapM_cons, h1, mapM_append h2 hb]; rfl
theorem mapM_freezeN {f g : α → List AVal} {n : Nat} (hf : ∀ a, (f a).mapM (freezeV h n) = some (g a)) : ∀ l : List α, (l.flatMap f).mapM (freezeV h n) = some (l.flatMap g)
  | [] => rfl
  | a :: l => by rw [List.flatMap_cons, List.flatMap_cons]; exact mapM_append (hf a) (mapM_freezeN hf l)
theorem freeze_int (n : Nat) (k : IntKind) (x : Int) : freezeV h (n + 1) (.int k x) = some (.int k x) := rfl
theorem freeze_bool (n : Nat) (x : Bool) : freezeV h (n + 1) (.bool x) = some (.bool x) := rfl
theorem freeze_str (n : Nat) (x : ByteArray) : freezeV h (n + 1) (.str x) = some (.str x) := rfl
theorem freeze_nilif (n : Nat) : freezeV h (n + 1) .nilif = some .nilif := rfl
theorem freeze_iface (n : Nat) (t : TypeId) (v : AVal) : freezeV h (n + 1) (.iface t v) = (freezeV h n v).map (.iface t) := rfl
theorem freeze_tup2 (n : Nat) {a b u v : AVal} (ha : freezeV h n a = some u) (hb : freezeV h n b = some v) : freezeV h (n + 1) (.tup [a, b]) = some (.tup [u, v]) := by
  simp [freezeV, ha, hb]
theorem freeze_tup3 (n : Nat) {a b c u v x : AVal} (ha : freezeV h n a = some u) (hb : freezeV h n b = some v) (hc : freezeV h n c = some x) : freezeV h (n + 1) (.tup [a, b, c]) = some (.tup [u, v, x]) := by
  simp [freezeV, ha, hb, hc]
theorem freeze_nil (n : Nat) : freezeV h (n + 1) (.slice .nil) = some (.slice (.lst 0 false [])) := rfl
theorem freeze_lst (n m : Nat) (c : Bool) {cs : List AVal} (hc : closedL cs = true) : freezeV h (n + 1) (.slice (.lst m c cs)) = some (.slice (.lst m false cs)) := by
  simp [freezeV, hc]
theorem freeze_fp (n k : Nat) {cs : List AVal} (hc : closedL cs = true) : freezeV h (n + 1) (.ptr (.fp k cs)) = some (.ptr (.fp k cs)) := by
  simp [freezeV, hc]
theorem freeze_lstI (n : Nat) (l : List Int) : freezeV h (n + 1) (.slice (lstI l)) = some (.slice (lstI l)) := freeze_lst _ _ _ (closedL_map (fun _ => rfl) l)

/-- A slice that has grown. -/
theorem Grown.freeze {n sz : Nat} {s : Sl} {cs us : List AVal} (hg : Grown h sz s cs) (_ : 0 < sz) (hm : cs.mapM (freezeV h n) = some us) : freezeV h (n + 1) (.slice s) = some (.slice (.lst s.len false us)) := by
  cases hg with
  | nil => simp at hm; subst hm; rfl
  | none => simp at hm; subst hm; rfl
  | room => simp at hm; subst hm; rfl
  | @row id gen m _ row h1 hc hn hgn hv hr hs =>
    have hcells := (Grown.row h1 hc hn hgn hv hr hs).cells
    simp only [freezeV, Sl.len, Bool.cond_eq_ite]
    by_cases h0 : m = 0
    · subst h0
      have : cs = [] := by simpa using hn
      subst this
      simp at hm
      subst hm
      simp
    · rw [if_neg (by rw [nbeq]; exact h0), h1]
      simp only [hs, hcells, Option.bind_some, hm, Option.map_some]
  | @full id gen m _ row h0 h1 hc hn hgn hv hr hs =>
    have hcells : h.sliceCells sz (.mk ⟨id, gen, 0⟩ m false) = some cs := (Grown.full h0 h1 hc hn hgn hv hr hs).cells
    simp only [freezeV, Sl.len, Bool.cond_eq_ite]
    rw [if_neg (by rw [nbeq]; exact h0), h1]
    simp only [hs, hcells, Option.bind_some, hm, Option.map_some]
theorem Own.freeze {n sz id gen m : Nat} {cs us : List AVal} (ho : Own h sz id gen m cs) (c : Bool) (hm : cs.mapM (freezeV h n) = some us) : freezeV h (n + 1) (.slice (.mk ⟨id, gen, 0⟩ m c)) = some (.slice (.lst m false us)) := by
  have hcells := ho.cells false
  obtain ⟨⟨row, h1, hc, hgn, hv, hr, hs⟩, hl⟩ := ho
  simp only [freezeV, Bool.cond_eq_ite]
  by_cases h0 : m = 0
  · subst h0
    have : cs = [] := by simpa using hl
    subst this
    simp at hm
    subst hm
    simp
  · rw [if_neg (by rw [nbeq]; exact h0), h1]
    simp only [hs, hcells, Option.bind_some, hm, Option.map_some]
theorem freeze_intsC (n : Nat) (l : List Int) : (intsC l).mapM (freezeV h (n + 1)) = some (intsC l) := mapM_freeze (fun _ => rfl) l
theorem freeze_boolsC (n : Nat) (l : List Bool) : (boolsC l).mapM (freezeV h (n + 1)) = some (boolsC l) := mapM_freeze (fun _ => rfl) l
theorem freeze_bytesC (n : Nat) (l : List UInt8) : (bytesC l).mapM (freezeV h (n + 1)) = some (bytesC l) := mapM_freeze (fun _ => rfl) l
theorem freeze_pairsC (n : Nat) (l : List (Int × Int)) : (pairsC l).mapM (freezeV h (n + 1)) = some (pairsC l) := mapM_freezeN (fun _ => rfl) l

/-- One more element at the end. -/
theorem Grown.one {sz bytes : Nat} {s : Sl} {cs vs : List AVal} (hg : Grown h sz s cs) (hv : vs.length = sz) (hb : (s.len + 1) * bytes ≤ 140737488355328) (hb' : s.len + 1 ≤ 140737488355328) :
    ∃ s' h', h.append false sz bytes s 1 vs = some (s', h') ∧ Grown h' sz s' (cs ++ vs) ∧ s'.len = s.len + 1 ∧ Keeps h h' (fun i => s.row = some i) ∧ (s'.row = s.row ∨ s'.row = some h.rows.length) := by
  obtain ⟨s', h', e1, e2, e3, e4, e5⟩ := hg.append (bytes := bytes) (m := 1) (xs := vs) (by rw [Nat.one_mul]; exact hv) (by omega) hb hb' some
  have hbs : ∀ x : Option (Sl × AHeap), x.bind some = x := fun x => by cases x <;> rfl
  rw [hbs] at e1
  exact ⟨s', h', e1, e2, e4, e3, e5⟩
/-- .. where nothing else is known of the heap -/
theorem Grown.snoc {sz bytes : Nat} {s : Sl} {cs vs : List AVal} (hg : Grown h sz s cs) (hv : vs.length = sz) (hb : (s.len + 1) * bytes ≤ 140737488355328) (hb' : s.len + 1 ≤ 140737488355328) :
    ∃ s' h', h.append false sz bytes s 1 vs = some (s', h') ∧ Grown h' sz s' (cs ++ vs) ∧ s'.len = s.len + 1 := by
  obtain ⟨s', h', e1, e2, e3, _⟩ := hg.one hv hb hb'
  exact ⟨s', h', e1, e2, e3⟩
/-- .. several of them -/
theorem Grown.more {sz bytes m : Nat} {s : Sl} {cs vs : List AVal} (hg : Grown h sz s cs) (hv : vs.length = m * sz) (hb : (s.len + m) * bytes ≤ 140737488355328) (hb' : s.len + m ≤ 140737488355328) :
    ∃ s' h', h.append false sz bytes s m vs = some (s', h') ∧ Grown h' sz s' (cs ++ vs) ∧ s'.len = s.len + m ∧ Keeps h h' (fun i => s.row = some i) ∧ (s'.row = s.row ∨ s'.row = some h.rows.length) := by
  by_cases h0 : m = 0
  · subst h0
    have : vs = [] := by simpa using hv
    subst this
    exact ⟨s, h, by simp [AHeap.append], by simpa using hg, rfl, Keeps.refl _ _, .inl rfl⟩
  · obtain ⟨s', h', e1, e2, e3, e4, e5⟩ := hg.append (bytes := bytes) (m := m) (xs := vs) hv h0 hb hb' some
    have hbs : ∀ x : Option (Sl × AHeap), x.bind some = x := fun x => by cases x <;> rfl
    rw [hbs] at e1
    exact ⟨s', h', e1, e2, e4, e3, e5⟩
/-- What 'make' of no elements makes. -/
theorem Grown.make (sz : Nat) (c : Bool) : Grown (h.push sz []) sz (.mk ⟨h.next, 0, 0⟩ 0 c) [] := by
  cases c with
  | true => exact .none
  | false => exact .row (row := { cells := [], sz := sz }) (by simp [AHeap.push, AHeap.next]) rfl (by simp) rfl (Nat.le_refl _) rfl rfl
theorem Grown.hasSz {sz : Nat} {s : Sl} {cs : List AVal} (hg : Grown h sz s cs) : h.hasSz sz s = true := by
  cases hg with
  | nil => rfl
  | none => rfl
  | room h1 hgen hv hr hs => simp [AHeap.hasSz, h1, hs]
  | row h1 hc hn hgen hv hr hs => simp [AHeap.hasSz, h1, hs]
  | full h0 h1 hc hn hgen hv hr hs => simp [AHeap.hasSz, h1, hs]
theorem Own.hasSz {sz id gen n : Nat} {cs : List AVal} (ho : Own h sz id gen n cs) (c : Bool) : h.hasSz sz (.mk ⟨id, gen, 0⟩ n c) = true := by
  obtain ⟨⟨row, h1, _, _, _, _, h6⟩, _⟩ := ho
  simp [AHeap.hasSz, h1, h6]
/-- A value's cells hang on no heap. -/
theorem cells_closed {s : Sl} (hs : s.closed = true) (sz : Nat) (h h' : AHeap) : h.sliceCells sz s = h'.sliceCells sz s := by
  cases s with
  | nil => rfl
  | lst => rfl
  | mk => simp [Sl.closed] at hs
theorem Grown.len {sz : Nat} {s : Sl} {cs : List AVal} (hg : Grown h sz s cs) : cs.length = s.len * sz := sliceCells_len hg.cells

end

/-! Slices that are appended as elements. -/
section
variable {α : Type} {h : AHeap}
theorem fixL_one (v : AVal) : h.fixL [v] = ([(h.fixV v).1], (h.fixV v).2) := rfl
theorem fixL_cons (v : AVal) (vs : List AVal) : h.fixL (v :: vs) = ((h.fixV v).1 :: ((h.fixV v).2.fixL vs).1, ((h.fixV v).2.fixL vs).2) := rfl
theorem fixV_int (k : IntKind) (x : Int) : h.fixV (.int k x) = (.int k x, h) := rfl
theorem fixV_bool (x : Bool) : h.fixV (.bool x) = (.bool x, h) := rfl
theorem fixV_str (x : ByteArray) : h.fixV (.str x) = (.str x, h) := rfl
theorem fixV_lst (n : Nat) (c : Bool) (cs : List AVal) : h.fixV (.slice (.lst n c cs)) = (.slice (.lst n false cs), h) := rfl
theorem fixL_map {f : α → AVal} (hf : ∀ a h, AHeap.fixV h (f a) = (f a, h)) : ∀ (l : List α), h.fixL (l.map f) = (l.map f, h)
  | [] => rfl
  | a :: l => by rw [List.map_cons, fixL_cons, hf, fixL_map hf l]
theorem fixL_append : ∀ (a b : List AVal) {h : AHeap}, h.fixL (a ++ b) = ((h.fixL a).1 ++ ((h.fixL a).2.fixL b).1, ((h.fixL a).2.fixL b).2)
  | [], b, h => rfl
  | v :: a, b, h => by rw [List.cons_append, fixL_cons, fixL_append a b, fixL_cons]; rfl
theorem fixL_flatMap {f : α → List AVal} (hf : ∀ a h, AHeap.fixL h (f a) = (f a, h)) : ∀ (l : List α), h.fixL (l.flatMap f) = (l.flatMap f, h)
  | [] => rfl
  | a :: l => by rw [List.flatMap_cons, fixL_append, hf, fixL_flatMap hf l]

/-- A slice that has grown, as its cells. -/
theorem Grown.fix {sz : Nat} {s : Sl} {cs : List AVal} (hg : Grown h sz s cs) (hc : closedL cs = true) :
    ∃ h', h.fixV (.slice s) = (.slice (.lst s.len false cs), h') ∧ Keeps h h' (fun i => s.row = some i) ∧ h'.rows.length = h.rows.length ∧ h'.maps = h.maps := by
  cases hg with
  | nil => exact ⟨h, rfl, Keeps.refl _ _, rfl, rfl⟩
  | none => exact ⟨h, rfl, Keeps.refl _ _, rfl, rfl⟩
  | room => exact ⟨h, rfl, Keeps.refl _ _, rfl, rfl⟩
  | @row id gen m _ row h1 hcs hn hgn hv hr hs =>
    have hcells := (Grown.row h1 hcs hn hgn hv hr hs).cells
    by_cases h0 : m = 0
    · subst h0
      have : cs = [] := by simpa using hn
      subst this
      exact ⟨h, rfl, Keeps.refl _ _, rfl, rfl⟩
    · refine ⟨h.setRow id { row with ro := true }, ?_, (Keeps.setRow h id _).mono fun i _ e => by subst e; rfl, by simp [AHeap.setRow], rfl⟩
      simp only [AHeap.fixV, Bool.cond_eq_ite]
      rw [if_neg (by rw [nbeq]; exact h0), h1]
      simp only [hr, Bool.false_eq_true, if_false, hs, hcells, hc, if_true, Sl.len]
  | @full id gen m _ row h0 h1 hcs hn hgn hv hr hs =>
    have hcells := (Grown.full h0 h1 hcs hn hgn hv hr hs).cells
    refine ⟨h.setRow id { row with ro := true }, ?_, (Keeps.setRow h id _).mono fun i _ e => by subst e; exact Sl.row_mk h0 true, by simp [AHeap.setRow], rfl⟩
    simp only [AHeap.fixV, Bool.cond_eq_ite]
    rw [if_neg (by rw [nbeq]; exact h0), h1]
    simp only [hr, Bool.false_eq_true, if_false, hs, hcells, hc, if_true, Sl.len]
end

/-- Slices in rows of their own. -/
def Far (s t : Sl) : Prop := ∀ r, s.row = some r → t.row ≠ some r
theorem Far.nil (s : Sl) : Far s .nil := fun r _ h => by cases h
theorem Far.nil' (s : Sl) : Far .nil s := fun r h => by cases h
theorem Far.symm {s t : Sl} (h : Far s t) : Far t s := fun r ht hs => h r hs ht

section
variable {h : AHeap}
/-- One more element, where another slice grows too. -/
theorem Grown.snoc2 {sz bytes : Nat} {s : Sl} {cs vs : List AVal} (hg : Grown h sz s cs) (hv : vs.length = sz) (hb : (s.len + 1) * bytes ≤ 140737488355328) (hb' : s.len + 1 ≤ 140737488355328) {sz2 : Nat} {t : Sl} {ts : List AVal} (ht : Grown h sz2 t ts) (hf : Far s t) :
    ∃ s' h', h.append false sz bytes s 1 vs = some (s', h') ∧ Grown h' sz s' (cs ++ vs) ∧ s'.len = s.len + 1 ∧ Grown h' sz2 t ts ∧ Far s' t ∧ Keeps h h' (fun i => s.row = some i) := by
  obtain ⟨s', h', e1, e2, e3, e4, e5⟩ := hg.one hv hb hb'
  refine ⟨s', h', e1, e2, e3, ht.keep e4 fun i hi hs => hf i hs hi, fun r hr htr => ?_, e4⟩
  rcases e5 with e5 | e5
  · exact hf r (by rw [← e5]; exact hr) htr
  · rw [e5] at hr
    cases hr
    have := ht.row_lt htr
    omega
end

/-! Values as they are now. -/
section
variable {h : AHeap}
theorem canon_freeze : ∀ (n : Nat) {v u : AVal}, canonV n v = some u → freezeV h n v = some u := by
  intro n
  induction n with
  | zero => intro v u hu; simp [canonV] at hu
  | succ n ih =>
    intro v u hu
    have lists : ∀ {cs us : List AVal}, cs.mapM (canonV n) = some us → cs.mapM (freezeV h n) = some us := by
      intro cs
      induction cs with
      | nil => intro us hm; simpa using hm
      | cons c cs ihc =>
        intro us hm
        rw [List.mapM_cons] at hm ⊢
        cases h1 : canonV n c with
        | none => rw [h1] at hm; cases hm
        | some u =>
          cases h2 : cs.mapM (canonV n) with
          | none => rw [h1, h2] at hm; cases hm
          | some us' =>
            rw [h1, h2] at hm
            cases hm
            rw [ih h1, ihc h2]; rfl
    unfold canonV at hu
    split at hu
    · rename_i s
      split at hu
      · cases hu; rfl
      · rename_i len c cs
        rw [Bool.cond_eq_ite] at hu
        split at hu
        · rename_i hc; cases hu; simp [freezeV, hc]
        · cases hu
      · cases hu
    · rename_i t y
      cases hy : canonV n y with
      | none => rw [hy] at hu; cases hu
      | some u' => rw [hy] at hu; cases hu; simp [freezeV, ih hy]
    · rename_i cs
      cases hm : cs.mapM (canonV n) with
      | none => rw [hm] at hu; cases hu
      | some us => rw [hm] at hu; cases hu; simp [freezeV, lists hm]
    · rename_i cs
      cases hm : cs.mapM (canonV n) with
      | none => rw [hm] at hu; cases hu
      | some us => rw [hm] at hu; cases hu; simp [freezeV, lists hm]
    · rw [Bool.cond_eq_ite] at hu
      split at hu
      · rename_i hc
        cases hu
        cases v <;> simp_all [freezeV, AVal.closed]
        rename_i p
        cases p <;> simp_all [Pt.closed]
      · cases hu
theorem mapM_canon {l us : List AVal} (hl : canonL l = some us) : l.mapM (freezeV h 8) = some us := by
  induction l generalizing us with
  | nil => unfold canonL at hl; simpa using hl
  | cons c cs ihc =>
    unfold canonL at hl
    rw [List.mapM_cons] at hl ⊢
    cases h1 : canonV 8 c with
    | none => rw [h1] at hl; cases hl
    | some u =>
      cases h2 : cs.mapM (canonV 8) with
      | none => rw [h1, h2] at hl; cases hl
      | some us' =>
        rw [h1, h2] at hl
        cases hl
        rw [canon_freeze 8 h1, ihc h2]; rfl
end
theorem mm1 {g : AVal → Option AVal} {a u : AVal} (ha : g a = some u) : [a].mapM g = some [u] := by simp [ha]
theorem mm2 {g : AVal → Option AVal} {a b u v : AVal} (ha : g a = some u) (hb : g b = some v) : [a, b].mapM g = some [u, v] := by simp [ha, hb]
theorem mm3 {g : AVal → Option AVal} {a b c u v x : AVal} (ha : g a = some u) (hb : g b = some v) (hc : g c = some x) : [a, b, c].mapM g = some [u, v, x] := by simp [ha, hb, hc]
theorem mm4 {g : AVal → Option AVal} {a b c d u v x y : AVal} (ha : g a = some u) (hb : g b = some v) (hc : g c = some x) (hd : g d = some y) : [a, b, c, d].mapM g = some [u, v, x, y] := by simp [ha, hb, hc, hd]
theorem mm5 {g : AVal → Option AVal} {a b c d e u v x y z : AVal} (ha : g a = some u) (hb : g b = some v) (hc : g c = some x) (hd : g d = some y) (he : g e = some z) : [a, b, c, d, e].mapM g = some [u, v, x, y, z] := by simp [ha, hb, hc, hd, he]
theorem freeze_agg {h : AHeap} (n : Nat) {cs us : List AVal} (hm : cs.mapM (freezeV h n) = some us) : freezeV h (n + 1) (.agg cs) = some (.agg us) := by simp [freezeV, hm]

/-! Rows that are written. -/
section
variable {h : AHeap}
theorem readB {s : Sl} {l : List Bool} (hs : h.sliceCells 1 s = some (boolsC l)) {j : Nat} (hj : j < l.length) :
    h.addr 1 s (j : Int) = some (s.at 1 (j : Int)) ∧ h.cell (s.at 1 (j : Int)) = some (.bool (l.getD j false)) := by
  have hl := sliceCells_len hs
  simp only [List.length_map, Nat.mul_one] at hl
  exact ⟨addr_at hs (by omega) (by omega), cell_at hs (by omega) (by rw [Int.toNat_natCast, List.getElem?_map, getD_get hj false]; rfl)⟩
theorem Own.boolsStore {id gen n : Nat} {l : List Bool} (ho : Own h 1 id gen n (boolsC l)) {j : Nat} (hj : j < n) (c : Bool) (x : Bool) :
    h.addr 1 (.mk ⟨id, gen, 0⟩ n c) (j : Int) = some (Sl.at (.mk ⟨id, gen, 0⟩ n c) 1 (j : Int)) ∧
    ∃ h', h.storeAt [.bool x] (Sl.at (.mk ⟨id, gen, 0⟩ n c) 1 (j : Int)) = some h' ∧ Own h' 1 id gen n (boolsC (l.set j x)) ∧ Keeps h h' (· = id) ∧ h'.rows.length = h.rows.length := by
  have := ho.store (j := (j : Int)) (by omega) (by omega) c (.bool x)
  rwa [Int.toNat_natCast, ← List.map_set] at this
/-- Elements copied over some of a row's. -/
theorem Own.copy {id gen n : Nat} {cs : List AVal} (ho : Own h 1 id gen n cs) {off k m : Nat} {c : Bool} {xs : List AVal} (hm : m ≤ xs.length) (hl : off + m ≤ n) :
    ∃ h', h.copy false 1 (.mk ⟨id, gen, off⟩ k c) m xs = some h' ∧ Own h' 1 id gen n (cs.take off ++ xs.take m ++ cs.drop (off + m)) ∧ Keeps h h' (· = id) ∧ h'.rows.length = h.rows.length := by
  by_cases h0 : m = 0
  · subst h0
    exact ⟨h, by simp [AHeap.copy], by simpa using ho, Keeps.refl _ _, rfl⟩
  · obtain ⟨⟨row, h1, rfl, rfl, h4, h5, h6⟩, hlen⟩ := ho
    rw [Nat.mul_one] at hlen
    have hlt := (List.getElem?_eq_some_iff.1 h1).1
    have hxl : (xs.take m).length = m := by simp; omega
    have hle : off + m ≤ row.cells.length := by omega
    refine ⟨h.setRow id { row with cells := AHeap.overlay row.cells off (xs.take m), valid := row.gen }, ?_, ⟨⟨{ row with cells := AHeap.overlay row.cells off (xs.take m), valid := row.gen }, ?_, ?_, rfl, Nat.le_refl _, h5, h6⟩, ?_⟩, Keeps.setRow _ _ _, by simp [AHeap.setRow]⟩
    · simp only [AHeap.copy, beq_eq, h0, decide_false, cond_false, h1, h6, decide_true, cond_true, Nat.mul_one, AHeap.store, h5, Bool.not_false, hxl, ble_eq, hle, Bool.and_self]
    · simp only [AHeap.setRow]
      exact List.getElem?_set_self hlt
    · simp only [AHeap.overlay, hxl]
    · simp; omega
theorem Own.of_push (sz n : Nat) (cs : List AVal) (hl : cs.length = n * sz) : Own (h.push sz cs) sz h.next 0 n cs := Own.push h sz n cs hl
end

/-! Bounds of parts; bytes. -/
theorem aHi_none (n : Nat) : aHi none n = some n := rfl
theorem aHi_some {x : Int} {n : Nat} (h0 : 0 ≤ x) (h1 : x ≤ n) (k : IntKind) : aHi (some (.int k x)) n = some x.toNat := by
  simp [aHi, abound, h0, h1]
theorem aLo_none (n : Nat) : aLo none n = some 0 := rfl
theorem aLo_some {x : Int} {n : Nat} (h0 : 0 ≤ x) (h1 : x ≤ n) (k : IntKind) : aLo (some (.int k x)) n = some x.toNat := by
  simp [aLo, abound, h0, h1]
theorem aMx_none (n : Nat) : aMx none n = some false := rfl
theorem ofNat_toNat (x : UInt8) : UInt8.ofNat ((x.toNat : Int)).toNat = x := by
  rw [Int.toNat_natCast]
  exact UInt8.ofNat_toNat
theorem bytesFrom_bytesC : ∀ b : List UInt8, bytesFrom (bytesC b) = some b
  | [] => rfl
  | x :: b => by
    have e : bytesC (x :: b) = .int .u8 (x.toNat : Int) :: bytesC b := rfl
    rw [e, bytesFrom, bytesFrom_bytesC b, Option.map_some, ofNat_toNat]
theorem bytesOf_eq (s : ByteArray) : bytesOf s = bytesC s.data.toList := rfl
theorem bytesC_of {zs : List Int} (h : ∀ n ∈ zs, 0 ≤ n ∧ n ≤ 255) : zs.map (AVal.int .u8) = bytesC (zs.map fun n => UInt8.ofNat n.toNat) := by
  show _ = List.map _ (List.map _ zs)
  rw [List.map_map]
  refine List.map_congr_left fun n hn => ?_
  have := h n hn
  have e : (UInt8.ofNat n.toNat).toNat = n.toNat := by
    rw [UInt8.toNat_ofNat']
    omega
  simp only [Function.comp, e]
  congr 1
  omega

end Go.Proofs.YtmjbjgbcpaagmaaDoor
