/-
 Several rows of one's own, side by side: objects that are written, slices that grow.
-/
import Derived.Test.YtjagkijfngokaaaGreatDoorBm23
namespace Go.Proofs.YtjagkijfngokaaaGreatDoor
open Go.RowKit
inductive Part (h : AH) (sz : Nat) : Sl → List AV → Prop
 | of {s : Sl} {cs : List AV} (hg : Grown h sz s cs) : Part h sz s cs
 | cut {id gen off n : Nat} {c : Bool} {cs : List AV} {row : ARow} (h0 : c = true → n ≠ 0) (h1 : h.rows[id]? = some row) (hf : off + n * sz ≤ row.cells.length) (hc : cs = (row.cells.drop off).take (n * sz)) (hg : row.gen = gen) (hv : row.valid ≤ gen) (hr : row.ro = false) (hs : row.sz = sz) : Part h sz (.mk ⟨id, gen, off⟩ n c) cs
theorem Part.row_lt {h : AH} {sz : Nat} {s : Sl} {cs : List AV} (hp : Part h sz s cs) {r : Nat} (hr : s.row = some r) : r < h.rows.length := by
 cases hp with
 | of hg => exact Grown.row_lt hg hr
 | cut h0 h1 => rw [Sl.row_some hr]; exact (List.getElem?_eq_some_iff.1 h1).1
theorem Part.keep {h h' : AH} {t : Nat → Prop} (hk : Keeps h h' t) {sz : Nat} {s : Sl} {cs : List AV} (hp : Part h sz s cs) (hn : ∀ i, s.row = some i → ¬ t i) : Part h' sz s cs := by
 cases hp with
 | of hg => exact .of (hg.keep hk hn)
 | @cut id gen off n c cs row h0 h1 hf hc hg hv hr hs =>
   refine .cut h0 (hk.2 _ _ h1 (hn _ ?_)) hf hc hg hv hr hs
   cases c with
   | false => rfl
   | true => exact Sl.row_mk (h0 rfl) true
theorem Grown.setMap {h : AH} {sz : Nat} {s : Sl} {cs : List AV} (hg : Grown h sz s cs) (m : Nat) (es : List (AV × AV)) : Grown (h.setMap m es) sz s cs := by
 cases hg with
 | nil => exact .nil
 | none => exact .none
 | room h1 hg hv hr hs => exact .room h1 hg hv hr hs
 | row h1 hc hn hg hv hr hs => exact .row h1 hc hn hg hv hr hs
 | full h0 h1 hc hn hg hv hr hs => exact .full h0 h1 hc hn hg hv hr hs
theorem Part.setMap {h : AH} {sz : Nat} {s : Sl} {cs : List AV} (hp : Part h sz s cs) (m : Nat) (es : List (AV × AV)) : Part (h.setMap m es) sz s cs := by
 cases hp with
 | of hg => exact .of (hg.setMap m es)
 | cut h0 h1 hf hc hg hv hr hs => exact .cut h0 h1 hf hc hg hv hr hs
inductive Chunk where
 | part (sz : Nat) (s : Sl) (cs : List AV)
 | own (sz id gen n : Nat) (cs : List AV)
 | grown (sz : Nat) (s : Sl) (cs : List AV)
 | mp (lo m : Nat) (es : List (AV × AV))
 | exact (id : Nat) (row : ARow)
def Chunk.mid : Chunk → Option Nat
 | .mp _ m _ => some m
 | _ => none
def Chunk.row : Chunk → Option Nat
 | .own _ id _ _ _ => some id
 | .grown _ s _ => s.row
 | .part _ s _ => s.row
 | .mp _ _ _ => none
 | .exact id _ => some id
def Chunk.holds (h : AH) : Chunk → Prop
 | .own sz id gen n cs => Own h sz id gen n cs
 | .grown sz s cs => Grown h sz s cs
 | .part sz s cs => Part h sz s cs
 | .mp lo m es => h.maps[m]? = some es ∧ lo ≤ m
 | .exact id row => h.rows[id]? = some row
def Chunk.Far (a b : Chunk) : Prop := (∀ r, a.row = some r → b.row ≠ some r) ∧ ∀ m, a.mid = some m → b.mid ≠ some m
theorem Chunk.Far.symm {a b : Chunk} (h : Chunk.Far a b) : Chunk.Far b a := ⟨fun r hb ha => h.1 r ha hb, fun r hb ha => h.2 r ha hb⟩
theorem Chunk.row_lt {h : AH} {c : Chunk} (hc : c.holds h) {r : Nat} (hr : c.row = some r) : r < h.rows.length := by
 cases c with
 | own => cases hr; exact Own.lt hc
 | grown => exact Grown.row_lt hc hr
 | part => exact Part.row_lt hc hr
 | mp => cases hr
 | exact => cases hr; exact (List.getElem?_eq_some_iff.1 hc).1
theorem Chunk.mid_lt {h : AH} {c : Chunk} (hc : c.holds h) {m : Nat} (hm : c.mid = some m) : m < h.maps.length := by
 cases c with
 | own => cases hm
 | grown => cases hm
 | part => cases hm
 | mp => cases hm; exact (List.getElem?_eq_some_iff.1 hc.1).1
 | exact => cases hm
theorem Chunk.keep {h h' : AH} {t : Nat → Prop} (hk : Keeps h h' t) {c : Chunk} (hc : c.holds h) (hn : ∀ r, c.row = some r → ¬ t r) : c.holds h' := by
 cases c with
 | own => exact Own.keep hk hc (hn _ rfl)
 | grown => exact Grown.keep hk hc hn
 | part => exact Part.keep hk hc hn
 | mp => exact ⟨hk.3 _ _ hc.1, hc.2⟩
 | exact => exact hk.2 _ _ hc (hn _ rfl)
structure Sep (h : AH) (L : List Chunk) : Prop where
 all : ∀ c ∈ L, c.holds h
 far : L.Pairwise Chunk.Far
section
variable {h : AH} {L : List Chunk}
theorem Sep.nil (h : AH) : Sep h [] := ⟨(fun _ h => by cases h), List.Pairwise.nil⟩
theorem Sep.get (hs : Sep h L) {i : Nat} {c : Chunk} (hi : L[i]? = some c) : c.holds h := hs.all c (List.mem_of_getElem? hi)
theorem Sep.own (hs : Sep h L) {i : Nat} {sz id gen n : Nat} {cs : List AV} (hi : L[i]? = some (.own sz id gen n cs)) : Own h sz id gen n cs := hs.get hi
theorem Sep.grown (hs : Sep h L) {i : Nat} {sz : Nat} {s : Sl} {cs : List AV} (hi : L[i]? = some (.grown sz s cs)) : Grown h sz s cs := hs.get hi
theorem Sep.one {c : Chunk} (hc : c.holds h) : Sep h [c] := ⟨fun d hd => by rw [List.mem_singleton.1 hd]; exact hc, List.pairwise_singleton _ _⟩
theorem Sep.keep {h' : AH} {t : Nat → Prop} (hs : Sep h L) (hk : Keeps h h' t) (ht : ∀ c ∈ L, ∀ r, c.row = some r → ¬ t r) : Sep h' L :=
 ⟨fun c hc => Chunk.keep hk (hs.all c hc) (ht c hc), hs.far⟩
theorem Sep.ext {h' : AH} (hs : Sep h L) (hk : Keeps h h' fun _ => False) : Sep h' L := hs.keep hk fun _ _ _ _ => id
theorem Sep.add {h' : AH} {t : Nat → Prop} {c : Chunk} (hs : Sep h L) (hk : Keeps h h' t) (ht : ∀ r, t r → h.rows.length ≤ r) (hc : c.holds h') (hn : ∀ r, c.row = some r → h.rows.length ≤ r) (hmn : ∀ m, c.mid = some m → h.maps.length ≤ m := by intro m hm; cases hm) : Sep h' (L ++ [c]) := by
 have hs' : Sep h' L := hs.keep hk fun c hc r hr h1 => by have := Chunk.row_lt (hs.all c hc) hr; have := ht r h1; omega
 refine ⟨fun d hd => ?_, ?_⟩
 · rcases List.mem_append.1 hd with hd | hd
   · exact hs'.all d hd
   · rw [List.mem_singleton.1 hd]; exact hc
 · rw [List.pairwise_append]
   refine ⟨hs.far, List.pairwise_singleton _ _, fun a ha b hb => ⟨fun r hr hbr => ?_, fun m hm hbm => ?_⟩⟩
   · rw [List.mem_singleton.1 hb] at hbr
     have := Chunk.row_lt (hs.all a ha) hr
     have := hn r hbr
     omega
   · rw [List.mem_singleton.1 hb] at hbm
     have := Chunk.mid_lt (hs.all a ha) hm
     have := hmn m hbm
     omega
theorem Sep.push (hs : Sep h L) (sz n : Nat) {cs : List AV} (hl : cs.length = n * sz) : Sep (h.push sz cs) (L ++ [.own sz h.next 0 n cs]) :=
 hs.add (t := fun _ => False) (Keeps.push _ _ _ _) (fun _ h => h.elim) (Own.push h sz n cs hl) fun r hr => by cases hr; exact Nat.le_refl _
theorem Sep.addNil (hs : Sep h L) (sz : Nat) : Sep h (L ++ [.grown sz .nil []]) :=
 hs.add (t := fun _ => False) (Keeps.refl _ _) (fun _ h => h.elim) .nil fun r hr => by cases hr
theorem pairwise_set {α : Type} {R : α → α → Prop} (hR : ∀ {a b}, R a b → R b a) {L : List α} (hp : L.Pairwise R) {i : Nat} {c : α} (hc : ∀ j b, L[j]? = some b → j ≠ i → R c b) : (L.set i c).Pairwise R := by
 rw [List.pairwise_iff_getElem] at hp ⊢
 intro a b ha hb hab
 simp only [List.length_set] at ha hb
 rw [List.getElem_set, List.getElem_set]
 by_cases h1 : i = a
 · rw [if_pos h1, if_neg (by omega)]
   exact hc b _ (List.getElem?_eq_getElem hb) (by omega)
 · rw [if_neg h1]
   by_cases h2 : i = b
   · rw [if_pos h2]
     exact hR (hc a _ (List.getElem?_eq_getElem ha) (by omega))
   · rw [if_neg h2]
     exact hp a b ha hb hab
theorem Sep.set {h' : AH} {i : Nat} {c c' : Chunk} (hs : Sep h L) (hi : L[i]? = some c) (hk : Keeps h h' fun r => c.row = some r) (hc : c'.holds h') (hr : ∀ r, c'.row = some r → c.row = some r ∨ h.rows.length ≤ r) (hmr : ∀ m, c'.mid = some m → c.mid = some m := by intro m hm; cases hm) : Sep h' (L.set i c') := by
 have hfar : ∀ j b, L[j]? = some b → j ≠ i → Chunk.Far c b := by
   intro j b hb hj
   have hp := List.pairwise_iff_getElem.1 hs.far
   obtain ⟨i1, i2⟩ := List.getElem?_eq_some_iff.1 hi
   obtain ⟨j1, j2⟩ := List.getElem?_eq_some_iff.1 hb
   rcases Nat.lt_or_gt_of_ne hj with hlt | hlt
   · have := hp j i j1 i1 hlt
     rw [i2, j2] at this
     exact this.symm
   · have := hp i j i1 j1 hlt
     rwa [i2, j2] at this
 refine ⟨fun d hd => ?_, pairwise_set (fun h => Chunk.Far.symm h) hs.far fun j b hb hj => ⟨fun r hr' hbr => ?_, fun m hm hbm => (hfar j b hb hj).2 m (hmr m hm) hbm⟩⟩
 · obtain ⟨j, hj⟩ := List.mem_iff_getElem?.1 hd
   rw [List.getElem?_set] at hj
   split at hj
   · rename_i hij
     split at hj
     · cases hj; exact hc
     · cases hj
   · rename_i hij
     exact Chunk.keep hk (hs.get hj) fun r hdr hcr => (hfar j d hj (fun e => hij e.symm)).1 r hcr hdr
 · rcases hr r hr' with h1 | h1
   · exact (hfar j b hb hj).1 r h1 hbr
   · have := Chunk.row_lt (hs.get hb) hbr
     omega
theorem Sep.grow (hs : Sep h L) {i : Nat} {sz bytes m : Nat} {s : Sl} {cs vs : List AV} (hi : L[i]? = some (.grown sz s cs)) (hv : vs.length = m * sz) (hb : (s.len + m) * bytes ≤ 140737488355328) (hb' : s.len + m ≤ 140737488355328) :
   ∃ s' h', h.append false sz bytes s m vs = some (s', h') ∧ Sep h' (L.set i (.grown sz s' (cs ++ vs))) ∧ s'.len = s.len + m ∧ Keeps h h' (fun r => s.row = some r) ∧ (∀ r, s'.row = some r → s.row = some r ∨ h.rows.length ≤ r) := by
 obtain ⟨s', h', e1, e2, e3, e4, e5⟩ := (hs.grown hi).more hv hb hb'
 have key : ∀ r, s'.row = some r → s.row = some r ∨ h.rows.length ≤ r := fun r hr => by
   rcases e5 with e5 | e5
   · exact .inl (by rw [← hr]; exact e5.symm)
   · have hr' : s'.row = some r := hr
     rw [e5] at hr'
     cases hr'
     exact .inr (Nat.le_refl _)
 exact ⟨s', h', e1, hs.set hi e4 e2 key, e3, e4, key⟩
theorem Sep.fix (hs : Sep h L) {i : Nat} {sz : Nat} {s : Sl} {cs : List AV} (hi : L[i]? = some (.grown sz s cs)) (hc : closedL cs = true) (sz2 : Nat) :
   ∃ h', h.fixV (.slice s) = (.slice (.lst s.len false cs), h') ∧ Sep h' (L.set i (.grown sz2 .nil [])) ∧ Keeps h h' (fun r => s.row = some r) := by
 obtain ⟨h', e1, e2, e3, e4⟩ := (hs.grown hi).fix hc
 exact ⟨h', e1, hs.set hi e2 .nil (fun r hr => by cases hr), e2⟩
theorem cell_keep {h' : AH} {t : Nat → Prop} (hk : Keeps h h' t) {r : Ref} {l : Nat} {v : AV} (hn : ¬ t r.id) (hc : h.cell (.mk r l) = some v) : h'.cell (.mk r l) = some v := by
 simp only [AH.cell, AH.live] at hc ⊢
 cases hr : h.rows[r.id]? with
 | none => rw [hr] at hc; cases Nat.blt r.off l <;> simp at hc
 | some row => rw [hk.2 _ _ hr hn]; rw [hr] at hc; exact hc
theorem cellsAt_keep {h' : AH} {t : Nat → Prop} (hk : Keeps h h' t) {r : Ref} {n l : Nat} {v : List AV} (hn : ¬ t r.id) (hc : h.cellsAt n (.mk r l) = some v) : h'.cellsAt n (.mk r l) = some v := by
 simp only [AH.cellsAt, AH.span, AH.live] at hc ⊢
 cases hr : h.rows[r.id]? with
 | none => rw [hr] at hc; cases Nat.ble (r.off + n) l <;> simp at hc
 | some row => rw [hk.2 _ _ hr hn]; rw [hr] at hc; exact hc
theorem Own.part {sz id gen n : Nat} {cs : List AV} (ho : Own h sz id gen n cs) {o l : Nat} {v : AV} (hl : o < l) (hv : cs[o]? = some v) : h.cell (.mk ⟨id, gen, o⟩ l) = some v := by
 obtain ⟨⟨row, h1, rfl, rfl, h4, h5, h6⟩, hlen⟩ := ho
 rw [cell_row h1 h4 (Nat.le_refl _) hl]
 exact hv
theorem Own.parts {sz id gen n : Nat} {cs : List AV} (ho : Own h sz id gen n cs) {o k l : Nat} (hl : o + k ≤ l) (hk : o + k ≤ cs.length) : h.cellsAt k (.mk ⟨id, gen, o⟩ l) = some ((cs.drop o).take k) := by
 obtain ⟨⟨row, h1, rfl, rfl, h4, h5, h6⟩, hlen⟩ := ho
 simp [AH.cellsAt, AH.span, AH.live, ble_eq, hl, h1, h4, hk]
theorem Own.put {sz id gen n : Nat} {cs : List AV} (ho : Own h sz id gen n cs) {o l : Nat} {vs : List AV} (hl : o + vs.length ≤ l) (hl' : o + vs.length ≤ cs.length) :
   ∃ h', h.storeAt vs (.mk ⟨id, gen, o⟩ l) = some h' ∧ Own h' sz id gen n (cs.take o ++ vs ++ cs.drop (o + vs.length)) ∧ Keeps h h' (· = id) ∧ h'.rows.length = h.rows.length := by
 obtain ⟨⟨row, h1, rfl, rfl, h4, h5, h6⟩, hlen⟩ := ho
 have hlt := (List.getElem?_eq_some_iff.1 h1).1
 refine ⟨h.setRow id { row with cells := AH.overlay row.cells o vs, valid := row.gen }, ?_, ⟨⟨{ row with cells := AH.overlay row.cells o vs, valid := row.gen }, ?_, rfl, rfl, Nat.le_refl _, h5, h6⟩, ?_⟩, Keeps.setRow _ _ _, by simp [AH.setRow]⟩
 · simp only [AH.storeAt, ble_eq, hl, decide_true, cond_true, AH.store, h1, h5, Bool.not_false, beq_eq, Bool.and_self, hl']
 · simp only [AH.setRow]
   exact List.getElem?_set_self hlt
 · simp; omega
theorem Sep.put (hs : Sep h L) {i : Nat} {sz id gen n o l : Nat} {cs vs : List AV} (hi : L[i]? = some (.own sz id gen n cs)) (hl : o + vs.length ≤ l) (hl' : o + vs.length ≤ cs.length) :
   ∃ h', h.storeAt vs (.mk ⟨id, gen, o⟩ l) = some h' ∧ Sep h' (L.set i (.own sz id gen n (cs.take o ++ vs ++ cs.drop (o + vs.length)))) ∧ Keeps h h' (· = id) := by
 obtain ⟨h', e1, e2, e3, _⟩ := (hs.own hi).put hl hl'
 exact ⟨h', e1, hs.set hi (e3.mono fun r _ e => by subst e; rfl) e2 fun r hr => .inl hr, e3⟩
theorem Sep.part (hs : Sep h L) {i : Nat} {sz id gen n o l : Nat} {cs : List AV} (hi : L[i]? = some (.own sz id gen n cs)) {v : AV} (hl : o < l) (hv : cs[o]? = some v) : h.cell (.mk ⟨id, gen, o⟩ l) = some v := (hs.own hi).part hl hv
theorem Sep.len (hs : Sep h L) {i : Nat} {sz : Nat} {s : Sl} {cs : List AV} (hi : L[i]? = some (.grown sz s cs)) : cs.length = s.len * sz := (hs.grown hi).len
end
structure Sep0 (h0 h : AH) (L : List Chunk) : Prop where
 sep : Sep h L
 ext : Keeps h0 h fun _ => False
 fresh : ∀ c ∈ L, ∀ r, c.row = some r → h0.rows.length ≤ r
structure New (h h' : AH) (c : Chunk) : Prop where
 ext : Keeps h h' fun _ => False
 holds : c.holds h'
 fresh : ∀ r, c.row = some r → h.rows.length ≤ r
section
variable {h0 h : AH} {L : List Chunk}
theorem keeps_new {a b c : AH} {t : Nat → Prop} (h : Keeps a b fun _ => False) (k : Keeps b c t) (ht : ∀ i, t i → a.rows.length ≤ i) : Keeps a c fun _ => False :=
 ⟨Nat.le_trans h.1 k.1, fun i row hi _ => k.2 i row (h.2 i row hi id) (fun h1 => by have := ht i h1; have := (List.getElem?_eq_some_iff.1 hi).1; omega), fun m es hm => k.3 m es (h.3 m es hm)⟩
theorem Sep0.start (h : AH) : Sep0 h h [] := ⟨Sep.nil h, Keeps.refl _ _, fun c hc => by cases hc⟩
theorem mem_set {α : Type} {L : List α} {i : Nat} {x c : α} (hc : c ∈ L.set i x) : c ∈ L ∨ c = x := List.mem_or_eq_of_mem_set hc
theorem Sep0.addNil (hs : Sep0 h0 h L) (sz : Nat) : Sep0 h0 h (L ++ [.grown sz .nil []]) :=
 ⟨hs.sep.addNil sz, hs.ext, fun c hc r hr => by
   rcases List.mem_append.1 hc with hc | hc
   · exact hs.fresh c hc r hr
   · rw [List.mem_singleton.1 hc] at hr; cases hr⟩
theorem Sep0.add {h' : AH} {c : Chunk} (hs : Sep0 h0 h L) (hn : New h h' c) (hm : c.mid = none := by rfl) : Sep0 h0 h' (L ++ [c]) :=
 ⟨hs.sep.add hn.ext (fun _ h => h.elim) hn.holds hn.fresh (fun m h => by rw [hm] at h; cases h), hs.ext.trans hn.ext, fun d hd r hr => by
   rcases List.mem_append.1 hd with hd | hd
   · exact hs.fresh d hd r hr
   · rw [List.mem_singleton.1 hd] at hr
     have := hn.fresh r hr
     have := hs.ext.1
     omega⟩
theorem New.push (h : AH) (sz n : Nat) {cs : List AV} (hl : cs.length = n * sz) : New h (h.push sz cs) (.own sz h.next 0 n cs) :=
 ⟨Keeps.push _ _ _ _, Own.push h sz n cs hl, fun r hr => by cases hr; exact Nat.le_refl _⟩
theorem Sep0.push (hs : Sep0 h0 h L) (sz n : Nat) {cs : List AV} (hl : cs.length = n * sz) : Sep0 h0 (h.push sz cs) (L ++ [.own sz h.next 0 n cs]) := hs.add (New.push h sz n hl)
theorem Own.grown {sz id gen n : Nat} {cs : List AV} (ho : Own h sz id gen n cs) (c : Bool) (hn : n ≠ 0) : Grown h sz (.mk ⟨id, gen, 0⟩ n c) cs := by
 obtain ⟨⟨row, h1, h2, h3, h4, h5, h6⟩, hl⟩ := ho
 cases c with
 | true => exact .full hn h1 h2 hl h3 h4 h5 h6
 | false => exact .row h1 h2 hl h3 h4 h5 h6
theorem Sep0.toGrown {sz id gen n : Nat} {cs : List AV} (hs : Sep0 h0 h (L ++ [.own sz id gen n cs])) (c : Bool) (hn : n ≠ 0) : Sep0 h0 h (L ++ [.grown sz (.mk ⟨id, gen, 0⟩ n c) cs]) := by
 have hi : (L ++ [Chunk.own sz id gen n cs])[L.length]? = some (Chunk.own sz id gen n cs) := by simp
 have hset : (L ++ [Chunk.own sz id gen n cs]).set L.length (Chunk.grown sz (.mk ⟨id, gen, 0⟩ n c) cs) = L ++ [Chunk.grown sz (.mk ⟨id, gen, 0⟩ n c) cs] := by simp
 have s1 := hs.sep.set (c' := .grown sz (.mk ⟨id, gen, 0⟩ n c) cs) hi (Keeps.refl _ _) ((hs.sep.own hi).grown c hn) (fun r hr => .inl (by rw [Sl.row_some hr]; rfl))
 rw [hset] at s1
 refine ⟨s1, hs.ext, fun d hd r hr => ?_⟩
 rcases List.mem_append.1 hd with hd | hd
 · exact hs.fresh d (List.mem_append_left _ hd) r hr
 · rw [List.mem_singleton.1 hd] at hr
   rw [Sl.row_some hr]
   exact hs.fresh _ (List.mem_append_right _ (List.mem_singleton.2 rfl)) _ rfl
theorem Sep0.call {h' : AH} (hs : Sep0 h0 h L) (hk : Keeps h h' fun _ => False) : Sep0 h0 h' L := ⟨hs.sep.ext hk, hs.ext.trans hk, hs.fresh⟩
theorem Sep0.grow (hs : Sep0 h0 h L) {i : Nat} {sz bytes m : Nat} {s : Sl} {cs vs : List AV} (hi : L[i]? = some (.grown sz s cs)) (hv : vs.length = m * sz) (hb : (s.len + m) * bytes ≤ 140737488355328) (hb' : s.len + m ≤ 140737488355328) :
   ∃ s' h', h.append false sz bytes s m vs = some (s', h') ∧ Sep0 h0 h' (L.set i (.grown sz s' (cs ++ vs))) ∧ s'.len = s.len + m := by
 obtain ⟨s', h', e1, e2, e3, e4, e5⟩ := hs.sep.grow hi hv hb hb'
 have hf : ∀ r, s.row = some r → h0.rows.length ≤ r := fun r hr => hs.fresh _ (List.mem_of_getElem? hi) r hr
 refine ⟨s', h', e1, ⟨e2, keeps_new hs.ext e4 hf, fun c hc r hr => ?_⟩, e3⟩
 rcases mem_set hc with hc | rfl
 · exact hs.fresh c hc r hr
 · rcases e5 r hr with h1 | h1
   · exact hf r h1
   · have := hs.ext.1; omega
theorem Sep0.put (hs : Sep0 h0 h L) {i : Nat} {sz id gen n o l : Nat} {cs vs : List AV} (hi : L[i]? = some (.own sz id gen n cs)) (hl : o + vs.length ≤ l) (hl' : o + vs.length ≤ cs.length) :
   ∃ h', h.storeAt vs (.mk ⟨id, gen, o⟩ l) = some h' ∧ Sep0 h0 h' (L.set i (.own sz id gen n (cs.take o ++ vs ++ cs.drop (o + vs.length)))) := by
 obtain ⟨h', e1, e2, e3⟩ := hs.sep.put hi hl hl'
 have hf : h0.rows.length ≤ id := hs.fresh _ (List.mem_of_getElem? hi) id rfl
 refine ⟨h', e1, e2, keeps_new hs.ext e3 fun i hi => by omega, fun c hc r hr => ?_⟩
 rcases mem_set hc with hc | rfl
 · exact hs.fresh c hc r hr
 · cases hr; exact hf
theorem Sep0.fix (hs : Sep0 h0 h L) {i : Nat} {sz : Nat} {s : Sl} {cs : List AV} (hi : L[i]? = some (.grown sz s cs)) (hc : closedL cs = true) (sz2 : Nat) :
   ∃ h', h.fixV (.slice s) = (.slice (.lst s.len false cs), h') ∧ Sep0 h0 h' (L.set i (.grown sz2 .nil [])) := by
 obtain ⟨h', e1, e2, e3⟩ := hs.sep.fix hi hc sz2
 refine ⟨h', e1, e2, keeps_new hs.ext e3 fun r hr => hs.fresh _ (List.mem_of_getElem? hi) r hr, fun c hc r hr => ?_⟩
 rcases mem_set hc with hc | rfl
 · exact hs.fresh c hc r hr
 · cases hr
theorem Sep0.setMap (hs : Sep0 h0 h L) {i m : Nat} {es : List (AV × AV)} (hi : L[i]? = some (.mp h0.maps.length m es)) (es' : List (AV × AV)) : Sep0 h0 (h.setMap m es') (L.set i (.mp h0.maps.length m es')) := by
 obtain ⟨hg, hlo⟩ := hs.sep.get hi
 have hlt := (List.getElem?_eq_some_iff.1 hg).1
 obtain ⟨i1, i2⟩ := List.getElem?_eq_some_iff.1 hi
 have hfar : ∀ j b, L[j]? = some b → j ≠ i → Chunk.Far (.mp h0.maps.length m es) b := by
   intro j b hb hj
   have hp := List.pairwise_iff_getElem.1 hs.sep.far
   obtain ⟨j1, j2⟩ := List.getElem?_eq_some_iff.1 hb
   rcases Nat.lt_or_gt_of_ne hj with hlt | hlt
   · have := hp j i j1 i1 hlt
     rw [i2, j2] at this
     exact this.symm
   · have := hp i j i1 j1 hlt
     rwa [i2, j2] at this
 refine ⟨⟨fun d hd => ?_, pairwise_set (fun h => Chunk.Far.symm h) hs.sep.far fun j b hb hj => ⟨fun r hr' => (by cases hr'), fun m' hm' hbm => (hfar j b hb hj).2 m' hm' hbm⟩⟩, ⟨hs.ext.1, hs.ext.2, fun k es0 hk => ?_⟩, fun c hc r hr => ?_⟩
 · obtain ⟨j, hj⟩ := List.mem_iff_getElem?.1 hd
   rw [List.getElem?_set] at hj
   split at hj
   · first
       | (cases hj; exact ⟨by simp [AH.setMap, List.getElem?_set_self hlt], hlo⟩)
       | (split at hj
          · cases hj
            exact ⟨by simp [AH.setMap, List.getElem?_set_self hlt], hlo⟩
          · cases hj)
   · rename_i hij
     have hd' := hs.sep.get hj
     cases d with
     | own =>
       obtain ⟨⟨row, g1⟩, g2⟩ := hd'
       exact ⟨⟨row, g1⟩, g2⟩
     | grown sz s cs => exact Grown.setMap hd' _ _
     | part sz s cs => exact Part.setMap hd' _ _
     | mp lo' m' es0 =>
       have hne : m ≠ m' := fun e => (hfar j _ hj (fun e => hij e.symm)).2 m rfl (by rw [e]; rfl)
       exact ⟨by simp only [AH.setMap]; rw [List.getElem?_set_ne hne]; exact hd'.1, hd'.2⟩
     | exact id row => exact hd'
 · have h1 := hs.ext.3 k es0 hk
   have h2 := (List.getElem?_eq_some_iff.1 hk).1
   simp only [AH.setMap]
   rw [List.getElem?_set_ne (by omega)]
   exact h1
 · rcases mem_set hc with hc | rfl
   · exact hs.fresh c hc r hr
   · cases hr
theorem Sep0.get (hs : Sep0 h0 h L) {i : Nat} {c : Chunk} (hi : L[i]? = some c) : New h0 h c := ⟨hs.ext, hs.sep.get hi, hs.fresh c (List.mem_of_getElem? hi)⟩
theorem Sep0.len (hs : Sep0 h0 h L) {i : Nat} {sz : Nat} {s : Sl} {cs : List AV} (hi : L[i]? = some (.grown sz s cs)) : cs.length = s.len * sz := hs.sep.len hi
theorem Sep0.part (hs : Sep0 h0 h L) {i : Nat} {sz id gen n o l : Nat} {cs : List AV} (hi : L[i]? = some (.own sz id gen n cs)) {v : AV} (hl : o < l) (hv : cs[o]? = some v) : h.cell (.mk ⟨id, gen, o⟩ l) = some v := hs.sep.part hi hl hv
end
section
variable {h : AH}
theorem live_mark (ids : List Nat) (r : Ref) : (h.markRo ids).live r = h.live r := by
 simp only [AH.live, AH.markRo, List.getElem?_mapIdx]
 cases h.rows[r.id]? with
 | none => rfl
 | some row =>
   simp only [Option.map_some]
   cases ids.elem r.id <;> rfl
theorem span_mark (ids : List Nat) (r : Ref) (n : Nat) : (h.markRo ids).span r n = h.span r n := by simp only [AH.span, live_mark]
theorem cell_mark (ids : List Nat) (p : Pt) : (h.markRo ids).cell p = h.cell p := by
 cases p <;> simp only [AH.cell, live_mark]
theorem cellsAt_mark (ids : List Nat) (n : Nat) (p : Pt) : (h.markRo ids).cellsAt n p = h.cellsAt n p := by
 cases p <;> simp only [AH.cellsAt, span_mark]
theorem markRo_nil (h : AH) : h.markRo [] = h := by
 have e : (fun (_ : Nat) (r : ARow) => r) = fun i r => bif ([] : List Nat).elem i then { r with ro := true } else r := by
   funext i r; rfl
 simp only [AH.markRo, ← e]
 obtain ⟨rows, maps⟩ := h
 have : rows.mapIdx (fun (_ : Nat) (r : ARow) => r) = rows := List.ext_getElem? fun i => by simp
 simp only [this]
theorem keeps_mark (ids : List Nat) : Keeps h (h.markRo ids) (· ∈ ids) :=
 ⟨by simp [AH.markRo], fun i row hi hn => by
   simp only [AH.markRo, List.getElem?_mapIdx, hi, Option.map_some]
   have : ids.elem i = false := by simpa using hn
   rw [this]; rfl, fun m es hm => hm⟩
theorem sliceCells_mark (ids : List Nat) (sz : Nat) (s : Sl) : (h.markRo ids).sliceCells sz s = h.sliceCells sz s := by
 cases s with
 | nil => rfl
 | lst => rfl
 | mk r n c =>
   simp only [AH.sliceCells, span_mark]
   have : ((h.markRo ids).rows[r.id]?).map ARow.sz = (h.rows[r.id]?).map ARow.sz := by
     simp only [AH.markRo, List.getElem?_mapIdx]
     cases h.rows[r.id]? with
     | none => rfl
     | some row => simp only [Option.map_some]; cases ids.elem r.id <;> rfl
   cases h1 : (h.markRo ids).rows[r.id]? with
   | none =>
     cases h2 : h.rows[r.id]? with
     | none => rfl
     | some row => rw [h1, h2] at this; cases this
   | some row =>
     cases h2 : h.rows[r.id]? with
     | none => rw [h1, h2] at this; cases this
     | some row' =>
       rw [h1, h2] at this
       simp only [Option.map_some, Option.some.injEq] at this
       simp only [this]
end
theorem oneEmpty_inv {args : List AV} (h1 : oneEmpty args = true) : ∃ c, args = [.slice (.lst 0 c [])] := by
 unfold oneEmpty at h1
 split at h1
 · rename_i u
   split at h1
   · rename_i s
     split at h1
     · rename_i n c cs
       simp only [Bool.and_eq_true, nbeq, List.isEmpty_iff] at h1
       obtain ⟨rfl, rfl⟩ := h1
       exact ⟨c, rfl⟩
     · cases h1
   · cases h1
 · cases h1
theorem oneEmpty_none {args : List AV} (hc : canonL args = none) : oneEmpty args = false := by
 cases h : oneEmpty args with
 | false => rfl
 | true =>
   obtain ⟨c, rfl⟩ := oneEmpty_inv h
   rw [cc1 (canon_lst (n := 7) (m := 0) (c := c) (cs := []) rfl)] at hc
   cases hc
end Go.Proofs.YtjagkijfngokaaaGreatDoor
