/-
 What is told of types holds of the program; reads of memory; each operation that calls no Go function does in the model what the abstract machine says.
-/
import Derived.Test.YtjagkijfngokaaaGreatDoorBm2
namespace Go.Proofs.YtjagkijfngokaaaGreatDoor
open Go.RowKit
def zeroOk : AV → Value → Bool
 | .bool a, .bool b => a == b
 | .int k n, .int k' m => decide (k = k') && decide (n = m)
 | .str a, .string b => decide (a = b)
 | .ptr .nil, .pointer none => true
 | .slice .nil, .slice none 0 0 => true
 | .map none, .map none => true
 | .nilif, .nilIface => true
 | .nilfunc, .nilFunc => true
 | _, _ => false
def zerosOk : List AV → List Value → Bool
 | [], [] => true
 | a :: l, b :: m => zeroOk a b && zerosOk l m
 | _, _ => false
theorem zeroOk_rel {μ : Mu} : ∀ {a : AV} {b : Value}, zeroOk a b = true → VRel μ a b ∧ b.oneCell' = true := by
 intro a b h
 unfold zeroOk at h
 split at h <;> simp at h
 · subst h; exact ⟨.bool, rfl⟩
 · obtain ⟨rfl, rfl⟩ := h; exact ⟨.int, rfl⟩
 · subst h; exact ⟨.str, rfl⟩
 · exact ⟨.nilptr, rfl⟩
 · exact ⟨.nilslice, rfl⟩
 · exact ⟨.nilmap, rfl⟩
 · exact ⟨.nilif, rfl⟩
 · exact ⟨.nilfunc, rfl⟩
theorem zerosOk_rel {μ : Mu} : ∀ {l : List AV} {m : List Value}, zerosOk l m = true → CRel1 μ l m
 | [], [], _ => .nil
 | [], _ :: _, h => by simp [zerosOk] at h
 | _ :: _, [], h => by simp [zerosOk] at h
 | a :: l, b :: m, h => by
   simp only [zerosOk, Bool.and_eq_true] at h
   obtain ⟨h1, h2⟩ := h
   obtain ⟨hv, ho⟩ := zeroOk_rel (μ := μ) h1
   have ih := zerosOk_rel (μ := μ) h2
   refine ⟨⟨by simp [ih.1.1], fun i c d hc hd => ?_⟩, fun d hd => ?_⟩
   · cases i with
     | zero => simp at hc hd; subst hc; subst hd; exact hv
     | succ i => simp at hc hd; exact ih.1.2 i c d hc hd
   · rcases List.mem_cons.1 hd with rfl | hd
     · exact ho
     · exact ih.2 d hd
def fieldsOk (P : Program) : List Field → List (Nat × TypeId) → Bool
 | [], [] => true
 | f :: fs, p :: ps => Nat.beq f.offset p.1 && Nat.beq f.type p.2 && (match P.info? f.type with | some i => !Nat.beq i.size 0 | none => false) && fieldsOk P fs ps
 | _, _ => false
def descOk (P : Program) (i : TInfo) (d : TypeDesc) : Bool :=
 match i.ty, d with
 | .bool, .bool => true
 | .int k, .int k' => decide (k = k')
 | .str, .string => true
 | .ptr, .pointer e => Nat.beq i.elem e && (!Nat.beq i.len 1 || match P.info? e with | some j => !Nat.beq j.size 0 | none => false)
 | .slice, .slice e => Nat.beq i.elem e
 | .agg, .array n e => Nat.beq i.elem e && Nat.beq i.len n && (match P.info? e with | some j => !Nat.beq j.size 0 | none => false) && !Nat.ble n 1
 | .agg, .struct fs => Nat.beq i.len 0 && fieldsOk P fs.toList i.fields
 | .map, .map kt e => Nat.beq i.elem e && Nat.beq i.len kt
 | .func, .func _ _ _ => true
 | .iface, .interface _ => true
 | .tup _, _ => true
 | _, _ => false
def typeOk (P : Program) (t : TypeId) (i : TInfo) : Bool :=
 match i.ty with
 | .tup _ => true
 | _ =>
   match P.info? t, P.underlying t with
   | some j, some d => Nat.beq j.size i.size && Nat.beq j.bytes i.bytes && !Nat.beq i.size 0 && (match j.zero with | some z => zerosOk i.zero z.cells.toList && Nat.beq z.cells.size i.size && (!i.ty.isOne || zeroOk (i.zero.headD .bot) z) | none => false) && descOk P i d && (!i.ty.isOne || !Nat.beq i.len 1 || j.comparable)
   | _, _ => false
structure TypesOk (P : Program) (C : Ctx) : Prop where
 ok : ∀ t i, C.info t = some i → typeOk P t i = true
def ATy.plain : ATy → Bool
 | .tup _ => false
 | _ => true
theorem ATy.isOne_plain {t : ATy} (h : t.isOne = true) : t.plain = true ∧ t.isAgg = false := by cases t <;> simp [ATy.isOne, ATy.plain, ATy.isAgg] at h ⊢
theorem ATy.one_or_agg {t : ATy} (h : (t.isAgg || t.isOne) = true) : t.plain = true := by cases t <;> simp [ATy.isOne, ATy.plain, ATy.isAgg] at h ⊢
theorem ATy.isAgg_eq {t : ATy} (h : t.isAgg = true) : t = .agg := by cases t <;> simp [ATy.isAgg] at h ⊢
section
variable {P : Program} {C : Ctx}
theorem TypesOk.get (hT : TypesOk P C) {t : TypeId} {i : TInfo} (h : C.info t = some i) (hp : i.ty.plain = true) :
   ∃ j d z, P.info? t = some j ∧ P.underlying t = some d ∧ j.size = i.size ∧ j.bytes = i.bytes ∧ i.size ≠ 0 ∧ j.zero = some z ∧ (∀ μ, CRel1 μ i.zero z.cells.toList) ∧ z.cells.size = i.size ∧ descOk P i d = true := by
 have hk := hT.ok t i h
 unfold typeOk at hk
 split at hk
 · rename_i e; rw [e] at hp; cases hp
 · split at hk
   · rename_i j d hj hd
     simp only [Bool.and_eq_true, nbeq, Bool.not_eq_true'] at hk
     obtain ⟨⟨⟨⟨⟨h1, h2⟩, h3⟩, h4⟩, h5⟩, _⟩ := hk
     split at h4
     · rename_i z hz
       simp only [Bool.and_eq_true, nbeq] at h4
       refine ⟨j, d, z, hj, hd, h1, h2, fun e => ?_, hz, fun μ => zerosOk_rel h4.1.1, h4.1.2, h5⟩
       rw [e] at h3; cases h3
     · cases h4
   · cases hk
theorem TypesOk.size (hT : TypesOk P C) {t : TypeId} {i : TInfo} (h : C.info t = some i) (hp : i.ty.plain = true) (w : World) : (sizeOf t).run P w = .ok i.size w := by
 obtain ⟨j, d, z, hj, _, hs, _⟩ := hT.get h hp
 simp [sizeOf, typeInfo, hj, hs]
theorem TypesOk.und (hT : TypesOk P C) {t : TypeId} {i : TInfo} (h : C.info t = some i) (hp : i.ty.plain = true) : ∃ d, P.underlying t = some d ∧ descOk P i d = true := by
 obtain ⟨j, d, z, _, hd, _, _, _, _, _, _, hk⟩ := hT.get h hp
 exact ⟨d, hd, hk⟩
theorem TypesOk.slice (hT : TypesOk P C) {t : TypeId} {i : TInfo} (h : C.info t = some i) (hs : i.ty = .slice) : P.underlying t = some (.slice i.elem) := by
 obtain ⟨d, hd, hk⟩ := hT.und h (by rw [hs]; rfl)
 unfold descOk at hk
 rw [hs] at hk
 cases d <;> simp at hk
 rw [hd, hk]
theorem TypesOk.int (hT : TypesOk P C) {t : TypeId} {i : TInfo} {k : IntKind} (h : C.info t = some i) (hs : i.ty = .int k) : P.underlying t = some (.int k) := by
 obtain ⟨d, hd, hk⟩ := hT.und h (by rw [hs]; rfl)
 unfold descOk at hk
 rw [hs] at hk
 cases d <;> simp at hk
 rw [hd, hk]
theorem TypesOk.bool (hT : TypesOk P C) {t : TypeId} {i : TInfo} (h : C.info t = some i) (hs : i.ty = .bool) : P.underlying t = some .bool := by
 obtain ⟨d, hd, hk⟩ := hT.und h (by rw [hs]; rfl)
 unfold descOk at hk
 rw [hs] at hk
 cases d <;> simp at hk
 exact hd
theorem TypesOk.str (hT : TypesOk P C) {t : TypeId} {i : TInfo} (h : C.info t = some i) (hs : i.ty = .str) : P.underlying t = some .string := by
 obtain ⟨d, hd, hk⟩ := hT.und h (by rw [hs]; rfl)
 unfold descOk at hk
 rw [hs] at hk
 cases d <;> simp at hk
 exact hd
theorem TypesOk.ptr (hT : TypesOk P C) {t : TypeId} {i : TInfo} (h : C.info t = some i) (hs : i.ty = .ptr) : P.underlying t = some (.pointer i.elem) := by
 obtain ⟨d, hd, hk⟩ := hT.und h (by rw [hs]; rfl)
 unfold descOk at hk
 rw [hs] at hk
 cases d <;> simp at hk
 rw [hd, hk.1]
theorem TypesOk.ptrEq (hT : TypesOk P C) {t : TypeId} {i : TInfo} (h : C.info t = some i) (hs : i.ty = .ptr) (hl : i.len = 1) : ∃ j k, P.info? t = some j ∧ j.comparable = true ∧ P.info? i.elem = some k ∧ k.size ≠ 0 := by
 have hk := hT.ok t i h
 unfold typeOk at hk
 split at hk
 · rename_i e; rw [e] at hs; cases hs
 · split at hk
   · rename_i j d hj hd
     simp only [Bool.and_eq_true] at hk
     obtain ⟨⟨_, h5⟩, h6⟩ := hk
     rw [hs, hl] at h6
     unfold descOk at h5
     rw [hs, hl] at h5
     cases d <;> simp at h5
     obtain ⟨rfl, h5⟩ := h5
     split at h5
     · rename_i k hk
       simp [ATy.isOne] at h6
       exact ⟨j, k, hj, h6, hk, fun e => by rw [e] at h5; simp at h5⟩
     · cases h5
   · cases hk
theorem TypesOk.iface (hT : TypesOk P C) {t : TypeId} {i : TInfo} (h : C.info t = some i) (hs : i.ty = .iface) : ∃ ms, P.underlying t = some (.interface ms) := by
 obtain ⟨d, hd, hk⟩ := hT.und h (by rw [hs]; rfl)
 unfold descOk at hk
 rw [hs] at hk
 cases d <;> simp at hk
 exact ⟨_, hd⟩
theorem TypesOk.func (hT : TypesOk P C) {t : TypeId} {i : TInfo} (h : C.info t = some i) (hs : i.ty = .func) : ∃ a b c, P.underlying t = some (.func a b c) := by
 obtain ⟨d, hd, hk⟩ := hT.und h (by rw [hs]; rfl)
 unfold descOk at hk
 rw [hs] at hk
 cases d <;> simp at hk
 exact ⟨_, _, _, hd⟩
theorem TypesOk.map (hT : TypesOk P C) {t : TypeId} {i : TInfo} (h : C.info t = some i) (hs : i.ty = .map) : P.underlying t = some (.map i.len i.elem) := by
 obtain ⟨d, hd, hk⟩ := hT.und h (by rw [hs]; rfl)
 unfold descOk at hk
 rw [hs] at hk
 cases d <;> simp only [Bool.and_eq_true, nbeq] at hk <;> try cases hk
 rename_i h1 h2
 rw [hd, h1, h2]
theorem TypesOk.zeroOne (hT : TypesOk P C) {t : TypeId} {i : TInfo} (h : C.info t = some i) (ho : i.ty.isOne = true) : ∃ j z, P.info? t = some j ∧ j.zero = some z ∧ zeroOk (i.zero.headD .bot) z = true := by
 have hk := hT.ok t i h
 unfold typeOk at hk
 split at hk
 · rename_i e; rw [e] at ho; cases ho
 · split at hk
   · rename_i j d hj hd
     simp only [Bool.and_eq_true] at hk
     obtain ⟨⟨⟨_, h4⟩, _⟩, _⟩ := hk
     split at h4
     · rename_i z hz
       simp only [Bool.and_eq_true, ho, Bool.not_true, Bool.false_or] at h4
       exact ⟨j, z, hj, hz, h4.2⟩
     · cases h4
   · cases hk
theorem fieldsOk_get : ∀ {fs : List Field} {ps : List (Nat × TypeId)}, fieldsOk P fs ps = true → ∀ (j : Nat) o t, ps[j]? = some (o, t) → ∃ f, fs[j]? = some f ∧ f.offset = o ∧ f.type = t ∧ ∃ i, P.info? t = some i ∧ i.size ≠ 0
 | [], [], _, j, o, t, h => by simp at h
 | [], _ :: _, h, _, _, _, _ => by simp [fieldsOk] at h
 | _ :: _, [], h, _, _, _, _ => by simp [fieldsOk] at h
 | f :: fs, p :: ps, h, j, o, t, hj => by
   simp only [fieldsOk, Bool.and_eq_true, nbeq] at h
   obtain ⟨⟨⟨h1, h2⟩, h3⟩, h4⟩ := h
   cases j with
   | zero =>
     simp at hj
     subst hj
     refine ⟨f, rfl, h1, h2, ?_⟩
     split at h3
     · rename_i i hi
       simp only [Bool.not_eq_true', nbeq_false] at h3
       have h2' : f.type = t := h2
       exact ⟨i, h2' ▸ hi, h3⟩
     · cases h3
   | succ j => exact fieldsOk_get h4 j o t (by simpa using hj)
theorem TypesOk.agg (hT : TypesOk P C) {t : TypeId} {i : TInfo} (h : C.info t = some i) (hs : i.ty = .agg) :
   (∃ fs, P.underlying t = some (.struct fs) ∧ fieldsOk P fs.toList i.fields = true ∧ i.len = 0) ∨
   (P.underlying t = some (.array i.len i.elem) ∧ 1 < i.len ∧ ∃ j, P.info? i.elem = some j ∧ j.size ≠ 0) := by
 obtain ⟨d, hd, hk⟩ := hT.und h (by rw [hs]; rfl)
 unfold descOk at hk
 rw [hs] at hk
 cases d <;> simp [nble_false] at hk
 · obtain ⟨⟨⟨h1, h2⟩, h3⟩, h4⟩ := hk
   refine .inr ⟨by rw [hd, h1, h2], by omega, ?_⟩
   split at h3
   · rename_i j hj
     simp only [Bool.not_eq_true', nbeq_false] at h3
     exact ⟨j, h1 ▸ hj, h3⟩
   · cases h3
 · exact .inl ⟨_, hd, hk.2, hk.1⟩
theorem TypesOk.isAgg (hT : TypesOk P C) {t : TypeId} {i : TInfo} (h : C.info t = some i) (hp : i.ty.plain = true) (w : World) :
   (isAgg t).run P w = .ok i.ty.isAgg w := by
 obtain ⟨d, hd, hk⟩ := hT.und h hp
 unfold Go.isAgg
 rw [Sem.run_bind, run_underlying hd w]
 unfold descOk at hk
 cases hi : i.ty <;> rw [hi] at hk hp <;> cases d <;> simp [ATy.plain, ATy.isAgg] at hk hp ⊢
theorem HRel.live {μ B h w} (hr : HRel μ B h w) {r : Ref} {ii gi} (hi : μ.rows[r.id]? = some ii) (hg : ii.gens[r.gen]? = some gi) {cs : List AV} (hl : h.live r = some cs) :
   ∃ row c e fz, h.rows[r.id]? = some row ∧ row.cells = cs ∧ row.valid ≤ r.gen ∧ r.gen ≤ row.gen ∧ w.heap[gi.block]? = some (.cells c e fz) ∧ c.size = gi.size ∧ gi.ext ≤ cs.length ∧
     gi.off + (gi.ext - gi.lo) ≤ gi.size ∧ ∀ (i : Nat) v, gi.lo ≤ i → i < gi.ext → cs[i]? = some v → ∃ x, c[gi.off + (i - gi.lo)]? = some x ∧ VRel μ v x ∧ x.oneCell' = true := by
 unfold AH.live at hl
 split at hl
 · rename_i row hrow
   rw [Bool.cond_eq_ite] at hl
   split at hl
   · rename_i hv
     simp only [Bool.and_eq_true, nble] at hv
     simp at hl
     subst hl
     have hR := hr.row _ ii row hi hrow
     have hG := hR.gen _ gi hg
     obtain ⟨c, e, fz, h1, h2, _, _, h3⟩ := hG.block
     obtain ⟨h4, h5⟩ := h3 hv.1
     exact ⟨row, c, e, fz, hrow, rfl, hv.1, hv.2, h1, h2, h4, hG.fits, h5⟩
   · cases hl
 · cases hl
theorem cell_of_block {w : World} {b : Nat} {c : Array Value} {e : TypeId} {fz : Nat × Nat} (h : w.heap[b]? = some (.cells c e fz)) (o : Nat) : w.cell? ⟨b, o, none⟩ = c[o]? := by
 simp [World.cell?, h]
theorem Addr.add_zero' {a : Addr} (_ : a.spot = none) : a.add 0 = a := by
 obtain ⟨b, o, s⟩ := a
 simp [Addr.add]
theorem FrzOk.cells {μ : Mu} {h : AH} {w : World} (hz : FrzOk μ h w) {a : Addr} {arr : Array Value} (hf : μ.frz a.block = some arr) (hs : a.spot = none) {n : Nat} (hfit : a.off + n ≤ arr.size) (i : Nat) (hi : i < n) :
   ∃ x, arr[a.off + i]? = some x ∧ w.cell? (a.add i) = some x := by
 obtain ⟨⟨e, fz, hb⟩, _⟩ := hz.frz _ _ hf
 have hlt : a.off + i < arr.size := by omega
 refine ⟨arr[a.off + i], Array.getElem?_eq_getElem hlt, ?_⟩
 obtain ⟨b, o, s⟩ := a
 simp only at hs hb hlt
 subst hs
 rw [Addr.add_lit, cell_of_block hb]
 exact Array.getElem?_eq_getElem hlt
theorem FrzOk.list {μ : Mu} {h : AH} {w : World} (hz : FrzOk μ h w) {a : Addr} {arr : Array Value} (hf : μ.frz a.block = some arr) (hs : a.spot = none) {cs : List AV} (hfit' : cs ≠ [] → a.off + cs.length ≤ arr.size)
   (hh : ∀ (i : Nat) c d, cs[i]? = some c → arr[a.off + i]? = some d → VRel μ c d) (h1 : ∀ (i : Nat) d, i < cs.length → arr[a.off + i]? = some d → d.oneCell' = true) :
   ∃ ds : List Value, CRel1 μ cs ds ∧ ds.length = cs.length ∧ ∀ (j : Nat) x, ds[j]? = some x → w.cell? (a.add j) = some x := by
 by_cases hnil : cs = []
 · subst hnil
   exact ⟨[], .nil, rfl, fun j x hx => by simp at hx⟩
 have hfit := hfit' hnil
 have hlen : ((arr.toList.drop a.off).take cs.length).length = cs.length := by simp; omega
 have hget : ∀ (i : Nat) x, ((arr.toList.drop a.off).take cs.length)[i]? = some x → i < cs.length ∧ arr[a.off + i]? = some x := fun i x hx => by
   rw [List.getElem?_take] at hx
   split at hx
   · rw [List.getElem?_drop, Array.getElem?_toList] at hx
     exact ⟨by assumption, hx⟩
   · cases hx
 refine ⟨(arr.toList.drop a.off).take cs.length, ⟨⟨hlen.symm, fun i c d hc hd => hh i c d hc (hget i d hd).2⟩, fun d hd => ?_⟩, hlen, fun j x hx => ?_⟩
 · obtain ⟨i, hi⟩ := List.getElem?_of_mem hd
   obtain ⟨k1, k2⟩ := hget i d hi
   exact h1 i d k1 k2
 · obtain ⟨k1, k2⟩ := hget j x hx
   obtain ⟨y, k3, k4⟩ := hz.cells hf hs hfit j k1
   rw [k2] at k3; cases k3
   exact k4
theorem HRel.cell {μ B h w} (hr : HRel μ B h w) {p : Pt} {a : Value} (hv : VRel μ (.ptr p) a) {v : AV} (hc : h.cell p = some v) :
   ∃ ad x, a = .pointer (some ad) ∧ ad.spot = none ∧ w.cell? ad = some x ∧ VRel μ v x ∧ x.oneCell' = true := by
 cases hv with
 | nilptr => simp [AH.cell] at hc
 | @ptr r lim ii gi hi hg hlo hl =>
   simp only [AH.cell] at hc
   rw [Bool.cond_eq_ite] at hc
   split at hc
   · rename_i ho
     rw [nblt] at ho
     cases hlv : h.live r with
     | none => rw [hlv] at hc; cases hc
     | some cs =>
       rw [hlv] at hc
       simp at hc
       obtain ⟨row, c, e, fz, _, _, _, _, h1, h2, h3, h4, h5⟩ := hr.live hi hg hlv
       obtain ⟨x, hx, hxr, ho1⟩ := h5 r.off v hlo (by omega) hc
       exact ⟨_, x, rfl, rfl, by rw [GenInfo.spot, cell_of_block h1]; exact hx, hxr, ho1⟩
   · cases hc
 | @fp k cs ad arr hf hs hfit hh h1 hk =>
   simp only [AH.cell] at hc
   have h0 := (List.getElem?_eq_some_iff.1 hc).1
   obtain ⟨x, hx, hw⟩ := hr.fz.cells hf hs (hfit (by rintro rfl; simp at h0)) 0 h0
   rw [Addr.add_zero' hs] at hw
   exact ⟨ad, x, rfl, hs, hw, hh 0 v x hc hx, h1 0 x h0 hx⟩
theorem HRel.span {μ B h w} (hr : HRel μ B h w) {r : Ref} {ii gi} (hi : μ.rows[r.id]? = some ii) (hg : ii.gens[r.gen]? = some gi) (hlo : gi.lo ≤ r.off) {n : Nat} (hn : r.off + n ≤ gi.ext) {cs : List AV}
   (hs : h.span r n = some cs) : ∃ ds : List Value, CRel1 μ cs ds ∧ ds.length = n ∧ ∀ (j : Nat) x, ds[j]? = some x → w.cell? ((gi.spot r.off).add j) = some x := by
 unfold AH.span at hs
 cases hlv : h.live r with
 | none => rw [hlv] at hs; cases hs
 | some row0 =>
   rw [hlv] at hs
   simp only [o_bd] at hs
   rw [Bool.cond_eq_ite] at hs
   split at hs
   · rename_i hle
     rw [nble] at hle
     simp at hs
     subst hs
     obtain ⟨row, c, e, fz, _, _, _, _, h1, h2, h3, h4, h5⟩ := hr.live hi hg hlv
     have hget : ∀ j, j < n → ∃ v x, row0[r.off + j]? = some v ∧ c[gi.off + (r.off - gi.lo) + j]? = some x ∧ VRel μ v x ∧ x.oneCell' = true := fun j hj => by
       have hv : row0[r.off + j]? = some row0[r.off + j] := List.getElem?_eq_getElem (by omega)
       obtain ⟨x, hx, hxr⟩ := h5 (r.off + j) _ (by omega) (by omega) hv
       exact ⟨_, x, hv, by rw [← hx]; congr 1; omega, hxr⟩
     have hfit : gi.off + (r.off - gi.lo) + n ≤ c.toList.length := by
       simp [h2]; omega
     refine ⟨(c.toList.drop (gi.off + (r.off - gi.lo))).take n, ⟨⟨by simp at hfit ⊢; omega, fun i v x hv hx => ?_⟩, fun x hx => ?_⟩, by simp at hfit ⊢; omega, fun j x hx => ?_⟩
     · rw [List.getElem?_take] at hv hx
       split at hv
       · rename_i hin
         rw [if_pos hin, List.getElem?_drop] at hx
         rw [List.getElem?_drop] at hv
         obtain ⟨v', x', hv', hx', hvr, _⟩ := hget i hin
         rw [hv] at hv'; cases hv'
         rw [Array.getElem?_toList, hx'] at hx; cases hx
         exact hvr
       · cases hv
     · obtain ⟨j, hj⟩ := List.getElem?_of_mem hx
       rw [List.getElem?_take] at hj
       split at hj
       · rename_i hin
         rw [List.getElem?_drop] at hj
         obtain ⟨v', x', hv', hx', hvr, ho⟩ := hget j hin
         rw [Array.getElem?_toList, hx'] at hj; cases hj
         exact ho
       · cases hj
     · rw [List.getElem?_take] at hx
       split at hx
       · rw [List.getElem?_drop, Array.getElem?_toList] at hx
         rw [GenInfo.spot, Addr.add_lit, cell_of_block h1]
         exact hx
       · cases hx
   · cases hs
theorem HRel.sliceCells {μ B h w} (hr : HRel μ B h w) {s : Sl} {a : Option Addr} {len cap : Nat} (hv : VRel μ (.slice s) (.slice a len cap)) {sz : Nat} {cs : List AV}
   (hc : h.sliceCells sz s = some cs) :
   len = s.len ∧ ∃ ds : List Value, CRel1 μ cs ds ∧ ds.length = len * sz ∧ (a = none → len = 0) ∧ ∀ ad, a = some ad → ∀ (j : Nat) x, ds[j]? = some x → w.cell? (ad.add j) = some x := by
 cases hv with
 | nilslice =>
   simp [AH.sliceCells] at hc
   subst hc
   exact ⟨rfl, [], .nil, by simp, fun _ => rfl, fun _ h => by cases h⟩
 | noslice =>
   simp [AH.sliceCells] at hc
   subst hc
   exact ⟨rfl, [], .nil, by simp, (fun h => by cases h), fun _ _ j x hx => by simp at hx⟩
 | lst0 =>
   simp only [AH.sliceCells, Bool.cond_eq_ite] at hc
   split at hc
   · cases hc
     exact ⟨rfl, [], .nil, by simp, fun _ => rfl, fun _ _ j x hx => by simp at hx⟩
   · cases hc
 | @lst n clip cs cap ad arr hf hs hlen hclip hfit hh h1 =>
   simp only [AH.sliceCells, Bool.cond_eq_ite] at hc
   split at hc
   case isFalse => cases hc
   rename_i hl
   rw [nbeq] at hl
   cases hc
   obtain ⟨ds, k1, k2, k3⟩ := hr.fz.list hf hs hfit hh h1
   exact ⟨rfl, ds, k1, by rw [k2, hl], (fun h => by cases h), fun ad' had j x hx => by cases had; exact k3 j x hx⟩
 | @slice r len clip ii gi ad cap hi hg hlo hlen hclip hext ha =>
   refine ⟨rfl, ?_⟩
   simp only [AH.sliceCells] at hc
   rw [Bool.cond_eq_ite] at hc
   split at hc
   · rename_i h0
     rw [nbeq] at h0
     subst h0
     simp at hc
     subst hc
     exact ⟨[], .nil, by simp, (fun h => by cases h), fun _ _ j x hx => by simp at hx⟩
   · rename_i h0
     rw [nbeq] at h0
     obtain ⟨row, hrow, hsz, hc⟩ : ∃ row, h.rows[r.id]? = some row ∧ row.sz = sz ∧ h.span r (len * sz) = some cs := by
       split at hc
       · rename_i row hrow
         rw [Bool.cond_eq_ite] at hc
         split at hc
         · rename_i hsz
           exact ⟨row, hrow, nbeq.1 hsz, hc⟩
         · cases hc
       · cases hc
     rw [(hr.row _ _ _ hi hrow).sz, hsz] at hext
     obtain ⟨ds, h1, h2, h3⟩ := hr.span hi hg hlo hext hc
     refine ⟨ds, h1, h2, (fun h => by cases h), fun ad' had j x hx => ?_⟩
     cases had
     rcases ha with h | ⟨rfl, _⟩
     · omega
     · exact h3 j x hx
end
end Go.Proofs.YtjagkijfngokaaaGreatDoor
