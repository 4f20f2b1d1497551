/-
 How the abstract heap stands to the model's memory, and that writes and new blocks keep it so.
-/
import Derived.Test.YtjagkijfngokaaaGreatDoorBm1
namespace Go.Proofs.YtjagkijfngokaaaGreatDoor
open Go.RowKit
structure GenInfo where
 block : Nat
 off : Nat
 lo : Nat
 ext : Nat
 size : Nat
def GenInfo.spot (g : GenInfo) (o : Nat) : Addr := ⟨g.block, g.off + (o - g.lo), none⟩
structure IdInfo where
 sz : Nat
 gens : List GenInfo
structure Mu where
 rows : List IdInfo
 maps : List Nat
 frz : Nat → Option (Array Value) := fun _ => none
 tok : Nat → Option Addr := fun _ => none
 lim : Nat := 0
structure Mu.le (μ μ' : Mu) : Prop where
 rows : ∀ (i : Nat) ii, μ.rows[i]? = some ii → ∃ ii', μ'.rows[i]? = some ii' ∧ ii'.sz = ii.sz ∧ ∀ (g : Nat) gi, ii.gens[g]? = some gi → ii'.gens[g]? = some gi
 maps : ∀ (m : Nat) b, μ.maps[m]? = some b → μ'.maps[m]? = some b
 frz : ∀ b x, μ.frz b = some x → μ'.frz b = some x
 low : ∀ b, b < μ.lim → μ'.frz b = μ.frz b
 lim : μ'.lim = μ.lim
 tok : μ'.tok = μ.tok
theorem Mu.le_refl (μ : Mu) : μ.le μ := ⟨fun _ ii h => ⟨ii, h, rfl, fun _ _ h => h⟩, fun _ _ h => h, fun _ _ h => h, fun _ _ => rfl, rfl, rfl⟩
theorem Mu.le_trans {a b c : Mu} (h : a.le b) (k : b.le c) : a.le c := by
 refine ⟨fun i ii hi => ?_, fun m x hm => k.2 _ _ (h.2 _ _ hm), fun b x hb => k.frz _ _ (h.frz _ _ hb), fun x hx => by rw [k.low x (by rw [h.lim]; exact hx), h.low x hx], k.lim.trans h.lim, k.tok.trans h.tok⟩
 obtain ⟨jj, hj, hs, hg⟩ := h.1 i ii hi
 obtain ⟨kk, hk, hs', hg'⟩ := k.1 i jj hj
 exact ⟨kk, hk, hs'.trans hs, fun g gi h => hg' _ _ (hg _ _ h)⟩
inductive VRel (μ : Mu) : AV → Value → Prop
 | bot {v} : VRel μ .bot v
 | bool {b} : VRel μ (.bool b) (.bool b)
 | int {k n} : VRel μ (.int k n) (.int k n)
 | str {s} : VRel μ (.str s) (.string s)
 | nilptr : VRel μ (.ptr .nil) (.pointer none)
 | ptr {r lim ii gi} (hi : μ.rows[r.id]? = some ii) (hg : ii.gens[r.gen]? = some gi) (hlo : gi.lo ≤ r.off) (hl : lim ≤ gi.ext) : VRel μ (.ptr (.mk r lim)) (.pointer (some (gi.spot r.off)))
 | nilslice : VRel μ (.slice .nil) (.slice none 0 0)
 | slice {r len clip ii gi a cap} (hi : μ.rows[r.id]? = some ii) (hg : ii.gens[r.gen]? = some gi) (hlo : gi.lo ≤ r.off) (hlen : len ≤ cap)
     (hclip : clip = true → cap = len) (hext : r.off + len * ii.sz ≤ gi.ext) (ha : cap = 0 ∨ (a = gi.spot r.off ∧ gi.off + (r.off - gi.lo) + cap * ii.sz ≤ gi.size)) :
     VRel μ (.slice (.mk r len clip)) (.slice (some a) len cap)
 | noslice {r a} : VRel μ (.slice (.mk r 0 true)) (.slice (some a) 0 0)
 | lst {n clip cs cap} {a : Addr} {arr : Array Value} (hf : μ.frz a.block = some arr) (hs : a.spot = none) (hlen : n ≤ cap) (hclip : clip = true → cap = n) (hfit : cs ≠ [] → a.off + cs.length ≤ arr.size)
     (h : ∀ (i : Nat) c d, cs[i]? = some c → arr[a.off + i]? = some d → VRel μ c d) (h1 : ∀ (i : Nat) d, i < cs.length → arr[a.off + i]? = some d → d.oneCell' = true) :
     VRel μ (.slice (.lst n clip cs)) (.slice (some a) n cap)
 | lst0 {clip cap} {a : Option Addr} (hclip : clip = true → cap = 0) (hn : a = none → cap = 0) : VRel μ (.slice (.lst 0 clip [])) (.slice a 0 cap)
 | fp {k cs} {a : Addr} {arr : Array Value} (hf : μ.frz a.block = some arr) (hs : a.spot = none) (hfit : cs ≠ [] → a.off + cs.length ≤ arr.size)
     (h : ∀ (i : Nat) c d, cs[i]? = some c → arr[a.off + i]? = some d → VRel μ c d) (h1 : ∀ (i : Nat) d, i < cs.length → arr[a.off + i]? = some d → d.oneCell' = true) (hk : k ≠ 0 → μ.tok k = some a) :
     VRel μ (.ptr (.fp k cs)) (.pointer (some a))
 | nilmap : VRel μ (.map none) (.map none)
 | map {m b} (h : μ.maps[m]? = some b) : VRel μ (.map (some m)) (.map (some b))
 | func {f caps vs} (hs : caps.length = vs.size) (h : ∀ (i : Nat) p v, caps[i]? = some p → vs[i]? = some v → VRel μ (.ptr p) v) : VRel μ (.func f caps) (.func (.func f) #[] vs)
 | nilfunc : VRel μ .nilfunc .nilFunc
 | iface {t v x} (h : VRel μ v x) : VRel μ (.iface t v) (.iface t x)
 | nilif : VRel μ .nilif .nilIface
 | empty {a cap} : VRel μ .empty (.slice (some a) 0 cap)
 | agg {cs ds} (hs : cs.length = ds.size) (h : ∀ (i : Nat) c d, cs[i]? = some c → ds[i]? = some d → VRel μ c d) : VRel μ (.agg cs) (.agg ds)
 | tup {cs ds} (hs : cs.length = ds.size) (h : ∀ (i : Nat) c d, cs[i]? = some c → ds[i]? = some d → VRel μ c d) : VRel μ (.tup cs) (.tuple ds)
theorem VRel.mono {μ μ' : Mu} (hm : μ.le μ') {v : AV} {x : Value} (h : VRel μ v x) : VRel μ' v x := by
 induction h with
 | bot => exact .bot
 | bool => exact .bool
 | int => exact .int
 | str => exact .str
 | nilptr => exact .nilptr
 | ptr hi hg hlo hl =>
   obtain ⟨ii', hi', hs, hg'⟩ := hm.1 _ _ hi
   exact .ptr hi' (hg' _ _ hg) hlo hl
 | nilslice => exact .nilslice
 | slice hi hg hlo hlen hclip hext ha =>
   obtain ⟨ii', hi', hs, hg'⟩ := hm.1 _ _ hi
   exact .slice hi' (hg' _ _ hg) hlo hlen hclip (hs ▸ hext) (hs ▸ ha)
 | noslice => exact .noslice
 | empty => exact .empty
 | lst hf hs hlen hclip hfit _ h1 ih => exact .lst (hm.frz _ _ hf) hs hlen hclip hfit ih h1
 | lst0 hclip hn => exact .lst0 hclip hn
 | fp hf hs hfit _ h1 hk ih => exact .fp (hm.frz _ _ hf) hs hfit ih h1 (by rw [hm.tok]; exact hk)
 | nilmap => exact .nilmap
 | map h => exact .map (hm.2 _ _ h)
 | func hs _ ih => exact .func hs ih
 | nilfunc => exact .nilfunc
 | iface _ ih => exact .iface ih
 | nilif => exact .nilif
 | agg hs _ ih => exact .agg hs ih
 | tup hs _ ih => exact .tup hs ih
def CRel (μ : Mu) (cs : List AV) (ds : List Value) : Prop :=
 cs.length = ds.length ∧ ∀ (i : Nat) c d, cs[i]? = some c → ds[i]? = some d → VRel μ c d
def CRel1 (μ : Mu) (cs : List AV) (ds : List Value) : Prop := CRel μ cs ds ∧ ∀ d ∈ ds, d.oneCell' = true
theorem CRel.mono {μ μ' : Mu} (hm : μ.le μ') {cs ds} (h : CRel μ cs ds) : CRel μ' cs ds := ⟨h.1, fun i c d hc hd => (h.2 i c d hc hd).mono hm⟩
theorem CRel1.mono {μ μ' : Mu} (hm : μ.le μ') {cs ds} (h : CRel1 μ cs ds) : CRel1 μ' cs ds := ⟨h.1.mono hm, h.2⟩
theorem CRel.nil {μ : Mu} : CRel μ [] [] := ⟨rfl, fun i c d h => by simp at h⟩
theorem CRel1.nil {μ : Mu} : CRel1 μ [] [] := ⟨.nil, by simp⟩
theorem CRel.append {μ : Mu} {a b c d} (h : CRel μ a b) (k : CRel μ c d) : CRel μ (a ++ c) (b ++ d) := by
 refine ⟨by simp [h.1, k.1], fun i x y hx hy => ?_⟩
 by_cases hi : i < a.length
 · rw [List.getElem?_append_left hi] at hx
   rw [List.getElem?_append_left (h.1 ▸ hi)] at hy
   exact h.2 i x y hx hy
 · rw [List.getElem?_append_right (by omega)] at hx
   rw [List.getElem?_append_right (by have := h.1; omega)] at hy
   rw [← h.1] at hy
   exact k.2 _ x y hx hy
theorem CRel1.append {μ : Mu} {a b c d} (h : CRel1 μ a b) (k : CRel1 μ c d) : CRel1 μ (a ++ c) (b ++ d) :=
 ⟨h.1.append k.1, fun x hx => (List.mem_append.1 hx).elim (h.2 x) (k.2 x)⟩
theorem CRel.take {μ : Mu} {a b} (h : CRel μ a b) (n : Nat) : CRel μ (a.take n) (b.take n) := by
 refine ⟨by simp [h.1], fun i x y hx hy => ?_⟩
 rw [List.getElem?_take] at hx hy
 split at hx
 · rename_i hi
   rw [if_pos hi] at hy
   exact h.2 i x y hx hy
 · cases hx
theorem CRel.drop {μ : Mu} {a b} (h : CRel μ a b) (n : Nat) : CRel μ (a.drop n) (b.drop n) := by
 refine ⟨by simp [h.1], fun i x y hx hy => ?_⟩
 rw [List.getElem?_drop] at hx hy
 exact h.2 _ x y hx hy
theorem CRel1.take {μ : Mu} {a b} (h : CRel1 μ a b) (n : Nat) : CRel1 μ (a.take n) (b.take n) := ⟨h.1.take n, fun x hx => h.2 x (List.mem_of_mem_take hx)⟩
theorem CRel1.drop {μ : Mu} {a b} (h : CRel1 μ a b) (n : Nat) : CRel1 μ (a.drop n) (b.drop n) := ⟨h.1.drop n, fun x hx => h.2 x (List.mem_of_mem_drop hx)⟩
def FzOk (n : Nat) (fz : Nat × Nat) : Prop := fz.1 = fz.2 ∨ n ≤ fz.1
theorem FzOk.not {n : Nat} {fz : Nat × Nat} (h : FzOk n fz) {o : Nat} (ho : o < n) : ¬ (fz.1 ≤ o ∧ o < fz.2) := by unfold FzOk at h; omega
def TyOk (row : ARow) (gi : GenInfo) (e : TypeId) : Prop := ∀ T, row.ty = some T → e = T.1 ∧ gi.off = 0 ∧ gi.lo = 0 ∧ (T.2 ≠ 0 → gi.size = T.2)
structure GenOk (μ : Mu) (B : Nat) (row : ARow) (g : Nat) (gi : GenInfo) (w : World) : Prop where
 lo : gi.lo ≤ gi.ext
 fits : gi.off + (gi.ext - gi.lo) ≤ gi.size
 block : ∃ c e fz, w.heap[gi.block]? = some (.cells c e fz) ∧ c.size = gi.size ∧ TyOk row gi e ∧ (row.ro = false → B ≤ gi.block ∧ FzOk gi.size fz) ∧
   (row.valid ≤ g → gi.ext ≤ row.cells.length ∧ ∀ (i : Nat) v, gi.lo ≤ i → i < gi.ext → row.cells[i]? = some v → ∃ x, c[gi.off + (i - gi.lo)]? = some x ∧ VRel μ v x ∧ x.oneCell' = true)
structure RowOk (μ : Mu) (B : Nat) (ii : IdInfo) (row : ARow) (w : World) : Prop where
 len : ii.gens.length = row.gen + 1
 val : row.valid ≤ row.gen
 sz : ii.sz = row.sz
 cur : ∀ gi, ii.gens[row.gen]? = some gi → gi.ext = row.cells.length
 gen : ∀ (g : Nat) gi, ii.gens[g]? = some gi → GenOk μ B row g gi w
 same : ∀ (g g' : Nat) gi gi', ii.gens[g]? = some gi → ii.gens[g']? = some gi' → gi.block = gi'.block → gi.off = gi'.off ∧ gi.lo = gi'.lo ∧ gi.size = gi'.size
def MRel (μ : Mu) (es : List (AV × AV)) (ds : List MapEntry) : Prop :=
 es.length = ds.length ∧ ∀ (i : Nat) e d, es[i]? = some e → ds[i]? = some d → VRel μ e.1 d.key ∧ VRel μ e.2 d.val
structure FrzOk (μ : Mu) (h : AH) (w : World) : Prop where
 low : μ.lim ≤ w.heap.size
 frz : ∀ b arr, μ.frz b = some arr → (∃ e fz, w.heap[b]? = some (.cells arr e fz)) ∧ ∀ (i : Nat) ii row (g : Nat) gi, μ.rows[i]? = some ii → h.rows[i]? = some row → row.ro = false → ii.gens[g]? = some gi → gi.block ≠ b
 tok : ∀ k a, μ.tok k = some a → (∃ arr, μ.frz a.block = some arr) ∧ ∃ c e, w.heap[a.block]? = some (.cells c e (0, 0))
 tinj : ∀ k l a, μ.tok k = some a → μ.tok l = some a → k = l
theorem FrzOk.lt {μ : Mu} {h : AH} {w : World} (hf : FrzOk μ h w) {b : Nat} {arr : Array Value} (hb : μ.frz b = some arr) : b < w.heap.size := by
 obtain ⟨⟨e, fz, h1⟩, _⟩ := hf.frz b arr hb
 exact (Array.getElem?_eq_some_iff.1 h1).1
theorem FrzOk.keep {μ μ' : Mu} {h h' : AH} {w w' : World} (hf : FrzOk μ h w) (hsz : w.heap.size ≤ w'.heap.size) (hb : ∀ b arr, μ.frz b = some arr → w'.heap[b]? = w.heap[b]?)
   (hrows : ∀ b arr, μ.frz b = some arr → ∀ (i : Nat) ii row (g : Nat) gi, μ'.rows[i]? = some ii → h'.rows[i]? = some row → row.ro = false → ii.gens[g]? = some gi → gi.block ≠ b)
   (h1 : μ'.frz = μ.frz) (h2 : μ'.tok = μ.tok) (h3 : μ'.lim = μ.lim) : FrzOk μ' h' w' := by
 refine ⟨by rw [h3]; exact Nat.le_trans hf.low hsz, fun b arr hba => ?_, fun k a hk => ?_, fun k l a => by rw [h2]; exact hf.tinj k l a⟩
 · rw [h1] at hba
   refine ⟨?_, hrows b arr hba⟩
   rw [hb b arr hba]
   exact (hf.frz b arr hba).1
 · rw [h2] at hk
   obtain ⟨⟨arr, k1⟩, k2⟩ := hf.tok k a hk
   exact ⟨⟨arr, by rw [h1]; exact k1⟩, by rw [hb _ arr k1]; exact k2⟩
structure HRel (μ : Mu) (B : Nat) (h : AH) (w : World) : Prop where
 base : B ≤ w.heap.size
 rlen : μ.rows.length = h.rows.length
 mlen : μ.maps.length = h.maps.length
 row : ∀ (i : Nat) ii row, μ.rows[i]? = some ii → h.rows[i]? = some row → RowOk μ B ii row w
 sep : ∀ (i j : Nat) ii jj row row' (g g' : Nat) gi gj, i ≠ j → μ.rows[i]? = some ii → μ.rows[j]? = some jj → h.rows[i]? = some row → h.rows[j]? = some row' →
   (row.ro = false ∨ row'.ro = false) → ii.gens[g]? = some gi → jj.gens[g']? = some gj → gi.block ≠ gj.block
 map : ∀ (m : Nat) b es, μ.maps[m]? = some b → h.maps[m]? = some es → B ≤ b ∧ ∃ ds clock, w.heap[b]? = some (.map ds clock) ∧ MRel μ es ds.toList
 msep : ∀ (m n : Nat) b, μ.maps[m]? = some b → μ.maps[n]? = some b → m = n
 fz : FrzOk μ h w
 lb : μ.lim ≤ B
 roz : ∀ (i : Nat) ii row (g : Nat) gi, μ.rows[i]? = some ii → h.rows[i]? = some row → row.ro = true → ii.gens[g]? = some gi → ∃ arr, μ.frz gi.block = some arr
theorem GenOk.mono {μ μ' : Mu} (hm : μ.le μ') {B row g gi w} (h : GenOk μ B row g gi w) : GenOk μ' B row g gi w := by
 obtain ⟨hl, hf, c, e, fz, h1, h2, ht, h3, h4⟩ := h
 refine ⟨hl, hf, c, e, fz, h1, h2, ht, h3, fun hv => ⟨(h4 hv).1, fun i v hi hi' hv' => ?_⟩⟩
 obtain ⟨x, hx, hr, ho⟩ := (h4 hv).2 i v hi hi' hv'
 exact ⟨x, hx, hr.mono hm, ho⟩
theorem RowOk.mono {μ μ' : Mu} (hm : μ.le μ') {B ii row w} (h : RowOk μ B ii row w) : RowOk μ' B ii row w :=
 ⟨h.len, h.val, h.sz, h.cur, fun g gi hg => (h.gen g gi hg).mono hm, h.same⟩
theorem MRel.mono {μ μ' : Mu} (hm : μ.le μ') {es ds} (h : MRel μ es ds) : MRel μ' es ds :=
 ⟨h.1, fun i e d he hd => ⟨((h.2 i e d he hd).1).mono hm, ((h.2 i e d he hd).2).mono hm⟩⟩
theorem GenOk.lt {μ B row g gi w} (h : GenOk μ B row g gi w) : gi.block < w.heap.size := by
 obtain ⟨c, e, fz, h1, _⟩ := h.block
 exact (Array.getElem?_eq_some_iff.1 h1).1
theorem GenOk.of_block {μ B row g gi w w'} (h : GenOk μ B row g gi w) (hb : w'.heap[gi.block]? = w.heap[gi.block]?) : GenOk μ B row g gi w' := by
 obtain ⟨hl, hf, c, e, fz, h1, hr⟩ := h
 exact ⟨hl, hf, c, e, fz, by rw [hb, h1], hr⟩
theorem RowOk.of_blocks {μ B ii row w w'} (h : RowOk μ B ii row w) (hb : ∀ (g : Nat) gi, ii.gens[g]? = some gi → w'.heap[gi.block]? = w.heap[gi.block]?) : RowOk μ B ii row w' :=
 ⟨h.len, h.val, h.sz, h.cur, fun g gi hg => (h.gen g gi hg).of_block (hb g gi hg), h.same⟩
theorem HRel.below {μ B h w w'} (hr : HRel μ B h w) (hb : Below w.heap.size w w') : HRel μ B h w' := by
 refine ⟨Nat.le_trans hr.base hb.size, hr.rlen, hr.mlen, fun i ii row hi hrow => ?_, hr.sep, fun m b es hm he => ?_, hr.msep,
   hr.fz.keep hb.size (fun b arr hba => hb.block _ (hr.fz.lt hba)) (fun b arr hba => (hr.fz.frz b arr hba).2) rfl rfl rfl, hr.lb, hr.roz⟩
 · exact (hr.row i ii row hi hrow).of_blocks fun g gi hg => hb.block _ ((hr.row i ii row hi hrow).gen g gi hg).lt
 · obtain ⟨h1, ds, clock, h2, h3⟩ := hr.map m b es hm he
   exact ⟨h1, ds, clock, by rw [hb.block b (Array.getElem?_eq_some_iff.1 h2).1]; exact h2, h3⟩
theorem zaa {α : Type} (l : List α) (a : α) (i : Nat) (x : α) : (l ++ [a])[i]? = some x ↔ (i < l.length ∧ l[i]? = some x) ∨ (i = l.length ∧ x = a) := by
 rw [List.getElem?_append]
 split
 · rename_i h
   constructor
   · intro k; exact .inl ⟨h, k⟩
   · rintro (⟨_, k⟩ | ⟨k, _⟩)
     · exact k
     · omega
 · rename_i h
   constructor
   · intro k
     by_cases hi : i - l.length = 0
     · rw [hi] at k
       simp at k
       exact .inr ⟨by omega, k.symm⟩
     · rw [List.getElem?_eq_none (by simp; omega)] at k
       cases k
   · rintro (⟨k, _⟩ | ⟨k, rfl⟩)
     · omega
     · subst k; simp
def Mu.push (μ : Mu) (sz : Nat) (gi : GenInfo) : Mu := { μ with rows := μ.rows ++ [⟨sz, [gi]⟩] }
theorem Mu.le_push (μ : Mu) (sz : Nat) (gi : GenInfo) : μ.le (μ.push sz gi) := by
 refine ⟨fun i ii hi => ⟨ii, ?_, rfl, fun _ _ h => h⟩, fun _ _ h => h, fun _ _ h => h, fun _ _ => rfl, rfl, rfl⟩
 exact (zaa _ _ _ _).2 (.inl ⟨(List.getElem?_eq_some_iff.1 hi).1, hi⟩)
theorem CRel1.get {μ : Mu} {cs ds} (h : CRel1 μ cs ds) {i : Nat} {v : AV} (hv : cs[i]? = some v) : ∃ x, ds[i]? = some x ∧ VRel μ v x ∧ x.oneCell' = true := by
 have hi : i < ds.length := by rw [← h.1.1]; exact (List.getElem?_eq_some_iff.1 hv).1
 exact ⟨ds[i], List.getElem?_eq_getElem hi, h.1.2 i v _ hv (List.getElem?_eq_getElem hi), h.2 _ (List.getElem_mem hi)⟩
def AH.pushY (h : AH) (ty : Option (TypeId × Nat)) (sz : Nat) (cs : List AV) : AH := { h with rows := h.rows ++ [{ cells := cs, sz := sz, ty := ty }] }
theorem HRel.pushY {μ B h w} (hr : HRel μ B h w) (ty : Option (TypeId × Nat)) (sz : Nat) (cs : List AV) (ds rest : List Value) (e : TypeId) (fz : Nat × Nat) (hc : CRel1 μ cs ds) (hfz : FzOk (ds.length + rest.length) fz) (hty : ∀ T, ty = some T → e = T.1 ∧ (T.2 ≠ 0 → ds.length + rest.length = T.2)) :
   HRel (μ.push sz ⟨w.heap.size, 0, 0, cs.length, ds.length + rest.length⟩) B (h.pushY ty sz cs) (w.alloc (.cells (ds ++ rest).toArray e fz)) := by
 have hle := μ.le_push sz ⟨w.heap.size, 0, 0, cs.length, ds.length + rest.length⟩
 have hnew : (w.alloc (.cells (ds ++ rest).toArray e fz)).heap[w.heap.size]? = some (.cells (ds ++ rest).toArray e fz) := heap_alloc_new _ _
 have hold : ∀ i, i < w.heap.size → (w.alloc (.cells (ds ++ rest).toArray e fz)).heap[i]? = w.heap[i]? := fun i hi => Below.heap_alloc _ _ _ hi
 refine ⟨by simp; have := hr.base; omega, by simp [Mu.push, AH.pushY, hr.rlen], by simp [Mu.push, AH.pushY, hr.mlen], ?_, ?_, ?_, hr.msep, ?_, hr.lb, ?_⟩
 · intro i ii row hi hrow
   rcases (zaa _ _ _ _).1 hi with ⟨hlt, hi⟩ | ⟨hlt, rfl⟩
   · rcases (zaa _ _ _ _).1 hrow with ⟨_, hrow⟩ | ⟨hx, _⟩
     · have := hr.row i ii row hi hrow
       exact (this.mono hle).of_blocks fun g gi hg => hold _ (this.gen g gi hg).lt
     · have := hr.rlen; omega
   · rcases (zaa _ _ _ _).1 hrow with ⟨hx, _⟩ | ⟨_, rfl⟩
     · have := hr.rlen; omega
     · refine ⟨rfl, Nat.le_refl _, rfl, ?_, ?_, ?_⟩
       · intro gi hg; simp at hg; subst hg; rfl
       · intro g gi hg
         have hg0 : g = 0 := by
           have := (List.getElem?_eq_some_iff.1 hg).1
           simpa using this
         subst hg0
         simp at hg
         subst hg
         refine ⟨Nat.zero_le _, by simp; have := hc.1.1; omega, _, _, _, hnew, by simp, (fun T hT => ⟨(hty T hT).1, rfl, rfl, (hty T hT).2⟩), fun _ => ⟨hr.base, hfz⟩, fun _ => ⟨Nat.le_refl _, fun i v _ hi hv => ?_⟩⟩
         obtain ⟨x, hx, hv', ho⟩ := hc.get hv
         have hlt := (List.getElem?_eq_some_iff.1 hx).1
         exact ⟨x, by simp [List.getElem?_append_left hlt, hx], hv'.mono hle, ho⟩
       · intro g g' gi gi' hg hg' _
         have hg0 : g = 0 := by
           have := (List.getElem?_eq_some_iff.1 hg).1
           simpa using this
         have hg1 : g' = 0 := by
           have := (List.getElem?_eq_some_iff.1 hg').1
           simpa using this
         subst hg0; subst hg1
         rw [hg] at hg'
         cases hg'
         exact ⟨rfl, rfl, rfl⟩
 · intro i j ii jj row row' g g' gi gj hij hi hj hrow hrow' hro hgi hgj
   rcases (zaa _ _ _ _).1 hi with ⟨hlt, hi⟩ | ⟨hlt, rfl⟩
   · have hrow0 : h.rows[i]? = some row := by
       rcases (zaa _ _ _ _).1 hrow with ⟨_, k⟩ | ⟨k, _⟩
       · exact k
       · have := hr.rlen; omega
     rcases (zaa _ _ _ _).1 hj with ⟨hlt', hj⟩ | ⟨hlt', rfl⟩
     · have hrow1 : h.rows[j]? = some row' := by
         rcases (zaa _ _ _ _).1 hrow' with ⟨_, k⟩ | ⟨k, _⟩
         · exact k
         · have := hr.rlen; omega
       exact hr.sep i j ii jj row row' g g' gi gj hij hi hj hrow0 hrow1 hro hgi hgj
     · have h1 := ((hr.row i ii row hi hrow0).gen g gi hgi).lt
       have hg1 : g' = 0 := by
         have := (List.getElem?_eq_some_iff.1 hgj).1
         simpa using this
       subst hg1
       simp at hgj
       subst hgj
       simp
       omega
   · rcases (zaa _ _ _ _).1 hj with ⟨hlt', hj⟩ | ⟨hlt', rfl⟩
     · have hrow1 : h.rows[j]? = some row' := by
         rcases (zaa _ _ _ _).1 hrow' with ⟨_, k⟩ | ⟨k, _⟩
         · exact k
         · have := hr.rlen; omega
       have h1 := ((hr.row j jj row' hj hrow1).gen g' gj hgj).lt
       have hg1 : g = 0 := by
         have := (List.getElem?_eq_some_iff.1 hgi).1
         simpa using this
       subst hg1
       simp at hgi
       subst hgi
       simp
       omega
     · omega
 · intro m b es hm he
   obtain ⟨h1, ds', clock, h2, h3⟩ := hr.map m b es hm he
   exact ⟨h1, ds', clock, by rw [hold b (Array.getElem?_eq_some_iff.1 h2).1]; exact h2, h3.mono hle⟩
 · refine hr.fz.keep (by simp) (fun b arr hba => hold b (hr.fz.lt hba)) (fun b arr hba i ii row g gi hi hrow hro hgi => ?_) rfl rfl rfl
   rcases (zaa _ _ _ _).1 hi with ⟨hlt, hi⟩ | ⟨hlt, rfl⟩
   · rcases (zaa _ _ _ _).1 hrow with ⟨_, hrow⟩ | ⟨hx, _⟩
     · exact (hr.fz.frz b arr hba).2 i ii row g gi hi hrow hro hgi
     · have := hr.rlen; omega
   · have hg1 : g = 0 := by
       have := (List.getElem?_eq_some_iff.1 hgi).1
       simpa using this
     subst hg1
     simp at hgi
     subst hgi
     have := hr.fz.lt hba
     simp
     omega
 · intro i ii row g gi hi hrow hro hgi
   rcases (zaa _ _ _ _).1 hi with ⟨hlt, hi⟩ | ⟨hlt, rfl⟩
   · rcases (zaa _ _ _ _).1 hrow with ⟨_, hrow⟩ | ⟨hx, _⟩
     · exact hr.roz i ii row g gi hi hrow hro hgi
     · have := hr.rlen; omega
   · rcases (zaa _ _ _ _).1 hrow with ⟨hx, _⟩ | ⟨_, rfl⟩
     · have := hr.rlen; omega
     · cases hro
theorem HRel.push {μ B h w} (hr : HRel μ B h w) (sz : Nat) (cs : List AV) (ds rest : List Value) (e : TypeId) (fz : Nat × Nat) (hc : CRel1 μ cs ds) (hfz : FzOk (ds.length + rest.length) fz) :
   HRel (μ.push sz ⟨w.heap.size, 0, 0, cs.length, ds.length + rest.length⟩) B (h.push sz cs) (w.alloc (.cells (ds ++ rest).toArray e fz)) :=
 hr.pushY none sz cs ds rest e fz hc hfz fun T hT => by cases hT
theorem HRel.pushT {μ B h w} (hr : HRel μ B h w) (n : Nat) (sz : Nat) (cs : List AV) (ds rest : List Value) (e : TypeId) (fz : Nat × Nat) (hc : CRel1 μ cs ds) (hfz : FzOk (ds.length + rest.length) fz) (hn : n ≠ 0 → ds.length + rest.length = n) :
   HRel (μ.push sz ⟨w.heap.size, 0, 0, cs.length, ds.length + rest.length⟩) B (h.pushT (e, n) sz cs) (w.alloc (.cells (ds ++ rest).toArray e fz)) :=
 hr.pushY (some (e, n)) sz cs ds rest e fz hc hfz fun T hT => by cases hT; exact ⟨rfl, hn⟩
theorem setRow_get {h : AH} {i : Nat} {r : ARow} {j : Nat} {x : ARow} (hx : (h.setRow i r).rows[j]? = some x) : (j = i ∧ x = r ∧ i < h.rows.length) ∨ (j ≠ i ∧ h.rows[j]? = some x) := by
 unfold AH.setRow at hx
 simp only [List.getElem?_set] at hx
 split at hx
 · rename_i e
   split at hx
   · cases hx; exact .inl ⟨e.symm, rfl, by assumption⟩
   · cases hx
 · rename_i e
   exact .inr ⟨fun k => e k.symm, hx⟩
theorem setRow_same {h : AH} {i : Nat} {r x : ARow} (hx : (h.setRow i r).rows[i]? = some x) : x = r := by
 rcases setRow_get hx with ⟨_, e, _⟩ | ⟨hne, _⟩
 · exact e
 · exact absurd rfl hne
theorem setRow_ne {h : AH} {i j : Nat} {r x : ARow} (hx : (h.setRow i r).rows[j]? = some x) (hne : j ≠ i) : h.rows[j]? = some x := by
 rcases setRow_get hx with ⟨e, _, _⟩ | ⟨_, k⟩
 · exact absurd e hne
 · exact k
theorem overlay_length (cs : List AV) (o : Nat) (vs : List AV) (h : o + vs.length ≤ cs.length) : (AH.overlay cs o vs).length = cs.length := by
 unfold AH.overlay; simp; omega
theorem overlay_get {α : Type} (c : List α) (o : Nat) (d : List α) (i : Nat) (h : o + d.length ≤ c.length) :
   (c.take o ++ d ++ c.drop (o + d.length))[i]? = if i < o then c[i]? else if i < o + d.length then d[i - o]? else c[i]? := by
 by_cases h1 : i < o
 · rw [if_pos h1, List.append_assoc, List.getElem?_append_left (by simp; omega), List.getElem?_take, if_pos h1]
 · rw [if_neg h1]
   by_cases h2 : i < o + d.length
   · rw [if_pos h2, List.getElem?_append_left (by simp; omega), List.getElem?_append_right (by simp; omega)]
     congr 1; simp; omega
   · rw [if_neg h2, List.getElem?_append_right (by simp; omega), List.getElem?_drop]
     congr 1; simp; omega
theorem setRow_heap_other (w : World) (g k : Nat) (cs : Array Value) (h : k ≠ g) : (w.setRow g cs).heap[k]? = w.heap[k]? := setRow_other w g k cs h
theorem HRel.store {μ B h w} (hr : HRel μ B h w) {id : Nat} {ii : IdInfo} {row : ARow} {gi : GenInfo} {c : Array Value} {e : TypeId} {fz : Nat × Nat} (hi : μ.rows[id]? = some ii) (hrow : h.rows[id]? = some row)
   (hg : ii.gens[row.gen]? = some gi) (hro : row.ro = false) (hb : w.heap[gi.block]? = some (.cells c e fz)) {off : Nat} {vs : List AV} {ds : List Value} (hlo : gi.lo ≤ off)
   (hlen : off + vs.length ≤ row.cells.length) (hc : CRel1 μ vs ds) :
   HRel μ B (h.setRow id { row with cells := AH.overlay row.cells off vs, valid := row.gen })
     (w.setRow gi.block (c.toList.take (gi.off + (off - gi.lo)) ++ ds ++ c.toList.drop (gi.off + (off - gi.lo) + ds.length)).toArray) := by
 have hR := hr.row id ii row hi hrow
 have hG := hR.gen _ gi hg
 have hext := hR.cur gi hg
 have hfits := hG.fits
 have hl := hc.1.1
 obtain ⟨c', e', fz', hb', hcs, _, hB, hval⟩ := hG.block
 rw [hb] at hb'; cases hb'
 obtain ⟨_, hcont⟩ := hval hR.val
 have hnew : (w.setRow gi.block (c.toList.take (gi.off + (off - gi.lo)) ++ ds ++ c.toList.drop (gi.off + (off - gi.lo) + ds.length)).toArray).heap[gi.block]? = some (.cells (c.toList.take (gi.off + (off - gi.lo)) ++ ds ++ c.toList.drop (gi.off + (off - gi.lo) + ds.length)).toArray e fz) :=
   setRow_heap _ _ _ _ _ _ hb
 have hfit2 : gi.off + (off - gi.lo) + ds.length ≤ c.toList.length := by simp [hcs]; omega
 have hsize : (c.toList.take (gi.off + (off - gi.lo)) ++ ds ++ c.toList.drop (gi.off + (off - gi.lo) + ds.length)).toArray.size = gi.size := by
   simp at hfit2 ⊢; omega
 refine ⟨by simp; exact hr.base, by simp [AH.setRow, hr.rlen], hr.mlen, ?_, ?_, ?_, hr.msep, ?_, hr.lb, ?_⟩
 · intro j jj row' hj hrow'
   rcases setRow_get hrow' with ⟨rfl, rfl, _⟩ | ⟨hne, hrow'⟩
   · rw [hi] at hj; cases hj
     refine ⟨hR.len, Nat.le_refl _, hR.sz, fun gi' hg' => by rw [hR.cur gi' hg']; exact (overlay_length _ _ _ hlen).symm, ?_, hR.same⟩
     intro g gi' hg'
     have hG' := hR.gen g gi' hg'
     by_cases hbl : gi'.block = gi.block
     · obtain ⟨so, sl, ss⟩ := hR.same _ _ _ _ hg' hg hbl
       obtain ⟨c9, e9, fz9, q1, _, q3, _⟩ := hG'.block
       rw [hbl, hb] at q1
       cases q1
       refine ⟨hG'.lo, hG'.fits, _, e, fz, by rw [hbl]; exact hnew, by rw [hsize, ss], q3, fun h0 => ?_, fun hv => ?_⟩
       · obtain ⟨h1, h2⟩ := hB h0
         exact ⟨by rw [hbl]; exact h1, by rw [ss]; exact h2⟩
       · have hge : row.gen ≤ g := hv
         have hlt := (List.getElem?_eq_some_iff.1 hg').1
         have : g = row.gen := by have := hR.len; omega
         subst this
         rw [hg] at hg'; cases hg'
         refine ⟨by rw [overlay_length _ _ _ hlen, hext]; exact Nat.le_refl _, fun i v h1 h2 h3 => ?_⟩
         simp only [AH.overlay] at h3
         rw [overlay_get _ _ _ _ hlen] at h3
         have key := overlay_get c.toList (gi.off + (off - gi.lo)) ds (gi.off + (i - gi.lo)) hfit2
         simp only [List.getElem?_toArray]
         rw [key]
         by_cases h4 : i < off
         · rw [if_pos h4] at h3
           rw [if_pos (by omega)]
           obtain ⟨x, hx, hxr⟩ := hcont i v h1 h2 h3
           exact ⟨x, by simpa using hx, hxr⟩
         · rw [if_neg h4] at h3
           rw [if_neg (by omega)]
           by_cases h5 : i < off + vs.length
           · rw [if_pos h5] at h3
             rw [if_pos (by omega)]
             obtain ⟨x, hx, hxr⟩ := hc.get h3
             refine ⟨x, ?_, hxr⟩
             have : gi.off + (i - gi.lo) - (gi.off + (off - gi.lo)) = i - off := by omega
             rw [this]; exact hx
           · rw [if_neg h5] at h3
             rw [if_neg (by omega)]
             obtain ⟨x, hx, hxr⟩ := hcont i v h1 h2 h3
             exact ⟨x, by simpa using hx, hxr⟩
     · have hG2 := hG'.of_block (setRow_heap_other w gi.block gi'.block (c.toList.take (gi.off + (off - gi.lo)) ++ ds ++ c.toList.drop (gi.off + (off - gi.lo) + ds.length)).toArray hbl)
       obtain ⟨h1, h2, c2, e2, fz2, h3, h4, ht, h5, h6⟩ := hG2
       refine ⟨h1, h2, c2, e2, fz2, h3, h4, ht, h5, fun hv => ?_⟩
       have hge : row.gen ≤ g := hv
       have hlt := (List.getElem?_eq_some_iff.1 hg').1
       have : g = row.gen := by have := hR.len; omega
       subst this
       rw [hg] at hg'; cases hg'
       exact absurd rfl hbl
   · refine (hr.row j jj row' hj hrow').of_blocks fun g gj hgj => setRow_heap_other _ _ _ _ ?_
     exact hr.sep j id jj ii row' row g row.gen gj gi hne hj hi hrow' hrow (.inr hro) hgj hg
 · intro i j ii' jj row1 row2 g g' gi' gj hij hi' hj hrow1 hrow2 hro' hgi hgj
   rcases setRow_get hrow1 with ⟨e1, e2, _⟩ | ⟨hne1, k1⟩ <;> rcases setRow_get hrow2 with ⟨e3, e4, _⟩ | ⟨hne2, k2⟩
   · exact absurd (e1.trans e3.symm) hij
   · subst e1
     exact hr.sep _ _ _ _ _ _ _ _ _ _ hij hi' hj hrow k2 (.inl hro) hgi hgj
   · subst e3
     exact hr.sep _ _ _ _ _ _ _ _ _ _ hij hi' hj k1 hrow (.inr hro) hgi hgj
   · exact hr.sep _ _ _ _ _ _ _ _ _ _ hij hi' hj k1 k2 hro' hgi hgj
 · intro m b es hm he
   obtain ⟨h1, ds', clock, h2, h3⟩ := hr.map m b es hm he
   refine ⟨h1, ds', clock, ?_, h3⟩
   rw [setRow_heap_other _ _ _ _ (fun k => by rw [k, hb] at h2; cases h2)]
   exact h2
 · refine hr.fz.keep (by simp) (fun b arr hba => setRow_heap_other _ _ _ _ fun e => (hr.fz.frz b arr hba).2 id ii row _ gi hi hrow hro hg e.symm) (fun b arr hba i ii' row' g gi' hi' hrow' hro' hgi => ?_) rfl rfl rfl
   rcases setRow_get hrow' with ⟨e1, e2, _⟩ | ⟨hne1, k1⟩
   · subst e1
     rw [hi] at hi'; cases hi'
     exact (hr.fz.frz b arr hba).2 i ii row g gi' hi hrow hro hgi
   · exact (hr.fz.frz b arr hba).2 i ii' row' g gi' hi' k1 hro' hgi
 · intro i ii' row' g gi' hi' hrow' hro' hgi
   rcases setRow_get hrow' with ⟨e1, e2, _⟩ | ⟨hne1, k1⟩
   · subst e2
     simp only at hro'
     rw [hro] at hro'; cases hro'
   · exact hr.roz i ii' row' g gi' hi' k1 hro' hgi
theorem TyOk.sub {row row' : ARow} {gi : GenInfo} {e : TypeId} (h : TyOk row gi e) (ht : row'.ty = none ∨ row'.ty = row.ty) : TyOk row' gi e := fun T hT => by
 rcases ht with ht | ht
 · rw [ht] at hT; cases hT
 · exact h T (by rw [← ht]; exact hT)
def Mu.grow (μ : Mu) (id : Nat) (gi : GenInfo) : Mu := { μ with rows := μ.rows.modify id fun ii => { ii with gens := ii.gens ++ [gi] } }
theorem grow_get {μ : Mu} {id : Nat} {gi : GenInfo} {j : Nat} {jj : IdInfo} (h : (μ.grow id gi).rows[j]? = some jj) :
   (j = id ∧ ∃ ii, μ.rows[id]? = some ii ∧ jj = { ii with gens := ii.gens ++ [gi] }) ∨ (j ≠ id ∧ μ.rows[j]? = some jj) := by
 simp only [Mu.grow, List.getElem?_modify] at h
 by_cases hj : id = j
 · subst hj
   simp at h
   obtain ⟨ii, hi, he⟩ := h
   exact .inl ⟨rfl, ii, hi, he.symm⟩
 · simp only [hj, if_false, Option.map_eq_map] at h
   exact .inr ⟨fun k => hj k.symm, by simpa using h⟩
theorem Mu.le_grow (μ : Mu) (id : Nat) (gi : GenInfo) : μ.le (μ.grow id gi) := by
 refine ⟨fun j jj hj => ?_, fun _ _ h => h, fun _ _ h => h, fun _ _ => rfl, rfl, rfl⟩
 simp only [Mu.grow, List.getElem?_modify, hj]
 by_cases hi : id = j
 · refine ⟨{ jj with gens := jj.gens ++ [gi] }, by simp [hi], rfl, fun g x hg => ?_⟩
   exact (zaa _ _ _ _).2 (.inl ⟨(List.getElem?_eq_some_iff.1 hg).1, hg⟩)
 · exact ⟨jj, by simp [hi], rfl, fun _ _ h => h⟩
theorem HRel.grow {μ B h w w'} (hr : HRel μ B h w) {id : Nat} {ii : IdInfo} {row : ARow} (hi : μ.rows[id]? = some ii) (hrow : h.rows[id]? = some row) (hro : row.ro = false)
   (gn : GenInfo) (en : Nat) (xs : List AV) (valid : Nat) (hen : en ≤ row.cells.length) (hval : valid = row.gen + 1 ∨ (valid = row.valid ∧ en = row.cells.length))
   {ty : Option (TypeId × Nat)} (hty : ty = none ∨ ty = row.ty) (hext : gn.ext = en + xs.length) (hlo : gn.lo ≤ en)
   (hblocks : ∀ k, k < w.heap.size → k ≠ gn.block → w'.heap[k]? = w.heap[k]?) (hsz : w.heap.size ≤ w'.heap.size)
   (hsame : ∀ (g : Nat) gi, ii.gens[g]? = some gi → gi.block = gn.block → gi.off = gn.off ∧ gi.lo = gn.lo ∧ gi.size = gn.size)
   (hother : ∀ (j : Nat) jj row' (g : Nat) gj, j ≠ id → μ.rows[j]? = some jj → h.rows[j]? = some row' → jj.gens[g]? = some gj → gj.block ≠ gn.block)
   (hmaps : ∀ (m : Nat) b, μ.maps[m]? = some b → b ≠ gn.block) (hfrz : ∀ b arr, μ.frz b = some arr → gn.block ≠ b)
   (hnew : GenOk (μ.grow id gn) B { row with cells := row.cells.take en ++ xs, gen := row.gen + 1, valid := valid, ty := ty } (row.gen + 1) gn w')
   (hkept : ∀ (g : Nat) gi, ii.gens[g]? = some gi → gi.block = gn.block → ∃ c c' e fz, w.heap[gi.block]? = some (.cells c e fz) ∧ w'.heap[gi.block]? = some (.cells c' e fz) ∧ c'.size = c.size ∧
     (valid = row.valid → row.valid ≤ g → ∀ i, gi.lo ≤ i → i < gi.ext → c'[gi.off + (i - gi.lo)]? = c[gi.off + (i - gi.lo)]?)) :
   HRel (μ.grow id gn) B (h.setRow id { row with cells := row.cells.take en ++ xs, gen := row.gen + 1, valid := valid, ty := ty }) w' := by
 have hR := hr.row id ii row hi hrow
 have hle := μ.le_grow id gn
 refine ⟨Nat.le_trans hr.base hsz, by simp [AH.setRow, Mu.grow, hr.rlen], by simp [AH.setRow, Mu.grow, hr.mlen], ?_, ?_, ?_, hr.msep, ?_, hr.lb, ?_⟩
 · intro j jj row' hj hrow'
   rcases grow_get hj with ⟨rfl, ii', hi', rfl⟩ | ⟨hne, hj⟩
   · rw [hi] at hi'; cases hi'
     obtain rfl := setRow_same hrow'
     refine ⟨by simp [hR.len], ?_, hR.sz, ?_, ?_, ?_⟩
     · rcases hval with rfl | ⟨rfl, _⟩
       · exact Nat.le_refl _
       · exact Nat.le_succ_of_le hR.val
     · intro gi hg
       rcases (zaa _ _ _ _).1 hg with ⟨hlt, _⟩ | ⟨_, rfl⟩
       · have := hR.len; simp at hlt; omega
       · rw [hext]; simp; omega
     · intro g gi hg
       rcases (zaa _ _ _ _).1 hg with ⟨hlt, hg⟩ | ⟨hge, rfl⟩
       · have hG := hR.gen g gi hg
         have hlen := hR.len
         by_cases hbl : gi.block = gn.block
         · obtain ⟨c, c', e, fz, h1, h2, h3, h4⟩ := hkept g gi hg hbl
           obtain ⟨c0, e0, fz0, k1, k2, kt, k3, k4⟩ := hG.block
           rw [h1] at k1; cases k1
           refine ⟨hG.lo, hG.fits, c', e, fz, h2, by rw [h3, k2], kt.sub hty, fun h0 => k3 h0, fun hv => ?_⟩
           rcases hval with rfl | ⟨rfl, rfl⟩
           · simp at hv; omega
           · obtain ⟨m1, m2⟩ := k4 hv
             refine ⟨by simp; omega, fun i v n1 n2 n3 => ?_⟩
             have n4 : row.cells[i]? = some v := by
               simp only at n3
               rw [List.getElem?_append_left (by simp; omega), List.getElem?_take, if_pos (by omega)] at n3
               exact n3
             obtain ⟨x, hx, hxr, hx1⟩ := m2 i v n1 n2 n4
             exact ⟨x, by rw [h4 rfl hv i n1 n2]; exact hx, hxr.mono hle, hx1⟩
         · have hG2 := (hG.of_block (hblocks _ hG.lt hbl)).mono hle
           obtain ⟨h1, h2, c, e, fz, h3, h4, ht, h5, h6⟩ := hG2
           refine ⟨h1, h2, c, e, fz, h3, h4, ht.sub hty, h5, fun hv => ?_⟩
           rcases hval with rfl | ⟨rfl, rfl⟩
           · simp at hv; omega
           · obtain ⟨m1, m2⟩ := h6 hv
             refine ⟨by simp; omega, fun i v n1 n2 n3 => m2 i v n1 n2 ?_⟩
             simp only at n3
             rw [List.getElem?_append_left (by simp; omega), List.getElem?_take, if_pos (by omega)] at n3
             exact n3
       · have : g = row.gen + 1 := by rw [hge, hR.len]
         subst this
         exact hnew
     · intro g g' gi gi' hg hg' hbl
       rcases (zaa _ _ _ _).1 hg with ⟨_, k1⟩ | ⟨_, e1⟩ <;> rcases (zaa _ _ _ _).1 hg' with ⟨_, k2⟩ | ⟨_, e2⟩
       · exact hR.same _ _ _ _ k1 k2 hbl
       · subst e2; exact hsame _ _ k1 hbl
       · subst e1
         obtain ⟨a, b, c⟩ := hsame _ _ k2 hbl.symm
         exact ⟨a.symm, b.symm, c.symm⟩
       · subst e1; subst e2; exact ⟨rfl, rfl, rfl⟩
   · have k1 := setRow_ne hrow' hne
     have h1 := hr.row j jj row' hj k1
     exact (h1.mono hle).of_blocks fun g gj hgj => hblocks _ (h1.gen g gj hgj).lt (hother j jj row' g gj hne hj k1 hgj)
 · intro i j ii' jj row1 row2 g g' gi gj hij hi' hj hrow1 hrow2 hro' hgi hgj
   rcases grow_get hi' with ⟨e1, ii0, hi0, e2⟩ | ⟨hne, m1⟩ <;> rcases grow_get hj with ⟨e3, jj0, hj0, e4⟩ | ⟨hne', m2⟩
   · exact absurd (e1.trans e3.symm) hij
   · rw [hi] at hi0; cases hi0
     subst e2
     subst e1
     have k2 := setRow_ne hrow2 hne'
     rcases (zaa _ _ _ _).1 hgi with ⟨_, hgi⟩ | ⟨_, rfl⟩
     · exact hr.sep _ _ _ _ _ _ _ _ _ _ hij hi m2 hrow k2 (.inl hro) hgi hgj
     · exact fun k => hother j jj row2 g' gj hne' m2 k2 hgj k.symm
   · rw [hi] at hj0; cases hj0
     subst e4
     subst e3
     have k1 := setRow_ne hrow1 hne
     rcases (zaa _ _ _ _).1 hgj with ⟨_, hgj⟩ | ⟨_, rfl⟩
     · exact hr.sep _ _ _ _ _ _ _ _ _ _ hij m1 hi k1 hrow (.inr hro) hgi hgj
     · exact fun k => hother i ii' row1 g gi hne m1 k1 hgi k
   · exact hr.sep _ _ _ _ _ _ _ _ _ _ hij m1 m2 (setRow_ne hrow1 hne) (setRow_ne hrow2 hne') hro' hgi hgj
 · intro m b es hm he
   obtain ⟨h1, ds', clock, h2, h3⟩ := hr.map m b es hm he
   exact ⟨h1, ds', clock, by rw [hblocks b (Array.getElem?_eq_some_iff.1 h2).1 (hmaps m b hm)]; exact h2, h3.mono hle⟩
 · refine hr.fz.keep hsz (fun b arr hba => hblocks b (hr.fz.lt hba) fun e => hfrz b arr hba e.symm) (fun b arr hba i ii' row' g gi' hi' hrow' hro' hgi => ?_) rfl rfl rfl
   rcases grow_get hi' with ⟨e1, ii0, hi0, e2⟩ | ⟨hne, m1⟩
   · subst e1
     rw [hi] at hi0; cases hi0
     subst e2
     rcases (zaa _ _ _ _).1 hgi with ⟨_, hgi⟩ | ⟨_, rfl⟩
     · exact (hr.fz.frz b arr hba).2 i ii row g gi' hi hrow hro hgi
     · exact hfrz b arr hba
   · exact (hr.fz.frz b arr hba).2 i ii' row' g gi' m1 (setRow_ne hrow' hne) hro' hgi
 · intro i ii' row' g gi' hi' hrow' hro' hgi
   rcases grow_get hi' with ⟨e1, ii0, hi0, e2⟩ | ⟨hne, m1⟩
   · subst e1
     obtain rfl := setRow_same hrow'
     simp only at hro'
     rw [hro] at hro'; cases hro'
   · exact hr.roz i ii' row' g gi' m1 (setRow_ne hrow' hne) hro' hgi
def Mu.still (μ : Mu) (b : Nat) (arr : Array Value) : Mu := { μ with frz := fun k => if k = b then some arr else μ.frz k }
theorem HRel.still {μ B h w} (hr : HRel μ B h w) (arr : Array Value) (e : TypeId) (fz : Nat × Nat) :
   μ.le (μ.still w.heap.size arr) ∧ HRel (μ.still w.heap.size arr) B h (w.alloc (.cells arr e fz)) := by
 have hnot : μ.frz w.heap.size = none := by
   cases hq : μ.frz w.heap.size with
   | none => rfl
   | some x => have := hr.fz.lt hq; omega
 have hle : μ.le (μ.still w.heap.size arr) := by
   refine ⟨fun i ii hi => ⟨ii, hi, rfl, fun _ _ h => h⟩, fun _ _ h => h, fun b x hb => ?_, fun b hb => ?_, rfl, rfl⟩
   · simp only [Mu.still]
     rw [if_neg (by rintro rfl; rw [hnot] at hb; cases hb)]
     exact hb
   · simp only [Mu.still]
     have := hr.fz.low
     rw [if_neg (by omega)]
 have hb := hr.below ((Below.refl w.heap.size w).alloc (Nat.le_refl _) (.cells arr e fz))
 refine ⟨hle, hb.base, hb.rlen, hb.mlen, fun i ii row hi hrow => (hb.row i ii row hi hrow).mono hle, hb.sep, fun m b es hm he => ?_, hb.msep, ⟨hb.fz.low, fun b x hbx => ?_, fun k a hk => ?_, hb.fz.tinj⟩, hb.lb, fun i ii row g gi a b c d => by
   obtain ⟨x, hx⟩ := hb.roz i ii row g gi a b c d
   exact ⟨x, hle.frz _ _ hx⟩⟩
 · obtain ⟨h1, ds', clock, h2, h3⟩ := hb.map m b es hm he
   exact ⟨h1, ds', clock, h2, h3.mono hle⟩
 · simp only [Mu.still] at hbx
   by_cases hbe : b = w.heap.size
   · rw [if_pos hbe] at hbx
     cases hbx
     subst hbe
     refine ⟨⟨e, fz, heap_alloc_new _ _⟩, fun i ii row g gi hi hrow _ hgi => ?_⟩
     have := ((hr.row i ii row hi hrow).gen g gi hgi).lt
     omega
   · rw [if_neg hbe] at hbx
     exact hb.fz.frz b x hbx
 · obtain ⟨⟨x, k1⟩, k2⟩ := hb.fz.tok k a hk
   exact ⟨⟨x, hle.frz _ _ k1⟩, k2⟩
def World.cellsOf (w : World) (b : Nat) : Option (Array Value) :=
 match w.heap[b]? with
 | some (.cells c _ _) => some c
 | _ => none
def AH.markRo (h : AH) (ids : List Nat) : AH := { h with rows := h.rows.mapIdx fun i r => bif ids.elem i then { r with ro := true } else r }
theorem markRo_get {h : AH} {ids : List Nat} {i : Nat} {r : ARow} (hr : (h.markRo ids).rows[i]? = some r) : ∃ r0, h.rows[i]? = some r0 ∧ r = (bif ids.elem i then { r0 with ro := true } else r0) := by
 simp only [AH.markRo, List.getElem?_mapIdx, Option.map_eq_some_iff] at hr
 obtain ⟨r0, h1, h2⟩ := hr
 exact ⟨r0, h1, h2.symm⟩
def Mu.stillRows (μ : Mu) (ids : List Nat) (w : World) : Mu :=
 { μ with frz := fun b => bif ids.any (fun i => match μ.rows[i]? with | some ii => ii.gens.any (fun g => Nat.beq g.block b) | none => false) then World.cellsOf w b else μ.frz b }
theorem HRel.mark' {μ B h w} (hr : HRel μ B h w) (ids : List Nat) : μ.le (μ.stillRows ids w) ∧ HRel (μ.stillRows ids w) B (h.markRo ids) w ∧
   ∀ (i : Nat) ii row (g : Nat) gi c e fz, i ∈ ids → μ.rows[i]? = some ii → h.rows[i]? = some row → ii.gens[g]? = some gi → w.heap[gi.block]? = some (.cells c e fz) → (μ.stillRows ids w).frz gi.block = some c := by
 have hit : ∀ {b : Nat}, ids.any (fun i => match μ.rows[i]? with | some ii => ii.gens.any (fun g => Nat.beq g.block b) | none => false) = true → ∃ (i : Nat) (ii : IdInfo) (g : Nat) (gi : GenInfo), i ∈ ids ∧ μ.rows[i]? = some ii ∧ ii.gens[g]? = some gi ∧ gi.block = b := by
   intro b hb
   obtain ⟨i, hi, h1⟩ := List.any_eq_true.1 hb
   split at h1
   · rename_i ii hii
     obtain ⟨gi, hgi, h2⟩ := List.any_eq_true.1 h1
     obtain ⟨g, hg⟩ := List.getElem?_of_mem hgi
     exact ⟨i, ii, g, gi, hi, hii, hg, nbeq.1 h2⟩
   · cases h1
 have hits : ∀ {i : Nat} {ii : IdInfo} {g : Nat} {gi : GenInfo}, i ∈ ids → μ.rows[i]? = some ii → ii.gens[g]? = some gi → ids.any (fun i => match μ.rows[i]? with | some ii => ii.gens.any (fun g => Nat.beq g.block gi.block) | none => false) = true := by
   intro i ii g gi hi hii hg
   refine List.any_eq_true.2 ⟨i, hi, ?_⟩
   rw [hii]
   exact List.any_eq_true.2 ⟨gi, List.mem_of_getElem? hg, Nat.beq_refl _⟩
 have rowOf : ∀ {i : Nat} {ii : IdInfo}, μ.rows[i]? = some ii → ∃ row, h.rows[i]? = some row := by
   intro i ii hi
   have hlt := (List.getElem?_eq_some_iff.1 hi).1
   rw [hr.rlen] at hlt
   exact ⟨_, List.getElem?_eq_getElem hlt⟩
 have cellsAt : ∀ {i : Nat} {ii : IdInfo} {g : Nat} {gi : GenInfo}, μ.rows[i]? = some ii → ii.gens[g]? = some gi → ∃ c e fz, w.heap[gi.block]? = some (.cells c e fz) ∧ World.cellsOf w gi.block = some c := by
   intro i ii g gi hi hg
   obtain ⟨row, hrow⟩ := rowOf hi
   obtain ⟨c, e, fz, h1, _⟩ := ((hr.row i ii row hi hrow).gen g gi hg).block
   exact ⟨c, e, fz, h1, by simp [World.cellsOf, h1]⟩
 have keep : ∀ b x, μ.frz b = some x → (μ.stillRows ids w).frz b = some x := by
   intro b x hx
   simp only [Mu.stillRows, Bool.cond_eq_ite]
   split
   · obtain ⟨⟨e, fz, h1⟩, _⟩ := hr.fz.frz b x hx
     simp [World.cellsOf, h1]
   · exact hx
 have hle : μ.le (μ.stillRows ids w) := by
   refine ⟨fun i ii hi => ⟨ii, hi, rfl, fun _ _ h => h⟩, fun _ _ h => h, keep, fun b hb => ?_, rfl, rfl⟩
   simp only [Mu.stillRows, Bool.cond_eq_ite]
   split
   · rename_i h1
     obtain ⟨i, ii, g, gi, hi, hii, hg, rfl⟩ := hit h1
     obtain ⟨row, hrow⟩ := rowOf hii
     obtain ⟨c, e, fz, k1, _, _, k3, _⟩ := ((hr.row i ii row hii hrow).gen g gi hg).block
     cases hro : row.ro with
     | false =>
       have := (k3 hro).1
       have := hr.lb
       omega
     | true =>
       obtain ⟨arr, ha⟩ := hr.roz i ii row g gi hii hrow hro hg
       rw [ha]
       obtain ⟨⟨e', fz', h2⟩, _⟩ := hr.fz.frz _ _ ha
       simp [World.cellsOf, h2]
   · rfl
 refine ⟨hle, ⟨hr.base, by simp [AH.markRo, Mu.stillRows, hr.rlen], hr.mlen, fun i ii row hi hrow => ?_, fun i j ii jj row1 row2 g1 g2 gi gj hij hi hj hrow1 hrow2 hro hgi hgj => ?_, fun m b es hm he => ?_, hr.msep, ⟨hr.fz.low, fun b x hbx => ?_, fun k a hk => ?_, hr.fz.tinj⟩, hr.lb, fun i ii row g gi hi hrow hro hgi => ?_⟩, fun i ii row g gi c e fz hi hii hrow hgi hc => ?_⟩
 · obtain ⟨r0, k1, rfl⟩ := markRo_get hrow
   have hR := (hr.row i ii r0 hi k1).mono hle
   cases hm : ids.elem i with
   | false => exact hR
   | true =>
     refine ⟨hR.len, hR.val, hR.sz, hR.cur, fun g gi hgi => ?_, hR.same⟩
     obtain ⟨m1, m2, c1, e1, fz1, m3, m4, mt, m5, m6⟩ := hR.gen g gi hgi
     exact ⟨m1, m2, c1, e1, fz1, m3, m4, mt, (fun h => by cases h), m6⟩
 · obtain ⟨r1, k1, rfl⟩ := markRo_get hrow1
   obtain ⟨r2, k2, rfl⟩ := markRo_get hrow2
   refine hr.sep i j ii jj r1 r2 g1 g2 gi gj hij hi hj k1 k2 (hro.imp (fun h9 => ?_) (fun h9 => ?_)) hgi hgj
   · cases hm : ids.elem i with
     | false => rw [hm] at h9; exact h9
     | true => rw [hm] at h9; cases h9
   · cases hm : ids.elem j with
     | false => rw [hm] at h9; exact h9
     | true => rw [hm] at h9; cases h9
 · obtain ⟨h1, ds', clock, h2, h3⟩ := hr.map m b es hm he
   exact ⟨h1, ds', clock, h2, h3.mono hle⟩
 · have sepOf : ∀ (i : Nat) row, (h.markRo ids).rows[i]? = some row → row.ro = false → i ∉ ids ∧ h.rows[i]? = some row := by
     intro i row hrow hro
     obtain ⟨r0, k1, rfl⟩ := markRo_get hrow
     cases hm : ids.elem i with
     | true => rw [hm] at hro; cases hro
     | false =>
       refine ⟨fun h9 => ?_, k1⟩
       rw [List.elem_eq_mem, decide_eq_false_iff_not] at hm
       exact hm h9
   simp only [Mu.stillRows, Bool.cond_eq_ite] at hbx
   split at hbx
   · rename_i h1
     obtain ⟨i0, ii0, g0, gi0, hi0, hii0, hg0, rfl⟩ := hit h1
     obtain ⟨c, e, fz, k1, k2⟩ := cellsAt hii0 hg0
     rw [k2] at hbx
     cases hbx
     refine ⟨⟨e, fz, k1⟩, fun i ii row g gi hi hrow hro hgi => ?_⟩
     obtain ⟨hn, hrow'⟩ := sepOf i row hrow hro
     obtain ⟨row0, hrow0⟩ := rowOf hii0
     exact hr.sep i i0 ii ii0 row row0 g g0 gi gi0 (fun e9 => hn (e9 ▸ hi0)) hi hii0 hrow' hrow0 (.inl hro) hgi hg0
   · refine ⟨(hr.fz.frz b x hbx).1, fun i ii row g gi hi hrow hro hgi => ?_⟩
     obtain ⟨hn, hrow'⟩ := sepOf i row hrow hro
     exact (hr.fz.frz b x hbx).2 i ii row g gi hi hrow' hro hgi
 · obtain ⟨⟨x, k1⟩, k2⟩ := hr.fz.tok k a hk
   exact ⟨⟨x, keep _ _ k1⟩, k2⟩
 · obtain ⟨r0, k1, rfl⟩ := markRo_get hrow
   have hi' : μ.rows[i]? = some ii := hi
   cases hm : ids.elem i with
   | false =>
     rw [hm] at hro
     obtain ⟨x, hx⟩ := hr.roz i ii r0 g gi hi' k1 hro hgi
     exact ⟨x, keep _ _ hx⟩
   | true =>
     rw [List.elem_eq_mem, decide_eq_true_eq] at hm
     obtain ⟨c, e, fz, k2, k3⟩ := cellsAt hi' hgi
     refine ⟨c, ?_⟩
     simp only [Mu.stillRows]
     rw [hits hm hi' hgi, cond_true, k3]
 · simp only [Mu.stillRows]
   rw [hits hi hii hgi, cond_true]
   simp [World.cellsOf, hc]
theorem HRel.fix {μ B h w} (hr : HRel μ B h w) {id g : Nat} {ii : IdInfo} {row : ARow} {gi : GenInfo} (hi : μ.rows[id]? = some ii) (hrow : h.rows[id]? = some row) (hg : ii.gens[g]? = some gi) {c : Array Value} {e : TypeId} {fz : Nat × Nat} (hb : w.heap[gi.block]? = some (.cells c e fz)) :
   ∃ μ', μ.le μ' ∧ HRel μ' B (h.setRow id { row with ro := true }) w ∧ μ'.frz gi.block = some c := by
 obtain ⟨h1, h2, h3⟩ := hr.mark' [id]
 refine ⟨_, h1, ?_, h3 id ii row g gi c e fz (by simp) hi hrow hg hb⟩
 have : h.markRo [id] = h.setRow id { row with ro := true } := by
   unfold AH.markRo AH.setRow
   congr 1
   apply List.ext_getElem?
   intro j
   rw [List.getElem?_mapIdx, List.getElem?_set]
   by_cases hj : id = j
   · subst hj
     have hlt := (List.getElem?_eq_some_iff.1 hrow).1
     rw [hrow, if_pos rfl, if_pos hlt]
     simp
   · have : [id].elem j = false := by simp; exact fun e9 => hj e9.symm
     rw [this, if_neg hj]
     cases h.rows[j]? <;> rfl
 rw [← this]
 exact h2
end Go.Proofs.YtjagkijfngokaaaGreatDoor
