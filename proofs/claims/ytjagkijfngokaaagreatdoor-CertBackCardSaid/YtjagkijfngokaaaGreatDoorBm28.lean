/-
 Package variables that hold errors, as values.
-/
import Derived.Test.YtjagkijfngokaaaGreatDoorBm24
import Derived.HandedShaped
import Derived.LaidLaws
import Derived.Lay
import Derived.OpenShut
namespace Go.Proofs.YtjagkijfngokaaaGreatDoor
open Go.RowKit
abbrev errD (nm : String) (text : List UInt8) : DataW Unit := .iface nm (.ptr (.agg [.lit (.string text)]))
structure ErrTypes (P : Program) (ti tp te ts : TypeId) (nm : String) : Prop where
 iface : ∃ ms, P.underlying ti = some (.interface ms)
 name : ∀ u, P.typeName? 3 u = some nm → u = tp
 ptr : P.underlying tp = some (.pointer te)
 str : ∃ f, P.underlying te = some (.struct #[f]) ∧ f.type = ts ∧ f.offset = 0
 text : P.underlying ts = some .string
 size : P.cellsOf te = 1
 size1 : P.cellsOf ts = 1
theorem laid_errs {P : Program} {w : World} {ti tp te ts : TypeId} {nm : String} (hT : ErrTypes P ti tp te ts nm) : ∀ {laid : List (String × DataW Unit)} {ps : List MemPlace}, DataW.LaidVars P w laid ps → ps.Nodup →
   (∀ b off, MemPlace.cell b off ∈ ps → (∃ c t, w.heap[b]? = some (.cells c t (0, 0))) ∧ ∀ u v, w.cell? ⟨b, off, none⟩ = some (.iface u v) → Value.okWide P w .any 0 u v) →
   ∃ A : Nat → Option Addr, (∀ (k : Nat) n text g, laid[k]? = some (n, errD nm text) → P.globalNamed n = some g → (P.globals[g]?).map (·.type) = some ti →
       ∃ a s, A k = some a ∧ w.cell? ⟨g, 0, none⟩ = some (.iface tp (.pointer (some a))) ∧ w.cell? a = some (.string s) ∧ s.data.toList = text) ∧
     (∀ k a, A k = some a → MemPlace.cell a.block a.off ∈ ps ∧ a.spot = none) ∧ ∀ k l a, A k = some a → A l = some a → k = l
 | [], ps, _, _, _ => ⟨fun _ => none, (fun k n text g h => by simp at h), (fun k a h => by cases h), (fun k l a h => by cases h)⟩
 | (n0, d) :: r, ps, hl, hnd, hrows => by
   obtain ⟨g0, t0, cs, fuel, p, q, h1, h2, h3, h4, h5, rfl⟩ := hl
   have hndq : q.Nodup := (List.nodup_append.1 hnd).2.1
   obtain ⟨A, i1, i2, i3⟩ := laid_errs hT h5 hndq (fun b off hb => hrows b off (by simp [hb]))
   have hdis : ∀ x ∈ p, x ∉ q := fun x hx hq => (List.nodup_append.1 hnd).2.2 x (List.mem_append_right _ hx) x hq rfl
   have spotOf : ∀ {a : Addr} {s : ByteArray}, w.cell? a = some (.string s) → a.spot = none := by
     intro a s h
     obtain ⟨b, off, spot⟩ := a
     unfold World.cell? at h
     split at h
     · cases spot with
       | none => rfl
       | some s => simp at h
     · cases h
   by_cases he : ∃ text g, (n0, d) = (n0, errD nm text) ∧ P.globalNamed n0 = some g ∧ (P.globals[g]?).map (·.type) = some ti
   · obtain ⟨text, g, e, hg, hgt⟩ := he
     cases e
     obtain rfl := Option.some.inj (hg.symm.trans h1)
     obtain rfl := Option.some.inj (hgt.symm.trans h2)
     obtain ⟨ms, hi⟩ := hT.iface
     obtain ⟨f, hte, hft, hfo⟩ := hT.str
     obtain ⟨l⟩ := cs
     have ok : ∀ u v, l = [.iface u v] → Value.okWide P w .any 0 u v := fun u v e => by
       subst e
       exact (hrows g 0 (by simp [MemPlace.row])).2 u v (by simpa using World.var?_cell h1 h3 0)
     obtain ⟨a, s, rfl, hc, hs, _, hp⟩ := errorString_of_trod hi hT.name hT.ptr hte hft hfo hT.text hT.size hT.size1 h4 ok
     have hap : MemPlace.cell a.block a.off ∈ p := by rw [hp]; simp [MemPlace.row]
     refine ⟨fun k => match k with | 0 => some a | k + 1 => A k, fun k n text' g' hk hg' hgt' => ?_, fun k a' hk => ?_, fun k l a' hk hl' => ?_⟩
     · match k with
       | 0 =>
         simp at hk
         obtain ⟨rfl, rfl⟩ := hk
         obtain rfl := Option.some.inj (hg'.symm.trans h1)
         exact ⟨a, s, rfl, by simpa using World.var?_cell h1 h3 0, hc, hs⟩
       | k + 1 => exact i1 k n text' g' (by simpa using hk) hg' hgt'
     · match k with
       | 0 =>
         cases hk
         exact ⟨by simp [hap], spotOf hc⟩
       | k + 1 =>
         obtain ⟨j1, j2⟩ := i2 k a' hk
         exact ⟨by simp [j1], j2⟩
     · match k, l with
       | 0, 0 => rfl
       | 0, l + 1 =>
         cases hk
         exact absurd (i2 l _ hl').1 (hdis _ hap)
       | k + 1, 0 =>
         cases hl'
         exact absurd (i2 k _ hk).1 (hdis _ hap)
       | k + 1, l + 1 => rw [i3 k l a' hk hl']
   · refine ⟨fun k => match k with | 0 => none | k + 1 => A k, fun k n text' g' hk hg' hgt' => ?_, fun k a' hk => ?_, fun k l a' hk hl' => ?_⟩
     · match k with
       | 0 =>
         simp at hk
         obtain ⟨rfl, rfl⟩ := hk
         exact absurd ⟨text', g', rfl, hg', hgt'⟩ he
       | k + 1 => exact i1 k n text' g' (by simpa using hk) hg' hgt'
     · match k with
       | 0 => cases hk
       | k + 1 =>
         obtain ⟨j1, j2⟩ := i2 k a' hk
         exact ⟨by simp [j1], j2⟩
     · match k, l with
       | 0, _ => cases hk
       | k + 1, 0 => cases hl'
       | k + 1, l + 1 => rw [i3 k l a' hk hl']
theorem nodup_of_A {A : Nat → Option Addr} (hinj : ∀ k l a, A k = some a → A l = some a → k = l) : ∀ (ix : List Nat) (as : List Addr), ix.Nodup → ix.map A = as.map some → as.Nodup
 | [], [], _, _ => List.nodup_nil
 | [], _ :: _, _, h => by simp at h
 | _ :: _, [], _, h => by simp at h
 | i :: ix, a :: as, hn, h => by
   simp only [List.map_cons, List.cons.injEq] at h
   rw [List.nodup_cons] at hn ⊢
   refine ⟨fun ha => ?_, nodup_of_A hinj ix as hn.2 h.2⟩
   have : some a ∈ ix.map A := by rw [h.2]; exact List.mem_map.2 ⟨a, ha, rfl⟩
   obtain ⟨j, hj, e⟩ := List.mem_map.1 this
   exact hn.1 (hinj i j a h.1 e ▸ hj)
abbrev errV (tp : TypeId) (k : Nat) (s : ByteArray) : AV := .iface tp (.ptr (.fp k [.str s]))
def globE (tp : TypeId) : List (Nat × ByteArray) → Nat → Nat → Option AV
 | [], _, _ => none
 | (x, s) :: l, n, g => bif Nat.beq x g then some (.ptr (.fp 0 [errV tp (n + 1) s])) else globE tp l (n + 1) g
theorem globE_at {tp : TypeId} : ∀ {l : List (Nat × ByteArray)} {n g : Nat} {v : AV}, globE tp l n g = some v → ∃ (j : Nat) (s : ByteArray), l[j]? = some (g, s) ∧ v = .ptr (.fp 0 [errV tp (n + j + 1) s])
 | [], n, g, v, h => by simp [globE] at h
 | (x, s) :: l, n, g, v, h => by
   simp only [globE] at h
   rw [Bool.cond_eq_ite] at h
   split at h
   · rename_i e
     rw [nbeq] at e
     subst e
     cases h
     exact ⟨0, s, rfl, rfl⟩
   · obtain ⟨j, s', h1, h2⟩ := globE_at h
     exact ⟨j + 1, s', by simpa using h1, by rw [h2, show n + 1 + j + 1 = n + (j + 1) + 1 by omega]⟩
def tokOf (as : List Addr) (k : Nat) : Option Addr := if k = 0 then none else as[k - 1]?
theorem cell_block {w : World} {a : Addr} {x : Value} (h : w.cell? a = some x) : ∃ arr, World.cellsOf w a.block = some arr ∧ a.spot = none ∧ arr[a.off]? = some x := by
 obtain ⟨b, off, spot⟩ := a
 unfold World.cell? at h
 split at h
 · rename_i c e fz hb
   cases spot with
   | none => exact ⟨c, by simp [World.cellsOf, hb], rfl, by simpa using h⟩
   | some s => simp at h
 · cases h
theorem start_cell {w : World} {tok : Nat → Option Addr} {a : Addr} {x : Value} {v : AV} {k : Nat} (h : w.cell? a = some x) (hv : VRel (Mu.start w tok) v x) (ho : x.oneCell' = true) (hk : k ≠ 0 → tok k = some a) : VRel (Mu.start w tok) (.ptr (.fp k [v])) (.pointer (some a)) := by
 obtain ⟨arr, h1, h2, h3⟩ := cell_block h
 have hlt := (Array.getElem?_eq_some_iff.1 h3).1
 refine .fp (arr := arr) h1 h2 (fun _ => by simp; omega) (fun i c d hc hd => ?_) (fun i d hi hd => ?_) hk
 · match i with
   | 0 =>
     simp at hc
     subst hc
     rw [Nat.add_zero, h3] at hd
     cases hd
     exact hv
   | i + 1 => simp at hc
 · have : i = 0 := by simpa using hi
   subst this
   rw [Nat.add_zero, h3] at hd
   cases hd
   exact ho
theorem err_start {w : World} {B : Nat} {tp : TypeId} (E : List (Nat × Addr × ByteArray)) (hB : B ≤ w.heap.size) (hE : ∀ e ∈ E, w.cell? ⟨e.1, 0, none⟩ = some (.iface tp (.pointer (some e.2.1))) ∧ w.cell? e.2.1 = some (.string e.2.2) ∧ ∃ c t, w.heap[e.2.1.block]? = some (.cells c t (0, 0)))
   (hnd : (E.map (·.2.1)).Nodup) : HRel (Mu.start w (tokOf (E.map (·.2.1)))) B AH.none w ∧ ∀ g v, globE tp (E.map fun e => ((e.1, e.2.2) : Nat × ByteArray)) 0 g = some v → v.closed = true ∧ VRel (Mu.start w (tokOf (E.map (·.2.1)))) v (.pointer (some ⟨g, 0, none⟩)) := by
 have tokAt : ∀ k a, tokOf (E.map (·.2.1)) k = some a → k ≠ 0 ∧ ∃ e, E[k - 1]? = some e ∧ e.2.1 = a := by
   intro k a hk
   unfold tokOf at hk
   split at hk
   · cases hk
   · rename_i h0
     rw [List.getElem?_map] at hk
     cases he : E[k - 1]? with
     | none => rw [he] at hk; cases hk
     | some e => rw [he] at hk; cases hk; exact ⟨h0, e, rfl, rfl⟩
 refine ⟨HRel.start hB (fun k a hk => ?_) (fun k l a hk hl => ?_), fun g v hg => ?_⟩
 · obtain ⟨_, e, he, rfl⟩ := tokAt k a hk
   exact (hE e (List.mem_of_getElem? he)).2.2
 · obtain ⟨h0, e, he, e1⟩ := tokAt k a hk
   obtain ⟨h0', e', he', e2⟩ := tokAt l a hl
   have h1 : (E.map (·.2.1))[k - 1]? = some a := by rw [List.getElem?_map, he]; simp [e1]
   have h2 : (E.map (·.2.1))[l - 1]? = some a := by rw [List.getElem?_map, he']; simp [e2]
   have := (List.getElem?_inj (List.getElem?_eq_some_iff.1 h1).1 hnd).1 (h1.trans h2.symm)
   omega
 · obtain ⟨j, s, h1, rfl⟩ := globE_at hg
   rw [List.getElem?_map] at h1
   cases he : E[j]? with
   | none => rw [he] at h1; cases h1
   | some e =>
     rw [he] at h1
     simp only [Option.map_some, Option.some.injEq, Prod.mk.injEq] at h1
     obtain ⟨rfl, rfl⟩ := h1
     obtain ⟨c1, c2, _⟩ := hE e (List.mem_of_getElem? he)
     refine ⟨rfl, start_cell c1 (.iface (start_cell c2 .str rfl fun _ => ?_)) rfl fun h => absurd rfl h⟩
     simp only [tokOf, Nat.zero_add]
     rw [if_neg (by omega), List.getElem?_map, show j + 1 - 1 = j by omega, he]
     rfl
theorem start_laid {P : Program} {w : World} {ti tp te ts : TypeId} {nm : String} {laid : List (String × DataW Unit)} (hT : ErrTypes P ti tp te ts nm) (hL : laidMet P laid w) (ix : List (Nat × Nat × ByteArray))
   (hix : ∀ e ∈ ix, ∃ n, laid[e.2.1]? = some (n, errD nm e.2.2.data.toList) ∧ P.globalNamed n = some e.1 ∧ (P.globals[e.1]?).map (·.type) = some ti) (hnd : (ix.map (·.2.1)).Nodup) :
   ∃ tok, HRel (Mu.start w tok) w.heap.size AH.none w ∧ ∀ g v, globE tp (ix.map fun e => (e.1, e.2.2)) 0 g = some v → v.closed = true ∧ VRel (Mu.start w tok) v (.pointer (some ⟨g, 0, none⟩)) := by
 obtain ⟨ps, hl, hpn, hrows⟩ := hL
 obtain ⟨A, i1, i2, i3⟩ := laid_errs hT hl hpn hrows
 have got : ∀ e ∈ ix, ∃ a, A e.2.1 = some a ∧ w.cell? ⟨e.1, 0, none⟩ = some (.iface tp (.pointer (some a))) ∧ w.cell? a = some (.string e.2.2) ∧ ∃ c t, w.heap[a.block]? = some (.cells c t (0, 0)) := by
   intro e he
   obtain ⟨n, h1, h2, h3⟩ := hix e he
   obtain ⟨a, s, j1, j2, j3, j4⟩ := i1 _ _ _ _ h1 h2 h3
   have es : s = e.2.2 := by
     have : s.data = e.2.2.data := Array.toList_inj.1 j4
     cases s; cases h9 : e.2.2; rw [h9] at this; simp at this; rw [this]
   subst es
   exact ⟨a, j1, j2, j3, (hrows _ _ (i2 _ _ j1).1).1⟩
 have key : ∃ E : List (Nat × Addr × ByteArray), E.map (fun e => (e.1, e.2.2)) = ix.map (fun e => (e.1, e.2.2)) ∧ ix.map (fun e => A e.2.1) = E.map (fun e => some e.2.1) ∧
     ∀ e ∈ E, w.cell? ⟨e.1, 0, none⟩ = some (.iface tp (.pointer (some e.2.1))) ∧ w.cell? e.2.1 = some (.string e.2.2) ∧ ∃ c t, w.heap[e.2.1.block]? = some (.cells c t (0, 0)) := by
   clear hnd hix
   induction ix with
   | nil => exact ⟨[], rfl, rfl, fun e h => by cases h⟩
   | cons x ix ih =>
     obtain ⟨E, e1, e2, e3⟩ := ih fun e he => got e (List.mem_cons_of_mem _ he)
     obtain ⟨a, j1, j2, j3, j4⟩ := got x (List.mem_cons_self ..)
     refine ⟨(x.1, a, x.2.2) :: E, by simp [e1], by simp [e2, j1], fun e he => ?_⟩
     rcases List.mem_cons.1 he with rfl | he
     · exact ⟨j2, j3, j4⟩
     · exact e3 e he
 obtain ⟨E, e1, e2, e3⟩ := key
 have hndE : (E.map (·.2.1)).Nodup := nodup_of_A i3 (ix.map (·.2.1)) _ hnd (by simpa [Function.comp_def] using e2)
 obtain ⟨h1, h2⟩ := err_start E (Nat.le_refl _) e3 hndE
 exact ⟨_, h1, by rw [← e1]; exact h2⟩
theorem laid_at {P : Program} {w : World} : ∀ {laid : List (String × DataW Unit)} {ps : List MemPlace} {k : Nat} {n : String} {d : DataW Unit}, DataW.LaidVars P w laid ps → laid[k]? = some (n, d) →
   ∃ g t cs fuel p, P.globalNamed n = some g ∧ (P.globals[g]?).map (·.type) = some t ∧ w.var? P n = some cs ∧ DataW.trod (fun _ => ()) P w 0 (fun _ => true) false fuel t cs.toList = some (d, p)
 | [], _, k, _, _, _, hk => by simp at hk
 | (n0, d0) :: r, _, 0, n, d, h, hk => by
   obtain ⟨g, t, cs, fuel, p, q, h1, h2, h3, h4, _, _⟩ := h
   simp at hk
   obtain ⟨rfl, rfl⟩ := hk
   exact ⟨g, t, cs, fuel, p, h1, h2, h3, h4⟩
 | (n0, d0) :: r, _, k + 1, n, d, h, hk => by
   obtain ⟨_, _, _, _, _, q, _, _, _, _, h5, _⟩ := h
   exact laid_at h5 (by simpa using hk)
theorem tab_start {P : Program} {w : World} {tok : Nat → Option Addr} {laid : List (String × DataW Unit)} {k g t e N : Nat} {n : String} {kd : IntKind} {xs : List Int} (hL : laidMet P laid w)
   (hk : laid[k]? = some (n, .agg (xs.map fun x => .lit (.int kd x)))) (hg : P.globalNamed n = some g) (ht : (P.globals[g]?).map (·.type) = some t) (hu : P.underlying t = some (.array N e)) (he : P.underlying e = some (.int kd)) (hc : P.cellsOf e = 1) (hct : P.cellsOf t = xs.length) :
   VRel (Mu.start w tok) (.ptr (.fp 0 (xs.map (AV.int kd)))) (.pointer (some ⟨g, 0, none⟩)) := by
 obtain ⟨ps, hl, _, _⟩ := hL
 obtain ⟨g', t', cs, fuel, p, h1, h2, h3, h4⟩ := laid_at hl hk
 obtain rfl := Option.some.inj (hg.symm.trans h1)
 obtain rfl := Option.some.inj (ht.symm.trans h2)
 obtain ⟨ys, m, rfl, hx, hlen, hyl, hall⟩ := DataW.trod_array hu h4
 simp only [Prod.mk.injEq, DataW.agg.injEq] at hx
 have hcs : cs.size = xs.length := by rw [← hct, ← hlen]; simp
 have hyx : ys.length = xs.length := by
   have := congrArg List.length hx.1
   simpa using this.symm
 have hblk : World.cellsOf w g = some cs := by
   simp only [World.var?, hg, o_bd] at h3
   split at h3
   · rename_i c a b hb
     cases h3
     simp [World.cellsOf, hb]
   · cases h3
 have key : ∀ (i : Nat) (x : Int), xs[i]? = some x → cs[i]? = some (Value.int kd x) := by
   intro i x hi
   have hlt := (List.getElem?_eq_some_iff.1 hi).1
   have h5 := hall i (by omega)
   rw [hc, Nat.mul_one, List.getElem?_eq_getElem (by omega)] at h5
   obtain ⟨v, hv, hv2, _⟩ := DataW.trod_int he h5
   have h6 : (cs.toList.drop i).take 1 = [cs[i]'(by omega)] := by
     rw [List.drop_eq_getElem_cons (by simp; omega)]
     simp
   rw [h6] at hv
   have h7 : (xs.map fun x => (DataW.lit (.int kd x) : DataW Unit))[i]? = (ys.map (·.1))[i]? := by rw [hx.1]
   rw [List.getElem?_map, hi, List.getElem?_map, List.getElem?_eq_getElem (by omega), hv2] at h7
   simp at h7
   rw [Array.getElem?_eq_getElem (by omega)]
   simp at hv
   rw [hv, h7]
 refine .fp (arr := cs) hblk rfl (fun _ => by simp; omega) (fun i c d hi hd => ?_) (fun i d hi hd => ?_) fun h => absurd rfl h
 · rw [List.getElem?_map] at hi
   cases hx' : xs[i]? with
   | none => rw [hx'] at hi; cases hi
   | some x =>
     rw [hx'] at hi
     cases hi
     rw [Nat.zero_add, key i x hx'] at hd
     cases hd
     exact .int
 · simp at hi
   rw [Nat.zero_add, key i xs[i] (List.getElem?_eq_getElem hi)] at hd
   cases hd
   rfl
end Go.Proofs.YtjagkijfngokaaaGreatDoor
