/-
 Operations on memory do in the model what the abstract machine says.
-/
import Derived.Test.YtjagkijfngokaaaGreatDoorBm4
namespace Go.Proofs.YtjagkijfngokaaaGreatDoor
open Go.RowKit
section
variable {P : Program} {C : Ctx} {B : Nat} {q : Bool} {h : AH} {μ : Mu} {w : World} {v : AV}
theorem chk1_inv {β : Type} {t : ATy} {v : AV} {k : AV → Option β} {r : β} (h : chk1 t v k = some r) : k v = some r := by
 unfold chk1 at h
 split at h
 · cases v <;> simp [AV.bool?] at h; exact h
 · cases v <;> simp only [AV.int?, Option.bind_none] at h <;> (try (cases h; done))
   rename_i k1 k2 n
   rw [Bool.cond_decide] at h
   split at h
   · rename_i e; subst e; simpa using h
   · cases h
 · cases v <;> simp [AV.str?] at h; exact h
 · cases v <;> simp [AV.ptr?] at h; exact h
 · cases v <;> simp [AV.slice?] at h; exact h
 · cases v <;> simp [AV.map?] at h; exact h
 · cases v <;> simp [AV.agg?] at h; exact h
 · exact h
theorem VRel.cells {v : AV} {x : Value} (hv : VRel μ v x) (hc : v.cells.all AV.isCell = true) : CRel1 μ v.cells x.cells.toList := by
 have one : ∀ {a : AV} {y : Value}, VRel μ a y → a.isCell = true → y.oneCell' = true := by
   intro a y h hc
   cases h <;> first | rfl | (simp [AV.isCell] at hc)
 by_cases ha : ∃ cs, v = .agg cs
 · obtain ⟨cs, rfl⟩ := ha
   cases hv with
   | @agg _ ds hs hh =>
     simp only [AV.cells] at hc ⊢
     refine ⟨⟨by simpa [Value.cells] using hs, fun i c d h1 h2 => hh i c d h1 (by simpa [Value.cells] using h2)⟩, fun d hd => ?_⟩
     obtain ⟨i, hi⟩ := List.getElem?_of_mem hd
     have hlt : i < cs.length := by
       have := (List.getElem?_eq_some_iff.1 hi).1
       simp [Value.cells] at this
       omega
     have := hh i cs[i] d (List.getElem?_eq_getElem hlt) (by simpa [Value.cells] using hi)
     exact one this (List.all_eq_true.1 hc _ (List.getElem_mem hlt))
 · have e1 : v.cells = [v] := by
     cases v <;> first | rfl | exact absurd ⟨_, rfl⟩ ha
   rw [e1] at hc ⊢
   simp at hc
   have ho := one hv hc
   have e2 : x.cells = #[x] := by
     cases x <;> first | rfl | (simp [Value.oneCell'] at ho)
   rw [e2]
   refine ⟨⟨rfl, fun i c d h1 h2 => ?_⟩, by simpa using ho⟩
   cases i with
   | zero => simp at h1 h2; subst h1; subst h2; exact hv
   | succ i => simp at h1
theorem run_load1 (hT : TypesOk P C) {t : TypeId} {i : TInfo} (hi : C.info t = some i) (ho : i.ty.isOne = true) {a : Addr} {x : Value} (hc : w.cell? a = some x) :
   (Instr.loadAt t (.pointer (some a))).run P w = .ok x w := by
 obtain ⟨hp, ha⟩ := ATy.isOne_plain ho
 have h1 := hT.isAgg hi hp w
 rw [ha] at h1
 simp [Instr.loadAt, Instr.sureAddr, loadVar, h1, load, Sem.run, hc]
theorem run_loadN (hT : TypesOk P C) {t : TypeId} {i : TInfo} (hi : C.info t = some i) (ha : i.ty.isAgg = true) {a : Addr} {ds : List Value} (hl : ds.length = i.size)
   (hc : ∀ (j : Nat) x, ds[j]? = some x → w.cell? (a.add j) = some x) : (Instr.loadAt t (.pointer (some a))).run P w = .ok (.agg ds.toArray) w := by
 have hp : i.ty.plain = true := by rw [ATy.isAgg_eq ha]; rfl
 have h1 := hT.isAgg hi hp w
 rw [ha] at h1
 have h2 := hT.size hi hp w
 have h3 := run_loadCells_list (P := P) w a ds hc
 rw [hl] at h3
 simp [Instr.loadAt, Instr.sureAddr, loadVar, h1, h2, h3]
theorem below_cell {w w' : World} (hb : Below w.heap.size w w') {a : Addr} {x : Value} (h : w.cell? a = some x) : w'.cell? a = some x := by
 have hlt : a.block < w.heap.size := by
   unfold World.cell? at h
   split at h <;> first | (rename_i h2; exact (Array.getElem?_eq_some_iff.1 h2).1) | cases h
 rw [hb.cell hlt, h]
theorem load_still (hT : TypesOk P C) {β : Type} {t : TypeId} {p : Pt} {k : K β} {r : β} (hk : aload C t p h k = some r) :
   ∃ v, k v h = some r ∧ ∀ (μ : Mu) (w : World) (a : Value), HRel μ B h w → VRel μ (.ptr p) a → ∃ x, (∀ w', Below w.heap.size w w' → (Instr.loadAt t a).run P w' = .ok x w') ∧ VRel μ v x := by
 unfold aload at hk
 split at hk
 · cases hk
 · rename_i i hi
   rw [Bool.cond_eq_ite] at hk
   split at hk
   · rename_i ha
     cases hc : h.cellsAt i.size p with
     | none => rw [hc] at hk; cases hk
     | some cs =>
       rw [hc] at hk
       refine ⟨.agg cs, hk, fun μ w a hr hv => ?_⟩
       cases hv with
       | nilptr => simp [AH.cellsAt] at hc
       | @fp kk cs2 ad arr hf hs hfit hh h1 hkk =>
         simp only [AH.cellsAt, Bool.cond_eq_ite] at hc
         split at hc
         case isFalse => cases hc
         rename_i hle
         rw [nble] at hle
         cases hc
         obtain ⟨ds, hd1, hd2, hd3⟩ := hr.fz.list hf hs (cs := cs2.take i.size) (fun hne => by have := hfit (by rintro rfl; simp at hne); simp; omega) (fun j c d hc hd => hh j c d (by
           rw [List.getElem?_take] at hc
           split at hc
           · exact hc
           · cases hc) hd) (fun j d hj hd => h1 j d (by simp at hj; omega) hd)
         exact ⟨_, fun w' hb => run_loadN hT hi ha (by rw [hd2]; simp; omega) fun j x hj => below_cell hb (hd3 j x hj), .agg (by simpa using hd1.1.1) fun j c d hc hd => hd1.1.2 j c d hc (by simpa using hd)⟩
       | @ptr rr lim ii gi h1 h2 h3 h4 =>
         simp only [AH.cellsAt] at hc
         rw [Bool.cond_eq_ite] at hc
         split at hc
         · rename_i hle
           rw [nble] at hle
           obtain ⟨ds, hd1, hd2, hd3⟩ := hr.span h1 h2 h3 (by omega) hc
           exact ⟨_, fun w' hb => run_loadN hT hi ha hd2 fun j x hj => below_cell hb (hd3 j x hj), .agg (by simpa using hd1.1.1) fun j c d hc hd => hd1.1.2 j c d hc (by simpa using hd)⟩
         · cases hc
   · rw [Bool.cond_eq_ite] at hk
     split at hk
     · rename_i _ ho
       cases hc : h.cell p with
       | none => rw [hc] at hk; cases hk
       | some u =>
         rw [hc, o_bd] at hk
         refine ⟨u, chk1_inv hk, fun μ w a hr hv => ?_⟩
         obtain ⟨ad, x, rfl, _, hx, hxr, _⟩ := hr.cell hv hc
         exact ⟨x, fun w' hb => run_load1 hT hi ho (below_cell hb hx), hxr⟩
     · cases hk
theorem load_ok (hT : TypesOk P C) {β : Type} {t : TypeId} {p : Pt} {k : K β} {r : β} (hk : aload C t p h k = some r) :
   ∃ v, k v h = some r ∧ ∀ (μ : Mu) (w : World) (a : Value), HRel μ B h w → VRel μ (.ptr p) a → ∃ x, (Instr.loadAt t a).run P w = .ok x w ∧ VRel μ v x := by
 obtain ⟨v, h1, h2⟩ := load_still (B := B) hT hk
 exact ⟨v, h1, fun μ w a hr hv => let ⟨x, h3, h4⟩ := h2 μ w a hr hv; ⟨x, h3 w (Below.refl _ _), h4⟩⟩
theorem run_storeCells_fz (g o : Nat) (t : TypeId) (fz : Nat × Nat) : ∀ (vs : List Value) (i : Nat) (cur : Array Value) (w : World), w.heap[g]? = some (.cells cur t fz) → (∀ o, o < cur.size → ¬ (fz.1 ≤ o ∧ o < fz.2)) →
   o + i + vs.length ≤ cur.size → (∀ v ∈ vs, v.oneCell' = true) →
   (storeCells ⟨g, o, none⟩ vs i).run P w = .ok () (w.setRow g (cur.toList.take (o + i) ++ vs ++ cur.toList.drop (o + i + vs.length)).toArray)
 | [], i, cur, w, hg, _, _, _ => by
   simp only [storeCells, List.append_nil, List.length_nil, Nat.add_zero, List.take_append_drop, Array.toArray_toList]
   rw [setRow_self w g cur t fz hg]
   rfl
 | v :: rest, i, cur, w, hg, hfz, hl, h1 => by
   have hi : o + i < cur.size := by simp at hl; omega
   have hadd : (⟨g, o, none⟩ : Addr).add i = ⟨g, o + i, none⟩ := Addr.add_lit ..
   have hcell : w.cell? ⟨g, o + i, none⟩ = some cur[o + i] := by simp [World.cell?, hg, hi]
   have hfro : w.frozen? ⟨g, o + i, none⟩ = false := by
     have := hfz (o + i) hi
     simp only [World.frozen?, hg]
     simp only [Bool.and_eq_false_iff, decide_eq_false_iff_not]
     omega
   have hst : (store ((⟨g, o, none⟩ : Addr).add i) v).run P w = .ok () (w.setRow g (cur.setIfInBounds (o + i) v)) := by
     rw [hadd, run_store P w _ v _ (h1 v (by simp)), hcell]
     simp [hfro, setCell_eq_setRow w g (o + i) cur t fz v hg]
   have ih := run_storeCells_fz g o t fz rest (i + 1) (cur.setIfInBounds (o + i) v) (w.setRow g (cur.setIfInBounds (o + i) v)) (setRow_heap w g cur _ t _ hg) (by simpa using hfz) (by simp at hl ⊢; omega) (fun x hx => h1 x (by simp [hx]))
   simp only [storeCells, Sem.run_bind, hst, Result.andThen_ok, ih, setRow_setRow]
   congr 3
   have e := list_seg_step cur.toList (o + i) v rest (by simp at hl ⊢; omega)
   simpa [Array.toList_setIfInBounds, Nat.add_assoc] using e
theorem below_setRow {B g : Nat} (hg : B ≤ g) (cs : Array Value) : Below B w (w.setRow g cs) :=
 ⟨rfl, rfl, rfl, by simp, fun k hk => setRow_heap_other _ _ _ _ (by omega)⟩
theorem HRel.storeCells {h' : AH} (hr : HRel μ B h w) {r : Ref} {ii gi} (hi : μ.rows[r.id]? = some ii) (hg : ii.gens[r.gen]? = some gi) (hlo : gi.lo ≤ r.off) {vs : List AV} {ds : List Value} (hc : CRel1 μ vs ds)
   (hs : h.store r vs = some h') : ∃ w', (storeCells (gi.spot r.off) ds).run P w = .ok () w' ∧ HRel μ B h' w' ∧ Below B w w' := by
 unfold AH.store at hs
 split at hs
 · rename_i row hrow
   rw [Bool.cond_eq_ite] at hs
   split at hs
   · rename_i hcond
     simp only [Bool.and_eq_true, Bool.not_eq_true', nbeq, nble] at hcond
     obtain ⟨⟨hro, hgen⟩, hlen⟩ := hcond
     simp at hs
     subst hs
     rw [hgen] at hg
     have hR := hr.row _ ii row hi hrow
     have hG := hR.gen _ gi hg
     obtain ⟨c, e, fz, h1, h2, _, h3, _⟩ := hG.block
     have hext := hR.cur gi hg
     have hfits := hG.fits
     have hl := hc.1.1
     refine ⟨_, run_storeCells_fz gi.block (gi.off + (r.off - gi.lo)) e fz ds 0 c w h1 (by rw [h2]; exact fun o ho => (h3 hro).2.not ho) (by omega) hc.2, ?_, below_setRow (h3 hro).1 _⟩
     simpa using hr.store hi hrow hg hro h1 hlo hlen hc
   · cases hs
 · cases hs
theorem store_ok (hT : TypesOk P C) {β : Type} {t : TypeId} {i : TInfo} (hi : C.info t = some i) (hp : i.ty.plain = true) {p : Pt} {v : AV} {k : AH → Option β} {r : β}
   (hk : (bif !q && Nat.beq v.cells.length i.size && v.cells.all AV.isCell then (h.storeAt v.cells p).bind k else none) = some r) :
   ∃ h', k h' = some r ∧ q = false ∧ ∀ (μ : Mu) (w : World) (a x : Value), HRel μ B h w → VRel μ (.ptr p) a → VRel μ v x → ∃ w', (Instr.storeAt t a x).run P w = .ok () w' ∧ HRel μ B h' w' ∧ Below B w w' := by
 rw [Bool.cond_eq_ite] at hk
 split at hk
 · rename_i hc
   simp only [Bool.and_eq_true, Bool.not_eq_true', nbeq] at hc
   obtain ⟨⟨hq, hl⟩, hcell⟩ := hc
   cases hs : h.storeAt v.cells p with
   | none => rw [hs] at hk; cases hk
   | some h' =>
     rw [hs] at hk
     refine ⟨h', hk, hq, fun μ w a x hr ha hx => ?_⟩
     have hcr := hx.cells hcell
     cases ha with
     | nilptr => simp [AH.storeAt] at hs
     | fp => simp [AH.storeAt] at hs
     | @ptr rr lim ii gi h1 h2 h3 h4 =>
       simp only [AH.storeAt] at hs
       rw [Bool.cond_eq_ite] at hs
       split at hs
       · obtain ⟨w', hrun, hr', hb⟩ := hr.storeCells (P := P) h1 h2 h3 hcr hs
         refine ⟨w', ?_, hr', hb⟩
         have hsz := hT.size hi hp w
         have hn : x.cells.size = i.size := by
           have := hcr.1.1
           simp at this
           omega
         simp [Instr.storeAt, Instr.sureAddr, storeVar, hsz, hn, hrun]
       · cases hs
 · cases hk
end
end Go.Proofs.YtjagkijfngokaaaGreatDoor
