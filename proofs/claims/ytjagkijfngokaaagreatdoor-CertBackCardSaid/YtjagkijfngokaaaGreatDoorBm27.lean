/-
 Maps whose keys are integers: in the model as the abstract machine says.
-/
import Derived.Test.YtjagkijfngokaaaGreatDoorBm9
import Derived.MapKept
namespace Go.Proofs.YtjagkijfngokaaaGreatDoor
open Go.RowKit
section
variable {P : Program} {C : Ctx} {B : Nat} {q : Bool} {h : AH} {μ : Mu} {w : World} {v : AV}
theorem checkKey_int {kt : TypeId} {kd kd' : IntKind} (hk : P.underlying kt = some (.int kd)) (b : Bool) (n : Int) (w : World) : (Instr.checkKey b 10000 kt (.int kd' n)).run P w = .ok () w := by
 rw [show (10000 : Nat) = 9999 + 1 from rfl, Instr.checkKey]
 simp only [Sem.run_bind, run_underlying hk, Result.andThen_ok]
 rfl
theorem keyEq_int {kd : IntKind} {n : Int} {k' : AV} {t : Bool} (h : (AV.int kd n).keyEq k' = some t) : ∃ m, k' = .int kd m ∧ t = decide (n = m) := by
 cases k' <;> simp only [AV.keyEq] at h <;> try cases h
 rename_i kd' m
 by_cases e : kd = kd'
 · subst e
   simp at h
   exact ⟨m, rfl, h.symm⟩
 · rw [decide_eq_false e] at h
   cases h
theorem sameNow_int (ki kd : IntKind) (n m : Int) : Instr.sameNow (.int ki) (.int kd n) (.int kd m) = some (n == m) := by simp [Instr.sameNow]
theorem find_rel (ki kd : IntKind) (n : Int) : ∀ {es : List (AV × AV)} {ds : List MapEntry} {r : Option AV}, MRel μ es ds → mfind (.int kd n) es = some r → ∀ j : Nat,
   (r = none ∧ Instr.findNow (.int ki) (.int kd n) ds j = some none) ∨ ∃ v p d, r = some v ∧ ds[p]? = some d ∧ Instr.findNow (.int ki) (.int kd n) ds j = some (some (j + p, d.val)) ∧ VRel μ v d.val
 | [], ds, r, hm, hf, j => by
   have : ds = [] := List.eq_nil_of_length_eq_zero hm.1.symm
   subst this
   simp [mfind] at hf
   exact .inl ⟨hf.symm, rfl⟩
 | (k', v) :: es, [], r, hm, hf, j => by simp [MRel] at hm
 | (k', v) :: es, d :: ds, r, hm, hf, j => by
   simp only [mfind] at hf
   cases hk : (AV.int kd n).keyEq k' with
   | none => rw [hk] at hf; cases hf
   | some t =>
     rw [hk, o_bd] at hf
     obtain ⟨m, rfl, rfl⟩ := keyEq_int hk
     have h0 := hm.2 0 _ _ rfl rfl
     have hkey := h0.1.int_inv
     simp only [Instr.findNow, hkey, sameNow_int]
     by_cases e : n = m
     · subst e
       simp at hf
       subst hf
       right
       exact ⟨v, 0, d, rfl, rfl, by simp, h0.2⟩
     · rw [decide_eq_false e] at hf
       rw [beq_false_of_ne e]
       have hm' : MRel μ es ds := ⟨by simpa using hm.1, fun i a b ha hb => hm.2 (i + 1) a b (by simpa using ha) (by simpa using hb)⟩
       rcases find_rel ki kd n hm' hf (j + 1) with ⟨h1, h2⟩ | ⟨u, p, d', h1, h2, h3, h4⟩
       · exact .inl ⟨h1, h2⟩
       · exact .inr ⟨u, p + 1, d', h1, by simpa using h2, by rw [show j + (p + 1) = j + 1 + p by omega]; exact h3, h4⟩
theorem set_rel (ki kd : IntKind) (n : Int) (v : AV) : ∀ {es es' : List (AV × AV)} {ds : List MapEntry}, MRel μ es ds → mset (.int kd n) v es = some es' → ∀ j : Nat,
   (es' = es ++ [(.int kd n, v)] ∧ Instr.findNow (.int ki) (.int kd n) ds j = some none) ∨
   ∃ p d, ds[p]? = some d ∧ d.key = .int kd n ∧ Instr.findNow (.int ki) (.int kd n) ds j = some (some (j + p, d.val)) ∧ es' = es.set p (.int kd n, v)
 | [], es', ds, hm, hf, j => by
   have : ds = [] := List.eq_nil_of_length_eq_zero hm.1.symm
   subst this
   simp [mset] at hf
   exact .inl ⟨hf.symm, rfl⟩
 | (k', u) :: es, es', [], hm, hf, j => by simp [MRel] at hm
 | (k', u) :: es, es', d :: ds, hm, hf, j => by
   simp only [mset] at hf
   cases hk : (AV.int kd n).keyEq k' with
   | none => rw [hk] at hf; cases hf
   | some t =>
     rw [hk, o_bd] at hf
     obtain ⟨m, rfl, rfl⟩ := keyEq_int hk
     have h0 := hm.2 0 _ _ rfl rfl
     have hkey := h0.1.int_inv
     simp only [Instr.findNow, hkey, sameNow_int]
     by_cases e : n = m
     · subst e
       simp at hf
       subst hf
       exact .inr ⟨0, d, rfl, hkey, by simp, rfl⟩
     · rw [decide_eq_false e] at hf
       rw [beq_false_of_ne e]
       have hm' : MRel μ es ds := ⟨by simpa using hm.1, fun i a b ha hb => hm.2 (i + 1) a b (by simpa using ha) (by simpa using hb)⟩
       cases hs : mset (.int kd n) v es with
       | none => rw [hs] at hf; cases hf
       | some es2 =>
         rw [hs] at hf
         simp at hf
         subst hf
         rcases set_rel ki kd n v hm' hs (j + 1) with ⟨rfl, h2⟩ | ⟨p, d', h1, h2, h3, rfl⟩
         · exact .inl ⟨rfl, h2⟩
         · exact .inr ⟨p + 1, d', by simpa using h1, h2, by rw [show j + (p + 1) = j + 1 + p by omega]; exact h3, rfl⟩
theorem run_findKey {kt : TypeId} {ki : IntKind} (hk : P.underlying kt = some (.int ki)) {key : Value} {ds : List MapEntry} {r : Option (Nat × Value)} (h : Instr.findNow (.int ki) key ds 0 = some r) (w : World) :
   (Instr.findKey kt key ds).run P w = .ok r w := by
 simp [Instr.findKey, run_underlying hk, h]
theorem HRel.setMap (hr : HRel μ B h w) {m b : Nat} (hm : μ.maps[m]? = some b) {es' : List (AV × AV)} {ds' : Array MapEntry} {clock' : Nat} (hrel : MRel μ es' ds'.toList) :
   HRel μ B (h.setMap m es') { w with heap := w.heap.setIfInBounds b (.map ds' clock') } ∧ Below B w { w with heap := w.heap.setIfInBounds b (.map ds' clock') } := by
 have hlt : m < h.maps.length := by rw [← hr.mlen]; exact (List.getElem?_eq_some_iff.1 hm).1
 obtain ⟨hB, ds, clock, hb, _⟩ := hr.map m b _ hm (List.getElem?_eq_getElem hlt)
 have hbl : b < w.heap.size := (Array.getElem?_eq_some_iff.1 hb).1
 have hoth : ∀ k, k ≠ b → ({ w with heap := w.heap.setIfInBounds b (.map ds' clock') } : World).heap[k]? = w.heap[k]? := fun k hk => by
   show (w.heap.setIfInBounds b _)[k]? = _
   rw [Array.getElem?_setIfInBounds_ne (fun e => hk e.symm)]
 refine ⟨⟨by simpa using hr.base, hr.rlen, by simp [AH.setMap, hr.mlen], fun i ii row hi hrow => ?_, hr.sep, fun m' b' es hm' he => ?_, hr.msep,
   hr.fz.keep (by simp) (fun b' arr hba => hoth b' fun e => by
     obtain ⟨⟨e', fz, h1⟩, _⟩ := hr.fz.frz b' arr hba
     rw [e, hb] at h1
     cases h1) (fun b' arr hba => (hr.fz.frz b' arr hba).2) rfl rfl rfl, hr.lb, hr.roz⟩, rfl, rfl, rfl, by simp, fun k hk => hoth k (by omega)⟩
 · refine (hr.row i ii row hi hrow).of_blocks fun g gi hg => hoth _ fun e => ?_
   obtain ⟨c, e', fz, h1, _⟩ := ((hr.row i ii row hi hrow).gen g gi hg).block
   rw [e, hb] at h1
   cases h1
 · by_cases e : m' = m
   · subst e
     rw [hm] at hm'
     cases hm'
     simp only [AH.setMap, List.getElem?_set_self hlt] at he
     cases he
     exact ⟨hB, ds', clock', by show (w.heap.setIfInBounds b _)[b]? = _; simp [hbl], hrel⟩
   · simp only [AH.setMap] at he
     rw [List.getElem?_set_ne (fun x => e x.symm)] at he
     obtain ⟨k1, ds2, c2, k2, k3⟩ := hr.map m' b' es hm' he
     refine ⟨k1, ds2, c2, ?_, k3⟩
     rw [hoth b' fun x => e (hr.msep m' m b' hm' (x ▸ hm))]
     exact k2
theorem HRel.newMap (hr : HRel μ B h w) : ∃ μ' : Mu, μ.le μ' ∧ HRel μ' B h.newMap (w.alloc (.map #[] 0)) ∧ VRel μ' (.map (some h.maps.length)) (.map (some w.heap.size)) := by
 have hle : μ.le { μ with maps := μ.maps ++ [w.heap.size] } := ⟨fun i ii hi => ⟨ii, hi, rfl, fun _ _ h => h⟩, fun m b hm => (zaa _ _ _ _).2 (.inl ⟨(List.getElem?_eq_some_iff.1 hm).1, hm⟩), fun _ _ h => h, fun _ _ => rfl, rfl, rfl⟩
 have hold : ∀ m b, μ.maps[m]? = some b → b < w.heap.size := fun m b hm => by
   have hlt : m < h.maps.length := by rw [← hr.mlen]; exact (List.getElem?_eq_some_iff.1 hm).1
   obtain ⟨_, ds, clock, hb, _⟩ := hr.map m b _ hm (List.getElem?_eq_getElem hlt)
   exact (Array.getElem?_eq_some_iff.1 hb).1
 have hb := hr.below ((Below.refl w.heap.size w).alloc (Nat.le_refl _) (.map #[] 0))
 refine ⟨_, hle, ⟨hb.base, hb.rlen, by simp [AH.newMap, hr.mlen], fun i ii row hi hrow => (hb.row i ii row hi hrow).mono hle, hb.sep, fun m b es hm he => ?_, fun m n b hm hn => ?_, hb.fz.keep (Nat.le_refl _) (fun _ _ _ => rfl) (fun b arr hba => (hb.fz.frz b arr hba).2) rfl rfl rfl, hb.lb, hb.roz⟩, .map ((zaa _ _ _ _).2 (.inr ⟨hr.mlen.symm, rfl⟩))⟩
 · rcases (zaa _ _ _ _).1 hm with ⟨hlt, hm⟩ | ⟨hlt, rfl⟩
   · rcases (zaa _ _ _ _).1 he with ⟨_, he⟩ | ⟨hx, _⟩
     · obtain ⟨k1, ds, c, k2, k3⟩ := hb.map m b es hm he
       exact ⟨k1, ds, c, k2, k3.mono hle⟩
     · have := hr.mlen; omega
   · rcases (zaa _ _ _ _).1 he with ⟨hx, _⟩ | ⟨_, rfl⟩
     · have := hr.mlen; omega
     · exact ⟨hr.base, #[], 0, by show (w.heap.push _)[w.heap.size]? = _; simp, rfl, fun i e d h => by simp at h⟩
 · rcases (zaa _ _ _ _).1 hm with ⟨hlt, hm⟩ | ⟨hlt, rfl⟩ <;> rcases (zaa _ _ _ _).1 hn with ⟨hlt', hn⟩ | ⟨hlt', e⟩
   · exact hr.msep m n b hm hn
   · subst e
     have := hold m _ hm
     omega
   · have := hold n _ hn
     omega
   · omega
theorem makeMap_ok {t : TypeId} (hr : HRel μ B h w) : ∃ μ' w' x, μ.le μ' ∧ (Instr.makeMap t none).run P w = .ok x w' ∧ VRel μ' (.map (some h.maps.length)) x ∧ HRel μ' B h.newMap w' ∧ Below w.heap.size w w' := by
 obtain ⟨μ', h1, h2, h3⟩ := hr.newMap
 exact ⟨μ', _, _, h1, by simp [Instr.makeMap], h3, h2, (Below.refl _ _).alloc (Nat.le_refl _) _⟩
theorem lookup_ok (hT : TypesOk P C) {β : Type} {t : TypeId} {i e : TInfo} {kd : IntKind} {n : Int} {m : Option Nat} {ok : Bool} (hi : C.info t = some i) (hty : i.ty = .map) (hkt : C.ty i.len = .int kd) (he : C.info i.elem = some e) (ho : e.ty.isOne = true)
   {k : AV → Option β} {res : β} (hk : ((h.mapOf m).bind fun es => (mfind (.int kd n) es).bind fun r => chk1 e.ty (mgot (e.zero.headD .bot) r) fun v => k (bif ok then .tup [v, .bool r.isSome] else v)) = some res) :
   ∃ u, k u = some res ∧ ∀ (μ : Mu) (w : World) (x : Value), HRel μ B h w → VRel μ (.map m) x → ∃ y, (Instr.lookup t x (.int kd n) ok).run P w = .ok y w ∧ VRel μ u y := by
 cases hm : h.mapOf m with
 | none => rw [hm] at hk; cases hk
 | some es =>
   rw [hm, o_bd] at hk
   cases hf : mfind (.int kd n) es with
   | none => rw [hf] at hk; cases hk
   | some r =>
     rw [hf, o_bd] at hk
     have hu := chk1_inv hk
     refine ⟨_, hu, fun μ w x hr hx => ?_⟩
     obtain ⟨j, hj, hjy⟩ := Ctx.ty_info hkt (by simp)
     have hkd := hT.int hj hjy
     have hmt := hT.map hi hty
     obtain ⟨jz, z, hz1, hz2, hz3⟩ := hT.zeroOne he ho
     have hz : ∀ w : World, (zeroValue i.elem).run P w = .ok z w := fun w => by simp [zeroValue, typeInfo, hz1, hz2]
     have hzr : VRel μ (e.zero.headD .bot) z := (zeroOk_rel hz3).1
     have pair : ∀ {a : AV} {b : Value} {c : Bool}, VRel μ a b → VRel μ (.tup [a, .bool c]) (.tuple #[b, .bool c]) := fun {a b c} hab => by
       refine .tup rfl fun i x y hx hy => ?_
       match i with
       | 0 => simp at hx hy; subst hx; subst hy; exact hab
       | 1 => simp at hx hy; subst hx; subst hy; exact .bool
       | i + 2 => simp at hx
     have fin : ∃ ds : List MapEntry, MRel μ es ds ∧ ∀ r', Instr.findNow (.int kd) (.int kd n) ds 0 = some r' → (Instr.lookup t x (.int kd n) ok).run P w = .ok (match r' with
           | some (_, v) => bif ok then .tuple #[v, .bool true] else v
           | none => bif ok then .tuple #[z, .bool false] else z) w := by
       cases hx with
       | nilmap =>
         simp [AH.mapOf] at hm
         subst hm
         refine ⟨[], ⟨rfl, fun i e d h => by simp at h⟩, fun r' hr' => ?_⟩
         simp only [Instr.lookup, Sem.run_bind, run_underlying hmt, Result.andThen_ok, Sem.run_pure, checkKey_int hkd, run_findKey hkd hr']
         cases r' <;> cases ok <;> simp [hz]
       | @map id b hid =>
         obtain ⟨_, ds, clock, hb, hrel⟩ := hr.map id b es hid hm
         refine ⟨ds.toList, hrel, fun r' hr' => ?_⟩
         simp only [Instr.lookup, Sem.run_bind, run_underlying hmt, Result.andThen_ok, Sem.run_pure, MapKept.run_getObj_map hb, checkKey_int hkd, run_findKey hkd hr']
         cases r' <;> cases ok <;> simp [hz]
     obtain ⟨ds, hrel, hrun⟩ := fin
     rcases find_rel kd kd n hrel hf 0 with ⟨rfl, h2⟩ | ⟨u, p, d, rfl, h2, h3, h4⟩
     · refine ⟨_, hrun _ h2, ?_⟩
       cases ok
       · exact hzr
       · exact pair hzr
     · refine ⟨_, hrun _ h3, ?_⟩
       cases ok
       · exact h4
       · exact pair h4
theorem mapUpdate_ok (hT : TypesOk P C) {β : Type} {t : TypeId} {i : TInfo} {kd : IntKind} {n : Int} {id : Nat} (hi : C.info t = some i) (hty : i.ty = .map) (hkt : C.ty i.len = .int kd)
   {k : AH → Option β} {res : β} (hk : ((h.maps[id]?).bind fun es => (mset (.int kd n) v es).bind fun es => k (h.setMap id es)) = some res) :
   ∃ h', k h' = some res ∧ ∀ (μ : Mu) (w : World) (x y : Value), HRel μ B h w → VRel μ (.map (some id)) x → VRel μ v y → ∃ w', (Instr.mapUpdate t x (.int kd n) y).run P w = .ok () w' ∧ HRel μ B h' w' ∧ Below B w w' := by
 cases hm : h.maps[id]? with
 | none => rw [hm] at hk; cases hk
 | some es =>
   rw [hm, o_bd] at hk
   cases hf : mset (.int kd n) v es with
   | none => rw [hf] at hk; cases hk
   | some es' =>
     rw [hf, o_bd] at hk
     refine ⟨_, hk, fun μ w x y hr hx hy => ?_⟩
     obtain ⟨j, hj, hjy⟩ := Ctx.ty_info hkt (by simp)
     have hkd := hT.int hj hjy
     have hmt := hT.map hi hty
     cases hx with
     | @map _ b hid =>
       obtain ⟨hB, ds, clock, hb, hrel⟩ := hr.map id b es hid hm
       rcases set_rel kd kd n v hrel hf 0 with ⟨rfl, h2⟩ | ⟨p, d, h1, h2, h3, rfl⟩
       · obtain ⟨g1, g2⟩ := hr.setMap hid (es' := es ++ [(.int kd n, v)]) (ds' := ds.push { key := .int kd n, val := y, born := clock }) (clock' := clock + 1) (by
           refine ⟨by simp [hrel.1], fun i e d he hd => ?_⟩
           simp only [Array.toList_push] at hd
           rcases (zaa _ _ _ _).1 he with ⟨hl, he⟩ | ⟨hl, rfl⟩ <;> rcases (zaa _ _ _ _).1 hd with ⟨hl', hd⟩ | ⟨hl', rfl⟩
           · exact hrel.2 i e d he hd
           · have := hrel.1; omega
           · have := hrel.1; omega
           · exact ⟨.int, hy⟩)
         refine ⟨_, ?_, g1, g2⟩
         simp [Instr.mapUpdate, run_underlying hmt, MapKept.run_getObj_map hb, checkKey_int hkd, run_findKey hkd h2, MapKept.run_setObj_map _ hb]
       · have hpl : p < ds.size := by have := (List.getElem?_eq_some_iff.1 h1).1; simpa using this
         have hdp : ds[p]? = some d := by rw [← Array.getElem?_toList]; exact h1
         obtain ⟨g1, g2⟩ := hr.setMap hid (es' := es.set p (.int kd n, v)) (ds' := ds.modify p fun e => { e with key := .int kd n, val := y }) (clock' := clock) (by
           refine ⟨by simp [hrel.1], fun i e d' he hd => ?_⟩
           rw [Array.getElem?_toList, Array.getElem?_modify] at hd
           by_cases hip : p = i
           · subst hip
             rw [List.getElem?_set_self (by rw [hrel.1]; simpa using hpl)] at he
             rw [if_pos rfl, hdp] at hd
             cases he; cases hd
             exact ⟨.int, hy⟩
           · rw [List.getElem?_set_ne hip] at he
             rw [if_neg hip] at hd
             exact hrel.2 i e d' he (by rw [Array.getElem?_toList]; exact hd))
         refine ⟨_, ?_, g1, g2⟩
         simp [Instr.mapUpdate, run_underlying hmt, MapKept.run_getObj_map hb, checkKey_int hkd, run_findKey hkd h3, MapKept.run_setObj_map _ hb, hdp, h2, Instr.keyThatStays, Instr.sameBits]
end
end Go.Proofs.YtjagkijfngokaaaGreatDoor
