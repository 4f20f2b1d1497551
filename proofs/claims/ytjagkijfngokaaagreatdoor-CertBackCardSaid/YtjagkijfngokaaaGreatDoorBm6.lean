/-
 New blocks, addresses, parts of values: in the model as the abstract machine says.
-/
import Derived.Test.YtjagkijfngokaaaGreatDoorBm5
namespace Go.Proofs.YtjagkijfngokaaaGreatDoor
open Go.RowKit
section
variable {P : Program} {C : Ctx} {B : Nat} {q : Bool} {h : AH} {μ : Mu} {w : World} {v : AV}
theorem below_alloc' (w : World) (o : Obj) : Below w.heap.size w (w.alloc o) := (Below.refl _ _).alloc (Nat.le_refl _) o
theorem HRel.newRow (hr : HRel μ B h w) (sz : Nat) {cs : List AV} {ds : List Value} (rest : List Value) (e : TypeId) (fz : Nat × Nat) (hc : CRel1 μ cs ds) (hfz : FzOk (ds.length + rest.length) fz) :
   ∃ μ' : Mu, μ.le μ' ∧ HRel μ' B (h.push sz cs) (w.alloc (.cells (ds ++ rest).toArray e fz)) ∧
     (∀ lim, lim ≤ cs.length → VRel μ' (.ptr (.mk ⟨h.next, 0, 0⟩ lim)) (.pointer (some ⟨w.heap.size, 0, none⟩))) ∧
     (∀ len cap clip, len ≤ cap → (clip = true → cap = len) → len * sz ≤ cs.length → cap * sz ≤ ds.length + rest.length → VRel μ' (.slice (.mk ⟨h.next, 0, 0⟩ len clip)) (.slice (some ⟨w.heap.size, 0, none⟩) len cap)) := by
 have hnew : (μ.push sz ⟨w.heap.size, 0, 0, cs.length, ds.length + rest.length⟩).rows[h.next]? = some ⟨sz, [⟨w.heap.size, 0, 0, cs.length, ds.length + rest.length⟩]⟩ := by
   exact (zaa _ _ _ _).2 (.inr ⟨by rw [hr.rlen]; rfl, rfl⟩)
 refine ⟨_, μ.le_push sz _, hr.push sz cs ds rest e fz hc hfz, fun lim hl => ?_, fun len cap clip h1 h2 h3 h4 => ?_⟩
 · exact .ptr (gi := ⟨w.heap.size, 0, 0, cs.length, ds.length + rest.length⟩) hnew rfl (Nat.zero_le _) hl
 · refine .slice (gi := ⟨w.heap.size, 0, 0, cs.length, ds.length + rest.length⟩) hnew rfl (Nat.zero_le _) h1 h2 (by simpa using h3) (.inr ⟨rfl, by simpa using h4⟩)
theorem HRel.newRowT (hr : HRel μ B h w) (n sz : Nat) {cs : List AV} {ds : List Value} (rest : List Value) (e : TypeId) (fz : Nat × Nat) (hc : CRel1 μ cs ds) (hfz : FzOk (ds.length + rest.length) fz) (hn : n ≠ 0 → ds.length + rest.length = n) :
   ∃ μ' : Mu, μ.le μ' ∧ HRel μ' B (h.pushT (e, n) sz cs) (w.alloc (.cells (ds ++ rest).toArray e fz)) ∧
     (∀ lim, lim ≤ cs.length → VRel μ' (.ptr (.mk ⟨h.next, 0, 0⟩ lim)) (.pointer (some ⟨w.heap.size, 0, none⟩))) ∧
     (∀ len cap clip, len ≤ cap → (clip = true → cap = len) → len * sz ≤ cs.length → cap * sz ≤ ds.length + rest.length → VRel μ' (.slice (.mk ⟨h.next, 0, 0⟩ len clip)) (.slice (some ⟨w.heap.size, 0, none⟩) len cap)) := by
 have hnew : (μ.push sz ⟨w.heap.size, 0, 0, cs.length, ds.length + rest.length⟩).rows[h.next]? = some ⟨sz, [⟨w.heap.size, 0, 0, cs.length, ds.length + rest.length⟩]⟩ := by
   exact (zaa _ _ _ _).2 (.inr ⟨by rw [hr.rlen]; rfl, rfl⟩)
 refine ⟨_, μ.le_push sz _, hr.pushT n sz cs ds rest e fz hc hfz hn, fun lim hl => ?_, fun len cap clip h1 h2 h3 h4 => ?_⟩
 · exact .ptr (gi := ⟨w.heap.size, 0, 0, cs.length, ds.length + rest.length⟩) hnew rfl (Nat.zero_le _) hl
 · refine .slice (gi := ⟨w.heap.size, 0, 0, cs.length, ds.length + rest.length⟩) hnew rfl (Nat.zero_le _) h1 h2 (by simpa using h3) (.inr ⟨rfl, by simpa using h4⟩)
theorem zero_run (hT : TypesOk P C) {t : TypeId} {i : TInfo} (hi : C.info t = some i) (hp : i.ty.plain = true) (w : World) :
   ∃ z : Value, (zeroValue t).run P w = .ok z w ∧ (∀ μ, CRel1 μ i.zero z.cells.toList) ∧ z.cells.size = i.size := by
 obtain ⟨j, d, z, hj, _, _, _, _, hz, hzr, hzs, _⟩ := hT.get hi hp
 exact ⟨z, by simp [zeroValue, typeInfo, hj, hz], hzr, hzs⟩
theorem alloc_ok (hT : TypesOk P C) {t : TypeId} {i : TInfo} (hi : C.info t = some i) (hp : i.ty.plain = true) (hr : HRel μ B h w) :
   ∃ μ' w' x, μ.le μ' ∧ (Instr.alloc t true (.tuple #[])).run P w = .ok x w' ∧ VRel μ' (.ptr (.mk ⟨h.next, 0, 0⟩ i.size)) x ∧ HRel μ' B (h.push 1 i.zero) w' ∧ Below w.heap.size w w' := by
 obtain ⟨z, hz, hzr, hzs⟩ := zero_run hT hi hp w
 have hc := hzr μ
 obtain ⟨μ', hle, hr', hptr, _⟩ := hr.newRow 1 [] t (0, 0) hc (.inl rfl)
 simp only [List.append_nil, Array.toArray_toList] at hr'
 refine ⟨μ', _, _, hle, ?_, hptr i.size (by rw [hc.1.1]; simp [hzs]), hr', below_alloc' _ _⟩
 simp [Instr.alloc, hz, newVar, newRow, newObj, Sem.run]
theorem allocT_ok (hT : TypesOk P C) {t : TypeId} {i : TInfo} (hi : C.info t = some i) (hp : i.ty.plain = true) (hr : HRel μ B h w) :
   ∃ μ' w' x, μ.le μ' ∧ (Instr.alloc t true (.tuple #[])).run P w = .ok x w' ∧ VRel μ' (.ptr (.mk ⟨h.next, 0, 0⟩ i.size)) x ∧ HRel μ' B (h.pushT (t, i.size) 1 i.zero) w' ∧ Below w.heap.size w w' := by
 obtain ⟨z, hz, hzr, hzs⟩ := zero_run hT hi hp w
 have hc := hzr μ
 obtain ⟨μ', hle, hr', hptr, _⟩ := hr.newRowT i.size 1 [] t (0, 0) hc (.inl rfl) (fun _ => by simp [hzs])
 simp only [List.append_nil, Array.toArray_toList] at hr'
 refine ⟨μ', _, _, hle, ?_, hptr i.size (by rw [hc.1.1]; simp [hzs]), hr', below_alloc' _ _⟩
 simp [Instr.alloc, hz, newVar, newRow, newObj, Sem.run]
theorem box_ok {t : TypeId} (hr : HRel μ B h w) {v : AV} {x : Value} (hv : VRel μ v x) (hc : v.cells.all AV.isCell = true) :
   ∃ μ' w' y, μ.le μ' ∧ (Instr.box t x).run P w = .ok y w' ∧ VRel μ' (.ptr (.mk ⟨h.next, 0, 0⟩ v.cells.length)) y ∧ HRel μ' B (h.push 1 v.cells) w' ∧ Below w.heap.size w w' := by
 have hcr := hv.cells hc
 obtain ⟨μ', hle, hr', hptr, _⟩ := hr.newRow 1 [] t (0, 0) hcr (.inl rfl)
 simp only [List.append_nil, Array.toArray_toList] at hr'
 refine ⟨μ', _, _, hle, ?_, hptr _ (Nat.le_refl _), hr', below_alloc' _ _⟩
 simp [Instr.box, newVar, newRow, newObj, Sem.run]
theorem foldl_set : ∀ (vs : List Value) (off k : Nat) (cells : Array Value), off + k + vs.length ≤ cells.size →
   (vs.zipIdx k).foldl (fun cs p => cs.setIfInBounds (off + p.2) p.1) cells = (cells.toList.take (off + k) ++ vs ++ cells.toList.drop (off + k + vs.length)).toArray
 | [], off, k, cells, _ => by simp
 | v :: vs, off, k, cells, h => by
   simp only [List.zipIdx_cons, List.foldl_cons]
   rw [foldl_set vs off (k + 1) _ (by simp at h ⊢; omega)]
   congr 1
   have e := list_seg_step cells.toList (off + k) v vs (by simp at h ⊢; omega)
   simpa [Array.toList_setIfInBounds, Nat.add_assoc] using e
theorem CRel1.overlay {cs : List AV} {ds : List Value} (hc : CRel1 μ cs ds) {o : Nat} {vs : List AV} {xs : List Value} (hv : CRel1 μ vs xs) :
   CRel1 μ (AH.overlay cs o vs) (ds.take o ++ xs ++ ds.drop (o + xs.length)) := by
 unfold AH.overlay
 rw [hv.1.1]
 exact ((hc.take o).append hv).append (hc.drop _)
theorem fill_ok {place place' : Nat → Option (Nat × Nat)} (hpl : ∀ i o s, place i = some (o, s) → place' i = some (o, s)) : ∀ (ps : List (Nat × AV)) (xs : List (Nat × Value)) (cells : List AV) (cs : Array Value) (out : List AV),
   CRel1 μ cells cs.toList → ps.length = xs.length → (∀ (i : Nat) p x, ps[i]? = some p → xs[i]? = some x → p.1 = x.1 ∧ VRel μ p.2 x.2) → afill place cells ps = some out →
   ∃ cs', Instr.fill place' cs xs = some cs' ∧ CRel1 μ out cs'.toList
 | [], [], cells, cs, out, hc, _, _, ho => by
   simp [afill] at ho
   subst ho
   exact ⟨cs, rfl, hc⟩
 | [], _ :: _, _, _, _, _, hl, _, _ => by simp at hl
 | _ :: _, [], _, _, _, _, hl, _, _ => by simp at hl
 | (i, v) :: ps, (j, x) :: xs, cells, cs, out, hc, hl, hp, ho => by
   obtain ⟨h1, h2⟩ := hp 0 _ _ rfl rfl
   simp at h1 h2
   subst h1
   unfold afill at ho
   split at ho
   · cases ho
   · rename_i off size hpi
     rw [Bool.cond_eq_ite] at ho
     split at ho
     · rename_i hcond
       simp only [Bool.and_eq_true, nbeq, nble] at hcond
       obtain ⟨⟨hs, hf⟩, hcell⟩ := hcond
       have hx := h2.cells hcell
       have hxl : x.cells.size = size := by
         have := hx.1.1
         simp at this
         omega
       have hcl := hc.1.1
       simp at hcl
       have hov := hc.overlay (o := off) hx
       obtain ⟨cs', hf', hr'⟩ := fill_ok hpl ps xs _ (cs.toList.take off ++ x.cells.toList ++ cs.toList.drop (off + x.cells.toList.length)).toArray out (by simpa using hov) (by simpa using hl)
         (fun i p y hp' hy => hp (i + 1) p y (by simpa using hp') (by simpa using hy)) ho
       refine ⟨cs', ?_, hr'⟩
       unfold Instr.fill
       rw [hpl _ _ _ hpi]
       simp only
       rw [if_neg (by simp [hxl]; omega), ← hf']
       congr 1
       have := foldl_set x.cells.toList off 0 cs (by simp; omega)
       simp only [Nat.add_zero] at this
       rw [← this, ← Array.foldl_toList, Array.toList_zipIdx]
     · cases ho
theorem struct_of (hT : TypesOk P C) {t : TypeId} {i : TInfo} (hi : C.info t = some i) (ha : i.ty.isAgg = true) (hl : i.len = 0) :
   ∃ fs, P.underlying t = some (.struct fs) ∧ fieldsOk P fs.toList i.fields = true := by
 rcases hT.agg hi (ATy.isAgg_eq ha) with ⟨fs, h1, h2, _⟩ | ⟨_, h, _⟩
 · exact ⟨fs, h1, h2⟩
 · omega
theorem places_ok : ∀ {fs : List Field} {ps : List (Nat × TypeId)}, fieldsOk P fs ps = true → ∃ pl : List (Nat × Nat), fs.mapM (fun f => (P.info? f.type).map fun i => (f.offset, i.size)) = some pl ∧
   ∀ (j : Nat) o t i, ps[j]? = some (o, t) → P.info? t = some i → pl[j]? = some (o, i.size)
 | [], [], _ => ⟨[], rfl, fun j o t i h => by simp at h⟩
 | [], _ :: _, h => by simp [fieldsOk] at h
 | _ :: _, [], h => by simp [fieldsOk] at h
 | f :: fs, p :: ps, h => by
   obtain ⟨f', hf, h1, h2, i, hi, hs⟩ := fieldsOk_get h 0 p.1 p.2 rfl
   simp at hf
   subst hf
   simp only [fieldsOk, Bool.and_eq_true] at h
   obtain ⟨pl, hp, hg⟩ := places_ok h.2
   refine ⟨(f.offset, i.size) :: pl, ?_, fun j o t i' hj hi' => ?_⟩
   · rw [List.mapM_cons, h2, hi, hp]; rfl
   · cases j with
     | zero =>
       simp at hj
       subst hj
       simp at h1 hi
       rw [hi] at hi'
       cases hi'
       simp [h1]
     | succ j => simpa using hg j o t i' (by simpa using hj) hi'
theorem build_ok0 (hT : TypesOk P C) {t : TypeId} {i : TInfo} (hi : C.info t = some i) (ha : i.ty.isAgg = true) (hl : i.len = 0) {ps : List (Nat × AV)} {xs : Array (Nat × Value)} (hlen : ps.length = xs.size)
   (hp : ∀ (j : Nat) p x, ps[j]? = some p → xs[j]? = some x → p.1 = x.1 ∧ VRel μ p.2 x.2) {cs : List AV} (hf : afill (aplace C i) i.zero ps = some cs) :
   ∃ x, (Instr.build t xs).run P w = .ok x w ∧ VRel μ (.agg cs) x := by
 have hpl : i.ty.plain = true := by rw [ATy.isAgg_eq ha]; rfl
 obtain ⟨fs, hu, hfo⟩ := struct_of hT hi ha hl
 obtain ⟨z, hz, hzr, hzs⟩ := zero_run hT hi hpl w
 obtain ⟨pl, hm, hg⟩ := places_ok hfo
 have hplace : ∀ j o s, aplace C i j = some (o, s) → (fun (j : Nat) => pl[j]?) j = some (o, s) := by
   intro j o s h
   unfold aplace at h
   split at h
   · cases h
   · rename_i o' ft hj
     split at h
     · cases h
     · rename_i fi hfi
       rw [Bool.cond_eq_ite] at h
       split at h
       · rename_i hk
         cases h
         obtain ⟨jj, _, _, h1, _, h2, _⟩ := hT.get hfi (ATy.one_or_agg hk)
         have := hg j o ft jj hj h1
         rw [h2] at this
         exact this
       · cases h
 obtain ⟨cs', h1, h2⟩ := fill_ok hplace ps xs.toList i.zero z.cells cs (hzr μ) (by simpa using hlen) (fun j p x a b => hp j p x a (by simpa using b)) hf
 refine ⟨.agg cs', ?_, .agg (by simpa using h2.1.1) fun j c d a b => h2.1.2 j c d a (by simpa using b)⟩
 simp [Instr.build, run_underlying hu, hz, Array.mapM_eq_mapM_toList, run_places w _ _ hm, h1]
theorem build_ok (hT : TypesOk P C) {t : TypeId} {i : TInfo} (hi : C.info t = some i) (ha : i.ty.isAgg = true) {pl : Nat → Option (Nat × Nat)} (hpl : aplaces C i = some pl) {ps : List (Nat × AV)} {xs : Array (Nat × Value)} (hlen : ps.length = xs.size)
   (hp : ∀ (j : Nat) p x, ps[j]? = some p → xs[j]? = some x → p.1 = x.1 ∧ VRel μ p.2 x.2) {cs : List AV} (hf : afill pl i.zero ps = some cs) :
   ∃ x, (Instr.build t xs).run P w = .ok x w ∧ VRel μ (.agg cs) x := by
 unfold aplaces at hpl
 rw [Bool.cond_eq_ite] at hpl
 split at hpl
 · rename_i hl
   rw [nbeq] at hl
   cases hpl
   exact build_ok0 hT hi ha hl hlen hp hf
 · rename_i hl
   rw [nbeq] at hl
   have hpp : i.ty.plain = true := by rw [ATy.isAgg_eq ha]; rfl
   have hu : P.underlying t = some (.array i.len i.elem) := by
     rcases hT.agg hi (ATy.isAgg_eq ha) with ⟨_, _, _, h0⟩ | ⟨h0, _⟩
     · exact absurd h0 hl
     · exact h0
   obtain ⟨z, hz, hzr, hzs⟩ := zero_run hT hi hpp w
   split at hpl
   · cases hpl
   · rename_i e he
     rw [Bool.cond_eq_ite] at hpl
     split at hpl
     case isFalse => cases hpl
     rename_i hk
     cases hpl
     have hsz := hT.size he (ATy.one_or_agg hk) w
     obtain ⟨cs', h1, h2⟩ := fill_ok (place' := fun j => some (j * e.size, e.size)) (fun _ _ _ h => h) ps xs.toList i.zero z.cells cs (hzr μ) (by simpa using hlen) (fun j p x a b => hp j p x a (by simpa using b)) hf
     refine ⟨.agg cs', ?_, .agg (by simpa using h2.1.1) fun j c d a b => h2.1.2 j c d a (by simpa using b)⟩
     simp [Instr.build, run_underlying hu, hz, hsz, h1]
theorem repeat_length (z : List AV) : ∀ n, (repeatCells z n).length = n * z.length
 | 0 => by simp [repeatCells]
 | n + 1 => by simp [repeatCells, repeat_length z n, Nat.add_mul]; omega
theorem repeat_rel {z : List AV} {zs : Array Value} (hz : CRel1 μ z zs.toList) (n : Nat) :
   CRel1 μ (repeatCells z n) ((Array.range (n * zs.size)).map (zs[· % zs.size]!)).toList := by
 have hl := hz.1.1
 simp at hl
 induction n with
 | zero => simp [repeatCells]; exact .nil
 | succ n ih =>
   have e : ((Array.range ((n + 1) * zs.size)).map (zs[· % zs.size]!)).toList = zs.toList ++ ((Array.range (n * zs.size)).map (zs[· % zs.size]!)).toList := by
     apply List.ext_getElem?
     intro j
     by_cases hj : j < zs.size
     · rw [List.getElem?_append_left (by simpa using hj)]
       have : j < (n + 1) * zs.size := by rw [Nat.add_mul]; omega
       simp [this, hj, Nat.mod_eq_of_lt hj, getElem!_pos]
     · rw [List.getElem?_append_right (by simpa using hj)]
       by_cases hk : j < (n + 1) * zs.size
       · have h2 : j - zs.size < n * zs.size := by rw [Nat.add_mul] at hk; omega
         have h3 : (j - zs.size) % zs.size = j % zs.size := by
           conv => rhs; rw [show j = (j - zs.size) + zs.size by omega]
           simp
         simp [hk, h2, h3]
       · have h2 : ¬ j - zs.size < n * zs.size := by rw [Nat.add_mul] at hk; omega
         simp [hk, h2]
   rw [e]
   exact hz.append ih
theorem buildSlice_ok (hT : TypesOk P C) {t : TypeId} {i e : TInfo} (hi : C.info t = some i) (hs : i.ty = .slice) (he : C.info i.elem = some e) (hp : (e.ty.isAgg || e.ty.isOne) = true) {n : Nat} (hn : n * e.size ≤ 1000000)
   {ps : List (Nat × AV)} {xs : Array (Nat × Value)} (hlen : ps.length = xs.size)
   (hps : ∀ (j : Nat) p x, ps[j]? = some p → xs[j]? = some x → p.1 = x.1 ∧ VRel μ p.2 x.2) {cs : List AV} (hf : afill (fun j => some (j * e.size, e.size)) (repeatCells e.zero n) ps = some cs) (hr : HRel μ B h w) :
   ∃ μ' w' y, μ.le μ' ∧ (Instr.buildSlice t n xs).run P w = .ok y w' ∧ VRel μ' (.slice (.lst n true cs)) y ∧ HRel μ' B h w' ∧ Below w.heap.size w w' := by
 have hpl := ATy.one_or_agg hp
 have hu := hT.slice hi hs
 have hsz := hT.size he hpl w
 obtain ⟨z, hz, hzr, hzs⟩ := zero_run hT he hpl w
 obtain ⟨_, _, _, _, _, _, _, hne, _⟩ := hT.get he hpl
 have hrep := repeat_rel (hzr μ) n
 rw [hzs] at hrep
 obtain ⟨cs', h1, h2⟩ := fill_ok (place' := fun j => some (j * e.size, e.size)) (fun _ _ _ h => h) ps xs.toList _ _ cs hrep (by simpa using hlen) (fun j p x a b => hps j p x a (by simpa using b)) hf
 have hcl : cs.length = n * e.size := by
   have : ∀ (ps : List (Nat × AV)) (a b : List AV), afill (fun j => some (j * e.size, e.size)) a ps = some b → b.length = a.length := by
     intro ps
     induction ps with
     | nil => intro a b h; simp [afill] at h; rw [h]
     | cons p ps ih =>
       intro a b h
       simp only [afill] at h
       rw [Bool.cond_eq_ite] at h
       split at h
       · rename_i hc
         simp only [Bool.and_eq_true, nbeq, nble] at hc
         rw [ih _ _ h]
         unfold AH.overlay
         simp
         omega
       · cases h
   rw [this _ _ _ hf, repeat_length]
   have := (hzr μ).1.1
   simp at this
   rw [this, hzs]
 obtain ⟨hle, hr'⟩ := hr.still cs' i.elem (0, 0)
 have hl2 := h2.1.1
 refine ⟨_, _, .slice (some ⟨w.heap.size, 0, none⟩) n n, hle, ?_, ?_, hr', below_alloc' _ _⟩
 rotate_left
 · refine .lst (arr := cs') (by simp [Mu.still]) rfl (Nat.le_refl _) (fun _ => rfl) (fun _ => by simp at hl2 ⊢; omega) (fun j c d hc hd => ?_) (fun j d hj hd => ?_)
   · rw [Nat.zero_add] at hd
     exact (h2.1.2 j c d hc (by rw [Array.getElem?_toList]; exact hd)).mono hle
   · rw [Nat.zero_add] at hd
     exact h2.2 d (List.mem_of_getElem? (by rw [Array.getElem?_toList]; exact hd))
 by_cases h0 : n = 0
 · subst h0
   have hrange : (Array.range (0 * e.size)).map (fun x => z.cells[x % e.size]!) = #[] := by simp
   rw [hrange] at h1
   simp [Instr.buildSlice, run_underlying hu, hsz, Array.range_zero', h1, newRow]
 · have hb : ¬ 2 ^ 24 < n * e.size := by omega
   simp [Instr.buildSlice, run_underlying hu, hsz, hb, hz, h1, newRow, hzs]
   intro h9
   exact absurd h9 (Nat.mul_ne_zero h0 hne)
theorem buildSliceR_ok (hT : TypesOk P C) {t : TypeId} {i e : TInfo} (hi : C.info t = some i) (hs : i.ty = .slice) (he : C.info i.elem = some e) (hp : (e.ty.isAgg || e.ty.isOne) = true) {n : Nat} (hn : n * e.size ≤ 1000000)
   {ps : List (Nat × AV)} {xs : Array (Nat × Value)} (hlen : ps.length = xs.size)
   (hps : ∀ (j : Nat) p x, ps[j]? = some p → xs[j]? = some x → p.1 = x.1 ∧ VRel μ p.2 x.2) {cs : List AV} (hf : afill (fun j => some (j * e.size, e.size)) (repeatCells e.zero n) ps = some cs) (hr : HRel μ B h w) :
   ∃ μ' w' y, μ.le μ' ∧ (Instr.buildSlice t n xs).run P w = .ok y w' ∧ VRel μ' (.slice (.mk ⟨h.next, 0, 0⟩ n true)) y ∧ HRel μ' B (h.push e.size cs) w' ∧ Below w.heap.size w w' := by
 have hpl := ATy.one_or_agg hp
 have hu := hT.slice hi hs
 have hsz := hT.size he hpl w
 obtain ⟨z, hz, hzr, hzs⟩ := zero_run hT he hpl w
 obtain ⟨_, _, _, _, _, _, _, hne, _⟩ := hT.get he hpl
 have hrep := repeat_rel (hzr μ) n
 rw [hzs] at hrep
 obtain ⟨cs', h1, h2⟩ := fill_ok (place' := fun j => some (j * e.size, e.size)) (fun _ _ _ h => h) ps xs.toList _ _ cs hrep (by simpa using hlen) (fun j p x a b => hps j p x a (by simpa using b)) hf
 have hcl : cs.length = n * e.size := by
   have : ∀ (ps : List (Nat × AV)) (a b : List AV), afill (fun j => some (j * e.size, e.size)) a ps = some b → b.length = a.length := by
     intro ps
     induction ps with
     | nil => intro a b h; simp [afill] at h; rw [h]
     | cons p ps ih =>
       intro a b h
       simp only [afill] at h
       rw [Bool.cond_eq_ite] at h
       split at h
       · rename_i hc
         simp only [Bool.and_eq_true, nbeq, nble] at hc
         rw [ih _ _ h]
         unfold AH.overlay
         simp
         omega
       · cases h
   rw [this _ _ _ hf, repeat_length]
   have := (hzr μ).1.1
   simp at this
   rw [this, hzs]
 obtain ⟨μ', hle, hr', _, hsl⟩ := hr.newRow e.size (ds := cs'.toList) [] i.elem (0, 0) h2 (.inl rfl)
 have hl2 := h2.1.1
 refine ⟨μ', _, _, hle, ?_, hsl n n true (Nat.le_refl _) (fun _ => rfl) (by omega) (by rw [← hl2]; simp; omega), hr', below_alloc' _ _⟩
 simp only [List.append_nil, Array.toArray_toList]
 by_cases h0 : n = 0
 · subst h0
   have hrange : (Array.range (0 * e.size)).map (fun x => z.cells[x % e.size]!) = #[] := by simp
   rw [hrange] at h1
   simp [Instr.buildSlice, run_underlying hu, hsz, Array.range_zero', h1, newRow]
 · have hb : ¬ 2 ^ 24 < n * e.size := by omega
   simp [Instr.buildSlice, run_underlying hu, hsz, hb, hz, h1, newRow, hzs]
   intro h9
   exact absurd h9 (Nat.mul_ne_zero h0 hne)
theorem makeSlice_ok (hT : TypesOk P C) {t : TypeId} {i e : TInfo} (hi : C.info t = some i) (hs : i.ty = .slice) (he : C.info i.elem = some e) (hp : (e.ty.isAgg || e.ty.isOne) = true) {n m : Int} (h0 : 0 ≤ n) (hnm : n ≤ m)
   (hb : m * e.bytes ≤ 140737488355328) (hm : m ≤ 140737488355328) (hr : HRel μ B h w) :
   ∃ μ' w' y, μ.le μ' ∧ (Instr.makeSlice t (.int .i64 n) (.int .i64 m)).run P w = .ok y w' ∧ VRel μ' (.slice (.mk ⟨h.next, 0, 0⟩ n.toNat (decide (n = m)))) y ∧ HRel μ' B (h.push e.size (repeatCells e.zero n.toNat)) w' ∧ Below w.heap.size w w' := by
 have hpl := ATy.one_or_agg hp
 have hu := hT.slice hi hs
 have hsz := hT.size he hpl w
 obtain ⟨jj, _, zz, hj, _, hjs, hjb, hne, hz0, hzr, hzs, _⟩ := hT.get he hpl
 have hrep := repeat_rel (hzr μ) m.toNat
 rw [hzs] at hrep
 have hrepn := hrep.take (n.toNat * e.size)
 have hzl : e.zero.length = e.size := by
   have := (hzr μ).1.1
   simp at this
   omega
 have htk : (repeatCells e.zero m.toNat).take (n.toNat * e.size) = repeatCells e.zero n.toNat := by
   have : ∀ a b : Nat, a ≤ b → (repeatCells e.zero b).take (a * e.size) = repeatCells e.zero a := by
     intro a
     induction a with
     | zero => intro b _; simp [repeatCells]
     | succ a ih =>
       intro b hb
       obtain ⟨b, rfl⟩ : ∃ c, b = c + 1 := ⟨b - 1, by omega⟩
       simp only [repeatCells]
       rw [List.take_append, hzl]
       have e1 : (a + 1) * e.size - e.size = a * e.size := by rw [Nat.add_mul]; omega
       rw [e1, ih b (by omega), List.take_of_length_le (by rw [hzl, Nat.add_mul]; omega)]
   exact this _ _ (by omega)
 rw [htk] at hrepn
 obtain ⟨μ', hle, hr', _, hsl⟩ := hr.newRow e.size (((Array.range (m.toNat * e.size)).map (zz.cells[· % e.size]!)).toList.drop (n.toNat * e.size)) i.elem (0, 0) hrepn (.inl rfl)
 rw [List.take_append_drop, Array.toArray_toList] at hr'
 have hmul : n.toNat * e.size ≤ m.toNat * e.size := Nat.mul_le_mul_right _ (by omega)
 refine ⟨μ', _, _, hle, ?_, hsl n.toNat m.toNat (decide (n = m)) (by omega) (fun hd => by have := of_decide_eq_true hd; omega) (by rw [repeat_length, hzl]; omega) ?_, hr', below_alloc' _ _⟩
 · have hrun := run_make (P := P) w t i.elem jj zz hu hj hz0 .i64 .i64 n m h0 hnm (by rw [hjb, Int.mul_comm]; omega) (by omega)
   have e1 : madeCells zz.cells (m.toNat * jj.size) = (Array.range (m.toNat * e.size)).map (zz.cells[· % e.size]!) := by unfold madeCells; rw [hjs, hzs]
   rw [e1] at hrun
   exact hrun
 · have hl := hrepn.1.1
   rw [← hl, repeat_length, hzl]
   simp
   omega
end
end Go.Proofs.YtjagkijfngokaaaGreatDoor
