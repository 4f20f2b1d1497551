/-
 append and copy: in the model as the abstract machine says.
-/
import Derived.Test.YtjagkijfngokaaaGreatDoorBm7
namespace Go.Proofs.YtjagkijfngokaaaGreatDoor
open Go.RowKit
section
variable {P : Program} {C : Ctx} {B : Nat} {q : Bool} {h : AH} {μ : Mu} {w : World} {v : AV}
structure Src (P : Program) (w : World) (u el : TypeId) (X : Value) (sz m : Nat) (news : List Value) : Prop where
 way : (((∃ d, P.underlying u = some (.slice d)) ∨ P.underlying u = some .string) ∧ Builtin.lenOf X = pure m ∧ ∀ w' : World, w'.heap = w.heap → (Builtin.firstCells sz m X).run P w' = .ok news.toArray w') ∨
   (∃ kn k i z, P.underlying u = some (.int kn) ∧ X = .int k (m : Int) ∧ P.info? el = some i ∧ i.zero = some z ∧ sz ≠ 0 ∧ news = (Builtin.zeroCells z.cells m).toList ∧ m * i.bytes ≤ 140737488355328 ∧ m ≤ 140737488355328)
 num : news.length = m * sz
theorem run_firstCells_at (w : World) {a : Addr} {n sz len cap : Nat} {ds : List Value} (hl : ds.length = n * sz) (hd : ∀ (j : Nat) x, ds[j]? = some x → w.cell? (a.add j) = some x) :
   ∀ w' : World, w'.heap = w.heap → (Builtin.firstCells sz n (.slice (some a) len cap)).run P w' = .ok ds.toArray w' := by
 intro w' hw
 have h1 := run_loadCells_list (P := P) w' a ds (fun j x hx => by
   have := hd j x hx
   unfold World.cell? at this ⊢
   rw [hw]; exact this)
 rw [hl] at h1
 exact h1
theorem Src.slice {u : TypeId} (el : TypeId) {d : TypeId} (hu : P.underlying u = some (.slice d)) (hr : HRel μ B h w) {s : Sl} {a : Option Addr} {len cap sz : Nat} (hv : VRel μ (.slice s) (.slice a len cap)) {xs : List AV} (hx : h.sliceCells sz s = some xs) :
   ∃ news, Src P w u el (.slice a len cap) sz s.len news ∧ CRel1 μ xs news := by
 obtain ⟨rfl, ds, h1, h2, h3, h4⟩ := hr.sliceCells hv hx
 refine ⟨ds, ⟨.inl ⟨.inl ⟨_, hu⟩, rfl, fun w' hw => ?_⟩, h2⟩, h1⟩
 cases a with
 | none =>
   have h0 := h3 rfl
   rw [h0] at h2
   simp at h2
   subst h2
   rfl
 | some ad => exact run_firstCells_at w h2 (h4 ad rfl) w' hw
theorem run_append_room_gen {t u ty e : TypeId} {i : TypeInfo} (ht : P.underlying t = some (.slice e)) (hi : P.info? e = some i) {X : Value} {m : Nat} {news : List Value} (hs : Src P w u e X i.size m news) {base : Option Addr} {sLen sCap : Nat} (hroom : sLen + m ≤ sCap) :
   (Builtin.append_ #[t, u] ty #[.slice base sLen sCap, X]).run P w =
     ((match base with | some a => storeCells (a.add (sLen * i.size)) news | none => pure () : Sem Unit).run P w).andThen fun _ w' => .ok (.slice base (sLen + m) sCap) w' := by
 rcases hs.way with ⟨hty, hlen, hcells⟩ | ⟨kn, k, i', z, hd, rfl, hi', hz, hne, rfl, hb, hm⟩
 · have hf := hcells w rfl
   rcases hty with ⟨d, hd⟩ | hd
   · cases base <;> simp [Builtin.append_, run_underlying ht, run_underlying hd, sizeOf, typeInfo, hi, hlen, hroom, hf]
   · cases base <;> simp [Builtin.append_, run_underlying ht, run_underlying hd, sizeOf, typeInfo, hi, hlen, hroom, hf]
 · obtain rfl := Option.some.inj (hi.symm.trans hi')
   have hw : IntKind.i64.wrap (m : Int) = m := by rw [IntKind.wrap_i64]; omega
   have hneg : ¬ ((m : Int) < 0) := by omega
   have h48i : ¬ (281474976710656 < (m : Int) * (i.bytes : Int)) := by
     rw [← Int.natCast_mul]
     omega
   by_cases h0 : m = 0
   · subst h0
     have hroom0 : sLen ≤ sCap := by omega
     cases base <;> simp [Builtin.append_, run_underlying ht, run_underlying hd, sizeOf, typeInfo, zeroValue, hi, hz, asInt, asIntOf, IntKind.wrap_i64, hroom0, Builtin.zeroCells, storeCells]
   · have hns : ¬ (m * i.size = 0) := Nat.mul_ne_zero h0 hne
     cases base <;> simp [Builtin.append_, run_underlying ht, run_underlying hd, sizeOf, typeInfo, zeroValue, hi, hz, asInt, asIntOf, hw, hneg, hns, h48i, hroom]
theorem run_append_grow_gen {t u ty e : TypeId} {i : TypeInfo} {z : Value} (ht : P.underlying t = some (.slice e)) (hi : P.info? e = some i) (hz : i.zero = some z) {X : Value} {m : Nat} {news : List Value} (hs : Src P w u e X i.size m news) {base : Option Addr} {sLen sCap : Nat}
   {olds : List Value} (hfo : ∀ w' : World, w'.heap = w.heap → (Builtin.firstCells i.size sLen (.slice base sLen sCap)).run P w' = .ok olds.toArray w')
   (hg : sCap < sLen + m) (h63 : sLen + m ≤ 9223372036854775807) (hfit : (sLen + m) * i.bytes ≤ 140737488355328) :
   (Builtin.append_ #[t, u] ty #[.slice base sLen sCap, X]).run P w =
     .ok (.slice (some ⟨w.heap.size, 0, none⟩) (sLen + m) (grownCap w (sLen + m) sCap e))
       (w.drew.alloc (.cells ((olds ++ news) ++ (Builtin.zeroCells z.cells (grownCap w (sLen + m) sCap e - (sLen + m))).toList).toArray e)) := by
 have hfo' := hfo w.drew rfl
 have hn : ¬ (sLen + m ≤ sCap) := by omega
 have h63' : ¬ (9223372036854775807 < ((sLen : Int) + (m : Int))) := by omega
 have h48' : ¬ (281474976710656 < Builtin.nextslicecap (sLen + m) sCap * i.bytes) := by have := growslice_fits hg hfit; omega
 rcases hs.way with ⟨hty, hlen, hcells⟩ | ⟨kn, k, i', z', hd, rfl, hi', hz', hne, rfl, hb, hm⟩
 · have hf := hcells w.drew rfl
   rcases hty with ⟨d, hd⟩ | hd
   · simp [Builtin.append_, run_underlying ht, run_underlying hd, sizeOf, typeInfo, zeroValue, hi, hz, hlen, hn, h63', h48', Question.forced, hf, hfo', newRow, grownCap]
     congr 2
     apply Array.ext'
     simp
   · simp [Builtin.append_, run_underlying ht, run_underlying hd, sizeOf, typeInfo, zeroValue, hi, hz, hlen, hn, h63', h48', Question.forced, hf, hfo', newRow, grownCap]
     congr 2
     apply Array.ext'
     simp
 · obtain rfl := Option.some.inj (hi.symm.trans hi')
   obtain rfl := Option.some.inj (hz.symm.trans hz')
   have hw : IntKind.i64.wrap (m : Int) = m := by rw [IntKind.wrap_i64]; omega
   have hneg : ¬ ((m : Int) < 0) := by omega
   have h48i : ¬ (281474976710656 < (m : Int) * (i.bytes : Int)) := by
     rw [← Int.natCast_mul]
     omega
   by_cases h0 : m = 0
   · subst h0
     have hn' : ¬ (sLen ≤ sCap) := by omega
     have h63'' : ¬ (9223372036854775807 < (sLen : Int)) := by omega
     simp only [Nat.add_zero] at h48'
     simp [Builtin.append_, run_underlying ht, run_underlying hd, sizeOf, typeInfo, zeroValue, hi, hz, asInt, asIntOf, IntKind.wrap_i64, hn', h63'', h48', Question.forced, hfo', newRow, grownCap]
     congr 2
     apply Array.ext'
     simp [Builtin.zeroCells]
   · have hns : ¬ (m * i.size = 0) := Nat.mul_ne_zero h0 hne
     simp [Builtin.append_, run_underlying ht, run_underlying hd, sizeOf, typeInfo, zeroValue, hi, hz, asInt, asIntOf, hw, hn, hneg, hns, h63', h48', h48i, Question.forced, hfo', newRow, grownCap]
     congr 2
     apply Array.ext'
     simp
theorem Below.drew' (w : World) : Below w.heap.size w w.drew := (Below.refl _ _).drew
theorem append_ok (hT : TypesOk P C) {t u ty : TypeId} {i e : TInfo} (hi : C.info t = some i) (hs : i.ty = .slice) (he : C.info i.elem = some e) (hp : (e.ty.isAgg || e.ty.isOne) = true) (hr : HRel μ B h w)
   {s s' : Sl} {h' : AH} {m : Nat} {xs : List AV} {news : List Value} {X A : Value} (hsrc : Src P w u i.elem X e.size m news) (hx : CRel1 μ xs news) (hv : VRel μ (.slice s) A) (ha : h.append q e.size e.bytes s m xs = some (s', h')) :
   ∃ μ' w' y, μ.le μ' ∧ (Builtin.append_ #[t, u] ty #[A, X]).run P w = .ok y w' ∧ VRel μ' (.slice s') y ∧ HRel μ' B h' w' ∧ Below B w w' ∧ (q = true → Below w.heap.size w w') := by
 have hpl := ATy.one_or_agg hp
 have hu := hT.slice hi hs
 obtain ⟨j, _, z, hj, _, hjs, hjb, hne, hz, hzr, hzs, _⟩ := hT.get he hpl
 have hxl := hx.1.1
 rw [← hjs] at hsrc
 have hnl := hsrc.num
 unfold AH.append at ha
 rw [Bool.cond_eq_ite] at ha
 split at ha
 ·
   rename_i h0
   rw [nbeq] at h0
   subst h0
   simp at ha
   obtain ⟨rfl, rfl⟩ := ha
   have hn0 : news = [] := by simpa using hnl
   subst hn0
   cases hv with
   | nilslice => exact ⟨μ, w, _, μ.le_refl, by rw [run_append_room_gen hu hj hsrc (Nat.le_refl _)]; rfl, .nilslice, hr, Below.refl _ _, fun _ => Below.refl _ _⟩
   | noslice => exact ⟨μ, w, _, μ.le_refl, by rw [run_append_room_gen hu hj hsrc (by omega)]; rfl, .noslice, hr, Below.refl _ _, fun _ => Below.refl _ _⟩
   | @lst0 _ _ ad q1 q2 => exact ⟨μ, w, _, μ.le_refl, by rw [run_append_room_gen hu hj hsrc (by omega)]; cases ad <;> rfl, .lst0 q1 q2, hr, Below.refl _ _, fun _ => Below.refl _ _⟩
   | lst k1 k2 k3 k4 k5 k6 k7 => exact ⟨μ, w, _, μ.le_refl, by rw [run_append_room_gen hu hj hsrc (by omega)]; rfl, .lst k1 k2 k3 k4 k5 k6 k7, hr, Below.refl _ _, fun _ => Below.refl _ _⟩
   | slice k1 k2 k3 k4 k5 k6 k7 => exact ⟨μ, w, _, μ.le_refl, by rw [run_append_room_gen hu hj hsrc (by omega)]; rfl, .slice k1 k2 k3 k4 k5 k6 k7, hr, Below.refl _ _, fun _ => Below.refl _ _⟩
 · rename_i hm0
   rw [nbeq] at hm0
   rw [Bool.cond_eq_ite] at ha
   split at ha
   · cases ha
   · rename_i hroom
     simp only [Bool.not_eq_true', Bool.not_eq_false, Bool.and_eq_true, nble] at hroom
     obtain ⟨hroom', h63⟩ := hroom
     have hfresh : ∀ {cs : List AV} {olds : List Value} {w1 : World} {sLen need : Nat}, CRel1 μ cs olds → olds.length = sLen * e.size → need = sLen + m → ∀ (rest : List Value) (cap : Nat), need ≤ cap → rest.length = (cap - need) * e.size → w1.heap = w.heap → Below w.heap.size w w1 →
         ∃ μ', μ.le μ' ∧ VRel μ' (.slice (.mk ⟨h.next, 0, 0⟩ need false)) (.slice (some ⟨w.heap.size, 0, none⟩) need cap) ∧ HRel μ' B (h.push e.size (cs ++ xs)) (w1.alloc (.cells ((olds ++ news) ++ rest).toArray i.elem)) ∧ Below w.heap.size w (w1.alloc (.cells ((olds ++ news) ++ rest).toArray i.elem)) := by
       intro cs olds w1 sLen need hc hol hneed rest cap hcap hrest hw1 hb1
       have hr1 := hr.below hb1
       obtain ⟨μ', hle, hr', _, hsl⟩ := hr1.newRow e.size rest i.elem (0, 0) (hc.append hx) (.inl rfl)
       have hsz1 : w1.heap.size = w.heap.size := by rw [hw1]
       rw [hsz1] at hsl
       have hcl := hc.1.1
       refine ⟨μ', hle, hsl need cap false hcap (fun h => by cases h) ?_ ?_, hr', hb1.trans ((Below.refl _ _).alloc (by omega) _)⟩
       · rw [List.length_append, hcl, hol, hxl, hnl, hjs, ← Nat.add_mul, hneed]; exact Nat.le_refl _
       · rw [List.length_append, hol, hnl, hjs, hrest, ← Nat.add_mul, ← Nat.add_mul]
         apply Nat.mul_le_mul_right; omega
     have hzc : ∀ n, (Builtin.zeroCells z.cells n).toList.length = n * e.size := by
       intro n; simp [Builtin.zeroCells, hzs]
     cases hv with
     | nilslice =>
       simp at ha
       obtain ⟨rfl, rfl⟩ := ha
       have hfo : ∀ w' : World, w'.heap = w.heap → (Builtin.firstCells j.size 0 (.slice none 0 0)).run P w' = .ok ([] : List Value).toArray w' := fun w' _ => rfl
       simp only [Sl.len, Nat.zero_add] at hroom'
       have hneed63 : 0 + m ≤ 9223372036854775807 := by simp only [Sl.len] at h63; omega
       have hrun := run_append_grow_gen (w := w) (ty := ty) hu hj hz hsrc hfo (by omega) hneed63 (by rw [hjb]; simpa using hroom')
       obtain ⟨μ', h1, h2, h3, h4⟩ := hfresh (cs := []) (olds := []) (w1 := w.drew) (sLen := 0) (need := 0 + m) .nil (by simp) rfl (Builtin.zeroCells z.cells (grownCap w (0 + m) 0 i.elem - (0 + m))).toList _ (grownCap_ge w (0 + m) 0 i.elem) (hzc _) rfl (Below.drew' w)
       simp only [Nat.zero_add] at h2 hrun h3 h4 ⊢
       exact ⟨μ', _, _, h1, hrun, h2, h3, h4.mono hr.base, fun _ => h4⟩
     | @noslice r ad =>
       simp only [Sl.len] at hroom' h63
       simp only at ha
       cases hc : h.sliceCells e.size (.mk r 0 true) with
       | none => rw [hc] at ha; cases ha
       | some cs =>
         rw [hc] at ha
         simp at ha
         obtain ⟨rfl, rfl⟩ := ha
         obtain ⟨_, olds, o1, o2, _, o4⟩ := hr.sliceCells (VRel.noslice (μ := μ) (r := r) (a := ad)) hc
         have hfo : ∀ w' : World, w'.heap = w.heap → (Builtin.firstCells j.size 0 (.slice (some ad) 0 0)).run P w' = .ok olds.toArray w' := by
           rw [hjs]; exact run_firstCells_at w o2 (o4 ad rfl)
         have hrun := run_append_grow_gen (w := w) (ty := ty) hu hj hz hsrc hfo (by omega) (by omega) (by rw [hjb]; exact hroom')
         obtain ⟨μ', h1, h2, h3, h4⟩ := hfresh (w1 := w.drew) o1 o2 rfl (Builtin.zeroCells z.cells (grownCap w (0 + m) 0 i.elem - (0 + m))).toList _ (grownCap_ge w (0 + m) 0 i.elem) (hzc _) rfl (Below.drew' w)
         simp only [Nat.zero_add] at h2 hrun h3 h4 ⊢
         exact ⟨μ', _, _, h1, hrun, h2, h3, h4.mono hr.base, fun _ => h4⟩
     | @lst0 clip cap ad q1 q2 =>
       simp only [Sl.len, Nat.zero_add] at hroom' h63
       cases clip with
       | false => simp at ha
       | true =>
         have hc0 := q1 rfl
         subst hc0
         simp only [AH.sliceCells, Nat.zero_mul, List.length_nil, Nat.beq_refl, cond_true, o_bd, List.nil_append, Option.some.injEq, Prod.mk.injEq, Nat.zero_add] at ha
         obtain ⟨rfl, rfl⟩ := ha
         have hfo : ∀ w' : World, w'.heap = w.heap → (Builtin.firstCells j.size 0 (.slice ad 0 0)).run P w' = .ok ([] : List Value).toArray w' := fun w' _ => by
           cases ad <;> simp [Builtin.firstCells, loadCells, loadCellsFrom]
         have hrun := run_append_grow_gen (w := w) (ty := ty) hu hj hz hsrc hfo (by omega) (by omega) (by rw [hjb]; simpa using hroom')
         obtain ⟨μ', h1, h2, h3, h4⟩ := hfresh (cs := []) (olds := []) (w1 := w.drew) (sLen := 0) (need := 0 + m) .nil (by simp) rfl (Builtin.zeroCells z.cells (grownCap w (0 + m) 0 i.elem - (0 + m))).toList _ (grownCap_ge w (0 + m) 0 i.elem) (hzc _) rfl (Below.drew' w)
         simp only [Nat.zero_add, List.nil_append] at h2 hrun h3 h4 ⊢
         exact ⟨μ', _, _, h1, hrun, h2, h3, h4.mono hr.base, fun _ => h4⟩
     | @lst len clip cs0 cap ad arr f1 f2 f3 f4 f5 f6 f7 =>
       simp only [Sl.len] at hroom' h63
       cases clip with
       | false => simp at ha
       | true =>
         have hcap := f4 rfl
         subst hcap
         simp only at ha
         cases hc : h.sliceCells e.size (.lst cap true cs0) with
         | none => rw [hc] at ha; cases ha
         | some cs =>
           rw [hc] at ha
           simp at ha
           obtain ⟨rfl, rfl⟩ := ha
           have hv' : VRel μ (.slice (.lst cap true cs0)) (.slice (some ad) cap cap) := .lst f1 f2 f3 f4 f5 f6 f7
           obtain ⟨_, olds, o1, o2, _, o4⟩ := hr.sliceCells hv' hc
           have hfo : ∀ w' : World, w'.heap = w.heap → (Builtin.firstCells j.size cap (.slice (some ad) cap cap)).run P w' = .ok olds.toArray w' := by
             rw [hjs]; exact run_firstCells_at w o2 (o4 ad rfl)
           have hrun := run_append_grow_gen (w := w) (ty := ty) hu hj hz hsrc hfo (by omega) (by omega) (by rw [hjb]; exact hroom')
           obtain ⟨μ', h1, h2, h3, h4⟩ := hfresh (w1 := w.drew) o1 o2 rfl (Builtin.zeroCells z.cells (grownCap w (cap + m) cap i.elem - (cap + m))).toList _ (grownCap_ge w (cap + m) cap i.elem) (hzc _) rfl (Below.drew' w)
           exact ⟨μ', _, _, h1, hrun, h2, h3, h4.mono hr.base, fun _ => h4⟩
     | @slice r len clip ii gi ad cap k1 k2 k3 k4 k5 k6 k7 =>
       simp only [Sl.len] at hroom' h63
       cases clip with
       | true =>
         have hcap := k5 rfl
         subst hcap
         simp only at ha
         cases hc : h.sliceCells e.size (.mk r cap true) with
         | none => rw [hc] at ha; cases ha
         | some cs =>
           rw [hc] at ha
           simp at ha
           obtain ⟨rfl, rfl⟩ := ha
           have hv' : VRel μ (.slice (.mk r cap true)) (.slice (some ad) cap cap) := .slice k1 k2 k3 k4 k5 k6 k7
           obtain ⟨_, olds, o1, o2, _, o4⟩ := hr.sliceCells hv' hc
           have hfo : ∀ w' : World, w'.heap = w.heap → (Builtin.firstCells j.size cap (.slice (some ad) cap cap)).run P w' = .ok olds.toArray w' := by
             rw [hjs]; exact run_firstCells_at w o2 (o4 ad rfl)
           have hrun := run_append_grow_gen (w := w) (ty := ty) hu hj hz hsrc hfo (by omega) (by omega) (by rw [hjb]; exact hroom')
           obtain ⟨μ', h1, h2, h3, h4⟩ := hfresh (w1 := w.drew) o1 o2 rfl (Builtin.zeroCells z.cells (grownCap w (cap + m) cap i.elem - (cap + m))).toList _ (grownCap_ge w (cap + m) cap i.elem) (hzc _) rfl (Below.drew' w)
           exact ⟨μ', _, _, h1, hrun, h2, h3, h4.mono hr.base, fun _ => h4⟩
       | false =>
         simp only at ha
         split at ha
         · cases ha
         rename_i row hrow
         rw [Bool.cond_eq_ite] at ha
         split at ha
         case isFalse => cases ha
         rename_i hcond
         simp only [Bool.and_eq_true, Bool.not_eq_true', nbeq, nble] at hcond
         obtain ⟨⟨⟨⟨⟨hq, hro⟩, hsz⟩, hval⟩, hgen⟩, hen⟩ := hcond
         simp only [Option.some.injEq, Prod.mk.injEq] at ha
         obtain ⟨rfl, rfl⟩ := ha
         have hR := hr.row _ ii row k1 hrow
         have hG := hR.gen _ gi k2
         have hii : ii.sz = e.size := by rw [hR.sz, hsz]
         rw [hii] at k6 k7
         have hlt : r.gen < ii.gens.length := (List.getElem?_eq_some_iff.1 k2).1
         obtain ⟨c, ce, fz, b1, b2, _, b3, b4⟩ := hG.block
         obtain ⟨b5, b6⟩ := b4 hval
         have hfits := hG.fits
         have hvalid : (bif Nat.beq r.gen row.gen && Nat.beq (r.off + len * e.size) row.cells.length then row.valid else row.gen + 1) = row.gen + 1 ∨
             ((bif Nat.beq r.gen row.gen && Nat.beq (r.off + len * e.size) row.cells.length then row.valid else row.gen + 1) = row.valid ∧ r.off + len * e.size = row.cells.length) := by
           rw [Bool.cond_eq_ite]
           split
           · rename_i hc; simp only [Bool.and_eq_true, nbeq] at hc; exact .inr ⟨rfl, hc.2⟩
           · exact .inl rfl
         generalize hvd : (bif Nat.beq r.gen row.gen && Nat.beq (r.off + len * e.size) row.cells.length then row.valid else row.gen + 1) = valid at hvalid ⊢
         have hother : ∀ b, b = gi.block → ∀ (j' : Nat) jj row' (g : Nat) gj, j' ≠ r.id → μ.rows[j']? = some jj → h.rows[j']? = some row' → jj.gens[g]? = some gj → gj.block ≠ b := by
           intro b hb j' jj row' g gj hne h1 h2 h3
           rw [hb]
           exact hr.sep _ _ _ _ _ _ _ _ _ _ hne h1 k1 h2 hrow (.inr hro) h3 k2
         have hgl := hR.len
         have hnewget : ∀ gn : GenInfo, (μ.grow r.id gn).rows[r.id]? = some { ii with gens := ii.gens ++ [gn] } ∧ (ii.gens ++ [gn])[row.gen + 1]? = some gn := by
           intro gn
           refine ⟨?_, (zaa _ _ _ _).2 (.inr ⟨hgl.symm, rfl⟩)⟩
           have k1' := k1
           simp only [Mu.grow, List.getElem?_modify, k1']
           simp
         have hmulsz : (len + m) * e.size = len * e.size + m * e.size := Nat.add_mul ..
         have hxm : xs.length = m * e.size := by rw [hxl, hnl, hjs]
         by_cases hin : len + m ≤ cap
         ·
           rcases k7 with h0 | ⟨rfl, hfit⟩
           · omega
           have hcapsz : (len + m) * e.size ≤ cap * e.size := Nat.mul_le_mul_right _ hin
           have hrun0 := run_append_room_gen (w := w) (ty := ty) hu hj hsrc (base := some (gi.spot r.off)) (sLen := len) (sCap := cap) hin
           have hspot : (gi.spot r.off).add (len * j.size) = ⟨gi.block, gi.off + (r.off + len * e.size - gi.lo), none⟩ := by rw [hjs, spot_add gi k3]; rfl
           have hfz : ∀ o, o < c.size → ¬ (fz.1 ≤ o ∧ o < fz.2) := by rw [b2]; exact fun o ho => (b3 hro).2.not ho
           have hfit2 : gi.off + (r.off + len * e.size - gi.lo) + 0 + news.length ≤ c.size := by
             rw [b2, hnl, hjs]; omega
           have hst := run_storeCells_fz (P := P) gi.block (gi.off + (r.off + len * e.size - gi.lo)) ce fz news 0 c w b1 hfz hfit2 hx.2
           simp only [Nat.add_zero] at hst
           generalize hcur : (c.toList.take (gi.off + (r.off + len * e.size - gi.lo)) ++ news ++ c.toList.drop (gi.off + (r.off + len * e.size - gi.lo) + news.length)).toArray = cur at hst
           simp only [hspot, hst, Result.andThen_ok] at hrun0
           have hcursz : cur.size = c.size := by
             rw [← hcur]; simp at hfit2 ⊢; omega
           have hcurget : ∀ k, cur[k]? = if k < gi.off + (r.off + len * e.size - gi.lo) then c[k]? else if k < gi.off + (r.off + len * e.size - gi.lo) + news.length then news[k - (gi.off + (r.off + len * e.size - gi.lo))]? else c[k]? := by
             intro k
             rw [← hcur]
             have := overlay_get c.toList (gi.off + (r.off + len * e.size - gi.lo)) news k (by simpa using hfit2)
             simpa using this
           have hheap : (w.setRow gi.block cur).heap[gi.block]? = some (.cells cur ce fz) := setRow_heap _ _ _ _ _ _ b1
           refine ⟨μ.grow r.id ⟨gi.block, gi.off, gi.lo, r.off + len * e.size + xs.length, gi.size⟩, _, _, μ.le_grow _ _, hrun0, ?_, ?_, below_setRow (b3 hro).1 _, fun h9 => by rw [hq] at h9; cases h9⟩
           · refine .slice (gi := ⟨gi.block, gi.off, gi.lo, r.off + len * e.size + xs.length, gi.size⟩) (hnewget _).1 (hnewget _).2 k3 hin (fun h9 => by cases h9) ?_ (.inr ⟨rfl, ?_⟩)
             · simp only [hii]; omega
             · simp only [hii]; exact hfit
           · have := hr.grow (w' := w.setRow gi.block cur) k1 hrow hro ⟨gi.block, gi.off, gi.lo, r.off + len * e.size + xs.length, gi.size⟩ (r.off + len * e.size) xs valid hen hvalid (ty := none) (.inl rfl) rfl (by simp; omega)
               (fun k _ hk => setRow_heap_other _ _ _ _ hk) (by simp) (fun g gi' hg' hb' => hR.same g r.gen gi' gi hg' k2 hb') (hother _ rfl)
               (fun m' b' hm' => fun e9 => by
                 have hlt' : m' < h.maps.length := by rw [← hr.mlen]; exact (List.getElem?_eq_some_iff.1 hm').1
                 obtain ⟨_, ds, cl, h8, _⟩ := hr.map m' b' _ hm' (List.getElem?_eq_getElem hlt')
                 rw [e9, b1] at h8; cases h8)
               (fun b' arr' hb' => (hr.fz.frz b' arr' hb').2 _ _ _ _ gi k1 hrow hro k2)
               ?_ ?_
             · rw [hro] at this; exact this
             · refine ⟨by simp; omega, by simp; omega, cur, ce, fz, hheap, by rw [hcursz, b2], (fun T hT => by cases hT), fun h9 => b3 hro, fun _ => ⟨by simp; omega, fun i' v' g1 g2 g3 => ?_⟩⟩
               simp only at g1 g2 g3 ⊢
               rw [hcurget]
               by_cases h9 : i' < r.off + len * e.size
               · rw [if_pos (by omega)]
                 rw [List.getElem?_append_left (by simp; omega), List.getElem?_take, if_pos h9] at g3
                 obtain ⟨x, q1, q2, q3⟩ := b6 i' v' g1 (by omega) g3
                 exact ⟨x, q1, q2.mono (μ.le_grow _ _), q3⟩
               · rw [if_neg (by omega), if_pos (by omega)]
                 rw [List.getElem?_append_right (by simp; omega)] at g3
                 have e8 : i' - (row.cells.take (r.off + len * e.size)).length = i' - (r.off + len * e.size) := by simp; omega
                 rw [e8] at g3
                 obtain ⟨x, q1, q2, q3⟩ := hx.get g3
                 refine ⟨x, ?_, q2.mono (μ.le_grow _ _), q3⟩
                 rw [← q1]; congr 1; omega
             · intro g gi' hg' hb'
               obtain ⟨s1, s2, s3⟩ := hR.same g r.gen gi' gi hg' k2 hb'
               refine ⟨c, cur, ce, fz, by rw [show gi'.block = gi.block from hb']; exact b1, by rw [show gi'.block = gi.block from hb']; exact hheap, hcursz, fun hv9 hvg i' g1 g2 => ?_⟩
               rw [hcurget, if_pos]
               have hG' := hR.gen g gi' hg'
               obtain ⟨_, _, _, _, _, _, _, m4⟩ := hG'.block
               have hle9 : gi'.ext ≤ row.cells.length := (m4 hvg).1
               have hen9 : row.cells.length = r.off + len * e.size := by
                 rcases hvalid with h9 | ⟨_, h9⟩
                 · have := hR.val; omega
                 · exact h9.symm
               omega
         ·
           have hcap : cap < len + m := by omega
           have hv' : VRel μ (.slice (.mk r len false)) (.slice (some ad) len cap) := .slice k1 k2 k3 k4 k5 (by rw [hii]; exact k6) (by rw [hii]; exact k7)
           have hcells : ∃ olds : List Value, CRel1 μ ((row.cells.drop r.off).take (len * e.size)) olds ∧ olds.length = len * e.size ∧ ∀ w' : World, w'.heap = w.heap → (Builtin.firstCells j.size len (.slice (some ad) len cap)).run P w' = .ok olds.toArray w' := by
             by_cases hl0 : len = 0
             · subst hl0
               refine ⟨[], by simp; exact .nil, by simp, fun w' _ => ?_⟩
               simp [Builtin.firstCells, loadCells, loadCellsFrom]
             · have hspan : h.span r (len * e.size) = some ((row.cells.drop r.off).take (len * e.size)) := by
                 unfold AH.span AH.live
                 rw [hrow]
                 simp only [Bool.cond_eq_ite, Bool.and_eq_true, nble]
                 rw [if_pos ⟨hval, hgen⟩, o_bd, if_pos hen]
               obtain ⟨olds, o1, o2, o3⟩ := hr.span k1 k2 k3 k6 hspan
               refine ⟨olds, o1, o2, ?_⟩
               rw [hjs]
               rcases k7 with h0 | ⟨rfl, _⟩
               · omega
               · exact run_firstCells_at w o2 o3
           obtain ⟨olds, o1, o2, hfo⟩ := hcells
           have hrun := run_append_grow_gen (w := w) (ty := ty) hu hj hz hsrc hfo hcap (by omega) (by rw [hjb]; exact hroom')
           have hge := grownCap_ge w (len + m) cap i.elem
           generalize hgc : grownCap w (len + m) cap i.elem = gc at hrun hge
           generalize hrest : (Builtin.zeroCells z.cells (gc - (len + m))).toList = rest at hrun
           have hrl : rest.length = (gc - (len + m)) * e.size := by rw [← hrest]; exact hzc _
           have htot : olds.length + news.length + rest.length = gc * e.size := by
             rw [o2, hnl, hjs, hrl, ← Nat.add_mul, ← Nat.add_mul]; congr 1; omega
           have hheap : (w.drew.alloc (.cells ((olds ++ news) ++ rest).toArray i.elem)).heap[w.heap.size]? = some (.cells ((olds ++ news) ++ rest).toArray i.elem (0, 0)) := heap_alloc_new w.drew _
           have hbel : Below w.heap.size w (w.drew.alloc (.cells ((olds ++ news) ++ rest).toArray i.elem)) := (Below.drew' w).trans (below_alloc' w.drew _)
           have hgcs : (len + m) * e.size ≤ gc * e.size := Nat.mul_le_mul_right _ hge
           refine ⟨μ.grow r.id ⟨w.heap.size, 0, r.off, r.off + len * e.size + xs.length, gc * e.size⟩, _, _, μ.le_grow _ _, hrun, ?_, ?_, hbel.mono hr.base, fun h9 => by rw [hq] at h9; cases h9⟩
           · refine .slice (gi := ⟨w.heap.size, 0, r.off, r.off + len * e.size + xs.length, gc * e.size⟩) (hnewget _).1 (hnewget _).2 (Nat.le_refl _) hge (fun h9 => by cases h9) ?_ (.inr ⟨?_, ?_⟩)
             · simp only [hii]; omega
             · simp [GenInfo.spot]
             · simp only [hii]; simp
           · have := hr.grow (w' := w.drew.alloc (.cells ((olds ++ news) ++ rest).toArray i.elem)) k1 hrow hro ⟨w.heap.size, 0, r.off, r.off + len * e.size + xs.length, gc * e.size⟩ (r.off + len * e.size) xs valid hen hvalid (ty := none) (.inl rfl) rfl (by simp)
               (fun k hk _ => hbel.block k hk) hbel.size (fun g gi' hg' hb' => by have := (hR.gen g gi' hg').lt; simp at hb'; omega)
               (fun j' jj row' g gj hne h1 h2 h3 => by have := ((hr.row j' jj row' h1 h2).gen g gj h3).lt; simp; omega)
               (fun m' b' hm' => by
                 have hlt' : m' < h.maps.length := by rw [← hr.mlen]; exact (List.getElem?_eq_some_iff.1 hm').1
                 obtain ⟨_, ds, cl, h8, _⟩ := hr.map m' b' _ hm' (List.getElem?_eq_getElem hlt')
                 have := (Array.getElem?_eq_some_iff.1 h8).1
                 simp; omega)
               (fun b' arr' hb' => by have := hr.fz.lt hb'; simp; omega)
               ?_ ?_
             · rw [hro] at this; exact this
             · refine ⟨by simp; omega, by simp; omega, _, _, _, hheap, by simp; omega, (fun T hT => by cases hT), fun _ => ⟨hr.base, .inl rfl⟩, fun _ => ⟨by simp; omega, fun i' v' g1 g2 g3 => ?_⟩⟩
               simp only at g1 g2 g3 ⊢
               have hrel := o1.append hx
               have g4 : ((row.cells.drop r.off).take (len * e.size) ++ xs)[i' - r.off]? = some v' := by
                 by_cases h9 : i' < r.off + len * e.size
                 · rw [List.getElem?_append_left (by simp; omega), List.getElem?_take, if_pos h9] at g3
                   rw [List.getElem?_append_left (by simp; omega), List.getElem?_take, if_pos (by omega), List.getElem?_drop, ← g3]
                   congr 1; omega
                 · rw [List.getElem?_append_right (by simp; omega)] at g3
                   rw [List.getElem?_append_right (by simp; omega), ← g3]
                   congr 1
                   simp; omega
               obtain ⟨x, q1, q2, q3⟩ := hrel.get g4
               refine ⟨x, ?_, q2.mono (μ.le_grow _ _), q3⟩
               have hlt9 := (List.getElem?_eq_some_iff.1 q1).1
               simp only [Nat.zero_add, List.getElem?_toArray]
               rw [List.getElem?_append_left hlt9]
               exact q1
             · intro g gi' hg' hb'
               have := (hR.gen g gi' hg').lt
               simp at hb'
               omega
theorem appendT_ok (hT : TypesOk P C) {t u ty : TypeId} {i e : TInfo} (hi : C.info t = some i) (hs : i.ty = .slice) (he : C.info i.elem = some e) (hp : (e.ty.isAgg || e.ty.isOne) = true) (hr : HRel μ B h w)
   {s s' : Sl} {h' : AH} {m : Nat} {xs : List AV} {news : List Value} {X A : Value} (hsrc : Src P w u i.elem X e.size m news) (hx : CRel1 μ xs news) (hv : VRel μ (.slice s) A) (ha : h.appendT q i.elem e.size e.bytes s m xs = some (s', h')) :
   ∃ μ' w' y, μ.le μ' ∧ (Builtin.append_ #[t, u] ty #[A, X]).run P w = .ok y w' ∧ VRel μ' (.slice s') y ∧ HRel μ' B h' w' ∧ Below B w w' ∧ (q = true → Below w.heap.size w w') := by
 have hpl := ATy.one_or_agg hp
 have hu := hT.slice hi hs
 obtain ⟨j, _, z, hj, _, hjs, hjb, hne, hz, hzr, hzs, _⟩ := hT.get he hpl
 have hxl := hx.1.1
 rw [← hjs] at hsrc
 have hnl := hsrc.num
 unfold AH.appendT at ha
 rw [Bool.cond_eq_ite] at ha
 split at ha
 ·
   rename_i h0
   rw [nbeq] at h0
   subst h0
   simp at ha
   obtain ⟨rfl, rfl⟩ := ha
   have hn0 : news = [] := by simpa using hnl
   subst hn0
   cases hv with
   | nilslice => exact ⟨μ, w, _, μ.le_refl, by rw [run_append_room_gen hu hj hsrc (Nat.le_refl _)]; rfl, .nilslice, hr, Below.refl _ _, fun _ => Below.refl _ _⟩
   | noslice => exact ⟨μ, w, _, μ.le_refl, by rw [run_append_room_gen hu hj hsrc (by omega)]; rfl, .noslice, hr, Below.refl _ _, fun _ => Below.refl _ _⟩
   | @lst0 _ _ ad q1 q2 => exact ⟨μ, w, _, μ.le_refl, by rw [run_append_room_gen hu hj hsrc (by omega)]; cases ad <;> rfl, .lst0 q1 q2, hr, Below.refl _ _, fun _ => Below.refl _ _⟩
   | lst k1 k2 k3 k4 k5 k6 k7 => exact ⟨μ, w, _, μ.le_refl, by rw [run_append_room_gen hu hj hsrc (by omega)]; rfl, .lst k1 k2 k3 k4 k5 k6 k7, hr, Below.refl _ _, fun _ => Below.refl _ _⟩
   | slice k1 k2 k3 k4 k5 k6 k7 => exact ⟨μ, w, _, μ.le_refl, by rw [run_append_room_gen hu hj hsrc (by omega)]; rfl, .slice k1 k2 k3 k4 k5 k6 k7, hr, Below.refl _ _, fun _ => Below.refl _ _⟩
 · rename_i hm0
   rw [nbeq] at hm0
   rw [Bool.cond_eq_ite] at ha
   split at ha
   · cases ha
   · rename_i hroom
     simp only [Bool.not_eq_true', Bool.not_eq_false, Bool.and_eq_true, nble] at hroom
     obtain ⟨hroom', h63⟩ := hroom
     have hfresh : ∀ {cs : List AV} {olds : List Value} {w1 : World} {sLen need : Nat}, CRel1 μ cs olds → olds.length = sLen * e.size → need = sLen + m → ∀ (rest : List Value) (cap : Nat), need ≤ cap → rest.length = (cap - need) * e.size → w1.heap = w.heap → Below w.heap.size w w1 →
         ∃ μ', μ.le μ' ∧ VRel μ' (.slice (.mk ⟨h.next, 0, 0⟩ need false)) (.slice (some ⟨w.heap.size, 0, none⟩) need cap) ∧ HRel μ' B (h.pushT (i.elem, 0) e.size (cs ++ xs)) (w1.alloc (.cells ((olds ++ news) ++ rest).toArray i.elem)) ∧ Below w.heap.size w (w1.alloc (.cells ((olds ++ news) ++ rest).toArray i.elem)) := by
       intro cs olds w1 sLen need hc hol hneed rest cap hcap hrest hw1 hb1
       have hr1 := hr.below hb1
       obtain ⟨μ', hle, hr', _, hsl⟩ := hr1.newRowT 0 e.size rest i.elem (0, 0) (hc.append hx) (.inl rfl) (fun h9 => absurd rfl h9)
       have hsz1 : w1.heap.size = w.heap.size := by rw [hw1]
       rw [hsz1] at hsl
       have hcl := hc.1.1
       refine ⟨μ', hle, hsl need cap false hcap (fun h => by cases h) ?_ ?_, hr', hb1.trans ((Below.refl _ _).alloc (by omega) _)⟩
       · rw [List.length_append, hcl, hol, hxl, hnl, hjs, ← Nat.add_mul, hneed]; exact Nat.le_refl _
       · rw [List.length_append, hol, hnl, hjs, hrest, ← Nat.add_mul, ← Nat.add_mul]
         apply Nat.mul_le_mul_right; omega
     have hzc : ∀ n, (Builtin.zeroCells z.cells n).toList.length = n * e.size := by
       intro n; simp [Builtin.zeroCells, hzs]
     cases hv with
     | nilslice =>
       simp at ha
       obtain ⟨rfl, rfl⟩ := ha
       have hfo : ∀ w' : World, w'.heap = w.heap → (Builtin.firstCells j.size 0 (.slice none 0 0)).run P w' = .ok ([] : List Value).toArray w' := fun w' _ => rfl
       simp only [Sl.len, Nat.zero_add] at hroom'
       have hneed63 : 0 + m ≤ 9223372036854775807 := by simp only [Sl.len] at h63; omega
       have hrun := run_append_grow_gen (w := w) (ty := ty) hu hj hz hsrc hfo (by omega) hneed63 (by rw [hjb]; simpa using hroom')
       obtain ⟨μ', h1, h2, h3, h4⟩ := hfresh (cs := []) (olds := []) (w1 := w.drew) (sLen := 0) (need := 0 + m) .nil (by simp) rfl (Builtin.zeroCells z.cells (grownCap w (0 + m) 0 i.elem - (0 + m))).toList _ (grownCap_ge w (0 + m) 0 i.elem) (hzc _) rfl (Below.drew' w)
       simp only [Nat.zero_add] at h2 hrun h3 h4 ⊢
       exact ⟨μ', _, _, h1, hrun, h2, h3, h4.mono hr.base, fun _ => h4⟩
     | @noslice r ad => simp at ha
     | @lst0 clip cap ad q1 q2 => simp at ha
     | @lst len clip cs0 cap ad arr f1 f2 f3 f4 f5 f6 f7 => simp at ha
     | @slice r len clip ii gi ad cap k1 k2 k3 k4 k5 k6 k7 =>
       simp only [Sl.len] at hroom' h63
       cases clip with
       | true => simp at ha
       | false =>
         simp only at ha
         split at ha
         · cases ha
         rename_i row hrow
         rw [Bool.cond_eq_ite] at ha
         split at ha
         case isFalse => cases ha
         rename_i hcond
         simp only [Bool.and_eq_true, Bool.not_eq_true', nbeq, nble, decide_eq_true_eq] at hcond
         obtain ⟨⟨⟨⟨⟨⟨⟨hq, hro⟩, hsz⟩, hval⟩, hgen⟩, hen⟩, hoff⟩, hrty⟩ := hcond
         simp only [Option.some.injEq, Prod.mk.injEq] at ha
         obtain ⟨rfl, rfl⟩ := ha
         have hR := hr.row _ ii row k1 hrow
         have hG := hR.gen _ gi k2
         have hii : ii.sz = e.size := by rw [hR.sz, hsz]
         rw [hii] at k6 k7
         have hlt : r.gen < ii.gens.length := (List.getElem?_eq_some_iff.1 k2).1
         obtain ⟨c, ce, fz, b1, b2, bt, b3, b4⟩ := hG.block
         obtain ⟨bt1, bt2, bt3, _⟩ := bt _ hrty
         simp only at bt1
         obtain ⟨b5, b6⟩ := b4 hval
         have hfits := hG.fits
         have hvalid : (bif Nat.beq r.gen row.gen && Nat.beq (r.off + len * e.size) row.cells.length then row.valid else row.gen + 1) = row.gen + 1 ∨
             ((bif Nat.beq r.gen row.gen && Nat.beq (r.off + len * e.size) row.cells.length then row.valid else row.gen + 1) = row.valid ∧ r.off + len * e.size = row.cells.length) := by
           rw [Bool.cond_eq_ite]
           split
           · rename_i hc; simp only [Bool.and_eq_true, nbeq] at hc; exact .inr ⟨rfl, hc.2⟩
           · exact .inl rfl
         generalize hvd : (bif Nat.beq r.gen row.gen && Nat.beq (r.off + len * e.size) row.cells.length then row.valid else row.gen + 1) = valid at hvalid ⊢
         have hother : ∀ b, b = gi.block → ∀ (j' : Nat) jj row' (g : Nat) gj, j' ≠ r.id → μ.rows[j']? = some jj → h.rows[j']? = some row' → jj.gens[g]? = some gj → gj.block ≠ b := by
           intro b hb j' jj row' g gj hne h1 h2 h3
           rw [hb]
           exact hr.sep _ _ _ _ _ _ _ _ _ _ hne h1 k1 h2 hrow (.inr hro) h3 k2
         have hgl := hR.len
         have hnewget : ∀ gn : GenInfo, (μ.grow r.id gn).rows[r.id]? = some { ii with gens := ii.gens ++ [gn] } ∧ (ii.gens ++ [gn])[row.gen + 1]? = some gn := by
           intro gn
           refine ⟨?_, (zaa _ _ _ _).2 (.inr ⟨hgl.symm, rfl⟩)⟩
           have k1' := k1
           simp only [Mu.grow, List.getElem?_modify, k1']
           simp
         have hmulsz : (len + m) * e.size = len * e.size + m * e.size := Nat.add_mul ..
         have hxm : xs.length = m * e.size := by rw [hxl, hnl, hjs]
         by_cases hin : len + m ≤ cap
         ·
           rcases k7 with h0 | ⟨rfl, hfit⟩
           · omega
           have hcapsz : (len + m) * e.size ≤ cap * e.size := Nat.mul_le_mul_right _ hin
           have hrun0 := run_append_room_gen (w := w) (ty := ty) hu hj hsrc (base := some (gi.spot r.off)) (sLen := len) (sCap := cap) hin
           have hspot : (gi.spot r.off).add (len * j.size) = ⟨gi.block, gi.off + (r.off + len * e.size - gi.lo), none⟩ := by rw [hjs, spot_add gi k3]; rfl
           have hfz : ∀ o, o < c.size → ¬ (fz.1 ≤ o ∧ o < fz.2) := by rw [b2]; exact fun o ho => (b3 hro).2.not ho
           have hfit2 : gi.off + (r.off + len * e.size - gi.lo) + 0 + news.length ≤ c.size := by
             rw [b2, hnl, hjs]; omega
           have hst := run_storeCells_fz (P := P) gi.block (gi.off + (r.off + len * e.size - gi.lo)) ce fz news 0 c w b1 hfz hfit2 hx.2
           simp only [Nat.add_zero] at hst
           generalize hcur : (c.toList.take (gi.off + (r.off + len * e.size - gi.lo)) ++ news ++ c.toList.drop (gi.off + (r.off + len * e.size - gi.lo) + news.length)).toArray = cur at hst
           simp only [hspot, hst, Result.andThen_ok] at hrun0
           have hcursz : cur.size = c.size := by
             rw [← hcur]; simp at hfit2 ⊢; omega
           have hcurget : ∀ k, cur[k]? = if k < gi.off + (r.off + len * e.size - gi.lo) then c[k]? else if k < gi.off + (r.off + len * e.size - gi.lo) + news.length then news[k - (gi.off + (r.off + len * e.size - gi.lo))]? else c[k]? := by
             intro k
             rw [← hcur]
             have := overlay_get c.toList (gi.off + (r.off + len * e.size - gi.lo)) news k (by simpa using hfit2)
             simpa using this
           have hheap : (w.setRow gi.block cur).heap[gi.block]? = some (.cells cur ce fz) := setRow_heap _ _ _ _ _ _ b1
           refine ⟨μ.grow r.id ⟨gi.block, gi.off, gi.lo, r.off + len * e.size + xs.length, gi.size⟩, _, _, μ.le_grow _ _, hrun0, ?_, ?_, below_setRow (b3 hro).1 _, fun h9 => by rw [hq] at h9; cases h9⟩
           · refine .slice (gi := ⟨gi.block, gi.off, gi.lo, r.off + len * e.size + xs.length, gi.size⟩) (hnewget _).1 (hnewget _).2 k3 hin (fun h9 => by cases h9) ?_ (.inr ⟨rfl, ?_⟩)
             · simp only [hii]; omega
             · simp only [hii]; exact hfit
           · have := hr.grow (w' := w.setRow gi.block cur) k1 hrow hro ⟨gi.block, gi.off, gi.lo, r.off + len * e.size + xs.length, gi.size⟩ (r.off + len * e.size) xs valid hen hvalid (ty := some (i.elem, 0)) (.inr hrty.symm) rfl (by simp; omega)
               (fun k _ hk => setRow_heap_other _ _ _ _ hk) (by simp) (fun g gi' hg' hb' => hR.same g r.gen gi' gi hg' k2 hb') (hother _ rfl)
               (fun m' b' hm' => fun e9 => by
                 have hlt' : m' < h.maps.length := by rw [← hr.mlen]; exact (List.getElem?_eq_some_iff.1 hm').1
                 obtain ⟨_, ds, cl, h8, _⟩ := hr.map m' b' _ hm' (List.getElem?_eq_getElem hlt')
                 rw [e9, b1] at h8; cases h8)
               (fun b' arr' hb' => (hr.fz.frz b' arr' hb').2 _ _ _ _ gi k1 hrow hro k2)
               ?_ ?_
             · rw [hro] at this; exact this
             · refine ⟨by simp; omega, by simp; omega, cur, ce, fz, hheap, by rw [hcursz, b2], (fun T hT => by cases hT; exact ⟨bt1, bt2, bt3, fun h9 => absurd rfl h9⟩), fun h9 => b3 hro, fun _ => ⟨by simp; omega, fun i' v' g1 g2 g3 => ?_⟩⟩
               simp only at g1 g2 g3 ⊢
               rw [hcurget]
               by_cases h9 : i' < r.off + len * e.size
               · rw [if_pos (by omega)]
                 rw [List.getElem?_append_left (by simp; omega), List.getElem?_take, if_pos h9] at g3
                 obtain ⟨x, q1, q2, q3⟩ := b6 i' v' g1 (by omega) g3
                 exact ⟨x, q1, q2.mono (μ.le_grow _ _), q3⟩
               · rw [if_neg (by omega), if_pos (by omega)]
                 rw [List.getElem?_append_right (by simp; omega)] at g3
                 have e8 : i' - (row.cells.take (r.off + len * e.size)).length = i' - (r.off + len * e.size) := by simp; omega
                 rw [e8] at g3
                 obtain ⟨x, q1, q2, q3⟩ := hx.get g3
                 refine ⟨x, ?_, q2.mono (μ.le_grow _ _), q3⟩
                 rw [← q1]; congr 1; omega
             · intro g gi' hg' hb'
               obtain ⟨s1, s2, s3⟩ := hR.same g r.gen gi' gi hg' k2 hb'
               refine ⟨c, cur, ce, fz, by rw [show gi'.block = gi.block from hb']; exact b1, by rw [show gi'.block = gi.block from hb']; exact hheap, hcursz, fun hv9 hvg i' g1 g2 => ?_⟩
               rw [hcurget, if_pos]
               have hG' := hR.gen g gi' hg'
               obtain ⟨_, _, _, _, _, _, _, m4⟩ := hG'.block
               have hle9 : gi'.ext ≤ row.cells.length := (m4 hvg).1
               have hen9 : row.cells.length = r.off + len * e.size := by
                 rcases hvalid with h9 | ⟨_, h9⟩
                 · have := hR.val; omega
                 · exact h9.symm
               omega
         ·
           have hcap : cap < len + m := by omega
           have hv' : VRel μ (.slice (.mk r len false)) (.slice (some ad) len cap) := .slice k1 k2 k3 k4 k5 (by rw [hii]; exact k6) (by rw [hii]; exact k7)
           have hcells : ∃ olds : List Value, CRel1 μ ((row.cells.drop r.off).take (len * e.size)) olds ∧ olds.length = len * e.size ∧ ∀ w' : World, w'.heap = w.heap → (Builtin.firstCells j.size len (.slice (some ad) len cap)).run P w' = .ok olds.toArray w' := by
             by_cases hl0 : len = 0
             · subst hl0
               refine ⟨[], by simp; exact .nil, by simp, fun w' _ => ?_⟩
               simp [Builtin.firstCells, loadCells, loadCellsFrom]
             · have hspan : h.span r (len * e.size) = some ((row.cells.drop r.off).take (len * e.size)) := by
                 unfold AH.span AH.live
                 rw [hrow]
                 simp only [Bool.cond_eq_ite, Bool.and_eq_true, nble]
                 rw [if_pos ⟨hval, hgen⟩, o_bd, if_pos hen]
               obtain ⟨olds, o1, o2, o3⟩ := hr.span k1 k2 k3 k6 hspan
               refine ⟨olds, o1, o2, ?_⟩
               rw [hjs]
               rcases k7 with h0 | ⟨rfl, _⟩
               · omega
               · exact run_firstCells_at w o2 o3
           obtain ⟨olds, o1, o2, hfo⟩ := hcells
           have hrun := run_append_grow_gen (w := w) (ty := ty) hu hj hz hsrc hfo hcap (by omega) (by rw [hjb]; exact hroom')
           have hge := grownCap_ge w (len + m) cap i.elem
           generalize hgc : grownCap w (len + m) cap i.elem = gc at hrun hge
           generalize hrest : (Builtin.zeroCells z.cells (gc - (len + m))).toList = rest at hrun
           have hrl : rest.length = (gc - (len + m)) * e.size := by rw [← hrest]; exact hzc _
           have htot : olds.length + news.length + rest.length = gc * e.size := by
             rw [o2, hnl, hjs, hrl, ← Nat.add_mul, ← Nat.add_mul]; congr 1; omega
           have hheap : (w.drew.alloc (.cells ((olds ++ news) ++ rest).toArray i.elem)).heap[w.heap.size]? = some (.cells ((olds ++ news) ++ rest).toArray i.elem (0, 0)) := heap_alloc_new w.drew _
           have hbel : Below w.heap.size w (w.drew.alloc (.cells ((olds ++ news) ++ rest).toArray i.elem)) := (Below.drew' w).trans (below_alloc' w.drew _)
           have hgcs : (len + m) * e.size ≤ gc * e.size := Nat.mul_le_mul_right _ hge
           refine ⟨μ.grow r.id ⟨w.heap.size, 0, r.off, r.off + len * e.size + xs.length, gc * e.size⟩, _, _, μ.le_grow _ _, hrun, ?_, ?_, hbel.mono hr.base, fun h9 => by rw [hq] at h9; cases h9⟩
           · refine .slice (gi := ⟨w.heap.size, 0, r.off, r.off + len * e.size + xs.length, gc * e.size⟩) (hnewget _).1 (hnewget _).2 (Nat.le_refl _) hge (fun h9 => by cases h9) ?_ (.inr ⟨?_, ?_⟩)
             · simp only [hii]; omega
             · simp [GenInfo.spot]
             · simp only [hii]; simp
           · have := hr.grow (w' := w.drew.alloc (.cells ((olds ++ news) ++ rest).toArray i.elem)) k1 hrow hro ⟨w.heap.size, 0, r.off, r.off + len * e.size + xs.length, gc * e.size⟩ (r.off + len * e.size) xs valid hen hvalid (ty := some (i.elem, 0)) (.inr hrty.symm) rfl (by simp)
               (fun k hk _ => hbel.block k hk) hbel.size (fun g gi' hg' hb' => by have := (hR.gen g gi' hg').lt; simp at hb'; omega)
               (fun j' jj row' g gj hne h1 h2 h3 => by have := ((hr.row j' jj row' h1 h2).gen g gj h3).lt; simp; omega)
               (fun m' b' hm' => by
                 have hlt' : m' < h.maps.length := by rw [← hr.mlen]; exact (List.getElem?_eq_some_iff.1 hm').1
                 obtain ⟨_, ds, cl, h8, _⟩ := hr.map m' b' _ hm' (List.getElem?_eq_getElem hlt')
                 have := (Array.getElem?_eq_some_iff.1 h8).1
                 simp; omega)
               (fun b' arr' hb' => by have := hr.fz.lt hb'; simp; omega)
               ?_ ?_
             · rw [hro] at this; exact this
             · refine ⟨by simp; omega, by simp; omega, _, _, _, hheap, by simp; omega, (fun T hT => by cases hT; exact ⟨rfl, rfl, hoff, fun h9 => absurd rfl h9⟩), fun _ => ⟨hr.base, .inl rfl⟩, fun _ => ⟨by simp; omega, fun i' v' g1 g2 g3 => ?_⟩⟩
               simp only at g1 g2 g3 ⊢
               have hrel := o1.append hx
               have g4 : ((row.cells.drop r.off).take (len * e.size) ++ xs)[i' - r.off]? = some v' := by
                 by_cases h9 : i' < r.off + len * e.size
                 · rw [List.getElem?_append_left (by simp; omega), List.getElem?_take, if_pos h9] at g3
                   rw [List.getElem?_append_left (by simp; omega), List.getElem?_take, if_pos (by omega), List.getElem?_drop, ← g3]
                   congr 1; omega
                 · rw [List.getElem?_append_right (by simp; omega)] at g3
                   rw [List.getElem?_append_right (by simp; omega), ← g3]
                   congr 1
                   simp; omega
               obtain ⟨x, q1, q2, q3⟩ := hrel.get g4
               refine ⟨x, ?_, q2.mono (μ.le_grow _ _), q3⟩
               have hlt9 := (List.getElem?_eq_some_iff.1 q1).1
               simp only [Nat.zero_add, List.getElem?_toArray]
               rw [List.getElem?_append_left hlt9]
               exact q1
             · intro g gi' hg' hb'
               have := (hR.gen g gi' hg').lt
               simp at hb'
               omega
end
end Go.Proofs.YtjagkijfngokaaaGreatDoor
