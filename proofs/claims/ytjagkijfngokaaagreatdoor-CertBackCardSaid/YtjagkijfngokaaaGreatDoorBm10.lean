/-
 Every operation that calls no Go function.
-/
import Derived.Test.YtjagkijfngokaaaGreatDoorBm27
namespace Go.Proofs.YtjagkijfngokaaaGreatDoor
open Go.RowKit
section
variable {P : Program} {C : Ctx} {B : Nat} {q : Bool} {h : AH} {μ : Mu} {w : World} {v : AV}
def OpOk (P : Program) (B : Nat) (q : Bool) (ev : Operand → AV) (h : AH) (o : Oper) (v : AV) (h' : AH) : Prop :=
 ∀ (μ : Mu) (w : World) (a : Act), HRel μ B h w → (∀ x, VRel μ (ev x) (a.eval x)) → OpRes P B q v h' μ w (execOp a.eval o)
theorem OpOk.val {ev : Operand → AV} {o : Oper} {s : Act → Sem Value} (ho : ∀ a : Act, execOp a.eval o = (do pure (Next.value (← s a))))
   (h1 : ∀ (μ : Mu) (w : World) (a : Act), HRel μ B h w → (∀ x, VRel μ (ev x) (a.eval x)) → ∃ x, (s a).run P w = .ok x w ∧ VRel μ v x) : OpOk P B q ev h o v h := by
 intro μ w a hr hev
 obtain ⟨x, hx, hv⟩ := h1 μ w a hr hev
 rw [ho a]
 exact OpRes.same hr (run_value hx) hv
theorem OpOk.new {ev : Operand → AV} {h' : AH} {o : Oper} {s : Act → Sem Value} (ho : ∀ a : Act, execOp a.eval o = (do pure (Next.value (← s a))))
   (h1 : ∀ (μ : Mu) (w : World) (a : Act), HRel μ B h w → (∀ x, VRel μ (ev x) (a.eval x)) → ∃ μ' w' x, μ.le μ' ∧ (s a).run P w = .ok x w' ∧ VRel μ' v x ∧ HRel μ' B h' w' ∧ Below w.heap.size w w') : OpOk P B q ev h o v h' := by
 intro μ w a hr hev
 obtain ⟨μ', w', x, hle, hx, hv, hr', hb⟩ := h1 μ w a hr hev
 rw [ho a]
 exact ⟨μ', w', .value x, hle, run_value hx, hv, hr', hb.mono hr.base, fun _ => hb⟩
theorem ORel.map {ev : Operand → AV} {a : Act} (hev : ∀ x, VRel μ (ev x) (a.eval x)) (o : Option Operand) : ORel μ (o.map ev) (o.map a.eval) := by
 cases o with
 | none => trivial
 | some x => exact hev x
theorem parts_rel {ev : Operand → AV} {a : Act} (hev : ∀ x, VRel μ (ev x) (a.eval x)) (ps : Array (Nat × Operand)) :
   (ps.toList.map fun p => (p.1, ev p.2)).length = (ps.map fun (i, x) => (i, a.eval x)).size ∧
   ∀ (j : Nat) p x, (ps.toList.map fun p => (p.1, ev p.2))[j]? = some p → (ps.map fun (i, x) => (i, a.eval x))[j]? = some x → p.1 = x.1 ∧ VRel μ p.2 x.2 := by
 refine ⟨by simp, fun j p x hp hx => ?_⟩
 rw [List.getElem?_map] at hp
 rw [Array.getElem?_map] at hx
 cases hq : ps[j]? with
 | none => rw [hq] at hx; cases hx
 | some y =>
   rw [hq] at hx
   rw [Array.getElem?_toList, hq] at hp
   simp at hp hx
   subst hp; subst hx
   exact ⟨rfl, hev _⟩
theorem tassert_ok (hT : TypesOk P C) {a xt : TypeId} {i : TInfo} (hi : C.info a = some i) (hty : i.ty = .ptr) (hz : i.zero = [.ptr .nil]) {v : AV} {r : Option Pt} (hr : tassert a v = some r) {x : Value} (hv : VRel μ v x) (w : World) :
   ∃ y, (Instr.typeAssert x xt a true).run P w = .ok (.tuple #[y, .bool r.isSome]) w ∧ VRel μ (.ptr (r.getD .nil)) y := by
 have hu := hT.ptr hi hty
 obtain ⟨j, z, hz1, hz2, hz3⟩ := hT.zeroOne hi (by rw [hty]; rfl)
 rw [hz] at hz3
 have hzp : z = .pointer none := by
   simp only [List.headD_cons] at hz3
   unfold zeroOk at hz3
   split at hz3 <;> first | rfl | (rename_i e; cases e; done) | (rename_i e _; cases e; done) | cases hz3
 subst hzp
 have hzv : ∀ w : World, (zeroValue a).run P w = .ok (.pointer none) w := fun w => by simp [zeroValue, typeInfo, hz1, hz2]
 unfold tassert at hr
 split at hr
 · rename_i t p
   cases hv with
   | @iface _ _ y hp =>
     rw [Bool.cond_eq_ite] at hr
     split at hr
     · rename_i ht
       rw [nbeq] at ht
       subst ht
       cases hr
       exact ⟨y, by simp [Instr.typeAssert, run_underlying hu], hp⟩
     · rename_i ht
       rw [nbeq] at ht
       cases hr
       exact ⟨.pointer none, by simp [Instr.typeAssert, run_underlying hu, ht, hzv], .nilptr⟩
 · rename_i t u _
   cases hv with
   | @iface _ _ y hp =>
     rw [Bool.cond_eq_ite] at hr
     split at hr
     · cases hr
     · rename_i ht
       rw [nbeq] at ht
       cases hr
       exact ⟨.pointer none, by simp [Instr.typeAssert, run_underlying hu, ht, hzv], .nilptr⟩
 · cases hv
   cases hr
   exact ⟨.pointer none, by simp [Instr.typeAssert, run_underlying hu, hzv], .nilptr⟩
 · cases hr
theorem pair_rel {a b : AV} {x y : Value} (h1 : VRel μ a x) (h2 : VRel μ b y) : VRel μ (.tup [a, b]) (.tuple #[x, y]) := by
 refine .tup rfl fun i x y hx hy => ?_
 match i with
 | 0 => simp at hx hy; subst hx; subst hy; exact h1
 | 1 => simp at hx hy; subst hx; subst hy; exact h2
 | i + 2 => simp at hx
set_option maxHeartbeats 4000000 in
theorem aop_ok (hT : TypesOk P C) {β : Type} {ev : Operand → AV} (o : Oper) {k : K β} {r : β} (hk : aop C q ev o.op h k = some r) (hnp : ∀ c a b, o.op ≠ .pick c a b) (hnc : ∀ c, o.op ≠ .call c) :
   ∃ v h', k v h' = some r ∧ OpOk P B q ev h o v h' := by
 obtain ⟨dst, op, type, pos, after, guard⟩ := o
 simp only at hk hnp hnc
 unfold aop at hk
 split at hk
 ·
   rename_i x
   exact ⟨_, _, hk, fun μ w a hr hev => OpRes.same hr rfl (hev x)⟩
 ·
   rename_i x
   exact ⟨_, _, hk, fun μ w a hr hev => OpRes.same hr rfl (hev x)⟩
 ·
   rename_i t i
   split at hk
   · rename_i vs ht
     split at hk
     · rename_i u hu
       refine ⟨_, _, hk, OpOk.val (s := fun a => Instr.extract (a.eval t) i) (fun _ => rfl) fun μ w a hr hev => ?_⟩
       have := hev t
       rw [ht] at this
       generalize a.eval t = y at this
       cases this with
       | @tup _ ds hs hh =>
         have hlt : i < ds.size := by
           have := (List.getElem?_eq_some_iff.1 hu).1
           omega
         exact ⟨ds[i], by simp [Instr.extract, Array.getElem?_eq_getElem hlt], hh i u _ hu (Array.getElem?_eq_getElem hlt)⟩
     · cases hk
   · cases hk
 ·
   rename_i op t x y yt
   obtain ⟨v, h1, h2⟩ := bin_ok (P := P) hT hk
   refine ⟨v, h, h1, OpOk.val (s := fun a => do eqGuard op t x y (a.eval x) (a.eval y); binOp op t (a.eval x) (a.eval y)) (fun _ => rfl) fun μ w a hr hev => h2 μ h w a hr.fz (hev x) (hev y)⟩
 ·
   rename_i op t x
   obtain ⟨v, h1, h2⟩ := un_ok hk
   exact ⟨v, h, h1, OpOk.val (s := fun a => Op.unary op (a.eval x)) (fun _ => rfl) fun μ w a hr hev => h2 P μ w _ (hev x)⟩
 ·
   rename_i src d x
   split at hk
   · rename_i hts htd
     obtain ⟨h1, hq, h2⟩ := convS_ok (P := P) (B := B) hT hts hk
     refine ⟨_, _, h1, fun μ w a hr hev => ?_⟩
     obtain ⟨w', g1, g2, g3⟩ := h2 μ w _ hr (hev x)
     exact ⟨μ, w', .value (a.eval x), μ.le_refl, run_value g1, hev x, g2, g3, fun h9 => by rw [hq] at h9; cases h9⟩
   obtain ⟨v, h', h1, h2⟩ := conv_ok (P := P) (B := B) hT hk
   exact ⟨v, h', h1, OpOk.new (s := fun a => convert src d (a.eval x)) (fun _ => rfl) fun μ w a hr hev => h2 μ w _ hr (hev x)⟩
 ·
   rename_i x
   split at hk
   · rename_i p hp
     cases p with
     | nil => simp [Pt.chk] at hk
     | mk r l =>
       simp [Pt.chk] at hk
       refine ⟨_, _, hk, fun μ w a hr hev => ?_⟩
       have := hev x
       rw [hp] at this
       refine OpRes.same (x := a.eval x) hr ?_ this
       unfold execOp
       simp only
       generalize a.eval x = y at this
       cases this
       rfl
     | fp kk cs =>
       simp [Pt.chk] at hk
       refine ⟨_, _, hk, fun μ w a hr hev => ?_⟩
       have := hev x
       rw [hp] at this
       refine OpRes.same (x := a.eval x) hr ?_ this
       unfold execOp
       simp only
       generalize a.eval x = y at this
       cases this
       rfl
   · cases hk
 ·
   rename_i t x f
   split at hk
   · rename_i p i hp hi
     rw [Bool.cond_eq_ite] at hk
     split at hk
     case isFalse => cases hk
     rename_i hc
     simp only [Bool.and_eq_true, nbeq] at hc
     split at hk
     · rename_i o ft hf
       cases hp' : p.field o with
       | none => rw [hp'] at hk; cases hk
       | some p' =>
         rw [hp', o_bd] at hk
         refine ⟨_, _, hk, OpOk.val (s := fun a => Instr.fieldAt t (a.eval x) f) (fun _ => rfl) fun μ w a hr hev => ?_⟩
         have := hev x
         rw [hp] at this
         exact fieldAddr_ok hT hi hc.1 hc.2 hf hp' this
     · cases hk
   · cases hk
 ·
   rename_i t x f
   split at hk
   · rename_i cs i hp hi
     split at hk
     · rename_i o ft hf
       rw [Bool.cond_eq_ite] at hf
       split at hf
       case isFalse => cases hf
       rename_i hc
       simp only [Bool.and_eq_true, nbeq] at hc
       obtain ⟨fs, hu, hfo⟩ := struct_of hT hi hc.1 hc.2
       obtain ⟨fd, h1, h2, h3, _⟩ := fieldsOk_get hfo f o ft hf
       split at hk
       · rename_i fi hfi
         obtain ⟨v, k1, k2⟩ := part_ok (P := P) (k := fun v => k v h) hT hfi (o := o) hk
         refine ⟨v, h, k1, OpOk.val (s := fun a => Instr.field t (a.eval x) f) (fun _ => rfl) fun μ w a hr hev => ?_⟩
         have hv := hev x
         rw [hp] at hv
         obtain ⟨ds, hd⟩ := hv.agg_inv
         rw [hd] at hv
         obtain ⟨y, k3, k4⟩ := k2 μ w ds hv
         refine ⟨y, ?_, k4⟩
         have hfs : fs[f]? = some fd := by simpa using h1
         rw [hd]
         simp [Instr.field, run_underlying hu, hfs, asAgg, h2, h3, k3]
       · cases hk
     · cases hk
   · cases hk
 ·
   rename_i t x ix
   split at hk
   · rename_i s kd j i hs hj hi
     split at hk
     · rename_i e hty he
       rw [Bool.cond_eq_ite] at hk
       split at hk
       case isFalse => cases hk
       rename_i hp
       cases hp' : h.addr e.size s j with
       | none => rw [hp'] at hk; cases hk
       | some p =>
         rw [hp', o_bd] at hk
         refine ⟨_, _, hk, OpOk.val (s := fun a => Instr.indexAt t (a.eval x) (a.eval ix)) (fun _ => rfl) fun μ w a hr hev => ?_⟩
         have h1 := hev x
         have h2 := hev ix
         rw [hs] at h1
         rw [hj] at h2
         show ∃ y, (Instr.indexAt t (a.eval x) (a.eval ix)).run P w = .ok y w ∧ _
         rw [h2.int_inv]
         exact indexAddr_ok hT hi hty he hp hr hp' h1
     · cases hk
   · rename_i p kd j i hs hj hi
     split at hk
     · rename_i e he
       rw [Bool.cond_eq_ite] at hk
       split at hk
       case isFalse => cases hk
       rename_i hp
       simp only [Bool.and_eq_true, Bool.not_eq_true', nbeq_false] at hp
       cases hp' : p.elem e.size i.len j with
       | none => rw [hp'] at hk; cases hk
       | some p' =>
         rw [hp', o_bd] at hk
         refine ⟨_, _, hk, OpOk.val (s := fun a => Instr.indexAt t (a.eval x) (a.eval ix)) (fun _ => rfl) fun μ w a hr hev => ?_⟩
         have h1 := hev x
         have h2 := hev ix
         rw [hs] at h1
         rw [hj] at h2
         show ∃ y, (Instr.indexAt t (a.eval x) (a.eval ix)).run P w = .ok y w ∧ _
         rw [h2.int_inv]
         exact indexAddrArr_ok hT hi hp.1.1 hp.1.2 he hp.2 hp' h1
     · cases hk
   · cases hk
 ·
   rename_i t x ix
   split at hk
   · rename_i s kd j hs hj
     split at hk
     · rename_i hty
       obtain ⟨i, hi, hiy⟩ := Ctx.ty_info hty (by simp)
       cases hb : strAt s j with
       | none => rw [hb] at hk; cases hk
       | some b =>
         rw [hb, o_bd] at hk
         refine ⟨_, _, hk, OpOk.val (s := fun a => Instr.index t (a.eval x) (a.eval ix)) (fun _ => rfl) fun μ w a hr hev => ?_⟩
         have h1 := hev x
         have h2 := hev ix
         rw [hs] at h1
         rw [hj] at h2
         show ∃ y, (Instr.index t (a.eval x) (a.eval ix)).run P w = .ok y w ∧ _
         rw [h1.str_inv, h2.int_inv]
         exact ⟨_, indexStr_ok (hT.str hi hiy) hb, .int⟩
     · cases hk
   · rename_i cs kd j hs hj
     split at hk
     · rename_i i hi
       split at hk
       · rename_i e he
         rw [Bool.cond_eq_ite] at hk
         split at hk
         case isFalse => cases hk
         rename_i hc
         simp only [Bool.and_eq_true, Bool.not_eq_true', nbeq_false, decide_eq_true_eq] at hc
         obtain ⟨⟨⟨hj0, hjn⟩, hag⟩, hlen⟩ := hc
         obtain ⟨v, k1, k2⟩ := part_ok (P := P) (k := fun v => k v h) hT he (o := j.toNat * e.size) hk
         refine ⟨v, h, k1, OpOk.val (s := fun a => Instr.index t (a.eval x) (a.eval ix)) (fun _ => rfl) fun μ w a hr hev => ?_⟩
         have h1 := hev x
         have h2 := hev ix
         rw [hs] at h1
         rw [hj] at h2
         show ∃ y, (Instr.index t (a.eval x) (a.eval ix)).run P w = .ok y w ∧ _
         obtain ⟨ds, hd⟩ := h1.agg_inv
         rw [hd] at h1
         rw [hd, h2.int_inv]
         obtain ⟨y, k3, k4⟩ := k2 μ w ds h1
         refine ⟨y, ?_, k4⟩
         rcases hT.agg hi (ATy.isAgg_eq hag) with ⟨_, _, _, h9⟩ | ⟨hu, _, jj, hjj, _⟩
         · exact absurd h9 hlen
         have hsz : (sizeOf i.elem).run P w = .ok e.size w := by
           have : e.ty.plain = true := by
             by_cases ha : e.ty.isAgg = true
             · rw [ATy.isAgg_eq ha]; rfl
             · rw [Bool.not_eq_true] at ha
               rw [ha] at hk
               rw [Bool.cond_false, Bool.cond_eq_ite] at hk
               split at hk
               · rename_i ho; exact (ATy.isOne_plain ho).1
               · cases hk
           exact hT.size he this w
         simp [Instr.index, asIntOf, run_underlying hu, hj0, hjn, hsz, k3]
       · cases hk
     · cases hk
   · cases hk
 ·
   rename_i t x
   split at hk
   · rename_i p hp
     obtain ⟨v, k1, k2⟩ := load_ok (P := P) (B := B) hT hk
     refine ⟨v, h, k1, OpOk.val (s := fun a => Instr.loadAt t (a.eval x)) (fun _ => rfl) fun μ w a hr hev => ?_⟩
     have h1 := hev x
     rw [hp] at h1
     exact k2 μ w _ hr h1
   · cases hk
 ·
   rename_i t x y
   split at hk
   · rename_i p i hp hi
     rw [Bool.cond_eq_ite] at hk
     split at hk
     case isFalse => cases hk
     rename_i hpl
     obtain ⟨h', k1, hq, k2⟩ := store_ok (P := P) (B := B) hT hi (ATy.one_or_agg hpl) hk
     refine ⟨_, h', k1, fun μ w a hr hev => ?_⟩
     have h1 := hev x
     rw [hp] at h1
     obtain ⟨w', k3, k4, k5⟩ := k2 μ w _ _ hr h1 (hev y)
     exact ⟨μ, w', .skip, μ.le_refl, run_unit k3, .tup rfl (by intro i c d h; simp at h), k4, k5, fun h9 => by rw [hq] at h9; cases h9⟩
   · cases hk
 ·
   rename_i t
   split at hk
   · rename_i i hi
     rw [Bool.cond_eq_ite] at hk
     split at hk
     case isFalse => cases hk
     rename_i hpl
     rw [Bool.cond_eq_ite] at hk
     split at hk
     · exact ⟨_, _, hk, OpOk.new (s := fun _ => Instr.alloc t true (.tuple #[])) (fun _ => rfl) fun μ w a hr hev => allocT_ok hT hi (ATy.one_or_agg hpl) hr⟩
     · exact ⟨_, _, hk, OpOk.new (s := fun _ => Instr.alloc t true (.tuple #[])) (fun _ => rfl) fun μ w a hr hev => alloc_ok hT hi (ATy.one_or_agg hpl) hr⟩
   · cases hk
 ·
   rename_i t x
   rw [Bool.cond_eq_ite] at hk
   split at hk
   case isFalse => cases hk
   rename_i hc
   exact ⟨_, _, hk, OpOk.new (s := fun a => Instr.box t (a.eval x)) (fun _ => rfl) fun μ w a hr hev => box_ok hr (hev x) hc⟩
 ·
   rename_i t parts
   split at hk
   · rename_i i hi
     rw [Bool.cond_eq_ite] at hk
     split at hk
     case isFalse => cases hk
     rename_i hc
     cases hpl : aplaces C i with
     | none => rw [hpl] at hk; cases hk
     | some pl =>
     rw [hpl, o_bd] at hk
     cases hf : afill pl i.zero (parts.toList.map fun p => (p.1, ev p.2)) with
     | none => rw [hf] at hk; cases hk
     | some cs =>
       rw [hf, o_bd] at hk
       refine ⟨_, _, hk, OpOk.val (s := fun a => Instr.build t (parts.map fun (i, x) => (i, a.eval x))) (fun _ => rfl) fun μ w a hr hev => ?_⟩
       obtain ⟨p1, p2⟩ := parts_rel hev parts
       exact build_ok hT hi hc hpl p1 p2 hf
   · cases hk
 ·
   rename_i t n parts
   split at hk
   · rename_i i hi
     split at hk
     · rename_i e hty he
       rw [Bool.cond_eq_ite] at hk
       split at hk
       case isFalse => cases hk
       rename_i hc
       simp only [Bool.and_eq_true, nble] at hc
       cases hf : afill (fun j => some (j * e.size, e.size)) (repeatCells e.zero n) (parts.toList.map fun p => (p.1, ev p.2)) with
       | none => rw [hf] at hk; cases hk
       | some cs =>
         rw [hf, o_bd, Bool.cond_eq_ite] at hk
         split at hk
         · refine ⟨_, _, hk, OpOk.new (s := fun a => Instr.buildSlice t n (parts.map fun (i, x) => (i, a.eval x))) (fun _ => rfl) fun μ w a hr hev => ?_⟩
           obtain ⟨p1, p2⟩ := parts_rel hev parts
           exact buildSliceR_ok hT hi hty he hc.2 hc.1 p1 p2 hf hr
         refine ⟨_, _, hk, OpOk.new (s := fun a => Instr.buildSlice t n (parts.map fun (i, x) => (i, a.eval x))) (fun _ => rfl) fun μ w a hr hev => ?_⟩
         obtain ⟨p1, p2⟩ := parts_rel hev parts
         exact buildSlice_ok hT hi hty he hc.2 hc.1 p1 p2 hf hr
     · cases hk
   · cases hk
 ·
   rename_i t l c
   split at hk
   · rename_i n m i hn hm hi
     split at hk
     · rename_i e hty he
       rw [Bool.cond_eq_ite] at hk
       split at hk
       case isFalse => cases hk
       rename_i hc
       simp only [Bool.and_eq_true, decide_eq_true_eq] at hc
       obtain ⟨⟨⟨⟨h1, h2⟩, h3⟩, h4⟩, h5⟩ := hc
       refine ⟨_, _, hk, OpOk.new (s := fun a => Instr.makeSlice t (a.eval l) (a.eval c)) (fun _ => rfl) fun μ w a hr hev => ?_⟩
       have k1 := hev l
       have k2 := hev c
       rw [hn] at k1
       rw [hm] at k2
       show ∃ μ' w' x, μ.le μ' ∧ (Instr.makeSlice t (a.eval l) (a.eval c)).run P w = .ok x w' ∧ _
       rw [k1.int_inv, k2.int_inv]
       exact makeSlice_ok hT hi hty he h1 h2 h3 h4 h5 hr
     · cases hk
   · cases hk
 ·
   rename_i t x lo hi mx
   rw [Bool.cond_eq_ite] at hk
   split at hk
   case isFalse => cases hk
   rename_i hc
   obtain ⟨u, k1, k2⟩ := slice_ok (P := P) (B := B) hT hk (by
     simp only [Bool.or_eq_true] at hc
     rcases hc with hc | hc
     · left; cases mx <;> simp at hc ⊢
     · right; cases hi <;> simp at hc ⊢)
   exact ⟨u, h, k1, OpOk.val (s := fun a => Instr.sliceAt t (a.eval x) (lo.map a.eval) (hi.map a.eval) (mx.map a.eval)) (fun _ => rfl) fun μ w a hr hev =>
     k2 μ w _ _ _ _ hr (hev x) (ORel.map hev lo) (ORel.map hev hi) (ORel.map hev mx)⟩
 ·
   rename_i t x
   have key : ∀ d, P.underlying t = some d → (∀ ms, d ≠ .interface ms) → k (.iface t (ev x)) h = some r → ∃ v h', k v h' = some r ∧ OpOk P B q ev h ⟨dst, .makeInterface t x, type, pos, after, guard⟩ v h' := by
     intro d hd hnd hk
     refine ⟨_, _, hk, OpOk.val (s := fun a => Instr.makeInterface t (a.eval x)) (fun _ => rfl) fun μ w a hr hev => ⟨.iface t (a.eval x), ?_, .iface (hev x)⟩⟩
     exact run_makeInterface w t _ (by unfold Program.concrete; rw [hd]; cases d <;> first | rfl | exact absurd rfl (hnd _))
   split at hk
   · rename_i hty
     obtain ⟨i, hi, hiy⟩ := Ctx.ty_info hty (by simp)
     exact key _ (hT.bool hi hiy) (by simp) hk
   · rename_i kd hty
     obtain ⟨i, hi, hiy⟩ := Ctx.ty_info hty (by simp)
     exact key _ (hT.int hi hiy) (by simp) hk
   · rename_i hty
     obtain ⟨i, hi, hiy⟩ := Ctx.ty_info hty (by simp)
     exact key _ (hT.str hi hiy) (by simp) hk
   · rename_i hty
     obtain ⟨i, hi, hiy⟩ := Ctx.ty_info hty (by simp)
     exact key _ (hT.ptr hi hiy) (by simp) hk
   · cases hk
 ·
   rename_i x xt ta ok
   rw [Bool.cond_eq_ite] at hk
   split at hk
   case isFalse => cases hk
   rename_i hok
   subst hok
   split at hk
   case h_2 => cases hk
   rename_i i hi
   split at hk
   case h_2 => cases hk
   rename_i hty hz
   cases hr1 : tassert ta (ev x) with
   | none => rw [hr1] at hk; cases hk
   | some r1 =>
     rw [hr1, o_bd] at hk
     refine ⟨_, _, hk, OpOk.val (s := fun a => Instr.typeAssert (a.eval x) xt ta true) (fun _ => rfl) fun μ w a hr hev => ?_⟩
     obtain ⟨y, g1, g2⟩ := tassert_ok (P := P) (xt := xt) hT hi hty hz hr1 (hev x) w
     exact ⟨_, g1, pair_rel g2 .bool⟩
 ·
   rename_i fn first captured
   split at hk
   · rename_i f
     rw [Bool.cond_eq_ite] at hk
     split at hk
     case isFalse => cases hk
     rename_i h0
     rw [nbeq] at h0
     have hfe : first = #[] := by simpa using h0
     subst hfe
     cases hm : captured.toList.mapM (fun x => (ev x).ptr?) with
     | none => rw [hm] at hk; cases hk
     | some ps =>
       rw [hm, o_bd] at hk
       refine ⟨_, _, hk, OpOk.val (s := fun a => Instr.makeFunc (.func f) ((#[] : Array Operand).map a.eval) (captured.map a.eval)) (fun _ => rfl) fun μ w a hr hev => ?_⟩
       refine ⟨.func (.func f) #[] (captured.map a.eval), by simp [Instr.makeFunc], ?_⟩
       have hlen : ∀ (l : List Operand) (ps : List Pt), l.mapM (fun x => (ev x).ptr?) = some ps → l.length = ps.length ∧ ∀ (i : Nat) p x, ps[i]? = some p → l[i]? = some x → ev x = .ptr p := by
         intro l
         induction l with
         | nil => intro ps h; simp at h; subst h; exact ⟨rfl, by intro i p x h; simp at h⟩
         | cons y l ih =>
           intro ps h
           rw [List.mapM_cons] at h
           cases hy : (ev y).ptr? with
           | none => rw [hy] at h; cases h
           | some p0 =>
             rw [hy] at h
             cases hl : l.mapM (fun x => (ev x).ptr?) with
             | none => rw [hl] at h; cases h
             | some ps0 =>
               rw [hl] at h
               simp at h
               subst h
               obtain ⟨i1, i2⟩ := ih ps0 hl
               refine ⟨by simp [i1], fun i p x hp hx => ?_⟩
               cases i with
               | zero =>
                 simp at hp hx
                 subst hp; subst hx
                 cases hev0 : ev y <;> rw [hev0] at hy <;> simp [AV.ptr?] at hy
                 rw [hy]
               | succ i => exact i2 i p x (by simpa using hp) (by simpa using hx)
       obtain ⟨l1, l2⟩ := hlen _ _ hm
       refine .func (by simpa using l1.symm) fun i p v hp hv => ?_
       rw [Array.getElem?_map] at hv
       cases hx : captured[i]? with
       | none => rw [hx] at hv; cases hv
       | some x =>
         rw [hx] at hv
         simp at hv
         subst hv
         rw [← l2 i p x hp (by simpa using hx)]
         exact hev x
   · cases hk
 ·
   rename_i t hint
   split at hk
   · exact ⟨_, _, hk, OpOk.new (s := fun a => Instr.makeMap t (Option.map a.eval none)) (fun _ => rfl) fun μ w a hr hev => makeMap_ok hr⟩
   · cases hk
 ·
   rename_i t x ix ok
   split at hk
   · rename_i m kd n i hm hn hi
     split at hk
     · rename_i kd' e hty hkt he
       rw [Bool.cond_eq_ite] at hk
       split at hk
       case isFalse => cases hk
       rename_i hc
       simp only [Bool.and_eq_true, decide_eq_true_eq] at hc
       obtain ⟨rfl, ho⟩ := hc
       obtain ⟨u, k1, k2⟩ := lookup_ok (P := P) (B := B) (k := fun v => k v h) hT hi hty hkt he ho hk
       refine ⟨u, h, k1, OpOk.val (s := fun a => Instr.lookup t (a.eval x) (a.eval ix) ok) (fun _ => rfl) fun μ w a hr hev => ?_⟩
       have h1 := hev x
       have h2 := hev ix
       rw [hm] at h1
       rw [hn] at h2
       show ∃ y, (Instr.lookup t (a.eval x) (a.eval ix) ok).run P w = .ok y w ∧ _
       rw [h2.int_inv]
       exact k2 μ w _ hr h1
     · cases hk
   · cases hk
 ·
   rename_i t m x y
   split at hk
   · rename_i o9 kd n i hm hn hi
     split at hk
     · rename_i kd' hty hkt
       rw [Bool.cond_eq_ite] at hk
       split at hk
       case isFalse => cases hk
       rename_i hc
       simp only [Bool.and_eq_true, Bool.not_eq_true', decide_eq_true_eq] at hc
       obtain ⟨hq, rfl⟩ := hc
       cases o9 with
       | none => cases hk
       | some id =>
       rw [o_bd] at hk
       obtain ⟨h', k1, k2⟩ := mapUpdate_ok (P := P) (B := B) (k := fun h => k (.tup []) h) hT hi hty hkt hk
       refine ⟨_, h', k1, fun μ w a hr hev => ?_⟩
       have h1 := hev m
       rw [hm] at h1
       have h2 := hev x
       rw [hn] at h2
       obtain ⟨w', k3, k4, k5⟩ := k2 μ w _ _ hr h1 (hev y)
       have k6 : (Instr.mapUpdate t (a.eval m) (a.eval x) (a.eval y)).run P w = .ok () w' := by rw [h2.int_inv]; exact k3
       exact ⟨μ, w', .skip, μ.le_refl, run_unit k6, .tup rfl (by intro i c d h; simp at h), k4, k5, fun h9 => by rw [hq] at h9; cases h9⟩
     · cases hk
   · cases hk
 · cases hk
end
end Go.Proofs.YtjagkijfngokaaaGreatDoor
