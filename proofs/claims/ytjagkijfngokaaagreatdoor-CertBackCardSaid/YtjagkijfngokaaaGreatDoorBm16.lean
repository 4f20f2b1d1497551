/-
 Regions that draw their order: in the model as the abstract machine says.
-/
import Derived.Test.YtjagkijfngokaaaGreatDoorBm15
import Derived.Orders
namespace Go.Proofs.YtjagkijfngokaaaGreatDoor
open Go.RowKit
def FunsOk (P : Program) (C : Ctx) : Prop := ∀ f fn an, C.funs f = some (fn, an) → P.funcs[f]? = some fn ∧ (fn.name == "runtime.NumGoroutine") = false
theorem same_inv {β : Type} {x : Option (AV × AH)} {v : AV × AH} {k : Option β} {r : β} (h : same x v k = some r) : x = some v ∧ k = some r := by
 unfold same at h
 split at h
 · rename_i e; exact ⟨e, h⟩
 · cases h
theorem same_eq {β : Type} {x : Option (AV × AH)} {v : AV × AH} (k : Option β) (h : x = some v) : same x v k = k := by
 unfold same
 rw [if_pos h]
section
variable {P : Program} {C : Ctx} {B : Nat} {q : Bool} {h : AH} {μ : Mu} {w : World} {v : AV} {call : CallF}
set_option maxHeartbeats 4000000 in
theorem aop_free (hT : TypesOk P C) {β : Type} {ev : Operand → AV} (o : Oper) {k : K β} {r : β} (hk : aop C q ev o.op h k = some r) (hf : flt C o.op = .free) (hnp : ∀ c a b, o.op ≠ .pick c a b) (hnc : ∀ c, o.op ≠ .call c) :
   ∃ v, k v h = some r ∧ ∀ (hh : AH) (qq : Bool), OpOk P B qq ev hh o v hh := by
 obtain ⟨dst, op, type, pos, after, guard⟩ := o
 simp only at hk hnp hnc hf
 unfold aop at hk
 split at hk
 ·
   rename_i x
   exact ⟨_, hk, fun hh2 qq2 μ w a hr hev => OpRes.same hr rfl (hev x)⟩
 ·
   rename_i x
   exact ⟨_, hk, fun hh2 qq2 μ w a hr hev => OpRes.same hr rfl (hev x)⟩
 ·
   rename_i t i
   split at hk
   · rename_i vs ht
     split at hk
     · rename_i u hu
       refine ⟨_, hk, fun hh2 qq2 => OpOk.val (s := fun a => Instr.extract (a.eval t) i) (fun _ => rfl) fun μ w a hr hev => ?_⟩
       have := hev t
       rw [ht] at this
       generalize a.eval t = y at this
       cases this with
       | @tup _ ds hs hh =>
         have hlt : i < ds.size := by
           have := (List.getElem?_eq_some_iff.1 hu).1
           omega
         exact ⟨ds[i], by simp [Instr.extract, Array.getElem?_eq_getElem hlt], hh i u _ hu (Array.getElem?_eq_getElem hlt)⟩
     · cases hk
   · cases hk
 ·
   rename_i op t x y yt
   obtain ⟨v, h1, h2⟩ := bin_ok (P := P) hT hk
   refine ⟨v, h1, fun hh2 qq2 => OpOk.val (s := fun a => do eqGuard op t x y (a.eval x) (a.eval y); binOp op t (a.eval x) (a.eval y)) (fun _ => rfl) fun μ w a hr hev => h2 μ _ w a hr.fz (hev x) (hev y)⟩
 ·
   rename_i op t x
   obtain ⟨v, h1, h2⟩ := un_ok hk
   exact ⟨v, h1, fun hh2 qq2 => OpOk.val (s := fun a => Op.unary op (a.eval x)) (fun _ => rfl) fun μ w a hr hev => h2 P μ w _ (hev x)⟩
 ·
   rename_i src d x
   simp only [flt] at hf
   split at hf
   case h_2 => cases hf
   case h_3 => cases hf
   rename_i kd hty
   split at hk
   · rename_i h9; rw [hty] at h9; cases h9
   unfold aconv at hk
   rw [hty] at hk
   split at hk
   all_goals (first | (rename_i e _; cases e; done) | skip)
   · rename_i kd' _ n he hx
     cases he
     split at hk
     · rename_i ks hts
       obtain ⟨i, hi, hiy⟩ := Ctx.ty_info hty (by simp)
       obtain ⟨i2, hi2, hiy2⟩ := Ctx.ty_info hts (by simp)
       refine ⟨_, hk, fun hh2 qq2 => OpOk.val (s := fun a => convert src d (a.eval x)) (fun _ => rfl) fun μ w a hr hev => ⟨.int kd (kd.wrap n), ?_, .int⟩⟩
       have hv := hev x
       rw [hx] at hv
       rw [hv.int_inv]
       simp [convert, run_underlying (hT.int hi2 hiy2), run_underlying (hT.int hi hiy), Conv.intToInt]
     · cases hk
   all_goals cases hk
 ·
   rename_i x
   split at hk
   · rename_i p hp
     cases p with
     | nil => simp [Pt.chk] at hk
     | mk r l =>
       simp [Pt.chk] at hk
       refine ⟨_, hk, fun hh2 qq2 μ w a hr hev => ?_⟩
       have := hev x
       rw [hp] at this
       refine OpRes.same (x := a.eval x) hr ?_ this
       unfold execOp
       simp only
       generalize a.eval x = y at this
       cases this
       rfl
     | fp kk cs =>
       simp [Pt.chk] at hk
       refine ⟨_, hk, fun hh2 qq2 μ w a hr hev => ?_⟩
       have := hev x
       rw [hp] at this
       refine OpRes.same (x := a.eval x) hr ?_ this
       unfold execOp
       simp only
       generalize a.eval x = y at this
       cases this
       rfl
   · cases hk
 ·
   rename_i t x f
   split at hk
   · rename_i p i hp hi
     rw [Bool.cond_eq_ite] at hk
     split at hk
     case isFalse => cases hk
     rename_i hc
     simp only [Bool.and_eq_true, nbeq] at hc
     split at hk
     · rename_i o ft hf
       cases hp' : p.field o with
       | none => rw [hp'] at hk; cases hk
       | some p' =>
         rw [hp', o_bd] at hk
         refine ⟨_, hk, fun hh2 qq2 => OpOk.val (s := fun a => Instr.fieldAt t (a.eval x) f) (fun _ => rfl) fun μ w a hr hev => ?_⟩
         have := hev x
         rw [hp] at this
         exact fieldAddr_ok hT hi hc.1 hc.2 hf hp' this
     · cases hk
   · cases hk
 ·
   rename_i t x f
   split at hk
   · rename_i cs i hp hi
     split at hk
     · rename_i o ft hf
       rw [Bool.cond_eq_ite] at hf
       split at hf
       case isFalse => cases hf
       rename_i hc
       simp only [Bool.and_eq_true, nbeq] at hc
       obtain ⟨fs, hu, hfo⟩ := struct_of hT hi hc.1 hc.2
       obtain ⟨fd, h1, h2, h3, _⟩ := fieldsOk_get hfo f o ft hf
       split at hk
       · rename_i fi hfi
         obtain ⟨v, k1, k2⟩ := part_ok (P := P) (k := fun v => k v h) hT hfi (o := o) hk
         refine ⟨v, k1, fun hh2 qq2 => OpOk.val (s := fun a => Instr.field t (a.eval x) f) (fun _ => rfl) fun μ w a hr hev => ?_⟩
         have hv := hev x
         rw [hp] at hv
         obtain ⟨ds, hd⟩ := hv.agg_inv
         rw [hd] at hv
         obtain ⟨y, k3, k4⟩ := k2 μ w ds hv
         refine ⟨y, ?_, k4⟩
         have hfs : fs[f]? = some fd := by simpa using h1
         rw [hd]
         simp [Instr.field, run_underlying hu, hfs, asAgg, h2, h3, k3]
       · cases hk
     · cases hk
   · cases hk
 ·
   simp [flt] at hf
 ·
   rename_i t x ix
   split at hk
   · rename_i s kd j hs hj
     split at hk
     · rename_i hty
       obtain ⟨i, hi, hiy⟩ := Ctx.ty_info hty (by simp)
       cases hb : strAt s j with
       | none => rw [hb] at hk; cases hk
       | some b =>
         rw [hb, o_bd] at hk
         refine ⟨_, hk, fun hh2 qq2 => OpOk.val (s := fun a => Instr.index t (a.eval x) (a.eval ix)) (fun _ => rfl) fun μ w a hr hev => ?_⟩
         have h1 := hev x
         have h2 := hev ix
         rw [hs] at h1
         rw [hj] at h2
         show ∃ y, (Instr.index t (a.eval x) (a.eval ix)).run P w = .ok y w ∧ _
         rw [h1.str_inv, h2.int_inv]
         exact ⟨_, indexStr_ok (hT.str hi hiy) hb, .int⟩
     · cases hk
   · rename_i cs kd j hs hj
     split at hk
     · rename_i i hi
       split at hk
       · rename_i e he
         rw [Bool.cond_eq_ite] at hk
         split at hk
         case isFalse => cases hk
         rename_i hc
         simp only [Bool.and_eq_true, Bool.not_eq_true', nbeq_false, decide_eq_true_eq] at hc
         obtain ⟨⟨⟨hj0, hjn⟩, hag⟩, hlen⟩ := hc
         obtain ⟨v, k1, k2⟩ := part_ok (P := P) (k := fun v => k v h) hT he (o := j.toNat * e.size) hk
         refine ⟨v, k1, fun hh2 qq2 => OpOk.val (s := fun a => Instr.index t (a.eval x) (a.eval ix)) (fun _ => rfl) fun μ w a hr hev => ?_⟩
         have h1 := hev x
         have h2 := hev ix
         rw [hs] at h1
         rw [hj] at h2
         show ∃ y, (Instr.index t (a.eval x) (a.eval ix)).run P w = .ok y w ∧ _
         obtain ⟨ds, hd⟩ := h1.agg_inv
         rw [hd] at h1
         rw [hd, h2.int_inv]
         obtain ⟨y, k3, k4⟩ := k2 μ w ds h1
         refine ⟨y, ?_, k4⟩
         rcases hT.agg hi (ATy.isAgg_eq hag) with ⟨_, _, _, h9⟩ | ⟨hu, _, jj, hjj, _⟩
         · exact absurd h9 hlen
         have hsz : (sizeOf i.elem).run P w = .ok e.size w := by
           have : e.ty.plain = true := by
             by_cases ha : e.ty.isAgg = true
             · rw [ATy.isAgg_eq ha]; rfl
             · rw [Bool.not_eq_true] at ha
               rw [ha] at hk
               rw [Bool.cond_false, Bool.cond_eq_ite] at hk
               split at hk
               · rename_i ho; exact (ATy.isOne_plain ho).1
               · cases hk
           exact hT.size he this w
         simp [Instr.index, asIntOf, run_underlying hu, hj0, hjn, hsz, k3]
       · cases hk
     · cases hk
   · cases hk
 ·
   simp [flt] at hf
 ·
   simp [flt] at hf
 ·
   simp [flt] at hf
 ·
   simp [flt] at hf
 ·
   rename_i t parts
   split at hk
   · rename_i i hi
     rw [Bool.cond_eq_ite] at hk
     split at hk
     case isFalse => cases hk
     rename_i hc
     cases hpl : aplaces C i with
     | none => rw [hpl] at hk; cases hk
     | some pl =>
     rw [hpl, o_bd] at hk
     cases hf2 : afill pl i.zero (parts.toList.map fun p => (p.1, ev p.2)) with
     | none => rw [hf2] at hk; cases hk
     | some cs =>
       rw [hf2, o_bd] at hk
       refine ⟨_, hk, fun hh2 qq2 => OpOk.val (s := fun a => Instr.build t (parts.map fun (i, x) => (i, a.eval x))) (fun _ => rfl) fun μ w a hr hev => ?_⟩
       obtain ⟨p1, p2⟩ := parts_rel hev parts
       exact build_ok hT hi hc hpl p1 p2 hf2
   · cases hk
 ·
   rename_i t n parts
   have hlb : litBytes parts = false := by cases h9 : litBytes parts <;> simp [flt, h9] at hf ⊢
   rw [hlb] at hk
   simp only [cond_false] at hk
   split at hk
   · rename_i i hi
     split at hk
     · rename_i e hty he
       rw [Bool.cond_eq_ite] at hk
       split at hk
       case isFalse => cases hk
       rename_i hc
       simp only [Bool.and_eq_true, nble] at hc
       cases hf3 : afill (fun j => some (j * e.size, e.size)) (repeatCells e.zero n) (parts.toList.map fun p => (p.1, ev p.2)) with
       | none => rw [hf3] at hk; cases hk
       | some cs =>
         rw [hf3, o_bd] at hk
         refine ⟨_, hk, fun hh2 qq2 => OpOk.new (s := fun a => Instr.buildSlice t n (parts.map fun (i, x) => (i, a.eval x))) (fun _ => rfl) fun μ w a hr hev => ?_⟩
         obtain ⟨p1, p2⟩ := parts_rel hev parts
         exact buildSlice_ok hT hi hty he hc.2 hc.1 p1 p2 hf3 hr
     · cases hk
   · cases hk
 ·
   simp [flt] at hf
 ·
   simp [flt] at hf
 ·
   rename_i t x
   have key : ∀ d, P.underlying t = some d → (∀ ms, d ≠ .interface ms) → k (.iface t (ev x)) h = some r → ∃ v, k v h = some r ∧ ∀ (hh : AH) (qq : Bool), OpOk P B qq ev hh ⟨dst, .makeInterface t x, type, pos, after, guard⟩ v hh := by
     intro d hd hnd hk
     refine ⟨_, hk, fun hh2 qq2 => OpOk.val (s := fun a => Instr.makeInterface t (a.eval x)) (fun _ => rfl) fun μ w a hr hev => ⟨.iface t (a.eval x), ?_, .iface (hev x)⟩⟩
     exact run_makeInterface w t _ (by unfold Program.concrete; rw [hd]; cases d <;> first | rfl | exact absurd rfl (hnd _))
   split at hk
   · rename_i hty
     obtain ⟨i, hi, hiy⟩ := Ctx.ty_info hty (by simp)
     exact key _ (hT.bool hi hiy) (by simp) hk
   · rename_i kd hty
     obtain ⟨i, hi, hiy⟩ := Ctx.ty_info hty (by simp)
     exact key _ (hT.int hi hiy) (by simp) hk
   · rename_i hty
     obtain ⟨i, hi, hiy⟩ := Ctx.ty_info hty (by simp)
     exact key _ (hT.str hi hiy) (by simp) hk
   · rename_i hty
     obtain ⟨i, hi, hiy⟩ := Ctx.ty_info hty (by simp)
     exact key _ (hT.ptr hi hiy) (by simp) hk
   · cases hk
 ·
   rename_i x xt ta ok
   rw [Bool.cond_eq_ite] at hk
   split at hk
   case isFalse => cases hk
   rename_i hok
   subst hok
   split at hk
   case h_2 => cases hk
   rename_i i hi
   split at hk
   case h_2 => cases hk
   rename_i hty hz
   cases hr1 : tassert ta (ev x) with
   | none => rw [hr1] at hk; cases hk
   | some r1 =>
     rw [hr1, o_bd] at hk
     refine ⟨_, hk, fun hh2 qq2 => OpOk.val (s := fun a => Instr.typeAssert (a.eval x) xt ta true) (fun _ => rfl) fun μ w a hr hev => ?_⟩
     obtain ⟨y, g1, g2⟩ := tassert_ok (P := P) (xt := xt) hT hi hty hz hr1 (hev x) w
     exact ⟨_, g1, pair_rel g2 .bool⟩
 ·
   simp [flt] at hf
 · simp [flt] at hf
 · simp [flt] at hf
 · simp [flt] at hf
 · cases hk
set_option maxHeartbeats 4000000 in
theorem aop_rd (hT : TypesOk P C) {β : Type} {ev : Operand → AV} (o : Oper) {k : K β} {r : β} (hk : aop C q ev o.op h k = some r) (hf : flt C o.op = .rd) :
   ∃ v, k v h = some r ∧ OpOk P B q ev h o v h := by
 obtain ⟨dst, op, type, pos, after, guard⟩ := o
 simp only at hk hf
 unfold aop at hk
 split at hk
 ·
   simp [flt] at hf
 ·
   simp [flt] at hf
 ·
   simp [flt] at hf
 ·
   simp [flt] at hf
 ·
   simp [flt] at hf
 ·
   rename_i src d x
   simp only [flt] at hf
   split at hf
   case h_1 => cases hf
   case h_3 => cases hf
   rename_i hty
   split at hk
   · rename_i h9; rw [hty] at h9; cases h9
   have key : ∃ u, k u h = some r ∧ aconv C src d (ev x) h (fun u h' => some (u, h')) = some (u, h) := by
     unfold aconv at hk ⊢
     rw [hty] at hk ⊢
     split at hk
     all_goals (first | (rename_i e _; cases e; done) | skip)
     · rename_i s _ hx
       split at hk
       · rename_i hts
         refine ⟨_, hk, ?_⟩
         rfl
       · cases hk
     · rename_i s _ hx
       split at hk
       · rename_i i hts hi
         split at hk
         · rename_i hte
           simp only
           cases hc : h.sliceCells 1 s with
           | none => rw [hc] at hk; cases hk
           | some cs =>
             rw [hc, o_bd] at hk
             cases hb : bytesFrom cs with
             | none => rw [hb] at hk; cases hk
             | some bs =>
               rw [hb, o_bd] at hk
               refine ⟨_, hk, ?_⟩
               rw [o_bd, hb, o_bd]
         · cases hk
       · cases hk
     · cases hk
   obtain ⟨u, h1, h2⟩ := key
   obtain ⟨u', h', h3, h4⟩ := conv_ok (P := P) (B := B) hT h2
   cases h3
   exact ⟨u, h1, OpOk.new (s := fun a => convert src d (a.eval x)) (fun _ => rfl) fun μ w a hr hev => h4 μ w _ hr (hev x)⟩
 ·
   simp [flt] at hf
 ·
   simp [flt] at hf
 ·
   simp [flt] at hf
 ·
   rename_i t x ix
   split at hk
   · rename_i s kd j i hs hj hi
     split at hk
     · rename_i e hty he
       rw [Bool.cond_eq_ite] at hk
       split at hk
       case isFalse => cases hk
       rename_i hp
       cases hp' : h.addr e.size s j with
       | none => rw [hp'] at hk; cases hk
       | some p =>
         rw [hp', o_bd] at hk
         refine ⟨_, hk, OpOk.val (s := fun a => Instr.indexAt t (a.eval x) (a.eval ix)) (fun _ => rfl) fun μ w a hr hev => ?_⟩
         have h1 := hev x
         have h2 := hev ix
         rw [hs] at h1
         rw [hj] at h2
         show ∃ y, (Instr.indexAt t (a.eval x) (a.eval ix)).run P w = .ok y w ∧ _
         rw [h2.int_inv]
         exact indexAddr_ok hT hi hty he hp hr hp' h1
     · cases hk
   · rename_i p kd j i hs hj hi
     split at hk
     · rename_i e he
       rw [Bool.cond_eq_ite] at hk
       split at hk
       case isFalse => cases hk
       rename_i hp
       simp only [Bool.and_eq_true, Bool.not_eq_true', nbeq_false] at hp
       cases hp' : p.elem e.size i.len j with
       | none => rw [hp'] at hk; cases hk
       | some p' =>
         rw [hp', o_bd] at hk
         refine ⟨_, hk, OpOk.val (s := fun a => Instr.indexAt t (a.eval x) (a.eval ix)) (fun _ => rfl) fun μ w a hr hev => ?_⟩
         have h1 := hev x
         have h2 := hev ix
         rw [hs] at h1
         rw [hj] at h2
         show ∃ y, (Instr.indexAt t (a.eval x) (a.eval ix)).run P w = .ok y w ∧ _
         rw [h2.int_inv]
         exact indexAddrArr_ok hT hi hp.1.1 hp.1.2 he hp.2 hp' h1
     · cases hk
   · cases hk
 ·
   simp [flt] at hf
 ·
   rename_i t x
   split at hk
   · rename_i p hp
     obtain ⟨v, k1, k2⟩ := load_ok (P := P) (B := B) hT hk
     refine ⟨v, k1, OpOk.val (s := fun a => Instr.loadAt t (a.eval x)) (fun _ => rfl) fun μ w a hr hev => ?_⟩
     have h1 := hev x
     rw [hp] at h1
     exact k2 μ w _ hr h1
   · cases hk
 ·
   simp [flt] at hf
 ·
   simp [flt] at hf
 ·
   simp [flt] at hf
 ·
   simp [flt] at hf
 ·
   rename_i t n parts
   cases h9 : litBytes parts <;> simp [flt, h9] at hf
 ·
   simp [flt] at hf
 ·
   rename_i t x lo hi mx
   rw [Bool.cond_eq_ite] at hk
   split at hk
   case isFalse => cases hk
   rename_i hc
   obtain ⟨u, k1, k2⟩ := slice_ok (P := P) (B := B) hT hk (by
     simp only [Bool.or_eq_true] at hc
     rcases hc with hc | hc
     · left; cases mx <;> simp at hc ⊢
     · right; cases hi <;> simp at hc ⊢)
   exact ⟨u, k1, OpOk.val (s := fun a => Instr.sliceAt t (a.eval x) (lo.map a.eval) (hi.map a.eval) (mx.map a.eval)) (fun _ => rfl) fun μ w a hr hev =>
     k2 μ w _ _ _ _ hr (hev x) (ORel.map hev lo) (ORel.map hev hi) (ORel.map hev mx)⟩
 ·
   simp [flt] at hf
 ·
   simp [flt] at hf
 ·
   simp [flt] at hf
 · simp [flt] at hf
 ·
   rename_i t x ix ok
   split at hk
   · rename_i m kd n i hm hn hi
     split at hk
     · rename_i kd' e hty hkt he
       rw [Bool.cond_eq_ite] at hk
       split at hk
       case isFalse => cases hk
       rename_i hc
       simp only [Bool.and_eq_true, decide_eq_true_eq] at hc
       obtain ⟨rfl, ho⟩ := hc
       obtain ⟨u, k1, k2⟩ := lookup_ok (P := P) (B := B) (k := fun v => k v h) hT hi hty hkt he ho hk
       refine ⟨u, k1, OpOk.val (s := fun a => Instr.lookup t (a.eval x) (a.eval ix) ok) (fun _ => rfl) fun μ w a hr hev => ?_⟩
       have h1 := hev x
       have h2 := hev ix
       rw [hm] at h1
       rw [hn] at h2
       show ∃ y, (Instr.lookup t (a.eval x) (a.eval ix) ok).run P w = .ok y w ∧ _
       rw [h2.int_inv]
       exact k2 μ w _ hr h1
     · cases hk
   · cases hk
 · simp [flt] at hf
 · cases hk
theorem aoper_free (hT : TypesOk P C) {β : Type} {ev : Operand → AV} (o : Oper) {k : K β} {r : β} (hk : aoper C q call ev o h k = some r) (hf : flt C o.op = .free) (hnp : ∀ c a b, o.op ≠ .pick c a b) :
   ∃ v, k v h = some r ∧ ∀ (hh : AH) (qq : Bool), OpWp P C B qq ev hh o v hh := by
 unfold aoper at hk
 split at hk
 · rename_i c ho
   have hcal : c.callee = .builtin .len := by
     rw [ho] at hf
     simp only [flt] at hf
     split at hf
     · assumption
     · cases hf
   rw [hcal] at hk
   simp only at hk
   have key : ∃ v, k v h = some r ∧ ∀ (hh : AH) (qq : Bool), abuiltin C qq ev .len c.args.toList c.argTypes.toList hh (fun u h' => some (u, h')) = some (v, hh) := by
     unfold abuiltin at hk ⊢
     split at hk
     all_goals (first | (rename_i e _; cases e; done) | skip)
     · rename_i x _ hargs
       split at hk
       · rename_i s t ts he hts
         split at hk
         · rename_i hty
           exact ⟨_, hk, fun hh qq => by simp only []⟩
         · cases hk
       · rename_i s t ts he hts
         split at hk
         · rename_i hty
           exact ⟨_, hk, fun hh qq => by simp only []⟩
         · cases hk
       · split at hk
         · rename_i t ts hts _ _ _ i hi
           rw [Bool.cond_eq_ite] at hk
           split at hk
           case isFalse => cases hk
           rename_i hc
           refine ⟨_, hk, fun hh qq => ?_⟩
           simp only [hc, cond_true]
         · cases hk
       · cases hk
     · cases hk
   obtain ⟨v, h1, h2⟩ := key
   refine ⟨v, h1, fun hh qq => ?_⟩
   obtain ⟨v', h', h3, h4⟩ := abuiltin_ok (B := B) hT o ho hcal (h2 hh qq)
   cases h3
   exact h4.wp
 · rename_i hnc
   obtain ⟨v, h1, h2⟩ := aop_free (P := P) (B := B) hT o hk hf hnp (fun c e => hnc c e)
   exact ⟨v, h1, fun hh qq => (h2 hh qq).wp⟩
theorem aoper_rd (hT : TypesOk P C) {β : Type} {ev : Operand → AV} (o : Oper) {k : K β} {r : β} (hk : aoper C q call ev o h k = some r) (hf : flt C o.op = .rd) :
   ∃ v, k v h = some r ∧ OpWp P C B q ev h o v h := by
 unfold aoper at hk
 split at hk
 · rename_i c ho
   rw [ho] at hf
   simp only [flt] at hf
   split at hf <;> cases hf
 · obtain ⟨v, h1, h2⟩ := aop_rd (P := P) (B := B) hT o hk hf
   exact ⟨v, h1, h2.wp⟩
end
end Go.Proofs.YtjagkijfngokaaaGreatDoor
