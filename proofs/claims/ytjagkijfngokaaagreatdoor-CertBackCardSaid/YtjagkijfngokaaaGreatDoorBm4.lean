/-
 Each operation that calls no Go function does in the model what the abstract machine says (first part).
-/
import Derived.Test.YtjagkijfngokaaaGreatDoorBm3
import Derived.LaidEql
namespace Go.Proofs.YtjagkijfngokaaaGreatDoor
open Go.RowKit
def Out (μ : Mu) (v : AV) : Next → Prop
 | .value x => VRel μ v x
 | .skip => VRel μ v undef
 | _ => False
def OpRes (P : Program) (B : Nat) (q : Bool) (v : AV) (h' : AH) (μ : Mu) (w : World) (s : Sem Next) : Prop :=
 ∃ μ' w' n, μ.le μ' ∧ s.run P w = .ok n w' ∧ Out μ' v n ∧ HRel μ' B h' w' ∧ Below B w w' ∧ (q = true → Below w.heap.size w w')
section
variable {P : Program} {C : Ctx} {B : Nat} {q : Bool} {h : AH} {μ : Mu} {w : World} {v : AV}
theorem OpRes.same {s : Sem Next} {x : Value} (hr : HRel μ B h w) (hrun : s.run P w = .ok (.value x) w) (hv : VRel μ v x) : OpRes P B q v h μ w s :=
 ⟨μ, w, .value x, μ.le_refl, hrun, hv, hr, Below.refl _ _, fun _ => Below.refl _ _⟩
theorem run_value {s : Sem Value} {x : Value} {w' : World} (hrun : s.run P w = .ok x w') : (do pure (Next.value (← s)) : Sem Next).run P w = .ok (.value x) w' := by
 rw [Sem.run_bind, hrun]; rfl
theorem run_unit {s : Sem Unit} {w' : World} (hrun : s.run P w = .ok () w') : (do s; pure Next.skip : Sem Next).run P w = .ok .skip w' := by
 rw [Sem.run_bind, hrun]; rfl
theorem VRel.bool_inv {b : Bool} {x : Value} (h : VRel μ (.bool b) x) : x = .bool b := by cases h; rfl
theorem VRel.int_inv {k : IntKind} {n : Int} {x : Value} (h : VRel μ (.int k n) x) : x = .int k n := by cases h; rfl
theorem VRel.str_inv {s : ByteArray} {x : Value} (h : VRel μ (.str s) x) : x = .string s := by cases h; rfl
theorem run_intBits (op : BinOp) (kd : IntKind) (m n : Int) (w : World) (hop : op = .and ∨ op = .or ∨ op = .xor ∨ op = .andNot) :
   (Op.intBits op kd m n).run P w = .ok (.int kd (bitsOp op kd m n)) w := by
 rcases hop with rfl | rfl | rfl | rfl <;> simp [Op.intBits, bitsOp]
theorem beq_dec {α : Type} [DecidableEq α] (a b : α) : (a == b) = decide (a = b) := by
 by_cases h : a = b <;> simp [h]
theorem binInt_ok {β : Type} (op : BinOp) (t : TypeId) (kd : IntKind) (m n : Int) {k : AV → Option β} {r : β} (hk : abinInt op kd m n k = some r) :
   ∃ v, k v = some r ∧ ∀ (P : Program) (μ : Mu) (w : World), ∃ x, (binOp op t (.int kd m) (.int kd n)).run P w = .ok x w ∧ VRel μ v x := by
 cases op <;> simp only [abinInt] at hk
 case add => exact ⟨_, hk, fun P μ w => ⟨_, by simp [binOp_add, Op.intArith], .int⟩⟩
 case sub => exact ⟨_, hk, fun P μ w => ⟨_, by simp [binOp_sub, Op.intArith], .int⟩⟩
 case mul => exact ⟨_, hk, fun P μ w => ⟨_, by simp [binOp_mul, Op.intArith], .int⟩⟩
 case quo =>
   rw [Bool.cond_decide] at hk
   split at hk
   · cases hk
   · rename_i h0
     exact ⟨_, hk, fun P μ w => ⟨_, by simp [binOp_quo, Op.intDiv, h0], .int⟩⟩
 case rem =>
   rw [Bool.cond_decide] at hk
   split at hk
   · cases hk
   · rename_i h0
     exact ⟨_, hk, fun P μ w => ⟨_, by simp [binOp_rem, Op.intDiv, h0], .int⟩⟩
 case and => exact ⟨_, hk, fun P μ w => ⟨_, by rw [binOp_and]; exact run_intBits _ _ _ _ _ (by simp), .int⟩⟩
 case or => exact ⟨_, hk, fun P μ w => ⟨_, by rw [binOp_or]; exact run_intBits _ _ _ _ _ (by simp), .int⟩⟩
 case xor => exact ⟨_, hk, fun P μ w => ⟨_, by rw [binOp_xor]; exact run_intBits _ _ _ _ _ (by simp), .int⟩⟩
 case andNot => exact ⟨_, hk, fun P μ w => ⟨_, by rw [binOp_andNot]; exact run_intBits _ _ _ _ _ (by simp), .int⟩⟩
 case eql => exact ⟨_, hk, fun P μ w => ⟨_, by rw [binOp_eql]; rfl, by rw [beq_dec]; exact .bool⟩⟩
 case neq => exact ⟨_, hk, fun P μ w => ⟨_, by rw [binOp_neq]; rfl, by rw [bne, beq_dec]; exact .bool⟩⟩
 case lss => exact ⟨_, hk, fun P μ w => ⟨_, by rw [binOp_lss]; rfl, .bool⟩⟩
 case leq => exact ⟨_, hk, fun P μ w => ⟨_, by rw [binOp_leq]; rfl, .bool⟩⟩
 case gtr => exact ⟨_, hk, fun P μ w => ⟨_, by rw [binOp_gtr]; rfl, .bool⟩⟩
 case geq => exact ⟨_, hk, fun P μ w => ⟨_, by rw [binOp_geq]; rfl, .bool⟩⟩
 all_goals cases hk
theorem binStr_ok {β : Type} (op : BinOp) (t : TypeId) (a b : ByteArray) {k : AV → Option β} {r : β} (hk : abinStr op a b k = some r) :
   ∃ v, k v = some r ∧ ∀ (P : Program) (μ : Mu) (w : World), ∃ x, (binOp op t (.string a) (.string b)).run P w = .ok x w ∧ VRel μ v x := by
 have he : (a.toList == b.toList) = decide (a = b) := by
   rw [ByteArray.toList_eq, ByteArray.toList_eq]
   by_cases h : a = b
   · simp [h]
   · have : ¬ a.data.toList = b.data.toList := fun k => h (by cases a; cases b; simp_all)
     rw [beq_false_of_ne this]
     simp [h]
 cases op <;> simp only [abinStr] at hk
 case add =>
   rw [Bool.cond_eq_ite] at hk
   split at hk
   · rename_i h0
     rw [nble] at h0
     exact ⟨_, hk, fun P μ w => ⟨_, by
       have h1 : ¬ (9223372036854775807 : Int) < ((a.size + b.size : Nat) : Int) := by omega
       simp only [binOp, Op.stringOp, IntKind.max_i64, gt_iff_lt]
       rw [if_neg h1]
       rfl, .str⟩⟩
   · cases hk
 case eql => exact ⟨_, hk, fun P μ w => ⟨_, by simp only [binOp, Op.stringOp]; rfl, by rw [he]; exact .bool⟩⟩
 case neq => exact ⟨_, hk, fun P μ w => ⟨_, by simp only [binOp, Op.stringOp]; rfl, by rw [he]; exact .bool⟩⟩
 all_goals cases hk
theorem eqGuard_free {op : BinOp} {t : TypeId} {x y : Operand} {a b : Value} (h1 : a = .nilIface → b = .nilIface → (∃ c, x = .const c) ∨ ∃ c, y = .const c) (h2 : ∀ c, a ≠ .agg c) :
   eqGuard op t x y a b = pure () := by
 cases a with
 | bool => exact eqGuard_at_bool ..
 | int => exact eqGuard_at_int ..
 | float => exact eqGuard_at_float ..
 | complex => exact eqGuard_at_complex ..
 | string => exact eqGuard_at_string ..
 | pointer => exact eqGuard_at_pointer ..
 | slice => exact eqGuard_at_slice ..
 | map => exact eqGuard_at_map ..
 | chan => exact eqGuard_at_chan ..
 | func => exact eqGuard_at_func ..
 | nilFunc => exact eqGuard_at_nilFunc ..
 | iface => exact eqGuard_at_iface ..
 | tuple => exact eqGuard_at_tuple ..
 | agg c => exact absurd rfl (h2 c)
 | nilIface =>
   cases b with
   | nilIface =>
     rcases h1 rfl rfl with ⟨c, rfl⟩ | ⟨c, rfl⟩
     · exact eqGuard_nil_constL ..
     · exact eqGuard_nil_constR ..
   | _ => cases op <;> rfl
theorem Ctx.ty_info {C : Ctx} {t : TypeId} {ty : ATy} (h : C.ty t = ty) (hne : ty ≠ .other) : ∃ i, C.info t = some i ∧ i.ty = ty := by
 unfold Ctx.ty at h
 split at h
 · rename_i i hi; exact ⟨i, hi, h⟩
 · exact absurd h.symm hne
theorem equal_succ (t : TypeId) (x y : Value) : ∃ d, Op.equal t x y = Op.equalIn (d + 1) t x y := ⟨9999, rfl⟩
set_option maxHeartbeats 1000000 in
theorem nil_equal (hT : TypesOk P C) {t : TypeId} {a : AV} {x c : Value} (hv : VRel μ a x) {o : Operand} (ho : isNilConst (C.ty t) o = true) (hc : o = .const c) {r : Bool} (hr : nilTest (C.ty t) a = some r) (w : World) :
   (Op.equal t x c).run P w = .ok r w ∧ (Op.equal t c x).run P w = .ok r w := by
 subst hc
 have hu : ∀ {ty : ATy}, C.ty t = ty → ty ≠ .other → ∃ i, C.info t = some i ∧ i.ty = ty := fun h1 h3 => Ctx.ty_info h1 h3
 obtain ⟨d1, e1⟩ := equal_succ t x c
 obtain ⟨d2, e2⟩ := equal_succ t c x
 rw [e1, e2]
 simp only [Op.equalIn]
 cases hty : C.ty t <;> rw [hty] at ho hr <;> cases a <;> simp only [nilTest] at hr <;> (try (cases hr; done))
 case ptr.ptr p =>
   obtain ⟨i, hi, hiy⟩ := hu hty (by simp)
   have hun := hT.ptr hi hiy
   have hc : c = .pointer none := by
     unfold isNilConst at ho
     split at ho <;> first | (rename_i e1 e2; cases e2; rfl) | (rename_i e1 e2; cases e1; done) | cases ho
   subst hc
   cases hv <;> simp at hr <;> subst hr <;> constructor <;> simp [run_underlying hun]
 case slice.slice p =>
   obtain ⟨i, hi, hiy⟩ := hu hty (by simp)
   have hun := hT.slice hi hiy
   have hc : c = .slice none 0 0 := by
     unfold isNilConst at ho
     split at ho <;> first | (rename_i e1 e2; cases e2; rfl) | (rename_i e1 e2; cases e1; done) | cases ho
   subst hc
   cases hv with
   | nilslice => simp at hr; subst hr; constructor <;> simp [run_underlying hun]
   | noslice => simp at hr; subst hr; constructor <;> simp [run_underlying hun]
   | slice => simp at hr; subst hr; constructor <;> simp [run_underlying hun]
   | lst0 => simp at hr
   | lst =>
     simp only [Bool.cond_eq_ite] at hr
     split at hr
     · cases hr
     · cases hr; constructor <;> simp [run_underlying hun]
 case slice.empty =>
   obtain ⟨i, hi, hiy⟩ := hu hty (by simp)
   have hun := hT.slice hi hiy
   have hc : c = .slice none 0 0 := by
     unfold isNilConst at ho
     split at ho <;> first | (rename_i e1 e2; cases e2; rfl) | (rename_i e1 e2; cases e1; done) | cases ho
   subst hc
   cases hv
   cases hr
   constructor <;> simp [run_underlying hun]
 case map.map p =>
   obtain ⟨i, hi, hiy⟩ := hu hty (by simp)
   obtain ⟨kk, hun⟩ : ∃ kk, P.underlying _ = some (.map kk _) := ⟨_, hT.map hi hiy⟩
   have hc : c = .map none := by
     unfold isNilConst at ho
     split at ho <;> first | (rename_i e1 e2; cases e2; rfl) | (rename_i e1 e2; cases e1; done) | cases ho
   subst hc
   cases hv <;> simp at hr <;> subst hr <;> constructor <;> simp [run_underlying hun]
 case iface.nilif =>
   obtain ⟨i, hi, hiy⟩ := hu hty (by simp)
   obtain ⟨ms, hun⟩ := hT.iface hi hiy
   have hc : c = .nilIface := by
     unfold isNilConst at ho
     split at ho <;> first | (rename_i e1 e2; cases e2; rfl) | (rename_i e1 e2; cases e1; done) | cases ho
   subst hc
   cases hv
   simp at hr; subst hr; constructor <;> simp [run_underlying hun]
 case iface.iface =>
   obtain ⟨i, hi, hiy⟩ := hu hty (by simp)
   obtain ⟨ms, hun⟩ := hT.iface hi hiy
   have hc : c = .nilIface := by
     unfold isNilConst at ho
     split at ho <;> first | (rename_i e1 e2; cases e2; rfl) | (rename_i e1 e2; cases e1; done) | cases ho
   subst hc
   cases hv
   simp at hr; subst hr; constructor <;> simp [run_underlying hun]
 case func.nilfunc =>
   obtain ⟨i, hi, hiy⟩ := hu hty (by simp)
   obtain ⟨ps, rs, vd, hun⟩ := hT.func hi hiy
   have hc : c = .nilFunc := by
     unfold isNilConst at ho
     split at ho <;> first | (rename_i e1 e2; cases e2; rfl) | (rename_i e1 e2; cases e1; done) | cases ho
   subst hc
   cases hv
   simp at hr; subst hr; constructor <;> simp [run_underlying hun]
 case func.func =>
   obtain ⟨i, hi, hiy⟩ := hu hty (by simp)
   obtain ⟨ps, rs, vd, hun⟩ := hT.func hi hiy
   have hc : c = .nilFunc := by
     unfold isNilConst at ho
     split at ho <;> first | (rename_i e1 e2; cases e2; rfl) | (rename_i e1 e2; cases e1; done) | cases ho
   subst hc
   cases hv
   simp at hr; subst hr; constructor <;> simp [run_underlying hun]
def RefLike (x : Value) : Prop := (∃ a, x = .pointer a) ∨ (∃ a n c, x = .slice a n c) ∨ (∃ a, x = .map a) ∨ x = .nilIface ∨ (∃ u v, x = .iface u v) ∨ x = .nilFunc ∨ ∃ f a c, x = .func f a c
theorem RefLike.noAgg {x : Value} (h : RefLike x) : ∀ c, x ≠ .agg c := by
 rcases h with ⟨a, rfl⟩ | ⟨a, n, c, rfl⟩ | ⟨a, rfl⟩ | rfl | ⟨u, v, rfl⟩ | rfl | ⟨f, a, c, rfl⟩ <;> intro c h <;> cases h
theorem isNilConst_const {ty : ATy} {o : Operand} (h : isNilConst ty o = true) : ∃ c, o = .const c ∧ RefLike c := by
 unfold isNilConst at h
 split at h
 · exact ⟨_, rfl, .inl ⟨_, rfl⟩⟩
 · exact ⟨_, rfl, .inr (.inl ⟨_, _, _, rfl⟩)⟩
 · exact ⟨_, rfl, .inr (.inr (.inl ⟨_, rfl⟩))⟩
 · exact ⟨_, rfl, .inr (.inr (.inr (.inl rfl)))⟩
 · exact ⟨_, rfl, .inr (.inr (.inr (.inr (.inr (.inl rfl)))))⟩
 · cases h
theorem nilTest_ref {ty : ATy} {a : AV} {r : Bool} {x : Value} (hr : nilTest ty a = some r) (hv : VRel μ a x) : RefLike x := by
 unfold nilTest at hr
 split at hr <;> first | (cases hr; done) | skip
 all_goals cases hv
 · exact .inl ⟨_, rfl⟩
 · exact .inl ⟨_, rfl⟩
 · exact .inl ⟨_, rfl⟩
 · exact .inr (.inl ⟨_, _, _, rfl⟩)
 · exact .inr (.inl ⟨_, _, _, rfl⟩)
 · exact .inr (.inl ⟨_, _, _, rfl⟩)
 · exact .inr (.inl ⟨_, _, _, rfl⟩)
 · exact .inr (.inl ⟨_, _, _, rfl⟩)
 · exact .inr (.inl ⟨_, _, _, rfl⟩)
 · exact .inr (.inr (.inl ⟨_, rfl⟩))
 · exact .inr (.inr (.inl ⟨_, rfl⟩))
 · exact .inr (.inr (.inr (.inl rfl)))
 · exact .inr (.inr (.inr (.inr (.inl ⟨_, _, rfl⟩))))
 · exact .inr (.inr (.inr (.inr (.inr (.inl rfl)))))
 · exact .inr (.inr (.inr (.inr (.inr (.inr ⟨_, _, _, rfl⟩)))))
theorem binOp_eql' (t : TypeId) (x y : Value) (hx : RefLike x) (r : Bool) (w : World) (hr : (Op.equal t x y).run P w = .ok r w) : (binOp .eql t x y).run P w = .ok (.bool r) w := by
 have h1 : binOp .eql t x y = (do pure (.bool (← Op.equal t x y))) := by
   rcases hx with ⟨a, rfl⟩ | ⟨a, n, c, rfl⟩ | ⟨a, rfl⟩ | rfl | ⟨u, v, rfl⟩ | rfl | ⟨f, a, c, rfl⟩ <;> rfl
 rw [h1, Sem.run_bind, hr]; rfl
theorem binOp_neq' (t : TypeId) (x y : Value) (hx : RefLike x) (r : Bool) (w : World) (hr : (Op.equal t x y).run P w = .ok r w) : (binOp .neq t x y).run P w = .ok (.bool !r) w := by
 have h2 : binOp .neq t x y = (do pure (.bool (!(← Op.equal t x y)))) := by
   rcases hx with ⟨a, rfl⟩ | ⟨a, n, c, rfl⟩ | ⟨a, rfl⟩ | rfl | ⟨u, v, rfl⟩ | rfl | ⟨f, a, c, rfl⟩ <;> rfl
 rw [h2, Sem.run_bind, hr]; rfl
theorem bin_ok (hT : TypesOk P C) {β : Type} {op : BinOp} {t : TypeId} {x y : Operand} {a b : AV} {k : AV → Option β} {r : β} (hk : abin C op t x y a b k = some r) :
   ∃ v, k v = some r ∧ ∀ (μ : Mu) (h : AH) (w : World) (act : Act), FrzOk μ h w → VRel μ a (act.eval x) → VRel μ b (act.eval y) →
     ∃ u, (do eqGuard op t x y (act.eval x) (act.eval y); binOp op t (act.eval x) (act.eval y) : Sem Value).run P w = .ok u w ∧ VRel μ v u := by
 unfold abin at hk
 rw [Bool.cond_eq_ite] at hk
 split at hk
 · unfold abinNil at hk
   have key : ∀ (op : BinOp) (f : Bool → Bool) (_hop : ∀ x y r w, RefLike x → (Op.equal t x y).run P w = .ok r w → (binOp op t x y).run P w = .ok (.bool (f r)) w) (r' : Bool),
       (isNilConst (C.ty t) y = true ∧ nilTest (C.ty t) a = some r' ∨ isNilConst (C.ty t) x = true ∧ nilTest (C.ty t) b = some r') →
       ∀ (μ : Mu) (w : World) (act : Act), VRel μ a (act.eval x) → VRel μ b (act.eval y) →
       (do eqGuard op t x y (act.eval x) (act.eval y); binOp op t (act.eval x) (act.eval y) : Sem Value).run P w = .ok (.bool (f r')) w := by
     intro op f hop r' hcase μ w act hx hy
     rcases hcase with ⟨hn, ht⟩ | ⟨hn, ht⟩
     · obtain ⟨c, rfl, hc⟩ := isNilConst_const hn
       have href := nilTest_ref ht hx
       rw [eqGuard_free (fun _ _ => .inr ⟨c, rfl⟩) href.noAgg]
       have h1 := (nil_equal hT hx hn rfl ht w).1
       exact hop _ _ r' w href h1
     · obtain ⟨c, rfl, hc⟩ := isNilConst_const hn
       rw [eqGuard_free (fun _ _ => .inl ⟨c, rfl⟩) (by simpa [Act.eval] using hc.noAgg)]
       have h1 := (nil_equal hT hy hn rfl ht w).2
       exact hop _ _ r' w hc h1
   split at hk
   · rw [Bool.cond_eq_ite] at hk
     split at hk
     · rename_i hn
       cases ht : nilTest (C.ty t) a with
       | none => rw [ht] at hk; cases hk
       | some r' =>
         rw [ht] at hk
         refine ⟨_, hk, fun μ hp w act hz hx hy => ?_⟩
         exact ⟨_, key .eql id (fun x y r w hx hr => binOp_eql' t x y hx r w hr) r' (.inl ⟨hn, ht⟩) μ w act hx hy, .bool⟩
     · rw [Bool.cond_eq_ite] at hk
       split at hk
       · rename_i hn
         cases ht : nilTest (C.ty t) b with
         | none => rw [ht] at hk; cases hk
         | some r' =>
           rw [ht] at hk
           refine ⟨_, hk, fun μ hp w act hz hx hy => ?_⟩
           exact ⟨_, key .eql id (fun x y r w hx hr => binOp_eql' t x y hx r w hr) r' (.inr ⟨hn, ht⟩) μ w act hx hy, .bool⟩
       · cases hk
   · rw [Bool.cond_eq_ite] at hk
     split at hk
     · rename_i hn
       cases ht : nilTest (C.ty t) a with
       | none => rw [ht] at hk; cases hk
       | some r' =>
         rw [ht] at hk
         refine ⟨_, hk, fun μ hp w act hz hx hy => ?_⟩
         exact ⟨_, key .neq (! ·) (fun x y r w hx hr => binOp_neq' t x y hx r w hr) r' (.inl ⟨hn, ht⟩) μ w act hx hy, .bool⟩
     · rw [Bool.cond_eq_ite] at hk
       split at hk
       · rename_i hn
         cases ht : nilTest (C.ty t) b with
         | none => rw [ht] at hk; cases hk
         | some r' =>
           rw [ht] at hk
           refine ⟨_, hk, fun μ hp w act hz hx hy => ?_⟩
           exact ⟨_, key .neq (! ·) (fun x y r w hx hr => binOp_neq' t x y hx r w hr) r' (.inr ⟨hn, ht⟩) μ w act hx hy, .bool⟩
       · cases hk
   · cases hk
 · have ife : ∀ r', C.ty t = .iface → ifaceSame C a b = some r' → ∀ (μ : Mu) (h : AH) (w : World) (act : Act), FrzOk μ h w → VRel μ a (act.eval x) → VRel μ b (act.eval y) → RefLike (act.eval x) ∧ eqGuard op t x y (act.eval x) (act.eval y) = pure () ∧ (Op.equal t (act.eval x) (act.eval y)).run P w = .ok r' w := by
     intro r' hty hs μ hp w act hz hx hy
     obtain ⟨i, hi, hiy⟩ := Ctx.ty_info hty (by simp)
     obtain ⟨ms, hu⟩ := hT.iface hi hiy
     generalize act.eval x = X at hx
     generalize act.eval y = Y at hy
     obtain ⟨d, e⟩ := equal_succ t X Y
     rw [e]
     unfold ifaceSame at hs
     split at hs
     · split at hs
       · cases hs
         cases hx; cases hy
         exact ⟨.inr (.inr (.inr (.inl rfl))), by cases op <;> rfl, by simp [Op.equalIn, run_underlying hu]⟩
       · cases hs
     · rename_i ta xa
       split at hs
       · cases hs
         cases hx; cases hy
         exact ⟨.inr (.inr (.inr (.inr (.inl ⟨_, _, rfl⟩)))), eqGuard_at_iface .., by simp [Op.equalIn, run_underlying hu]⟩
       · rename_i tb xb
         rw [Bool.cond_eq_ite] at hs
         cases hx; cases hy
         rename_i vx hvx vy hvy
         refine ⟨.inr (.inr (.inr (.inr (.inl ⟨_, _, rfl⟩)))), eqGuard_at_iface .., ?_⟩
         split at hs
         · rename_i htt
           rw [nbeq] at htt
           subst htt
           split at hs
           case h_2 => cases hs
           rename_i ti hti
           rw [Bool.cond_eq_ite] at hs
           split at hs
           case isFalse => cases hs
           rename_i hl
           rw [nbeq] at hl
           split at hs
           case h_2 => cases hs
           rename_i k1 c1 k2 c2 htp
           rw [Bool.cond_eq_ite] at hs
           split at hs
           case isFalse => cases hs
           rename_i hne
           simp only [Bool.and_eq_true, Bool.not_eq_true', nbeq_false] at hne
           cases hs
           obtain ⟨j, kk, q1, q2, q3, q4⟩ := hT.ptrEq hti htp hl
           have hpt := hT.ptr hti htp
           cases hvx with
           | @fp _ _ a1 arr1 f1 f2 f3 f4 f5 f6 =>
             cases hvy with
             | @fp _ _ a2 arr2 g1 g2 g3 g4 g5 g6 =>
               obtain ⟨_, ca, ea, m1⟩ := hz.tok _ _ (f6 hne.1)
               obtain ⟨_, cb, eb, m2⟩ := hz.tok _ _ (g6 hne.2)
               obtain ⟨d', e'⟩ : ∃ d', Op.equal t (.iface ta (.pointer (some a1))) (.iface ta (.pointer (some a2))) = Op.equalIn (d' + 2) t (.iface ta (.pointer (some a1))) (.iface ta (.pointer (some a2))) := ⟨9998, rfl⟩
               rw [← e, e']
               by_cases hk12 : k1 = k2
               · subst hk12
                 have : a1 = a2 := by
                   have := f6 hne.1
                   rw [g6 hne.1] at this
                   cases this; rfl
                 subst this
                 rw [run_equalIn_iface_ptr_same w d' a1 hu hpt q1 q2 q3]
                 simp
               · have hn12 : a1 ≠ a2 := fun e9 => hk12 (hz.tinj _ _ _ (f6 hne.1) (e9 ▸ g6 hne.2))
                 rw [run_equalIn_iface_ptr_other w d' hu hpt q1 q2 q3 q4 hn12 m1 m2]
                 congr 1
                 rw [eq_comm, nbeq_false]
                 exact hk12
         · rename_i htt
           rw [nbeq] at htt
           cases hs
           simp [Op.equalIn, run_underlying hu, htt]
       · cases hs
     · cases hs
   split at hk
   · rename_i hty
     split at hk
     · cases hs : ifaceSame C a b with
       | none => rw [hs] at hk; cases hk
       | some r' =>
         rw [hs] at hk
         refine ⟨_, hk, fun μ hp w act hz hx hy => ?_⟩
         obtain ⟨e1, e2, e3⟩ := ife r' hty hs μ hp w act hz hx hy
         rw [e2]
         exact ⟨_, binOp_eql' t _ _ e1 r' w e3, .bool⟩
     · cases hs : ifaceSame C a b with
       | none => rw [hs] at hk; cases hk
       | some r' =>
         rw [hs] at hk
         refine ⟨_, hk, fun μ hp w act hz hx hy => ?_⟩
         obtain ⟨e1, e2, e3⟩ := ife r' hty hs μ hp w act hz hx hy
         rw [e2]
         exact ⟨_, binOp_neq' t _ _ e1 r' w e3, .bool⟩
     · cases hk
   split at hk
   · rename_i kd m kd' n
     split at hk
     · rw [Bool.cond_decide] at hk
       split at hk
       · cases hk
       · rename_i h0
         refine ⟨_, hk, fun μ hp w act hz hx hy => ?_⟩
         rw [hx.int_inv, hy.int_inv, eqGuard_at_int]
         exact ⟨_, by simp [binOp_shl, Op.shift, h0], .int⟩
     · rw [Bool.cond_decide] at hk
       split at hk
       · cases hk
       · rename_i h0
         refine ⟨_, hk, fun μ hp w act hz hx hy => ?_⟩
         rw [hx.int_inv, hy.int_inv, eqGuard_at_int]
         exact ⟨_, by simp [binOp_shr, Op.shift, h0], .int⟩
     · rw [Bool.cond_decide] at hk
       split at hk
       · rename_i e
         subst e
         obtain ⟨v, h1, h2⟩ := binInt_ok op t kd m n hk
         refine ⟨v, h1, fun μ hp w act hz hx hy => ?_⟩
         rw [hx.int_inv, hy.int_inv, eqGuard_at_int]
         obtain ⟨u, hu, hv⟩ := h2 P μ w
         exact ⟨u, by simpa using hu, hv⟩
       · cases hk
   · rename_i s u
     obtain ⟨v, h1, h2⟩ := binStr_ok op t s u hk
     refine ⟨v, h1, fun μ hp w act hz hx hy => ?_⟩
     rw [hx.str_inv, hy.str_inv, eqGuard_at_string]
     obtain ⟨u, hu, hv⟩ := h2 P μ w
     exact ⟨u, by simpa using hu, hv⟩
   · rename_i s u
     split at hk
     · rename_i hty
       obtain ⟨i, hi, hiy⟩ := Ctx.ty_info hty (by simp)
       have hun := hT.bool hi hiy
       have heq : ∀ w, (Op.equal t (.bool s) (.bool u)).run P w = .ok (s == u) w := fun w => by
         obtain ⟨d, e⟩ := equal_succ t (.bool s) (.bool u)
         rw [e]
         simp [Op.equalIn, run_underlying hun]
       split at hk
       · refine ⟨_, hk, fun μ hp w act hz hx hy => ?_⟩
         rw [hx.bool_inv, hy.bool_inv, eqGuard_at_bool]
         refine ⟨.bool (s == u), ?_, .bool⟩
         have : binOp .eql t (.bool s) (.bool u) = (do pure (.bool (← Op.equal t (.bool s) (.bool u)))) := rfl
         simp [this, heq]
       · refine ⟨_, hk, fun μ hp w act hz hx hy => ?_⟩
         rw [hx.bool_inv, hy.bool_inv, eqGuard_at_bool]
         refine ⟨.bool (!(s == u)), ?_, .bool⟩
         have : binOp .neq t (.bool s) (.bool u) = (do pure (.bool (!(← Op.equal t (.bool s) (.bool u))))) := rfl
         simp [this, heq]
       · cases hk
     · cases hk
   · cases hk
theorem un_ok {β : Type} {op : UnOp} {a : AV} {k : AV → Option β} {r : β} (hk : aun op a k = some r) :
   ∃ v, k v = some r ∧ ∀ (P : Program) (μ : Mu) (w : World) (x : Value), VRel μ a x → ∃ u, (Op.unary op x).run P w = .ok u w ∧ VRel μ v u := by
 unfold aun at hk
 split at hk
 · refine ⟨_, hk, fun P μ w x hx => ?_⟩
   rw [hx.int_inv]
   exact ⟨_, by simp [Op.unary, Op.intArith], .int⟩
 · refine ⟨_, hk, fun P μ w x hx => ?_⟩
   rw [hx.int_inv]
   exact ⟨_, by simp only [Op.unary]; exact run_intBits _ _ _ _ _ (by simp), .int⟩
 · refine ⟨_, hk, fun P μ w x hx => ?_⟩
   rw [hx.bool_inv]
   exact ⟨_, by simp [Op.unary], .bool⟩
 · cases hk
end
end Go.Proofs.YtjagkijfngokaaaGreatDoor
