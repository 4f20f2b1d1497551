/-
 Code and calls: in the model as the abstract machine says.
-/
import Derived.Test.YtjagkijfngokaaaGreatDoorBm21
import Derived.LoopN
namespace Go.Proofs.YtjagkijfngokaaaGreatDoor
open Go.RowKit
def exitOf : AExit → Exit
 | .normal => .normal
 | .exit id => .exit id
 | .ret => .ret
section
variable {P : Program} {C : Ctx} {B : Nat} {q : Bool} {nt : Nat}
def CodeRuns (P : Program) (C : Ctx) (B : Nat) (q : Bool) (nt : Nat) (c : Code) (fr : Fr) (h : AH) (e : AExit) (fr' : Fr) (h' : AH) : Prop :=
 ∀ (Q : Exit → Act → World → Prop) (μ : Mu) (w : World) (a : Act), Rel P C B nt μ fr h a w →
   (∀ μ' a' w', μ.le μ' → Rel P C B nt μ' fr' h' a' w' → Below B w w' → (q = true → Below w.heap.size w w') → Q (exitOf e) a' w') → c.wp P Q a w
theorem cut_get : ∀ (l : List Nat) (fr : Fr) (i : Nat), (fr.cut l).get i = fr.get i ∨ (fr.cut l).get i = .bot
 | [], fr, i => .inr rfl
 | j :: l, fr, i => by
   have ih := cut_get l fr i
   have e : fr.cut (j :: l) = (j, fr.get j) :: fr.cut l := rfl
   rw [e]
   simp only [Fr.get, Bool.cond_eq_ite, nbeq]
   by_cases h : j = i
   · subst h; rw [if_pos rfl]; exact .inl rfl
   · rw [if_neg h]; exact ih
theorem Rel.cut {μ : Mu} {fr : Fr} {h : AH} {a : Act} {w : World} (hr : Rel P C B nt μ fr h a w) (l : List Nat) : Rel P C B nt μ (fr.cut l) h a w := by
 refine ⟨hr.heap, fun i => ?_, hr.defers, hr.size, hr.glob⟩
 rcases cut_get l fr i with e | e <;> rw [e]
 · exact hr.slots i
 · exact .bot
theorem Rel.cutIf {μ : Mu} {fr : Fr} {h : AH} {a : Act} {w : World} (hr : Rel P C B nt μ fr h a w) (l : Option (List Nat)) : Rel P C B nt μ (cutIf l fr) h a w := by
 cases l with
 | none => exact hr
 | some l => exact hr.cut l
theorem CodeRuns.from_cut {c : Code} {fr : Fr} {l : Option (List Nat)} {h h' : AH} {e : AExit} {fr' : Fr} (hr : CodeRuns P C B q nt c (cutIf l fr) h e fr' h') : CodeRuns P C B q nt c fr h e fr' h' :=
 fun Q μ w a hrel hK => hr Q μ w a (hrel.cutIf l) hK
theorem CodeRuns.to_cut {c : Code} {fr : Fr} {l : List Nat} {h h' : AH} {e : AExit} {fr' : Fr} (hr : CodeRuns P C B q nt c fr h e fr' h') : CodeRuns P C B q nt c fr h e (fr'.cut l) h' :=
 fun Q μ w a hrel hK => hr Q μ w a hrel fun μ' a' w' e1 e2 e3 e4 => hK μ' a' w' e1 (e2.cut l) e3 e4
structure RunOk (P : Program) (C : Ctx) (B : Nat) (q : Bool) (nt : Nat) (c : Code) (run : Run) : Prop where
 go : ∀ {β : Type} (fr : Fr) (h : AH) (k : Kx β) (r : β), run fr h k = some r → ∃ e fr' h', k e fr' h' = some r ∧ CodeRuns P C B q nt c fr h e fr' h'
theorem RunOk.join {c : Code} {run : Run} (hr : RunOk P C B q nt c run) (j : Option (List Nat)) : RunOk P C B q nt c (joinIf j run) := by
 constructor
 intro β fr h k r hk
 unfold joinIf at hk
 cases j with
 | none => exact hr.go fr h k r hk
 | some l =>
   simp only at hk
   cases hp : run fr h (fun e fr h => some (e, fr.cut l, h)) with
   | none => rw [hp] at hk; cases hk
   | some p =>
     rw [hp, o_bd] at hk
     obtain ⟨e, fr', h', h1, h2⟩ := hr.go fr h _ p hp
     cases h1
     exact ⟨e, fr'.cut l, h', hk, h2.to_cut⟩
theorem RunOk.cut {c : Code} {run : Run} (hr : RunOk P C B q nt c run) (l : Option (List Nat)) : RunOk P C B q nt c (fun fr h k => run (cutIf l fr) h k) := by
 constructor
 intro β fr h k r hk
 obtain ⟨e, fr', h', h1, h2⟩ := hr.go _ h k r hk
 exact ⟨e, fr', h', h1, h2.from_cut⟩
theorem aloop_ok {c : Code} {step : Run} (hs : RunOk P C B q nt c step) (live : Option (List Nat)) : ∀ (n : Nat) {β : Type} (fr : Fr) (h : AH) (k : Kx β) (r : β), aloop step live n fr h k = some r →
   ∃ e fr' h' m, k e fr' h' = some r ∧ ∀ (Q : Exit → Act → World → Prop) (μ : Mu) (w : World) (a : Act), Rel P C B nt μ fr h a w →
     (∀ μ' a' w', μ.le μ' → Rel P C B nt μ' fr' h' a' w' → Below B w w' → (q = true → Below w.heap.size w w') → Q (exitOf e) a' w') → Code.rounds P c Q m a w := by
 intro n
 induction n with
 | zero => intro β fr h k r hk; simp [aloop] at hk
 | succ n ih =>
   intro β fr h k r hk
   simp only [aloop] at hk
   obtain ⟨e, fr1, h1, hk1, hr1⟩ := hs.go fr h _ r hk
   cases e with
   | normal =>
     obtain ⟨e, fr', h', m, hk2, hr2⟩ := ih _ h1 k r hk1
     refine ⟨e, fr', h', m + 1, hk2, fun Q μ w a hrel hK => ?_⟩
     rw [rounds_succ]
     refine hr1 _ μ w a hrel fun μ1 a1 w1 e1 e2 e3 e4 => ?_
     refine hr2 Q μ1 w1 a1 (e2.cutIf live) fun μ2 a2 w2 f1 f2 f3 f4 => ?_
     exact hK μ2 a2 w2 (Mu.le_trans e1 f1) f2 (e3.trans f3) fun hq => Below.trans_size (e4 hq) (f4 hq)
   | exit id =>
     refine ⟨.exit id, fr1, h1, 1, hk1, fun Q μ w a hrel hK => ?_⟩
     rw [rounds_succ]
     exact hr1 _ μ w a hrel fun μ' a' w' e1 e2 e3 e4 => hK μ' a' w' e1 e2 e3 e4
   | ret =>
     refine ⟨.ret, fr1, h1, 1, hk1, fun Q μ w a hrel hK => ?_⟩
     rw [rounds_succ]
     exact hr1 _ μ w a hrel fun μ' a' w' e1 e2 e3 e4 => hK μ' a' w' e1 e2 e3 e4
theorem aloop_run {c : Code} {step : Run} (hs : RunOk P C B q nt c step) (live : Option (List Nat)) (n : Nat) : RunOk P C B q nt (.loop c) (aloop step live n) := by
 constructor
 intro β fr h k r hk
 obtain ⟨e, fr', h', m, h1, h2⟩ := aloop_ok hs live n fr h k r hk
 exact ⟨e, fr', h', h1, fun Q μ w a hrel hK => wp_loop_rounds m (h2 Q μ w a hrel hK)⟩
theorem aexec_ok (hT : TypesOk P C) (hF : FunsOk P C) (hM : P.follows .mixedOrders = true) {call callq : CallF} (hc : CallsOk P C B q call) (hcq : CallsOk P C B true callq) : ∀ (c : Code) (an : Ann), RunOk P C B q nt c (aexec C q call callq nt c an)
 | .skip, an => by
   constructor
   intro β fr h k r hk
   simp only [aexec] at hk
   exact ⟨.normal, fr, h, hk, fun Q μ w a hrel hK => wp_skip (hK μ a w μ.le_refl hrel (Below.refl _ _) fun _ => Below.refl _ _)⟩
 | .region id ops draw, an => by
   constructor
   intro β fr h k r hk
   simp only [aexec] at hk
   rw [Bool.cond_eq_ite] at hk
   split at hk
   · rename_i hd
     subst hd
     rw [Bool.cond_eq_ite] at hk
     split at hk
     case isFalse => cases hk
     rename_i hf
     refine ((RunOk.join (c := .region id ops true) (run := fun fr h k => adraw C q call ops.toList (clsGo ops.toList []) (effsOf C ops.toList) (fun fr h => k .normal fr h) 0 ops.toList [] [] fr h) ?_ an.joinTo).cut an.cutTo).go fr h k r hk
     constructor
     intro β fr h k r hk
     obtain ⟨fr', h', h1, h2⟩ := adraw_ok (B := B) hT hM hc (id := id) hf hk
     exact ⟨.normal, fr', h', h1, fun Q μ w a hrel hK => h2 Q μ w a hrel hK⟩
   · rename_i hd
     have hd' : draw = false := by simpa using hd
     subst hd'
     rw [Bool.cond_eq_ite] at hk
     split at hk
     case isFalse => cases hk
     rename_i hf
     have hfit : ∀ o ∈ ops.toList, ∀ t, o.dst = some t → t < nt := by
       intro o ho t ht
       have := List.all_eq_true.1 hf o ho
       rw [ht] at this
       exact nblt.1 this
     obtain ⟨fr', h', h1, _, h3⟩ := aops_ok (B := B) hT hc ops hfit _ _ ops.toList _ h _ r (fun _ h => h) hk
     refine ⟨.normal, fr', h', h1, fun Q μ w a hrel hK => wp_region_list ?_⟩
     have := h3 [] Q μ w a (hrel.cutIf _) (fun p hp => by cases hp) (fun p hp => by cases hp) fun μ' a' w' e1 e2 _ e3 e4 => wpList_nil (hK μ' a' w' e1 e2 e3 e4)
     rwa [List.append_nil] at this
 | .seq a b, an => by
   constructor
   intro β fr h k r hk
   simp only [aexec] at hk
   refine ((RunOk.join (c := .seq a b) (run := fun fr h k => aexec C q call callq nt a an.left fr h fun e fr h => match e with
     | .normal => aexec C q call callq nt b an.right fr h k
     | e => k e fr h) ?_ an.joinTo).cut an.cutTo).go fr h k r hk
   constructor
   intro β fr h k r hk
   obtain ⟨e1, fr1, h1, k1, r1⟩ := (aexec_ok hT hF hM hc hcq a an.left).go fr h _ r hk
   cases e1 with
   | normal =>
     obtain ⟨e2, fr2, h2, k2, r2⟩ := (aexec_ok hT hF hM hc hcq b an.right).go fr1 h1 k r k1
     refine ⟨e2, fr2, h2, k2, fun Q μ w a hrel hK => wp_seq (r1 _ μ w a hrel fun μ1 a1 w1 e1 e2 e3 e4 => ?_)⟩
     refine r2 Q μ1 w1 a1 e2 fun μ2 a2 w2 f1 f2 f3 f4 => ?_
     exact hK μ2 a2 w2 (Mu.le_trans e1 f1) f2 (e3.trans f3) fun hq => Below.trans_size (e4 hq) (f4 hq)
   | exit id => exact ⟨.exit id, fr1, h1, k1, fun Q μ w a hrel hK => wp_seq (r1 _ μ w a hrel hK)⟩
   | ret => exact ⟨.ret, fr1, h1, k1, fun Q μ w a hrel hK => wp_seq (r1 _ μ w a hrel hK)⟩
 | .cond c a b, an => by
   constructor
   intro β fr h k r hk
   simp only [aexec] at hk
   refine ((RunOk.join (c := .cond c a b) (run := fun fr h k => match aev C fr c with
     | .bool t => bif t then aexec C q call callq nt a an.left fr h k else aexec C q call callq nt b an.right fr h k
     | _ => none) ?_ an.joinTo).cut an.cutTo).go fr h k r hk
   constructor
   intro β fr h k r hk
   split at hk
   · rename_i t ht
     cases t with
     | true =>
       obtain ⟨e1, fr1, h1, k1, r1⟩ := (aexec_ok hT hF hM hc hcq a an.left).go fr h k r hk
       refine ⟨e1, fr1, h1, k1, fun Q μ w act hrel hK => wp_cond_true ?_ (r1 Q μ w act hrel hK)⟩
       have := hrel.ev c
       rw [ht] at this
       exact this.bool_inv
     | false =>
       obtain ⟨e1, fr1, h1, k1, r1⟩ := (aexec_ok hT hF hM hc hcq b an.right).go fr h k r hk
       refine ⟨e1, fr1, h1, k1, fun Q μ w act hrel hK => wp_cond_false ?_ (r1 Q μ w act hrel hK)⟩
       have := hrel.ev c
       rw [ht] at this
       exact this.bool_inv
   · cases hk
 | .block id c, an => by
   constructor
   intro β fr h k r hk
   simp only [aexec] at hk
   refine ((RunOk.join (c := .block id c) (run := fun fr h k => aexec C q call callq nt c an.left fr h fun e fr h => match e with
     | .exit i => bif Nat.beq i id then k .normal fr h else k (.exit i) fr h
     | e => k e fr h) ?_ an.joinTo).cut an.cutTo).go fr h k r hk
   constructor
   intro β fr h k r hk
   obtain ⟨e1, fr1, h1, k1, r1⟩ := (aexec_ok hT hF hM hc hcq c an.left).go fr h _ r hk
   cases e1 with
   | normal => exact ⟨.normal, fr1, h1, k1, fun Q μ w a hrel hK => wp_block (r1 _ μ w a hrel hK)⟩
   | exit i =>
     simp only [Bool.cond_eq_ite] at k1
     split at k1
     · rename_i he
       rw [nbeq] at he
       refine ⟨.normal, fr1, h1, k1, fun Q μ w a hrel hK => wp_block (r1 _ μ w a hrel fun μ' a' w' e1 e2 e3 e4 => ?_)⟩
       simp only [exitOf, Exit.inBlock, he, if_true]
       exact hK μ' a' w' e1 e2 e3 e4
     · rename_i he
       refine ⟨.exit i, fr1, h1, k1, fun Q μ w a hrel hK => wp_block (r1 _ μ w a hrel fun μ' a' w' e1 e2 e3 e4 => ?_)⟩
       simp only [exitOf, Exit.inBlock]
       rw [if_neg fun e => he (nbeq.2 e)]
       exact hK μ' a' w' e1 e2 e3 e4
   | ret => exact ⟨.ret, fr1, h1, k1, fun Q μ w a hrel hK => wp_block (r1 _ μ w a hrel hK)⟩
 | .loop c, an => by
   constructor
   intro β fr h k r hk
   simp only [aexec] at hk
   exact ((RunOk.join (c := .loop c) (aloop_run (aexec_ok hT hF hM hc hcq c an.left) an.cutTo C.fuel) an.joinTo).cut an.cutTo).go fr h k r hk
 | .exit id, an => by
   constructor
   intro β fr h k r hk
   simp only [aexec] at hk
   exact ⟨.exit id, fr, h, hk, fun Q μ w a hrel hK => wp_exit (hK μ a w μ.le_refl hrel (Below.refl _ _) fun _ => Below.refl _ _)⟩
 | .ret, an => by
   constructor
   intro β fr h k r hk
   simp only [aexec] at hk
   exact ⟨.ret, fr, h, hk, fun Q μ w a hrel hK => wp_ret (hK μ a w μ.le_refl hrel (Below.refl _ _) fun _ => Below.refl _ _)⟩
 | .rangeFunc _ _ _ _, an => by constructor; intro β fr h k r hk; simp only [aexec] at hk; cases hk
 | .scope _, an => by constructor; intro β fr h k r hk; simp only [aexec] at hk; cases hk
 | .label _, an => by constructor; intro β fr h k r hk; simp only [aexec] at hk; cases hk
 | .goto _, an => by constructor; intro β fr h k r hk; simp only [aexec] at hk; cases hk
 | .refuse _, an => by constructor; intro β fr h k r hk; simp only [aexec] at hk; cases hk
end
end Go.Proofs.YtjagkijfngokaaaGreatDoor
