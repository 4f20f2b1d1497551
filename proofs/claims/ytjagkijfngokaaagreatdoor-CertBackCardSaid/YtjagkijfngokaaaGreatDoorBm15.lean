/-
 Regions that keep the order of the text (third part): the theorem.
-/
import Derived.Test.YtjagkijfngokaaaGreatDoorBm14
namespace Go.Proofs.YtjagkijfngokaaaGreatDoor
open Go.RowKit
section
variable {P : Program} {C : Ctx} {B : Nat} {q : Bool} {nt : Nat}
def Runs (P : Program) (C : Ctx) (B : Nat) (q : Bool) (nt : Nat) (all : Array Oper) (cur : List (Nat × Bool)) (ops : List Oper) (fr : Fr) (h : AH) (fr' : Fr) (h' : AH) : Prop :=
 ∀ (suf : List Oper) (Q : Exit → Act → World → Prop) (μ : Mu) (w : World) (a : Act), Rel P C B nt μ fr h a w → CurOk all cur a → CurFree all cur ops →
   (∀ μ' a' w', μ.le μ' → Rel P C B nt μ' fr' h' a' w' → CurOk all cur a' → Below B w w' → (q = true → Below w.heap.size w w') → wpList P all Q suf a' w') → wpList P all Q (ops ++ suf) a w
theorem Below.trans_size {a b c : World} (h : Below a.heap.size a b) (k : Below b.heap.size b c) : Below a.heap.size a c := h.trans (k.mono h.size)
theorem Runs.cons {all : Array Oper} {cur : List (Nat × Bool)} {o : Oper} {rest : List Oper} {fr fr' : Fr} {h h1 h' : AH} {v : AV} (hh : holds cur o.guard = true) (hd : ∀ t, o.dst = some t → t < nt)
   (ho : OpWp P C B q (aev C fr) h o v h1) (hr : Runs P C B q nt all cur rest (setDst fr o.dst v) h1 fr' h') : Runs P C B q nt all cur (o :: rest) fr h fr' h' := by
 intro suf Q μ w a hrel hcur hfree hK
 refine wpList_wanted (holds_wanted hcur hh) ?_
 refine ho μ w a _ Q hrel.heap hrel.glob hrel.ev fun μ1 x w1 e1 e2 e3 e4 e5 => ?_
 refine hr suf Q μ1 w1 _ (hrel.put e1 e2 e3 hd) (hcur.put hfree (List.mem_cons_self ..)) (hfree.mono fun o ho => List.mem_cons_of_mem _ ho) fun μ2 a2 w2 f1 f2 f3 f4 f5 => ?_
 exact hK μ2 a2 w2 (Mu.le_trans e1 f1) f2 f3 (e4.trans f4) fun hq => Below.trans_size (e5 hq) (f5 hq)
theorem apures_ok (hT : TypesOk P C) {all : Array Oper} {cur : List (Nat × Bool)} (hfit : ∀ o ∈ all.toList, ∀ t, o.dst = some t → t < nt) {h : AH} : ∀ (ops : List Oper) (fr fr' : Fr), (∀ o ∈ ops, o ∈ all.toList) → apures C cur ops fr = some fr' →
   (∀ i, (∀ o ∈ ops, o.dst ≠ some i) → fr'.get i = fr.get i) ∧ Runs P C B q nt all cur ops fr h fr' h
 | [], fr, fr', _, hk => by
   simp [apures] at hk
   subst hk
   exact ⟨fun _ _ => rfl, fun suf Q μ w a hrel hcur _ hK => hK μ a w μ.le_refl hrel hcur (Below.refl _ _) fun _ => Below.refl _ _⟩
 | o :: ops, fr, fr', hall, hk => by
   simp only [apures] at hk
   rw [Bool.cond_eq_ite] at hk
   split at hk
   case isFalse => cases hk
   rename_i hh
   split at hk
   · rename_i v hv
     obtain ⟨h1, h2⟩ := apures_ok hT hfit ops _ fr' (fun o ho => hall o (List.mem_cons_of_mem _ ho)) hk
     refine ⟨fun i hi => ?_, Runs.cons hh (hfit o (hall o (List.mem_cons_self ..))) (apure_ok hT o hv) h2⟩
     rw [h1 i fun o ho => hi o (List.mem_cons_of_mem _ ho), set_get, if_neg (hi o (List.mem_cons_self ..))]
   · cases hk
set_option maxHeartbeats 1000000 in
theorem aops_ok (hT : TypesOk P C) {call : CallF} (hc : CallsOk P C B q call) (all : Array Oper) (hfit : ∀ o ∈ all.toList, ∀ t, o.dst = some t → t < nt) :
   ∀ (n : Nat) (cur : List (Nat × Bool)) (ops : List Oper) {β : Type} (fr : Fr) (h : AH) (k : Fr → AH → Option β) (r : β), (∀ o ∈ ops, o ∈ all.toList) → aops C q call all.toList n cur ops fr h k = some r →
     ∃ fr' h', k fr' h' = some r ∧ (∀ i, (∀ o ∈ ops, o.dst ≠ some i) → fr'.get i = fr.get i) ∧ Runs P C B q nt all cur ops fr h fr' h' := by
 intro n
 induction n with
 | zero => intro cur ops β fr h k r _ hk; simp [aops] at hk
 | succ n ih =>
   intro cur ops β fr h k r hall hk
   cases ops with
   | nil =>
     simp only [aops] at hk
     exact ⟨fr, h, hk, fun _ _ => rfl, fun suf Q μ w a hrel hcur _ hK => hK μ a w μ.le_refl hrel hcur (Below.refl _ _) fun _ => Below.refl _ _⟩
   | cons o rest =>
     have hallr : ∀ o ∈ rest, o ∈ all.toList := fun o ho => hall o (List.mem_cons_of_mem _ ho)
     have hdo := hfit o (hall o (List.mem_cons_self ..))
     simp only [aops] at hk
     rw [Bool.cond_eq_ite] at hk
     split at hk
     · rename_i hh
       split at hk
       ·
         rename_i c x y ho
         split at hk
         · rename_i t ht
           obtain ⟨fr', h', h1, h2, h3⟩ := ih cur rest _ h k r hallr hk
           refine ⟨fr', h', h1, fun i hi => ?_, Runs.cons hh hdo ?_ h3⟩
           · rw [h2 i fun o ho => hi o (List.mem_cons_of_mem _ ho), set_get, if_neg (hi o (List.mem_cons_self ..))]
           · intro μ w a K Q hr _ hev hK
             have hcv := hev c
             rw [ht] at hcv
             exact pick_wp ho hcv.bool_inv (hK μ _ w μ.le_refl (sel_rel (fun _ => hev x) fun _ => hev y) hr (Below.refl _ _) fun _ => Below.refl _ _)
         · cases hk
       · rename_i hnp
         obtain ⟨v, h1, hk1, hw1⟩ := aoper_ok (B := B) hT hc o hk (fun c a b e => hnp c a b e)
         obtain ⟨fr', h', h2, h3, h4⟩ := ih cur rest _ h1 k r hallr hk1
         refine ⟨fr', h', h2, fun i hi => ?_, Runs.cons hh hdo hw1 h4⟩
         rw [h3 i fun o ho => hi o (List.mem_cons_of_mem _ ho), set_get, if_neg (hi o (List.mem_cons_self ..))]
     ·
       split at hk
       · cases hk
       · rename_i j want hg
         split at hk
         · cases hk
         · rename_i s hs
           have hsA : (all[j]?).bind (·.dst) = some s := by rw [← Array.getElem?_toList]; exact hs
           split at hk
           · rename_i t ht
             split at hk
             · cases hk
             · rename_i inner p after hsp
               obtain ⟨heq, x, y, hp0⟩ := splitPick_ok hsp
               split at hk
               · rename_i cc x1 y1 hpo
                 rw [hp0] at hpo
                 cases hpo
                 rw [Bool.cond_eq_ite] at hk
                 split at hk
                 case isFalse => cases hk
                 rename_i hconds
                 simp only [Bool.and_eq_true] at hconds
                 obtain ⟨⟨hskip, hpg⟩, hconst⟩ := hconds
                 have hmem_i : ∀ o' ∈ inner, o' ∈ o :: rest := fun o' ho' => by rw [heq]; exact List.mem_append_left _ ho'
                 have hmem_p : p ∈ o :: rest := by rw [heq]; exact List.mem_append_right _ (List.mem_cons_self ..)
                 have hmem_a : ∀ o' ∈ after, o' ∈ o :: rest := fun o' ho' => by rw [heq]; exact List.mem_append_right _ (List.mem_cons_of_mem _ ho')
                 have halli : ∀ o' ∈ inner, o' ∈ all.toList := fun o' ho' => hall o' (hmem_i o' ho')
                 have halla : ∀ o' ∈ after, o' ∈ all.toList := fun o' ho' => hall o' (hmem_a o' ho')
                 have hpd := hfit p (hall p hmem_p)
                 have hinner_s : ∀ o' ∈ inner, o'.dst ≠ some s := by
                   have : ∀ (l : List Oper) (seen : List Nat), skipOk all.toList s j want seen l = true → ∀ o' ∈ l, o'.dst ≠ some s := by
                     intro l
                     induction l with
                     | nil => intro seen _ o' ho'; cases ho'
                     | cons o1 l ihl =>
                       intro seen hk' o' ho'
                       simp only [skipOk, Bool.and_eq_true] at hk'
                       rcases List.mem_cons.1 ho' with rfl | ho'
                       · intro e
                         have := hk'.1.2
                         rw [e] at this
                         simp only [Bool.not_eq_true', nbeq_false] at this
                         exact this rfl
                       · exact ihl _ hk'.2 o' ho'
                   exact this inner [] hskip
                 have hy : ∀ {μ : Mu} {w : World} {a : Act} {fr1 : Fr} {h1 : AH}, Rel P C B nt μ fr1 h1 a w → fr1.get s = .bool t → yielded all a.tmps j = some t ∧ a.tmps.getD s undef = .bool t := by
                   intro μ w a fr1 h1 hrel h9
                   have hv := hrel.slots s
                   rw [h9] at hv
                   have hv' := hv.bool_inv
                   refine ⟨?_, hv'⟩
                   unfold yielded
                   rw [hsA, o_bd]
                   cases hq : a.tmps[s]? with
                   | none =>
                     simp [hq, undef] at hv'
                   | some z =>
                     simp [hq] at hv'
                     rw [hv']
                 have hcurfree : ∀ {l : List Oper}, CurFree all cur (o :: rest) → (∀ o' ∈ l, o' ∈ inner) → CurFree all ((j, want) :: cur) l := by
                   intro l hf hl p' hp' s' hs' o' ho'
                   rcases List.mem_cons.1 hp' with rfl | hp'
                   · simp only at hs'
                     rw [hsA] at hs'
                     cases hs'
                     exact hinner_s o' (hl o' ho')
                   · exact hf p' hp' s' hs' o' (hmem_i o' (hl o' ho'))
                 have hcl : ∀ {a' : Act}, CurOk all ((j, want) :: cur) a' → CurOk all cur a' := fun hc' p' hp' => hc' p' (List.mem_cons_of_mem _ hp')
                 have hno : t ≠ want → ∀ (suf : List Oper) (Q : Exit → Act → World → Prop) (μ : Mu) (w : World) (a : Act), Rel P C B nt μ fr h a w → CurOk all cur a → CurFree all cur (o :: rest) →
                     (∀ X, VRel μ (aev C fr (bif want then y else x)) X → ∀ a', Rel P C B nt μ (forget inner fr) h a' w → CurOk all cur a' → (if t then a'.eval x else a'.eval y) = X → wpList P all Q (after ++ suf) (a'.put p.dst X) w) →
                     wpList P all Q ((o :: rest) ++ suf) a w := by
                   intro hne suf Q μ w a hrel hcur hfree hK
                   obtain ⟨hyj, hys⟩ := hy hrel ht
                   obtain ⟨a', k1, k2, k3, k4⟩ := skip_ok (w := w) (Q := Q) hsA hfit inner [] a halli hskip (by rw [hyj]; simpa using hne) (by intro t ht; cases ht)
                   rw [heq, List.append_assoc]
                   refine k4 _ ?_
                   have hrel' : Rel P C B nt μ (forget inner fr) h a' w := by
                     refine ⟨hrel.heap, fun i => ?_, by rw [k1]; exact hrel.defers, by rw [k2]; exact hrel.size, hrel.glob⟩
                     rw [forget_get]
                     split
                     · exact .bot
                     · rename_i hn
                       rw [k3 i fun o' ho' hd => hn ⟨o', ho', hd⟩]
                       exact hrel.slots i
                   have hcur' : CurOk all cur a' := by
                     intro p' hp'
                     have h5 := hcur p' hp'
                     unfold yielded at h5 ⊢
                     cases hb : (all[p'.1]?).bind (·.dst) with
                     | none => rw [hb] at h5; cases h5
                     | some s' =>
                       rw [hb, o_bd] at h5
                       rw [o_bd]
                       have h6 := k3 s' fun o' ho' => hfree p' hp' s' hb o' (hmem_i o' ho')
                       have h7 : a'.tmps[s']? = a.tmps[s']? := by
                         by_cases hlt : s' < a.tmps.size
                         · have hlt' : s' < a'.tmps.size := by rw [k2]; exact hlt
                           simp [hlt, hlt'] at h6 ⊢
                           exact h6
                         · rw [Array.getElem?_eq_none (by rw [k2]; exact Nat.le_of_not_lt hlt), Array.getElem?_eq_none (Nat.le_of_not_lt hlt)]
                       rw [h7]; exact h5
                   have hs' : a'.eval (.tmp s) = .bool t := by
                     show a'.tmps.getD s undef = _
                     rw [k3 s hinner_s]; exact hys
                   refine wpList_wanted (holds_wanted hcur' hpg) (pick_wp hp0 hs' ?_)
                   refine hK _ ?_ a' hrel' hcur' rfl
                   have hcst : ∀ z : Operand, isConst z = true → VRel μ (aev C fr z) (a'.eval z) := by
                     intro z hz
                     cases z <;> simp [isConst] at hz
                     exact ofConst_rel _
                   cases t <;> cases want <;> simp at hne hconst ⊢
                   · exact hcst _ hconst
                   · exact hcst _ hconst
                 split at hk
                 ·
                   rename_i fr1 hpure
                   obtain ⟨h1, h2⟩ := apures_ok (q := q) (B := B) hT hfit (h := h) inner fr fr1 halli hpure
                   obtain ⟨fr', h', k1, k2, k3⟩ := ih cur after _ h k r halla hk
                   refine ⟨fr', h', k1, fun i hi => ?_, ?_⟩
                   · rw [k2 i fun o' ho' => hi o' (hmem_a o' ho'), set_get, if_neg (hi p hmem_p), forget_get, if_neg]
                     rintro ⟨o', ho', hd⟩
                     exact hi o' (hmem_i o' ho') hd
                   · intro suf Q μ w a hrel hcur hfree hK
                     by_cases hne : t = want
                     · subst hne
                       rw [heq, List.append_assoc]
                       obtain ⟨hyj, hys⟩ := hy hrel ht
                       refine h2 _ Q μ w a hrel (fun p' hp' => (List.mem_cons.1 hp').elim (fun e => by rw [e]; exact hyj) (fun e => hcur p' e)) (hcurfree hfree fun _ h => h) fun μ1 a1 w1 e1 e2 e3 e4 e5 => ?_
                       have hs1 : a1.eval (.tmp s) = .bool t := (hy e2 (by rw [h1 s hinner_s]; exact ht)).2
                       refine wpList_wanted (holds_wanted (hcl e3) hpg) (pick_wp hp0 hs1 ?_)
                       refine k3 suf Q μ1 w1 _ ((e2.forget h1).put (Mu.le_refl _) (sel_rel (fun _ => e2.ev x) fun _ => e2.ev y) e2.heap hpd) ((hcl e3).put hfree hmem_p) (hfree.mono hmem_a) fun μ2 a2 w2 f1 f2 f3 f4 f5 => ?_
                       exact hK μ2 a2 w2 (Mu.le_trans e1 f1) f2 f3 (e4.trans f4) fun hq => Below.trans_size (e5 hq) (f5 hq)
                     · refine hno hne suf Q μ w a hrel hcur hfree fun X hX a' hrel' hcur' hXe => ?_
                       have hXv : VRel μ (AV.sel t (aev C fr1 x) (aev C fr1 y)) X := by
                         have hcst : ∀ z : Operand, isConst z = true → aev C fr1 z = aev C fr z := by
                           intro z hz
                           cases z <;> simp [isConst] at hz
                           rfl
                         cases t <;> cases want <;> simp at hne hconst hX
                         · have := sel_rel (μ := μ) (t := false) (x := aev C fr1 x) (X := X) (fun e => by cases e) (fun _ => (hcst _ hconst).symm ▸ hX)
                           simpa using this
                         · have := sel_rel (μ := μ) (t := true) (y := aev C fr1 y) (Y := X) (fun _ => (hcst _ hconst).symm ▸ hX) (fun e => by cases e)
                           simpa using this
                       refine k3 suf Q μ w _ (hrel'.put (Mu.le_refl _) hXv hrel'.heap hpd) (hcur'.put hfree hmem_p) (hfree.mono hmem_a) fun μ2 a2 w2 f1 f2 f3 f4 f5 => ?_
                       exact hK μ2 a2 w2 f1 f2 f3 f4 f5
                 ·
                   by_cases hne : t = want
                   · subst hne
                     rw [beq_self_eq_true, Bool.cond_true] at hk
                     cases hin : aops C q call all.toList n ((j, t) :: cur) inner fr h (fun fr' h' => some (aev C fr' (bif t then x else y), h')) with
                     | none => rw [hin] at hk; cases hk
                     | some z =>
                       rw [hin, o_bd] at hk
                       obtain ⟨fr1, h1, hz, g1, g2⟩ := ih _ inner fr h _ z halli hin
                       cases hz
                       have hk2 := chk1_inv hk
                       obtain ⟨fr', h', k1, k2, k3⟩ := ih cur after _ h1 k r halla hk2
                       refine ⟨fr', h', k1, fun i hi => ?_, ?_⟩
                       · rw [k2 i fun o' ho' => hi o' (hmem_a o' ho'), set_get, if_neg (hi p hmem_p), forget_get, if_neg]
                         rintro ⟨o', ho', hd⟩
                         exact hi o' (hmem_i o' ho') hd
                       · intro suf Q μ w a hrel hcur hfree hK
                         rw [heq, List.append_assoc]
                         obtain ⟨hyj, hys⟩ := hy hrel ht
                         refine g2 _ Q μ w a hrel (fun p' hp' => (List.mem_cons.1 hp').elim (fun e => by rw [e]; exact hyj) (fun e => hcur p' e)) (hcurfree hfree fun _ h => h) fun μ1 a1 w1 e1 e2 e3 e4 e5 => ?_
                         have hs1 : a1.eval (.tmp s) = .bool t := (hy e2 (by rw [g1 s hinner_s]; exact ht)).2
                         refine wpList_wanted (holds_wanted (hcl e3) hpg) (pick_wp hp0 hs1 ?_)
                         have hvx : VRel μ1 (aev C fr1 (bif t then x else y)) (if t then a1.eval x else a1.eval y) := by
                           cases t
                           · simpa using e2.ev y
                           · simpa using e2.ev x
                         refine k3 suf Q μ1 w1 _ ((e2.forget g1).put (Mu.le_refl _) hvx e2.heap hpd) ((hcl e3).put hfree hmem_p) (hfree.mono hmem_a) fun μ2 a2 w2 f1 f2 f3 f4 f5 => ?_
                         exact hK μ2 a2 w2 (Mu.le_trans e1 f1) f2 f3 (e4.trans f4) fun hq => Below.trans_size (e5 hq) (f5 hq)
                   · have hb : (t == want) = false := by cases t <;> cases want <;> simp at hne ⊢
                     rw [hb, Bool.cond_false, o_bd] at hk
                     have hk2 := chk1_inv hk
                     obtain ⟨fr', h', k1, k2, k3⟩ := ih cur after _ h k r halla hk2
                     refine ⟨fr', h', k1, fun i hi => ?_, ?_⟩
                     · rw [k2 i fun o' ho' => hi o' (hmem_a o' ho'), set_get, if_neg (hi p hmem_p), forget_get, if_neg]
                       rintro ⟨o', ho', hd⟩
                       exact hi o' (hmem_i o' ho') hd
                     · intro suf Q μ w a hrel hcur hfree hK
                       refine hno hne suf Q μ w a hrel hcur hfree fun X hX a' hrel' hcur' hXe => ?_
                       refine k3 suf Q μ w _ (hrel'.put (Mu.le_refl _) hX hrel'.heap hpd) (hcur'.put hfree hmem_p) (hfree.mono hmem_a) fun μ2 a2 w2 f1 f2 f3 f4 f5 => ?_
                       exact hK μ2 a2 w2 f1 f2 f3 f4 f5
               · cases hk
           · cases hk
end
end Go.Proofs.YtjagkijfngokaaaGreatDoor
