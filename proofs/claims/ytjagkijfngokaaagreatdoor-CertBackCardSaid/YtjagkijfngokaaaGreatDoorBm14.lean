/-
 Regions that keep the order of the text (second part).
-/
import Derived.Test.YtjagkijfngokaaaGreatDoorBm13
namespace Go.Proofs.YtjagkijfngokaaaGreatDoor
open Go.RowKit
section
variable {P : Program} {C : Ctx} {B : Nat} {q : Bool} {h : AH} {μ : Mu} {w : World} {v : AV} {nt : Nat} {fr : Fr} {a : Act}
def CurOk (all : Array Oper) (cur : List (Nat × Bool)) (a : Act) : Prop := ∀ p ∈ cur, yielded all a.tmps p.1 = some p.2
def CurFree (all : Array Oper) (cur : List (Nat × Bool)) (ops : List Oper) : Prop := ∀ p ∈ cur, ∀ s, (all[p.1]?).bind (·.dst) = some s → ∀ o ∈ ops, o.dst ≠ some s
theorem yielded_put {all : Array Oper} {j : Nat} {d : Option Tmp} {x : Value} (h : ∀ s, (all[j]?).bind (·.dst) = some s → d ≠ some s) : yielded all (a.put d x).tmps j = yielded all a.tmps j := by
 unfold yielded
 cases hs : (all[j]?).bind (·.dst) with
 | none => rfl
 | some s =>
   cases d with
   | none => rfl
   | some t =>
     have : t ≠ s := fun e => h s hs (by rw [e])
     simp [Act.put, Array.getElem?_setIfInBounds_ne this]
theorem CurOk.put {all : Array Oper} {cur : List (Nat × Bool)} {o : Oper} {ops : List Oper} {x : Value} (hc : CurOk all cur a) (hf : CurFree all cur ops) (ho : o ∈ ops) : CurOk all cur (a.put o.dst x) := by
 intro p hp
 rw [yielded_put fun s hs => hf p hp s hs o ho]
 exact hc p hp
theorem CurFree.mono {all : Array Oper} {cur : List (Nat × Bool)} {ops ops' : List Oper} (h : CurFree all cur ops) (hs : ∀ o ∈ ops', o ∈ ops) : CurFree all cur ops' :=
 fun p hp s hs' o ho => h p hp s hs' o (hs o ho)
theorem holds_wanted {all : Array Oper} {cur : List (Nat × Bool)} {o : Oper} (hc : CurOk all cur a) (hh : holds cur o.guard = true) : Region.wanted o (yielded all a.tmps) = true := by
 unfold Region.wanted
 unfold holds at hh
 cases hg : o.guard with
 | none => rfl
 | some p =>
   obtain ⟨j, wt⟩ := p
   rw [hg] at hh
   obtain ⟨p, hp, he⟩ := List.any_eq_true.1 hh
   simp only [Bool.and_eq_true, nbeq, beq_iff_eq] at he
   obtain ⟨e1, e2⟩ := he
   have := hc p hp
   rw [e1, e2] at this
   simp [this]
theorem wpList_wanted {all : Array Oper} {Q : Exit → Act → World → Prop} {o : Oper} {rest : List Oper} (hw : Region.wanted o (yielded all a.tmps) = true) (h : o.wp P a w (wpList P all Q rest) Q) : wpList P all Q (o :: rest) a w := by
 unfold wpList
 rw [if_pos hw]
 exact .inl h
theorem wpList_skipped {all : Array Oper} {Q : Exit → Act → World → Prop} {o : Oper} {rest : List Oper} (hw : Region.wanted o (yielded all a.tmps) = false) (h : wpList P all Q rest (a.put o.dst undef) w) : wpList P all Q (o :: rest) a w := by
 unfold wpList
 rw [if_neg (by rw [hw]; simp)]
 exact h
theorem pick_wp {o : Oper} {c x y : Operand} (ho : o.op = .pick c x y) {t : Bool} (hc : a.eval c = .bool t) {K : Act → World → Prop} {Q : Exit → Act → World → Prop} (hk : K (a.put o.dst (if t then a.eval x else a.eval y)) w) : o.wp P a w K Q := by
 unfold Oper.wp execOp
 rw [ho]
 simp only [hc, asBool, Sem.run_bind, Sem.run_pure, Result.andThen_ok]
 exact hk
theorem sel_rel {t : Bool} {x y : AV} {X Y : Value} (hx : t = true → VRel μ x X) (hy : t = false → VRel μ y Y) : VRel μ (.sel t x y) (if t then X else Y) := by
 cases t with
 | true =>
   have := hx rfl
   unfold AV.sel
   split
   · simpa using this
   · simpa using this
 | false =>
   have := hy rfl
   unfold AV.sel
   split
   · simpa using this
   · simpa using this
theorem set_get (fr : Fr) (d : Option Tmp) (v : AV) (i : Nat) : (setDst fr d v).get i = if d = some i then v else fr.get i := by
 cases d with
 | none => simp [setDst]
 | some t =>
   simp only [setDst, Fr.get, Bool.cond_eq_ite, nbeq]
   by_cases h : t = i <;> simp [h]
theorem forget_get : ∀ (ops : List Oper) (fr : Fr) (i : Nat), (forget ops fr).get i = if ∃ o ∈ ops, o.dst = some i then .bot else fr.get i
 | [], fr, i => by simp [forget]
 | o :: ops, fr, i => by
   have ih := forget_get ops (setDst fr o.dst .bot) i
   have e : forget (o :: ops) fr = forget ops (setDst fr o.dst .bot) := rfl
   rw [e, ih, set_get]
   by_cases h1 : ∃ o' ∈ ops, o'.dst = some i
   · rw [if_pos h1, if_pos]
     obtain ⟨o', ho', hd⟩ := h1
     exact ⟨o', List.mem_cons_of_mem _ ho', hd⟩
   · rw [if_neg h1]
     by_cases h2 : o.dst = some i
     · rw [if_pos h2, if_pos ⟨o, List.mem_cons_self .., h2⟩]
     · rw [if_neg h2, if_neg]
       rintro ⟨o', ho', hd⟩
       rcases List.mem_cons.1 ho' with rfl | ho'
       · exact h2 hd
       · exact h1 ⟨o', ho', hd⟩
theorem Rel.forget {ops : List Oper} {fr' : Fr} (hr : Rel P C B nt μ fr' h a w) (hk : ∀ i, (∀ o ∈ ops, o.dst ≠ some i) → fr'.get i = fr.get i) : Rel P C B nt μ (forget ops fr) h a w := by
 refine ⟨hr.heap, fun i => ?_, hr.defers, hr.size, hr.glob⟩
 rw [forget_get]
 split
 · exact .bot
 · rename_i hn
   rw [← hk i fun o ho hd => hn ⟨o, ho, hd⟩]
   exact hr.slots i
theorem skip_ok {all : Array Oper} {Q : Exit → Act → World → Prop} {s j : Nat} {want : Bool} (hs : (all[j]?).bind (·.dst) = some s) (hfit : ∀ o ∈ all.toList, ∀ t, o.dst = some t → t < nt) :
   ∀ (ops : List Oper) (seen : List Nat) (a : Act), (∀ o ∈ ops, o ∈ all.toList) → skipOk all.toList s j want seen ops = true → yielded all a.tmps j ≠ some want → (∀ t ∈ seen, ∀ b, a.tmps[t]? ≠ some (.bool b)) →
   ∃ a' : Act, a'.defers = a.defers ∧ a'.tmps.size = a.tmps.size ∧ (∀ i, (∀ o ∈ ops, o.dst ≠ some i) → a'.tmps.getD i undef = a.tmps.getD i undef) ∧
     ∀ suf, wpList P all Q suf a' w → wpList P all Q (ops ++ suf) a w
 | [], _, a, _, _, _, _ => ⟨a, rfl, rfl, fun _ _ => rfl, fun _ h => h⟩
 | o :: ops, seen, a, hall, hk, hy, hseen => by
   simp only [skipOk, Bool.and_eq_true] at hk
   obtain ⟨⟨hg, hd⟩, hk⟩ := hk
   have hds : ∀ t, o.dst = some t → t ≠ s := by
     intro t ht e
     rw [ht] at hd
     simp only [Bool.not_eq_true', nbeq_false] at hd
     exact hd e
   have hw : Region.wanted o (yielded all a.tmps) = false := by
     unfold Region.wanted
     split at hg
     · cases hg
     · rename_i i' w' hgo
       rw [hgo]
       simp only [Bool.or_eq_true, Bool.and_eq_true, nbeq, beq_iff_eq] at hg
       rcases hg with ⟨rfl, rfl⟩ | hg
       · simpa using hy
       · cases hb : (all.toList[i']?).bind (·.dst) with
         | none => rw [hb] at hg; cases hg
         | some t =>
           rw [hb] at hg
           have ht := hseen t (List.elem_iff.1 hg)
           have hb' : (all[i']?).bind (·.dst) = some t := by rw [← Array.getElem?_toList]; exact hb
           have hyn : yielded all a.tmps i' = none := by
             unfold yielded
             rw [hb', o_bd]
             split
             · rename_i b hbb; exact absurd hbb (ht b)
             · rfl
           simp only [hyn]
           rfl
   have hy' : yielded all (a.put o.dst undef).tmps j ≠ some want := by
     rw [yielded_put fun s' hs' => by rw [hs] at hs'; cases hs'; exact fun e => hds s e rfl]
     exact hy
   obtain ⟨a', h1, h2, h3, h4⟩ := skip_ok (Q := Q) hs hfit ops (match o.dst with | some t => t :: seen | none => seen) (a.put o.dst undef) (fun o' ho' => hall o' (List.mem_cons_of_mem _ ho')) hk hy' (by
     intro t ht b
     cases hod : o.dst with
     | none => rw [hod] at ht; simpa [Act.put] using hseen t ht b
     | some u =>
       rw [hod] at ht
       simp only [Act.put]
       by_cases e : u = t
       · subst e
         rw [Array.getElem?_setIfInBounds]
         simp [undef]
       · rw [Array.getElem?_setIfInBounds_ne e]
         rcases List.mem_cons.1 ht with rfl | ht
         · exact absurd rfl e
         · exact hseen t ht b)
   refine ⟨a', ?_, ?_, fun i hi => ?_, fun suf hsuf => wpList_skipped hw (h4 suf hsuf)⟩
   · rw [h1]; cases o.dst <;> rfl
   · rw [h2]; cases o.dst <;> simp [Act.put]
   · rw [h3 i fun o' ho' => hi o' (List.mem_cons_of_mem _ ho')]
     cases hod : o.dst with
     | none => rfl
     | some u =>
       have : u ≠ i := fun e => hi o (List.mem_cons_self ..) (by rw [hod, e])
       simp [Act.put, Array.getElem?_setIfInBounds_ne this]
theorem splitPick_ok {s : Nat} : ∀ {l inner after : List Oper} {p : Oper}, splitPick s l = some (inner, p, after) → l = inner ++ p :: after ∧ ∃ x y, p.op = .pick (.tmp s) x y
 | [], _, _, _, h => by simp [splitPick] at h
 | o :: rest, inner, after, p, h => by
   rw [splitPick, Bool.cond_eq_ite] at h
   by_cases hc : isPickOf s o.op = true
   · rw [if_pos hc] at h
     simp only [Option.some.injEq, Prod.mk.injEq] at h
     obtain ⟨rfl, rfl, rfl⟩ := h
     refine ⟨rfl, ?_⟩
     unfold isPickOf at hc
     split at hc
     · rename_i t x y ho
       rw [nbeq] at hc
       subst hc
       exact ⟨x, y, ho⟩
     · cases hc
   · rw [if_neg hc] at h
     cases hr : splitPick s rest with
     | none => rw [hr] at h; cases h
     | some z =>
       obtain ⟨a1, p1, b1⟩ := z
       rw [hr] at h
       cases h
       obtain ⟨h1, h2⟩ := splitPick_ok hr
       exact ⟨by rw [h1]; rfl, h2⟩
end
end Go.Proofs.YtjagkijfngokaaaGreatDoor
