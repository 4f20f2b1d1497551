/-
 Regions that draw their order (second part): one walk serves every order.
-/
import Derived.Test.YtjagkijfngokaaaGreatDoorBm16
namespace Go.Proofs.YtjagkijfngokaaaGreatDoor
open Go.RowKit
section
variable {P : Program} {C : Ctx} {B : Nat} {q : Bool} {call : CallF} {nt : Nat} {all : List Oper} {cls : List Nat} {effs : List Nat}
theorem cut_get_mem {f : Fr} : ∀ {l : List Nat} {t : Nat}, t ∈ l → (f.cut l).get t = f.get t
 | j :: l, t, h => by
   have e : f.cut (j :: l) = (j, f.get j) :: f.cut l := rfl
   rw [e]
   simp only [Fr.get, Bool.cond_eq_ite, nbeq]
   by_cases hj : j = t
   · subst hj; rw [if_pos rfl]
   · rw [if_neg hj]
     exact cut_get_mem ((List.mem_cons.1 h).resolve_left fun e => hj e.symm)
theorem cut_get_not {f : Fr} : ∀ {l : List Nat} {t : Nat}, t ∉ l → (f.cut l).get t = .bot
 | [], t, h => rfl
 | j :: l, t, h => by
   have e : f.cut (j :: l) = (j, f.get j) :: f.cut l := rfl
   rw [e]
   simp only [Fr.get, Bool.cond_eq_ite, nbeq]
   rw [if_neg fun e => h (by rw [e]; exact List.mem_cons_self ..)]
   exact cut_get_not fun hm => h (List.mem_cons_of_mem _ hm)
structure DrawOk (all : List Oper) (cls : List Nat) (nt : Nat) : Prop where
 before : ∀ (i : Nat) o, all[i]? = some o → ∀ j ∈ afters o, j < i
 clos : ∀ (i : Nat) o, all[i]? = some o → ∀ j, inCls cls i j = true → j ∈ afters o ∨ ∃ d ∈ afters o, inCls cls d j = true
 fit : ∀ (i : Nat) o d, all[i]? = some o → o.dst = some d → d < nt
 dist : ∀ (i j : Nat) o o' d, all[i]? = some o → all[j]? = some o' → o.dst = some d → o'.dst = some d → i = j
 opd : ∀ (i j : Nat) o o' t, all[i]? = some o → all[j]? = some o' → t ∈ opTmps o.op → o'.dst = some t → inCls cls i j = true ∨ inCls cls j i = true
 grd : ∀ (i : Nat) o j want, all[i]? = some o → o.guard = some (j, want) → inCls cls i j = true
theorem maskOf_spec {j : Nat} : ∀ {l : List Nat}, Nat.testBit (maskOf cls l) j = true → j ∈ l ∨ ∃ d ∈ l, inCls cls d j = true
 | [], h => by simp [maskOf] at h
 | d :: l, h => by
   simp only [maskOf, Nat.testBit_or, Bool.or_eq_true, Nat.testBit_two_pow, decide_eq_true_eq] at h
   rcases h with (h | h) | h
   · exact .inl (by rw [h]; exact List.mem_cons_self ..)
   · exact .inr ⟨d, List.mem_cons_self .., h⟩
   · rcases maskOf_spec h with h | ⟨d', h1, h2⟩
     · exact .inl (List.mem_cons_of_mem _ h)
     · exact .inr ⟨d', List.mem_cons_of_mem _ h1, h2⟩
theorem drawOk_of (h : (List.range all.length).all (fun i => match all[i]? with
   | none => true
   | some o => drawOkAt all cls nt i o) = true) : DrawOk all cls nt := by
 have key : ∀ (i : Nat) o, all[i]? = some o → drawOkAt all cls nt i o = true := by
   intro i o hi
   have := List.all_eq_true.1 h i (List.mem_range.2 (List.getElem?_eq_some_iff.1 hi).1)
   rw [hi] at this
   exact this
 have key2 : ∀ (i : Nat) o, all[i]? = some o → _ := fun i o hi => by
   have := key i o hi
   unfold drawOkAt at this
   simp only [Bool.and_eq_true] at this
   exact this
 have hd : ∀ (i j : Nat) o o' d, all[i]? = some o → all[j]? = some o' → o.dst = some d → o'.dst = some d → j < i → False := by
   intro i j o o' d hi hj h1 h2 hlt
   have := (key2 i o hi).1.1.2
   rw [h1] at this
   simp only [Bool.and_eq_true] at this
   have := List.all_eq_true.1 this.2 j (List.mem_range.2 hlt)
   simp [hj, h2] at this
 refine ⟨fun i o hi j hj => ?_, fun i o hi j hj => ?_, fun i o d hi hd => ?_, fun i j o o' d hi hj h1 h2 => ?_, fun i j o o' t hi hj h1 h2 => ?_, fun i o j want hi hg => ?_⟩
 · exact nblt.1 (List.all_eq_true.1 (key2 i o hi).1.1.1.1 j hj)
 · have hm := nbeq.1 (key2 i o hi).1.1.1.2
   unfold inCls at hj
   rw [hm] at hj
   exact maskOf_spec hj
 · have := (key2 i o hi).1.1.2
   rw [hd] at this
   simp only [Bool.and_eq_true] at this
   exact nblt.1 this.1
 · rcases Nat.lt_trichotomy i j with hlt | he | hlt
   · exact (hd j i o' o d hj hi h2 h1 hlt).elim
   · exact he
   · exact (hd i j o o' d hi hj h1 h2 hlt).elim
 · have := List.all_eq_true.1 (key2 i o hi).1.2 t h1
   have := List.all_eq_true.1 this j (List.mem_range.2 (List.getElem?_eq_some_iff.1 hj).1)
   simp [hj, h2] at this
   exact this
 · have := (key2 i o hi).2
   rw [hg] at this
   simpa using this
theorem DrawOk.cls_lt (hD : DrawOk all cls nt) : ∀ (i : Nat) o, all[i]? = some o → ∀ j, inCls cls i j = true → j < i := by
 intro i
 induction i using Nat.strongRecOn with
 | _ i ih =>
   intro o hi j hj
   rcases hD.clos i o hi j hj with h | ⟨d, hd, hjd⟩
   · exact hD.before i o hi j h
   · have hlt := hD.before i o hi d hd
     have hdl : d < all.length := Nat.lt_trans hlt (List.getElem?_eq_some_iff.1 hi).1
     exact Nat.lt_trans (ih d hlt all[d] (List.getElem?_eq_getElem hdl) j hjd) hlt
def Wanted (all : List Oper) (fr : Fr) (o : Oper) (b : Bool) : Prop :=
 match o.guard with
 | none => b = true
 | some (j, want) => ∃ s, (all[j]?).bind (·.dst) = some s ∧ ((∃ t, fr.get s = .bool t ∧ (t == want) = b) ∨ (fr.get s = .tup [] ∧ b = false))
def FactOk (P : Program) (C : Ctx) (B : Nat) (q : Bool) (all : List Oper) (cls : List Nat) (effs : List Nat) (hs : Nat → AH) (frI fr : Fr) (i : Nat) (o : Oper) : Prop :=
 ∃ v fo, (∀ d, o.dst = some d → fr.get d = v) ∧
   (∀ t ∈ opTmps o.op, ((∀ (j : Nat) o', all[j]? = some o' → o'.dst = some t → inCls cls i j = true) → Fr.get fo t = fr.get t) ∧ (∀ (j : Nat) o', all[j]? = some o' → o'.dst = some t → inCls cls j i = true → Fr.get fo t = frI.get t)) ∧
   ((Wanted all fr o true ∧ (flt C o.op = .eff → ∃ k, effs[k]? = some i ∧ OpWp P C B q (aev C (fo.cut (opTmps o.op))) (hs k) o v (hs (k + 1))) ∧
     (flt C o.op ≠ .eff → ∀ e, loOf cls i effs ≤ e → e ≤ hiOf cls i effs → OpWp P C B q (aev C (fo.cut (opTmps o.op))) (hs e) o v (hs e))) ∨
   (Wanted all fr o false ∧ v = .tup [] ∧ (flt C o.op = .eff → ∃ k, effs[k]? = some i ∧ hs (k + 1) = hs k)))
theorem recheck_inv {h : AH} {e : Nat} {β : Type} : ∀ {ps : Pend} {k : Option β} {r : β}, recheck C q call h e ps k = some r →
   k = some r ∧ ∀ p ∈ ps, e ≤ p.1 → aoper C q call (aev C p.2.2.1) p.2.1 h (fun v h => some (v, h)) = some (p.2.2.2, h)
 | [], k, r, hk => ⟨hk, fun p hp => by cases hp⟩
 | (hi, o, fr, v) :: ps, k, r, hk => by
   simp only [recheck, Bool.cond_eq_ite, nble] at hk
   split at hk
   · obtain ⟨h1, h2⟩ := same_inv hk
     obtain ⟨h3, h4⟩ := recheck_inv h2
     refine ⟨h3, fun p hp hle => ?_⟩
     rcases List.mem_cons.1 hp with rfl | hp
     · exact h1
     · exact h4 p hp hle
   · rename_i hn
     obtain ⟨h3, h4⟩ := recheck_inv hk
     refine ⟨h3, fun p hp hle => ?_⟩
     rcases List.mem_cons.1 hp with rfl | hp
     · exact absurd hle hn
     · exact h4 p hp hle
theorem backcheck_inv {o : Oper} {fr : Fr} {v : AV} {β : Type} : ∀ {hs : List AH} {k : Option β} {r : β}, backcheck C q call o fr v hs k = some r →
   k = some r ∧ ∀ h ∈ hs, aoper C q call (aev C fr) o h (fun v h => some (v, h)) = some (v, h)
 | [], k, r, hk => ⟨hk, fun p hp => by cases hp⟩
 | h :: hs, k, r, hk => by
   simp only [backcheck] at hk
   obtain ⟨h1, h2⟩ := same_inv hk
   obtain ⟨h3, h4⟩ := backcheck_inv h2
   refine ⟨h3, fun p hp => ?_⟩
   rcases List.mem_cons.1 hp with rfl | hp
   · exact h1
   · exact h4 p hp
theorem hiOf_le (i : Nat) : ∀ l : List Nat, hiOf cls i l ≤ l.length
 | [] => Nat.le_refl _
 | e :: es => by
   have := hiOf_le i es
   simp only [hiOf, Bool.cond_eq_ite, List.length_cons]
   split <;> omega
theorem hiOf_ge (i : Nat) : ∀ (l : List Nat) (e : Nat), e ≤ l.length → (∀ (k : Nat) x, k < e → l[k]? = some x → inCls cls x i = false) → e ≤ hiOf cls i l
 | [], e, h, _ => by simpa [hiOf] using h
 | y :: es, 0, h, _ => Nat.zero_le _
 | y :: es, e + 1, h, hn => by
   have h0 := hn 0 y (Nat.succ_pos _) rfl
   have := hiOf_ge i es e (by simpa using h) fun k x hk hx => hn (k + 1) x (Nat.succ_lt_succ hk) hx
   simp only [hiOf, Bool.cond_eq_ite]
   rw [if_neg (by rw [h0]; simp)]
   omega
theorem loOf_le (i : Nat) : ∀ (l : List Nat) (e : Nat), (∀ (k : Nat) x, l[k]? = some x → inCls cls i x = true → k < e) → loOf cls i l ≤ e
 | [], e, _ => Nat.zero_le _
 | y :: es, e, hn => by
   have ih := loOf_le i es (e - 1) fun k x hk hx => by have := hn (k + 1) x hk hx; omega
   have h0 := hn 0 y rfl
   simp only [loOf, Bool.cond_eq_ite, nbeq]
   split
   · split
     · rename_i hc
       exact h0 hc
     · exact Nat.zero_le _
   · omega
theorem mem_effs {i : Nat} (h : i ∈ effsOf C all) : isEff C all i = true := (List.mem_filter.1 h).2
theorem effs_at {i : Nat} (hi : i < all.length) (he : isEff C all i = true) : (effsOf C all)[((List.range i).filter (isEff C all)).length]? = some i := by
 unfold effsOf
 have : List.range all.length = List.range i ++ (i :: (List.range (all.length - i - 1)).map (i + 1 + ·)) := by
   have e : all.length = i + (1 + (all.length - i - 1)) := by omega
   conv => lhs; rw [e]
   rw [List.range_add, List.range_add]
   simp [Nat.add_assoc]
 rw [this, List.filter_append, List.filter_cons, if_pos he]
 simp
theorem effs_succ {i : Nat} : ((List.range (i + 1)).filter (isEff C all)).length = ((List.range i).filter (isEff C all)).length + (if isEff C all i = true then 1 else 0) := by
 rw [List.range_succ, List.filter_append]
 by_cases h : isEff C all i = true <;> simp [h]
theorem isEff_iff {i : Nat} {o : Oper} (h : all[i]? = some o) : isEff C all i = true ↔ flt C o.op = .eff := by
 simp [isEff, h]
def Told (P : Program) (C : Ctx) (B : Nat) (q : Bool) (call : CallF) (all : List Oper) (cls : List Nat) {β : Type} (k : Fr → AH → Option β) (r : β) (frI : Fr) (i : Nat) (rest : List Oper) (past : List AH) (pend : Pend) (fr : Fr) (h : AH) : Prop :=
 ∃ (frN : Fr) (hs : Nat → AH), k frN (hs (effsOf C all).length) = some r ∧
   (∀ n x, past[n]? = some x → hs (past.length - 1 - n) = x) ∧ hs past.length = h ∧
   (∀ t, (∀ o ∈ rest, o.dst ≠ some t) → frN.get t = fr.get t) ∧
   (∀ j o, i ≤ j → all[j]? = some o → FactOk P C B q all cls (effsOf C all) hs frI frN j o) ∧
   (∀ p ∈ pend, ∀ e, past.length < e → e ≤ (effsOf C all).length → e ≤ p.1 → aoper C q call (aev C p.2.2.1) p.2.1 (hs e) (fun v h => some (v, h)) = some (p.2.2.2, hs e))
theorem told_step {β : Type} {k : Fr → AH → Option β} {r : β} (hD : DrawOk all cls nt) {i : Nat} {o : Oper} {rest : List Oper} (hdrop : all.drop i = o :: rest) {past past' : List AH} {pend pend' : Pend} {frI fr0 fr : Fr} {h h' : AH} {v : AV} {b : Bool}
   (hI : ∀ t, (∀ (j : Nat) o', j < i → all[j]? = some o' → o'.dst ≠ some t) → fr0.get t = frI.get t)
   (hfr : ∀ t, fr.get t = fr0.get t) (hw : Wanted all fr o b)
   (hpast : ∀ hs : Nat → AH, (∀ n x, past'[n]? = some x → hs (past'.length - 1 - n) = x) → hs past'.length = h' →
     (∀ p ∈ pend', ∀ e, past'.length < e → e ≤ (effsOf C all).length → e ≤ p.1 → aoper C q call (aev C p.2.2.1) p.2.1 (hs e) (fun v h => some (v, h)) = some (p.2.2.2, hs e)) →
     (∀ n x, past[n]? = some x → hs (past.length - 1 - n) = x) ∧ hs past.length = h ∧
     (∀ p ∈ pend, ∀ e, past.length < e → e ≤ (effsOf C all).length → e ≤ p.1 → aoper C q call (aev C p.2.2.1) p.2.1 (hs e) (fun v h => some (v, h)) = some (p.2.2.2, hs e)) ∧
     ((b = true ∧ (flt C o.op = .eff → ∃ k, (effsOf C all)[k]? = some i ∧ OpWp P C B q (aev C (fr.cut (opTmps o.op))) (hs k) o v (hs (k + 1))) ∧
       (flt C o.op ≠ .eff → ∀ e, loOf cls i (effsOf C all) ≤ e → e ≤ hiOf cls i (effsOf C all) → OpWp P C B q (aev C (fr.cut (opTmps o.op))) (hs e) o v (hs e))) ∨
     (b = false ∧ v = .tup [] ∧ (flt C o.op = .eff → ∃ k, (effsOf C all)[k]? = some i ∧ hs (k + 1) = hs k))))
   (ht : Told P C B q call all cls k r frI (i + 1) rest past' pend' (setDst fr o.dst v) h') : Told P C B q call all cls k r frI i (o :: rest) past pend fr0 h := by
 obtain ⟨frN, hs, h1, h2, h3, h4, h5, h6⟩ := ht
 obtain ⟨p1, p2, p3, p4⟩ := hpast hs h2 h3 h6
 have hoi : all[i]? = some o := by
   have : (all.drop i)[0]? = some o := by rw [hdrop]; rfl
   simpa using this
 have hrest : ∀ o' ∈ rest, ∃ j, i < j ∧ all[j]? = some o' := by
   intro o' ho'
   obtain ⟨n, hn⟩ := List.mem_iff_getElem?.1 ho'
   refine ⟨i + (n + 1), by omega, ?_⟩
   have : (all.drop i)[n + 1]? = some o' := by rw [hdrop]; exact hn
   rwa [List.getElem?_drop] at this
 have hkeep : ∀ t, (∀ o' ∈ o :: rest, o'.dst ≠ some t) → frN.get t = fr.get t := by
   intro t hn
   rw [h4 t fun o' ho' => hn o' (List.mem_cons_of_mem _ ho'), set_get, if_neg (hn o (List.mem_cons_self ..))]
 have hearly : ∀ t (j : Nat) o', j < i → all[j]? = some o' → o'.dst = some t → frN.get t = fr.get t := by
   intro t j o' hj hoj hd
   refine hkeep t fun o2 ho2 hd2 => ?_
   rcases List.mem_cons.1 ho2 with rfl | ho2
   · have := hD.dist j i o' o2 t hoj hoi hd hd2; omega
   · obtain ⟨n, hn, hon⟩ := hrest o2 ho2
     have := hD.dist j n o' o2 t hoj hon hd hd2; omega
 have hopd : ∀ t ∈ opTmps o.op, (∀ (j : Nat) o', all[j]? = some o' → o'.dst = some t → inCls cls i j = true) → frN.get t = fr.get t := by
   intro t ht hall
   refine hkeep t fun o2 ho2 hd2 => ?_
   rcases List.mem_cons.1 ho2 with rfl | ho2
   · have := hD.cls_lt i o2 hoi i (hall i o2 hoi hd2); omega
   · obtain ⟨n, hn, hon⟩ := hrest o2 ho2
     have := hD.cls_lt i o hoi n (hall n o2 hon hd2); omega
 have hlate : ∀ (t j : Nat) (o' : Oper), all[j]? = some o' → o'.dst = some t → inCls cls j i = true → fr.get t = frI.get t := by
   intro t j o' hoj hd hc
   have hij := hD.cls_lt j o' hoj i hc
   rw [hfr]
   refine hI t fun j2 o2 hj2 ho2 hd2 => ?_
   have := hD.dist j j2 o' o2 t hoj ho2 hd hd2; omega
 have hwN : Wanted all frN o b := by
   unfold Wanted at hw ⊢
   cases hg : o.guard with
   | none => rw [hg] at hw; exact hw
   | some p =>
     obtain ⟨j, want⟩ := p
     rw [hg] at hw
     obtain ⟨s, hs1, hw⟩ := hw
     have hse : frN.get s = fr.get s := by
       cases hoj : all[j]? with
       | none => rw [hoj] at hs1; cases hs1
       | some oj =>
         rw [hoj, o_bd] at hs1
         exact hearly s j oj (hD.cls_lt i o hoi j (hD.grd i o j want hoi hg)) hoj hs1
     refine ⟨s, hs1, ?_⟩
     rw [hse]
     exact hw
 refine ⟨frN, hs, h1, p1, p2, fun t hn => by rw [hkeep t hn, hfr], fun j o' hj hoj => ?_, p3⟩
 by_cases hji : j = i
 · subst hji
   rw [hoi] at hoj
   cases hoj
   refine ⟨v, fr, fun d hd => ?_, fun t ht => ⟨fun hall => (hopd t ht hall).symm, fun j o' hoj hd hc => hlate t j o' hoj hd hc⟩, ?_⟩
   · rw [h4 d fun o2 ho2 hd2 => ?_, set_get, if_pos hd]
     obtain ⟨n, hn, hon⟩ := hrest o2 ho2
     have := hD.dist j n o o2 d hoi hon hd hd2; omega
   · rcases p4 with ⟨rfl, a1, a2⟩ | ⟨rfl, a1, a2⟩
     · exact .inl ⟨hwN, a1, a2⟩
     · exact .inr ⟨hwN, a1, a2⟩
 · exact h5 j o' (by omega) hoj
theorem adraw_facts (hT : TypesOk P C) (hc : CallsOk P C B q call) (hD : DrawOk all cls nt) {β : Type} {k : Fr → AH → Option β} {r : β} {frI : Fr} : ∀ (rest : List Oper) (i : Nat) (past : List AH) (pend : Pend) (fr : Fr) (h : AH),
   (∀ t, (∀ (j : Nat) o', j < i → all[j]? = some o' → o'.dst ≠ some t) → fr.get t = frI.get t) → all.drop i = rest → i ≤ all.length → past.length = ((List.range i).filter (isEff C all)).length → adraw C q call all cls (effsOf C all) k i rest past pend fr h = some r → Told P C B q call all cls k r frI i rest past pend fr h := by
 intro rest
 induction rest with
 | nil =>
   intro i past pend fr h _ hdrop hi hp hk
   have hil : i = all.length := by
     have : (all.drop i).length = 0 := by rw [hdrop]; rfl
     rw [List.length_drop] at this
     omega
   have hM : (effsOf C all).length = past.length := by rw [hp, hil]; rfl
   simp only [adraw] at hk
   refine ⟨fr, fun e => if e < past.length then (past[past.length - 1 - e]?).getD h else h, ?_, fun n x hx => ?_, ?_, fun _ _ => rfl, fun j o hj hoj => ?_, fun p _ e h1 h2 => by omega⟩
   · rw [hM]; simpa using hk
   · have hlt := (List.getElem?_eq_some_iff.1 hx).1
     have e1 : past.length - 1 - (past.length - 1 - n) = n := by omega
     show (if past.length - 1 - n < past.length then _ else _) = x
     rw [if_pos (by omega), e1, hx]; rfl
   · simp
   · have := (List.getElem?_eq_some_iff.1 hoj).1; omega
 | cons o rest ih =>
   intro i past pend fr h hI hdrop hi hp hk
   have hoi : all[i]? = some o := by
     have : (all.drop i)[0]? = some o := by rw [hdrop]; rfl
     simpa using this
   have hil := (List.getElem?_eq_some_iff.1 hoi).1
   have hdrop' : all.drop (i + 1) = rest := by
     have := List.drop_drop (i := 1) (j := i) (l := all)
     rw [hdrop] at this
     rw [← this]; rfl
   have go : ∀ (fr1 : Fr) (b : Bool), (∀ t, fr1.get t = fr.get t) → Wanted all fr1 o b →
       (match flt C o.op with
     | .eff => bif b then aoper C q call (aev C (fr1.cut (opTmps o.op))) o h fun v h' => recheck C q call h' (past.length + 1) pend (adraw C q call all cls (effsOf C all) k (i + 1) rest (h :: past) pend (setDst fr1 o.dst v) h')
       else recheck C q call h (past.length + 1) pend (adraw C q call all cls (effsOf C all) k (i + 1) rest (h :: past) pend (setDst fr1 o.dst (.tup [])) h)
     | .free => bif b then
         (match o.op with
         | .pick c a b => match aev C (fr1.cut (opTmps o.op)) c with
           | .bool t => adraw C q call all cls (effsOf C all) k (i + 1) rest past pend (setDst fr1 o.dst (.sel t (aev C (fr1.cut (opTmps o.op)) a) (aev C (fr1.cut (opTmps o.op)) b))) h
           | _ => none
         | _ => aoper C q call (aev C (fr1.cut (opTmps o.op))) o h fun v _ => adraw C q call all cls (effsOf C all) k (i + 1) rest past pend (setDst fr1 o.dst v) h)
       else adraw C q call all cls (effsOf C all) k (i + 1) rest past pend (setDst fr1 o.dst (.tup [])) h
     | .rd => bif b then aoper C q call (aev C (fr1.cut (opTmps o.op))) o h fun v _ =>
         backcheck C q call o (fr1.cut (opTmps o.op)) v (past.take (past.length - loOf cls i (effsOf C all)))
           (adraw C q call all cls (effsOf C all) k (i + 1) rest past ((hiOf cls i (effsOf C all), o, fr1.cut (opTmps o.op), v) :: pend) (setDst fr1 o.dst v) h)
       else adraw C q call all cls (effsOf C all) k (i + 1) rest past pend (setDst fr1 o.dst (.tup [])) h) = some r → Told P C B q call all cls k r frI i (o :: rest) past pend fr h := by
     intro fr1 b hfr hw hk
     have hI' : ∀ (v : AV) (t : Nat), (∀ (j : Nat) o', j < i + 1 → all[j]? = some o' → o'.dst ≠ some t) → Fr.get (setDst fr1 o.dst v) t = frI.get t := fun v t ht => by
       rw [set_get, if_neg (ht i o (by omega) hoi), hfr]
       exact hI t fun j o' hj ho' => ht j o' (by omega) ho'
     split at hk
     ·
       rename_i hf
       have hef : isEff C all i = true := (isEff_iff hoi).2 hf
       have hat : (effsOf C all)[past.length]? = some i := by rw [hp]; exact effs_at hil hef
       have hp' : (h :: past).length = ((List.range (i + 1)).filter (isEff C all)).length := by rw [effs_succ, if_pos hef, ← hp]; rfl
       cases b with
       | true =>
         simp only [cond_true] at hk
         obtain ⟨v, h', h1, h2⟩ := aoper_ok hT hc o hk (by intro c a b e; rw [e] at hf; cases hf)
         obtain ⟨h3, h4⟩ := recheck_inv h1
         refine told_step (v := v) hD hdrop hI hfr hw (fun hs e1 e2 e3 => ?_) (ih (i + 1) (h :: past) pend _ h' (hI' _) hdrop' (by omega) hp' h3)
         have e0 : hs past.length = h := by simpa using e1 0 h rfl
         refine ⟨fun n x hx => ?_, e0, fun p hpm e l1 l2 l3 => ?_, .inl ⟨rfl, fun _ => ⟨past.length, hat, ?_⟩, fun hn => absurd hf hn⟩⟩
         · have := e1 (n + 1) x (by simpa using hx)
           rw [← this]
           congr 1
           simp only [List.length_cons]; omega
         · by_cases hee : e = past.length + 1
           · subst hee
             have e2' : hs (past.length + 1) = h' := e2
             rw [e2']
             exact h4 p hpm l3
           · exact e3 p hpm e (by simp only [List.length_cons]; omega) l2 l3
         · have e2' : hs (past.length + 1) = h' := e2
           rw [e0, e2']
           exact h2
       | false =>
         simp only [cond_false] at hk
         obtain ⟨h3, h4⟩ := recheck_inv hk
         refine told_step (v := .tup []) hD hdrop hI hfr hw (fun hs e1 e2 e3 => ?_) (ih (i + 1) (h :: past) pend _ h (hI' _) hdrop' (by omega) hp' h3)
         have e0 : hs past.length = h := by simpa using e1 0 h rfl
         have e2' : hs (past.length + 1) = h := e2
         refine ⟨fun n x hx => ?_, e0, fun p hpm e l1 l2 l3 => ?_, .inr ⟨rfl, rfl, fun _ => ⟨past.length, hat, by rw [e0, e2']⟩⟩⟩
         · have := e1 (n + 1) x (by simpa using hx)
           rw [← this]
           congr 1
           simp only [List.length_cons]; omega
         · by_cases hee : e = past.length + 1
           · subst hee
             rw [e2']
             exact h4 p hpm l3
           · exact e3 p hpm e (by simp only [List.length_cons]; omega) l2 l3
     ·
       rename_i hf
       have hne : ¬ isEff C all i = true := by rw [isEff_iff hoi, hf]; simp
       have hp' : past.length = ((List.range (i + 1)).filter (isEff C all)).length := by rw [effs_succ, if_neg hne, ← hp]; rfl
       cases b with
       | true =>
         simp only [cond_true] at hk
         have key : ∃ v, adraw C q call all cls (effsOf C all) k (i + 1) rest past pend (setDst fr1 o.dst v) h = some r ∧ ∀ hh, OpWp P C B q (aev C (fr1.cut (opTmps o.op))) hh o v hh := by
           split at hk
           · rename_i c a b ho
             split at hk
             · rename_i t hcv
               refine ⟨_, hk, fun hh μ w act K Q hr hg hev hK => ?_⟩
               have hcv' := hev c
               rw [hcv] at hcv'
               refine pick_wp ho hcv'.bool_inv ?_
               have := sel_rel (μ := μ) (t := t) (X := act.eval a) (Y := act.eval b) (fun _ => hev a) (fun _ => hev b)
               exact hK μ _ w μ.le_refl this hr (Below.refl _ _) fun _ => Below.refl _ _
             · cases hk
           · rename_i hnp
             obtain ⟨v, h1, h2⟩ := aoper_free (P := P) (B := B) hT o hk hf (fun c a b e => hnp c a b e)
             exact ⟨v, h1, fun hh => h2 hh q⟩
         obtain ⟨v, h1, h2⟩ := key
         refine told_step (v := v) hD hdrop hI hfr hw (fun hs e1 e2 e3 => ?_) (ih (i + 1) past pend _ h (hI' _) hdrop' (by omega) hp' h1)
         exact ⟨e1, e2, e3, .inl ⟨rfl, fun e => (by rw [hf] at e; cases e), fun _ e _ _ => h2 _⟩⟩
       | false =>
         simp only [cond_false] at hk
         refine told_step (v := .tup []) hD hdrop hI hfr hw (fun hs e1 e2 e3 => ?_) (ih (i + 1) past pend _ h (hI' _) hdrop' (by omega) hp' hk)
         exact ⟨e1, e2, e3, .inr ⟨rfl, rfl, fun e => (by rw [hf] at e; cases e)⟩⟩
     ·
       rename_i hf
       have hne : ¬ isEff C all i = true := by rw [isEff_iff hoi, hf]; simp
       have hp' : past.length = ((List.range (i + 1)).filter (isEff C all)).length := by rw [effs_succ, if_neg hne, ← hp]; rfl
       cases b with
       | true =>
         simp only [cond_true] at hk
         obtain ⟨v, h1, h2⟩ := aoper_rd (P := P) (B := B) hT o hk hf
         obtain ⟨h3, h4⟩ := backcheck_inv h1
         refine told_step (v := v) hD hdrop hI hfr hw (fun hs e1 e2 e3 => ?_) (ih (i + 1) past _ _ h (hI' _) hdrop' (by omega) hp' h3)
         have hrd : ∀ e, aoper C q call (aev C (fr1.cut (opTmps o.op))) o (hs e) (fun v h => some (v, h)) = some (v, hs e) → OpWp P C B q (aev C (fr1.cut (opTmps o.op))) (hs e) o v (hs e) := by
           intro e he
           obtain ⟨v', g1, g2⟩ := aoper_rd (P := P) (B := B) hT o he hf
           cases g1
           exact g2
         refine ⟨e1, e2, fun p hpm => e3 p (List.mem_cons_of_mem _ hpm), .inl ⟨rfl, fun e => (by rw [hf] at e; cases e), fun _ e l1 l2 => ?_⟩⟩
         rcases Nat.lt_trichotomy e past.length with hlt | rfl | hgt
         · have hg : past[past.length - 1 - e]? = some past[past.length - 1 - e] := List.getElem?_eq_getElem (by omega)
           have := e1 _ _ hg
           have e4 : past.length - 1 - (past.length - 1 - e) = e := by omega
           rw [e4] at this
           refine hrd e ?_
           rw [this]
           refine h4 _ (List.mem_of_getElem? (i := past.length - 1 - e) ?_)
           rw [List.getElem?_take, if_pos (by omega)]
           exact hg
         · rw [e2]; exact h2
         · refine hrd e ?_
           have := hiOf_le (cls := cls) i (effsOf C all)
           exact e3 _ (List.mem_cons_self ..) e hgt (by omega) l2
       | false =>
         simp only [cond_false] at hk
         refine told_step (v := .tup []) hD hdrop hI hfr hw (fun hs e1 e2 e3 => ?_) (ih (i + 1) past pend _ h (hI' _) hdrop' (by omega) hp' hk)
         exact ⟨e1, e2, e3, .inr ⟨rfl, rfl, fun e => (by rw [hf] at e; cases e)⟩⟩
   have hset : ∀ {s : Nat} {t : Bool}, fr.get s = .bool t → ∀ x, Fr.get ((s, .bool t) :: fr) x = fr.get x := by
     intro s t hst x
     simp only [Fr.get, Bool.cond_eq_ite, nbeq]
     by_cases e : s = x
     · subst e; rw [if_pos rfl, hst]
     · rw [if_neg e]
   rw [adraw] at hk
   simp only at hk
   split at hk
   · rename_i hg
     exact go fr true (fun _ => rfl) (by unfold Wanted; rw [hg]) hk
   · rename_i j want hg
     split at hk
     · cases hk
     · rename_i s hs
       split at hk
       · rename_i t hst
         cases t with
         | true =>
           rw [cond_true] at hk
           refine go _ want (hset hst) ?_ hk
           unfold Wanted
           rw [hg]
           exact ⟨s, hs, .inl ⟨true, by rw [hset hst]; exact hst, by cases want <;> rfl⟩⟩
         | false =>
           rw [cond_false] at hk
           refine go _ (!want) (hset hst) ?_ hk
           unfold Wanted
           rw [hg]
           exact ⟨s, hs, .inl ⟨false, by rw [hset hst]; exact hst, by cases want <;> rfl⟩⟩
       · rename_i l hst
         cases l with
         | nil =>
           rw [List.isEmpty_nil, cond_true] at hk
           refine go fr false (fun _ => rfl) ?_ hk
           unfold Wanted
           rw [hg]
           exact ⟨s, hs, .inr ⟨hst, rfl⟩⟩
         | cons a l => cases hk
       · cases hk
def unlisted (listed : Array Bool) : Nat → Nat
 | 0 => 0
 | n + 1 => unlisted listed n + (if listed.getD n true = false then 1 else 0)
theorem unlisted_set {listed : Array Bool} {i : Nat} (h : listed.getD i true = false) : ∀ n, unlisted (listed.setIfInBounds i true) n + (if i < n then 1 else 0) = unlisted listed n
 | 0 => by simp [unlisted]
 | n + 1 => by
   have ih := unlisted_set h n
   simp only [unlisted]
   by_cases hin : i = n
   · subst hin
     have hlt : i < listed.size := by
       rcases Nat.lt_or_ge i listed.size with h' | h'
       · exact h'
       · simp [Array.getElem?_eq_none h'] at h
     have e1 : (listed.setIfInBounds i true).getD i true = true := by simp [hlt]
     rw [e1, h, if_pos (Nat.lt_succ_self i)]
     rw [if_neg (Nat.lt_irrefl i)] at ih
     simp
     omega
   · rw [getD_set_ne true hin]
     by_cases hl : i < n
     · rw [if_pos hl] at ih; rw [if_pos (show i < n + 1 by omega)]; omega
     · rw [if_neg hl] at ih; rw [if_neg (show ¬ i < n + 1 by omega)]; omega
theorem unlisted_zero {listed : Array Bool} : ∀ {n : Nat}, unlisted listed n = 0 → ∀ i, i < n → listed.getD i true = true
 | n + 1, h, i, hi => by
   simp only [unlisted] at h
   by_cases e : listed.getD n true = false
   · rw [if_pos e] at h; omega
   · by_cases hin : i = n
     · subst hin; simpa using e
     · exact unlisted_zero (n := n) (by omega) i (by omega)
theorem mem_afters {o : Oper} {j : Nat} : j ∈ afters o ↔ ∃ e ∈ o.after, Region.binds .any e = true ∧ e.on = j := by
 unfold afters
 simp only [List.mem_filterMap, Array.mem_toList_iff, Bool.cond_eq_ite]
 constructor
 · rintro ⟨e, he, h⟩
   split at h
   · rename_i hb; cases h; exact ⟨e, he, hb, rfl⟩
   · cases h
 · rintro ⟨e, he, hb, rfl⟩
   exact ⟨e, he, by rw [if_pos hb]⟩
structure Dr (P : Program) (C : Ctx) (B nt : Nat) (all : List Oper) (hs : Nat → AH) (frI frN : Fr) (listed : Array Bool) (μ : Mu) (e : Nat) (a : Act) (w : World) : Prop where
 heap : HRel μ B (hs e) w
 glob : GlobOk C μ
 defers : a.defers = []
 size : nt ≤ a.tmps.size
 slots : ∀ t, (∀ (i : Nat) o, all[i]? = some o → o.dst = some t → listed.getD i false = true) → VRel μ (frN.get t) (a.tmps.getD t undef)
 first : ∀ t, (∀ (i : Nat) o, all[i]? = some o → o.dst = some t → listed.getD i false = false) → VRel μ (frI.get t) (a.tmps.getD t undef)
 lsize : listed.size = all.length
 closed : ∀ (i : Nat) o, all[i]? = some o → listed.getD i false = true → ∀ j ∈ afters o, listed.getD j false = true
 epoch : ∀ (k i : Nat), (effsOf C all)[k]? = some i → (listed.getD i false = true ↔ k < e)
 le : e ≤ (effsOf C all).length
theorem chain_spec : ∀ {l : List Nat}, chainOk cls l = true → ∀ (k : Nat) a b, l[k]? = some a → l[k + 1]? = some b → inCls cls b a = true
 | [], _, k, a, b, h, _ => by simp at h
 | [x], _, k, a, b, _, h => by simp at h
 | x :: y :: l, h, k, a, b, ha, hb => by
   simp only [chainOk, Bool.and_eq_true] at h
   cases k with
   | zero =>
     simp at ha hb
     subst ha; subst hb
     exact h.1
   | succ k => exact chain_spec h.2 k a b ha hb
theorem getD_bool {listed : Array Bool} {i : Nat} (h : i < listed.size) (d d' : Bool) : listed.getD i d = listed.getD i d' := by simp [h]
theorem Dr.before (hD : DrawOk all cls nt) {hs : Nat → AH} {frI frN : Fr} {listed : Array Bool} {μ : Mu} {e : Nat} {a : Act} {w : World} (hr : Dr P C B nt all hs frI frN listed μ e a w) :
   ∀ (i : Nat) o, all[i]? = some o → (∀ j ∈ afters o, listed.getD j false = true) → ∀ j, inCls cls i j = true → listed.getD j false = true := by
 intro i
 induction i using Nat.strongRecOn with
 | _ i ih =>
   intro o hi ha j hj
   rcases hD.clos i o hi j hj with h | ⟨d, hd, hjd⟩
   · exact ha j h
   · have hlt := hD.before i o hi d hd
     have hdl : d < all.length := Nat.lt_trans hlt (List.getElem?_eq_some_iff.1 hi).1
     exact ih d hlt all[d] (List.getElem?_eq_getElem hdl) (hr.closed d _ (List.getElem?_eq_getElem hdl) (ha d hd)) j hjd
theorem draw_any (hD : DrawOk all cls nt) (hch : chainOk cls (effsOf C all) = true) {ops : Array Oper} (hops : ops.toList = all) {hs : Nat → AH} {frI frN : Fr} (hF : ∀ (i : Nat) o, all[i]? = some o → FactOk P C B q all cls (effsOf C all) hs frI frN i o) {Q : Exit → Act → World → Prop} :
   ∀ (fuel : Nat) (listed : Array Bool) (μ : Mu) (e : Nat) (a : Act) (w : World), unlisted listed all.length = fuel → Dr P C B nt all hs frI frN listed μ e a w →
     (∀ μ' a' w', μ.le μ' → Rel P C B nt μ' frN (hs (effsOf C all).length) a' w' → Below B w w' → (q = true → Below w.heap.size w w') → Q .normal a' w') →
     wpAny P .any ops Q fuel listed a w := by
 have hget : ∀ i : Nat, ops[i]? = all[i]? := fun i => by rw [← hops, Array.getElem?_toList]
 have done : ∀ (listed : Array Bool) (μ : Mu) (e : Nat) (a : Act) (w : World), Dr P C B nt all hs frI frN listed μ e a w → (∀ i, i < all.length → listed.getD i false = true) → Rel P C B nt μ frN (hs (effsOf C all).length) a w := by
   intro listed μ e a w hr hl
   have hee : e = (effsOf C all).length := by
     rcases Nat.lt_or_ge e (effsOf C all).length with hlt | hge
     · have hx : (effsOf C all)[e]? = some (effsOf C all)[e] := List.getElem?_eq_getElem hlt
       have hm : (effsOf C all)[e] ∈ effsOf C all := List.getElem_mem _
       have hlt2 : (effsOf C all)[e] < all.length := List.mem_range.1 (List.mem_filter.1 hm).1
       have := (hr.epoch e _ hx).1 (hl _ hlt2)
       omega
     · have := hr.le; omega
   subst hee
   exact ⟨hr.heap, fun t => hr.slots t fun i o hi _ => hl i (List.getElem?_eq_some_iff.1 hi).1, hr.defers, hr.size, hr.glob⟩
 have stuck : ∀ (listed : Array Bool) (μ : Mu) (e : Nat) (a : Act) (w : World), Dr P C B nt all hs frI frN listed μ e a w → Region.ready .any ops listed = [] → ∀ i, i < all.length → listed.getD i false = true := by
   intro listed μ e a w hr hready i
   induction i using Nat.strongRecOn with
   | _ i ih =>
     intro hi
     have hoi : all[i]? = some all[i] := List.getElem?_eq_getElem hi
     cases hl : listed.getD i false with
     | true => rfl
     | false =>
       have : i ∈ Region.ready .any ops listed := by
         refine mem_ready.2 ⟨by rw [getD_bool (by rw [hr.lsize]; exact hi) true false]; exact hl, all[i], by rw [hget, hoi], fun ed hed hb => ?_⟩
         have hj := hD.before i _ hoi ed.on (mem_afters.2 ⟨ed, hed, hb, rfl⟩)
         exact ih ed.on hj (Nat.lt_trans hj hi)
       rw [hready] at this
       cases this
 intro fuel
 induction fuel with
 | zero =>
   intro listed μ e a w hu hr hQ
   have hl : ∀ i, i < all.length → listed.getD i false = true := fun i hi => by
     rw [getD_bool (by rw [hr.lsize]; exact hi) false true]; exact unlisted_zero hu i hi
   refine ⟨?_, hQ μ a w μ.le_refl (done listed μ e a w hr hl) (Below.refl _ _) fun _ => Below.refl _ _⟩
   cases hrd : Region.ready .any ops listed with
   | nil => rfl
   | cons i l =>
     have : i ∈ Region.ready .any ops listed := by rw [hrd]; exact List.mem_cons_self ..
     obtain ⟨h0, o, ho, _⟩ := mem_ready.1 this
     have hi : i < all.length := by rw [hget] at ho; exact (List.getElem?_eq_some_iff.1 ho).1
     rw [unlisted_zero hu i hi] at h0
     cases h0
 | succ fuel ih =>
   intro listed μ e a w hu hr hQ
   refine ⟨fun hrd => hQ μ a w μ.le_refl (done listed μ e a w hr (stuck listed μ e a w hr hrd)) (Below.refl _ _) fun _ => Below.refl _ _, fun i hi => ?_⟩
   obtain ⟨h0, o, ho, haft⟩ := mem_ready.1 hi
   have hoi : all[i]? = some o := by rw [← hget]; exact ho
   have hil := (List.getElem?_eq_some_iff.1 hoi).1
   have hun : listed.getD i false = false := by rw [getD_bool (by rw [hr.lsize]; exact hil) false true]; exact h0
   have haft' : ∀ j ∈ afters o, listed.getD j false = true := fun j hj => by
     obtain ⟨ed, h1, h2, rfl⟩ := mem_afters.1 hj
     exact haft ed h1 h2
   have hcls := hr.before hD i o hoi haft'
   have hself : (listed.setIfInBounds i true).getD i false = true := by simp [hr.lsize, hil]
   have hother : ∀ j, i ≠ j → (listed.setIfInBounds i true).getD j false = listed.getD j false := fun j hj => getD_set_ne false hj
   obtain ⟨v, fo, hdst, hfo, hfact⟩ := hF i o hoi
   have next : ∀ (μ' : Mu) (e' : Nat) (x : Value) (w' : World), μ.le μ' → VRel μ' v x → HRel μ' B (hs e') w' → e' ≤ (effsOf C all).length →
       (∀ (k j : Nat), (effsOf C all)[k]? = some j → ((listed.setIfInBounds i true).getD j false = true ↔ k < e')) → Dr P C B nt all hs frI frN (listed.setIfInBounds i true) μ' e' (a.put o.dst x) w' := by
     intro μ' e' x w' hle hv hh hel hep
     refine ⟨hh, hr.glob.mono hle, ?_, ?_, fun t ht => ?_, fun t ht => ?_, by simpa using hr.lsize, fun j o' hj hlj d hd => ?_, hep, hel⟩
     · cases o.dst <;> exact hr.defers
     · cases o.dst <;> simpa [Act.put] using hr.size
     · by_cases htd : o.dst = some t
       · have hfit : t < a.tmps.size := Nat.lt_of_lt_of_le (hD.fit i o t hoi htd) hr.size
         rw [htd, hdst t htd]
         simp [Act.put, hfit]
         exact hv
       · have hold : VRel μ (frN.get t) (a.tmps.getD t undef) := hr.slots t fun j o' hj hd => by
           have hij : i ≠ j := by
             rintro rfl
             rw [hoi] at hj
             cases hj
             exact htd hd
           have := ht j o' hj hd
           rwa [hother j hij] at this
         have hput : (a.put o.dst x).tmps.getD t undef = a.tmps.getD t undef := by
           cases hod : o.dst with
           | none => rfl
           | some u =>
             have : u ≠ t := fun e => htd (by rw [hod, e])
             simp [Act.put, Array.getElem?_setIfInBounds_ne this]
         rw [hput]
         exact hold.mono hle
     · have htd : o.dst ≠ some t := fun h => by
         have := ht i o hoi h
         rw [hself] at this; cases this
       have hold : VRel μ (frI.get t) (a.tmps.getD t undef) := hr.first t fun j o' hj hd => by
         have hij : i ≠ j := by
           rintro rfl
           rw [hoi] at hj
           cases hj
           exact htd hd
         have := ht j o' hj hd
         rwa [hother j hij] at this
       have hput : (a.put o.dst x).tmps.getD t undef = a.tmps.getD t undef := by
         cases hod : o.dst with
         | none => rfl
         | some u =>
           have : u ≠ t := fun e => htd (by rw [hod, e])
           simp [Act.put, Array.getElem?_setIfInBounds_ne this]
       rw [hput]
       exact hold.mono hle
     · by_cases hij : i = j
       · subst hij
         rw [hoi] at hj
         cases hj
         exact getD_set_true (haft' d hd)
       · rw [hother j hij] at hlj
         exact getD_set_true (hr.closed j o' hj hlj d hd)
   have hcount : unlisted (listed.setIfInBounds i true) all.length = fuel := by
     have := unlisted_set h0 all.length
     rw [if_pos hil] at this
     omega
   have hepF : flt C o.op ≠ .eff → ∀ (k j : Nat), (effsOf C all)[k]? = some j → ((listed.setIfInBounds i true).getD j false = true ↔ k < e) := by
     intro hne k j hkj
     have hij : i ≠ j := by
       rintro rfl
       exact hne ((isEff_iff hoi).1 (mem_effs (List.mem_of_getElem? hkj)))
     rw [hother j hij]
     exact hr.epoch k j hkj
   have hnodup : (effsOf C all).Nodup := List.Pairwise.filter _ List.nodup_range
   have hepE : ∀ k0, (effsOf C all)[k0]? = some i → k0 = e ∧ (e + 1 ≤ (effsOf C all).length) ∧ ∀ (k j : Nat), (effsOf C all)[k]? = some j → ((listed.setIfInBounds i true).getD j false = true ↔ k < e + 1) := by
     intro k0 hk0
     have hlt0 := (List.getElem?_eq_some_iff.1 hk0).1
     have h1 : ¬ k0 < e := fun hlt => by
       have := (hr.epoch k0 i hk0).2 hlt
       rw [hun] at this; cases this
     have h2 : k0 ≤ e := by
       cases k0 with
       | zero => omega
       | succ k1 =>
         have hk1 : (effsOf C all)[k1]? = some (effsOf C all)[k1] := List.getElem?_eq_getElem (by omega)
         have hm := chain_spec hch k1 _ i hk1 hk0
         have := (hr.epoch k1 _ hk1).1 (hcls _ hm)
         omega
     have hke : k0 = e := by omega
     subst hke
     refine ⟨rfl, by omega, fun k j hkj => ?_⟩
     by_cases hij : i = j
     · subst hij
       have : k = k0 := by
         have hk := (List.getElem?_eq_some_iff.1 hkj).1
         have e1 := (List.getElem?_eq_some_iff.1 hkj).2
         have e2 := (List.getElem?_eq_some_iff.1 hk0).2
         exact (List.getElem_inj hnodup).1 (e1.trans e2.symm)
       subst this
       rw [hself]
       simp
     · have hkk : k ≠ k0 := by
         rintro rfl
         rw [hk0] at hkj
         cases hkj
         exact hij rfl
       rw [hother j hij, hr.epoch k j hkj]
       omega
   have hlo : loOf cls i (effsOf C all) ≤ e := loOf_le _ _ _ fun k x hk hx => (hr.epoch k x hk).1 (hcls x hx)
   have hhi : e ≤ hiOf cls i (effsOf C all) := hiOf_ge i _ e hr.le fun k x hk hx => by
     rw [← Bool.not_eq_true]
     intro hm
     have hlx := (hr.epoch k x hx).2 hk
     have hxl : x < all.length := List.mem_range.1 (List.mem_filter.1 (List.mem_of_getElem? hx)).1
     have hox : all[x]? = some all[x] := List.getElem?_eq_getElem hxl
     have := hr.before hD x _ hox (hr.closed x _ hox hlx) i hm
     rw [hun] at this; cases this
   have hev : ∀ x, VRel μ (aev C (fo.cut (opTmps o.op)) x) (a.eval x) := by
     intro x
     cases x with
     | tmp t =>
       by_cases ht : t ∈ opTmps o.op
       · show VRel μ ((fo.cut (opTmps o.op)).get t) _
         rw [cut_get_mem ht]
         by_cases hall : ∀ (j : Nat) o', all[j]? = some o' → o'.dst = some t → inCls cls i j = true
         · rw [(hfo t ht).1 hall]
           exact hr.slots t fun j o' hj hd => hcls j (hall j o' hj hd)
         · have hex : ∃ (j : Nat) (o' : Oper), all[j]? = some o' ∧ o'.dst = some t ∧ inCls cls j i = true := by
             refine Classical.byContradiction fun hno => hall fun j o' hj hd => ?_
             rcases hD.opd i j o o' t hoi hj ht hd with h9 | h9
             · exact h9
             · exact absurd ⟨j, o', hj, hd, h9⟩ hno
           obtain ⟨j, o', hj, hd, hc⟩ := hex
           rw [(hfo t ht).2 j o' hj hd hc]
           refine hr.first t fun j2 o2 hj2 hd2 => ?_
           have := hD.dist j j2 o' o2 t hj hj2 hd hd2
           subst this
           rw [hj] at hj2
           cases hj2
           rw [← Bool.not_eq_true]
           intro hlj
           have := hr.before hD j _ hj (hr.closed j _ hj hlj) i hc
           rw [hun] at this; cases this
       · show VRel μ ((fo.cut (opTmps o.op)).get t) _
         rw [cut_get_not ht]
         exact .bot
     | const v => exact ofConst_rel v
     | global g =>
       simp only [aev]
       split
       · rename_i id hid; exact (hr.glob g id hid).2
       · exact .bot
     | func f => exact .func rfl (by intro i p v h; simp at h)
   have hwant : ∀ b, Wanted all frN o b → Region.wanted o (yielded ops a.tmps) = b := by
     intro b hw
     unfold Wanted at hw
     unfold Region.wanted
     cases hg : o.guard with
     | none => rw [hg] at hw; simp [hw]
     | some p =>
       obtain ⟨j, want⟩ := p
       rw [hg] at hw
       obtain ⟨s, hs1, hw⟩ := hw
       cases hoj : all[j]? with
       | none => rw [hoj] at hs1; cases hs1
       | some oj =>
         rw [hoj, o_bd] at hs1
         have hlj := hcls j (hD.grd i o j want hoi hg)
         have hv := hr.slots s fun j' o' hj' hd' => by
           have := hD.dist j j' oj o' s hoj hj' hs1 hd'
           subst this
           exact hlj
         rcases hw with ⟨t, ht1, ht2⟩ | ⟨ht1, hb⟩
         · rw [ht1] at hv
           have hval := hv.bool_inv
           have hsome : a.tmps[s]? = some (.bool t) := by
             by_cases hsl : s < a.tmps.size
             · simp [hsl] at hval ⊢; exact hval
             · simp [hsl, undef] at hval
           have hy : yielded ops a.tmps j = some t := by
             unfold yielded
             rw [hget, hoj, o_bd, hs1, o_bd, hsome]
           simp only [hy]
           rw [← ht2]
           cases t <;> cases want <;> rfl
         · rw [ht1] at hv
           have hval : ∀ b, a.tmps[s]? ≠ some (.bool b) := by
             intro b he
             have : a.tmps.getD s undef = .bool b := by simp [he]
             rw [this] at hv
             cases hv
           have hy : yielded ops a.tmps j = none := by
             unfold yielded
             rw [hget, hoj, o_bd, hs1, o_bd]
             split
             · rename_i b he; exact absurd he (hval b)
             · rfl
           simp only [hy]
           rw [hb]
           cases want <;> rfl
   unfold wpOp
   rw [ho]
   simp only
   rcases hfact with ⟨hw, hE, hN⟩ | ⟨hw, hv, hE⟩
   · rw [if_pos (hwant true hw)]
     refine .inl ?_
     by_cases hef : flt C o.op = .eff
     · obtain ⟨k, hk, hwp⟩ := hE hef
       obtain ⟨rfl, hel, hep⟩ := hepE k hk
       refine hwp μ w a _ _ hr.heap hr.glob hev fun μ' x w' hle hv hh hb hb' => ?_
       refine ih _ μ' (k + 1) _ w' hcount (next μ' (k + 1) x w' hle hv hh hel hep) fun μ2 a2 w2 g1 g2 g3 g4 => ?_
       exact hQ μ2 a2 w2 (Mu.le_trans hle g1) g2 (hb.trans g3) fun hq => Below.trans_size (hb' hq) (g4 hq)
     · refine hN hef e hlo hhi μ w a _ _ hr.heap hr.glob hev fun μ' x w' hle hv hh hb hb' => ?_
       refine ih _ μ' e _ w' hcount (next μ' e x w' hle hv hh hr.le (hepF hef)) fun μ2 a2 w2 g1 g2 g3 g4 => ?_
       exact hQ μ2 a2 w2 (Mu.le_trans hle g1) g2 (hb.trans g3) fun hq => Below.trans_size (hb' hq) (g4 hq)
   · rw [if_neg (by rw [hwant false hw]; simp)]
     by_cases hef : flt C o.op = .eff
     · obtain ⟨k, hk, hwp⟩ := hE hef
       obtain ⟨rfl, hel, hep⟩ := hepE k hk
       refine ih _ μ (k + 1) _ w hcount (next μ (k + 1) undef w μ.le_refl (by rw [hv]; exact .tup rfl (by intro i c d h; simp at h)) (by rw [hwp]; exact hr.heap) hel hep) hQ
     · exact ih _ μ e _ w hcount (next μ e undef w μ.le_refl (by rw [hv]; exact .tup rfl (by intro i c d h; simp at h)) hr.heap hr.le (hepF hef)) hQ
theorem Rel.below {fr : Fr} {h : AH} {μ : Mu} {a : Act} {w w' : World} (hr : Rel P C B nt μ fr h a w) (hb : Below w.heap.size w w') : Rel P C B nt μ fr h a w' :=
 ⟨hr.heap.below hb, hr.slots, hr.defers, hr.size, hr.glob⟩
theorem unlisted_all (m : Nat) : ∀ n, n ≤ m → unlisted (Array.replicate m false) n = n
 | 0, _ => rfl
 | n + 1, h => by
   have : n < m := by omega
   simp [unlisted, unlisted_all m n (by omega), this]
theorem adraw_ok (hT : TypesOk P C) (hM : P.follows .mixedOrders = true) (hc : CallsOk P C B q call) {id : Nat} {ops : Array Oper} (hok : drawOk C nt ops.toList = true) {β : Type} {k : Fr → AH → Option β} {fr : Fr} {h : AH} {r : β}
   (hk : adraw C q call ops.toList (clsGo ops.toList []) (effsOf C ops.toList) k 0 ops.toList [] [] fr h = some r) :
   ∃ fr' h', k fr' h' = some r ∧ ∀ (Q : Exit → Act → World → Prop) (μ : Mu) (w : World) (a : Act), Rel P C B nt μ fr h a w →
     (∀ μ' a' w', μ.le μ' → Rel P C B nt μ' fr' h' a' w' → Below B w w' → (q = true → Below w.heap.size w w') → Q .normal a' w') → (Code.region id ops true).wp P Q a w := by
 unfold drawOk at hok
 rw [Bool.and_eq_true] at hok
 have hD := drawOk_of hok.1
 obtain ⟨frN, hs, h1, h2, h3, h4, h5, h6⟩ := adraw_facts (B := B) (frI := fr) hT hc hD ops.toList 0 [] [] fr h (fun _ _ => rfl) rfl (Nat.zero_le _) rfl hk
 refine ⟨frN, hs (effsOf C ops.toList).length, h1, fun Q μ w a hrel hK => wp_region_any hM ?_⟩
 have hb : Below w.heap.size w { w with drawn := w.drawn + 1 } := (Below.refl _ _).drew
 have hrel' := hrel.below hb
 refine draw_any hD hok.2 rfl (fun i o hi => h5 i o (Nat.zero_le _) hi) ops.size (Array.replicate ops.size false) μ 0 a { w with drawn := w.drawn + 1 } (by simpa using unlisted_all ops.size ops.size (Nat.le_refl _)) ?_ fun μ' a' w' g1 g2 g3 g4 => ?_
 · refine ⟨?_, hrel'.glob, hrel'.defers, hrel'.size, fun t ht => ?_, fun t _ => hrel'.slots t, by simp, fun i o hi hl j hj => ?_, fun k i hki => ?_, Nat.zero_le _⟩
   · have : hs 0 = h := h3
     rw [this]; exact hrel'.heap
   · rw [h4 t fun o ho hd => ?_]
     · exact hrel'.slots t
     · obtain ⟨n, hn⟩ := List.mem_iff_getElem?.1 ho
       have := ht n o hn hd
       have hlt := (List.getElem?_eq_some_iff.1 hn).1
       simp at hlt
       simp [hlt] at this
   · have hlt := (List.getElem?_eq_some_iff.1 hi).1
     simp at hlt
     simp [hlt] at hl
   · have hlt : i < ops.toList.length := List.mem_range.1 (List.mem_filter.1 (List.mem_of_getElem? hki)).1
     simp at hlt
     simp [hlt]
 · refine hK μ' a' w' g1 g2 ((hb.mono hrel.heap.base).trans g3) fun hq => Below.trans_size hb (g4 hq)
end
end Go.Proofs.YtjagkijfngokaaaGreatDoor
