/-
 Calls: in the model as the abstract machine says.
-/
import Derived.Test.YtjagkijfngokaaaGreatDoorBm17
import Derived.Test.YtjagkijfngokaaaGreatDoorBm30
import Derived.Conc.MuLone
namespace Go.Proofs.YtjagkijfngokaaaGreatDoor
open Go.RowKit Go.MuLone
section
variable {P : Program} {C : Ctx} {B : Nat} {q : Bool}
def ExtOk (P : Program) (C : Ctx) (B : Nat) (q : Bool) : Prop := CallsOk P C B q fun f args h => match C.ext f with
 | some g => bif q && C.wr f then none else g args h
 | none => none
theorem inSlots_get : ∀ (args : List AV) (j i : Nat), (inSlots args j).get i = if j ≤ i then (match args[i - j]? with | some u => u | none => .bot) else .bot
 | [], j, i => by simp [inSlots, Fr.get]
 | u :: args, j, i => by
   have ih := inSlots_get args (j + 1) i
   simp only [inSlots, Fr.get, Bool.cond_eq_ite, nbeq, ih]
   by_cases h : j = i
   · subst h; simp
   · rw [if_neg h]
     by_cases h2 : j ≤ i
     · have e : i - j = (i - (j + 1)) + 1 := by omega
       rw [if_pos (show j + 1 ≤ i by omega), if_pos h2, e, List.getElem?_cons_succ]
     · rw [if_neg (show ¬ j + 1 ≤ i by omega), if_neg h2]
def readRes (tmps : Array Value) : ResultVar → Sem Value
 | .tmp t => pure (tmps.getD t undef)
 | .cell a t => do loadVar t (← asAddr (tmps.getD a undef))
theorem readOne (hT : TypesOk P C) {μ : Mu} {nt : Nat} {fr : Fr} {h : AH} {a : Act} {w : World} (hr : Rel P C B nt μ fr h a w) {r : ResultVar} {u : AV} (hu : ares C h fr r = some u) :
   ∃ x, (readRes a.tmps r).run P w = .ok x w ∧ VRel μ u x := by
 cases r with
 | tmp t =>
   simp [ares] at hu
   subst hu
   exact ⟨a.tmps.getD t undef, rfl, hr.slots t⟩
 | cell s t =>
   simp only [ares] at hu
   split at hu
   · rename_i p hp
     obtain ⟨v, h1, h2⟩ := load_ok (P := P) (B := B) hT hu
     simp at h1
     subst h1
     have hv := hr.slots s
     rw [hp] at hv
     obtain ⟨x, h3, h4⟩ := h2 μ w _ hr.heap hv
     refine ⟨x, ?_, h4⟩
     rw [← h3]
     simp only [readRes, Instr.loadAt]
     generalize a.tmps.getD s undef = y at hv h3
     cases hv with
     | nilptr => simp [Instr.loadAt, Instr.sureAddr, stuck] at h3; try cases h3
     | ptr _ _ _ _ => rfl
     | fp => rfl
   · cases hu
theorem readAll (hT : TypesOk P C) {μ : Mu} {nt : Nat} {fr : Fr} {h : AH} {a : Act} {w : World} (hr : Rel P C B nt μ fr h a w) : ∀ (l : List ResultVar) (us : List AV), l.mapM (ares C h fr) = some us →
   ∃ xs : List Value, (l.mapM (readRes a.tmps)).run P w = .ok xs w ∧ us.length = xs.length ∧ ∀ (i : Nat) u x, us[i]? = some u → xs[i]? = some x → VRel μ u x
 | [], us, hus => by
   simp at hus
   subst hus
   exact ⟨[], by simp, rfl, fun i u x hu => by simp at hu⟩
 | r :: l, us, hus => by
   rw [List.mapM_cons] at hus
   cases h0 : ares C h fr r with
   | none => rw [h0] at hus; simp at hus
   | some u0 =>
     cases hl : l.mapM (ares C h fr) with
     | none => rw [h0, hl] at hus; simp at hus
     | some us' =>
       rw [h0, hl] at hus
       simp at hus
       subst hus
       obtain ⟨x0, g1, g2⟩ := readOne hT hr h0
       obtain ⟨xs, h1, h2, h3⟩ := readAll hT hr l us' hl
       refine ⟨x0 :: xs, ?_, by simp [h2], ?_⟩
       · simp only [List.mapM_cons, Sem.run_bind, g1, Result.andThen_ok, h1]
         rfl
       · intro i u x hu hx
         cases i with
         | zero => simp at hu hx; subst hu; subst hx; exact g2
         | succ i => exact h3 i u x (by simpa using hu) (by simpa using hx)
theorem results_ok (hT : TypesOk P C) {μ : Mu} {nt : Nat} {fr : Fr} {h : AH} {a : Act} {w : World} {fn : Func} {v : AV} (hr : Rel P C B nt μ fr h a w) (hv : aresults C fr h fn.results.toList = some v) :
   ∃ x, (results fn a.tmps).run P w = .ok x w ∧ VRel μ v x := by
 have e : results fn a.tmps = (do
     let vs ← fn.results.mapM (readRes a.tmps)
     pure (if h : vs.size = 1 then vs[0] else .tuple vs)) := by
   unfold results
   congr 2
 rw [e, Array.mapM_eq_mapM_toList]
 have hv2 : (∃ r, fn.results.toList = [r] ∧ ares C h fr r = some v) ∨ ((∀ r, fn.results.toList ≠ [r]) ∧ (fn.results.toList.mapM (ares C h fr)).map AV.tup = some v) := by
   unfold aresults at hv
   split at hv
   · rename_i r ht
     exact .inl ⟨r, ht, hv⟩
   · rename_i hne
     exact .inr ⟨hne, hv⟩
 rcases hv2 with ⟨r, ht, hv⟩ | ⟨hne, hv⟩
 · rw [ht]
   obtain ⟨x, h1, h2⟩ := readOne hT hr hv
   exact ⟨x, by simp [h1], h2⟩
 · cases hus : fn.results.toList.mapM (ares C h fr) with
   | none => rw [hus] at hv; cases hv
   | some us =>
     rw [hus] at hv
     simp at hv
     subst hv
     obtain ⟨xs, h1, h2, h3⟩ := readAll hT hr _ us hus
     have hlen : us.length = fn.results.toList.length := by
       have : ∀ (l : List ResultVar) (us : List AV), l.mapM (ares C h fr) = some us → us.length = l.length := by
         intro l
         induction l with
         | nil => intro us h; simp at h; subst h; rfl
         | cons r l ih =>
           intro us h
           rw [List.mapM_cons] at h
           cases h1 : ares C _ fr r with
           | none => rw [h1] at h; simp at h
           | some u =>
             cases h2 : l.mapM (ares C _ fr) with
             | none => rw [h1, h2] at h; simp at h
             | some us' => rw [h1, h2] at h; simp at h; subst h; simp [ih us' h2]
       exact this _ _ hus
     have hn1 : xs.length ≠ 1 := by
       intro h4
       have h5 : fn.results.toList.length = 1 := by omega
       obtain ⟨r, hr1⟩ := List.length_eq_one_iff.1 h5
       exact hne r hr1
     refine ⟨.tuple xs.toArray, by simp [h1, hn1], .tup (by simpa using h2) fun i u x hu hx => h3 i u x hu (by simpa using hx)⟩
theorem VRel.wk {μ : Mu} {v : AV} {x : Value} (h : VRel μ v x) : VRel μ v.wk x := by
 unfold AV.wk
 split
 · split
   · cases h; exact .lst0 (fun _ => rfl) fun _ => rfl
   · exact h
 · exact h
theorem abody_ok (hT : TypesOk P C) (hF : FunsOk P C) (hM : P.follows .mixedOrders = true) {call callq : CallF} (ih : CallsOk P C B q call) (iht : CallsOk P C B true callq) : CallsOk P C B q (abody C q call callq) := by
     intro f args h v h' hk
     have hT : TypesOk P (C.at f) := ⟨hT.ok⟩
     have hF : FunsOk P (C.at f) := hF
     have ih : CallsOk P (C.at f) B q call := ih
     have iht : CallsOk P (C.at f) B true callq := iht
     unfold abody at hk
     cases hfun : C.funs f with
     | none => rw [hfun] at hk; cases hk
     | some p =>
       obtain ⟨fn, an⟩ := p
       simp only [hfun] at hk
       cases hbody : fn.body with
       | none => rw [hbody] at hk; cases hk
       | some c =>
         simp only [hbody] at hk
         rw [Bool.cond_eq_ite] at hk
         split at hk
         case isFalse => cases hk
         rename_i hle
         rw [Nat.ble_eq] at hle
         obtain ⟨e, fr', h1, hk1, hrun⟩ := (aexec_ok (nt := fn.ntmps) hT hF hM ih iht c an).go _ h _ _ hk
         obtain ⟨hf, hname⟩ := hF f fn an hfun
         intro μ w xs hr hg hlen hxs o a K Q hK
         rw [run_callFunc_enter hf hname hbody]
         simp only [Oper.upon]
         refine calls_of_wp hf hbody ?_
         have hsize : (xs ++ Array.replicate (fn.ntmps - xs.size) undef).size = fn.ntmps := by simp; omega
         have hrel : Rel P (C.at f) B fn.ntmps μ (inSlots args 0) h { tmps := xs ++ Array.replicate (fn.ntmps - xs.size) undef, defers := [] } w := by
           refine ⟨hr, fun i => ?_, rfl, by rw [hsize]; exact Nat.le_refl _, hg⟩
           rw [inSlots_get, if_pos (Nat.zero_le _), Nat.sub_zero]
           cases hi : args[i]? with
           | none => exact .bot
           | some u =>
             have hi2 : i < xs.size := by have := (List.getElem?_eq_some_iff.1 hi).1; omega
             refine hxs i u _ hi ?_
             rw [Array.getD_eq_getD_getElem?, Array.getElem?_append_left hi2]
             simp [hi2]
         refine hrun _ μ w _ hrel fun μ' a' w' e1 e2 e3 e4 => ?_
         have fin : aresults C fr' h1 fn.results.toList = some v → h1 = h' → a'.defers = [] ∧ ∃ y, (results fn a'.tmps).run P w' = .ok y w' ∧ K (a.put o.dst y) w' := by
           intro hv he
           subst he
           obtain ⟨y, hy, hvy⟩ := results_ok hT e2 hv
           exact ⟨e2.defers, y, hy, hK y w' ⟨μ', e1, hvy, e2.heap, e3, e4⟩⟩
         cases e with
         | exit i => simp at hk1
         | normal =>
           simp only [Option.map_eq_some_iff, Prod.mk.injEq] at hk1
           obtain ⟨v1, h2, rfl, rfl⟩ := hk1
           exact fin h2 rfl
         | ret =>
           simp only [Option.map_eq_some_iff, Prod.mk.injEq] at hk1
           obtain ⟨v1, h2, rfl, rfl⟩ := hk1
           exact fin h2 rfl
theorem acall_ok (hT : TypesOk P C) (hF : FunsOk P C) (hM : P.follows .mixedOrders = true) (hX : ∀ B q, ExtOk P C B q) : ∀ (d : Nat) (q : Bool) (B : Nat), CallsOk P C B q (acall C q d)
 | 0, q, B => fun f args h v h' hk => hX B q f args h v h' hk
 | d + 1, q, B => by
   have ih := acall_ok hT hF hM hX d
   intro f args h v h' hk
   cases hext : C.ext f with
   | some g =>
     refine hX B q f args h v h' ?_
     simp only [acall, hext] at hk
     simp only [hext]
     exact hk
   | none =>
     simp only [acall, hext] at hk
     rw [Bool.cond_eq_ite] at hk
     split at hk
     case isFalse =>
       rw [Bool.cond_eq_ite] at hk
       split at hk
       · rename_i hs
         rw [Bool.and_eq_true] at hs
         obtain ⟨c0, rfl⟩ : ∃ c0, args = [.slice (.lst 0 c0 [])] := by
           have h1 := hs.2
           unfold oneEmpty at h1
           split at h1
           · rename_i u
             split at h1
             · rename_i s
               split at h1
               · rename_i n c cs
                 simp only [Bool.and_eq_true, nbeq, List.isEmpty_iff] at h1
                 obtain ⟨rfl, rfl⟩ := h1
                 exact ⟨c, rfl⟩
               · cases h1
             · cases h1
           · cases h1
         unfold split2 at hk
         cases hb1 : abody C q (acall C q d) (acall C true d) f [.slice .nil] h with
         | none => rw [hb1] at hk; cases hk
         | some p1 =>
           cases hb2 : abody C q (acall C q d) (acall C true d) f [.empty] h with
           | none => rw [hb1, hb2] at hk; cases hk
           | some p2 =>
             rw [hb1, hb2, o_bd, o_bd] at hk
             split at hk
             case isFalse => cases hk
             rename_i heq
             cases hk
             intro μ w xs hr hg hlen hxs
             obtain ⟨x0, rfl⟩ : ∃ x0, xs = #[x0] := by
               obtain ⟨l⟩ := xs
               match l, hlen with
               | [a], _ => exact ⟨a, rfl⟩
             have v0 := hxs 0 _ x0 rfl rfl
             have one : ∀ (u : AV), VRel μ u x0 → ∀ (i : Nat) u' x, [u][i]? = some u' → #[x0][i]? = some x → VRel μ u' x := by
               intro u hu i u' x h1 h2
               cases i with
               | zero => simp at h1 h2; subst h1; subst h2; exact hu
               | succ i => simp at h1
             have key : (VRel μ (.slice .nil) x0) ∨ VRel μ .empty x0 := by
               cases v0 with
               | @lst0 _ cap a q1 q2 => cases a with
                 | none => left; rw [q2 rfl]; exact .nilslice
                 | some a => right; exact .empty
               | lst => right; exact .empty
             rcases key with hn | hn
             · have hc := abody_ok hT hF hM (ih q B) (ih true B) f _ h p1.1 p1.2 hb1 μ w #[x0] hr hg rfl (one _ hn)
               intro o a K Q hK
               refine hc o a K Q fun x w' ⟨μ', e1, e2, e3⟩ => hK x w' ⟨μ', e1, e2.wk, e3⟩
             · have hc := abody_ok hT hF hM (ih q B) (ih true B) f _ h p2.1 p2.2 hb2 μ w #[x0] hr hg rfl (one _ hn)
               rw [heq.1, heq.2]
               intro o a K Q hK
               refine hc o a K Q fun x w' ⟨μ', e1, e2, e3⟩ => hK x w' ⟨μ', e1, e2.wk, e3⟩
       · exact abody_ok hT hF hM (ih q B) (ih true B) f args h v h' hk
     split at hk
     case h_2 =>
       split at hk
       case h_2 => exact abody_ok hT hF hM (ih q B) (ih true B) f args h v h' hk
       rename_i us hus
       unfold afreeze at hk
       cases hb : abody C false (acall C false d) (acall C true d) f us AH.none with
       | none => rw [hb] at hk; cases hk
       | some p =>
         obtain ⟨v1, h1⟩ := p
         rw [hb, o_bd] at hk
         cases hfr : freezeV h1 8 v1 with
         | none => rw [hfr] at hk; cases hk
         | some u =>
           rw [hfr, o_bd, Bool.cond_eq_ite] at hk
           intro μ w xs hr hg hlen hxs
           obtain ⟨hl1, hl2⟩ := mapM_get hus
           split at hk
           · rename_i hfl
             cases hk
             have hcall := abody_ok hT hF hM (ih false w.heap.size) (ih true w.heap.size) f us AH.none v1 h1 hb _ w xs hr.now
               (fun g v hgv => ⟨(hg g v hgv).1, VRel.closed (μ := μ) (μ' := Mu.now w μ.tok w.heap.size) (fun b arr hba => by
                 obtain ⟨⟨e, fz, h9⟩, _⟩ := hr.fz.frz b arr hba
                 simp [Mu.now, World.cellsOf, h9]) rfl (hg g v hgv).2 (hg g v hgv).1⟩) (by rw [hl1]; exact hlen)
               (fun i u x hu hx => by
                 have hi : i < args.length := by rw [← hl1]; exact (List.getElem?_eq_some_iff.1 hu).1
                 exact view_ok hr _ 8 (hl2 i _ u (List.getElem?_eq_getElem hi) hu) (hxs i _ x (List.getElem?_eq_getElem hi) hx))
             intro o a K Q hK
             refine hcall o a K Q fun x w' ⟨μ1, e1, e2, e3, e4, _⟩ => ?_
             obtain ⟨g1, g2⟩ := bare_flat hr e1 e3 e4 e2 hfr hfl
             exact hK x w' ⟨μ, μ.le_refl, g1, g2, e4.mono hr.base, fun _ => e4⟩
           · rw [Bool.cond_eq_ite] at hk
             split at hk
             · cases hk
             rename_i hq
             cases hk
             obtain ⟨hmle, hr2, hm3⟩ := hr.mark' (args.flatMap (reachV h 8))
             obtain ⟨hr0, hfin⟩ := bare_ok hr2
             have hg2 := hg.mono hmle
             have hcall := abody_ok hT hF hM (ih false w.heap.size) (ih true w.heap.size) f us AH.none v1 h1 hb _ w xs hr0
               (fun g v hgv => ⟨(hg2 g v hgv).1, VRel.closed (μ := μ.stillRows (args.flatMap (reachV h 8)) w) (μ' := { rows := [], maps := [], frz := (μ.stillRows (args.flatMap (reachV h 8)) w).frz, tok := μ.tok, lim := w.heap.size }) (fun _ _ h => h) rfl (hg2 g v hgv).2 (hg2 g v hgv).1⟩) (by rw [hl1]; exact hlen)
               (fun i u x hu hx => by
                 have hi : i < args.length := by rw [← hl1]; exact (List.getElem?_eq_some_iff.1 hu).1
                 exact freeze_ok (μ' := { rows := [], maps := [], frz := (μ.stillRows (args.flatMap (reachV h 8)) w).frz, tok := μ.tok, lim := w.heap.size }) hr (fun b arr hba => hmle.frz b arr hba) rfl (S := fun j => j ∈ args.flatMap (reachV h 8))
                   (fun j jj row g gj c e fz hj hjj hrow hgj hbk => hm3 j jj row g gj c e fz hj hjj hrow hgj hbk) 8 (hl2 i _ u (List.getElem?_eq_getElem hi) hu)
                   (fun j hj => List.mem_flatMap.2 ⟨_, List.getElem_mem hi, hj⟩) (hxs i _ x (List.getElem?_eq_getElem hi) hx))
             intro o a K Q hK
             refine hcall o a K Q fun x w' ⟨μ1, e1, e2, e3, e4, _⟩ => ?_
             obtain ⟨μ', g1, g2, g3⟩ := hfin e1 e3 e4 e2 hfr
             exact hK x w' ⟨μ', Mu.le_trans hmle g1, g2, g3, e4.mono hr.base, fun h9 => absurd h9 hq⟩
     rename_i as has
     simp only [Option.map_eq_some_iff, Prod.mk.injEq] at hk
     obtain ⟨v2, hk, rfl, rfl⟩ := hk
     unfold afreeze at hk
     cases hb : abody C false (acall C false d) (acall C true d) f as AH.none with
     | none => rw [hb] at hk; cases hk
     | some p =>
       obtain ⟨v1, h1⟩ := p
       rw [hb, o_bd] at hk
       intro μ w xs hr hg hlen hxs
       obtain ⟨hr0, hfin⟩ := bare_ok hr
       obtain ⟨hl1, hl2⟩ := mapM_get has
       have hcall := abody_ok hT hF hM (ih false w.heap.size) (ih true w.heap.size) f as AH.none v1 h1 hb _ w xs hr0
         (fun g v hgv => ⟨(hg g v hgv).1, VRel.closed (μ := μ) (μ' := { rows := [], maps := [], frz := μ.frz, tok := μ.tok, lim := w.heap.size }) (fun _ _ h => h) rfl (hg g v hgv).2 (hg g v hgv).1⟩) (by rw [hl1]; exact hlen)
         (fun i u x hu hx => by
           have hi : i < args.length := by rw [← hl1]; exact (List.getElem?_eq_some_iff.1 hu).1
           exact canon_ok (μ := μ) (μ' := { rows := [], maps := [], frz := μ.frz, tok := μ.tok, lim := w.heap.size }) (fun _ _ h => h) rfl 8 (hl2 i _ u (List.getElem?_eq_getElem hi) hu) (hxs i _ x (List.getElem?_eq_getElem hi) hx))
       intro o a K Q hK
       refine hcall o a K Q fun x w' ⟨μ1, e1, e2, e3, e4, _⟩ => ?_
       obtain ⟨μ', g1, g2, g3⟩ := hfin e1 e3 e4 e2 hk
       exact hK x w' ⟨μ', g1, g2, g3, e4.mono hr.base, fun _ => e4⟩
end
end Go.Proofs.YtjagkijfngokaaaGreatDoor
