/-
 Regions: in the model as the abstract machine says.
-/
import Derived.Test.YtjagkijfngokaaaGreatDoorBm11
namespace Go.Proofs.YtjagkijfngokaaaGreatDoor
open Go.RowKit
def CallRes (P : Program) (f : FuncId) (xs : Array Value) (w : World) (post : Value → World → Prop) : Prop :=
 ∀ (o : Oper) (a : Act) (K : Act → World → Prop) (Q : Exit → Act → World → Prop), (∀ x w', post x w' → K (a.put o.dst x) w') → o.upon P a K Q ((callFunc f xs).run P w)
def GlobOk (C : Ctx) (μ : Mu) : Prop := ∀ g v, C.glob g = some v → v.closed = true ∧ VRel μ v (.pointer (some ⟨g, 0, none⟩))
theorem GlobOk.mono {C : Ctx} {μ μ' : Mu} (h : GlobOk C μ) (hle : μ.le μ') : GlobOk C μ' := fun g v hg => ⟨(h g v hg).1, (h g v hg).2.mono hle⟩
def CallsOk (P : Program) (C : Ctx) (B : Nat) (q : Bool) (call : CallF) : Prop :=
 ∀ f args h v h', call f args h = some (v, h') → ∀ (μ : Mu) (w : World) (xs : Array Value), HRel μ B h w → GlobOk C μ → args.length = xs.size → (∀ (i : Nat) u x, args[i]? = some u → xs[i]? = some x → VRel μ u x) →
   CallRes P f xs w fun x w' => ∃ μ', μ.le μ' ∧ VRel μ' v x ∧ HRel μ' B h' w' ∧ Below B w w' ∧ (q = true → Below w.heap.size w w')
section
variable {P : Program} {C : Ctx} {B : Nat} {q : Bool} {h : AH} {μ : Mu} {w : World} {v : AV}
def OpWp (P : Program) (C : Ctx) (B : Nat) (q : Bool) (ev : Operand → AV) (h : AH) (o : Oper) (v : AV) (h' : AH) : Prop :=
 ∀ (μ : Mu) (w : World) (a : Act) (K : Act → World → Prop) (Q : Exit → Act → World → Prop), HRel μ B h w → GlobOk C μ → (∀ x, VRel μ (ev x) (a.eval x)) →
   (∀ μ' x w', μ.le μ' → VRel μ' v x → HRel μ' B h' w' → Below B w w' → (q = true → Below w.heap.size w w') → K (a.put o.dst x) w') → o.wp P a w K Q
theorem OpOk.wp {ev : Operand → AV} {o : Oper} {h' : AH} (ho : OpOk P B q ev h o v h') : OpWp P C B q ev h o v h' := by
 intro μ w a K Q hr _ hev hK
 obtain ⟨μ', w', n, hle, hrun, hv, hr', hb, hb'⟩ := ho μ w a hr hev
 unfold Oper.wp
 rw [hrun]
 cases n with
 | value x => exact hK μ' x w' hle hv hr' hb hb'
 | skip => exact hK μ' undef w' hle hv hr' hb hb'
 | _ => exact hv.elim
theorem chkFrom_inv {β : Type} {v : AV} : ∀ {ts : List ATy} {i : Nat} {acc : List AV} {k : List AV → Option β} {r : β}, chkFrom v ts i acc k = some r → (∀ us, v = .tup us → us.take i = acc.reverse → i ≤ us.length → k (us.take (i + ts.length)) = some r ∧ i + ts.length ≤ us.length) ∧ (ts ≠ [] → ∃ us, v = .tup us)
 | [], i, acc, k, r, h => by
   simp only [chkFrom] at h
   refine ⟨fun us hv ha hi => ⟨by simpa [ha] using h, by simpa using hi⟩, fun hn => absurd rfl hn⟩
 | t :: ts, i, acc, k, r, h => by
   simp only [chkFrom] at h
   cases hc : v.comp i with
   | none => rw [hc] at h; cases h
   | some u =>
     rw [hc, o_bd] at h
     have h2 := chk1_inv h
     obtain ⟨i1, _⟩ := chkFrom_inv h2
     have hvt : ∃ us, v = .tup us ∧ us[i]? = some u := by
       cases v <;> simp [AV.comp] at hc
       exact ⟨_, rfl, hc⟩
     obtain ⟨us, hus, hui⟩ := hvt
     refine ⟨fun us' hv ha hi => ?_, fun _ => ⟨us, hus⟩⟩
     rw [hus] at hv
     cases hv
     have hlt := (List.getElem?_eq_some_iff.1 hui).1
     have := i1 us hus (by rw [List.take_succ_eq_append_getElem hlt, ha]; simp [(List.getElem?_eq_some_iff.1 hui).2]) (by omega)
     simpa [Nat.add_assoc, Nat.add_comm 1 ts.length] using this
theorem chk_inv {β : Type} {t : ATy} {v : AV} {k : AV → Option β} {r : β} (h : chk t v k = some r) : k v = some r ∨ k .bot = some r := by
 unfold chk at h
 split at h
 · exact .inr h
 · rename_i ts hne
   rw [Bool.cond_eq_ite] at h
   split at h
   case isFalse => cases h
   rename_i ht
   obtain ⟨h1, h2⟩ := chkFrom_inv h
   obtain ⟨us, rfl⟩ := h2 (fun e => hne e)
   simp only [AV.isTup, nbeq] at ht
   obtain ⟨h3, h4⟩ := h1 us rfl rfl (Nat.zero_le _)
   rw [Nat.zero_add, ← ht, List.take_length] at h3
   exact .inl h3
 · exact .inl (chk1_inv h)
theorem closedL_mem : ∀ {l : List AV}, closedL l = true ↔ ∀ v ∈ l, v.closed = true
 | [] => by simp [closedL]
 | v :: l => by simp [closedL, closedL_mem (l := l)]
theorem fixV_ok (hr : HRel μ B h w) {v : AV} {x : Value} (hv : VRel μ v x) : ∃ μ', μ.le μ' ∧ HRel μ' B (h.fixV v).2 w ∧ VRel μ' (h.fixV v).1 x := by
 have same : ∀ {u : AV}, VRel μ u x → ∃ μ', μ.le μ' ∧ HRel μ' B h w ∧ VRel μ' u x := fun hu => ⟨μ, μ.le_refl, hr, hu⟩
 unfold AH.fixV
 split
 · rename_i s
   split
   · cases hv
     exact same (.lst0 (fun h => by cases h) fun _ => rfl)
   · cases hv with
     | lst h1 h2 h3 h4 h5 h6 h7 => exact same (.lst h1 h2 h3 (fun h => by cases h) h5 h6 h7)
     | lst0 h1 h2 => exact same (.lst0 (fun h => by cases h) h2)
   · rename_i r n c
     rw [Bool.cond_eq_ite]
     split
     · rename_i h0
       rw [nbeq] at h0
       subst h0
       cases hv with
       | slice => exact same (.lst0 (fun h => by cases h) fun h => by cases h)
       | noslice => exact same (.lst0 (fun h => by cases h) fun h => by cases h)
     · rename_i h0
       rw [nbeq] at h0
       split
       · exact same hv
       rename_i row hrow
       rw [Bool.cond_eq_ite]
       split
       · exact same hv
       rename_i hro
       rw [Bool.not_eq_true] at hro
       split
       · exact same hv
       rename_i cs hcs
       rw [Bool.cond_eq_ite]
       split
       case isFalse => exact same hv
       rename_i hcl
       cases hv with
       | noslice => exact absurd rfl h0
       | @slice _ _ _ ii gi a cap k1 k2 k3 k4 k5 k6 k7 =>
         have hsz := (hr.row _ _ _ k1 hrow).sz
         rw [hsz] at k6
         rcases k7 with h9 | ⟨rfl, _⟩
         · omega
         have hspan : h.span r (n * row.sz) = some cs := by
           simp only [AH.sliceCells, Bool.cond_eq_ite, hrow] at hcs
           rw [if_neg (by rw [nbeq]; exact h0), if_pos (Nat.beq_refl _)] at hcs
           exact hcs
         unfold AH.span at hspan
         cases hlv : h.live r with
         | none => rw [hlv] at hspan; cases hspan
         | some row0 =>
           rw [hlv, o_bd, Bool.cond_eq_ite] at hspan
           split at hspan
           case isFalse => cases hspan
           rename_i hle
           rw [nble] at hle
           cases hspan
           obtain ⟨row', c, e, fz, g1, g2, g3, g4, g5, g6, g7, g8, g9⟩ := hr.live k1 k2 hlv
           obtain ⟨μ2, hmle, hr', hfrz⟩ := hr.fix k1 hrow k2 g5
           refine ⟨_, hmle, hr', .lst (arr := c) (by simpa [GenInfo.spot] using hfrz) rfl k4 (fun h => by cases h) (fun _ => ?_) (fun i v d hi hd => ?_) fun i d hi hd => ?_⟩
           · simp only [GenInfo.spot]
             rw [g6]
             simp
             omega
           · have hin : i < n * row.sz := by
               have := (List.getElem?_eq_some_iff.1 hi).1
               simp at this
               omega
             rw [List.getElem?_take, if_pos hin, List.getElem?_drop] at hi
             obtain ⟨y, y1, y2, y3⟩ := g9 (r.off + i) _ (by omega) (by omega) hi
             simp only [GenInfo.spot] at hd
             have e9 : gi.off + (r.off - gi.lo) + i = gi.off + (r.off + i - gi.lo) := by omega
             rw [e9, y1] at hd
             cases hd
             exact y2.mono hmle
           · have hin : i < n * row.sz ∧ r.off + i < row0.length := by
               simp at hi
               omega
             obtain ⟨y, y1, y2, y3⟩ := g9 (r.off + i) _ (by omega) (by omega) (List.getElem?_eq_getElem hin.2)
             simp only [GenInfo.spot] at hd
             have e9 : gi.off + (r.off - gi.lo) + i = gi.off + (r.off + i - gi.lo) := by omega
             rw [e9, y1] at hd
             cases hd
             exact y3
 · exact same hv
theorem fixL_ok : ∀ {xs : List AV} {ds : List Value} {μ : Mu} {h : AH}, HRel μ B h w → CRel1 μ xs ds → ∃ μ', μ.le μ' ∧ HRel μ' B (h.fixL xs).2 w ∧ CRel1 μ' (h.fixL xs).1 ds
 | [], ds, μ, h, hr, hc => ⟨μ, μ.le_refl, hr, hc⟩
 | v :: xs, [], μ, h, hr, hc => by have := hc.1.1; simp at this
 | v :: xs, d :: ds, μ, h, hr, hc => by
   have h0 := hc.1.2 0 v d rfl rfl
   obtain ⟨μ1, l1, r1, v1⟩ := fixV_ok hr h0
   obtain ⟨μ2, l2, r2, v2⟩ := fixL_ok (xs := xs) (ds := ds) r1 ((hc.drop 1).mono l1)
   refine ⟨μ2, Mu.le_trans l1 l2, r2, ⟨by have := v2.1.1; simpa [AH.fixL] using this, fun i c e hc' he => ?_⟩, fun e he => hc.2 e he⟩
   cases i with
   | zero =>
     simp [AH.fixL] at hc' he
     subst hc'; subst he
     exact v1.mono l2
   | succ i => exact v2.1.2 i c e (by simpa [AH.fixL] using hc') (by simpa using he)
theorem builtin_call {o : Oper} {c : Call} {b : Builtin} (ho : o.op = .call c) (hb : c.callee = .builtin b) (a : Act) :
   execOp a.eval o = builtin b c.argTypes o.type (c.args.map fun | .const _ => true | _ => false) (c.args.map a.eval) := by
 unfold execOp
 rw [ho]
 simp only [resolve, hb]
 rfl
theorem abuiltin_ok (hT : TypesOk P C) {β : Type} {ev : Operand → AV} (o : Oper) {c : Call} {b : Builtin} (ho : o.op = .call c) (hb : c.callee = .builtin b) {k : K β} {r : β}
   (hk : abuiltin C q ev b c.args.toList c.argTypes.toList h k = some r) :
   ∃ v h', k v h' = some r ∧ OpOk P B q ev h o v h' := by
 have hex := builtin_call ho hb
 obtain ⟨callee, args, ats⟩ := c
 simp only at hb hk hex
 subst hb
 unfold abuiltin at hk
 split at hk
 ·
   rename_i x ha
   have hargs : args = #[x] := by apply Array.ext'; exact ha
   subst hargs
   split at hk
   · rename_i s t ts he hts
     have hat : ats[0]? = some t := by rw [← Array.getElem?_toList, hts]; rfl
     split at hk
     · rename_i hty
       obtain ⟨i, hi, hiy⟩ := Ctx.ty_info hty (by simp)
       refine ⟨_, _, hk, fun μ w a hr hev => ?_⟩
       have h1 := hev x
       rw [he] at h1
       obtain ⟨a1, l, cap, hv⟩ : ∃ a1 l c, a.eval x = .slice a1 l c := by generalize a.eval x = y at h1; cases h1 <;> exact ⟨_, _, _, rfl⟩
       rw [hv] at h1
       have hl : l = s.len := by cases h1 <;> rfl
       refine OpRes.same (x := .int .i64 (s.len : Nat)) hr ?_ .int
       rw [hex]
       simp [builtin, Builtin.len_, hat, run_underlying (hT.slice hi hiy), hv, hl, goInt]
     · cases hk
   · rename_i s t ts he hts
     have hat : ats[0]? = some t := by rw [← Array.getElem?_toList, hts]; rfl
     split at hk
     · rename_i hty
       obtain ⟨i, hi, hiy⟩ := Ctx.ty_info hty (by simp)
       refine ⟨_, _, hk, fun μ w a hr hev => ?_⟩
       have h1 := hev x
       rw [he] at h1
       refine OpRes.same (x := .int .i64 (s.size : Nat)) hr ?_ .int
       rw [hex]
       simp [builtin, Builtin.len_, hat, run_underlying (hT.str hi hiy), h1.str_inv, goInt]
     · cases hk
   · split at hk
     · rename_i t ts hts _ _ _ i hi
       have hat : ats[0]? = some t := by rw [← Array.getElem?_toList, hts]; rfl
       rw [Bool.cond_eq_ite] at hk
       split at hk
       case isFalse => cases hk
       rename_i hc
       simp only [Bool.and_eq_true, Bool.not_eq_true', nbeq_false] at hc
       rcases hT.agg hi (ATy.isAgg_eq hc.1) with ⟨_, _, _, h9⟩ | ⟨hu, _⟩
       · exact absurd h9 hc.2
       refine ⟨_, _, hk, fun μ w a hr hev => ?_⟩
       refine OpRes.same (x := .int .i64 (i.len : Nat)) hr ?_ .int
       rw [hex]
       simp [builtin, Builtin.len_, hat, run_underlying hu, goInt]
     · cases hk
   · cases hk
 ·
   rename_i x y ha
   have hargs : args = #[x, y] := by apply Array.ext'; exact ha
   subst hargs
   split at hk
   · rename_i v hv
     refine ⟨_, _, hk, fun μ w a hr hev => ?_⟩
     obtain ⟨u, h1, h2⟩ := max_ok (P := P) (w := w) hv (hev x) (hev y) ats o.type
     refine OpRes.same (x := u) hr ?_ h2
     rw [hex]
     have := run_value (P := P) (w := w) h1
     simpa [builtin] using this
   · cases hk
 ·
   rename_i x y ha
   have hargs : args = #[x, y] := by apply Array.ext'; exact ha
   subst hargs
   split at hk
   · rename_i v hv
     refine ⟨_, _, hk, fun μ w a hr hev => ?_⟩
     obtain ⟨u, h1, h2⟩ := min_ok (P := P) (w := w) hv (hev x) (hev y) ats o.type
     refine OpRes.same (x := u) hr ?_ h2
     rw [hex]
     have := run_value (P := P) (w := w) h1
     simpa [builtin] using this
   · cases hk
 ·
   rename_i x y ha
   have hargs : args = #[x, y] := by apply Array.ext'; exact ha
   subst hargs
   split at hk
   · rename_i s t u he hts
     have hats : ats = #[t, u] := by apply Array.ext'; exact hts
     subst hats
     split at hk
     · rename_i i hi
       split at hk
       · rename_i e hty hee
         rw [Bool.cond_eq_ite] at hk
         split at hk
         case isFalse => cases hk
         rename_i hp
         split at hk
         · rename_i s2 hy hu
           obtain ⟨i2, hi2, hiy2⟩ := Ctx.ty_info hu (by simp)
           cases hx : h.sliceCells e.size s2 with
           | none => rw [hx] at hk; cases hk
           | some xs =>
             rw [hx, o_bd] at hk
             rw [Bool.cond_eq_ite] at hk
             split at hk
             · cases hap : h.appendT q i.elem e.size e.bytes s s2.len xs with
               | none => rw [hap] at hk; cases hk
               | some p =>
                 rw [hap, o_bd] at hk
                 refine ⟨_, _, hk, fun μ w a hr hev => ?_⟩
                 have h1 := hev x
                 have h2 := hev y
                 rw [he] at h1
                 rw [hy] at h2
                 obtain ⟨a1, l1, c1, hv1⟩ : ∃ a1 l c, a.eval y = .slice a1 l c := by generalize a.eval y = z at h2; cases h2 <;> exact ⟨_, _, _, rfl⟩
                 rw [hv1] at h2
                 obtain ⟨news, hsrc, hcr⟩ := Src.slice (P := P) i.elem (hT.slice hi2 hiy2) hr h2 hx
                 obtain ⟨μ', w', z, k1, k2, k3, k4, k5, k6⟩ := appendT_ok (ty := o.type) hT hi hty hee hp hr hsrc hcr h1 hap
                 refine ⟨μ', w', .value z, k1, ?_, k3, k4, k5, k6⟩
                 rw [hex]
                 have := run_value (P := P) (w := w) k2
                 simpa [builtin, hv1] using this
             rw [Bool.cond_eq_ite] at hk
             split at hk
             · cases hap : (h.fixL xs).2.append q e.size e.bytes s s2.len (h.fixL xs).1 with
               | none => rw [hap] at hk; cases hk
               | some p =>
                 rw [hap, o_bd] at hk
                 refine ⟨_, _, hk, fun μ w a hr hev => ?_⟩
                 have h1 := hev x
                 have h2 := hev y
                 rw [he] at h1
                 rw [hy] at h2
                 obtain ⟨a1, l1, c1, hv1⟩ : ∃ a1 l c, a.eval y = .slice a1 l c := by generalize a.eval y = z at h2; cases h2 <;> exact ⟨_, _, _, rfl⟩
                 rw [hv1] at h2
                 obtain ⟨news, hsrc, hcr⟩ := Src.slice (P := P) i.elem (hT.slice hi2 hiy2) hr h2 hx
                 obtain ⟨μ1, q1, q2, q3⟩ := fixL_ok hr hcr
                 obtain ⟨μ', w', z, k1, k2, k3, k4, k5, k6⟩ := append_ok (ty := o.type) hT hi hty hee hp q2 hsrc q3 (h1.mono q1) hap
                 refine ⟨μ', w', .value z, Mu.le_trans q1 k1, ?_, k3, k4, k5, k6⟩
                 rw [hex]
                 have := run_value (P := P) (w := w) k2
                 simpa [builtin, hv1] using this
             cases hap : h.append q e.size e.bytes s s2.len xs with
             | none => rw [hap] at hk; cases hk
             | some p =>
               rw [hap, o_bd] at hk
               refine ⟨_, _, hk, fun μ w a hr hev => ?_⟩
               have h1 := hev x
               have h2 := hev y
               rw [he] at h1
               rw [hy] at h2
               obtain ⟨a1, l1, c1, hv1⟩ : ∃ a1 l c, a.eval y = .slice a1 l c := by generalize a.eval y = z at h2; cases h2 <;> exact ⟨_, _, _, rfl⟩
               rw [hv1] at h2
               obtain ⟨news, hsrc, hcr⟩ := Src.slice (P := P) i.elem (hT.slice hi2 hiy2) hr h2 hx
               obtain ⟨μ', w', z, k1, k2, k3, k4, k5, k6⟩ := append_ok (ty := o.type) hT hi hty hee hp hr hsrc hcr h1 hap
               refine ⟨μ', w', .value z, k1, ?_, k3, k4, k5, k6⟩
               rw [hex]
               have := run_value (P := P) (w := w) k2
               simpa [builtin, hv1] using this
         · rename_i bs hy hu
           obtain ⟨i2, hi2, hiy2⟩ := Ctx.ty_info hu (by simp)
           rw [Bool.cond_eq_ite] at hk
           split at hk
           case isFalse => cases hk
           rename_i h1s
           rw [nbeq] at h1s
           rw [Bool.cond_eq_ite] at hk
           split at hk
           · cases hap : h.appendT q i.elem e.size e.bytes s bs.size (bytesOf bs) with
             | none => rw [hap] at hk; cases hk
             | some p =>
               rw [hap, o_bd] at hk
               refine ⟨_, _, hk, fun μ w a hr hev => ?_⟩
               have h1 := hev x
               have h2 := hev y
               rw [he] at h1
               rw [hy] at h2
               have hsrc := Src.str (P := P) (w := w) i.elem (hT.str hi2 hiy2) bs
               rw [← h1s] at hsrc
               obtain ⟨μ', w', z, k1, k2, k3, k4, k5, k6⟩ := appendT_ok (ty := o.type) hT hi hty hee hp hr hsrc (bytesOf_rel bs) h1 hap
               refine ⟨μ', w', .value z, k1, ?_, k3, k4, k5, k6⟩
               rw [hex]
               have := run_value (P := P) (w := w) k2
               simpa [builtin, h2.str_inv] using this
           · cases hap : h.append q e.size e.bytes s bs.size (bytesOf bs) with
             | none => rw [hap] at hk; cases hk
             | some p =>
               rw [hap, o_bd] at hk
               refine ⟨_, _, hk, fun μ w a hr hev => ?_⟩
               have h1 := hev x
               have h2 := hev y
               rw [he] at h1
               rw [hy] at h2
               have hsrc := Src.str (P := P) (w := w) i.elem (hT.str hi2 hiy2) bs
               rw [← h1s] at hsrc
               obtain ⟨μ', w', z, k1, k2, k3, k4, k5, k6⟩ := append_ok (ty := o.type) hT hi hty hee hp hr hsrc (bytesOf_rel bs) h1 hap
               refine ⟨μ', w', .value z, k1, ?_, k3, k4, k5, k6⟩
               rw [hex]
               have := run_value (P := P) (w := w) k2
               simpa [builtin, h2.str_inv] using this
         · rename_i kd n kd2 hy hu
           obtain ⟨i2, hi2, hiy2⟩ := Ctx.ty_info hu (by simp)
           rw [Bool.cond_eq_ite] at hk
           split at hk
           case isFalse => cases hk
           rename_i hc
           simp only [Bool.and_eq_true, decide_eq_true_eq] at hc
           obtain ⟨⟨c1, c2⟩, c3⟩ := hc
           obtain ⟨m, rfl⟩ : ∃ m : Nat, n = (m : Int) := ⟨n.toNat, by omega⟩
           rw [Int.toNat_natCast] at hk
           cases hap : h.append q e.size e.bytes s m (repeatCells e.zero m) with
           | none => rw [hap] at hk; cases hk
           | some p =>
             rw [hap, o_bd] at hk
             refine ⟨_, _, hk, fun μ w a hr hev => ?_⟩
             have h1 := hev x
             have h2 := hev y
             rw [he] at h1
             rw [hy] at h2
             obtain ⟨j, d, z, hj, hd, hjs, hjb, hne, hz, hzr, hzs, _⟩ := hT.get hee (ATy.one_or_agg hp)
             have hcr := repeat_rel (hzr μ) m
             have hsrc : Src P w u i.elem (.int kd (m : Int)) e.size m (Builtin.zeroCells z.cells m).toList :=
               ⟨.inr ⟨kd2, kd, j, z, hT.int hi2 hiy2, rfl, hj, hz, hne, rfl, by rw [hjb]; rw [← Int.natCast_mul] at c3; omega, by omega⟩, by simp [Builtin.zeroCells, hzs]⟩
             obtain ⟨μ', w', z2, k1, k2, k3, k4, k5, k6⟩ := append_ok (ty := o.type) hT hi hty hee hp hr hsrc hcr h1 hap
             refine ⟨μ', w', .value z2, k1, ?_, k3, k4, k5, k6⟩
             rw [hex]
             have := run_value (P := P) (w := w) k2
             simpa [builtin, h2.int_inv] using this
         · rename_i hy hu
           obtain ⟨i2, hi2, hiy2⟩ := Ctx.ty_info hu (by simp)
           cases hap : h.append q e.size e.bytes s 0 [] with
           | none => rw [hap] at hk; cases hk
           | some p =>
             rw [hap, o_bd] at hk
             refine ⟨_, _, hk, fun μ w a hr hev => ?_⟩
             have h1 := hev x
             have h2 := hev y
             rw [he] at h1
             rw [hy] at h2
             obtain ⟨a1, c1, hv1⟩ : ∃ a1 c, a.eval y = .slice (some a1) 0 c := by generalize a.eval y = z at h2; cases h2; exact ⟨_, _, rfl⟩
             have hsrc : Src P w u i.elem (.slice (some a1) 0 c1) e.size 0 [] := ⟨.inl ⟨.inl ⟨_, hT.slice hi2 hiy2⟩, rfl, run_firstCells_at w (by simp) (by intro j x hx; simp at hx)⟩, by simp⟩
             obtain ⟨μ', w', z, k1, k2, k3, k4, k5, k6⟩ := append_ok (ty := o.type) hT hi hty hee hp hr hsrc .nil h1 hap
             refine ⟨μ', w', .value z, k1, ?_, k3, k4, k5, k6⟩
             rw [hex]
             have := run_value (P := P) (w := w) k2
             simpa [builtin, hv1] using this
         · cases hk
       · cases hk
     · cases hk
   · cases hk
 ·
   rename_i x y ha
   have hargs : args = #[x, y] := by apply Array.ext'; exact ha
   subst hargs
   split at hk
   · rename_i s t u he hts
     have hats : ats = #[t, u] := by apply Array.ext'; exact hts
     subst hats
     split at hk
     · rename_i i hi
       split at hk
       · rename_i e hty hee
         rw [Bool.cond_eq_ite] at hk
         split at hk
         case isFalse => cases hk
         rename_i hp
         split at hk
         · rename_i s2 hy hu
           cases hx : h.sliceCells e.size s2 with
           | none => rw [hx] at hk; cases hk
           | some xs =>
             rw [hx, o_bd] at hk
             cases hap : h.copy q e.size s (min s2.len s.len) xs with
             | none => rw [hap] at hk; cases hk
             | some h' =>
               rw [hap, o_bd] at hk
               refine ⟨_, _, hk, fun μ w a hr hev => ?_⟩
               have h1 := hev x
               have h2 := hev y
               rw [he] at h1
               rw [hy] at h2
               obtain ⟨w', k1, k2, k3, k4⟩ := copy_ok (u := u) (ty := o.type) hT hi hty hee hp hr h2 hx h1 hap
               refine ⟨μ, w', .value _, μ.le_refl, ?_, .int, k2, k3, k4⟩
               rw [hex]
               have := run_value (P := P) (w := w) k1
               simpa [builtin] using this
         · cases hk
       · cases hk
     · cases hk
   · cases hk
 ·
   rename_i x ha
   have hargs : args = #[x] := by apply Array.ext'; exact ha
   subst hargs
   split at hk
   · rename_i s t he hts
     have hats : ats = #[t] := by apply Array.ext'; exact hts
     subst hats
     split at hk
     · rename_i i hi
       split at hk
       · rename_i e hty hee
         rw [Bool.cond_eq_ite] at hk
         split at hk
         case isFalse => cases hk
         rename_i hp
         cases hap : h.clear q e.zero e.size s with
         | none => rw [hap] at hk; cases hk
         | some h' =>
           rw [hap, o_bd] at hk
           refine ⟨_, _, hk, fun μ w a hr hev => ?_⟩
           have h1 := hev x
           rw [he] at h1
           obtain ⟨w', k1, k2, k3, k4⟩ := clear_ok (ty := o.type) hT hi hty hee hp hr h1 hap
           refine ⟨μ, w', .value (.tuple #[]), μ.le_refl, ?_, .tup (ds := #[]) rfl (by intro i c d h; simp at h), k2, k3, k4⟩
           rw [hex]
           have := run_value (P := P) (w := w) k1
           simpa [builtin] using this
       · cases hk
     · cases hk
   · cases hk
 ·
   rename_i x ha
   have hargs : args = #[x] := by apply Array.ext'; exact ha
   subst hargs
   split at hk
   · rename_i s t ts he hts
     have hat : ats[0]? = some t := by rw [← Array.getElem?_toList, hts]; rfl
     split at hk
     · rename_i hty
       obtain ⟨i, hi, hiy⟩ := Ctx.ty_info hty (by simp)
       cases hn : s.capOf with
       | none => rw [hn] at hk; cases hk
       | some n =>
         rw [hn, o_bd] at hk
         refine ⟨_, _, hk, fun μ w a hr hev => ?_⟩
         have h1 := hev x
         rw [he] at h1
         obtain ⟨a1, l, cap, hv, hl⟩ : ∃ a1 l c, a.eval x = .slice a1 l c ∧ c = n := by
           generalize a.eval x = y at h1
           cases h1 with
           | nilslice => simp [Sl.capOf] at hn; exact ⟨_, _, _, rfl, hn⟩
           | @slice r len clip ii gi a9 cap9 _ _ _ _ hclip _ _ =>
             cases clip with
             | false => simp [Sl.capOf] at hn
             | true => simp [Sl.capOf] at hn; exact ⟨_, _, _, rfl, by rw [hclip rfl, hn]⟩
           | noslice => simp [Sl.capOf] at hn; exact ⟨_, _, _, rfl, hn⟩
           | @lst0 clip _ _ q1 _ =>
             cases clip with
             | false => simp [Sl.capOf] at hn
             | true => simp [Sl.capOf] at hn; exact ⟨_, _, _, rfl, by rw [q1 rfl, hn]⟩
           | @lst n9 clip _ _ _ _ _ _ _ q1 _ _ _ =>
             cases clip with
             | false => simp [Sl.capOf] at hn
             | true => simp [Sl.capOf] at hn; exact ⟨_, _, _, rfl, by rw [q1 rfl, hn]⟩
         refine OpRes.same (x := .int .i64 (n : Nat)) hr ?_ .int
         rw [hex]
         simp [builtin, Builtin.cap_, hat, run_underlying (hT.slice hi hiy), hv, hl, goInt]
     · cases hk
   · cases hk
 · cases hk
theorem mapRel {ev : Operand → AV} {a : Act} (hev : ∀ x, VRel μ (ev x) (a.eval x)) (args : Array Operand) :
   (args.toList.map ev).length = (args.map a.eval).size ∧ ∀ (i : Nat) u x, (args.toList.map ev)[i]? = some u → (args.map a.eval)[i]? = some x → VRel μ u x := by
 refine ⟨by simp, fun i u x hu hx => ?_⟩
 rw [List.getElem?_map, Array.getElem?_toList] at hu
 rw [Array.getElem?_map] at hx
 cases hq : args[i]? with
 | none => rw [hq] at hx; cases hx
 | some y =>
   rw [hq] at hu hx
   simp at hu hx
   subst hu; subst hx
   exact hev y
theorem call_wp {β : Type} {call : CallF} (hc : CallsOk P C B q call) {ev : Operand → AV} (o : Oper) {c : Call} (ho : o.op = .call c) {f : FuncId} {extra : List Pt}
   (hcal : ∃ fo, c.callee = .value fo ∧ (fo = .func f ∧ extra = [] ∨ ev fo = .func f extra)) {k : K β} {r : β}
   (hk : ((call f (c.args.toList.map ev ++ extra.map AV.ptr) h).bind fun p => chk (C.ty o.type) p.1 fun v => k v p.2) = some r) :
   ∃ v h', k v h' = some r ∧ OpWp P C B q ev h o v h' := by
 cases hcall : call f (c.args.toList.map ev ++ extra.map AV.ptr) h with
 | none => rw [hcall] at hk; cases hk
 | some p =>
   obtain ⟨v0, h'⟩ := p
   rw [hcall, o_bd] at hk
   have key : OpWp P C B q ev h o v0 h' := by
     intro μ w a K Q hr hg hev hK
     obtain ⟨fo, hfo, hf⟩ := hcal
     obtain ⟨m1, m2⟩ := mapRel hev c.args
     have hval : ∃ es : Array Value, a.eval fo = .func (.func f) #[] es ∧ es.size = extra.length ∧ ∀ (i : Nat) p x, extra[i]? = some p → es[i]? = some x → VRel μ (.ptr p) x := by
       rcases hf with ⟨rfl, rfl⟩ | hf
       · exact ⟨#[], rfl, rfl, by intro i p x h; simp at h⟩
       · have := hev fo
         rw [hf] at this
         generalize a.eval fo = y at this
         cases this with
         | func hs hh => exact ⟨_, rfl, hs.symm, hh⟩
     obtain ⟨es, hes, hel, her⟩ := hval
     have hex : execOp a.eval o = callFunc f (c.args.map a.eval ++ es) := by
       unfold execOp
       rw [ho]
       simp only [resolve, hfo, hes, Deferred.ofValue]
       simp [invoke]
     have hres := hc f _ h v0 h' hcall μ w (c.args.map a.eval ++ es) hr hg (by simp [m1, hel]) (by
       intro i u x hu hx
       by_cases hi : i < c.args.size
       · rw [List.getElem?_append_left (by simpa using hi)] at hu
         rw [Array.getElem?_append_left (by simpa using hi)] at hx
         exact m2 i u x hu hx
       · rw [List.getElem?_append_right (by simpa using hi)] at hu
         rw [Array.getElem?_append_right (by simpa using hi)] at hx
         simp only [List.length_map, Array.length_toList, Array.size_map] at hu hx
         rw [List.getElem?_map] at hu
         cases hp : extra[i - c.args.size]? with
         | none => rw [hp] at hu; cases hu
         | some p =>
           rw [hp] at hu
           simp at hu
           subst hu
           exact her _ p x hp hx)
     unfold Oper.wp
     rw [hex]
     exact hres o a K Q fun x w' ⟨μ', h1, h2, h3, h4, h5⟩ => hK μ' x w' h1 h2 h3 h4 h5
   rcases chk_inv hk with h1 | h1
   · exact ⟨_, _, h1, key⟩
   · exact ⟨_, _, h1, fun μ w a K Q hr hg hev hK => key μ w a K Q hr hg hev fun μ' x w' e1 _ e3 e4 e5 => hK μ' x w' e1 .bot e3 e4 e5⟩
theorem aoper_ok (hT : TypesOk P C) {β : Type} {call : CallF} (hc : CallsOk P C B q call) {ev : Operand → AV} (o : Oper) {k : K β} {r : β} (hk : aoper C q call ev o h k = some r) (hnp : ∀ c a b, o.op ≠ .pick c a b) :
   ∃ v h', k v h' = some r ∧ OpWp P C B q ev h o v h' := by
 unfold aoper at hk
 split at hk
 · rename_i c ho
   split at hk
   · rename_i f hcal
     exact call_wp (C := C) hc o ho (extra := []) ⟨_, hcal, .inl ⟨rfl, rfl⟩⟩ (by simpa using hk)
   · rename_i x _ hcal
     cases hf : (ev x).func? with
     | none => rw [hf] at hk; cases hk
     | some fc =>
       obtain ⟨f, caps⟩ := fc
       rw [hf, o_bd] at hk
       exact call_wp (C := C) hc o ho ⟨_, hcal, .inr (AV.func?_some hf)⟩ hk
   · rename_i b hcal
     obtain ⟨v, h', h1, h2⟩ := abuiltin_ok (B := B) hT o ho hcal hk
     exact ⟨v, h', h1, h2.wp⟩
   · cases hk
 · rename_i hnc
   obtain ⟨v, h', h1, h2⟩ := aop_ok (B := B) hT o hk hnp (fun c e => hnc c e)
   exact ⟨v, h', h1, h2.wp⟩
end
end Go.Proofs.YtjagkijfngokaaaGreatDoor
