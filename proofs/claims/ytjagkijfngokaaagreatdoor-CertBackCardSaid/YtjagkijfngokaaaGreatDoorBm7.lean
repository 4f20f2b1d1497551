/-
 Addresses, parts of values, slice expressions, conversions: in the model as the abstract machine says.
-/
import Derived.Test.YtjagkijfngokaaaGreatDoorBm6
namespace Go.Proofs.YtjagkijfngokaaaGreatDoor
open Go.RowKit
section
variable {P : Program} {C : Ctx} {B : Nat} {q : Bool} {h : AH} {μ : Mu} {w : World} {v : AV}
theorem spot_add (g : GenInfo) {o n : Nat} (h : g.lo ≤ o) : (g.spot o).add n = g.spot (o + n) := by
 unfold GenInfo.spot
 rw [Addr.add_lit]
 congr 1
 omega
theorem fp_drop {cs : List AV} {ad : Addr} {arr : Array Value} (f1 : μ.frz ad.block = some arr) (f2 : ad.spot = none) (f3 : cs ≠ [] → ad.off + cs.length ≤ arr.size)
   (f4 : ∀ (i : Nat) c d, cs[i]? = some c → arr[ad.off + i]? = some d → VRel μ c d) (f5 : ∀ (i : Nat) d, i < cs.length → arr[ad.off + i]? = some d → d.oneCell' = true) (o : Nat) :
   VRel μ (.ptr (.fp 0 (cs.drop o))) (.pointer (some (ad.add o))) := by
 obtain ⟨b, f, s⟩ := ad
 simp only at f1 f2 f3 f4 f5
 subst f2
 rw [Addr.add_lit]
 refine .fp f1 rfl (fun hne => ?_) (fun j c d hc hd => ?_) (fun j d hj hd => ?_) fun h => absurd rfl h
 · have h1 : cs ≠ [] := by rintro rfl; simp at hne
   have h2 : o < cs.length := by
     have := List.length_pos_iff.2 hne
     simp at this
     omega
   have := f3 h1
   simp
   omega
 · rw [List.getElem?_drop] at hc
   exact f4 _ c d hc (by rw [← Nat.add_assoc]; exact hd)
 · simp at hj
   exact f5 (o + j) d (by omega) (by rw [← Nat.add_assoc]; exact hd)
theorem fp_take {k : Nat} {cs : List AV} {x : Value} (h : VRel μ (.ptr (.fp k cs)) x) (n : Nat) : VRel μ (.ptr (.fp k (cs.take n))) x := by
 cases h with
 | @fp _ _ ad arr f1 f2 f3 f4 f5 f6 =>
   refine .fp f1 f2 (fun hne => ?_) (fun j c d hc hd => ?_) (fun j d hj hd => ?_) f6
   · have h1 : cs ≠ [] := by rintro rfl; simp at hne
     have := f3 h1
     simp
     omega
   · rw [List.getElem?_take] at hc
     split at hc
     · exact f4 _ c d hc hd
     · cases hc
   · simp at hj
     exact f5 j d (by omega) hd
theorem fieldAddr_ok (hT : TypesOk P C) {t : TypeId} {i : TInfo} (hi : C.info t = some i) (ha : i.ty.isAgg = true) (hl : i.len = 0) {f o : Nat} {ft : TypeId} (hf : i.fields[f]? = some (o, ft)) {p p' : Pt} (hp : p.field o = some p') {a : Value}
   (hv : VRel μ (.ptr p) a) : ∃ x, (Instr.fieldAt t a f).run P w = .ok x w ∧ VRel μ (.ptr p') x := by
 obtain ⟨fs, hu, hfo⟩ := struct_of hT hi ha hl
 obtain ⟨fd, h1, h2, h3, j, h4, h5⟩ := fieldsOk_get hfo f o ft hf
 cases hv with
 | nilptr => simp [Pt.field] at hp
 | @fp k cs ad arr f1 f2 f3 f4 f5 f6 =>
   simp only [Pt.field, Option.some.injEq] at hp
   subst hp
   have hfs : fs[f]? = some fd := by simpa using h1
   have hsz : (sizeOf fd.type).run P w = .ok j.size w := by simp [sizeOf, typeInfo, h3, h4]
   exact ⟨.pointer (some (ad.add o)), by simp [Instr.fieldAt, run_underlying hu, hfs, Instr.sureAddr, fieldPlace, hsz, h5, h2], fp_drop f1 f2 f3 f4 f5 o⟩
 | @ptr r lim ii gi k1 k2 k3 k4 =>
   simp only [Pt.field, Option.some.injEq] at hp
   subst hp
   have hfs : fs[f]? = some fd := by simpa using h1
   refine ⟨.pointer (some (gi.spot (r.off + o))), ?_, .ptr k1 k2 (Nat.le_trans k3 (Nat.le_add_right _ _)) k4⟩
   have hsz : (sizeOf fd.type).run P w = .ok j.size w := by simp [sizeOf, typeInfo, h3, h4]
   simp [Instr.fieldAt, run_underlying hu, hfs, Instr.sureAddr, fieldPlace, hsz, h5, h2, spot_add gi k3]
theorem indexAddr_ok (hT : TypesOk P C) {t : TypeId} {i e : TInfo} (hi : C.info t = some i) (hs : i.ty = .slice) (he : C.info i.elem = some e) (hp : (e.ty.isAgg || e.ty.isOne) = true) (hr : HRel μ B h w) {s : Sl} {kd : IntKind} {j : Int} {p : Pt}
   (hp' : h.addr e.size s j = some p) {a : Value} (hv : VRel μ (.slice s) a) :
   ∃ x, (Instr.indexAt t a (.int kd j)).run P w = .ok x w ∧ VRel μ (.ptr p) x := by
 have hu := hT.slice hi hs
 have hes := hT.size he (ATy.one_or_agg hp) w
 cases hv with
 | nilslice => simp [AH.addr] at hp'
 | noslice =>
   simp only [AH.addr] at hp'
   rw [Bool.cond_eq_ite] at hp'
   split at hp'
   case isFalse => cases hp'
   rename_i hjn
   simp only [Bool.and_eq_true, decide_eq_true_eq] at hjn
   omega
 | lst0 =>
   simp only [AH.addr] at hp'
   rw [Bool.cond_eq_ite] at hp'
   split at hp'
   case isFalse => cases hp'
   rename_i hjn
   simp only [Bool.and_eq_true, decide_eq_true_eq] at hjn
   omega
 | @lst n clip cs cap ad arr f1 f2 f3 f4 f5 f6 f7 =>
   simp only [AH.addr] at hp'
   rw [Bool.cond_eq_ite] at hp'
   split at hp'
   case isFalse => cases hp'
   rename_i hjn
   simp only [Bool.and_eq_true, decide_eq_true_eq] at hjn
   obtain ⟨h0, hn⟩ := hjn
   cases hp'
   refine ⟨.pointer (some (ad.add (j.toNat * e.size))), ?_, fp_take (fp_drop f1 f2 f5 f6 f7 _) _⟩
   simp [Instr.indexAt, asIntOf, run_underlying hu, h0, hn, hes]
 | @slice r n _ ii gi ad cap k1 k2 k3 k4 k5 k6 k7 =>
   simp only [AH.addr] at hp'
   rw [Bool.cond_eq_ite] at hp'
   split at hp'
   case isFalse => cases hp'
   rename_i hjn
   simp only [Bool.and_eq_true, decide_eq_true_eq] at hjn
   obtain ⟨h0, hn⟩ := hjn
   split at hp'
   case h_2 => cases hp'
   rename_i row hrow
   rw [Bool.cond_eq_ite] at hp'
   split at hp'
   case isFalse => cases hp'
   rename_i hsz
   rw [nbeq] at hsz
   simp at hp'
   subst hp'
   have hii : ii.sz = e.size := by rw [(hr.row _ _ _ k1 hrow).sz, hsz]
   rw [hii] at k6 k7
   rcases k7 with h9 | ⟨rfl, h9⟩
   · omega
   have hle : j.toNat * e.size + e.size ≤ n * e.size := by
     have : (j.toNat + 1) * e.size ≤ n * e.size := Nat.mul_le_mul_right _ (by omega)
     rw [Nat.add_mul] at this; omega
   refine ⟨.pointer (some (gi.spot (r.off + j.toNat * e.size))), ?_, .ptr k1 k2 (Nat.le_trans k3 (Nat.le_add_right _ _)) (by omega)⟩
   simp [Instr.indexAt, asIntOf, run_underlying hu, h0, hn, hes, spot_add gi k3]
theorem indexAddrArr_ok (hT : TypesOk P C) {t : TypeId} {i e : TInfo} (hi : C.info t = some i) (hs : i.ty.isAgg = true) (hl : i.len ≠ 0) (he : C.info i.elem = some e) (hp : (e.ty.isAgg || e.ty.isOne) = true) {p p' : Pt} {kd : IntKind} {j : Int} (hp' : p.elem e.size i.len j = some p')
   {a : Value} (hv : VRel μ (.ptr p) a) :
   ∃ x, (Instr.indexAt t a (.int kd j)).run P w = .ok x w ∧ VRel μ (.ptr p') x := by
 have hes := hT.size he (ATy.one_or_agg hp) w
 rcases hT.agg hi (ATy.isAgg_eq hs) with ⟨_, _, _, h9⟩ | ⟨hu, _, _⟩
 · exact absurd h9 hl
 cases hv with
 | nilptr => simp [Pt.elem] at hp'
 | @fp k cs ad arr f1 f2 f3 f4 f5 f6 =>
   simp only [Pt.elem, Bool.cond_eq_ite] at hp'
   split at hp'
   case isFalse => cases hp'
   rename_i hjj
   simp only [Bool.and_eq_true, decide_eq_true_eq] at hjj
   obtain ⟨h0, hn⟩ := hjj
   cases hp'
   refine ⟨.pointer (some (ad.add (j.toNat * e.size))), ?_, fp_drop f1 f2 f3 f4 f5 _⟩
   simp [Instr.indexAt, Instr.sureAddr, asIntOf, run_underlying hu, h0, hn, hes]
 | @ptr r lim ii gi k1 k2 k3 k4 =>
   simp only [Pt.elem, Bool.cond_eq_ite] at hp'
   split at hp'
   case isFalse => cases hp'
   rename_i hjj
   simp only [Bool.and_eq_true, decide_eq_true_eq] at hjj
   obtain ⟨h0, hn⟩ := hjj
   cases hp'
   refine ⟨.pointer (some (gi.spot (r.off + j.toNat * e.size))), ?_, .ptr k1 k2 (Nat.le_trans k3 (Nat.le_add_right _ _)) k4⟩
   simp [Instr.indexAt, Instr.sureAddr, asIntOf, run_underlying hu, h0, hn, hes, spot_add gi k3]
theorem part_ok (hT : TypesOk P C) {t : TypeId} {i : TInfo} (hi : C.info t = some i) {cs : List AV} {o : Nat} {β : Type} {k : AV → Option β} {r : β}
   (hk : (bif i.ty.isAgg then (bif Nat.ble (o + i.size) cs.length then k (.agg ((cs.drop o).take i.size)) else none) else bif i.ty.isOne then cs[o]?.bind fun v => chk1 i.ty v k else none) = some r) :
   ∃ v, k v = some r ∧ ∀ (μ : Mu) (w : World) (ds : Array Value), VRel μ (.agg cs) (.agg ds) → ∃ x, (part t ds o).run P w = .ok x w ∧ VRel μ v x := by
 rw [Bool.cond_eq_ite] at hk
 split at hk
 · rename_i ha
   have hp : i.ty.plain = true := by rw [ATy.isAgg_eq ha]; rfl
   rw [Bool.cond_eq_ite] at hk
   split at hk
   · rename_i hle
     rw [nble] at hle
     refine ⟨_, hk, fun μ w ds hv => ?_⟩
     have h1 := hT.isAgg hi hp w
     rw [ha] at h1
     have h2 := hT.size hi hp w
     cases hv with
     | agg hs hh =>
       refine ⟨.agg (ds.extract o (o + i.size)), by simp [part, h1, h2], .agg (by simp; omega) fun j c d hc hd => ?_⟩
       rw [List.getElem?_take] at hc
       split at hc
       · rename_i hj
         rw [List.getElem?_drop] at hc
         refine hh (o + j) c d hc ?_
         simp only [Array.getElem?_extract] at hd
         split at hd
         · exact hd
         · cases hd
       · cases hc
   · cases hk
 · rw [Bool.cond_eq_ite] at hk
   split at hk
   · rename_i _ ho
     obtain ⟨hp, ha⟩ := ATy.isOne_plain ho
     cases hc : cs[o]? with
     | none => rw [hc] at hk; cases hk
     | some u =>
       rw [hc, o_bd] at hk
       refine ⟨u, chk1_inv hk, fun μ w ds hv => ?_⟩
       have h1 := hT.isAgg hi hp w
       rw [ha] at h1
       cases hv with
       | agg hs hh =>
         have hlt : o < ds.size := by
           have := (List.getElem?_eq_some_iff.1 hc).1
           omega
         exact ⟨ds[o], by simp [part, h1, Array.getElem?_eq_getElem hlt], hh o u _ hc (Array.getElem?_eq_getElem hlt)⟩
   · cases hk
theorem VRel.agg_inv {cs : List AV} {x : Value} (h : VRel μ (.agg cs) x) : ∃ ds, x = .agg ds := by cases h; exact ⟨_, rfl⟩
theorem byte_at (s : ByteArray) (j : Nat) : s[j]? = s.data.toList[j]? := by
 by_cases h : j < s.size
 · rw [getElem?_pos s j h]
   have h2 : j < s.data.toList.length := by simpa using h
   rw [List.getElem?_eq_getElem h2]
   rfl
 · rw [getElem?_neg s j h, List.getElem?_eq_none (by simpa using h)]
theorem indexStr_ok {t : TypeId} (hu : P.underlying t = some .string) {s : ByteArray} {kd : IntKind} {j b : Int} (hb : strAt s j = some b) :
   (Instr.index t (.string s) (.int kd j)).run P w = .ok (.int .u8 b) w := by
 unfold strAt at hb
 rw [Bool.cond_decide] at hb
 split at hb
 · rename_i h0
   rw [← byte_at] at hb
   cases hs : s[j.toNat]? with
   | none => rw [hs] at hb; cases hb
   | some c =>
     rw [hs] at hb
     simp at hb
     simp [Instr.index, asIntOf, run_underlying hu, h0, hs, hb]
 · cases hb
theorem abound_ok {b : AV} {most n : Nat} (hb : abound b most = some n) {x : Value} (hv : VRel μ b x) (code : BoundsCode) : n ≤ most ∧ (Instr.sliceBound x most code).run P w = .ok n w := by
 unfold abound at hb
 split at hb
 · rename_i kd j
   rw [Bool.cond_eq_ite] at hb
   split at hb
   · rename_i hc
     simp only [Bool.and_eq_true, decide_eq_true_eq] at hc
     simp at hb
     subst hb
     rw [hv.int_inv]
     exact ⟨by omega, run_sliceBound w kd j most code hc.1 hc.2⟩
   · cases hb
 · cases hb
def ORel (μ : Mu) : Option AV → Option Value → Prop
 | none, none => True
 | some a, some x => VRel μ a x
 | _, _ => False
theorem hi_ok {hi : Option AV} {hi' : Option Value} (ho : ORel μ hi hi') {len cap hb : Nat} (hlc : len ≤ cap) (h1 : aHi hi len = some hb) (c : BoundsCode) :
   hb ≤ len ∧ (match hi' with | some v => Instr.sliceBound v cap c | none => (pure len : Sem Nat)).run P w = .ok hb w := by
 cases hi <;> cases hi' <;> simp only [ORel] at ho <;> simp only [aHi] at h1
 · simp at h1; subst h1; exact ⟨Nat.le_refl _, rfl⟩
 · obtain ⟨k1, _⟩ := abound_ok (P := P) (w := w) (μ := μ) h1 ho c
   refine ⟨k1, ?_⟩
   unfold abound at h1
   split at h1
   · rename_i kd j
     rw [Bool.cond_eq_ite] at h1
     split at h1
     · rename_i hc
       simp only [Bool.and_eq_true, decide_eq_true_eq] at hc
       simp at h1
       rw [ho.int_inv, ← h1]
       exact run_sliceBound w kd j cap _ hc.1 (by omega)
     · cases h1
   · cases h1
theorem lo_ok {lo : Option AV} {lo' : Option Value} (ho : ORel μ lo lo') {hb lb : Nat} (h1 : aLo lo hb = some lb) (c : BoundsCode) :
   lb ≤ hb ∧ (match lo' with | some v => Instr.sliceBound v hb c | none => (pure 0 : Sem Nat)).run P w = .ok lb w := by
 cases lo <;> cases lo' <;> simp only [ORel] at ho <;> simp only [aLo] at h1
 · simp at h1; subst h1; exact ⟨Nat.zero_le _, rfl⟩
 · exact abound_ok h1 ho c
theorem bounds_ok {lo hi mx : Option AV} {lo' hi' mx' : Option Value} (hlo : ORel μ lo lo') (hhi : ORel μ hi hi') (hmx : ORel μ mx mx') {len cap hb lb : Nat} {c : Bool} (hlc : len ≤ cap) (h1 : aHi hi len = some hb) (h2 : aLo lo hb = some lb) (h3 : aMx mx hb = some c) (isS : Bool)
   (hmh : mx = none ∨ hi ≠ none) :
   lb ≤ hb ∧ hb ≤ len ∧ ∃ m, (Instr.sliceBounds isS len cap lo' hi' mx').run P w = .ok (lb, hb, m) w ∧ hb ≤ m ∧ m ≤ cap ∧ (c = true → m = hb) ∧ (c = false → m = cap) := by
 cases mx with
 | none =>
   cases mx' <;> simp only [ORel] at hmx
   simp [aMx] at h3
   subst h3
   obtain ⟨k1, k2⟩ := lo_ok (P := P) (w := w) hlo h2 .sliceB
   obtain ⟨m1, m2⟩ := hi_ok (P := P) (w := w) (cap := cap) hhi hlc h1 (if isS then .sliceAcap else .sliceAlen)
   refine ⟨k1, m1, cap, ?_, by omega, Nat.le_refl _, (fun h => by cases h), fun _ => rfl⟩
   unfold Instr.sliceBounds
   cases hi' with
   | none =>
     simp only [Sem.run_pure, Result.ok.injEq, and_true] at m2
     subst m2
     simp only [Sem.run_bind, Sem.run_pure, Result.andThen_ok]
     cases lo' with
     | none => simp only [Sem.run_pure, Result.ok.injEq, and_true] at k2; subst k2; simp
     | some y => simp only [Option.isSome_none, Bool.false_eq_true, if_false, Sem.run_bind, k2, Result.andThen_ok, Sem.run_pure]
   | some x =>
     simp only [Sem.run_bind, Sem.run_pure, Result.andThen_ok, m2]
     cases lo' with
     | none => simp only [Sem.run_pure, Result.ok.injEq, and_true] at k2; subst k2; simp
     | some y => simp only [Option.isSome_none, Bool.false_eq_true, if_false, Sem.run_bind, k2, Result.andThen_ok, Sem.run_pure]
 | some mb =>
   cases mx' <;> simp only [ORel] at hmx
   rename_i mv
   simp only [aMx] at h3
   cases hb' : abound mb hb with
   | none => rw [hb'] at h3; cases h3
   | some m0 =>
     rw [hb', o_bd, Bool.cond_eq_ite] at h3
     split at h3
     case isFalse => cases h3
     rename_i he
     rw [nbeq] at he
     subst he
     simp at h3
     subst h3
     obtain ⟨k1, k2⟩ := lo_ok (P := P) (w := w) hlo h2 .slice3C
     cases hi with
     | none => simp at hmh
     | some hv =>
       cases hi' <;> simp only [ORel] at hhi
       rename_i hv'
       simp only [aHi] at h1
       have e1 : m0 ≤ len := (abound_ok (P := P) (w := w) (μ := μ) h1 hhi .index).1
       have e2 : (Instr.sliceBound mv cap (if isS then .slice3Acap else .slice3Alen)).run P w = .ok m0 w := by
         unfold abound at hb'
         split at hb'
         · rename_i kd j
           rw [Bool.cond_eq_ite] at hb'
           split at hb'
           · rename_i hc
             simp only [Bool.and_eq_true, decide_eq_true_eq] at hc
             simp at hb'
             rw [hmx.int_inv, ← hb']
             exact run_sliceBound w kd j cap _ hc.1 (by omega)
           · cases hb'
         · cases hb'
       have e3 : (Instr.sliceBound hv' m0 .slice3B).run P w = .ok m0 w := by
         unfold abound at h1
         split at h1
         · rename_i kd j
           rw [Bool.cond_eq_ite] at h1
           split at h1
           · rename_i hc
             simp only [Bool.and_eq_true, decide_eq_true_eq] at hc
             simp at h1
             rw [hhi.int_inv]
             have := run_sliceBound (P := P) w kd j m0 .slice3B hc.1 (by omega)
             rw [h1] at this
             exact this
           · cases h1
         · cases h1
       refine ⟨k1, e1, m0, ?_, Nat.le_refl _, by omega, fun _ => rfl, fun h => by cases h⟩
       unfold Instr.sliceBounds
       simp only [Sem.run_bind, Result.andThen_ok, e2, e3]
       cases lo' with
       | none => simp only [Sem.run_pure, Result.ok.injEq, and_true] at k2; subst k2; simp
       | some y => simp only [Option.isSome_some, if_true, Sem.run_bind, k2, Result.andThen_ok, Sem.run_pure]
theorem slice_ok (hT : TypesOk P C) {β : Type} {t : TypeId} {v : AV} {lo hi mx : Option AV} {k : K β} {r : β} (hk : aslice C t v lo hi mx h k = some r) (hmh : mx = none ∨ hi ≠ none) :
   ∃ u, k u h = some r ∧ ∀ (μ : Mu) (w : World) (a : Value) (lo' hi' mx' : Option Value), HRel μ B h w → VRel μ v a → ORel μ lo lo' → ORel μ hi hi' → ORel μ mx mx' →
     ∃ x, (Instr.sliceAt t a lo' hi' mx').run P w = .ok x w ∧ VRel μ u x := by
 unfold aslice at hk
 split at hk
 · rename_i s
   split at hk
   · rename_i hty
     obtain ⟨i, hi', hiy⟩ := Ctx.ty_info hty (by simp)
     have hu := hT.str hi' hiy
     cases h1 : aHi hi s.size with
     | none => rw [h1] at hk; cases hk
     | some hb =>
       rw [h1, o_bd] at hk
       cases h2 : aLo lo hb with
       | none => rw [h2] at hk; cases hk
       | some lb =>
         rw [h2, o_bd] at hk
         refine ⟨_, hk, fun μ w a lo' hi' mx' hr hv hl hh hm => ?_⟩
         cases mx' <;> simp only [ORel] at hm
         rw [hv.str_inv]
         obtain ⟨_, _, m, hrun, _⟩ := bounds_ok (P := P) (w := w) (mx := none) (mx' := none) (c := false) hl hh trivial (Nat.le_refl _) h1 h2 rfl false (.inl rfl)
         exact ⟨.string (s.extract lb hb), by simp [Instr.sliceAt, Instr.slice, run_underlying hu, hrun], .str⟩
   · cases hk
 · rename_i s
   split at hk
   · cases hk
   · rename_i i hi1
     split at hk
     · rename_i e hs he
       rw [Bool.cond_eq_ite] at hk
       split at hk
       case isFalse => cases hk
       rename_i hp
       have hu := hT.slice hi1 hs
       cases h1 : aHi hi s.len with
       | none => rw [h1] at hk; cases hk
       | some hb =>
         rw [h1, o_bd] at hk
         cases h2 : aLo lo hb with
         | none => rw [h2] at hk; cases hk
         | some lb =>
           rw [h2, o_bd] at hk
           cases h3 : aMx mx hb with
           | none => rw [h3] at hk; cases hk
           | some c =>
             rw [h3, o_bd, Bool.cond_eq_ite] at hk
             split at hk
             case isFalse => cases hk
             rename_i hsz
             refine ⟨_, hk, fun μ w a lo' hi' mx' hr hv hl hh hm => ?_⟩
             have hes := hT.size he (ATy.one_or_agg hp) w
             cases hv with
             | nilslice =>
               obtain ⟨b1, b2, m, hrun, b3, b4, b5, b6⟩ := bounds_ok (P := P) (w := w) (cap := 0) hl hh hm (Nat.le_refl _) h1 h2 h3 true hmh
               simp at b2
               have : m = 0 := by omega
               subst this
               have : lb = 0 := by omega
               subst this
               subst b2
               exact ⟨.slice none 0 0, by simp [Instr.sliceAt, Instr.slice, run_underlying hu, hrun, hes], .nilslice⟩
             | @noslice rr ad =>
               obtain ⟨b1, b2, m, hrun, b3, b4, b5, b6⟩ := bounds_ok (P := P) (w := w) (cap := 0) hl hh hm (Nat.le_refl _) h1 h2 h3 true hmh
               have b2 : hb ≤ 0 := b2
               have : m = 0 := by omega
               subst this
               have : hb = 0 := by omega
               subst this
               have : lb = 0 := by omega
               subst this
               exact ⟨.slice (some ad) 0 0, by simp [Instr.sliceAt, Instr.slice, run_underlying hu, hrun, hes], by simpa [Sl.cut] using VRel.noslice⟩
             | @lst0 clip cap ad q1 q2 =>
               simp only [Sl.len] at h1
               obtain ⟨b1, b2, m, hrun, b3, b4, b5, b6⟩ := bounds_ok (P := P) (w := w) (cap := cap) hl hh hm (Nat.zero_le _) h1 h2 h3 true hmh
               have : hb = 0 := by omega
               subst this
               have : lb = 0 := by omega
               subst this
               have hclip' : (c || (clip && Nat.beq 0 0)) = true → m = 0 := by
                 intro h9
                 simp only [Bool.or_eq_true, Bool.and_eq_true] at h9
                 rcases h9 with h9 | h9
                 · exact b5 h9
                 · have := q1 h9.1; omega
               cases ad with
               | none =>
                 have := q2 rfl
                 have : m = 0 := by omega
                 subst this
                 exact ⟨.slice none 0 0, by simp [Instr.sliceAt, Instr.slice, run_underlying hu, hrun, hes], by simpa [Sl.cut] using VRel.lst0 (fun _ => rfl) (fun _ => rfl)⟩
               | some ad =>
                 refine ⟨.slice (some (if m = 0 then ad else ad.add (0 * e.size))) 0 m, ?_, by simpa [Sl.cut] using VRel.lst0 (by simpa using hclip') (fun h => by cases h)⟩
                 simp only [Instr.sliceAt, Instr.slice, Sem.run_bind, run_underlying hu, Result.andThen_ok, hrun, hes, Sem.run_pure]
                 by_cases hml : m = 0 <;> simp [hml]
             | @lst n clip cs cap ad arr f1 f2 f3 f4 f5 f6 f7 =>
               simp only [Sl.len] at h1
               obtain ⟨b1, b2, m, hrun, b3, b4, b5, b6⟩ := bounds_ok (P := P) (w := w) (cap := cap) hl hh hm f3 h1 h2 h3 true hmh
               simp only [AH.hasSz, nbeq] at hsz
               refine ⟨.slice (some (if m = lb then ad else ad.add (lb * e.size))) (hb - lb) (m - lb), ?_, ?_⟩
               · simp only [Instr.sliceAt, Instr.slice, Sem.run_bind, run_underlying hu, Result.andThen_ok, hrun, hes, Sem.run_pure]
                 by_cases hml : m = lb <;> simp [hml]
               · have hclip' : (c || (clip && Nat.beq hb n)) = true → m - lb = hb - lb := by
                   intro hc
                   simp only [Bool.or_eq_true, Bool.and_eq_true, nbeq] at hc
                   rcases hc with hc | ⟨hc, hn⟩
                   · rw [b5 hc]
                   · have := f4 hc
                     cases c
                     · rw [b6 rfl, this, hn]
                     · rw [b5 rfl]
                 by_cases hml : m = lb
                 · have hbl : hb = lb := by omega
                   subst hbl
                   simp only [Sl.cut, Nat.sub_self, Nat.zero_mul, List.take_zero]
                   exact .lst0 (fun hc => by have := hclip' hc; omega) (fun h => by cases h)
                 · rw [if_neg hml]
                   have hd := fp_take (fp_drop f1 f2 f5 f6 f7 (lb * e.size)) ((hb - lb) * e.size)
                   cases hd with
                   | fp g1 g2 g3 g4 g5 g6 => exact .lst g1 g2 (by omega) hclip' g3 g4 g5
             | @slice rr len clip ii gi ad cap k1 k2 k3 k4 k5 k6 k7 =>
               simp only [Sl.len] at h1
               obtain ⟨b1, b2, m, hrun, b3, b4, b5, b6⟩ := bounds_ok (P := P) (w := w) (cap := cap) hl hh hm k4 h1 h2 h3 true hmh
               have hii' : (clip = true ∧ len = 0) ∨ ii.sz = e.size := by
                 simp only [AH.hasSz, Bool.or_eq_true, Bool.and_eq_true, nbeq] at hsz
                 rcases hsz with hsz | hsz
                 · exact .inl hsz
                 right
                 split at hsz
                 · rename_i row hrow
                   rw [(hr.row _ _ _ k1 hrow).sz]; exact nbeq.1 hsz
                 · cases hsz
               rcases hii' with ⟨rfl, rfl⟩ | hii
               · have hc0 := k5 rfl
                 subst hc0
                 have b2 : hb ≤ 0 := b2
                 have : m = 0 := by omega
                 subst this
                 have : hb = 0 := by omega
                 subst this
                 have : lb = 0 := by omega
                 subst this
                 exact ⟨.slice (some ad) 0 0, by simp [Instr.sliceAt, Instr.slice, run_underlying hu, hrun, hes], by simpa [Sl.cut] using VRel.noslice⟩
               have hmul1 : lb * ii.sz + (hb - lb) * ii.sz = hb * ii.sz := by rw [← Nat.add_mul]; congr 1; omega
               have hmul2 : hb * ii.sz ≤ len * ii.sz := Nat.mul_le_mul_right _ b2
               have hmul3 : lb * ii.sz + (m - lb) * ii.sz = m * ii.sz := by rw [← Nat.add_mul]; congr 1; omega
               have hmul4 : m * ii.sz ≤ cap * ii.sz := Nat.mul_le_mul_right _ b4
               refine ⟨.slice (some (if m = lb then ad else ad.add (lb * e.size))) (hb - lb) (m - lb), ?_, ?_⟩
               · simp only [Instr.sliceAt, Instr.slice, Sem.run_bind, run_underlying hu, Result.andThen_ok, hrun, hes, Sem.run_pure]
                 by_cases hml : m = lb <;> simp [hml]
               · refine .slice (r := ⟨rr.id, rr.gen, rr.off + lb * e.size⟩) k1 k2 (by simp; omega) (by omega) ?_ ?_ ?_
                 · intro hc
                   simp only [Bool.or_eq_true, Bool.and_eq_true, nbeq] at hc
                   rcases hc with hc | ⟨hc, hn⟩
                   · rw [b5 hc]
                   · have := k5 hc
                     cases c
                     · rw [b6 rfl, this, hn]
                     · rw [b5 rfl]
                 · simp only
                   rw [← hii]; omega
                 · by_cases hml : m = lb
                   · exact .inl (by omega)
                   · refine .inr ⟨?_, ?_⟩
                     · rw [if_neg hml]
                       rcases k7 with h0 | ⟨rfl, _⟩
                       · omega
                       · exact spot_add gi k3
                     · rcases k7 with h0 | ⟨_, h9⟩
                       · omega
                       · simp only
                         rw [← hii]
                         omega
     · cases hk
 · rename_i pp
   obtain ⟨rr, lim, rfl⟩ : ∃ rr lim, pp = .mk rr lim := by
     cases pp with
     | nil => cases hk
     | fp => cases hk
     | mk rr lim => exact ⟨rr, lim, rfl⟩
   simp only [Pt.mk?, o_bd] at hk
   split at hk
   · cases hk
   · rename_i i hi1
     split at hk
     · rename_i e hs he
       rw [Bool.cond_eq_ite] at hk
       split at hk
       case isFalse => cases hk
       rename_i hp
       simp only [Bool.and_eq_true, nble] at hp
       obtain ⟨hp1, hp⟩ := hp
       have hu : P.underlying t = some (.array i.len i.elem) := by
         rcases hT.agg hi1 hs with ⟨_, _, _, h0⟩ | ⟨h0, _⟩
         · omega
         · exact h0
       cases h1 : aHi hi i.len with
       | none => rw [h1] at hk; cases hk
       | some hb =>
         rw [h1, o_bd] at hk
         cases h2 : aLo lo hb with
         | none => rw [h2] at hk; cases hk
         | some lb =>
           rw [h2, o_bd] at hk
           cases h3 : aMx mx hb with
           | none => rw [h3] at hk; cases hk
           | some c =>
             rw [h3, o_bd, Bool.cond_eq_ite] at hk
             split at hk
             case isFalse => cases hk
             rename_i hsz
             simp only [Bool.and_eq_true, nble] at hsz
             obtain ⟨hsz, hfit⟩ := hsz
             refine ⟨_, hk, fun μ w a lo' hi' mx' hr hv hl hh hm => ?_⟩
             have hes := hT.size he (ATy.one_or_agg hp) w
             cases hv with
             | @ptr _ _ ii gi k1 k2 k3 k4 =>
               obtain ⟨b1, b2, m, hrun, b3, b4, b5, b6⟩ := bounds_ok (P := P) (w := w) (cap := i.len) hl hh hm (Nat.le_refl _) h1 h2 h3 false hmh
               obtain ⟨hii, hfits⟩ : ii.sz = e.size ∧ gi.off + (gi.ext - gi.lo) ≤ gi.size := by
                 simp only [AH.hasSz, Bool.false_and, Bool.false_or] at hsz
                 split at hsz
                 · rename_i row hrow
                   exact ⟨by rw [(hr.row _ _ _ k1 hrow).sz]; exact nbeq.1 hsz, ((hr.row _ _ _ k1 hrow).gen _ _ k2).fits⟩
                 · cases hsz
               have hmul1 : lb * ii.sz + (hb - lb) * ii.sz = hb * ii.sz := by rw [← Nat.add_mul]; congr 1; omega
               have hmul2 : hb * ii.sz ≤ i.len * ii.sz := Nat.mul_le_mul_right _ b2
               have hmul3 : lb * ii.sz + (m - lb) * ii.sz = m * ii.sz := by rw [← Nat.add_mul]; congr 1; omega
               have hmul4 : m * ii.sz ≤ i.len * ii.sz := Nat.mul_le_mul_right _ b4
               rw [← hii] at hfit
               refine ⟨.slice (some (if m = lb then gi.spot rr.off else (gi.spot rr.off).add (lb * e.size))) (hb - lb) (m - lb), ?_, ?_⟩
               · simp only [Instr.sliceAt, Instr.sureAddr, Sem.run_bind, run_underlying hu, Result.andThen_ok, hrun, hes, Sem.run_pure]
               · refine .slice (r := ⟨rr.id, rr.gen, rr.off + lb * e.size⟩) k1 k2 (by simp; omega) (by omega) (fun hc => by rw [b5 hc]) ?_ ?_
                 · simp only
                   rw [← hii]; omega
                 · by_cases hml : m = lb
                   · exact .inl (by omega)
                   · refine .inr ⟨?_, ?_⟩
                     · rw [if_neg hml]
                       exact spot_add gi k3
                     · simp only
                       rw [← hii]
                       omega
     · cases hk
 · cases hk
end
end Go.Proofs.YtjagkijfngokaaaGreatDoor
