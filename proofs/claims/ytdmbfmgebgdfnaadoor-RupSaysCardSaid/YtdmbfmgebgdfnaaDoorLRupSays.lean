/-
 RupSays of the given program returns true for every input, and leaves its arguments as they were.
-/
import Derived.Test.YtdmbfmgebgdfnaaDoorTRupSays4
import Derived.Test.YtdmbfmgebgdfnaaDoorBm33
import Derived.Test.YtdmbfmgebgdfnaaDoorBm28
import Derived.Test.YtdmbfmgebgdfnaaDoorRows
import Derived.WalkKit
import Derived.ProofKit
import Derived.OpenShut
import Derived.ShutString
import Derived.ChangeOld
import Derived.Below
import Derived.RowKitTokens
import Derived.Lay
import Derived.SevenTiedAt
import Derived.Test.YtdmbfmgebgdfnaaDoorTie
import Derived.Test.YtdmbfmgebgdfnaaDoorCards
import Derived.SizedLaws
namespace Go.Proofs.YtdmbfmgebgdfnaaDoor.rupSaysDone
open Go.ChangeShapes Go.WideShapes Go.ChangeAt Go.RowKit
set_option linter.unusedVariables false
theorem own : ownKnob Tryd.prog.godebug = none := by kernel_rfl
theorem zwx : laidOutB Tryd.prog = true := by kernel_rfl
theorem star : "*" ++ "errors.errorString" = "*errors.errorString" := by decide
theorem errT : zv5 Tryd.prog 28 129 146 9 "*errors.errorString" :=
 { iface := ⟨_, Tryd.underlying28⟩, name := fun u h => typeName_ptr_named (nm := "errors.errorString") (by rw [star]; kernel_rfl) (by kernel_rfl) (by decide) u (by rw [star]; exact h), ptr := Tryd.underlying129, str := ⟨_, Tryd.underlying146, rfl, rfl⟩, text := Tryd.underlying9, size := by kernel_rfl, size1 := by kernel_rfl }
theorem start {w : World} (hL : laidMet Tryd.prog YtdmbfmgebgdfnaaDoor.Rows.rupSaysRow.laid w) : ∃ tok, HRel (Mu.start w tok) w.heap.size AH.none w ∧ ∀ fuel, zuz (C fuel) (Mu.start w tok) := by
 obtain ⟨tok, h1, h2⟩ := zxE errT hL [(0, 3, (⟨#[97, 32, 110, 117, 109, 98, 101, 114, 32, 111, 117, 116, 32, 111, 102, 32, 105, 116, 115, 32, 114, 97, 110, 103, 101]⟩ : ByteArray)), (1, 0, (⟨#[110, 111, 116, 32, 97, 115, 32, 105, 116, 32, 105, 115, 32, 119, 114, 105, 116, 116, 101, 110]⟩ : ByteArray)), (2, 1, (⟨#[109, 111, 114, 101, 32, 116, 104, 97, 110, 32, 109, 97, 121, 32, 98, 101]⟩ : ByteArray)), (3, 2, (⟨#[116, 104, 101, 32, 98, 117, 100, 103, 101, 116, 32, 105, 115, 32, 117, 115, 101, 100, 32, 117, 112]⟩ : ByteArray)), (4, 4, (⟨#[109, 111, 114, 101, 32, 116, 104, 97, 110, 32, 116, 119, 111, 32, 98, 108, 111, 99, 107, 115]⟩ : ByteArray)), (5, 5, (⟨#[97, 32, 115, 116, 101, 112, 32, 116, 104, 97, 116, 32, 100, 111, 101, 115, 32, 110, 111, 116, 32, 102, 111, 108, 108, 111, 119]⟩ : ByteArray)), (6, 6, (⟨#[110, 111, 32, 99, 101, 114, 116, 105, 102, 105, 99, 97, 116, 101, 32, 111, 102, 32, 105, 116]⟩ : ByteArray))]
   (List.forall_mem_cons.2 ⟨⟨"skolem/api.ErrRange", rfl, by kernel_rfl, by kernel_rfl⟩, List.forall_mem_cons.2 ⟨⟨"skolem/api.ErrText", rfl, by kernel_rfl, by kernel_rfl⟩, List.forall_mem_cons.2 ⟨⟨"skolem/api.ErrLimit", rfl, by kernel_rfl, by kernel_rfl⟩, List.forall_mem_cons.2 ⟨⟨"skolem/api.ErrBudget", rfl, by kernel_rfl, by kernel_rfl⟩, List.forall_mem_cons.2 ⟨⟨"skolem/api.ErrBlocks", rfl, by kernel_rfl, by kernel_rfl⟩, List.forall_mem_cons.2 ⟨⟨"skolem/api.ErrProof", rfl, by kernel_rfl, by kernel_rfl⟩, List.forall_mem_cons.2 ⟨⟨"skolem/api.ErrCert", rfl, by kernel_rfl, by kernel_rfl⟩, fun e h => by cases h⟩⟩⟩⟩⟩⟩⟩) (by decide)
 exact ⟨tok, h1, fun fuel g v hg => h2 g v hg⟩
set_option maxRecDepth 100000 in
theorem walk (a0 : Option Addr) (len0 cap0 : Nat) (z0 : List Int) (y1 : Value) (a2 : Option Addr) (len2 cap2 : Nat) (z2 : List Int) (a3 : Option Addr) (len3 cap3 : Nat) (z3 : List Int) (w : World) (w0 : zAO .i64 w a0 len0 cap0 z0) (w1 : ∀ tok, ∃ x : (List (Int × Int × (List Int))), (fun l => (∀ a ∈ l, (fun p => (fun n => (Lit.int .i64 n).wf = true) p.1 ∧ (fun n => (Lit.int .i64 n).wf = true) p.2.1 ∧ (fun l => (∀ a ∈ l, (fun n => (Lit.int .i64 n).wf = true) a) ∧ List.length l * 8 ≤ reachBytes) p.2.2) a) ∧ List.length l * 40 ≤ reachBytes) x ∧ VRel (Mu.start w tok) ((fun l => AV.slice (lstN (fun p => (fun a => [(AV.int .i64) a]) p.1 ++ ((fun a => [(AV.int .i64) a]) p.2.1 ++ (fun a => [(fun l => AV.slice (lstM (AV.int .i64) l)) a]) p.2.2)) l)) x) y1) (w2 : zAO .i64 w a2 len2 cap2 z2) (w3 : zAO .i64 w a3 len3 cap3 z3) (hL : laidMet Tryd.prog YtdmbfmgebgdfnaaDoor.Rows.rupSaysRow.laid w) :
   Calls Tryd.prog 8 #[.slice a0 len0 cap0, y1, .slice a2 len2 cap2, .slice a3 len3 cap3] w fun e w' => e = .returned (.bool true) ∧ Below w.heap.size w w' := by
 obtain ⟨tok, hr, hg⟩ := start hL
 obtain ⟨v0, l0, f0⟩ := zAX (tok := tok) w0
 obtain ⟨x1, g1, v1⟩ := w1 tok
 obtain ⟨v2, l2, f2⟩ := zAX (tok := tok) w2
 obtain ⟨v3, l3, f3⟩ := zAX (tok := tok) w3
 obtain ⟨F, hF⟩ : ∃ F : Nat, 2 ^ 21 ≤ F := ⟨_, Nat.le_refl _⟩
 obtain ⟨h9, hk⟩ := zw2 F 0 hF (z0.take len0) x1 (z2.take len2) (z3.take len3) (fun z hz x hx => (wf64 (((g1).1 z hz).2.2.1 x hx)).2) (fun x hx => (wf64 (f2 x hx)).2) (fun x hx => (wf64 (f3 x hx)).2) AH.none
 rw [zaD] at hk
 refine (zxv (zAQ F) (zCn F) zDp (zCr F) (f := 8) (fn := Tryd.f8) (c := zbV Tryd.f8) Tryd.func8 (by kernel_rfl) (by kernel_rfl) hk hr (hg _) rfl ?_).mono ?_
 · intro i u x hu hx
   match i with
   | 0 => simp at hu hx; subst hu; subst hx; exact v0
   | 1 => simp at hu hx; subst hu; subst hx; exact v1
   | 2 => simp at hu hx; subst hu; subst hx; exact v2
   | 3 => simp at hu hx; subst hu; subst hx; exact v3
   | i + 4 => simp at hu
 · rintro e w' ⟨x, μ', rfl, hv, _, hb⟩
   exact ⟨by rw [hv.bool_inv], hb⟩
set_option maxRecDepth 100000 in
theorem zC4 (os : Os) (started : os.Started) (H : Type) (enc : TypeId × Value → H) :
   ReturnsInHanded {} Tryd.checked os 8 .any (fun w args => (YtdmbfmgebgdfnaaDoor.Rows.rupSaysSpec.pre enc Tryd.prog Tryd.f8 YtdmbfmgebgdfnaaDoor.Rows.rupSaysRow.domain false w args ∧ laidMet Tryd.prog YtdmbfmgebgdfnaaDoor.Rows.rupSaysRow.laid w) ∧ sizedMet enc Tryd.prog Tryd.f8 (OpenSpec.ofChange YtdmbfmgebgdfnaaDoor.Rows.rupSaysSpec) false w args) (YtdmbfmgebgdfnaaDoor.Rows.rupSaysSpec.post enc Tryd.prog Tryd.f8 false true false false) := by
 refine zl2 (C := Tryd.checked) own started (by kernel_rfl) Tryd.func8
   (ChangeSpec.witness_at (enc := enc) (C := Tryd.checked) (os := os) (X := fun w _ => laidMet Tryd.prog YtdmbfmgebgdfnaaDoor.Rows.rupSaysRow.laid w) false (World.laidAll Tryd.prog os YtdmbfmgebgdfnaaDoor.Rows.rupSaysRow.laid) #[.slice none 0 0, .slice none 0 0, .slice none 0 0, .slice none 0 0] 8 (World.laidAll_os _ _ _) (by kernel_rfl) (by kernel_rfl) (by kernel_rfl) (by kernel_rfl) (by kernel_rfl) (laidMet_laidAll _ (by kernel_rfl) (by kernel_rfl))) ?_
 intro W base args ds gs before hval0 hW hcnd hsz0 _ hL _
 have hval : ∀ (j : Nat) t v, Tryd.f8.params[j]? = some t → args[j]? = some v → Value.okWide Tryd.prog W .any base t v := hval0
 have hW' := hW
 obtain ⟨p, q, hA0, hV, rfl, hfz, hnd⟩ := hW
 have hA : DataW.TrodAll enc Tryd.prog W 0 (fun _ => true) true Tryd.f8.params.toList args.toList ds p := hA0
 rw [Tryd.params8] at hA hval
 have hsz : (DataW.weightsEach Tryd.prog (Tryd.f8.params.toList ++ YtdmbfmgebgdfnaaDoor.Rows.rupSaysSpec.plain.varTypes Tryd.prog) (ds ++ gs)).all (· ≤ reachBytes) = true := hsz0
 rw [Tryd.params8] at hsz
 obtain ⟨v0, vs0, d0, ds0, p0, q0, hargs, rfl, rfl, h0, r0⟩ := trodAll_cons hA
 obtain ⟨v1, vs1, d1, ds1, p1, q1, rfl, rfl, rfl, h1, r1⟩ := trodAll_cons r0
 obtain ⟨v2, vs2, d2, ds2, p2, q2, rfl, rfl, rfl, h2, r2⟩ := trodAll_cons r1
 obtain ⟨v3, vs3, d3, ds3, p3, q3, rfl, rfl, rfl, h3, r3⟩ := trodAll_cons r2
 obtain ⟨rfl, rfl, rfl⟩ := trodAll_nil r3
 obtain rfl : args = #[v0, v1, v2, v3] := by cases args; simp_all
 obtain ⟨rfl, rfl⟩ := trodVars_none hV
 obtain ⟨a0, len0, cap0, rfl⟩ := okWide_slice Tryd.underlying22 (hval 0 22 v0 rfl rfl)
 have k0 := h0
 have lt0 : ∀ x ∈ p0, x.block < W.heap.size := by obtain ⟨m, hm⟩ := k0; exact DataW.trod_lt m _ _ _ hm
 obtain ⟨z0, w0⟩ : ∃ zs, zAO .i64 W a0 len0 cap0 zs := by
   obtain ⟨fuel, hf⟩ := h0
   rcases open_ints Tryd.underlying22 Tryd.underlying3 (by kernel_rfl) hf with ⟨hcs, _⟩ | ⟨x, l, c, zs, hcs, _, hl, hm, hz, _, hcell, hwz⟩
   · simp [Value.cells] at hcs
     obtain ⟨rfl, rfl, rfl⟩ := hcs
     exact ⟨[], .inl ⟨rfl, rfl, rfl, rfl⟩⟩
   · simp [Value.cells] at hcs
     obtain ⟨rfl, rfl, rfl⟩ := hcs
     exact ⟨zs, .inr ⟨_, rfl, hl, hm, by simpa using hz, hcell, hwz⟩⟩
 obtain ⟨aa1, len1, cap1, rfl⟩ := okWide_slice Tryd.underlying49 (hval 1 49 v1 rfl rfl)
 have k1 := h1
 have lt1 : ∀ x ∈ p1, x.block < W.heap.size := by obtain ⟨m, hm⟩ := k1; exact DataW.trod_lt m _ _ _ hm
 have wt1 : ∀ n ∈ d1.weights Tryd.prog 49, n ≤ reachBytes := fun n hn => by
   have := List.all_eq_true.1 hsz n (DataW.weights_mem_each (j := 1) rfl rfl n hn)
   simpa using this
 have w1 := fun tok => zri.one (tok := tok) (zri.slice (sz := 3) (bytes := 40) Tryd.underlying49 (zri.struct3 (s0 := 1) (s1 := 1) (s2 := 1) Tryd.underlying57 (zri.int Tryd.underlying3) (zri.int Tryd.underlying3) (zri.slice1 (bytes := 8) Tryd.underlying22 (zri.int Tryd.underlying3) (by kernel_rfl) (by kernel_rfl)) rfl (by kernel_rfl) rfl (by kernel_rfl) rfl (by kernel_rfl) (by kernel_rfl)) (by kernel_rfl) (by omega) (fun _ => rfl) (by kernel_rfl)) k1 wt1 rfl
 obtain ⟨a2, len2, cap2, rfl⟩ := okWide_slice Tryd.underlying22 (hval 2 22 v2 rfl rfl)
 have k2 := h2
 have lt2 : ∀ x ∈ p2, x.block < W.heap.size := by obtain ⟨m, hm⟩ := k2; exact DataW.trod_lt m _ _ _ hm
 obtain ⟨z2, w2⟩ : ∃ zs, zAO .i64 W a2 len2 cap2 zs := by
   obtain ⟨fuel, hf⟩ := h2
   rcases open_ints Tryd.underlying22 Tryd.underlying3 (by kernel_rfl) hf with ⟨hcs, _⟩ | ⟨x, l, c, zs, hcs, _, hl, hm, hz, _, hcell, hwz⟩
   · simp [Value.cells] at hcs
     obtain ⟨rfl, rfl, rfl⟩ := hcs
     exact ⟨[], .inl ⟨rfl, rfl, rfl, rfl⟩⟩
   · simp [Value.cells] at hcs
     obtain ⟨rfl, rfl, rfl⟩ := hcs
     exact ⟨zs, .inr ⟨_, rfl, hl, hm, by simpa using hz, hcell, hwz⟩⟩
 obtain ⟨a3, len3, cap3, rfl⟩ := okWide_slice Tryd.underlying22 (hval 3 22 v3 rfl rfl)
 have k3 := h3
 have lt3 : ∀ x ∈ p3, x.block < W.heap.size := by obtain ⟨m, hm⟩ := k3; exact DataW.trod_lt m _ _ _ hm
 obtain ⟨z3, w3⟩ : ∃ zs, zAO .i64 W a3 len3 cap3 zs := by
   obtain ⟨fuel, hf⟩ := h3
   rcases open_ints Tryd.underlying22 Tryd.underlying3 (by kernel_rfl) hf with ⟨hcs, _⟩ | ⟨x, l, c, zs, hcs, _, hl, hm, hz, _, hcell, hwz⟩
   · simp [Value.cells] at hcs
     obtain ⟨rfl, rfl, rfl⟩ := hcs
     exact ⟨[], .inl ⟨rfl, rfl, rfl, rfl⟩⟩
   · simp [Value.cells] at hcs
     obtain ⟨rfl, rfl, rfl⟩ := hcs
     exact ⟨zs, .inr ⟨_, rfl, hl, hm, by simpa using hz, hcell, hwz⟩⟩
 clear hA0 hval0
 refine (walk a0 len0 cap0 z0 (.slice aa1 len1 cap1) a2 len2 cap2 z2 a3 len3 cap3 z3 W w0 w1 w2 w3 hL).mono fun e W' ⟨he, bel⟩ => ?_
 subst he
 exact ⟨_, rfl, _, _, _, [], _, [], hW', trodAll_mk1 (shut_bool Tryd.underlying4 _), (trodAll_cons_mk (Below.trod zwx (by kernel_rfl) (of_decide_eq_true (by kernel_rfl)) k0 bel lt0) (trodAll_cons_mk (Below.trod zwx (by kernel_rfl) (of_decide_eq_true (by kernel_rfl)) k1 bel lt1) (trodAll_cons_mk (Below.trod zwx (by kernel_rfl) (of_decide_eq_true (by kernel_rfl)) k2 bel lt2) (trodAll_cons_mk (Below.trod zwx (by kernel_rfl) (of_decide_eq_true (by kernel_rfl)) k3 bel lt3) trodAll_mk0)))), rfl, bel.frame _, fun h => by cases h⟩
theorem over : YtdmbfmgebgdfnaaDoor.Rows.rupSaysRow.holds YtdmbfmgebgdfnaaDoor.Tryd.pinned (OpenSpec.ofChange YtdmbfmgebgdfnaaDoor.Rows.rupSaysSpec) :=
 OpenClaim.holds_of_wide 8 Tryd.f8 rfl rfl rfl rfl rfl rfl rfl ⟨rfl, rfl, rfl, rfl, rfl⟩ rfl rfl rfl rfl rfl (by kernel_rfl) Tryd.func8 (by kernel_rfl)
   (of_decide_eq_true (by kernel_rfl)) (by unfold Func.isWrapper; first | (rw [if_pos (by decide +kernel)]; kernel_rfl) | (rw [if_neg (by decide +kernel)]; exact ⟨rfl, rfl⟩))
   (fun os started H enc _ => zC4 os started H enc)
theorem proved : YtdmbfmgebgdfnaaDoor.Rows.RupSaysCardSaid :=
 Claim7.holds_tied_plain_at .later [] _ true _ true
   over (fun _ h => by cases h) (by kernel_rfl) (fun _ h => by cases h) YtdmbfmgebgdfnaaDoor.rupSays_row_tie rfl ⟨rfl, rfl⟩ (by kernel_rfl) rfl
   (fun f fn hf hfn => by
     obtain rfl : f = 8 := Option.some.inj ((show Tryd.prog.funcNamed YtdmbfmgebgdfnaaDoor.Rows.rupSaysRow.func = some 8 by kernel_rfl).symm.trans hf) |>.symm
     obtain rfl : fn = Tryd.f8 := (Option.some.inj (Tryd.func8.symm.trans hfn)).symm
     exact ⟨by kernel_rfl, fun j t ht => by
       rw [Tryd.params8] at ht
       have ht : ([22, 49, 22, 22] : List Nat)[j]? = some t := by simpa using ht
       have h3 := List.mem_of_getElem? ht
       have hall : ∀ t ∈ ([22, 49, 22, 22] : List Nat), Tryd.prog.wantsStandIn t = false := by
         intro t ht
         simp only [List.mem_cons, List.not_mem_nil, or_false] at ht
         rcases ht with rfl | rfl | rfl | rfl <;> kernel_rfl
       exact hall t h3⟩)
   (by kernel_rfl)
#print axioms proved
end Go.Proofs.YtdmbfmgebgdfnaaDoor.rupSaysDone
