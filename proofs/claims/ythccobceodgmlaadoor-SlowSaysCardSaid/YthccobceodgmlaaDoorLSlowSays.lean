/-
  SlowSays of the given program returns true for every input, and leaves its arguments as they were.
-/
import Derived.Test.YthccobceodgmlaaDoorS15
import Derived.Test.YthccobceodgmlaaDoorBm28
import Derived.Test.YthccobceodgmlaaDoorRows
import Derived.WalkKit
import Derived.ProofKit
import Derived.OpenShut
import Derived.ShutString
import Derived.ChangeOld
import Derived.Below
import Derived.RowKitTokens
import Derived.Lay
import Derived.SevenTiedAt
import Derived.Test.YthccobceodgmlaaDoorTie
import Derived.Test.YthccobceodgmlaaDoorCards
namespace Go.Proofs.YthccobceodgmlaaDoor.slowSaysDone
open Go.ChangeShapes Go.WideShapes Go.ChangeAt Go.RowKit
set_option linter.unusedVariables false

theorem own : ownKnob Tryd.prog.godebug = none := by kernel_rfl
theorem laidOut : laidOutB Tryd.prog = true := by kernel_rfl

theorem star : "*" ++ "errors.errorString" = "*errors.errorString" := by decide
theorem errT : ErrTypes Tryd.prog 29 122 124 9 "*errors.errorString" :=
  { iface := ⟨_, Tryd.underlying29⟩, name := fun u h => typeName_ptr_named (nm := "errors.errorString") (by rw [star]; kernel_rfl) (by kernel_rfl) (by decide) u (by rw [star]; exact h), ptr := Tryd.underlying122, str := ⟨_, Tryd.underlying124, rfl, rfl⟩, text := Tryd.underlying9, size := by kernel_rfl, size1 := by kernel_rfl }

theorem start {w : World} (hL : laidMet Tryd.prog YthccobceodgmlaaDoor.Rows.slowSaysRow.laid w) : ∃ tok, HRel (Mu.start w tok) w.heap.size AHeap.none w ∧ ∀ fuel, GlobOk (C fuel) (Mu.start w tok) := by
  obtain ⟨tok, h1, h2⟩ := start_laid errT hL [(0, 1, (⟨#[97, 32, 110, 117, 109, 98, 101, 114, 32, 111, 117, 116, 32, 111, 102, 32, 105, 116, 115, 32, 114, 97, 110, 103, 101]⟩ : ByteArray)), (1, 0, (⟨#[109, 111, 114, 101, 32, 116, 104, 97, 110, 32, 109, 97, 121, 32, 98, 101]⟩ : ByteArray))]
    (List.forall_mem_cons.2 ⟨⟨"skolem/api.ErrRange", rfl, by kernel_rfl, by kernel_rfl⟩, List.forall_mem_cons.2 ⟨⟨"skolem/api.ErrLimit", rfl, by kernel_rfl, by kernel_rfl⟩, fun e h => by cases h⟩⟩) (by decide)
  exact ⟨tok, h1, fun fuel g v hg => h2 g v hg⟩

set_option maxRecDepth 100000 in
theorem walk (a0 : Option Addr) (len0 cap0 : Nat) (z0 : List Int) (a1 : Int) (a2 : Int) (a3 : Bool) (a4 : Int) (w : World) (w0 : IsRow .i64 w a0 len0 cap0 z0) (w1 : (Lit.int .i64 a1).wf = true) (w2 : (Lit.int .i64 a2).wf = true) (w4 : (Lit.int .i64 a4).wf = true) (hL : laidMet Tryd.prog YthccobceodgmlaaDoor.Rows.slowSaysRow.laid w) :
    Calls Tryd.prog 5 #[.slice a0 len0 cap0, .int .i64 a1, .int .i64 a2, .bool a3, .int .i64 a4] w fun e w' => e = .returned (.bool true) ∧ Below w.heap.size w w' := by
  obtain ⟨tok, hr, hg⟩ := start hL
  obtain ⟨v0, l0, f0⟩ := rowArg (tok := tok) w0
  obtain ⟨F, hF⟩ : ∃ F : Nat, 2 ^ 21 ≤ F := ⟨_, Nat.le_refl _⟩
  obtain ⟨h9, hk⟩ := slowSays_run F 0 hF (z0.take len0) a1 a2 a4 a3 AHeap.none
  rw [run_is] at hk
  refine (acall_calls (types_ok F) (funs_ok F) mixed (exts_ok F) (f := 5) (fn := Tryd.f5) (c := fbody Tryd.f5) Tryd.func5 (by kernel_rfl) (by kernel_rfl) hk hr (hg _) rfl ?_).mono ?_
  · intro i u x hu hx
    match i with
    | 0 => simp at hu hx; subst hu; subst hx; exact v0
    | 1 => simp at hu hx; subst hu; subst hx; exact .int
    | 2 => simp at hu hx; subst hu; subst hx; exact .int
    | 3 => simp at hu hx; subst hu; subst hx; exact .bool
    | 4 => simp at hu hx; subst hu; subst hx; exact .int
    | i + 5 => simp at hu
  · rintro e w' ⟨x, μ', rfl, hv, _, hb⟩
    exact ⟨by rw [hv.bool_inv], hb⟩

set_option maxRecDepth 100000 in
theorem lifted (os : Os) (started : os.Started) (H : Type) (enc : TypeId × Value → H) :
    ReturnsInHanded {} Tryd.checked os 5 .any (fun w args => (YthccobceodgmlaaDoor.Rows.slowSaysSpec.pre enc Tryd.prog Tryd.f5 YthccobceodgmlaaDoor.Rows.slowSaysRow.domain false w args ∧ laidMet Tryd.prog YthccobceodgmlaaDoor.Rows.slowSaysRow.laid w) ∧ sizedMet enc Tryd.prog Tryd.f5 (OpenSpec.ofChange YthccobceodgmlaaDoor.Rows.slowSaysSpec) false w args) (YthccobceodgmlaaDoor.Rows.slowSaysSpec.post enc Tryd.prog Tryd.f5 false true false false) := by
  refine returnsInHanded_of_change_laid (C := Tryd.checked) own started (by kernel_rfl) Tryd.func5
    (ChangeSpec.witness_at (enc := enc) (C := Tryd.checked) (os := os) (X := fun w _ => laidMet Tryd.prog YthccobceodgmlaaDoor.Rows.slowSaysRow.laid w) false (World.laidAll Tryd.prog os YthccobceodgmlaaDoor.Rows.slowSaysRow.laid) #[.slice none 0 0, .int .i64 0, .int .i64 0, .bool false, .int .i64 0] 8 (World.laidAll_os _ _ _) (by kernel_rfl) (by kernel_rfl) (by kernel_rfl) (by kernel_rfl) (by kernel_rfl) (laidMet_laidAll _ (by kernel_rfl) (by kernel_rfl))) ?_
  intro W base args ds gs before hval0 hW hcnd hsz0 _ hL _
  have hval : ∀ (j : Nat) t v, Tryd.f5.params[j]? = some t → args[j]? = some v → Value.okWide Tryd.prog W .any base t v := hval0
  have hW' := hW
  obtain ⟨p, q, hA0, hV, rfl, hfz, hnd⟩ := hW
  have hA : DataW.TrodAll enc Tryd.prog W 0 (fun _ => true) true Tryd.f5.params.toList args.toList ds p := hA0
  rw [Tryd.params5] at hA hval
  obtain ⟨v0, vs0, d0, ds0, p0, q0, hargs, rfl, rfl, h0, r0⟩ := trodAll_cons hA
  obtain ⟨v1, vs1, d1, ds1, p1, q1, rfl, rfl, rfl, h1, r1⟩ := trodAll_cons r0
  obtain ⟨v2, vs2, d2, ds2, p2, q2, rfl, rfl, rfl, h2, r2⟩ := trodAll_cons r1
  obtain ⟨v3, vs3, d3, ds3, p3, q3, rfl, rfl, rfl, h3, r3⟩ := trodAll_cons r2
  obtain ⟨v4, vs4, d4, ds4, p4, q4, rfl, rfl, rfl, h4, r4⟩ := trodAll_cons r3
  obtain ⟨rfl, rfl, rfl⟩ := trodAll_nil r4
  obtain rfl : args = #[v0, v1, v2, v3, v4] := by cases args; simp_all
  obtain ⟨rfl, rfl⟩ := trodVars_none hV
  obtain ⟨a0, len0, cap0, rfl⟩ := okWide_slice Tryd.underlying22 (hval 0 22 v0 rfl rfl)
  have k0 := h0
  have lt0 : ∀ x ∈ p0, x.block < W.heap.size := by obtain ⟨m, hm⟩ := k0; exact DataW.trod_lt m _ _ _ hm
  obtain ⟨z0, w0⟩ : ∃ zs, IsRow .i64 W a0 len0 cap0 zs := by
    obtain ⟨fuel, hf⟩ := h0
    rcases open_ints Tryd.underlying22 Tryd.underlying3 (by kernel_rfl) hf with ⟨hcs, _⟩ | ⟨x, l, c, zs, hcs, _, hl, hm, hz, _, hcell, hwz⟩
    · simp [Value.cells] at hcs
      obtain ⟨rfl, rfl, rfl⟩ := hcs
      exact ⟨[], .inl ⟨rfl, rfl, rfl, rfl⟩⟩
    · simp [Value.cells] at hcs
      obtain ⟨rfl, rfl, rfl⟩ := hcs
      exact ⟨zs, .inr ⟨_, rfl, hl, hm, by simpa using hz, hcell, hwz⟩⟩
  obtain ⟨a1, rfl, rfl, rfl, w1⟩ := open_int Tryd.underlying3 (hval 1 3 v1 rfl rfl) h1
  obtain ⟨a2, rfl, rfl, rfl, w2⟩ := open_int Tryd.underlying3 (hval 2 3 v2 rfl rfl) h2
  obtain ⟨a3, rfl, rfl, rfl⟩ := open_bool Tryd.underlying4 (hval 3 4 v3 rfl rfl) h3
  obtain ⟨a4, rfl, rfl, rfl, w4⟩ := open_int Tryd.underlying3 (hval 4 3 v4 rfl rfl) h4
  clear hA0 hval0
  refine (walk a0 len0 cap0 z0 a1 a2 a3 a4 W w0 w1 w2 w4 hL).mono fun e W' ⟨he, bel⟩ => ?_
  subst he
  exact ⟨_, rfl, _, _, _, [], _, [], hW', trodAll_mk1 (shut_bool Tryd.underlying4 _), (trodAll_cons_mk (Below.trod laidOut (by kernel_rfl) (of_decide_eq_true (by kernel_rfl)) k0 bel lt0) (trodAll_cons_mk (shut_int Tryd.underlying3 w1) (trodAll_cons_mk (shut_int Tryd.underlying3 w2) (trodAll_cons_mk (shut_bool Tryd.underlying4 a3) (trodAll_cons_mk (shut_int Tryd.underlying3 w4) trodAll_mk0))))), rfl, bel.frame _, fun h => by cases h⟩

theorem over : YthccobceodgmlaaDoor.Rows.slowSaysRow.holds YthccobceodgmlaaDoor.Tryd.pinned (OpenSpec.ofChange YthccobceodgmlaaDoor.Rows.slowSaysSpec) :=
  OpenClaim.holds_of_wide 5 Tryd.f5 rfl rfl rfl rfl rfl rfl rfl ⟨rfl, rfl, rfl, rfl, rfl⟩ rfl rfl rfl rfl rfl (by kernel_rfl) Tryd.func5 (by kernel_rfl)
    (of_decide_eq_true (by kernel_rfl)) (by unfold Func.isWrapper; first | (rw [if_pos (by decide +kernel)]; kernel_rfl) | (rw [if_neg (by decide +kernel)]; exact ⟨rfl, rfl⟩))
    (fun os started H enc _ => lifted os started H enc)

/-- the statement -/
theorem proved : YthccobceodgmlaaDoor.Rows.SlowSaysCardSaid :=
  Claim7.holds_tied_plain_at .later [] _ true _ true
    over (fun _ h => by cases h) (by kernel_rfl) (fun _ h => by cases h) YthccobceodgmlaaDoor.slowSays_row_tie rfl ⟨rfl, rfl⟩ (by kernel_rfl) rfl
    (fun f fn hf hfn => by
      obtain rfl : f = 5 := Option.some.inj ((show Tryd.prog.funcNamed YthccobceodgmlaaDoor.Rows.slowSaysRow.func = some 5 by kernel_rfl).symm.trans hf) |>.symm
      obtain rfl : fn = Tryd.f5 := (Option.some.inj (Tryd.func5.symm.trans hfn)).symm
      exact ⟨by kernel_rfl, fun j t ht => by
        rw [Tryd.params5] at ht
        have ht : ([22, 3, 3, 4, 3] : List Nat)[j]? = some t := by simpa using ht
        have h3 := List.mem_of_getElem? ht
        have hall : ∀ t ∈ ([22, 3, 3, 4, 3] : List Nat), Tryd.prog.wantsStandIn t = false := by
          intro t ht
          simp only [List.mem_cons, List.not_mem_nil, or_false] at ht
          rcases ht with rfl | rfl | rfl | rfl | rfl <;> kernel_rfl
        exact hall t h3⟩)
    (by kernel_rfl)
#print axioms proved
end Go.Proofs.YthccobceodgmlaaDoor.slowSaysDone
