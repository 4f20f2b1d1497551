/-
  RupTwice of the given program returns true for every input, and leaves its arguments as they were.
-/
import Derived.Test.YtdmbfmgebgdfnaaDoorTRupTwice2
import Derived.Test.YtdmbfmgebgdfnaaDoorBm28
import Derived.Test.YtdmbfmgebgdfnaaDoorRows
import Derived.WalkKit
import Derived.ProofKit
import Derived.OpenShut
import Derived.ShutString
import Derived.ChangeOld
import Derived.Below
import Derived.RowKitTokens
import Derived.Lay
import Derived.SevenTiedAt
import Derived.Test.YtdmbfmgebgdfnaaDoorTie
import Derived.Test.YtdmbfmgebgdfnaaDoorCards
namespace Go.Proofs.YtdmbfmgebgdfnaaDoor.rupTwiceDone
open Go.ChangeShapes Go.WideShapes Go.ChangeAt Go.RowKit
set_option linter.unusedVariables false

theorem own : ownKnob Tryd.prog.godebug = none := by kernel_rfl
theorem laidOut : laidOutB Tryd.prog = true := by kernel_rfl

theorem star : "*" ++ "errors.errorString" = "*errors.errorString" := by decide
theorem errT : ErrTypes Tryd.prog 28 129 146 9 "*errors.errorString" :=
  { iface := ⟨_, Tryd.underlying28⟩, name := fun u h => typeName_ptr_named (nm := "errors.errorString") (by rw [star]; kernel_rfl) (by kernel_rfl) (by decide) u (by rw [star]; exact h), ptr := Tryd.underlying129, str := ⟨_, Tryd.underlying146, rfl, rfl⟩, text := Tryd.underlying9, size := by kernel_rfl, size1 := by kernel_rfl }

theorem start {w : World} (hL : laidMet Tryd.prog YtdmbfmgebgdfnaaDoor.Rows.rupTwiceRow.laid w) : ∃ tok, HRel (Mu.start w tok) w.heap.size AHeap.none w ∧ ∀ fuel, GlobOk (C fuel) (Mu.start w tok) := by
  obtain ⟨tok, h1, h2⟩ := start_laid errT hL [(0, 0, (⟨#[97, 32, 110, 117, 109, 98, 101, 114, 32, 111, 117, 116, 32, 111, 102, 32, 105, 116, 115, 32, 114, 97, 110, 103, 101]⟩ : ByteArray))]
    (List.forall_mem_cons.2 ⟨⟨"skolem/api.ErrRange", rfl, by kernel_rfl, by kernel_rfl⟩, fun e h => by cases h⟩) (by decide)
  exact ⟨tok, h1, fun fuel g v hg => h2 g v hg⟩

set_option maxRecDepth 100000 in
theorem walk (a0 : Option Addr) (len0 cap0 : Nat) (z0 : List Int) (a1 : Int) (a2 : Option Addr) (len2 cap2 : Nat) (z2 : List Int) (w : World) (w0 : IsRow .i64 w a0 len0 cap0 z0) (w1 : (Lit.int .i64 a1).wf = true) (w2 : IsRow .i64 w a2 len2 cap2 z2) (hL : laidMet Tryd.prog YtdmbfmgebgdfnaaDoor.Rows.rupTwiceRow.laid w) :
    Calls Tryd.prog 6 #[.slice a0 len0 cap0, .int .i64 a1, .slice a2 len2 cap2] w fun e w' => e = .returned (.bool true) ∧ Below w.heap.size w w' := by
  obtain ⟨tok, hr, hg⟩ := start hL
  obtain ⟨v0, l0, f0⟩ := rowArg (tok := tok) w0
  obtain ⟨v2, l2, f2⟩ := rowArg (tok := tok) w2
  obtain ⟨F, hF⟩ : ∃ F : Nat, 2 ^ 21 ≤ F := ⟨_, Nat.le_refl _⟩
  obtain ⟨h9, hk⟩ := rupTwice_run F 0 hF (z0.take len0) a1 (z2.take len2) AHeap.none
  rw [run_is] at hk
  refine (acall_calls (types_ok F) (funs_ok F) mixed (exts_ok F) (f := 6) (fn := Tryd.f6) (c := fbody Tryd.f6) Tryd.func6 (by kernel_rfl) (by kernel_rfl) hk hr (hg _) rfl ?_).mono ?_
  · intro i u x hu hx
    match i with
    | 0 => simp at hu hx; subst hu; subst hx; exact v0
    | 1 => simp at hu hx; subst hu; subst hx; exact .int
    | 2 => simp at hu hx; subst hu; subst hx; exact v2
    | i + 3 => simp at hu
  · rintro e w' ⟨x, μ', rfl, hv, _, hb⟩
    exact ⟨by rw [hv.bool_inv], hb⟩

set_option maxRecDepth 100000 in
theorem lifted (os : Os) (started : os.Started) (H : Type) (enc : TypeId × Value → H) :
    ReturnsInHanded {} Tryd.checked os 6 .any (fun w args => (YtdmbfmgebgdfnaaDoor.Rows.rupTwiceSpec.pre enc Tryd.prog Tryd.f6 YtdmbfmgebgdfnaaDoor.Rows.rupTwiceRow.domain false w args ∧ laidMet Tryd.prog YtdmbfmgebgdfnaaDoor.Rows.rupTwiceRow.laid w) ∧ sizedMet enc Tryd.prog Tryd.f6 (OpenSpec.ofChange YtdmbfmgebgdfnaaDoor.Rows.rupTwiceSpec) false w args) (YtdmbfmgebgdfnaaDoor.Rows.rupTwiceSpec.post enc Tryd.prog Tryd.f6 false true false false) := by
  refine returnsInHanded_of_change_laid (C := Tryd.checked) own started (by kernel_rfl) Tryd.func6
    (ChangeSpec.witness_at (enc := enc) (C := Tryd.checked) (os := os) (X := fun w _ => laidMet Tryd.prog YtdmbfmgebgdfnaaDoor.Rows.rupTwiceRow.laid w) false (World.laidAll Tryd.prog os YtdmbfmgebgdfnaaDoor.Rows.rupTwiceRow.laid) #[.slice none 0 0, .int .i64 0, .slice none 0 0] 8 (World.laidAll_os _ _ _) (by kernel_rfl) (by kernel_rfl) (by kernel_rfl) (by kernel_rfl) (by kernel_rfl) (laidMet_laidAll _ (by kernel_rfl) (by kernel_rfl))) ?_
  intro W base args ds gs before hval0 hW hcnd hsz0 _ hL _
  have hval : ∀ (j : Nat) t v, Tryd.f6.params[j]? = some t → args[j]? = some v → Value.okWide Tryd.prog W .any base t v := hval0
  have hW' := hW
  obtain ⟨p, q, hA0, hV, rfl, hfz, hnd⟩ := hW
  have hA : DataW.TrodAll enc Tryd.prog W 0 (fun _ => true) true Tryd.f6.params.toList args.toList ds p := hA0
  rw [Tryd.params6] at hA hval
  obtain ⟨v0, vs0, d0, ds0, p0, q0, hargs, rfl, rfl, h0, r0⟩ := trodAll_cons hA
  obtain ⟨v1, vs1, d1, ds1, p1, q1, rfl, rfl, rfl, h1, r1⟩ := trodAll_cons r0
  obtain ⟨v2, vs2, d2, ds2, p2, q2, rfl, rfl, rfl, h2, r2⟩ := trodAll_cons r1
  obtain ⟨rfl, rfl, rfl⟩ := trodAll_nil r2
  obtain rfl : args = #[v0, v1, v2] := by cases args; simp_all
  obtain ⟨rfl, rfl⟩ := trodVars_none hV
  obtain ⟨a0, len0, cap0, rfl⟩ := okWide_slice Tryd.underlying22 (hval 0 22 v0 rfl rfl)
  have k0 := h0
  have lt0 : ∀ x ∈ p0, x.block < W.heap.size := by obtain ⟨m, hm⟩ := k0; exact DataW.trod_lt m _ _ _ hm
  obtain ⟨z0, w0⟩ : ∃ zs, IsRow .i64 W a0 len0 cap0 zs := by
    obtain ⟨fuel, hf⟩ := h0
    rcases open_ints Tryd.underlying22 Tryd.underlying3 (by kernel_rfl) hf with ⟨hcs, _⟩ | ⟨x, l, c, zs, hcs, _, hl, hm, hz, _, hcell, hwz⟩
    · simp [Value.cells] at hcs
      obtain ⟨rfl, rfl, rfl⟩ := hcs
      exact ⟨[], .inl ⟨rfl, rfl, rfl, rfl⟩⟩
    · simp [Value.cells] at hcs
      obtain ⟨rfl, rfl, rfl⟩ := hcs
      exact ⟨zs, .inr ⟨_, rfl, hl, hm, by simpa using hz, hcell, hwz⟩⟩
  obtain ⟨a1, rfl, rfl, rfl, w1⟩ := open_int Tryd.underlying3 (hval 1 3 v1 rfl rfl) h1
  obtain ⟨a2, len2, cap2, rfl⟩ := okWide_slice Tryd.underlying22 (hval 2 22 v2 rfl rfl)
  have k2 := h2
  have lt2 : ∀ x ∈ p2, x.block < W.heap.size := by obtain ⟨m, hm⟩ := k2; exact DataW.trod_lt m _ _ _ hm
  obtain ⟨z2, w2⟩ : ∃ zs, IsRow .i64 W a2 len2 cap2 zs := by
    obtain ⟨fuel, hf⟩ := h2
    rcases open_ints Tryd.underlying22 Tryd.underlying3 (by kernel_rfl) hf with ⟨hcs, _⟩ | ⟨x, l, c, zs, hcs, _, hl, hm, hz, _, hcell, hwz⟩
    · simp [Value.cells] at hcs
      obtain ⟨rfl, rfl, rfl⟩ := hcs
      exact ⟨[], .inl ⟨rfl, rfl, rfl, rfl⟩⟩
    · simp [Value.cells] at hcs
      obtain ⟨rfl, rfl, rfl⟩ := hcs
      exact ⟨zs, .inr ⟨_, rfl, hl, hm, by simpa using hz, hcell, hwz⟩⟩
  clear hA0 hval0
  refine (walk a0 len0 cap0 z0 a1 a2 len2 cap2 z2 W w0 w1 w2 hL).mono fun e W' ⟨he, bel⟩ => ?_
  subst he
  exact ⟨_, rfl, _, _, _, [], _, [], hW', trodAll_mk1 (shut_bool Tryd.underlying4 _), (trodAll_cons_mk (Below.trod laidOut (by kernel_rfl) (of_decide_eq_true (by kernel_rfl)) k0 bel lt0) (trodAll_cons_mk (shut_int Tryd.underlying3 w1) (trodAll_cons_mk (Below.trod laidOut (by kernel_rfl) (of_decide_eq_true (by kernel_rfl)) k2 bel lt2) trodAll_mk0))), rfl, bel.frame _, fun h => by cases h⟩

theorem over : YtdmbfmgebgdfnaaDoor.Rows.rupTwiceRow.holds YtdmbfmgebgdfnaaDoor.Tryd.pinned (OpenSpec.ofChange YtdmbfmgebgdfnaaDoor.Rows.rupTwiceSpec) :=
  OpenClaim.holds_of_wide 6 Tryd.f6 rfl rfl rfl rfl rfl rfl rfl ⟨rfl, rfl, rfl, rfl, rfl⟩ rfl rfl rfl rfl rfl (by kernel_rfl) Tryd.func6 (by kernel_rfl)
    (of_decide_eq_true (by kernel_rfl)) (by unfold Func.isWrapper; first | (rw [if_pos (by decide +kernel)]; kernel_rfl) | (rw [if_neg (by decide +kernel)]; exact ⟨rfl, rfl⟩))
    (fun os started H enc _ => lifted os started H enc)

/-- the statement -/
theorem proved : YtdmbfmgebgdfnaaDoor.Rows.RupTwiceCardSaid :=
  Claim7.holds_tied_plain_at .later [] _ true _ true
    over (fun _ h => by cases h) (by kernel_rfl) (fun _ h => by cases h) YtdmbfmgebgdfnaaDoor.rupTwice_row_tie rfl ⟨rfl, rfl⟩ (by kernel_rfl) rfl
    (fun f fn hf hfn => by
      obtain rfl : f = 6 := Option.some.inj ((show Tryd.prog.funcNamed YtdmbfmgebgdfnaaDoor.Rows.rupTwiceRow.func = some 6 by kernel_rfl).symm.trans hf) |>.symm
      obtain rfl : fn = Tryd.f6 := (Option.some.inj (Tryd.func6.symm.trans hfn)).symm
      exact ⟨by kernel_rfl, fun j t ht => by
        rw [Tryd.params6] at ht
        have ht : ([22, 3, 22] : List Nat)[j]? = some t := by simpa using ht
        have h3 := List.mem_of_getElem? ht
        have hall : ∀ t ∈ ([22, 3, 22] : List Nat), Tryd.prog.wantsStandIn t = false := by
          intro t ht
          simp only [List.mem_cons, List.not_mem_nil, or_false] at ht
          rcases ht with rfl | rfl | rfl <;> kernel_rfl
        exact hall t h3⟩)
    (by kernel_rfl)
#print axioms proved
end Go.Proofs.YtdmbfmgebgdfnaaDoor.rupTwiceDone
