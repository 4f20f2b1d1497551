/-
  AagTurned of the given program returns true for every input, and leaves its arguments as they were.
-/
import Derived.Test.YtmjbjgbcpaagmaaDoorTAagTurned2
import Derived.Test.YtmjbjgbcpaagmaaDoorBm28
import Derived.Test.YtmjbjgbcpaagmaaDoorRows
import Derived.WalkKit
import Derived.ProofKit
import Derived.OpenShut
import Derived.ShutString
import Derived.ChangeOld
import Derived.Below
import Derived.RowKitTokens
import Derived.Lay
import Derived.SevenTiedAt
import Derived.Test.YtmjbjgbcpaagmaaDoorTie
import Derived.Test.YtmjbjgbcpaagmaaDoorCards
namespace Go.Proofs.YtmjbjgbcpaagmaaDoor.aagTurnedDone
open Go.ChangeShapes Go.WideShapes Go.ChangeAt Go.RowKit
set_option linter.unusedVariables false

theorem own : ownKnob Tryd.prog.godebug = none := by kernel_rfl
theorem laidOut : laidOutB Tryd.prog = true := by kernel_rfl

theorem star : "*" ++ "errors.errorString" = "*errors.errorString" := by decide
theorem errT : ErrTypes Tryd.prog 29 160 162 9 "*errors.errorString" :=
  { iface := ⟨_, Tryd.underlying29⟩, name := fun u h => typeName_ptr_named (nm := "errors.errorString") (by rw [star]; kernel_rfl) (by kernel_rfl) (by decide) u (by rw [star]; exact h), ptr := Tryd.underlying160, str := ⟨_, Tryd.underlying162, rfl, rfl⟩, text := Tryd.underlying9, size := by kernel_rfl, size1 := by kernel_rfl }

theorem start {w : World} (hL : laidMet Tryd.prog YtmjbjgbcpaagmaaDoor.Rows.aagTurnedRow.laid w) : ∃ tok, HRel (Mu.start w tok) w.heap.size AHeap.none w ∧ ∀ fuel, GlobOk (C fuel) (Mu.start w tok) := by
  obtain ⟨tok, h1, h2⟩ := start_laid errT hL [(0, 6, (⟨#[109, 111, 114, 101, 32, 116, 104, 97, 110, 32, 109, 97, 121, 32, 98, 101]⟩ : ByteArray)), (1, 5, (⟨#[110, 111, 116, 32, 97, 115, 32, 105, 116, 32, 105, 115, 32, 119, 114, 105, 116, 116, 101, 110]⟩ : ByteArray)), (3, 7, (⟨#[116, 104, 101, 32, 98, 117, 100, 103, 101, 116, 32, 105, 115, 32, 117, 115, 101, 100, 32, 117, 112]⟩ : ByteArray)), (4, 8, (⟨#[97, 32, 110, 117, 109, 98, 101, 114, 32, 111, 117, 116, 32, 111, 102, 32, 105, 116, 115, 32, 114, 97, 110, 103, 101]⟩ : ByteArray)), (5, 9, (⟨#[109, 111, 114, 101, 32, 116, 104, 97, 110, 32, 116, 119, 111, 32, 98, 108, 111, 99, 107, 115]⟩ : ByteArray)), (6, 10, (⟨#[97, 32, 115, 116, 101, 112, 32, 116, 104, 97, 116, 32, 100, 111, 101, 115, 32, 110, 111, 116, 32, 102, 111, 108, 108, 111, 119]⟩ : ByteArray)), (7, 11, (⟨#[110, 111, 32, 99, 101, 114, 116, 105, 102, 105, 99, 97, 116, 101, 32, 111, 102, 32, 105, 116]⟩ : ByteArray))]
    (List.forall_mem_cons.2 ⟨⟨"skolem/api.ErrLimit", rfl, by kernel_rfl, by kernel_rfl⟩, List.forall_mem_cons.2 ⟨⟨"skolem/api.ErrText", rfl, by kernel_rfl, by kernel_rfl⟩, List.forall_mem_cons.2 ⟨⟨"skolem/api.ErrBudget", rfl, by kernel_rfl, by kernel_rfl⟩, List.forall_mem_cons.2 ⟨⟨"skolem/api.ErrRange", rfl, by kernel_rfl, by kernel_rfl⟩, List.forall_mem_cons.2 ⟨⟨"skolem/api.ErrBlocks", rfl, by kernel_rfl, by kernel_rfl⟩, List.forall_mem_cons.2 ⟨⟨"skolem/api.ErrProof", rfl, by kernel_rfl, by kernel_rfl⟩, List.forall_mem_cons.2 ⟨⟨"skolem/api.ErrCert", rfl, by kernel_rfl, by kernel_rfl⟩, fun e h => by cases h⟩⟩⟩⟩⟩⟩⟩) (by decide)
  exact ⟨tok, h1, fun fuel g v hg => by
    have hg1 : globs g = some v := hg
    unfold globs at hg1
    simp only [Bool.cond_eq_ite] at hg1
    split at hg1
    · rename_i e
      rw [nbeq] at e
      subst e
      cases hg1
      exact ⟨rfl, tab_start (xs := [1,10,100,1000,10000,100000,1000000,10000000,100000000,1000000000,10000000000,100000000000,1000000000000,10000000000000,100000000000000,1000000000000000,10000000000000000,100000000000000000,1000000000000000000,10000000000000000000]) (kd := .u64) (k := 2) (n := "internal/strconv.uint64pow10") hL rfl (by kernel_rfl) (by kernel_rfl) Tryd.underlying146 Tryd.underlying129 (by kernel_rfl) (by kernel_rfl)⟩
    exact h2 g v hg1⟩

set_option maxRecDepth 100000 in
theorem walk (a0 : Int) (a1 : Option Addr) (len1 cap1 : Nat) (z1 : List Int) (a2 : Int) (w : World) (w0 : (Lit.int .i64 a0).wf = true) (w1 : IsRow .i64 w a1 len1 cap1 z1) (w2 : (Lit.int .i64 a2).wf = true) (hL : laidMet Tryd.prog YtmjbjgbcpaagmaaDoor.Rows.aagTurnedRow.laid w) :
    Calls Tryd.prog 4 #[.int .i64 a0, .slice a1 len1 cap1, .int .i64 a2] w fun e w' => e = .returned (.bool true) ∧ Below w.heap.size w w' := by
  obtain ⟨tok, hr, hg⟩ := start hL
  obtain ⟨v1, l1, f1⟩ := rowArg (tok := tok) w1
  obtain ⟨F, hF⟩ : ∃ F : Nat, 2 ^ 21 ≤ F := ⟨_, Nat.le_refl _⟩
  obtain ⟨h9, hk⟩ := aagTurned_run F 0 hF a0 (z1.take len1) a2 (wf64 w2) AHeap.none
  rw [run_is] at hk
  refine (acall_calls (types_ok F) (funs_ok F) mixed (exts_ok F) (f := 4) (fn := Tryd.f4) (c := fbody Tryd.f4) Tryd.func4 (by kernel_rfl) (by kernel_rfl) hk hr (hg _) rfl ?_).mono ?_
  · intro i u x hu hx
    match i with
    | 0 => simp at hu hx; subst hu; subst hx; exact .int
    | 1 => simp at hu hx; subst hu; subst hx; exact v1
    | 2 => simp at hu hx; subst hu; subst hx; exact .int
    | i + 3 => simp at hu
  · rintro e w' ⟨x, μ', rfl, hv, _, hb⟩
    exact ⟨by rw [hv.bool_inv], hb⟩

set_option maxRecDepth 100000 in
theorem lifted (os : Os) (started : os.Started) (H : Type) (enc : TypeId × Value → H) :
    ReturnsInHanded {} Tryd.checked os 4 .any (fun w args => (YtmjbjgbcpaagmaaDoor.Rows.aagTurnedSpec.pre enc Tryd.prog Tryd.f4 YtmjbjgbcpaagmaaDoor.Rows.aagTurnedRow.domain false w args ∧ laidMet Tryd.prog YtmjbjgbcpaagmaaDoor.Rows.aagTurnedRow.laid w) ∧ sizedMet enc Tryd.prog Tryd.f4 (OpenSpec.ofChange YtmjbjgbcpaagmaaDoor.Rows.aagTurnedSpec) false w args) (YtmjbjgbcpaagmaaDoor.Rows.aagTurnedSpec.post enc Tryd.prog Tryd.f4 false true false false) := by
  refine returnsInHanded_of_change_laid (C := Tryd.checked) own started (by kernel_rfl) Tryd.func4
    (ChangeSpec.witness_at (enc := enc) (C := Tryd.checked) (os := os) (X := fun w _ => laidMet Tryd.prog YtmjbjgbcpaagmaaDoor.Rows.aagTurnedRow.laid w) false (World.laidAll Tryd.prog os YtmjbjgbcpaagmaaDoor.Rows.aagTurnedRow.laid) #[.int .i64 0, .slice none 0 0, .int .i64 0] 8 (World.laidAll_os _ _ _) (by kernel_rfl) (by kernel_rfl) (by kernel_rfl) (by kernel_rfl) (by kernel_rfl) (laidMet_laidAll _ (by kernel_rfl) (by kernel_rfl))) ?_
  intro W base args ds gs before hval0 hW hcnd hsz0 _ hL _
  have hval : ∀ (j : Nat) t v, Tryd.f4.params[j]? = some t → args[j]? = some v → Value.okWide Tryd.prog W .any base t v := hval0
  have hW' := hW
  obtain ⟨p, q, hA0, hV, rfl, hfz, hnd⟩ := hW
  have hA : DataW.TrodAll enc Tryd.prog W 0 (fun _ => true) true Tryd.f4.params.toList args.toList ds p := hA0
  rw [Tryd.params4] at hA hval
  obtain ⟨v0, vs0, d0, ds0, p0, q0, hargs, rfl, rfl, h0, r0⟩ := trodAll_cons hA
  obtain ⟨v1, vs1, d1, ds1, p1, q1, rfl, rfl, rfl, h1, r1⟩ := trodAll_cons r0
  obtain ⟨v2, vs2, d2, ds2, p2, q2, rfl, rfl, rfl, h2, r2⟩ := trodAll_cons r1
  obtain ⟨rfl, rfl, rfl⟩ := trodAll_nil r2
  obtain rfl : args = #[v0, v1, v2] := by cases args; simp_all
  obtain ⟨rfl, rfl⟩ := trodVars_none hV
  obtain ⟨a0, rfl, rfl, rfl, w0⟩ := open_int Tryd.underlying3 (hval 0 3 v0 rfl rfl) h0
  obtain ⟨a1, len1, cap1, rfl⟩ := okWide_slice Tryd.underlying25 (hval 1 25 v1 rfl rfl)
  have k1 := h1
  have lt1 : ∀ x ∈ p1, x.block < W.heap.size := by obtain ⟨m, hm⟩ := k1; exact DataW.trod_lt m _ _ _ hm
  obtain ⟨z1, w1⟩ : ∃ zs, IsRow .i64 W a1 len1 cap1 zs := by
    obtain ⟨fuel, hf⟩ := h1
    rcases open_ints Tryd.underlying25 Tryd.underlying3 (by kernel_rfl) hf with ⟨hcs, _⟩ | ⟨x, l, c, zs, hcs, _, hl, hm, hz, _, hcell, hwz⟩
    · simp [Value.cells] at hcs
      obtain ⟨rfl, rfl, rfl⟩ := hcs
      exact ⟨[], .inl ⟨rfl, rfl, rfl, rfl⟩⟩
    · simp [Value.cells] at hcs
      obtain ⟨rfl, rfl, rfl⟩ := hcs
      exact ⟨zs, .inr ⟨_, rfl, hl, hm, by simpa using hz, hcell, hwz⟩⟩
  obtain ⟨a2, rfl, rfl, rfl, w2⟩ := open_int Tryd.underlying3 (hval 2 3 v2 rfl rfl) h2
  clear hA0 hval0
  refine (walk a0 a1 len1 cap1 z1 a2 W w0 w1 w2 hL).mono fun e W' ⟨he, bel⟩ => ?_
  subst he
  exact ⟨_, rfl, _, _, _, [], _, [], hW', trodAll_mk1 (shut_bool Tryd.underlying4 _), (trodAll_cons_mk (shut_int Tryd.underlying3 w0) (trodAll_cons_mk (Below.trod laidOut (by kernel_rfl) (of_decide_eq_true (by kernel_rfl)) k1 bel lt1) (trodAll_cons_mk (shut_int Tryd.underlying3 w2) trodAll_mk0))), rfl, bel.frame _, fun h => by cases h⟩

theorem over : YtmjbjgbcpaagmaaDoor.Rows.aagTurnedRow.holds YtmjbjgbcpaagmaaDoor.Tryd.pinned (OpenSpec.ofChange YtmjbjgbcpaagmaaDoor.Rows.aagTurnedSpec) :=
  OpenClaim.holds_of_wide 4 Tryd.f4 rfl rfl rfl rfl rfl rfl rfl ⟨rfl, rfl, rfl, rfl, rfl⟩ rfl rfl rfl rfl rfl (by kernel_rfl) Tryd.func4 (by kernel_rfl)
    (of_decide_eq_true (by kernel_rfl)) (by unfold Func.isWrapper; first | (rw [if_pos (by decide +kernel)]; kernel_rfl) | (rw [if_neg (by decide +kernel)]; exact ⟨rfl, rfl⟩))
    (fun os started H enc _ => lifted os started H enc)

/-- the statement -/
theorem proved : YtmjbjgbcpaagmaaDoor.Rows.AagTurnedCardSaid :=
  Claim7.holds_tied_plain_at .later [] _ true _ true
    over (fun _ h => by cases h) (by kernel_rfl) (fun _ h => by cases h) YtmjbjgbcpaagmaaDoor.aagTurned_row_tie rfl ⟨rfl, rfl⟩ (by kernel_rfl) rfl
    (fun f fn hf hfn => by
      obtain rfl : f = 4 := Option.some.inj ((show Tryd.prog.funcNamed YtmjbjgbcpaagmaaDoor.Rows.aagTurnedRow.func = some 4 by kernel_rfl).symm.trans hf) |>.symm
      obtain rfl : fn = Tryd.f4 := (Option.some.inj (Tryd.func4.symm.trans hfn)).symm
      exact ⟨by kernel_rfl, fun j t ht => by
        rw [Tryd.params4] at ht
        have ht : ([3, 25, 3] : List Nat)[j]? = some t := by simpa using ht
        have h3 := List.mem_of_getElem? ht
        have hall : ∀ t ∈ ([3, 25, 3] : List Nat), Tryd.prog.wantsStandIn t = false := by
          intro t ht
          simp only [List.mem_cons, List.not_mem_nil, or_false] at ht
          rcases ht with rfl | rfl | rfl <;> kernel_rfl
        exact hall t h3⟩)
    (by kernel_rfl)
#print axioms proved
end Go.Proofs.YtmjbjgbcpaagmaaDoor.aagTurnedDone
