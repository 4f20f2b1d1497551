/-
  LitsSay of the given program returns true for every input, and leaves its arguments as they were.
-/
import Derived.Test.YtnkbhbkfbigbiaaDoorLSay
import Derived.Test.YtnkbhbkfbigbiaaDoorBm33
import Derived.Test.YtnkbhbkfbigbiaaDoorBm28
import Derived.Test.YtnkbhbkfbigbiaaDoorRows
import Derived.WalkKit
import Derived.ProofKit
import Derived.OpenShut
import Derived.ShutString
import Derived.ChangeOld
import Derived.Below
import Derived.RowKitTokens
import Derived.Lay
import Derived.SevenTiedAt
import Derived.Test.YtnkbhbkfbigbiaaDoorTie
import Derived.Test.YtnkbhbkfbigbiaaDoorCards
import Derived.SizedLaws
namespace Go.Proofs.YtnkbhbkfbigbiaaDoor.litsSayDone
open Go.ChangeShapes Go.WideShapes Go.ChangeAt Go.RowKit
set_option linter.unusedVariables false

theorem own : ownKnob Tryd.prog.godebug = none := by kernel_rfl
theorem laidOut : laidOutB Tryd.prog = true := by kernel_rfl

theorem star : "*" ++ "errors.errorString" = "*errors.errorString" := by decide
theorem errT : ErrTypes Tryd.prog 27 175 177 9 "*errors.errorString" :=
  { iface := ⟨_, Tryd.underlying27⟩, name := fun u h => typeName_ptr_named (nm := "errors.errorString") (by rw [star]; kernel_rfl) (by kernel_rfl) (by decide) u (by rw [star]; exact h), ptr := Tryd.underlying175, str := ⟨_, Tryd.underlying177, rfl, rfl⟩, text := Tryd.underlying9, size := by kernel_rfl, size1 := by kernel_rfl }

theorem start {w : World} (hL : laidMet Tryd.prog YtnkbhbkfbigbiaaDoor.Rows.litsSayRow.laid w) : ∃ tok, HRel (Mu.start w tok) w.heap.size AHeap.none w ∧ ∀ fuel, GlobOk (C fuel) (Mu.start w tok) := by
  obtain ⟨tok, h1, h2⟩ := start_laid errT hL [(0, 1, (⟨#[109, 111, 114, 101, 32, 116, 104, 97, 110, 32, 109, 97, 121, 32, 98, 101]⟩ : ByteArray)), (1, 3, (⟨#[97, 32, 110, 117, 109, 98, 101, 114, 32, 111, 117, 116, 32, 111, 102, 32, 105, 116, 115, 32, 114, 97, 110, 103, 101]⟩ : ByteArray)), (3, 0, (⟨#[110, 111, 116, 32, 97, 115, 32, 105, 116, 32, 105, 115, 32, 119, 114, 105, 116, 116, 101, 110]⟩ : ByteArray)), (4, 2, (⟨#[116, 104, 101, 32, 98, 117, 100, 103, 101, 116, 32, 105, 115, 32, 117, 115, 101, 100, 32, 117, 112]⟩ : ByteArray)), (5, 4, (⟨#[109, 111, 114, 101, 32, 116, 104, 97, 110, 32, 116, 119, 111, 32, 98, 108, 111, 99, 107, 115]⟩ : ByteArray)), (6, 5, (⟨#[97, 32, 115, 116, 101, 112, 32, 116, 104, 97, 116, 32, 100, 111, 101, 115, 32, 110, 111, 116, 32, 102, 111, 108, 108, 111, 119]⟩ : ByteArray)), (7, 6, (⟨#[110, 111, 32, 99, 101, 114, 116, 105, 102, 105, 99, 97, 116, 101, 32, 111, 102, 32, 105, 116]⟩ : ByteArray))]
    (List.forall_mem_cons.2 ⟨⟨"skolem/api.ErrLimit", rfl, by kernel_rfl, by kernel_rfl⟩, List.forall_mem_cons.2 ⟨⟨"skolem/api.ErrRange", rfl, by kernel_rfl, by kernel_rfl⟩, List.forall_mem_cons.2 ⟨⟨"skolem/api.ErrText", rfl, by kernel_rfl, by kernel_rfl⟩, List.forall_mem_cons.2 ⟨⟨"skolem/api.ErrBudget", rfl, by kernel_rfl, by kernel_rfl⟩, List.forall_mem_cons.2 ⟨⟨"skolem/api.ErrBlocks", rfl, by kernel_rfl, by kernel_rfl⟩, List.forall_mem_cons.2 ⟨⟨"skolem/api.ErrProof", rfl, by kernel_rfl, by kernel_rfl⟩, List.forall_mem_cons.2 ⟨⟨"skolem/api.ErrCert", rfl, by kernel_rfl, by kernel_rfl⟩, fun e h => by cases h⟩⟩⟩⟩⟩⟩⟩) (by decide)
  exact ⟨tok, h1, fun fuel g v hg => h2 g v hg⟩

set_option maxRecDepth 100000 in
theorem walk (a0 : Int) (a1 : Int) (a2 : Option Addr) (len2 cap2 : Nat) (z2 : List Int) (a3 : Option Addr) (len3 cap3 : Nat) (z3 : List Int) (y4 : Value) (a5 : Option Addr) (len5 cap5 : Nat) (z5 : List Int) (w : World) (w0 : (Lit.int .i64 a0).wf = true) (w1 : (Lit.int .i64 a1).wf = true) (w2 : IsRow .i64 w a2 len2 cap2 z2) (w3 : IsRow .i64 w a3 len3 cap3 z3) (w4 : ∀ tok, ∃ x : (Int × (List (List Int))), (fun p => (fun n => (Lit.int .i64 n).wf = true) p.1 ∧ (fun l => (∀ a ∈ l, (fun l => (∀ a ∈ l, (fun n => (Lit.int .i64 n).wf = true) a) ∧ List.length l * 8 ≤ reachBytes) a) ∧ List.length l * 24 ≤ reachBytes) p.2) x ∧ VRel (Mu.start w tok) (AVal.agg ((fun p => (fun a => [(AVal.int .i64) a]) p.1 ++ (fun a => [(fun l => AVal.slice (lstM (fun l => AVal.slice (lstM (AVal.int .i64) l)) l)) a]) p.2) x)) y4) (w5 : IsRow .i64 w a5 len5 cap5 z5) (hL : laidMet Tryd.prog YtnkbhbkfbigbiaaDoor.Rows.litsSayRow.laid w) :
    Calls Tryd.prog 4 #[.int .i64 a0, .int .i64 a1, .slice a2 len2 cap2, .slice a3 len3 cap3, y4, .slice a5 len5 cap5] w fun e w' => e = .returned (.bool true) ∧ Below w.heap.size w w' := by
  obtain ⟨tok, hr, hg⟩ := start hL
  obtain ⟨v2, l2, f2⟩ := rowArg (tok := tok) w2
  obtain ⟨v3, l3, f3⟩ := rowArg (tok := tok) w3
  obtain ⟨x4, g4, v4⟩ := w4 tok
  obtain ⟨v5, l5, f5⟩ := rowArg (tok := tok) w5
  obtain ⟨F, hF⟩ : ∃ F : Nat, 2 ^ 50 ≤ F := ⟨_, Nat.le_refl _⟩
  obtain ⟨h9, hk⟩ := litsSay_run F 0 hF a0 a1 (z2.take len2) (z3.take len3) x4.1 x4.2 (z5.take len5) (wf64 w0).2 (fun x hx => (wf64 (f2 x hx)).2) (fun x hx => (wf64 (f3 x hx)).2) (fun c hc => by have := (g4.2.1 c hc).2; simp only [reachBytes] at this; omega) AHeap.none
  rw [run_is] at hk
  refine (acall_calls (types_ok F) (funs_ok F) mixed (exts_ok F) (f := 4) (fn := Tryd.f4) (c := fbody Tryd.f4) Tryd.func4 (by kernel_rfl) (by kernel_rfl) hk hr (hg _) rfl ?_).mono ?_
  · intro i u x hu hx
    match i with
    | 0 => simp at hu hx; subst hu; subst hx; exact .int
    | 1 => simp at hu hx; subst hu; subst hx; exact .int
    | 2 => simp at hu hx; subst hu; subst hx; exact v2
    | 3 => simp at hu hx; subst hu; subst hx; exact v3
    | 4 => simp at hu hx; subst hu; subst hx; exact v4
    | 5 => simp at hu hx; subst hu; subst hx; exact v5
    | i + 6 => simp at hu
  · rintro e w' ⟨x, μ', rfl, hv, _, hb⟩
    exact ⟨by rw [hv.bool_inv], hb⟩

set_option maxRecDepth 100000 in
theorem lifted (os : Os) (started : os.Started) (H : Type) (enc : TypeId × Value → H) :
    ReturnsInHanded {} Tryd.checked os 4 .any (fun w args => (YtnkbhbkfbigbiaaDoor.Rows.litsSaySpec.pre enc Tryd.prog Tryd.f4 YtnkbhbkfbigbiaaDoor.Rows.litsSayRow.domain false w args ∧ laidMet Tryd.prog YtnkbhbkfbigbiaaDoor.Rows.litsSayRow.laid w) ∧ sizedMet enc Tryd.prog Tryd.f4 (OpenSpec.ofChange YtnkbhbkfbigbiaaDoor.Rows.litsSaySpec) false w args) (YtnkbhbkfbigbiaaDoor.Rows.litsSaySpec.post enc Tryd.prog Tryd.f4 false true false false) := by
  refine returnsInHanded_of_change_laid (C := Tryd.checked) own started (by kernel_rfl) Tryd.func4
    (ChangeSpec.witness_at (enc := enc) (C := Tryd.checked) (os := os) (X := fun w _ => laidMet Tryd.prog YtnkbhbkfbigbiaaDoor.Rows.litsSayRow.laid w) false (World.laidAll Tryd.prog os YtnkbhbkfbigbiaaDoor.Rows.litsSayRow.laid) #[.int .i64 0, .int .i64 0, .slice none 0 0, .slice none 0 0, .agg #[.int .i64 0, .slice none 0 0], .slice none 0 0] 8 (World.laidAll_os _ _ _) (by kernel_rfl) (by kernel_rfl) (by kernel_rfl) (by kernel_rfl) (by kernel_rfl) (laidMet_laidAll _ (by kernel_rfl) (by kernel_rfl))) ?_
  intro W base args ds gs before hval0 hW hcnd hsz0 _ hL _
  have hval : ∀ (j : Nat) t v, Tryd.f4.params[j]? = some t → args[j]? = some v → Value.okWide Tryd.prog W .any base t v := hval0
  have hW' := hW
  obtain ⟨p, q, hA0, hV, rfl, hfz, hnd⟩ := hW
  have hA : DataW.TrodAll enc Tryd.prog W 0 (fun _ => true) true Tryd.f4.params.toList args.toList ds p := hA0
  rw [Tryd.params4] at hA hval
  have hsz : (DataW.weightsEach Tryd.prog (Tryd.f4.params.toList ++ YtnkbhbkfbigbiaaDoor.Rows.litsSaySpec.plain.varTypes Tryd.prog) (ds ++ gs)).all (· ≤ reachBytes) = true := hsz0
  rw [Tryd.params4] at hsz
  obtain ⟨v0, vs0, d0, ds0, p0, q0, hargs, rfl, rfl, h0, r0⟩ := trodAll_cons hA
  obtain ⟨v1, vs1, d1, ds1, p1, q1, rfl, rfl, rfl, h1, r1⟩ := trodAll_cons r0
  obtain ⟨v2, vs2, d2, ds2, p2, q2, rfl, rfl, rfl, h2, r2⟩ := trodAll_cons r1
  obtain ⟨v3, vs3, d3, ds3, p3, q3, rfl, rfl, rfl, h3, r3⟩ := trodAll_cons r2
  obtain ⟨v4, vs4, d4, ds4, p4, q4, rfl, rfl, rfl, h4, r4⟩ := trodAll_cons r3
  obtain ⟨v5, vs5, d5, ds5, p5, q5, rfl, rfl, rfl, h5, r5⟩ := trodAll_cons r4
  obtain ⟨rfl, rfl, rfl⟩ := trodAll_nil r5
  obtain rfl : args = #[v0, v1, v2, v3, v4, v5] := by cases args; simp_all
  obtain ⟨rfl, rfl⟩ := trodVars_none hV
  obtain ⟨a0, rfl, rfl, rfl, w0⟩ := open_int Tryd.underlying3 (hval 0 3 v0 rfl rfl) h0
  obtain ⟨a1, rfl, rfl, rfl, w1⟩ := open_int Tryd.underlying3 (hval 1 3 v1 rfl rfl) h1
  obtain ⟨a2, len2, cap2, rfl⟩ := okWide_slice Tryd.underlying24 (hval 2 24 v2 rfl rfl)
  have k2 := h2
  have lt2 : ∀ x ∈ p2, x.block < W.heap.size := by obtain ⟨m, hm⟩ := k2; exact DataW.trod_lt m _ _ _ hm
  obtain ⟨z2, w2⟩ : ∃ zs, IsRow .i64 W a2 len2 cap2 zs := by
    obtain ⟨fuel, hf⟩ := h2
    rcases open_ints Tryd.underlying24 Tryd.underlying3 (by kernel_rfl) hf with ⟨hcs, _⟩ | ⟨x, l, c, zs, hcs, _, hl, hm, hz, _, hcell, hwz⟩
    · simp [Value.cells] at hcs
      obtain ⟨rfl, rfl, rfl⟩ := hcs
      exact ⟨[], .inl ⟨rfl, rfl, rfl, rfl⟩⟩
    · simp [Value.cells] at hcs
      obtain ⟨rfl, rfl, rfl⟩ := hcs
      exact ⟨zs, .inr ⟨_, rfl, hl, hm, by simpa using hz, hcell, hwz⟩⟩
  obtain ⟨a3, len3, cap3, rfl⟩ := okWide_slice Tryd.underlying24 (hval 3 24 v3 rfl rfl)
  have k3 := h3
  have lt3 : ∀ x ∈ p3, x.block < W.heap.size := by obtain ⟨m, hm⟩ := k3; exact DataW.trod_lt m _ _ _ hm
  obtain ⟨z3, w3⟩ : ∃ zs, IsRow .i64 W a3 len3 cap3 zs := by
    obtain ⟨fuel, hf⟩ := h3
    rcases open_ints Tryd.underlying24 Tryd.underlying3 (by kernel_rfl) hf with ⟨hcs, _⟩ | ⟨x, l, c, zs, hcs, _, hl, hm, hz, _, hcell, hwz⟩
    · simp [Value.cells] at hcs
      obtain ⟨rfl, rfl, rfl⟩ := hcs
      exact ⟨[], .inl ⟨rfl, rfl, rfl, rfl⟩⟩
    · simp [Value.cells] at hcs
      obtain ⟨rfl, rfl, rfl⟩ := hcs
      exact ⟨zs, .inr ⟨_, rfl, hl, hm, by simpa using hz, hcell, hwz⟩⟩
  obtain ⟨cs4, rfl, _⟩ := okWide_struct Tryd.underlying31 (hval 4 31 v4 rfl rfl)
  have k4 := h4
  have lt4 : ∀ x ∈ p4, x.block < W.heap.size := by obtain ⟨m, hm⟩ := k4; exact DataW.trod_lt m _ _ _ hm
  have wt4 : ∀ n ∈ d4.weights Tryd.prog 31, n ≤ reachBytes := fun n hn => by
    have := List.all_eq_true.1 hsz n (DataW.weights_mem_each (j := 4) rfl rfl n hn)
    simpa using this
  have w4 := fun tok => Reads.agg (tok := tok) (Reads.struct2 (s0 := 1) (s1 := 1) Tryd.underlying31 (Reads.int Tryd.underlying3) (Reads.slice1 (bytes := 24) Tryd.underlying29 (Reads.slice1 (bytes := 8) Tryd.underlying24 (Reads.int Tryd.underlying3) (by kernel_rfl) (by kernel_rfl)) (by kernel_rfl) (by kernel_rfl)) rfl (by kernel_rfl) rfl (by kernel_rfl) (by kernel_rfl)) k4 wt4
  obtain ⟨a5, len5, cap5, rfl⟩ := okWide_slice Tryd.underlying24 (hval 5 24 v5 rfl rfl)
  have k5 := h5
  have lt5 : ∀ x ∈ p5, x.block < W.heap.size := by obtain ⟨m, hm⟩ := k5; exact DataW.trod_lt m _ _ _ hm
  obtain ⟨z5, w5⟩ : ∃ zs, IsRow .i64 W a5 len5 cap5 zs := by
    obtain ⟨fuel, hf⟩ := h5
    rcases open_ints Tryd.underlying24 Tryd.underlying3 (by kernel_rfl) hf with ⟨hcs, _⟩ | ⟨x, l, c, zs, hcs, _, hl, hm, hz, _, hcell, hwz⟩
    · simp [Value.cells] at hcs
      obtain ⟨rfl, rfl, rfl⟩ := hcs
      exact ⟨[], .inl ⟨rfl, rfl, rfl, rfl⟩⟩
    · simp [Value.cells] at hcs
      obtain ⟨rfl, rfl, rfl⟩ := hcs
      exact ⟨zs, .inr ⟨_, rfl, hl, hm, by simpa using hz, hcell, hwz⟩⟩
  clear hA0 hval0
  refine (walk a0 a1 a2 len2 cap2 z2 a3 len3 cap3 z3 (.agg cs4) a5 len5 cap5 z5 W w0 w1 w2 w3 w4 w5 hL).mono fun e W' ⟨he, bel⟩ => ?_
  subst he
  exact ⟨_, rfl, _, _, _, [], _, [], hW', trodAll_mk1 (shut_bool Tryd.underlying4 _), (trodAll_cons_mk (shut_int Tryd.underlying3 w0) (trodAll_cons_mk (shut_int Tryd.underlying3 w1) (trodAll_cons_mk (Below.trod laidOut (by kernel_rfl) (of_decide_eq_true (by kernel_rfl)) k2 bel lt2) (trodAll_cons_mk (Below.trod laidOut (by kernel_rfl) (of_decide_eq_true (by kernel_rfl)) k3 bel lt3) (trodAll_cons_mk (Below.trod laidOut (by kernel_rfl) (of_decide_eq_true (by kernel_rfl)) k4 bel lt4) (trodAll_cons_mk (Below.trod laidOut (by kernel_rfl) (of_decide_eq_true (by kernel_rfl)) k5 bel lt5) trodAll_mk0)))))), rfl, bel.frame _, fun h => by cases h⟩

theorem over : YtnkbhbkfbigbiaaDoor.Rows.litsSayRow.holds YtnkbhbkfbigbiaaDoor.Tryd.pinned (OpenSpec.ofChange YtnkbhbkfbigbiaaDoor.Rows.litsSaySpec) :=
  OpenClaim.holds_of_wide 4 Tryd.f4 rfl rfl rfl rfl rfl rfl rfl ⟨rfl, rfl, rfl, rfl, rfl⟩ rfl rfl rfl rfl rfl (by kernel_rfl) Tryd.func4 (by kernel_rfl)
    (of_decide_eq_true (by kernel_rfl)) (by unfold Func.isWrapper; first | (rw [if_pos (by decide +kernel)]; kernel_rfl) | (rw [if_neg (by decide +kernel)]; exact ⟨rfl, rfl⟩))
    (fun os started H enc _ => lifted os started H enc)

/-- the statement -/
theorem proved : YtnkbhbkfbigbiaaDoor.Rows.LitsSayCardSaid :=
  Claim7.holds_tied_plain_at .later [] _ true _ true
    over (fun _ h => by cases h) (by kernel_rfl) (fun _ h => by cases h) YtnkbhbkfbigbiaaDoor.litsSay_row_tie rfl ⟨rfl, rfl⟩ (by kernel_rfl) rfl
    (fun f fn hf hfn => by
      obtain rfl : f = 4 := Option.some.inj ((show Tryd.prog.funcNamed YtnkbhbkfbigbiaaDoor.Rows.litsSayRow.func = some 4 by kernel_rfl).symm.trans hf) |>.symm
      obtain rfl : fn = Tryd.f4 := (Option.some.inj (Tryd.func4.symm.trans hfn)).symm
      exact ⟨by kernel_rfl, fun j t ht => by
        rw [Tryd.params4] at ht
        have ht : ([3, 3, 24, 24, 31, 24] : List Nat)[j]? = some t := by simpa using ht
        have h3 := List.mem_of_getElem? ht
        have hall : ∀ t ∈ ([3, 3, 24, 24, 31, 24] : List Nat), Tryd.prog.wantsStandIn t = false := by
          intro t ht
          simp only [List.mem_cons, List.not_mem_nil, or_false] at ht
          rcases ht with rfl | rfl | rfl | rfl | rfl | rfl <;> kernel_rfl
        exact hall t h3⟩)
    (by kernel_rfl)
#print axioms proved
end Go.Proofs.YtnkbhbkfbigbiaaDoor.litsSayDone
