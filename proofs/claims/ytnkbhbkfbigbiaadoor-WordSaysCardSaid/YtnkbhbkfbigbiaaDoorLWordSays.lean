/-
  WordSays of the given program returns true for every input, and leaves its arguments as they were.
-/
import Derived.Test.YtnkbhbkfbigbiaaDoorLWsy
import Derived.Test.YtnkbhbkfbigbiaaDoorBm33
import Derived.Test.YtnkbhbkfbigbiaaDoorBm28
import Derived.Test.YtnkbhbkfbigbiaaDoorRows
import Derived.WalkKit
import Derived.ProofKit
import Derived.OpenShut
import Derived.ShutString
import Derived.ChangeOld
import Derived.Below
import Derived.RowKitTokens
import Derived.Lay
import Derived.SevenTiedAt
import Derived.Test.YtnkbhbkfbigbiaaDoorTie
import Derived.Test.YtnkbhbkfbigbiaaDoorCards
import Derived.SizedLaws
namespace Go.Proofs.YtnkbhbkfbigbiaaDoor.wordSaysDone
open Go.ChangeShapes Go.WideShapes Go.ChangeAt Go.RowKit
set_option linter.unusedVariables false

theorem own : ownKnob Tryd.prog.godebug = none := by kernel_rfl
theorem laidOut : laidOutB Tryd.prog = true := by kernel_rfl

theorem start {w : World} (hL : laidMet Tryd.prog YtnkbhbkfbigbiaaDoor.Rows.wordSaysRow.laid w) : ∃ tok, HRel (Mu.start w tok) w.heap.size AHeap.none w ∧ ∀ fuel, GlobOk (C fuel) (Mu.start w tok) :=
  ⟨fun _ => none, HRel.start (Nat.le_refl _) (fun _ _ h => by cases h) (fun _ _ _ h => by cases h), fun fuel => glob_ok fuel _⟩

set_option maxRecDepth 100000 in
theorem walk (a0 : Option Addr) (len0 cap0 : Nat) (z0 : List Int) (a1 : Bool) (y2 : Value) (a3 : Int) (w : World) (w0 : IsRow .u8 w a0 len0 cap0 z0) (w2 : ∀ tok, ∃ x : ByteArray, (fun s => ByteArray.size s ≤ reachBytes) x ∧ VRel (Mu.start w tok) (AVal.str x) y2) (w3 : (Lit.int .i64 a3).wf = true) (hL : laidMet Tryd.prog YtnkbhbkfbigbiaaDoor.Rows.wordSaysRow.laid w) :
    Calls Tryd.prog 11 #[.slice a0 len0 cap0, .bool a1, y2, .int .i64 a3] w fun e w' => e = .returned (.bool true) ∧ Below w.heap.size w w' := by
  obtain ⟨tok, hr, hg⟩ := start hL
  obtain ⟨b0, v0, l0⟩ := byteArg (tok := tok) w0
  obtain ⟨x2, g2, v2⟩ := w2 tok
  obtain ⟨F, hF⟩ : ∃ F : Nat, 2 ^ 21 ≤ F := ⟨_, Nat.le_refl _⟩
  obtain ⟨h9, hk⟩ := wordSays_run F 0 hF b0 a1 x2 a3 AHeap.none
  rw [run_is] at hk
  refine (acall_calls (types_ok F) (funs_ok F) mixed (exts_ok F) (f := 11) (fn := Tryd.f11) (c := fbody Tryd.f11) Tryd.func11 (by kernel_rfl) (by kernel_rfl) hk hr (hg _) rfl ?_).mono ?_
  · intro i u x hu hx
    match i with
    | 0 => simp at hu hx; subst hu; subst hx; exact v0
    | 1 => simp at hu hx; subst hu; subst hx; exact .bool
    | 2 => simp at hu hx; subst hu; subst hx; exact v2
    | 3 => simp at hu hx; subst hu; subst hx; exact .int
    | i + 4 => simp at hu
  · rintro e w' ⟨x, μ', rfl, hv, _, hb⟩
    exact ⟨by rw [hv.bool_inv], hb⟩

set_option maxRecDepth 100000 in
theorem lifted (os : Os) (started : os.Started) (H : Type) (enc : TypeId × Value → H) :
    ReturnsInHanded {} Tryd.checked os 11 .any (fun w args => (YtnkbhbkfbigbiaaDoor.Rows.wordSaysSpec.pre enc Tryd.prog Tryd.f11 YtnkbhbkfbigbiaaDoor.Rows.wordSaysRow.domain false w args ∧ laidMet Tryd.prog YtnkbhbkfbigbiaaDoor.Rows.wordSaysRow.laid w) ∧ sizedMet enc Tryd.prog Tryd.f11 (OpenSpec.ofChange YtnkbhbkfbigbiaaDoor.Rows.wordSaysSpec) false w args) (YtnkbhbkfbigbiaaDoor.Rows.wordSaysSpec.post enc Tryd.prog Tryd.f11 false true false false) := by
  refine returnsInHanded_of_change_laid (C := Tryd.checked) own started (by kernel_rfl) Tryd.func11
    (ChangeSpec.witness_at (enc := enc) (C := Tryd.checked) (os := os) (X := fun w _ => laidMet Tryd.prog YtnkbhbkfbigbiaaDoor.Rows.wordSaysRow.laid w) false (World.laidAll Tryd.prog os YtnkbhbkfbigbiaaDoor.Rows.wordSaysRow.laid) #[.slice none 0 0, .bool false, .string ByteArray.empty, .int .i64 0] 8 (World.laidAll_os _ _ _) (by kernel_rfl) (by kernel_rfl) (by kernel_rfl) (by kernel_rfl) (by kernel_rfl) (laidMet_laidAll _ (by kernel_rfl) (by kernel_rfl))) ?_
  intro W base args ds gs before hval0 hW hcnd hsz0 _ hL _
  have hval : ∀ (j : Nat) t v, Tryd.f11.params[j]? = some t → args[j]? = some v → Value.okWide Tryd.prog W .any base t v := hval0
  have hW' := hW
  obtain ⟨p, q, hA0, hV, rfl, hfz, hnd⟩ := hW
  have hA : DataW.TrodAll enc Tryd.prog W 0 (fun _ => true) true Tryd.f11.params.toList args.toList ds p := hA0
  rw [Tryd.params11] at hA hval
  have hsz : (DataW.weightsEach Tryd.prog (Tryd.f11.params.toList ++ YtnkbhbkfbigbiaaDoor.Rows.wordSaysSpec.plain.varTypes Tryd.prog) (ds ++ gs)).all (· ≤ reachBytes) = true := hsz0
  rw [Tryd.params11] at hsz
  obtain ⟨v0, vs0, d0, ds0, p0, q0, hargs, rfl, rfl, h0, r0⟩ := trodAll_cons hA
  obtain ⟨v1, vs1, d1, ds1, p1, q1, rfl, rfl, rfl, h1, r1⟩ := trodAll_cons r0
  obtain ⟨v2, vs2, d2, ds2, p2, q2, rfl, rfl, rfl, h2, r2⟩ := trodAll_cons r1
  obtain ⟨v3, vs3, d3, ds3, p3, q3, rfl, rfl, rfl, h3, r3⟩ := trodAll_cons r2
  obtain ⟨rfl, rfl, rfl⟩ := trodAll_nil r3
  obtain rfl : args = #[v0, v1, v2, v3] := by cases args; simp_all
  obtain ⟨rfl, rfl⟩ := trodVars_none hV
  obtain ⟨a0, len0, cap0, rfl⟩ := okWide_slice Tryd.underlying76 (hval 0 76 v0 rfl rfl)
  have k0 := h0
  have lt0 : ∀ x ∈ p0, x.block < W.heap.size := by obtain ⟨m, hm⟩ := k0; exact DataW.trod_lt m _ _ _ hm
  obtain ⟨z0, w0⟩ : ∃ zs, IsRow .u8 W a0 len0 cap0 zs := by
    obtain ⟨fuel, hf⟩ := h0
    rcases open_ints Tryd.underlying76 Tryd.underlying5 (by kernel_rfl) hf with ⟨hcs, _⟩ | ⟨x, l, c, zs, hcs, _, hl, hm, hz, _, hcell, hwz⟩
    · simp [Value.cells] at hcs
      obtain ⟨rfl, rfl, rfl⟩ := hcs
      exact ⟨[], .inl ⟨rfl, rfl, rfl, rfl⟩⟩
    · simp [Value.cells] at hcs
      obtain ⟨rfl, rfl, rfl⟩ := hcs
      exact ⟨zs, .inr ⟨_, rfl, hl, hm, by simpa using hz, hcell, hwz⟩⟩
  obtain ⟨a1, rfl, rfl, rfl⟩ := open_bool Tryd.underlying4 (hval 1 4 v1 rfl rfl) h1
  obtain ⟨s2, rfl⟩ := okWide_string Tryd.underlying9 (hval 2 9 v2 rfl rfl)
  have k2 := h2
  have lt2 : ∀ x ∈ p2, x.block < W.heap.size := by obtain ⟨m, hm⟩ := k2; exact DataW.trod_lt m _ _ _ hm
  have wt2 : ∀ n ∈ d2.weights Tryd.prog 9, n ≤ reachBytes := fun n hn => by
    have := List.all_eq_true.1 hsz n (DataW.weights_mem_each (j := 2) rfl rfl n hn)
    simpa using this
  have w2 := fun tok => Reads.one (tok := tok) (Reads.str Tryd.underlying9) k2 wt2 rfl
  obtain ⟨a3, rfl, rfl, rfl, w3⟩ := open_int Tryd.underlying3 (hval 3 3 v3 rfl rfl) h3
  clear hA0 hval0
  refine (walk a0 len0 cap0 z0 a1 (.string s2) a3 W w0 w2 w3 hL).mono fun e W' ⟨he, bel⟩ => ?_
  subst he
  exact ⟨_, rfl, _, _, _, [], _, [], hW', trodAll_mk1 (shut_bool Tryd.underlying4 _), (trodAll_cons_mk (Below.trod laidOut (by kernel_rfl) (of_decide_eq_true (by kernel_rfl)) k0 bel lt0) (trodAll_cons_mk (shut_bool Tryd.underlying4 a1) (trodAll_cons_mk (Below.trod laidOut (by kernel_rfl) (of_decide_eq_true (by kernel_rfl)) k2 bel lt2) (trodAll_cons_mk (shut_int Tryd.underlying3 w3) trodAll_mk0)))), rfl, bel.frame _, fun h => by cases h⟩

theorem over : YtnkbhbkfbigbiaaDoor.Rows.wordSaysRow.holds YtnkbhbkfbigbiaaDoor.Tryd.pinned (OpenSpec.ofChange YtnkbhbkfbigbiaaDoor.Rows.wordSaysSpec) :=
  OpenClaim.holds_of_wide 11 Tryd.f11 rfl rfl rfl rfl rfl rfl rfl ⟨rfl, rfl, rfl, rfl, rfl⟩ rfl rfl rfl rfl rfl (by kernel_rfl) Tryd.func11 (by kernel_rfl)
    (of_decide_eq_true (by kernel_rfl)) (by unfold Func.isWrapper; first | (rw [if_pos (by decide +kernel)]; kernel_rfl) | (rw [if_neg (by decide +kernel)]; exact ⟨rfl, rfl⟩))
    (fun os started H enc _ => lifted os started H enc)

/-- the statement -/
theorem proved : YtnkbhbkfbigbiaaDoor.Rows.WordSaysCardSaid :=
  Claim7.holds_tied_plain_at .later [] _ true _ true
    over (fun _ h => by cases h) (by kernel_rfl) (fun _ h => by cases h) YtnkbhbkfbigbiaaDoor.wordSays_row_tie rfl ⟨rfl, rfl⟩ (by kernel_rfl) rfl
    (fun f fn hf hfn => by
      obtain rfl : f = 11 := Option.some.inj ((show Tryd.prog.funcNamed YtnkbhbkfbigbiaaDoor.Rows.wordSaysRow.func = some 11 by kernel_rfl).symm.trans hf) |>.symm
      obtain rfl : fn = Tryd.f11 := (Option.some.inj (Tryd.func11.symm.trans hfn)).symm
      exact ⟨by kernel_rfl, fun j t ht => by
        rw [Tryd.params11] at ht
        have ht : ([76, 4, 9, 3] : List Nat)[j]? = some t := by simpa using ht
        have h3 := List.mem_of_getElem? ht
        have hall : ∀ t ∈ ([76, 4, 9, 3] : List Nat), Tryd.prog.wantsStandIn t = false := by
          intro t ht
          simp only [List.mem_cons, List.not_mem_nil, or_false] at ht
          rcases ht with rfl | rfl | rfl | rfl <;> kernel_rfl
        exact hall t h3⟩)
    (by kernel_rfl)
#print axioms proved
end Go.Proofs.YtnkbhbkfbigbiaaDoor.wordSaysDone
