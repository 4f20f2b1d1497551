/-
 CertBack of the given program returns true for every input, and leaves its arguments as they were.
-/
import Derived.Test.YtjagkijfngokaaaGreatDoorTCertBack3
import Derived.Test.YtjagkijfngokaaaGreatDoorBm36
import Derived.Test.YtjagkijfngokaaaGreatDoorBm37
import Derived.Test.YtjagkijfngokaaaGreatDoorBm28
import Derived.Test.YtjagkijfngokaaaGreatDoorRows
import Derived.WalkKit
import Derived.ProofKit
import Derived.OpenShut
import Derived.ShutString
import Derived.ChangeOld
import Derived.Below
import Derived.RowKitTokens
import Derived.Lay
import Derived.SevenTiedAt
import Derived.Test.YtjagkijfngokaaaGreatDoorTie
import Derived.Test.YtjagkijfngokaaaGreatDoorCards
import Derived.SizedLaws
namespace Go.Proofs.YtjagkijfngokaaaGreatDoor.certBackDone
open Go.ChangeShapes Go.WideShapes Go.ChangeAt Go.RowKit
set_option linter.unusedVariables false
theorem own : ownKnob Tryz.prog.godebug = none := by kernel_rfl
theorem laidOut : laidOutB Tryz.prog = true := by kernel_rfl
abbrev laidF : List (String × DataW Unit) := YtjagkijfngokaaaGreatDoor.Rows.certBackRow.laid.filter fun x => x.2.handleName?.isNone
theorem star : "*" ++ "errors.errorString" = "*errors.errorString" := by decide
theorem errT : ErrTypes Tryz.prog 43 251 253 9 "*errors.errorString" :=
 { iface := ⟨_, Tryz.underlying43⟩, name := fun u h => typeName_ptr_named (nm := "errors.errorString") (by rw [star]; kernel_rfl) (by kernel_rfl) (by decide) u (by rw [star]; exact h), ptr := Tryz.underlying251, str := ⟨_, Tryz.underlying253, rfl, rfl⟩, text := Tryz.underlying9, size := by kernel_rfl, size1 := by kernel_rfl }
theorem start {w : World} (hL : laidMet Tryz.prog laidF w) : ∃ tok, HRel (Mu.start w tok) w.heap.size AH.none w ∧ ∀ fuel, GlobOk (C fuel) (Mu.start w tok) := by
 obtain ⟨tok, h1, h2⟩ := start_laid errT hL [(0, 6, (⟨#[109, 111, 114, 101, 32, 116, 104, 97, 110, 32, 109, 97, 121, 32, 98, 101]⟩ : ByteArray)), (1, 5, (⟨#[110, 111, 116, 32, 97, 115, 32, 105, 116, 32, 105, 115, 32, 119, 114, 105, 116, 116, 101, 110]⟩ : ByteArray))]
   (List.forall_mem_cons.2 ⟨⟨"skolem/api.ErrLimit", rfl, by kernel_rfl, by kernel_rfl⟩, List.forall_mem_cons.2 ⟨⟨"skolem/api.ErrText", rfl, by kernel_rfl, by kernel_rfl⟩, fun e h => by cases h⟩⟩) (by decide)
 exact ⟨tok, h1, fun fuel g v hg => by
   have hg1 : globs g = some v := hg
   unfold globs at hg1
   simp only [Bool.cond_eq_ite] at hg1
   split at hg1
   · rename_i e
     rw [nbeq] at e
     subst e
     cases hg1
     exact ⟨rfl, tab_start (xs := [1,10,100,1000,10000,100000,1000000,10000000,100000000,1000000000,10000000000,100000000000,1000000000000,10000000000000,100000000000000,1000000000000000,10000000000000000,100000000000000000,1000000000000000000,10000000000000000000]) (kd := .u64) (k := 2) (n := "internal/strconv.uint64pow10") hL rfl (by kernel_rfl) (by kernel_rfl) Tryz.underlying237 Tryz.underlying198 (by kernel_rfl) (by kernel_rfl)⟩
   exact h2 g v hg1⟩
set_option maxRecDepth 100000 in
theorem walk (y0 : Value) (w : World) (w0 : ∀ tok, ∃ x : (Bool × Bool × (List Bool) × (Int × (List (Int × Int)) × (List Int)) × (List (Bool × (List Int)))), (fun p => (fun _ => True) p.1 ∧ (fun _ => True) p.2.1 ∧ (fun l => (∀ a ∈ l, (fun _ => True) a) ∧ List.length l * 1 ≤ reachBytes) p.2.2.1 ∧ (fun p => (fun n => (Lit.int .i64 n).wf = true) p.1 ∧ (fun l => (∀ a ∈ l, (fun p => (fun n => (Lit.int .i64 n).wf = true) p.1 ∧ (fun n => (Lit.int .i64 n).wf = true) p.2) a) ∧ List.length l * 16 ≤ reachBytes) p.2.1 ∧ (fun l => (∀ a ∈ l, (fun n => (Lit.int .i64 n).wf = true) a) ∧ List.length l * 8 ≤ reachBytes) p.2.2) p.2.2.2.1 ∧ (fun l => (∀ a ∈ l, (fun p => (fun _ => True) p.1 ∧ (fun l => (∀ a ∈ l, (fun n => (Lit.int .i64 n).wf = true) a) ∧ List.length l * 8 ≤ reachBytes) p.2) a) ∧ List.length l * 32 ≤ reachBytes) p.2.2.2.2) x ∧ VRel (Mu.start w tok) (AV.agg ((fun p => (fun a => [AV.bool a]) p.1 ++ ((fun a => [AV.bool a]) p.2.1 ++ ((fun a => [(fun l => AV.slice (lstM AV.bool l)) a]) p.2.2.1 ++ ((fun p => (fun a => [(AV.int .i64) a]) p.1 ++ ((fun a => [(fun l => AV.slice (lstN (fun p => (fun a => [(AV.int .i64) a]) p.1 ++ (fun a => [(AV.int .i64) a]) p.2) l)) a]) p.2.1 ++ (fun a => [(fun l => AV.slice (lstM (AV.int .i64) l)) a]) p.2.2)) p.2.2.2.1 ++ (fun a => [(fun l => AV.slice (lstN (fun p => (fun a => [AV.bool a]) p.1 ++ (fun a => [(fun l => AV.slice (lstM (AV.int .i64) l)) a]) p.2) l)) a]) p.2.2.2.2)))) x)) y0) (hL : laidMet Tryz.prog laidF w) :
   Calls Tryz.prog 5 #[y0] w fun e w' => e = .returned (.bool true) ∧ Below w.heap.size w w' := by
 obtain ⟨tok, hr, hg⟩ := start hL
 obtain ⟨x0, g0, v0⟩ := w0 tok
 obtain ⟨F, hF⟩ : ∃ F : Nat, 2 ^ 21 ≤ F := ⟨_, Nat.le_refl _⟩
 obtain ⟨h9, hk⟩ := certBack_x F 0 hF x0 g0.2.2.2.1.1 AH.none
 rw [run_is] at hk
 refine (acall_calls (types_ok F) (funs_ok F) mixed (exts_ok F) (f := 5) (fn := Tryz.f5) (c := fbody Tryz.f5) Tryz.func5 (by kernel_rfl) (by kernel_rfl) hk hr (hg _) rfl ?_).mono ?_
 · intro i u x hu hx
   match i with
   | 0 => simp at hu hx; subst hu; subst hx; exact v0
   | i + 1 => simp at hu
 · rintro e w' ⟨x, μ', rfl, hv, _, hb⟩
   exact ⟨by rw [hv.bool_inv], hb⟩
theorem door_met (os : Os) (args : Array Value) : laidMetH Tryz.prog YtjagkijfngokaaaGreatDoor.Rows.certBackRow.laid ((World.doorLaid Tryz.prog 202 os).forCall (fun _ _ => 0) ⟨#[], args, []⟩).memory :=
 laidMetH_of_parts (laidMet_of_run' 8 (by kernel_rfl) (by kernel_rfl)) (by kernel_rfl)
set_option maxRecDepth 100000 in
theorem lifted (os : Os) (started : os.Started) (H : Type) (enc : TypeId × Value → H) :
   ReturnsInHanded {} Tryz.checked os 5 .any (fun w args => (YtjagkijfngokaaaGreatDoor.Rows.certBackSpec.pre enc Tryz.prog Tryz.f5 YtjagkijfngokaaaGreatDoor.Rows.certBackRow.domain false w args ∧ laidMetH Tryz.prog YtjagkijfngokaaaGreatDoor.Rows.certBackRow.laid w) ∧ sizedMet enc Tryz.prog Tryz.f5 (OpenSpec.ofChange YtjagkijfngokaaaGreatDoor.Rows.certBackSpec) false w args) (YtjagkijfngokaaaGreatDoor.Rows.certBackSpec.post enc Tryz.prog Tryz.f5 false true false false) := by
 refine returnsInHanded_of_change_laidH (C := Tryz.checked) own started (by kernel_rfl) Tryz.func5
   (ChangeSpec.witness_shaped (enc := enc) (C := Tryz.checked) (os := os) (X := fun w _ => laidMetH Tryz.prog YtjagkijfngokaaaGreatDoor.Rows.certBackRow.laid w) false (World.doorLaid Tryz.prog 202 os) #[.agg #[.bool false, .bool false, .slice none 0 0, .int .i64 0, .slice none 0 0, .slice none 0 0, .slice none 0 0]] 8 rfl (World.shaped_of_RefB (by kernel_rfl) (by kernel_rfl)) (by kernel_rfl) (by kernel_rfl) (by kernel_rfl) (door_met os _)) ?_
 intro W base args ds gs before hval0 hW hcnd hsz0 _ hL _
 have hval : ∀ (j : Nat) t v, Tryz.f5.params[j]? = some t → args[j]? = some v → Value.okWide Tryz.prog W .any base t v := hval0
 have hW' := hW
 obtain ⟨p, q, hA0, hV, rfl, hfz, hnd⟩ := hW
 have hA : DataW.TrodAll enc Tryz.prog W 0 (fun _ => true) true Tryz.f5.params.toList args.toList ds p := hA0
 rw [Tryz.params5] at hA hval
 have hsz : (DataW.weightsEach Tryz.prog (Tryz.f5.params.toList ++ YtjagkijfngokaaaGreatDoor.Rows.certBackSpec.plain.varTypes Tryz.prog) (ds ++ gs)).all (· ≤ reachBytes) = true := hsz0
 rw [Tryz.params5] at hsz
 obtain ⟨v0, vs0, d0, ds0, p0, q0, hargs, rfl, rfl, h0, r0⟩ := trodAll_cons hA
 obtain ⟨rfl, rfl, rfl⟩ := trodAll_nil r0
 obtain rfl : args = #[v0] := by cases args; simp_all
 obtain ⟨rfl, rfl⟩ := trodVars_none hV
 obtain ⟨cs0, rfl, _⟩ := okWide_struct Tryz.underlying31 (hval 0 31 v0 rfl rfl)
 have k0 := h0
 have lt0 : ∀ x ∈ p0, x.block < W.heap.size := by obtain ⟨m, hm⟩ := k0; exact DataW.trod_lt m _ _ _ hm
 have wt0 : ∀ n ∈ d0.weights Tryz.prog 31, n ≤ reachBytes := fun n hn => by
   have := List.all_eq_true.1 hsz n (DataW.weights_mem_each (j := 0) rfl rfl n hn)
   simpa using this
 have w0 := fun tok => Reads.agg (tok := tok) (Reads.struct5 (s0 := 1) (s1 := 1) (s2 := 1) (s3 := 3) (s4 := 1) Tryz.underlying31 (Reads.bool Tryz.underlying4) (Reads.bool Tryz.underlying4) (Reads.slice1 (bytes := 1) Tryz.underlying28 (Reads.bool Tryz.underlying4) (by kernel_rfl) (by kernel_rfl)) (Reads.struct3 (s0 := 1) (s1 := 1) (s2 := 1) Tryz.underlying25 (Reads.int Tryz.underlying3) (Reads.slice (sz := 2) (bytes := 16) Tryz.underlying22 (Reads.arr2 (sz := 1) Tryz.underlying63 (Reads.int Tryz.underlying3) (by kernel_rfl) (by kernel_rfl)) (by kernel_rfl) (by omega) (fun _ => rfl) (by kernel_rfl)) (Reads.slice1 (bytes := 8) Tryz.underlying23 (Reads.int Tryz.underlying3) (by kernel_rfl) (by kernel_rfl)) rfl (by kernel_rfl) rfl (by kernel_rfl) rfl (by kernel_rfl) (by kernel_rfl)) (Reads.slice (sz := 2) (bytes := 32) Tryz.underlying29 (Reads.struct2 (s0 := 1) (s1 := 1) Tryz.underlying59 (Reads.bool Tryz.underlying4) (Reads.slice1 (bytes := 8) Tryz.underlying23 (Reads.int Tryz.underlying3) (by kernel_rfl) (by kernel_rfl)) rfl (by kernel_rfl) rfl (by kernel_rfl) (by kernel_rfl)) (by kernel_rfl) (by omega) (fun _ => rfl) (by kernel_rfl)) rfl (by kernel_rfl) rfl (by kernel_rfl) rfl (by kernel_rfl) rfl (by kernel_rfl) rfl (by kernel_rfl) (by kernel_rfl)) k0 wt0
 clear hA0 hval0
 refine (walk (.agg cs0) W w0 hL).mono fun e W' ⟨he, bel⟩ => ?_
 subst he
 exact ⟨_, rfl, _, _, _, [], _, [], hW', trodAll_mk1 (shut_bool Tryz.underlying4 _), (trodAll_cons_mk (Below.trod laidOut (by kernel_rfl) (of_decide_eq_true (by kernel_rfl)) k0 bel lt0) trodAll_mk0), rfl, bel.frame _, fun h => by cases h⟩
theorem over : YtjagkijfngokaaaGreatDoor.Rows.certBackRow.holds YtjagkijfngokaaaGreatDoor.Tryz.pinned (OpenSpec.ofChange YtjagkijfngokaaaGreatDoor.Rows.certBackSpec) :=
 OpenClaim.holds_of_wide 5 Tryz.f5 rfl rfl rfl rfl rfl rfl rfl ⟨rfl, rfl, rfl, rfl, rfl⟩ rfl rfl rfl rfl rfl (by kernel_rfl) Tryz.func5 (by kernel_rfl)
   (of_decide_eq_true (by kernel_rfl)) (by unfold Func.isWrapper; first | (rw [if_pos (by decide +kernel)]; kernel_rfl) | (rw [if_neg (by decide +kernel)]; exact ⟨rfl, rfl⟩))
   (fun os started H enc _ => lifted os started H enc)
theorem proved : YtjagkijfngokaaaGreatDoor.Rows.CertBackCardSaid :=
 Claim7.holds_tied_plain_at .later [] _ true _ true
   over (fun _ h => by cases h) (by kernel_rfl) (fun _ h => by cases h) YtjagkijfngokaaaGreatDoor.certBack_row_tie rfl ⟨rfl, rfl⟩ (by kernel_rfl) rfl
   (fun f fn hf hfn => by
     obtain rfl : f = 5 := Option.some.inj ((show Tryz.prog.funcNamed YtjagkijfngokaaaGreatDoor.Rows.certBackRow.func = some 5 by kernel_rfl).symm.trans hf) |>.symm
     obtain rfl : fn = Tryz.f5 := (Option.some.inj (Tryz.func5.symm.trans hfn)).symm
     exact ⟨by kernel_rfl, fun j t ht => by
       rw [Tryz.params5] at ht
       have ht : ([31] : List Nat)[j]? = some t := by simpa using ht
       have h3 := List.mem_of_getElem? ht
       have hall : ∀ t ∈ ([31] : List Nat), Tryz.prog.wantsStandIn t = false := by
         intro t ht
         simp only [List.mem_cons, List.not_mem_nil, or_false] at ht
         rcases ht with rfl <;> kernel_rfl
       exact hall t h3⟩)
   (by kernel_rfl)
#print axioms proved
end Go.Proofs.YtjagkijfngokaaaGreatDoor.certBackDone
