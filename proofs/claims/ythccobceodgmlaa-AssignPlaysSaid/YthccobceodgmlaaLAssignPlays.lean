/-
  AssignPlays of the given program returns true for every input, and leaves its arguments as they were. No condition.
-/
import Derived.Test.YthccobceodgmlaaA11
import Derived.Test.YthccobceodgmlaaAm24
import Derived.Test.YthccobceodgmlaaRows
import Derived.WalkKit
import Derived.ProofKit
import Derived.OpenShut
import Derived.ShutString
import Derived.ChangeOld
import Derived.Below
namespace Go.Proofs.Ythccobceodgmlaa.assignPlaysDone
open Go.ChangeShapes Go.WideShapes Go.ChangeAt Go.RowKit
set_option linter.unusedVariables false

theorem own : ownKnob Try.prog.godebug = none := by kernel_rfl
theorem laidOut : laidOutB Try.prog = true := by kernel_rfl

theorem walk (a0 : Int) (a1 : Option Addr) (len1 cap1 : Nat) (z1 : List (Int × Int)) (a2 : Int) (a3 : Option Addr) (len3 cap3 : Nat) (A3 : Nat → Option Addr) (L3 C3 : Nat → Nat) (Z3 : Nat → List Int) (w : World) (w0 : (Lit.int .i64 a0).wf = true) (w1 : IsPairs w a1 len1 cap1 z1) (w2 : (Lit.int .i64 a2).wf = true) (w3 : IsGrid .i64 w a3 len3 cap3 A3 L3 C3 Z3) (g3 : ∀ r, r < len3 → (Z3 r).length ≤ 140737488355328) :
    Calls Try.prog 6 #[.int .i64 a0, .slice a1 len1 cap1, .int .i64 a2, .slice a3 len3 cap3] w fun e w' => e = .returned (.bool true) ∧ Below w.heap.size w w' := by
  obtain ⟨μ1, h1, s1, k1, r1, ro1, v1, c1, x1⟩ := pairArg (HRel.none (Nat.le_refl _)) AHeap.none_ro w1
  obtain ⟨μ3, h3, s3, k3, r3, ro3, v3, c3, x3⟩ := gridArg r1 ro1 w3
  have v1 := v1.mono k3
  have c1 := sliceCells_ext x3 c1
  obtain ⟨h9, hk⟩ := law6 2000 0 c1 c3 (by omega) (fun c hc => by obtain ⟨r, hr, rfl⟩ := List.mem_map.1 hc; have := g3 r (List.mem_range.1 hr); rw [List.length_take]; omega) a0 a2
  rw [run_is] at hk
  refine (acall_calls (types_ok 2000) (funs_ok 2000) mixed (exts_ok 2000 _ _) (exts_ok 2000 _ _) (f := 6) (fn := Try.f6) (c := fbody Try.f6) Try.func6 (by kernel_rfl) (by kernel_rfl) hk r3 (glob_ok _ _) rfl ?_).mono ?_
  · intro i u x hu hx
    match i with
    | 0 => simp at hu hx; subst hu; subst hx; exact .int
    | 1 => simp at hu hx; subst hu; subst hx; exact v1
    | 2 => simp at hu hx; subst hu; subst hx; exact .int
    | 3 => simp at hu hx; subst hu; subst hx; exact v3
    | i + 4 => simp at hu
  · rintro e w' ⟨x, μ', rfl, hv, _, hb⟩
    exact ⟨by rw [hv.bool_inv], hb⟩

set_option maxRecDepth 100000 in
theorem lifted (os : Os) (started : os.Started) (H : Type) (enc : TypeId × Value → H) :
    ReturnsInHanded {} Try.checked os 6 .any (Ythccobceodgmlaa.Rows.assignPlaysSpec.pre6 enc Try.prog Try.f6 Ythccobceodgmlaa.Rows.assignPlaysRow.domain false) (Ythccobceodgmlaa.Rows.assignPlaysSpec.post enc Try.prog Try.f6 false true false false) := by
  refine returnsInHanded_of_change_sized (C := Try.checked) own started (by kernel_rfl) Try.func6
    (ChangeSpec.witness6 (enc := enc) (C := Try.checked) false ⟨#[], #[.int .i64 0, .slice none 0 0, .int .i64 0, .slice none 0 0], []⟩ 8 (by kernel_rfl) (by kernel_rfl) (by kernel_rfl) (by kernel_rfl)) ?_
  intro W base args ds gs before hval0 hW hcnd hsz0 _
  have hval : ∀ (j : Nat) t v, Try.f6.params[j]? = some t → args[j]? = some v → Value.okWide Try.prog W .any base t v := hval0
  have hW' := hW
  obtain ⟨p, q, hA0, hV, rfl, hfz, hnd⟩ := hW
  have hA : DataW.TrodAll enc Try.prog W 0 (fun _ => true) true Try.f6.params.toList args.toList ds p := hA0
  rw [Try.params6] at hA hval
  have hsz : (DataW.weightsEach Try.prog (Try.f6.params.toList ++ Ythccobceodgmlaa.Rows.assignPlaysSpec.plain.varTypes Try.prog) (ds ++ gs)).all (· ≤ reachBytes) = true := hsz0
  rw [Try.params6] at hsz
  obtain ⟨v0, vs0, d0, ds0, p0, q0, hargs, rfl, rfl, h0, r0⟩ := trodAll_cons hA
  obtain ⟨v1, vs1, d1, ds1, p1, q1, rfl, rfl, rfl, h1, r1⟩ := trodAll_cons r0
  obtain ⟨v2, vs2, d2, ds2, p2, q2, rfl, rfl, rfl, h2, r2⟩ := trodAll_cons r1
  obtain ⟨v3, vs3, d3, ds3, p3, q3, rfl, rfl, rfl, h3, r3⟩ := trodAll_cons r2
  obtain ⟨rfl, rfl, rfl⟩ := trodAll_nil r3
  obtain rfl : args = #[v0, v1, v2, v3] := by cases args; simp_all
  obtain ⟨rfl, rfl⟩ := trodVars_none hV
  obtain ⟨a0, rfl, rfl, rfl, w0⟩ := open_int Try.underlying3 (hval 0 3 v0 rfl rfl) h0
  obtain ⟨a1, len1, cap1, rfl⟩ := okWide_slice Try.underlying43 (hval 1 43 v1 rfl rfl)
  have k1 := h1
  have lt1 : ∀ x ∈ p1, x.block < W.heap.size := by obtain ⟨m, hm⟩ := k1; exact DataW.trod_lt m _ _ _ hm
  obtain ⟨z1, w1⟩ : ∃ zs, IsPairs W a1 len1 cap1 zs := by
    obtain ⟨fuel, hf⟩ := h1
    rcases Go.Deep.open_slice_pairs Try.underlying43 Try.underlying48 (by kernel_rfl) rfl rfl (by kernel_rfl) (by kernel_rfl) hf with ⟨hcs, _⟩ | ⟨x, l, c, m, n, V0, V1, D0, D1, P0, P1, hcs, _, hl, hm, hmm, hx, hall⟩
    · simp [Value.cells] at hcs
      obtain ⟨rfl, rfl, rfl⟩ := hcs
      exact ⟨[], .inl ⟨rfl, rfl, rfl, rfl⟩⟩
    · simp [Value.cells] at hcs
      obtain ⟨rfl, rfl, rfl⟩ := hcs
      simp only [if_true] at hmm
      subst hmm
      have num : ∀ i, i < m → ∃ p : Int × Int, V0 i = .int .i64 p.1 ∧ V1 i = .int .i64 p.2 := by
        intro i hi
        obtain ⟨_, _, t0, t1⟩ := hall i hi
        obtain ⟨n0, e0, _⟩ := DataW.trod_int Try.underlying3 t0
        obtain ⟨n1, e1, _⟩ := DataW.trod_int Try.underlying3 t1
        exact ⟨(n0, n1), by simpa using e0, by simpa using e1⟩
      have ch : ∀ i, ∃ p : Int × Int, i < m → V0 i = .int .i64 p.1 ∧ V1 i = .int .i64 p.2 := by
        intro i
        by_cases hi : i < m
        · obtain ⟨p, hp⟩ := num i hi; exact ⟨p, fun _ => hp⟩
        · exact ⟨(0, 0), fun h => absurd h hi⟩
      refine ⟨(List.range m).map fun i => Classical.choose (ch i), .inr ⟨_, rfl, hl, by simp, fun i hi => ?_⟩⟩
      obtain ⟨c0, c1, _, _⟩ := hall i hi
      obtain ⟨e0, e1⟩ := Classical.choose_spec (ch i) hi
      have hg : ((List.range m).map fun i => Classical.choose (ch i)).getD i (0, 0) = Classical.choose (ch i) := by
        rw [List.getD_eq_getElem?_getD, List.getElem?_map, List.getElem?_range hi]; rfl
      rw [hg, ← e0, ← e1]
      exact ⟨c0, c1⟩
  obtain ⟨a2, rfl, rfl, rfl, w2⟩ := open_int Try.underlying3 (hval 2 3 v2 rfl rfl) h2
  obtain ⟨a3, len3, cap3, rfl⟩ := okWide_slice Try.underlying34 (hval 3 34 v3 rfl rfl)
  have k3 := h3
  have lt3 : ∀ x ∈ p3, x.block < W.heap.size := by obtain ⟨m, hm⟩ := k3; exact DataW.trod_lt m _ _ _ hm
  obtain ⟨A3, L3, C3, Z3, w3, g3⟩ : ∃ A L C Z, IsGrid .i64 W a3 len3 cap3 A L C Z ∧ ∀ r, r < len3 → (Z r).length ≤ 140737488355328 := by
    obtain ⟨fuel, hf⟩ := h3
    rcases Go.Deep.open_int_rows Try.underlying34 Try.underlying22 Try.underlying3 (by kernel_rfl) (by kernel_rfl) hf with ⟨hcs, _⟩ | ⟨x, l, c, A, L, C, Z, hcs, _, hl, hm, hx, hall⟩
    · simp [Value.cells] at hcs
      obtain ⟨rfl, rfl, rfl⟩ := hcs
      exact ⟨fun _ => none, fun _ => 0, fun _ => 0, fun _ => [], .inl ⟨rfl, rfl, rfl⟩, fun r _ => by simp⟩
    · simp [Value.cells] at hcs
      obtain ⟨rfl, rfl, rfl⟩ := hcs
      simp only [Prod.mk.injEq] at hx
      obtain ⟨hd, _⟩ := hx
      subst hd
      have hZ : ∀ r, r < len3 → A r = none → Z r = [] := fun r hr hA => by
        obtain ⟨_, _, _, hz, _, hn, _⟩ := hall r (by omega)
        rw [hn hA] at hz
        exact List.eq_nil_of_length_eq_zero hz
      have hsz2 := sized_grid (A := A) (L := L) (Z := fun r => if r < len3 then Z r else []) (len := len3) hsz (j := 3) (t := 34) (e := 22) (q := 3) rfl (by
        simp only [List.cons_append, List.getElem?_cons_zero, List.getElem?_cons_succ]
        congr 2
        refine List.map_congr_left fun r hr => ?_
        rw [if_pos (List.mem_range.1 hr)]) Try.underlying34 Try.underlying22 (by kernel_rfl) (fun r hA => by
          split
          · rename_i hr; exact hZ r hr hA
          · rfl)
      refine ⟨A, L, C, Z, .inr ⟨_, rfl, hl, fun r hr => ?_⟩, fun r hr => by have := hsz2 r hr; simpa only [if_pos hr] using this⟩
      obtain ⟨h1, h2, h3, h4, h5, h6, h7⟩ := hall r hr
      refine ⟨h1, ?_⟩
      cases hA : A r with
      | none =>
        have h8 := h6 hA
        exact .inl ⟨rfl, by omega, h8, by rw [h8] at h4; exact List.eq_nil_of_length_eq_zero h4⟩
      | some y =>
        obtain ⟨_, h9⟩ := h7 y hA
        exact .inr ⟨y, rfl, h2, h3, h4, fun c hc => h9 c (by omega), h5⟩
  clear hA0 hval0
  refine (walk a0 a1 len1 cap1 z1 a2 a3 len3 cap3 A3 L3 C3 Z3 W w0 w1 w2 w3 g3).mono fun e W' ⟨he, bel⟩ => ?_
  subst he
  exact ⟨_, rfl, _, _, _, [], _, [], hW', trodAll_mk1 (shut_bool Try.underlying4 _), (trodAll_cons_mk (shut_int Try.underlying3 w0) (trodAll_cons_mk (Below.trod laidOut (by kernel_rfl) (of_decide_eq_true (by kernel_rfl)) k1 bel lt1) (trodAll_cons_mk (shut_int Try.underlying3 w2) (trodAll_cons_mk (Below.trod laidOut (by kernel_rfl) (of_decide_eq_true (by kernel_rfl)) k3 bel lt3) trodAll_mk0)))), rfl, bel.frame _, fun h => by cases h⟩

theorem over : Ythccobceodgmlaa.Rows.assignPlaysRow.holds Ythccobceodgmlaa.Try.pinned (OpenSpec.ofChange Ythccobceodgmlaa.Rows.assignPlaysSpec) :=
  OpenClaim.holds_of_wide 6 Try.f6 rfl rfl rfl rfl rfl rfl rfl ⟨rfl, rfl, rfl, rfl, rfl⟩ rfl rfl rfl rfl rfl (by kernel_rfl) Try.func6 (by kernel_rfl)
    (of_decide_eq_true (by kernel_rfl)) (by unfold Func.isWrapper; first | (rw [if_pos (by decide +kernel)]; kernel_rfl) | (rw [if_neg (by decide +kernel)]; exact ⟨rfl, rfl⟩))
    (fun os started H enc _ => lifted os started H enc)

/-- the statement -/
theorem proved : Ythccobceodgmlaa.Rows.AssignPlaysSaid := over
#print axioms proved
end Go.Proofs.Ythccobceodgmlaa.assignPlaysDone
