/-
  Calls: in the model as the abstract machine says.
-/
import Derived.Test.YthccobceodgmlaaAm17
import Derived.Conc.MuLone
namespace Go.Proofs.Ythccobceodgmlaa
open Go.RowKit Go.MuLone

section
variable {P : Program} {C : Ctx} {B : Nat} {q : Bool}

/-- What is told of calls otherwise. -/
def ExtOk (P : Program) (C : Ctx) (B : Nat) (q : Bool) : Prop := CallsOk P C B q fun f args h => match C.ext f with
  | some g => g args h
  | none => none

theorem inSlots_get : ∀ (args : List AVal) (j i : Nat), (inSlots args j).get i = if j ≤ i then (match args[i - j]? with | some u => u | none => .bot) else .bot
  | [], j, i => by simp [inSlots, Fr.get]
  | u :: args, j, i => by
    have ih := inSlots_get args (j + 1) i
    simp only [inSlots, Fr.get, Bool.cond_eq_ite, nbeq, ih]
    by_cases h : j = i
    · subst h; simp
    · rw [if_neg h]
      by_cases h2 : j ≤ i
      · have e : i - j = (i - (j + 1)) + 1 := by omega
        rw [if_pos (show j + 1 ≤ i by omega), if_pos h2, e, List.getElem?_cons_succ]
      · rw [if_neg (show ¬ j + 1 ≤ i by omega), if_neg h2]

/-- What one result reads. -/
def readRes (tmps : Array Value) : ResultVar → Sem Value
  | .tmp t => pure (tmps.getD t undef)
  | .cell a t => do loadVar t (← asAddr (tmps.getD a undef))

def ares (fr : Fr) : ResultVar → Option AVal
  | .tmp t => some (fr.get t)
  | _ => none

theorem readAll {μ : Mu} {nt : Nat} {fr : Fr} {h : AHeap} {a : Act} {w : World} (hr : Rel P C B nt μ fr h a w) : ∀ (l : List ResultVar) (us : List AVal), l.mapM (ares fr) = some us →
    ∃ xs : List Value, (l.mapM (readRes a.tmps)).run P w = .ok xs w ∧ us.length = xs.length ∧ ∀ (i : Nat) u x, us[i]? = some u → xs[i]? = some x → VRel μ u x
  | [], us, hus => by
    simp at hus
    subst hus
    exact ⟨[], by simp, rfl, fun i u x hu => by simp at hu⟩
  | r :: l, us, hus => by
    cases r with
    | cell b t => simp [ares] at hus
    | tmp t =>
      simp only [List.mapM_cons, ares] at hus
      cases hl : l.mapM (ares fr) with
      | none => rw [show (l.mapM (ares fr)) = none from hl] at hus; simp at hus
      | some us' =>
        rw [hl] at hus
        simp at hus
        subst hus
        obtain ⟨xs, h1, h2, h3⟩ := readAll hr l us' hl
        refine ⟨a.tmps.getD t undef :: xs, ?_, by simp [h2], ?_⟩
        · simp only [List.mapM_cons, readRes]
          simp [h1]
        · intro i u x hu hx
          cases i with
          | zero => simp at hu hx; subst hu; subst hx; simpa using hr.slots t
          | succ i => exact h3 i u x (by simpa using hu) (by simpa using hx)

theorem results_ok {μ : Mu} {nt : Nat} {fr : Fr} {h : AHeap} {a : Act} {w : World} {fn : Func} {v : AVal} (hr : Rel P C B nt μ fr h a w) (hv : aresults fr fn.results.toList = some v) :
    ∃ x, (results fn a.tmps).run P w = .ok x w ∧ VRel μ v x := by
  have e : results fn a.tmps = (do
      let vs ← fn.results.mapM (readRes a.tmps)
      pure (if h : vs.size = 1 then vs[0] else .tuple vs)) := by
    unfold results
    congr 2
  rw [e, Array.mapM_eq_mapM_toList]
  have hv2 : (∃ t, fn.results.toList = [.tmp t] ∧ v = fr.get t) ∨ ((∀ t, fn.results.toList ≠ [.tmp t]) ∧ (fn.results.toList.mapM (ares fr)).map AVal.tup = some v) := by
    unfold aresults at hv
    split at hv
    · rename_i t ht
      simp at hv
      exact .inl ⟨t, ht, hv.symm⟩
    · rename_i hne
      refine .inr ⟨hne, ?_⟩
      rw [← hv]
      congr 2
  rcases hv2 with ⟨t, ht, rfl⟩ | ⟨hne, hv⟩
  · rw [ht]
    exact ⟨a.tmps.getD t undef, by simp [readRes], hr.slots t⟩
  · cases hus : fn.results.toList.mapM (ares fr) with
    | none => rw [hus] at hv; cases hv
    | some us =>
      rw [hus] at hv
      simp at hv
      subst hv
      obtain ⟨xs, h1, h2, h3⟩ := readAll hr _ us hus
      have hlen : us.length = fn.results.toList.length := by
        have : ∀ (l : List ResultVar) (us : List AVal), l.mapM (ares fr) = some us → us.length = l.length := by
          intro l
          induction l with
          | nil => intro us h; simp at h; subst h; rfl
          | cons r l ih =>
            intro us h
            rw [List.mapM_cons] at h
            cases h1 : ares fr r with
            | none => rw [h1] at h; simp at h
            | some u =>
              cases h2 : l.mapM (ares fr) with
              | none => rw [h1, h2] at h; simp at h
              | some us' => rw [h1, h2] at h; simp at h; subst h; simp [ih us' h2]
        exact this _ _ hus
      have hn1 : xs.length ≠ 1 := by
        intro h4
        have h5 : fn.results.toList.length = 1 := by omega
        obtain ⟨r, hr1⟩ := List.length_eq_one_iff.1 h5
        cases r with
        | tmp t => exact hne t hr1
        | cell b t => rw [hr1] at hus; simp [ares] at hus
      refine ⟨.tuple xs.toArray, by simp [h1, hn1], .tup (by simpa using h2) fun i u x hu hx => h3 i u x hu (by simpa using hx)⟩

/-- **A call does in the model what the abstract machine says.** -/
theorem acall_ok (hT : TypesOk P C) (hF : FunsOk P C) (hM : P.follows .mixedOrders = true) : ∀ (d : Nat) (q : Bool), ExtOk P C B q → ExtOk P C B true → CallsOk P C B q (acall C q d)
  | 0, q, hX, _ => fun f args h v h' hk => hX f args h v h' hk
  | d + 1, q, hX, hXt => by
    have ih := acall_ok hT hF hM d q hX hXt
    have iht := acall_ok hT hF hM d true hXt hXt
    intro f args h v h' hk
    cases hext : C.ext f with
    | some g =>
      refine hX f args h v h' ?_
      simp only [acall, hext] at hk
      simp only [hext]
      exact hk
    | none =>
      simp only [acall, hext] at hk
      cases hfun : C.funs f with
      | none => rw [hfun] at hk; cases hk
      | some p =>
        obtain ⟨fn, an⟩ := p
        simp only [hfun] at hk
        cases hbody : fn.body with
        | none => rw [hbody] at hk; cases hk
        | some c =>
          simp only [hbody] at hk
          rw [Bool.cond_eq_ite] at hk
          split at hk
          case isFalse => cases hk
          rename_i hle
          rw [Nat.ble_eq] at hle
          obtain ⟨e, fr', h1, hk1, hrun⟩ := (aexec_ok (nt := fn.ntmps) hT hF hM ih iht c an).go _ h _ _ hk
          obtain ⟨hf, hname⟩ := hF f fn an hfun
          intro μ w xs hr hg hlen hxs o a K Q hK
          rw [run_callFunc_enter hf hname hbody]
          simp only [Oper.upon]
          refine calls_of_wp hf hbody ?_
          have hsize : (xs ++ Array.replicate (fn.ntmps - xs.size) undef).size = fn.ntmps := by simp; omega
          have hrel : Rel P C B fn.ntmps μ (inSlots args 0) h { tmps := xs ++ Array.replicate (fn.ntmps - xs.size) undef, defers := [] } w := by
            refine ⟨hr, fun i => ?_, rfl, by rw [hsize]; exact Nat.le_refl _, hg⟩
            rw [inSlots_get, if_pos (Nat.zero_le _), Nat.sub_zero]
            cases hi : args[i]? with
            | none => exact .bot
            | some u =>
              have hi2 : i < xs.size := by have := (List.getElem?_eq_some_iff.1 hi).1; omega
              refine hxs i u _ hi ?_
              rw [Array.getD_eq_getD_getElem?, Array.getElem?_append_left hi2]
              simp [hi2]
          refine hrun _ μ w _ hrel fun μ' a' w' e1 e2 e3 e4 => ?_
          have fin : aresults fr' fn.results.toList = some v → h1 = h' → a'.defers = [] ∧ ∃ y, (results fn a'.tmps).run P w' = .ok y w' ∧ K (a.put o.dst y) w' := by
            intro hv he
            subst he
            obtain ⟨y, hy, hvy⟩ := results_ok e2 hv
            exact ⟨e2.defers, y, hy, hK y w' ⟨μ', e1, hvy, e2.heap, e3, e4⟩⟩
          cases e with
          | exit i => simp at hk1
          | normal =>
            simp only [Option.map_eq_some_iff, Prod.mk.injEq] at hk1
            obtain ⟨v1, h2, rfl, rfl⟩ := hk1
            exact fin h2 rfl
          | ret =>
            simp only [Option.map_eq_some_iff, Prod.mk.injEq] at hk1
            obtain ⟨v1, h2, rfl, rfl⟩ := hk1
            exact fin h2 rfl

end
end Go.Proofs.Ythccobceodgmlaa
