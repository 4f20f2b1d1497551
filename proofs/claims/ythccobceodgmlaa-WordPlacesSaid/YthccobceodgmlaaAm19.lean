/-
  From a call of the abstract machine to the model's call; arguments as rows that are never written.
-/
import Derived.Test.YthccobceodgmlaaAm18
namespace Go.Proofs.Ythccobceodgmlaa
open Go.RowKit Go.MuLone

section
variable {P : Program} {C : Ctx} {B : Nat} {q : Bool}

theorem acall_calls (hT : TypesOk P C) (hF : FunsOk P C) (hM : P.follows .mixedOrders = true) (hX : ExtOk P C B q) (hXt : ExtOk P C B true) {d : Nat} {f : FuncId} {fn : Func} {c : Code} (hf : P.funcs[f]? = some fn) (hb : fn.body = some c)
    (hname : (fn.name == "runtime.NumGoroutine") = false) {args : List AVal} {h h' : AHeap} {v : AVal} (hk : acall C q d f args h = some (v, h')) {μ : Mu} {w : World} {xs : Array Value} (hr : HRel μ B h w) (hg : GlobOk C μ)
    (hlen : args.length = xs.size) (hxs : ∀ (i : Nat) u x, args[i]? = some u → xs[i]? = some x → VRel μ u x) :
    Calls P f xs w fun e w' => ∃ x μ', e = .returned x ∧ VRel μ' v x ∧ HRel μ' B h' w' ∧ Below B w w' := by
  have := acall_ok hT hF hM d q hX hXt f args h v h' hk μ w xs hr hg hlen hxs { dst := some 0, op := .move (.tmp 0), type := 0, pos := "", after := #[], guard := none } { tmps := #[undef], defers := [] }
    (fun a' w' => ∃ x μ', a'.tmps[0]? = some x ∧ VRel μ' v x ∧ HRel μ' B h' w' ∧ Below B w w') (fun _ _ _ => False) fun y w' ⟨μ', h1, h2, h3, h4, h5⟩ => ⟨y, μ', by simp [Act.put], h2, h3, h4⟩
  rw [run_callFunc_enter hf hname hb] at this
  refine Calls.mono this fun e w' h => ?_
  cases e with
  | returned y =>
    obtain ⟨x, μ', h1, h2, h3, h4⟩ := h
    simp [Act.put] at h1
    exact ⟨y, μ', rfl, h1 ▸ h2, h3, h4⟩
  | panicked c => exact h.elim
  | outgrown => simp [LetsOut] at h

/-- The heap with one more row, that is never written. -/
def AHeap.given (h : AHeap) (sz : Nat) (cs : List AVal) : AHeap := { h with rows := h.rows ++ [{ cells := cs, sz := sz, ro := true }] }

def AHeap.allRo (h : AHeap) : Prop := ∀ (i : Nat) row, h.rows[i]? = some row → row.ro = true

theorem AHeap.allRo.given {h : AHeap} (hr : h.allRo) (sz : Nat) (cs : List AVal) : (h.given sz cs).allRo := by
  intro i row hi
  rcases (getElem?_append_one _ _ _ _).1 hi with ⟨_, k⟩ | ⟨_, rfl⟩
  · exact hr i row k
  · rfl

def AHeap.none : AHeap := ⟨[], []⟩
theorem AHeap.none_ro : AHeap.none.allRo := fun i row h => by simp [AHeap.none] at h
def Mu.none : Mu := ⟨[], []⟩
theorem HRel.none {w : World} (hB : B ≤ w.heap.size) : HRel Mu.none B AHeap.none w := by
  refine ⟨hB, rfl, rfl, fun i ii row h => by simp [Mu.none] at h, ?_, fun m b es h => by simp [Mu.none] at h, fun m n b h => by simp [Mu.none] at h⟩
  intro i j ii jj row row' g g' gi gj _ h
  simp [Mu.none] at h

/-- An argument's cells, as a row. -/
theorem HRel.given {μ : Mu} {h : AHeap} {w : World} (hr : HRel μ B h w) (hro : h.allRo) (sz : Nat) {cs : List AVal} {ds : List Value} (hc : CRel1 μ cs ds) {b off : Nat} (hne : ds ≠ [])
    (hcell : ∀ (i : Nat) x, ds[i]? = some x → w.cell? ⟨b, off + i, .none⟩ = some x) :
    ∃ size, off + ds.length ≤ size ∧ HRel (μ.push sz ⟨b, off, 0, cs.length, size⟩) B (h.given sz cs) w := by
  have hpos : 0 < ds.length := List.length_pos_iff.2 hne
  have cellAt : ∀ (i : Nat) x, ds[i]? = some x → ∃ c e fz, w.heap[b]? = some (.cells c e fz) ∧ c[off + i]? = some x := by
    intro i x hx
    have := hcell i x hx
    unfold World.cell? at this
    split at this
    · rename_i c e fz hb
      exact ⟨c, e, fz, hb, by simpa using this⟩
    · cases this
  obtain ⟨c, e, fz, hb, h0⟩ := cellAt 0 ds[0] (List.getElem?_eq_getElem hpos)
  have all : ∀ (i : Nat) x, ds[i]? = some x → c[off + i]? = some x := by
    intro i x hx
    obtain ⟨c', e', fz', hb', h1⟩ := cellAt i x hx
    rw [hb] at hb'
    cases hb'
    exact h1
  have hfit : off + ds.length ≤ c.size := by
    have := (Array.getElem?_eq_some_iff.1 (all (ds.length - 1) ds[ds.length - 1] (List.getElem?_eq_getElem (by omega)))).1
    omega
  have hle := μ.le_push sz ⟨b, off, 0, cs.length, c.size⟩
  have hlen := hc.1.1
  refine ⟨c.size, hfit, ⟨hr.base, by simp [Mu.push, AHeap.given, hr.rlen], by simp [Mu.push, AHeap.given, hr.mlen], ?_, ?_, ?_, hr.msep⟩⟩
  · intro i ii row hi hrow
    rcases (getElem?_append_one _ _ _ _).1 hi with ⟨hlt, hi⟩ | ⟨hlt, rfl⟩
    · rcases (getElem?_append_one _ _ _ _).1 hrow with ⟨_, hrow⟩ | ⟨hx, _⟩
      · exact (hr.row i ii row hi hrow).mono hle
      · have := hr.rlen; omega
    · rcases (getElem?_append_one _ _ _ _).1 hrow with ⟨hx, _⟩ | ⟨_, rfl⟩
      · have := hr.rlen; omega
      · have one : ∀ {g : Nat} {gi : GenInfo}, [(⟨b, off, 0, cs.length, c.size⟩ : GenInfo)][g]? = some gi → gi = ⟨b, off, 0, cs.length, c.size⟩ := by
          intro g gi hg
          have hg0 : g = 0 := by
            have := (List.getElem?_eq_some_iff.1 hg).1
            simpa using this
          subst hg0
          simpa using hg.symm
        refine ⟨rfl, Nat.le_refl _, rfl, fun gi hg => by rw [one hg], fun g gi hg => ?_, fun g g' gi gi' hg hg' _ => by rw [one hg, one hg']; exact ⟨rfl, rfl, rfl⟩⟩
        rw [one hg]
        refine ⟨Nat.zero_le _, by simp; omega, c, e, fz, hb, rfl, (fun h => by cases h), fun _ => ⟨Nat.le_refl _, fun i v _ hi hv => ?_⟩⟩
        obtain ⟨x, hx, hv', ho⟩ := hc.get hv
        exact ⟨x, by simpa using all i x hx, hv'.mono hle, ho⟩
  · intro i j ii jj row row' g g' gi gj _ _ _ hrow hrow' hor _ _
    rw [hro.given sz cs i row hrow, hro.given sz cs j row' hrow'] at hor
    simp at hor
  · intro m b' es hm he
    obtain ⟨h1, ds', clock, h2, h3⟩ := hr.map m b' es hm he
    exact ⟨h1, ds', clock, h2, h3.mono hle⟩

/-- A slice that came in: what is known of it. -/
inductive Given (h : AHeap) (sz : Nat) : Sl → List AVal → Prop
  | nil : Given h sz .nil []
  | none {r} : Given h sz (.mk r 0 true) []
  | row {id len cells row} (h1 : h.rows[id]? = some row) (h2 : row.cells = cells) (h3 : row.sz = sz) (h4 : row.valid = 0) (h5 : row.gen = 0) (hl : len * sz ≤ cells.length) : Given h sz (.mk ⟨id, 0, 0⟩ len false) (cells.take (len * sz))

/-- A slice argument, its cells known. -/
theorem HRel.givenSlice {μ : Mu} {h : AHeap} {w : World} (hr : HRel μ B h w) (hro : h.allRo) (sz : Nat) {cs : List AVal} {ds : List Value} (hc : CRel1 μ cs ds) {a : Addr} {len cap : Nat} (hlc : len ≤ cap) (hcap : cap * sz = ds.length) (hsz : 0 < sz)
    (hcell : ∀ (i : Nat) x, ds[i]? = some x → w.cell? (a.add i) = some x) :
    ∃ μ' h' s, μ.le μ' ∧ HRel μ' B h' w ∧ h'.allRo ∧ VRel μ' (.slice s) (.slice (some a) len cap) ∧ s.len = len ∧ Given h' sz s (cs.take (len * sz)) ∧ (∀ (i : Nat) row, h.rows[i]? = some row → h'.rows[i]? = some row) := by
  by_cases h0 : cap = 0
  · subst h0
    have : len = 0 := by omega
    subst this
    exact ⟨μ, h, .mk ⟨0, 0, 0⟩ 0 true, μ.le_refl, hr, hro, .noslice, rfl, by simpa using Given.none, fun i row hi => hi⟩
  · have hpos : 0 < cap * sz := Nat.mul_pos (by omega) hsz
    have hne : ds ≠ [] := by intro e; rw [e] at hcap; simp at hcap; omega
    obtain ⟨b, off, spot⟩ := a
    have hspot : spot = .none := by
      have := hcell 0 ds[0] (List.getElem?_eq_getElem (by omega))
      have h2 : w.cell? (Addr.mk b off spot) = some ds[0] := by simpa [Addr.add] using this
      unfold World.cell? at h2
      split at h2
      · cases spot with
        | none => rfl
        | some s => simp at h2
      · cases h2
    subst hspot
    obtain ⟨size, hfit, hr'⟩ := hr.given hro sz hc (b := b) (off := off) hne fun i x hx => by rw [← Addr.add_lit]; exact hcell i x hx
    have hlen := hc.1.1
    have hnew : (h.given sz cs).rows[h.rows.length]? = some { cells := cs, sz := sz, ro := true } := by simp [AHeap.given]
    have hmn : (μ.push sz ⟨b, off, 0, cs.length, size⟩).rows[h.rows.length]? = some ⟨sz, [⟨b, off, 0, cs.length, size⟩]⟩ := by
      rw [← hr.rlen]; simp [Mu.push]
    have hmul : len * sz ≤ cap * sz := Nat.mul_le_mul_right _ hlc
    refine ⟨_, _, .mk ⟨h.rows.length, 0, 0⟩ len false, μ.le_push _ _, hr', hro.given sz cs, ?_, rfl, .row hnew rfl rfl rfl rfl (by omega), fun i row hi => ?_⟩
    · refine .slice (ii := ⟨sz, [⟨b, off, 0, cs.length, size⟩]⟩) (gi := ⟨b, off, 0, cs.length, size⟩) hmn rfl (Nat.le_refl _) hlc (fun h => by cases h) ?_ (.inr ⟨?_, ?_⟩)
      · simp; omega
      · simp [GenInfo.spot]
      · simp; omega
    · exact (getElem?_append_one _ _ _ _).2 (.inl ⟨(List.getElem?_eq_some_iff.1 hi).1, hi⟩)

/-! What is to be shown of one program. -/

theorem typesOk_of (n : Nat) (h1 : ∀ t, n ≤ t → C.info t = .none) (h2 : (List.range n).all (fun t => match C.info t with | .some i => typeOk P t i | .none => true) = true) : TypesOk P C := by
  refine ⟨fun t i hi => ?_⟩
  by_cases ht : t < n
  · have := List.all_eq_true.1 h2 t (List.mem_range.2 ht)
    rw [hi] at this
    exact this
  · rw [h1 t (Nat.le_of_not_lt ht)] at hi
    cases hi

theorem funsOk_of (h1 : ∀ f, C.funs f = .none ∨ ∃ an, C.funs f = (P.funcs[f]?).map fun fn => (fn, an)) (h2 : (P.funcs.toList.all fun fn => !(fn.name == "runtime.NumGoroutine")) = true) : FunsOk P C := by
  intro f fn an hf
  rcases h1 f with h | ⟨an', h⟩
  · rw [h] at hf; cases hf
  · rw [h] at hf
    cases hp : P.funcs[f]? with
    | none => rw [hp] at hf; cases hf
    | some fn' =>
      rw [hp] at hf
      simp at hf
      obtain ⟨rfl, _⟩ := hf
      have := List.all_eq_true.1 h2 fn' (by
        have := Array.mem_of_getElem? hp
        simpa using this)
      exact ⟨rfl, by simpa using this⟩

theorem extOk_none (h : ∀ f, C.ext f = .none) : ExtOk P C B q := by
  intro f args h0 v h' hk
  simp [h] at hk

theorem bif_out {α : Type} {a b : Nat} (x : Option α) (h : b ≤ a) : (bif Nat.blt a b then x else .none) = .none := by
  have : Nat.blt a b = false := by rw [← Bool.not_eq_true, nblt]; omega
  rw [this]; rfl

end
end Go.Proofs.Ythccobceodgmlaa
