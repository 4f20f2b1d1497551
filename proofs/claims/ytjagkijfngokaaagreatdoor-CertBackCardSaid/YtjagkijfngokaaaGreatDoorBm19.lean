/-
 From a call of the abstract machine to the model's call; arguments as values.
-/
import Derived.Test.YtjagkijfngokaaaGreatDoorBm18
namespace Go.Proofs.YtjagkijfngokaaaGreatDoor
open Go.RowKit Go.MuLone
section
variable {P : Program} {C : Ctx} {B : Nat} {q : Bool}
theorem acall_calls (hT : TypesOk P C) (hF : FunsOk P C) (hM : P.follows .mixedOrders = true) (hX : ∀ B q, ExtOk P C B q) {d : Nat} {f : FuncId} {fn : Func} {c : Code} (hf : P.funcs[f]? = some fn) (hb : fn.body = some c)
   (hname : (fn.name == "runtime.NumGoroutine") = false) {args : List AV} {h h' : AH} {v : AV} (hk : acall C q d f args h = some (v, h')) {μ : Mu} {w : World} {xs : Array Value} (hr : HRel μ B h w) (hg : GlobOk C μ)
   (hlen : args.length = xs.size) (hxs : ∀ (i : Nat) u x, args[i]? = some u → xs[i]? = some x → VRel μ u x) :
   Calls P f xs w fun e w' => ∃ x μ', e = .returned x ∧ VRel μ' v x ∧ HRel μ' B h' w' ∧ Below B w w' := by
 have := acall_ok hT hF hM hX d q B f args h v h' hk μ w xs hr hg hlen hxs { dst := some 0, op := .move (.tmp 0), type := 0, pos := "", after := #[], guard := none } { tmps := #[undef], defers := [] }
   (fun a' w' => ∃ x μ', a'.tmps[0]? = some x ∧ VRel μ' v x ∧ HRel μ' B h' w' ∧ Below B w w') (fun _ _ _ => False) fun y w' ⟨μ', h1, h2, h3, h4, h5⟩ => ⟨y, μ', by simp [Act.put], h2, h3, h4⟩
 rw [run_callFunc_enter hf hname hb] at this
 refine Calls.mono this fun e w' h => ?_
 cases e with
 | returned y =>
   obtain ⟨x, μ', h1, h2, h3, h4⟩ := h
   simp [Act.put] at h1
   exact ⟨y, μ', rfl, h1 ▸ h2, h3, h4⟩
 | panicked c => exact h.elim
 | outgrown => simp [LetsOut] at h
def Mu.start (w : World) (tok : Nat → Option Addr) : Mu := { rows := [], maps := [], frz := World.cellsOf w, tok := tok, lim := 0 }
theorem cellsOf_some {w : World} {b : Nat} {c : Array Value} (h : World.cellsOf w b = some c) : ∃ e fz, w.heap[b]? = some (.cells c e fz) := by
 unfold World.cellsOf at h
 split at h
 · rename_i c' e fz h9
   cases h
   exact ⟨e, fz, h9⟩
 · cases h
theorem HRel.start {w : World} {tok : Nat → Option Addr} (hB : B ≤ w.heap.size) (htok : ∀ k a, tok k = .some a → ∃ c e, w.heap[a.block]? = .some (.cells c e (0, 0))) (hinj : ∀ k l a, tok k = .some a → tok l = .some a → k = l) :
   HRel (Mu.start w tok) B AH.none w := by
 refine ⟨hB, rfl, rfl, fun i ii row h => by simp [Mu.start] at h, ?_, fun m b es h => by simp [Mu.start] at h, fun m n b h => by simp [Mu.start] at h, ⟨Nat.zero_le _, fun b arr h => ⟨?_, fun i ii row g gi h => by simp [Mu.start] at h⟩, fun k a h => ?_, hinj⟩, Nat.zero_le _, fun i ii row g gi h => by simp [Mu.start] at h⟩
 · intro i j ii jj row row' g g' gi gj _ h
   simp [Mu.start] at h
 · exact cellsOf_some h
 · obtain ⟨c, e, h9⟩ := htok k a h
   exact ⟨⟨c, by simp [Mu.start, World.cellsOf, h9]⟩, c, e, h9⟩
theorem start_cells {w : World} {tok : Nat → Option Addr} {cs : List AV} {ds : List Value} (hc : CRel1 (Mu.start w tok) cs ds) {a : Addr} (hne : ds ≠ []) (hcell : ∀ (i : Nat) x, ds[i]? = .some x → w.cell? (a.add i) = .some x) :
   ∃ arr, (Mu.start w tok).frz a.block = .some arr ∧ a.spot = .none ∧ a.off + cs.length ≤ arr.size ∧ (∀ (i : Nat) c d, cs[i]? = .some c → arr[a.off + i]? = .some d → VRel (Mu.start w tok) c d) ∧ ∀ (i : Nat) d, i < cs.length → arr[a.off + i]? = .some d → d.oneCell' = true := by
 have hpos : 0 < ds.length := List.length_pos_iff.2 hne
 have hlen := hc.1.1
 obtain ⟨b, off, spot⟩ := a
 have hspot : spot = .none := by
   have := hcell 0 ds[0] (List.getElem?_eq_getElem (by omega))
   have h2 : w.cell? (Addr.mk b off spot) = .some ds[0] := by simpa [Addr.add] using this
   unfold World.cell? at h2
   split at h2
   · cases spot with
     | none => rfl
     | some s => simp at h2
   · cases h2
 subst hspot
 have cellAt : ∀ (i : Nat) x, ds[i]? = .some x → ∃ c e fz, w.heap[b]? = .some (.cells c e fz) ∧ c[off + i]? = .some x := by
   intro i x hx
   have := hcell i x hx
   rw [Addr.add_lit] at this
   unfold World.cell? at this
   split at this
   · rename_i c e fz hb
     exact ⟨c, e, fz, hb, by simpa using this⟩
   · cases this
 obtain ⟨c, e, fz, hb, h0⟩ := cellAt 0 ds[0] (List.getElem?_eq_getElem hpos)
 have all : ∀ (i : Nat) x, ds[i]? = .some x → c[off + i]? = .some x := by
   intro i x hx
   obtain ⟨c', e', fz', hb', h1⟩ := cellAt i x hx
   rw [hb] at hb'
   cases hb'
   exact h1
 have hfit : off + ds.length ≤ c.size := by
   have := (Array.getElem?_eq_some_iff.1 (all (ds.length - 1) ds[ds.length - 1] (List.getElem?_eq_getElem (by omega)))).1
   omega
 refine ⟨c, by simp [Mu.start, World.cellsOf, hb], rfl, by simp only; omega, fun i v d hv hd => ?_, fun i d hi hd => ?_⟩
 · obtain ⟨x, hx, hv', ho⟩ := hc.get hv
   simp only at hd
   rw [all i x hx] at hd
   cases hd
   exact hv'
 · have hi' : i < ds.length := by omega
   simp only at hd
   rw [all i _ (List.getElem?_eq_getElem hi')] at hd
   cases hd
   exact hc.2 _ (List.getElem_mem hi')
theorem VRel.startSlice {w : World} {tok : Nat → Option Addr} (sz : Nat) {cs : List AV} {ds : List Value} (hc : CRel1 (Mu.start w tok) cs ds) {a : Addr} {len cap : Nat} (hlc : len ≤ cap) (hcap : cap * sz = ds.length) (hsz : 0 < sz)
   (hcell : ∀ (i : Nat) x, ds[i]? = .some x → w.cell? (a.add i) = .some x) : VRel (Mu.start w tok) (.slice (.lst len false (cs.take (len * sz)))) (.slice (.some a) len cap) := by
 by_cases h0 : cap = 0
 · subst h0
   have : len = 0 := by omega
   subst this
   simpa using VRel.lst0 (fun h => by cases h) (fun h => by cases h)
 · have hpos : 0 < cap * sz := Nat.mul_pos (by omega) hsz
   have hne : ds ≠ [] := by intro e; rw [e] at hcap; simp at hcap; omega
   obtain ⟨arr, h1, h2, h3, h4, h5⟩ := start_cells hc hne hcell
   refine .lst h1 h2 hlc (fun h => by cases h) (fun _ => ?_) (fun i c d hi hd => ?_) fun i d hi hd => ?_
   · simp
     omega
   · rw [List.getElem?_take] at hi
     split at hi
     · exact h4 i c d hi hd
     · cases hi
   · simp at hi
     exact h5 i d (by omega) hd
theorem typesOk_of (n : Nat) (h1 : ∀ t, n ≤ t → C.info t = .none) (h2 : (List.range n).all (fun t => match C.info t with | .some i => typeOk P t i | .none => true) = true) : TypesOk P C := by
 refine ⟨fun t i hi => ?_⟩
 by_cases ht : t < n
 · have := List.all_eq_true.1 h2 t (List.mem_range.2 ht)
   rw [hi] at this
   exact this
 · rw [h1 t (Nat.le_of_not_lt ht)] at hi
   cases hi
theorem funsOk_of (h1 : ∀ f, C.funs f = .none ∨ ∃ an, C.funs f = (P.funcs[f]?).map fun fn => (fn, an)) (h2 : (P.funcs.toList.all fun fn => !(fn.name == "runtime.NumGoroutine")) = true) : FunsOk P C := by
 intro f fn an hf
 rcases h1 f with h | ⟨an', h⟩
 · rw [h] at hf; cases hf
 · rw [h] at hf
   cases hp : P.funcs[f]? with
   | none => rw [hp] at hf; cases hf
   | some fn' =>
     rw [hp] at hf
     simp at hf
     obtain ⟨rfl, _⟩ := hf
     have := List.all_eq_true.1 h2 fn' (by
       have := Array.mem_of_getElem? hp
       simpa using this)
     exact ⟨rfl, by simpa using this⟩
theorem bif_out {α : Type} {a b : Nat} (x : Option α) (h : b ≤ a) : (bif Nat.blt a b then x else .none) = .none := by
 have : Nat.blt a b = false := by rw [← Bool.not_eq_true, nblt]; omega
 rw [this]; rfl
end
end Go.Proofs.YtjagkijfngokaaaGreatDoor
