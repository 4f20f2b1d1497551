/-
 Arguments that came in, as values.
-/
import Derived.Test.YtdmbfmgebgdfnaaDoorBm23
import Derived.DataShut
import Derived.SizedLaws
import Derived.Deep.Matrix
import Derived.Deep.SlicePairs
import Derived.Deep.Grids
namespace Go.Proofs.YtdmbfmgebgdfnaaDoor
open Go.RowKit Go.ChangeShapes
def zAO (k : IntKind) (w : World) (a : Option Addr) (len cap : Nat) (zs : List Int) : Prop :=
 (a = none ∧ len = 0 ∧ cap = 0 ∧ zs = []) ∨
 ∃ x, a = some x ∧ len ≤ cap ∧ cap ≤ maxLen ∧ zs.length = cap ∧ (∀ i, i < zs.length → w.cell? (x.add i) = some (.int k (zs.getD i 0))) ∧ ∀ n ∈ zs, (Lit.int k n).wf = true
def zDF (k : IntKind) (w : World) (a : Option Addr) (len cap : Nat) (A : Nat → Option Addr) (L C : Nat → Nat) (Z : Nat → List Int) : Prop :=
 (a = none ∧ len = 0 ∧ cap = 0) ∨
 ∃ x, a = some x ∧ len ≤ cap ∧ ∀ r, r < cap → w.cell? (x.add r) = some (.slice (A r) (L r) (C r)) ∧ zAO k w (A r) (L r) (C r) (Z r)
def zDk (w : World) (a : Option Addr) (len cap : Nat) (zs : List (Int × Int)) : Prop :=
 (a = none ∧ len = 0 ∧ cap = 0 ∧ zs = []) ∨
 ∃ x, a = some x ∧ len ≤ cap ∧ zs.length = cap ∧ ∀ i, i < cap → w.cell? (x.add (i * 2)) = some (.int .i64 (zs.getD i (0, 0)).1) ∧ w.cell? (x.add (i * 2 + 1)) = some (.int .i64 (zs.getD i (0, 0)).2)
def zDl (w : World) (a : Option Addr) (len cap : Nat) (zs : List Bool) : Prop :=
 (a = none ∧ len = 0 ∧ cap = 0 ∧ zs = []) ∨
 ∃ x, a = some x ∧ len ≤ cap ∧ zs.length = cap ∧ ∀ i, i < cap → w.cell? (x.add i) = some (.bool (zs.getD i false))
section
variable {w : World} {tok : Nat → Option Addr}
theorem zCi {α : Type} {μ : Mu} {f : α → AV} {g : α → Value} {l : List α} (h : ∀ a ∈ l, VRel μ (f a) (g a) ∧ (g a).oneCell' = true) : zkP μ (l.map f) (l.map g) := by
 refine ⟨⟨by simp, fun i c d hc hd => ?_⟩, fun d hd => ?_⟩
 · rw [List.getElem?_map] at hc hd
   cases hi : l[i]? with
   | none => rw [hi] at hc; cases hc
   | some z =>
     rw [hi] at hc hd
     cases hc; cases hd
     exact (h z (List.mem_of_getElem? hi)).1
 · obtain ⟨z, hz, rfl⟩ := List.mem_map.1 hd
   exact (h z hz).2
theorem zAX {k : IntKind} {a : Option Addr} {len cap : Nat} {zs : List Int} (w0 : zAO k w a len cap zs) :
   VRel (Mu.start w tok) (.slice (lstM (.int k) (zs.take len))) (.slice a len cap) ∧ (zs.take len).length = len ∧ (∀ n ∈ zs.take len, (Lit.int k n).wf = true) := by
 rcases w0 with ⟨rfl, rfl, rfl, rfl⟩ | ⟨x, rfl, hl, hm, hz, hcell, hwz⟩
 · exact ⟨.lst0 (fun h => by cases h) fun _ => rfl, rfl, by simp⟩
 · have hlen : (zs.take len).length = len := by simp; omega
   refine ⟨?_, hlen, fun n hn => hwz n (List.mem_of_mem_take hn)⟩
   have := VRel.startSlice (tok := tok) 1 (zCi (f := AV.int k) (g := Value.int k) (l := zs) fun z _ => ⟨.int, rfl⟩) hl (by simpa using hz.symm) (by omega) (a := x) fun i y hy => by
     rw [List.getElem?_map] at hy
     cases hi : zs[i]? with
     | none => rw [hi] at hy; cases hy
     | some z =>
       rw [hi] at hy
       cases hy
       have hlt := (List.getElem?_eq_some_iff.1 hi).1
       rw [hcell i hlt]
       simp [hi]
   rw [Nat.mul_one, ← List.map_take] at this
   unfold lstM
   rw [hlen]
   exact this
theorem wf64 {n : Int} (h : (Lit.int .i64 n).wf = true) : -9223372036854775808 ≤ n ∧ n ≤ 9223372036854775807 := (Lit.wf_int_iff .i64 n).1 h
end
theorem zqO {H : Type} {P : Program} {e : TypeId} : ∀ {ds : List (DataW H)} {d : DataW H}, d ∈ ds → ∀ n ∈ d.weights P e, n ∈ DataW.weightsAll P e ds
 | x :: ds, d, hd, n, hn => by
   simp only [DataW.weightsAll, List.mem_append]
   rcases List.mem_cons.1 hd with rfl | hd
   · exact .inl hn
   · exact .inr (zqO hd n hn)
end Go.Proofs.YtdmbfmgebgdfnaaDoor
