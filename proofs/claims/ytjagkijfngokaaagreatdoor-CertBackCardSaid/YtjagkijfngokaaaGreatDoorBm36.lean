/-
 Arguments that are structs of five fields, arrays of two.
-/
import Derived.Test.YtjagkijfngokaaaGreatDoorBm33
import Derived.OpenShut
namespace Go.Proofs.YtjagkijfngokaaaGreatDoor
open Go.RowKit Go.ChangeShapes
section
variable {H : Type} {enc : TypeId × Value → H} {P : Program} {w : World} {tok : Nat → Option Addr}
theorem Reads.struct5 {t : TypeId} {f0 f1 f2 f3 f4 : Field} {α β γ δ ε : Type} {a : α → List AV} {b : β → List AV} {c : γ → List AV} {d : δ → List AV} {e : ε → List AV}
   {ga : α → Prop} {gb : β → Prop} {gc : γ → Prop} {gd : δ → Prop} {ge : ε → Prop} {s0 s1 s2 s3 s4 : Nat}
   (hs : P.underlying t = some (.struct #[f0, f1, f2, f3, f4])) (h0 : Reads enc P w tok f0.type a ga) (h1 : Reads enc P w tok f1.type b gb) (h2 : Reads enc P w tok f2.type c gc) (h3 : Reads enc P w tok f3.type d gd) (h4 : Reads enc P w tok f4.type e ge)
   (o0 : f0.offset = 0) (c0 : P.cellsOf f0.type = s0) (o1 : f1.offset = s0) (c1 : P.cellsOf f1.type = s1) (o2 : f2.offset = s0 + s1) (c2 : P.cellsOf f2.type = s2) (o3 : f3.offset = s0 + s1 + s2) (c3 : P.cellsOf f3.type = s3) (o4 : f4.offset = s0 + s1 + s2 + s3) (c4 : P.cellsOf f4.type = s4)
   (ct : P.cellsOf t = s0 + s1 + s2 + s3 + s4) : Reads enc P w tok t (fun p : α × β × γ × δ × ε => a p.1 ++ (b p.2.1 ++ (c p.2.2.1 ++ (d p.2.2.2.1 ++ e p.2.2.2.2)))) (fun p => ga p.1 ∧ gb p.2.1 ∧ gc p.2.2.1 ∧ gd p.2.2.2.1 ∧ ge p.2.2.2.2) := by
 intro fuel cs x h hw
 obtain ⟨xs, n, _, rfl, hl, hlen, hf⟩ := DataW.trod_struct hs h
 match xs, hlen with
 | [y0, y1, y2, y3, y4], _ =>
   have t0 : DataW.trod enc P w 0 (fun _ => true) true n f0.type ((cs.drop f0.offset).take (P.cellsOf f0.type)) = some y0 := by simpa using hf 0 f0 rfl
   have t1 : DataW.trod enc P w 0 (fun _ => true) true n f1.type ((cs.drop f1.offset).take (P.cellsOf f1.type)) = some y1 := by simpa using hf 1 f1 rfl
   have t2 : DataW.trod enc P w 0 (fun _ => true) true n f2.type ((cs.drop f2.offset).take (P.cellsOf f2.type)) = some y2 := by simpa using hf 2 f2 rfl
   have t3 : DataW.trod enc P w 0 (fun _ => true) true n f3.type ((cs.drop f3.offset).take (P.cellsOf f3.type)) = some y3 := by simpa using hf 3 f3 rfl
   have t4 : DataW.trod enc P w 0 (fun _ => true) true n f4.type ((cs.drop f4.offset).take (P.cellsOf f4.type)) = some y4 := by simpa using hf 4 f4 rfl
   have hw' : ∀ n ∈ DataW.weightsEach P [f0.type, f1.type, f2.type, f3.type, f4.type] [y0.1, y1.1, y2.1, y3.1, y4.1], n ≤ reachBytes := fun n hn => hw n (by simpa [DataW.weights, hs] using hn)
   obtain ⟨p0, g0, r0⟩ := h0 n _ y0 t0 fun q hq => hw' q (by simp [DataW.weightsEach, hq])
   obtain ⟨p1, g1, r1⟩ := h1 n _ y1 t1 fun q hq => hw' q (by simp [DataW.weightsEach, hq])
   obtain ⟨p2, g2, r2⟩ := h2 n _ y2 t2 fun q hq => hw' q (by simp [DataW.weightsEach, hq])
   obtain ⟨p3, g3, r3⟩ := h3 n _ y3 t3 fun q hq => hw' q (by simp [DataW.weightsEach, hq])
   obtain ⟨p4, g4, r4⟩ := h4 n _ y4 t4 fun q hq => hw' q (by simp [DataW.weightsEach, hq])
   refine ⟨(p0, p1, p2, p3, p4), ⟨g0, g1, g2, g3, g4⟩, ?_⟩
   have hc : cs = (cs.drop f0.offset).take (P.cellsOf f0.type) ++ ((cs.drop f1.offset).take (P.cellsOf f1.type) ++ ((cs.drop f2.offset).take (P.cellsOf f2.type) ++ ((cs.drop f3.offset).take (P.cellsOf f3.type) ++ (cs.drop f4.offset).take (P.cellsOf f4.type)))) := by
     rw [o0, c0, o1, c1, o2, c2, o3, c3, o4, c4, List.drop_zero, List.take_of_length_le (l := cs.drop (s0 + s1 + s2 + s3)) (by simp; omega)]
     rw [show cs.drop (s0 + s1 + s2 + s3) = (cs.drop (s0 + s1 + s2)).drop s3 from by rw [List.drop_drop], List.take_append_drop,
       show cs.drop (s0 + s1 + s2) = (cs.drop (s0 + s1)).drop s2 from by rw [List.drop_drop], List.take_append_drop,
       show cs.drop (s0 + s1) = (cs.drop s0).drop s1 from by rw [List.drop_drop], List.take_append_drop, List.take_append_drop]
   rw [hc]
   exact crel_append r0 (crel_append r1 (crel_append r2 (crel_append r3 r4)))
theorem Reads.arr2 {t e : TypeId} {α : Type} {f : α → List AV} {g : α → Prop} {sz : Nat} (hu : P.underlying t = some (.array 2 e)) (he : Reads enc P w tok e f g) (hsz : P.cellsOf e = sz) (ct : P.cellsOf t = sz + sz) :
   Reads enc P w tok t (fun p : α × α => f p.1 ++ f p.2) (fun p => g p.1 ∧ g p.2) := by
 intro fuel cs x h hw
 obtain ⟨xs, n, _, rfl, hl, hlen, hf⟩ := DataW.trod_array hu h
 match xs, hlen with
 | [y0, y1], _ =>
   have t0 : DataW.trod enc P w 0 (fun _ => true) true n e ((cs.drop (0 * P.cellsOf e)).take (P.cellsOf e)) = some y0 := by simpa using hf 0 (by omega)
   have t1 : DataW.trod enc P w 0 (fun _ => true) true n e ((cs.drop (1 * P.cellsOf e)).take (P.cellsOf e)) = some y1 := by simpa using hf 1 (by omega)
   have hw' : ∀ n ∈ DataW.weightsAll P e [y0.1, y1.1], n ≤ reachBytes := fun n hn => hw n (by simpa [DataW.weights, hu] using hn)
   obtain ⟨p0, g0, r0⟩ := he n _ y0 t0 fun q hq => hw' q (by simp [DataW.weightsAll, hq])
   obtain ⟨p1, g1, r1⟩ := he n _ y1 t1 fun q hq => hw' q (by simp [DataW.weightsAll, hq])
   refine ⟨(p0, p1), ⟨g0, g1⟩, ?_⟩
   have hc : cs = (cs.drop (0 * P.cellsOf e)).take (P.cellsOf e) ++ (cs.drop (1 * P.cellsOf e)).take (P.cellsOf e) := by
     rw [hsz, Nat.zero_mul, Nat.one_mul, List.drop_zero, List.take_of_length_le (l := cs.drop sz) (by simp; omega), List.take_append_drop]
   rw [hc]
   exact crel_append r0 r1
end
end Go.Proofs.YtjagkijfngokaaaGreatDoor
