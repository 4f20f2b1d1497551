/-
 Arguments that came in, as values, by their types.
-/
import Derived.Test.YtjagkijfngokaaaGreatDoorBm24
import Derived.Test.YtjagkijfngokaaaGreatDoorBm31
import Derived.Lib.SmallJoins
import Derived.Deep.Slices
import Derived.Deep.Strs
namespace Go.Proofs.YtjagkijfngokaaaGreatDoor
open Go.RowKit Go.ChangeShapes
section
variable {H : Type} {enc : TypeId × Value → H} {P : Program} {w : World} {tok : Nat → Option Addr}
def Reads (enc : TypeId × Value → H) (P : Program) (w : World) (tok : Nat → Option Addr) (t : TypeId) {α : Type} (f : α → List AV) (g : α → Prop) : Prop :=
 ∀ (fuel : Nat) (cs : List Value) (x : DataW H × List MemPlace), DataW.trod enc P w 0 (fun _ => true) true fuel t cs = some x → (∀ n ∈ x.1.weights P t, n ≤ reachBytes) → ∃ a, g a ∧ CRel1 (Mu.start w tok) (f a) cs
theorem crel_one {μ : Mu} {u : AV} {v : Value} (h : VRel μ u v) (h1 : v.oneCell' = true) : CRel1 μ [u] [v] := by
 refine ⟨⟨rfl, fun i c d hc hd => ?_⟩, fun d hd => by simp at hd; subst hd; exact h1⟩
 cases i with
 | zero => simp at hc hd; subst hc; subst hd; exact h
 | succ i => simp at hc
theorem crel_append {μ : Mu} {a b : List AV} {c d : List Value} (h1 : CRel1 μ a c) (h2 : CRel1 μ b d) : CRel1 μ (a ++ b) (c ++ d) := by
 refine ⟨⟨by rw [List.length_append, List.length_append, h1.1.1, h2.1.1], fun i x y hx hy => ?_⟩, fun y hy => ?_⟩
 · rw [List.getElem?_append] at hx hy
   rw [h1.1.1] at hx
   split at hx
   · rename_i h
     rw [if_pos h] at hy
     exact h1.1.2 i x y hx hy
   · rename_i h
     rw [if_neg h] at hy
     exact h2.1.2 _ x y hx hy
 · rcases List.mem_append.1 hy with hy | hy
   · exact h1.2 y hy
   · exact h2.2 y hy
theorem crel_flat {μ : Mu} {f : Nat → List AV} {g : Nat → List Value} : ∀ {l : List Nat}, (∀ i ∈ l, CRel1 μ (f i) (g i)) → CRel1 μ (l.flatMap f) (l.flatMap g)
 | [], _ => .nil
 | i :: l, h => by
   rw [List.flatMap_cons, List.flatMap_cons]
   exact crel_append (h i (List.mem_cons_self ..)) (crel_flat fun j hj => h j (List.mem_cons_of_mem _ hj))
theorem Reads.int {t : TypeId} {k : IntKind} (hu : P.underlying t = some (.int k)) : Reads enc P w tok t (fun n : Int => [.int k n]) (fun n => (Lit.int k n).wf = true) := by
 intro fuel cs x h _
 obtain ⟨n, rfl, _, hw⟩ := DataW.trod_int hu h
 exact ⟨n, hw, crel_one .int rfl⟩
theorem Reads.bool {t : TypeId} (hu : P.underlying t = some .bool) : Reads enc P w tok t (fun b : Bool => [.bool b]) (fun _ => True) := by
 intro fuel cs x h _
 cases fuel with
 | zero => cases h
 | succ fuel =>
   simp only [DataW.trod, hu] at h
   split at h <;> first | (rename_i e; cases e; done) | skip
   all_goals (try (cases h; done))
   all_goals (first | (rename_i e; cases e) | skip)
   all_goals (first | exact ⟨_, trivial, crel_one .bool rfl⟩ | skip)
theorem Reads.str {t : TypeId} (hu : P.underlying t = some .string) : Reads enc P w tok t (fun s : ByteArray => [.str s]) (fun s => s.size ≤ reachBytes) := by
 intro fuel cs x h hw
 obtain ⟨s, rfl, rfl, hs⟩ := DataW.trod_string hu h
 refine ⟨s, ?_, crel_one .str rfl⟩
 have := hw s.data.toList.length (by simp [DataW.weights])
 simpa using this
theorem weightsAll_of {e : TypeId} {ds : List (DataW H)} {d : DataW H} (hd : d ∈ ds) : ∀ n ∈ d.weights P e, n ∈ DataW.weightsAll P e ds := weightsAll_mem hd
theorem Reads.slice {t e : TypeId} {α : Type} [Inhabited α] {f : α → List AV} {g : α → Prop} {sz bytes : Nat} (hu : P.underlying t = some (.slice e)) (he : Reads enc P w tok e f g) (hsz : P.cellsOf e = sz) (h0 : 0 < sz) (hlen : ∀ a, (f a).length = sz) (hb : P.bytesOf e = bytes) :
   Reads enc P w tok t (fun l : List α => [.slice (lstN f l)]) (fun l => (∀ a ∈ l, g a) ∧ l.length * bytes ≤ reachBytes) := by
 intro fuel cs x h hw
 rcases Go.Deep.open_slice hu h with ⟨rfl, rfl⟩ | ⟨a, len, cap, m, n, D, Pl, rfl, _, hl, hm, hmm, rfl, hall⟩
 · have h0 : VRel (Mu.start w tok) (.slice (.lst 0 false [])) (.slice none 0 0) := .lst0 (fun h => by cases h) fun _ => rfl
   exact ⟨[], ⟨(fun a h => by cases h), by simp⟩, crel_one h0 rfl⟩
 · simp only [if_true] at hmm
   subst hmm
   simp only [DataW.weights, hu, List.length_map, List.length_range] at hw
   have hwD : ∀ i, i < m → ∀ q ∈ (D i).weights P e, q ≤ reachBytes := by
     intro i hi q hq
     refine hw q (List.mem_cons_of_mem _ (List.mem_append.2 ?_))
     by_cases hil : i < len
     · exact .inl (weightsAll_of (List.mem_map.2 ⟨i, List.mem_range.2 hil, rfl⟩) q hq)
     · refine .inr (weightsAll_of (List.mem_map.2 ⟨i - len, List.mem_range.2 (by omega), ?_⟩) q hq)
       congr 1; omega
   have num : ∀ i, ∃ p : α × List Value, i < m → g p.1 ∧ CRel1 (Mu.start w tok) (f p.1) p.2 ∧ ∀ k, k < sz → w.cell? (a.add (i * sz + k)) = p.2[k]? := by
     intro i
     by_cases hi : i < m
     · obtain ⟨cs', hc, ht⟩ := hall i hi
       obtain ⟨y, hy1, hy2⟩ := he n cs' (D i, Pl i) ht (hwD i hi)
       refine ⟨(y, cs'), fun _ => ⟨hy1, hy2, fun k hk => ?_⟩⟩
       unfold World.cells? at hc
       rw [if_pos (Nat.zero_le _), hsz] at hc
       obtain ⟨hl1, hl2⟩ := mapM_get hc
       rw [List.length_range] at hl1
       have hk2 : k < cs'.length := by omega
       have := hl2 k k cs'[k] (List.getElem?_range hk) (List.getElem?_eq_getElem hk2)
       rw [List.getElem?_eq_getElem hk2, ← this, Addr.add_add]
     · exact ⟨(default, []), fun h => absurd h hi⟩
   have ch : ∀ i, i < m → g (Classical.choose (num i)).1 ∧ CRel1 (Mu.start w tok) (f (Classical.choose (num i)).1) (Classical.choose (num i)).2 ∧ ∀ k, k < sz → w.cell? (a.add (i * sz + k)) = (Classical.choose (num i)).2[k]? := fun i hi => Classical.choose_spec (num i) hi
   obtain ⟨A, B, hAB⟩ : ∃ (A : Nat → α) (B : Nat → List Value), ∀ i, i < m → g (A i) ∧ CRel1 (Mu.start w tok) (f (A i)) (B i) ∧ ∀ k, k < sz → w.cell? (a.add (i * sz + k)) = (B i)[k]? := ⟨_, _, ch⟩
   have hBl : ∀ i, i < m → (B i).length = sz := fun i hi => by rw [← (hAB i hi).2.1.1.1]; exact hlen _
   have hlenF : ∀ (F : Nat → List Value) (q : Nat), (∀ i, i < q → (F i).length = sz) → ((List.range q).flatMap F).length = q * sz := by
     intro F q
     induction q with
     | zero => intro _; simp
     | succ q ih => intro hF; rw [List.range_succ, List.flatMap_append, List.length_append, ih fun i hi => hF i (by omega)]; simp [hF q (by omega), Nat.add_mul]
   have hgetF : ∀ (F : Nat → List Value) (q : Nat), (∀ i, i < q → (F i).length = sz) → ∀ i k, i < q → k < sz → ((List.range q).flatMap F)[i * sz + k]? = (F i)[k]? := by
     intro F q
     induction q with
     | zero => intro _ i k hi; omega
     | succ q ih =>
       intro hF i k hi hk
       rw [List.range_succ, List.flatMap_append]
       have hq := hlenF F q fun i hi => hF i (by omega)
       by_cases hiq : i < q
       · have : i * sz + k < q * sz := by
           have : (i + 1) * sz ≤ q * sz := Nat.mul_le_mul_right _ hiq
           rw [Nat.add_mul] at this
           omega
         rw [List.getElem?_append_left (by rw [hq]; exact this)]
         exact ih (fun i hi => hF i (by omega)) i k hiq hk
       · obtain rfl : i = q := by omega
         rw [List.getElem?_append_right (by rw [hq]; omega), hq, Nat.add_sub_cancel_left]
         simp
   have hrel : CRel1 (Mu.start w tok) ((List.range m).flatMap fun i => f (A i)) ((List.range m).flatMap B) := crel_flat fun i hi => (hAB i (List.mem_range.1 hi)).2.1
   have hS := VRel.startSlice (tok := tok) sz hrel hl (by rw [hlenF B m hBl]) h0 (a := a) fun i y hy => by
     have hi2 : i < m * sz := by
       have := (List.getElem?_eq_some_iff.1 hy).1
       rwa [hlenF B m hBl] at this
     have e1 : i = i / sz * sz + i % sz := by rw [Nat.mul_comm]; exact (Nat.div_add_mod i sz).symm
     have hq : i / sz < m := (Nat.div_lt_iff_lt_mul h0).2 hi2
     have hr : i % sz < sz := Nat.mod_lt _ h0
     rw [e1, hgetF B m hBl _ _ hq hr] at hy
     rw [e1, (hAB _ hq).2.2 _ hr]
     exact hy
   refine ⟨(List.range len).map A, ⟨fun b hb2 => ?_, ?_⟩, crel_one ?_ rfl⟩
   · obtain ⟨i, hi, rfl⟩ := List.mem_map.1 hb2
     exact (hAB i (by have := List.mem_range.1 hi; omega)).1
   · have := hw _ (List.mem_cons_self ..)
     rw [hb] at this
     have h5 : len * bytes ≤ (len + (m - len)) * bytes := Nat.mul_le_mul_right _ (by omega)
     simp only [List.length_map, List.length_range]
     omega
   · have htake : ((List.range m).flatMap fun i => f (A i)).take (len * sz) = ((List.range len).map A).flatMap f := by
       have e2 : List.range m = List.range len ++ (List.range (m - len)).map (len + ·) := by
         have : m = len + (m - len) := by omega
         conv => lhs; rw [this]
         rw [List.range_add]
       have hfl : ∀ q, ((List.range q).flatMap fun i => f (A i)).length = q * sz := by
         intro q
         induction q with
         | zero => simp
         | succ q ih => rw [List.range_succ, List.flatMap_append, List.length_append, ih]; simp [hlen, Nat.add_mul]
       rw [e2, List.flatMap_append, List.take_append_of_le_length (by rw [hfl]; exact Nat.le_refl _), List.take_of_length_le (by rw [hfl]; exact Nat.le_refl _), List.flatMap_map]
     rw [htake] at hS
     unfold lstN
     rw [List.length_map, List.length_range]
     exact hS
theorem flatMap_single {α : Type} (c : α → AV) : ∀ l : List α, (l.flatMap fun a => [c a]) = l.map c
 | [] => rfl
 | a :: l => by rw [List.flatMap_cons, flatMap_single c l]; rfl
theorem Reads.slice1 {t e : TypeId} {α : Type} [Inhabited α] {c : α → AV} {g : α → Prop} {bytes : Nat} (hu : P.underlying t = some (.slice e)) (he : Reads enc P w tok e (fun a => [c a]) g) (hsz : P.cellsOf e = 1) (hb : P.bytesOf e = bytes) :
   Reads enc P w tok t (fun l : List α => [.slice (lstM c l)]) (fun l => (∀ a ∈ l, g a) ∧ l.length * bytes ≤ reachBytes) := by
 intro fuel cs x h hw
 obtain ⟨l, h1, h2⟩ := Reads.slice hu he hsz (by omega) (fun _ => rfl) hb fuel cs x h hw
 refine ⟨l, h1, ?_⟩
 have h3 : CRel1 (Mu.start w tok) [.slice (.lst l.length false (l.flatMap fun a => [c a]))] cs := h2
 rw [flatMap_single] at h3
 exact h3
theorem Reads.struct2 {t : TypeId} {f0 f1 : Field} {α β : Type} {a : α → List AV} {b : β → List AV} {ga : α → Prop} {gb : β → Prop} {s0 s1 : Nat} (hs : P.underlying t = some (.struct #[f0, f1])) (h0 : Reads enc P w tok f0.type a ga) (h1 : Reads enc P w tok f1.type b gb)
   (o0 : f0.offset = 0) (c0 : P.cellsOf f0.type = s0) (o1 : f1.offset = s0) (c1 : P.cellsOf f1.type = s1) (ct : P.cellsOf t = s0 + s1) : Reads enc P w tok t (fun p : α × β => a p.1 ++ b p.2) (fun p => ga p.1 ∧ gb p.2) := by
 intro fuel cs x h hw
 obtain ⟨y0, y1, n, rfl, hl, t0, t1⟩ := trod_struct2 hs h
 have hw' : ∀ n ∈ DataW.weightsEach P [f0.type, f1.type] [y0.1, y1.1], n ≤ reachBytes := fun n hn => hw n (by simpa [DataW.weights, hs] using hn)
 obtain ⟨p, gp, rp⟩ := h0 n _ y0 t0 fun q hq => hw' q (by simp [DataW.weightsEach, hq])
 obtain ⟨r, gr, rr⟩ := h1 n _ y1 t1 fun q hq => hw' q (by simp [DataW.weightsEach, hq])
 refine ⟨(p, r), ⟨gp, gr⟩, ?_⟩
 have hc : cs = (cs.drop f0.offset).take (P.cellsOf f0.type) ++ (cs.drop f1.offset).take (P.cellsOf f1.type) := by
   rw [o0, c0, o1, c1, List.drop_zero, List.take_of_length_le (l := cs.drop s0) (by simp; omega), List.take_append_drop]
 rw [hc]
 exact crel_append rp rr
theorem Reads.struct3 {t : TypeId} {f0 f1 f2 : Field} {α β γ : Type} {a : α → List AV} {b : β → List AV} {c : γ → List AV} {ga : α → Prop} {gb : β → Prop} {gc : γ → Prop} {s0 s1 s2 : Nat} (hs : P.underlying t = some (.struct #[f0, f1, f2])) (h0 : Reads enc P w tok f0.type a ga) (h1 : Reads enc P w tok f1.type b gb) (h2 : Reads enc P w tok f2.type c gc)
   (o0 : f0.offset = 0) (c0 : P.cellsOf f0.type = s0) (o1 : f1.offset = s0) (c1 : P.cellsOf f1.type = s1) (o2 : f2.offset = s0 + s1) (c2 : P.cellsOf f2.type = s2) (ct : P.cellsOf t = s0 + s1 + s2) : Reads enc P w tok t (fun p : α × β × γ => a p.1 ++ (b p.2.1 ++ c p.2.2)) (fun p => ga p.1 ∧ gb p.2.1 ∧ gc p.2.2) := by
 intro fuel cs x h hw
 obtain ⟨y0, y1, y2, n, rfl, hl, t0, t1, t2⟩ := Go.Deep.trod_struct3 hs h
 have hw' : ∀ n ∈ DataW.weightsEach P [f0.type, f1.type, f2.type] [y0.1, y1.1, y2.1], n ≤ reachBytes := fun n hn => hw n (by simpa [DataW.weights, hs] using hn)
 obtain ⟨p, gp, rp⟩ := h0 n _ y0 t0 fun q hq => hw' q (by simp [DataW.weightsEach, hq])
 obtain ⟨r, gr, rr⟩ := h1 n _ y1 t1 fun q hq => hw' q (by simp [DataW.weightsEach, hq])
 obtain ⟨s, gs, rs⟩ := h2 n _ y2 t2 fun q hq => hw' q (by simp [DataW.weightsEach, hq])
 refine ⟨(p, r, s), ⟨gp, gr, gs⟩, ?_⟩
 have hc : cs = (cs.drop f0.offset).take (P.cellsOf f0.type) ++ ((cs.drop f1.offset).take (P.cellsOf f1.type) ++ (cs.drop f2.offset).take (P.cellsOf f2.type)) := by
   rw [o0, c0, o1, c1, o2, c2, List.drop_zero, List.take_of_length_le (l := cs.drop (s0 + s1)) (by simp; omega)]
   rw [show cs.drop (s0 + s1) = (cs.drop s0).drop s1 from by rw [List.drop_drop], List.take_append_drop, List.take_append_drop]
 rw [hc]
 exact crel_append rp (crel_append rr rs)
theorem Reads.one {t : TypeId} {α : Type} {c : α → AV} {g : α → Prop} (hR : Reads enc P w tok t (fun a => [c a]) g) {v : Value} {d : DataW H} {p : List MemPlace} (h : DataW.Trod enc P w 0 (fun _ => true) true t v d p) (hw : ∀ n ∈ d.weights P t, n ≤ reachBytes) (hv : v.cells = #[v]) :
   ∃ a, g a ∧ VRel (Mu.start w tok) (c a) v := by
 obtain ⟨fuel, hf⟩ := h
 rw [hv] at hf
 obtain ⟨a, h1, h2⟩ := hR fuel [v] (d, p) hf hw
 exact ⟨a, h1, h2.1.2 0 _ _ rfl rfl⟩
theorem Reads.agg {t : TypeId} {α : Type} {f : α → List AV} {g : α → Prop} (hR : Reads enc P w tok t f g) {cs : Array Value} {d : DataW H} {p : List MemPlace} (h : DataW.Trod enc P w 0 (fun _ => true) true t (.agg cs) d p) (hw : ∀ n ∈ d.weights P t, n ≤ reachBytes) :
   ∃ a, g a ∧ VRel (Mu.start w tok) (.agg (f a)) (.agg cs) := by
 obtain ⟨fuel, hf⟩ := h
 obtain ⟨a, h1, h2⟩ := hR fuel cs.toList (d, p) hf hw
 exact ⟨a, h1, .agg (by rw [h2.1.1]; simp) fun i c d hc hd => h2.1.2 i c d hc (by simpa using hd)⟩
end
end Go.Proofs.YtjagkijfngokaaaGreatDoor
