/-
  Parts of the proof of ProofRows: Steps: the reference's text, counts; the text is read as they were. skolemref.SameInts. skolemref.SameSteps. Clauses held against clauses; what the readers tell. Bytes held against themselves. ProofChecks. What is there still, behind calls. skolemref.Bytes: a slice of its own. ProofRows.
-/
import Derived.Test.YtdkckkhghghhdaaDoorTProofRows1
import Derived.Test.YtdkckkhghghhdaaDoorE
import Derived.Test.YtdkckkhghghhdaaDoorBm31
namespace Go.Proofs.YtdkckkhghghhdaaDoor
open Go.RowKit

/-! counts -/
def cntD (L : List Stp) : Nat := (L.filter fun s => s.1).length
/-! the reference's text -/
/-! what is written is read -/
theorem noLit_text {x : Int} (h : LitOk 4000 x) : noLit (decT x) = false ∧ numW (decT x) = x := by
  obtain ⟨a1, a2, _⟩ := decT_num h.2.2.1 h.2.2.2
  refine ⟨?_, a2⟩
  unfold noLit
  rw [a1, a2, decide_eq_false h.1, h.2.1]; rfl
theorem decT_d (x : Int) : (decT x == [100]) = false := beq_false_of_ne fun e => (decT_word x).2.2.2.2.2 (by rw [e]; rfl)
theorem readT_nums (e : Nat) : ∀ (l : List Int) (p : Nat) (f : Bool) (ws : List Wd) (out : List Stp) (now : Stp) (begun : Bool), (∀ x ∈ l, LitOk 4000 x) → readT e (numWs l p f ++ ws) out now begun = readT e ws out (now.1, now.2 ++ l) (begun || !l.isEmpty)
  | [], p, f, ws, out, now, begun, hl => by simp [numWs]
  | x :: l, p, f, ws, out, now, begun, hl => by
    have hx := hl x (List.mem_cons_self ..)
    obtain ⟨t1, t2⟩ := noLit_text hx
    simp only [numWs, List.cons_append, readT, t1, t2, decT_d, Bool.and_false]
    rw [if_neg (by simp), if_neg (by simp), if_neg hx.1, readT_nums e l _ _ _ _ _ _ fun y hy => hl y (List.mem_cons_of_mem _ hy)]
    simp
theorem readT_line (e : Nat) (l : List Int) (r : List UInt8) (p : Nat) (f : Bool) (out : List Stp) (now : Stp) (begun : Bool) (hl : ∀ x ∈ l, LitOk 4000 x) : ∃ q, readT e (wordsOf (lineT l ++ r) p f false) out now begun = readT e (wordsOf r q true false) (out ++ [(now.1, now.2 ++ l)]) (false, []) false ∧ q = p + (lineT l).length := by
  obtain ⟨q, e1, hq⟩ := W_line l r p f
  refine ⟨q, ?_, hq⟩
  have hz : noLit [48] = false ∧ numW [48] = 0 := by
    have : okNum [48] = true ∧ numW [48] = 0 := by decide
    refine ⟨?_, this.2⟩
    unfold noLit
    rw [this.1, this.2]; rfl
  rw [e1, readT_nums e l _ _ _ _ _ _ hl]
  simp only [readT, hz.1, hz.2]
  rw [if_neg (by simp), if_neg (by simp), if_pos trivial]
theorem readT_step (e : Nat) (s : Stp) (r : List UInt8) (p : Nat) (out : List Stp) (hl : ∀ x ∈ s.2, LitOk 4000 x) : ∃ q, readT e (wordsOf (stepT s ++ r) p true false) out (false, []) false = readT e (wordsOf r q true false) (out ++ [s]) (false, []) false ∧ q = p + (stepT s).length := by
  obtain ⟨b, l⟩ := s
  cases b with
  | false =>
    obtain ⟨q, e1, hq⟩ := readT_line e l r p true out (false, []) false hl
    have hs : stepT (false, l) = lineT l := by simp [stepT]
    exact ⟨q, by rw [hs, e1]; simp, by rw [hs, hq]⟩
  | true =>
    have hs : stepT (true, l) = [100, 32] ++ lineT l := by simp [stepT]
    have hw : stepT (true, l) ++ r = [100] ++ 32 :: (lineT l ++ r) := by rw [hs]; simp
    obtain ⟨q, e1, hq⟩ := readT_line e l r (p + 2) false out (true, []) true hl
    refine ⟨q, ?_, by rw [hs, hq, List.length_append]; simp; omega⟩
    rw [hw, W_one (by simp) (by decide) (Stops.sp _) p (fun _ => by simp), W_sp]
    simp only [readT]
    rw [if_pos (by simp), show p + ([100] : List UInt8).length + 1 = p + 2 from rfl, e1]
    simp
theorem readT_steps (e : Nat) (r : List UInt8) : ∀ (L : List Stp) (p : Nat) (out : List Stp), (∀ s ∈ L, ∀ x ∈ s.2, LitOk 4000 x) → ∃ q, readT e (wordsOf (stepsT L ++ r) p true false) out (false, []) false = readT e (wordsOf r q true false) (out ++ L) (false, []) false ∧ q = p + (stepsT L).length
  | [], p, out, hl => ⟨p, by simp [stepsT], by simp [stepsT]⟩
  | s :: L, p, out, hl => by
    have hs : stepsT (s :: L) = stepT s ++ stepsT L := by simp [stepsT]
    obtain ⟨q, e1, hq⟩ := readT_step e s (stepsT L ++ r) p out (hl s (List.mem_cons_self ..))
    obtain ⟨q2, e2, hq2⟩ := readT_steps e r L q (out ++ [s]) fun t ht => hl t (List.mem_cons_of_mem _ ht)
    refine ⟨q2, ?_, by rw [hq2, hq, hs, List.length_append]; omega⟩
    rw [hs, List.append_assoc, e1, e2]
    simp
theorem stepsT_len : ∀ {L : List Stp}, (∀ s ∈ L, s.2.length ≤ 30 ∧ ∀ x ∈ s.2, Num64 x) → (stepsT L).length ≤ 700 * L.length
  | [], _ => by simp [stepsT]
  | s :: L, h => by
    have h1 := stepsT_len (L := L) fun t ht => h t (List.mem_cons_of_mem _ ht)
    obtain ⟨h2, h3⟩ := h s (List.mem_cons_self ..)
    have h4 := numsT_num h3
    have hs : stepsT (s :: L) = stepT s ++ stepsT L := by simp [stepsT]
    have h5 : (stepT s).length ≤ 2 + ((numsT s.2).length + 2) := by
      unfold stepT lineT
      cases s.1 <;> simp <;> omega
    rw [hs, List.length_append, List.length_cons]
    omega
end Go.Proofs.YtdkckkhghghhdaaDoor

namespace Go.Proofs.YtdkckkhghghhdaaDoor
open Go.RowKit

theorem sucS {m : Nat} (h : m < 9000000000000000000) : IntKind.wrap .i64 ((m : Int) + 1) = ((m + 1 : Nat) : Int) := by rw [wrap64 (by omega) (by omega)]; omega
theorem sameI_loop (fuel d : Nat) {a b : List Int} (hl : a.length = b.length) (hn : a.length < 1000000000) {h : AHeap} : ∀ (n k : Nat), a.length < n + k → k ≤ a.length → a.take k = b.take k →
    (l_skolemref_SameInts_0 fuel d n [(0, .slice (lstI a)), (1, .slice (lstI b)), (5, .int .i64 (k : Int))] h).bind (fun p => k_skolemref_SameInts_0 fuel d p.1 p.2.1 p.2.2) = some (.bool (decide (a = b)), h) := by
  intro n
  induction n with
  | zero => intro k h1 h2; omega
  | succ n ih =>
    intro k h1 h2 h3
    rw [l_skolemref_SameInts_0_eq, len_lst]
    by_cases hk : k < a.length
    · rw [bif_pos (by omega), addr_lstM _ (by omega) (by omega) 0, addr_lstM _ (by omega) (by omega) 0]
      simp only [Option.bind_some, cell_fp, int_int, Int.toNat_natCast]
      by_cases he : a.getD k 0 = b.getD k 0
      · rw [bif_npos he, sucS (by omega), ih (k + 1) (by omega) (by omega) (by rw [take_get hk 0, take_get (by omega) 0, h3, he])]
      · rw [bif_nneg he]
        simp only [Option.bind_some, k_skolemref_SameInts_0_r]
        rw [decide_eq_false (fun h => he (by rw [h]))]
    · have : k = a.length := by omega
      subst this
      rw [bif_neg (by omega)]
      have : a = b := by rw [List.take_length, hl, List.take_length] at h3; exact h3
      simp only [Option.bind_some, k_skolemref_SameInts_0_x0]
      rw [decide_eq_true this]
theorem sameI_run (fuel d : Nat) {a b : List Int} {s t : Sl} {h : AHeap} (hs : freezeV h 8 (.slice s) = some (.slice (lstI a))) (ht : freezeV h 8 (.slice t) = some (.slice (lstI b))) (hn : a.length < 1000000000) (hf : a.length < fuel) :
    run fuel (d + 1) F_skolemref_SameInts [.slice s, .slice t] h = some (.bool (decide (a = b)), h) := by
  refine run_val rfl rfl (mm2 hs ht) (r := .bool (decide (a = b))) (h' := AHeap.none) ?_ rfl rfl
  rw [e_skolemref_SameInts, len_lst, len_lst]
  by_cases hl : a.length = b.length
  · rw [bif_npos (by omega)]
    have := sameI_loop fuel d hl hn (h := AHeap.none) fuel 0 (by omega) (by omega) rfl
    exact this
  · rw [bif_nneg (by omega), decide_eq_false (fun h => hl (by rw [h]))]

end Go.Proofs.YtdkckkhghghhdaaDoor

namespace Go.Proofs.YtdkckkhghghhdaaDoor
open Go.RowKit

theorem sameStep_run (fuel d : Nat) {s : Stp} (hl : s.2.length < 1000000000) (hf : s.2.length < fuel) (h : AHeap) : run fuel (d + 2) F_skolemref_SameStep [.agg (stepC s), .agg (stepC s)] h = some (.bool true, h) := by
  have hc : canonV 8 (.agg (stepC s)) = some (.agg (stepC s)) := by
    unfold stepC
    rw [canon_agg, canonM_cons (u := .bool s.1) rfl (canonM_cons (u := .slice (lstI s.2)) (canon_lstI _ _) (canonM_nil _))]
    rfl
  refine pure_of rfl rfl (cc2 hc hc) (r := .bool true) ?_ rfl (h' := (AHeap.none.push 1 (stepC s)).push 1 (stepC s))
  rw [e_skolemref_SameStep, show List.all (stepC s) AVal.isCell = true from rfl, cond_true, cond_true, stepC_len]
  have s1 := ((Sep0.start AHeap.none).push 1 2 (cs := stepC s) rfl).push 1 2 (cs := stepC s) rfl
  have a0 : ((AHeap.none.push 1 (stepC s)).push 1 (stepC s)).cell (.mk ⟨AHeap.none.next, 0, 0 + 0⟩ 2) = some (.bool s.1) := s1.part (i := 0) rfl (by omega) rfl
  have a1 : ((AHeap.none.push 1 (stepC s)).push 1 (stepC s)).cell (.mk ⟨AHeap.none.next, 0, 0 + 1⟩ 2) = some (.slice (lstI s.2)) := s1.part (i := 0) rfl (by omega) rfl
  have b0 : ((AHeap.none.push 1 (stepC s)).push 1 (stepC s)).cell (.mk ⟨(AHeap.none.push 1 (stepC s)).next, 0, 0 + 0⟩ 2) = some (.bool s.1) := s1.part (i := 1) rfl (by omega) rfl
  have b1 : ((AHeap.none.push 1 (stepC s)).push 1 (stepC s)).cell (.mk ⟨(AHeap.none.push 1 (stepC s)).next, 0, 0 + 1⟩ 2) = some (.slice (lstI s.2)) := s1.part (i := 1) rfl (by omega) rfl
  simp only [field_mk, Option.bind_some, a0, a1, b0, b1, bool_bool, slice_slice]
  rw [show (s.1 == s.1) = true from by cases s.1 <;> rfl]
  simp only [beq_self_eq_true, cond_true]
  rw [sameI_run fuel d (freeze_lstI 7 _) (freeze_lstI 7 _) hl hf]
  simp only [Option.bind_some, bool_bool, decide_true]
theorem sameSteps_loop (fuel d : Nat) {l : List Stp} (hl : l.length < 1000000000) (hs : ∀ s ∈ l, s.2.length < 1000000000 ∧ s.2.length < fuel) (h : AHeap) : ∀ (n k : Nat), l.length < n + k → k ≤ l.length →
    l_skolemref_SameSteps_0 fuel (d + 2) n [(0, .slice (lstS l)), (1, .slice (lstS l)), (5, .int .i64 (k : Int))] h = some (.exit 0, [(4, .bot)], h) := by
  intro n
  induction n with
  | zero => intro k h1 h2; omega
  | succ n ih =>
    intro k h1 h2
    rw [l_skolemref_SameSteps_0_eq, len_lst]
    by_cases hk : k < l.length
    · obtain ⟨q1, q2⟩ := hs (l.getD k (false, [])) (by simp [List.getD, hk])
      rw [bif_pos (by omega), addr_lstN (sz := 2) (f := stepC) stepC_len (l := l) (j := (k : Int)) (by omega) (by omega) (false, []), Int.toNat_natCast]
      generalize l.getD k (false, []) = s at q1 q2
      simp only [Option.bind_some]
      rw [cellsAt_fp (stepC_len s)]
      simp only [Option.bind_some]
      rw [sameStep_run fuel d q1 q2]
      simp only [Option.bind_some, bool_bool, Bool.not_true, cond_false]
      rw [sucS (by omega)]
      exact ih (k + 1) (by omega) (by omega)
    · rw [bif_neg (by omega)]
end Go.Proofs.YtdkckkhghghhdaaDoor

namespace Go.Proofs.YtdkckkhghghhdaaDoor
open Go.RowKit

theorem same_true (fuel d : Nat) {u : AVal} {c x : Int} {q : Bool} (hu : IsFault u c q x) (hf : 10 < fuel) (h : AHeap) : run fuel (d + 4) F_skolemsee_Same [u, .agg (faultC c q x)] h = some (.bool true, h) := by
  rw [Same_run fuel d hu hf c q x, decide_eq_true (rfl : c = c), decide_eq_true (rfl : x = x)]
  cases q <;> rfl
end Go.Proofs.YtdkckkhghghhdaaDoor

namespace Go.Proofs.YtdkckkhghghhdaaDoor
open Go.RowKit

end Go.Proofs.YtdkckkhghghhdaaDoor

namespace Go.Proofs.YtdkckkhghghhdaaDoor
open Go.RowKit

theorem badS_lits : ∀ {L : List Stp} {k : Nat}, badS L k = none → ∀ s ∈ L, ∀ x ∈ s.2, isI x 4000 = true
  | [], _, _, s, hs => by cases hs
  | c :: L, k, h, s, hs => by
    unfold badS at h
    split at h
    · cases h
    · rename_i h1
      rcases List.mem_cons.1 hs with rfl | hs
      · intro x hx
        simp only [List.any_eq_true, Bool.not_eq_true', not_exists, not_and, Bool.not_eq_false] at h1
        exact h1 x hx
      · exact badS_lits h s hs
theorem isI_lit {x : Int} (h : isI x 4000 = true) : LitOk 4000 x := by
  have hI := h
  unfold isI at h
  rw [wrap64 (by omega) (by omega)] at h
  by_cases h0 : x = 0
  · rw [decide_eq_true h0] at h; cases h
  · rw [decide_eq_false h0] at h
    by_cases h1 : 0 - 4000 ≤ x
    · rw [decide_eq_true h1] at h
      simp only [Bool.not_false, cond_true, decide_eq_true_eq] at h
      exact ⟨h0, hI, by omega, by omega⟩
    · rw [decide_eq_false h1] at h; cases h
theorem litsN_le : ∀ {L : List Stp}, (∀ s ∈ L, s.2.length ≤ 30) → litsN L ≤ 30 * L.length
  | [], _ => by simp [litsN]
  | s :: L, h => by
    have h1 := litsN_le (L := L) fun t ht => h t (List.mem_cons_of_mem _ ht)
    have h2 := h s (List.mem_cons_self ..)
    simp only [litsN, List.map_cons, List.sum_cons, List.length_cons] at h1 ⊢
    omega
end Go.Proofs.YtdkckkhghghhdaaDoor

namespace Go.Proofs.YtdkckkhghghhdaaDoor
open Go.RowKit

structure Still (h h' : AHeap) : Prop where
  at_ : ∀ (n : Nat) (p : Pt) (cs : List AVal), h.cellsAt n p = some cs → h'.cellsAt n p = some cs
  cell : ∀ (p : Pt) (v : AVal), h.cell p = some v → h'.cell p = some v
  cells : ∀ (sz : Nat) (s : Sl) (cs : List AVal), h.sliceCells sz s = some cs → h'.sliceCells sz s = some cs
theorem Still.refl (h : AHeap) : Still h h := ⟨fun _ _ _ h => h, fun _ _ h => h, fun _ _ _ h => h⟩
theorem Still.trans {a b c : AHeap} (h : Still a b) (k : Still b c) : Still a c := ⟨fun n p cs q => k.1 n p cs (h.1 n p cs q), fun p v q => k.2 p v (h.2 p v q), fun sz s cs q => k.3 sz s cs (h.3 sz s cs q)⟩
theorem Still.ext {h h' : AHeap} (hk : Keeps h h' fun _ => False) : Still h h' :=
  ⟨fun n p cs q => by
    cases p with
    | nil => exact q
    | fp => exact q
    | mk r l => exact cellsAt_keep hk (fun h => h) q,
   fun p v q => by
    cases p with
    | nil => exact q
    | fp => exact q
    | mk r l => exact cell_keep hk (fun h => h) q,
   fun sz s cs q => sliceCells_ext hk q⟩
theorem Still.mark (h : AHeap) (ids : List Nat) : Still h (h.markRo ids) := ⟨fun n p cs q => by rw [cellsAt_mark]; exact q, fun p v q => by rw [cell_mark]; exact q, fun sz s cs q => by rw [sliceCells_mark]; exact q⟩
theorem Sep0.still {h0 h : AHeap} {L : List Chunk} (hs : Sep0 h0 h L) : Still h0 h := Still.ext hs.ext
/-- the front of a slice of bytes, as a value -/
theorem cutU {h : AHeap} {s : Sl} {b : List UInt8} (hs : h.sliceCells 1 s = some (bytesC b)) {hi : Nat} (h2 : hi ≤ b.length) : freezeV h 8 (.slice (s.cut 1 0 hi false)) = some (.slice (lstU (b.take hi))) := by
  have hl := sliceCells_len hs
  simp only [List.length_map, Nat.mul_one] at hl
  have hlen : (b.take hi).length = hi := by simp; omega
  cases s with
  | nil =>
    simp only [Sl.len] at hl
    have e0 : hi = 0 := by omega
    subst e0
    rfl
  | lst n c cs =>
    obtain ⟨rfl, hl2⟩ := lst_cells hs
    simp only [Sl.len] at hl
    have e : Sl.cut (.lst n c (bytesC b)) 1 0 hi false = .lst hi (false || (c && Nat.beq hi n)) (bytesC (b.take hi)) := by
      simp only [Sl.cut, Nat.sub_zero, Nat.mul_one, Nat.zero_mul, List.drop_zero]
      simp
    rw [e, freeze_lst 7 _ _ (closedL_map (fun _ => rfl) _)]
    show some (AVal.slice (.lst hi false _)) = some (AVal.slice (.lst (b.take hi).length false _))
    rw [hlen]
  | mk r n c =>
    simp only [Sl.len] at hl
    have e : Sl.cut (.mk r n c) 1 0 hi false = .mk ⟨r.id, r.gen, r.off + 0⟩ hi (false || (c && Nat.beq hi n)) := rfl
    rw [e]
    by_cases h0 : hi = 0
    · subst h0
      rw [freeze_cells (cs := []) (us := []) rfl rfl]
      rfl
    · obtain ⟨row, q1, q2, q3, q4, q5, q6⟩ := sliceCells_row hs (by omega)
      have hc : h.sliceCells 1 (.mk ⟨r.id, r.gen, r.off + 0⟩ hi (false || (c && Nat.beq hi n))) = some (bytesC (b.take hi)) := by
        have := sliceCells_of (r := ⟨r.id, r.gen, r.off + 0⟩) (n := hi) (c := (false || (c && Nat.beq hi n))) q1 q2 q3 q4 (by simp only; omega)
        rw [this]
        simp only [Nat.mul_one, Nat.add_zero]
        have h9 : (bytesC b).take hi = bytesC (b.take hi) := by simp
        rw [← h9, q6, List.take_take, Nat.mul_one, Nat.min_eq_left (by omega)]
      rw [freeze_cells hc (freeze_bytesC 6 _)]
      show some (AVal.slice (.lst hi false _)) = some (AVal.slice (.lst (b.take hi).length false _))
      rw [hlen]
theorem hasSzU {h : AHeap} {s : Sl} {sz : Nat} {cs : List AVal} (hs : h.sliceCells sz s = some cs) (hn : s.len ≠ 0) : h.hasSz sz s = true := by
  cases s with
  | nil => rfl
  | lst n c ds =>
    obtain ⟨rfl, hl2⟩ := lst_cells hs
    simp only [AHeap.hasSz]
    exact nbeq.2 hl2
  | mk r n c =>
    obtain ⟨row, q1, q2, _⟩ := sliceCells_row hs hn
    simp [AHeap.hasSz, q1, q2]
end Go.Proofs.YtdkckkhghghhdaaDoor

namespace Go.Proofs.YtdkckkhghghhdaaDoor
open Go.RowKit

theorem keep0S {h h' : AHeap} (hk : Keeps h h' fun _ => False) {s : Sl} {sz : Nat} {cs : List AVal} (hs : h.sliceCells sz s = some cs) : h'.sliceCells sz s = some cs := sliceCells_keep hk hs fun _ _ _ h => h
theorem takeU {b : List UInt8} {m : Nat} (h : m < b.length) : b.take (m + 1) = b.take m ++ [b.getD m 0] := by
  rw [List.take_succ_eq_append_getElem h, List.getD_eq_getElem?_getD, List.getElem?_eq_getElem h, Option.getD_some]
theorem readU8 {h : AHeap} {t : Sl} {a : List UInt8} (hs : h.sliceCells 1 t = some (bytesC a)) {k : Nat} (hk : k < a.length) : h.addr 1 t (k : Int) = some (t.at 1 (k : Int)) ∧ h.cell (t.at 1 (k : Int)) = some (.int .u8 ((a.getD k 0).toNat : Int)) := by
  have hl := sliceCells_len hs
  simp only [List.length_map, Nat.mul_one] at hl
  refine ⟨addr_at hs (by omega) (by omega), cell_at hs (by omega) ?_⟩
  rw [Int.toNat_natCast, List.getElem?_map, List.getElem?_eq_getElem hk, List.getD_eq_getElem?_getD, List.getElem?_eq_getElem hk]; rfl
theorem byr_loop (fuel d : Nat) {a : List UInt8} {t : Sl} (hn : a.length < 1000000000) (ht : t.len = a.length) {h0 : AHeap} (hs0 : h0.sliceCells 1 t = some (bytesC a)) : ∀ (n k : Nat) (s : Sl) (h : AHeap), a.length < n + k → k ≤ a.length → Sep0 h0 h [.grown 1 s (bytesC (a.take k))] →
    ∃ s' h', l_skolemref_Bytes_0 fuel d n [(0, .slice t), (3, .slice s), (4, .int .i64 (k : Int))] h = some (.exit 0, [(3, .slice s')], h') ∧ Sep0 h0 h' [.grown 1 s' (bytesC a)] := by
  intro n
  induction n with
  | zero => intro k s h h1 h2; omega
  | succ n ih =>
    intro k s h h1 h2 hg
    have hl := hg.len (i := 0) rfl
    simp only [List.length_map, List.length_take, Nat.mul_one] at hl
    rw [l_skolemref_Bytes_0_eq, ht]
    by_cases hk : k < a.length
    · have hr := readU8 (keep0S hg.ext hs0) hk
      rw [bif_pos (by omega), hr.1, Option.bind_some, hr.2]
      simp only [Option.bind_some, int_int]
      obtain ⟨s', h', e1, e2, e3⟩ := hg.grow (i := 0) (bytes := 1) (m := 1) (vs := [.int .u8 ((a.getD k 0).toNat : Int)]) rfl rfl (by omega) (by omega)
      rw [e1]
      simp only [Option.bind_some]
      rw [sucU (by omega)]
      refine ih (k + 1) s' h' (by omega) (by omega) ?_
      rw [takeU hk]
      simpa using e2
    · have : k = a.length := by omega
      subst this
      rw [bif_neg (by omega)]
      rw [List.take_length] at hg
      exact ⟨s, h, rfl, hg⟩
theorem byr_run (fuel d : Nat) {a : List UInt8} {t : Sl} {h : AHeap} (hs : h.sliceCells 1 t = some (bytesC a)) (hn : a.length < 1000000000) (hf : a.length < fuel) :
    ∃ s' h', run fuel (d + 1) F_skolemref_Bytes [.slice t] h = some (.slice s', h') ∧ New h h' (.grown 1 s' (bytesC a)) := by
  have ht : t.len = a.length := by have := sliceCells_len hs; simp at this; omega
  have s0 := (Sep0.start h).addMake 1 (eqI (0 : Int) ((a.length : Nat) : Int))
  obtain ⟨s', h', e1, e2⟩ := byr_loop fuel d hn ht hs fuel 0 _ _ (by omega) (by omega) s0
  refine ⟨s', h', ?_, e2.get (i := 0) rfl⟩
  rw [e_skolemref_Bytes, ht, cond_pos _ _ (by simp; omega)]
  rw [show ((0 : Nat) : Int) = 0 from rfl] at e1
  rw [e1]
  simp only [Option.bind_some, k_skolemref_Bytes_0_x0]
end Go.Proofs.YtdkckkhghghhdaaDoor

namespace Go.Proofs.YtdkckkhghghhdaaDoor
open Go.RowKit

/-! a copy of steps -/
theorem stp_loop (fuel d : Nat) {L : List Stp} (hL : L.length < 1000000) {h0 : AHeap} : ∀ (n k : Nat) (s : Sl) (h : AHeap), L.length < n + k → k ≤ L.length → Sep0 h0 h [.grown 2 s (stepsC (L.take k))] →
    ∃ s' h', l_skolemref_Steps_0 fuel d n [(0, .slice (lstS L)), (3, .slice s), (4, .int .i64 (k : Int))] h = some (.exit 0, [(3, .slice s')], h') ∧ Sep0 h0 h' [.grown 2 s' (stepsC L)] := by
  intro n
  induction n with
  | zero => intro k s h h1 h2; omega
  | succ n ih =>
    intro k s h h1 h2 hs
    have hl := hs.len (i := 0) rfl
    rw [stepsC_len, List.length_take] at hl
    rw [l_skolemref_Steps_0_eq, len_lst]
    by_cases hk : k < L.length
    · have hT : L.take (k + 1) = L.take k ++ [L.getD k (false, [])] := by rw [List.take_add_one]; simp [List.getD, hk]
      rw [bif_pos (by omega), addr_stp _ hk]
      generalize L.getD k (false, []) = x at hT
      rw [Option.bind_some, cellsAt_fp (stepC_len x), Option.bind_some, cond_pos _ _ (show (Nat.beq (List.length (stepC x)) 2 && Nat.ble (0 + 2) (List.length [(AVal.bool false), (AVal.slice Sl.nil)]) && List.all (stepC x) AVal.isCell) = true from rfl), show AHeap.overlay [AVal.bool false, AVal.slice Sl.nil] 0 (stepC x) = stepC x from rfl, Option.bind_some, show AHeap.sliceCells h 2 (Sl.lst 1 true (stepC x)) = some (stepC x) from rfl, Option.bind_some, show AHeap.fixL h (stepC x) = (stepC x, h) from rfl]
      obtain ⟨s', h', e1, s1, _⟩ := hs.grow (i := 0) (bytes := 32) (m := 1) (vs := stepC x) rfl rfl (by omega) (by omega)
      rw [len_lst, e1, Option.bind_some, sucU (by omega)]
      refine ih (k + 1) s' h' (by omega) (by omega) ?_
      rw [hT, stepsC_append, show stepsC [x] = stepC x from by simp]
      exact s1
    · have : k = L.length := by omega
      subst this
      rw [bif_neg (by omega)]
      rw [List.take_length] at hs
      exact ⟨s, h, rfl, hs⟩
theorem stp_run (fuel d : Nat) {L : List Stp} (hL : L.length < 1000000) (hf : L.length < fuel) (h : AHeap) :
    ∃ s' h', run fuel (d + 1) F_skolemref_Steps [.slice (lstS L)] h = some (.slice s', h') ∧ Sep0 h h' [.grown 2 s' (stepsC L)] := by
  have s0 := (Sep0.start h).addMake 2 (eqI (0 : Int) ((L.length : Nat) : Int))
  obtain ⟨s', h', e1, e2⟩ := stp_loop fuel d hL fuel 0 _ _ (by omega) (by omega) s0
  refine ⟨s', h', ?_, e2⟩
  rw [e_skolemref_Steps, len_lst, cond_pos _ _ (by simp; omega)]
  rw [show ((0 : Nat) : Int) = 0 from rfl] at e1
  rw [e1]
  simp only [Option.bind_some, k_skolemref_Steps_0_x0]
theorem sameSteps_any (fuel d : Nat) {l : List Stp} (hl : l.length < 1000000000) (hlf : l.length < fuel) (hs : ∀ s ∈ l, s.2.length < 1000000000 ∧ s.2.length < fuel) {h : AHeap} {s : Sl} (hf : freezeV h 8 (.slice s) = some (.slice (lstS l))) : ∃ ids, run fuel (d + 3) F_skolemref_SameSteps [.slice (lstS l), .slice s] h = some (.bool true, h.markRo ids) := by
  have e : brun fuel (d + 3) F_skolemref_SameSteps [.slice (lstS l), .slice (lstS l)] AHeap.none = some (.bool true, AHeap.none) := by
    rw [e_skolemref_SameSteps, len_lst, bif_npos rfl]
    have := sameSteps_loop fuel d hl hs AHeap.none fuel 0 (by omega) (by omega)
    rw [show ((0 : Nat) : Int) = 0 from rfl] at this
    rw [this]
    simp only [Option.bind_some, k_skolemref_SameSteps_0_x0]
  exact run_any rfl rfl (mm2 (freeze_lstS 7 l) hf) e rfl
theorem cells_stp (h : AHeap) (L : List Stp) : h.sliceCells 2 (lstS L) = some (stepsC L) := cells_lstN stepC_len L false
theorem steps_fr {h0 h : AHeap} {s : Sl} {L : List Stp} (hs : Sep0 h0 h [.grown 2 s (stepsC L)]) : freezeV h 8 (.slice s) = some (.slice (lstS L)) := by
  have hl := hs.len (i := 0) rfl
  rw [stepsC_len] at hl
  have hl' : s.len = L.length := by omega
  rw [(hs.sep.grown (i := 0) rfl).freeze (n := 7) (by omega) (freeze_stepsC 5 L), hl']

/-! the texts -/
theorem W_gapc (r : List UInt8) (p : Nat) : wordsOf ([10, 32, 99, 32, 49, 32, 48, 10, 9] ++ r) p true false = wordsOf r (p + 9) true false := by
  have e1 : ([10, 32, 99, 32, 49, 32, 48, 10, 9] : List UInt8) ++ r = 10 :: 32 :: (([99] : List UInt8) ++ 32 :: (([49] : List UInt8) ++ 32 :: (([48] : List UInt8) ++ 10 :: 9 :: r))) := rfl
  rw [e1, W_nl, W_sp, W_word (by simp) (by decide) (Stops.sp _), W_sp, W_word (by simp) (by decide) (Stops.sp _), W_sp, W_word (by simp) (by decide) (Stops.nl _), W_nl, W_blank (by decide) (by decide)]
  rfl
theorem readA_two {A B : List Stp} (hA : ∀ s ∈ A, ∀ x ∈ s.2, LitOk 4000 x) (hB : ∀ s ∈ B, ∀ x ∈ s.2, LitOk 4000 x) : readA (stepsT A ++ [10, 32, 99, 32, 49, 32, 48, 10, 9] ++ stepsT B) = .ok (A ++ B) := by
  unfold readA
  rw [splitOf_words, List.append_assoc]
  generalize (stepsT A ++ ([10, 32, 99, 32, 49, 32, 48, 10, 9] ++ stepsT B)).length = e
  obtain ⟨q, e1, _⟩ := readT_steps e ([10, 32, 99, 32, 49, 32, 48, 10, 9] ++ stepsT B) A 0 [] hA
  obtain ⟨q2, e2, _⟩ := readT_steps e [] B (q + 9) ([] ++ A) hB
  rw [List.append_nil] at e2
  rw [e1, W_gapc, e2, W_nil]
  simp [readT]
def cutT (s : Stp) : List UInt8 := (if s.1 = true then [100, 32] else []) ++ numsT s.2
theorem cutT_step (s : Stp) : stepT s = cutT s ++ [48, 10] := by unfold stepT cutT lineT; rw [List.append_assoc]
theorem readT_cut (e : Nat) (s : Stp) (p : Nat) (out : List Stp) (hl : ∀ x ∈ s.2, LitOk 4000 x) (hn : s.1 = true ∨ s.2 ≠ []) : readT e (wordsOf (cutT s) p true false) out (false, []) false = .bad e := by
  obtain ⟨b, l⟩ := s
  cases b with
  | false =>
    have hs : cutT (false, l) = numsT l := by simp [cutT]
    have h1 := W_nums l [] p true
    rw [List.append_nil, W_nil] at h1
    have hne : l ≠ [] := by
      rcases hn with h | h
      · cases h
      · exact h
    have he : l.isEmpty = false := by cases l with
      | nil => exact absurd rfl hne
      | cons => rfl
    rw [hs, h1, readT_nums e l _ _ _ _ _ _ hl, he]
    simp [readT]
  | true =>
    have hs : cutT (true, l) = [100] ++ 32 :: numsT l := by simp [cutT]
    have h1 := W_nums l [] (p + 2) false
    rw [List.append_nil, W_nil] at h1
    rw [hs, W_one (by simp) (by decide) (Stops.sp _) p (fun _ => by simp), W_sp]
    simp only [readT]
    rw [if_pos (by simp), show p + ([100] : List UInt8).length + 1 = p + 2 from rfl, h1, readT_nums e l _ _ _ _ _ _ hl]
    simp [readT]
theorem readA_cut {A : List Stp} (hA : ∀ s ∈ A, ∀ x ∈ s.2, LitOk 4000 x) {k : Nat} (hk : A.length = k + 1) (hn : (A.getD k (false, [])).1 = true ∨ (A.getD k (false, [])).2 ≠ []) : 2 ≤ (stepsT A).length ∧ readA ((stepsT A).take ((stepsT A).length - 2)) = .bad ((stepsT A).length - 2) := by
  have hd : A = A.take k ++ [A.getD k (false, [])] := by
    have := List.take_append_drop k A
    rw [drop_stp (by omega), List.drop_eq_nil_of_le (by omega)] at this
    exact this.symm
  have hm : A.getD k (false, []) ∈ A := by simp [List.getD, show k < A.length by omega]
  have hlit := hA _ hm
  have hAk : ∀ s ∈ A.take k, ∀ x ∈ s.2, LitOk 4000 x := fun s hs => hA s (List.mem_of_mem_take hs)
  generalize A.getD k (false, []) = s at hd hn hlit
  generalize A.take k = A' at hd hAk
  have ht : stepsT A = (stepsT A' ++ cutT s) ++ [48, 10] := by rw [hd]; simp [stepsT, cutT_step]
  have hl : (stepsT A).length = (stepsT A' ++ cutT s).length + 2 := by rw [ht, List.length_append]; rfl
  have htk : (stepsT A).take ((stepsT A).length - 2) = stepsT A' ++ cutT s := by
    rw [hl, Nat.add_sub_cancel, ht]
    exact List.take_left' rfl
  refine ⟨by omega, ?_⟩
  rw [htk]
  unfold readA
  rw [splitOf_words, show (stepsT A' ++ cutT s).length = (stepsT A).length - 2 by omega]
  generalize (stepsT A).length - 2 = e
  obtain ⟨q, e1, _⟩ := readT_steps e (cutT s) A' 0 [] hAk
  rw [e1, readT_cut e s q _ hlit hn]
theorem pchk_nil {L : List Stp} (h1 : litsN L ≤ 320000) : ∃ z, nilTest .iface (pchk L) = some z ∧ (z = true → badS L 0 = none) := by
  unfold pchk
  rw [if_neg (by omega)]
  cases badS L 0 with
  | none => exact ⟨true, rfl, fun _ => rfl⟩
  | some k => exact ⟨false, rfl, fun h => by cases h⟩

theorem proofRows_run (F d : Nat) (hF : 2 ^ 50 ≤ F) (A B : List Stp) (hA : ∀ s ∈ A, s.2.length ≤ 1000000000000000) (hB : ∀ s ∈ B, s.2.length ≤ 1000000000000000) (h : AHeap) : ∃ h', run F (d + 60) F_skolemlaw20_ProofRows [.slice (lstS A), .slice (lstS B)] h = some (.bool true, h') := by
  obtain ⟨z1, e1, e2⟩ := plight_run F (d + 57) (L := A) (by omega) (fun s hs => by have := hA s hs; omega) h
  obtain ⟨z2, e3, e4⟩ := plight_run F (d + 57) (L := B) (by omega) (fun s hs => by have := hB s hs; omega) h
  rw [e_skolemlaw20_ProofRows, first20_run F (by omega) (by omega), len_lst, len_lst]
  simp only [Option.bind_some, bool_bool, Bool.not_true, cond_false]
  rw [e1]
  simp only [Option.bind_some, bool_bool]
  cases z1 with
  | false => exact ⟨_, rfl⟩
  | true =>
  obtain ⟨g1, g2⟩ := e2 rfl
  simp only [Bool.not_true, beq_self_eq_true, cond_true]
  rw [e3]
  simp only [Option.bind_some, bool_bool]
  cases z2 with
  | false => exact ⟨_, rfl⟩
  | true =>
  obtain ⟨g3, g4⟩ := e4 rfl
  simp only [Bool.not_true, cond_false]
  by_cases hn : 30 < A.length ∨ 30 < B.length
  · have hc : (bif (decide ((30 : Int) < (A.length : Int))) then true else (decide ((30 : Int) < (B.length : Int)))) = true := by
      rcases hn with hn | hn
      · rw [decide_eq_true (show (30 : Int) < (A.length : Int) by omega)]; rfl
      · rw [decide_eq_true (show (30 : Int) < (B.length : Int) by omega)]; cases decide ((30 : Int) < (A.length : Int)) <;> rfl
    rw [hc]
    exact ⟨h, rfl⟩
  have hc : (bif (decide ((30 : Int) < (A.length : Int))) then true else (decide ((30 : Int) < (B.length : Int)))) = false := by
    rw [decide_eq_false (show ¬ (30 : Int) < (A.length : Int) by omega), decide_eq_false (show ¬ (30 : Int) < (B.length : Int) by omega)]; rfl
  have l1 := litsN_le g2
  have l2 := litsN_le g4
  obtain ⟨y1, n1, m1⟩ := pchk_nil (L := A) (by omega)
  obtain ⟨y2, n2, m2⟩ := pchk_nil (L := B) (by omega)
  rw [hc, pchk_val F (d + 57) (by omega) (by omega) (by omega) (fun s hs => by have := g2 s hs; omega)]
  simp only [beq_self_eq_true, cond_true, Option.bind_some, n1, bool_bool]
  cases y1 with
  | false => exact ⟨_, rfl⟩
  | true =>
  simp only [Bool.not_true, beq_self_eq_true, cond_true]
  rw [pchk_val F (d + 57) (by omega) (by omega) (by omega) (fun s hs => by have := g4 s hs; omega)]
  simp only [Option.bind_some, n2, bool_bool]
  cases y2 with
  | false => exact ⟨_, rfl⟩
  | true =>
  simp only [Bool.not_true, cond_false]
  have hlA : ∀ s ∈ A, ∀ x ∈ s.2, LitOk 4000 x := fun s hs x hx => isI_lit (badS_lits (m1 rfl) s hs x hx)
  have hlB : ∀ s ∈ B, ∀ x ∈ s.2, LitOk 4000 x := fun s hs x hx => isI_lit (badS_lits (m2 rfl) s hs x hx)
  have hnA : ∀ s ∈ A, ∀ x ∈ s.2, Num64 x := fun s hs x hx => by
    have := hlA s hs x hx
    exact ⟨by have := this.2.2.1; omega, by have := this.2.2.2; omega⟩
  have hnB : ∀ s ∈ B, ∀ x ∈ s.2, Num64 x := fun s hs x hx => by
    have := hlB s hs x hx
    exact ⟨by have := this.2.2.1; omega, by have := this.2.2.2; omega⟩
  have hxA := stepsT_len (L := A) fun s hs => ⟨g2 s hs, hnA s hs⟩
  have hxB := stepsT_len (L := B) fun s hs => ⟨g4 s hs, hnB s hs⟩
  have r1 := readA_two hlA hlB
  rw [bytes_run F (d + 57) (by omega) (by omega) (fun s hs => ⟨by have := g2 s hs; omega, by have := g2 s hs; omega, fun x hx => (hnA s hs x hx).app F (d + 52) (by omega)⟩)]
  simp only [Option.bind_some, slice_slice]
  rw [bytes_run F (d + 57) (by omega) (by omega) (fun s hs => ⟨by have := g4 s hs; omega, by have := g4 s hs; omega, fun x hx => (hnB s hs x hx).app F (d + 52) (by omega)⟩)]
  simp only [Option.bind_some, slice_slice]
  have r2 := fun k (hk : A.length = k + 1) hn => readA_cut hlA (k := k) hk hn
  have r3 : A = [] → (stepsT A).length = 0 := fun h => by rw [h]; rfl
  generalize stepsT A = x at hxA r1 r2 r3
  generalize stepsT B = y at hxB r1
  have cells : ∀ (h : AHeap) (b : List UInt8), h.sliceCells 1 (lstU b) = some (bytesC b) := fun h b => cells_lstM _ _ false
  obtain ⟨t2, h2, f4, n4⟩ := byr_run F (d + 58) (cells h x) (by omega) (by omega)
  rw [f4]
  simp only [Option.bind_some, slice_slice]
  have sC := (Sep0.start h).add n4
  obtain ⟨t3, h3, f5, sD⟩ := lit_append sC [10, 32, 99, 32, 49, 32, 48, 10, 9] (m := 9) rfl (by simp; omega)
  have f5' : AHeap.append h2 false 1 1 t2 (ByteArray.size (⟨#[10, 32, 99, 32, 49, 32, 48, 10, 9]⟩ : ByteArray)) (bytesOf (⟨#[10, 32, 99, 32, 49, 32, 48, 10, 9]⟩ : ByteArray)) = some (t3, h3) := f5
  rw [f5', Option.bind_some, cells, Option.bind_some, len_lst]
  obtain ⟨t4, h4, f6, sE⟩ := lit_append sD y (m := y.length) rfl (by simp; omega)
  rw [f6, Option.bind_some]
  obtain ⟨ids, f7⟩ := read_any F (d + 55) (b := x ++ [10, 32, 99, 32, 49, 32, 48, 10, 9] ++ y) (by simp; omega) (by simp; omega) (bytes_fr sE)
  rw [f7, r1]
  simp only [rdA, Option.bind_some, tup2, comp0, comp1, cond_true, slice_slice]
  obtain ⟨t5, h5, f8, sF⟩ := stp_run F (d + 58) (L := A) (by omega) (by omega) (h4.markRo ids)
  rw [f8]
  simp only [Option.bind_some, slice_slice]
  rw [show AHeap.sliceCells h5 2 (lstS B) = some (stepsC B) from cells_stp h5 B, Option.bind_some, show AHeap.fixL h5 (stepsC B) = (stepsC B, h5) from fixL_flatMap (fun a h => rfl) B]
  have hl5 := sF.len (i := 0) rfl
  rw [stepsC_len] at hl5
  obtain ⟨t6, h6, f9, sG, _⟩ := sF.grow (i := 0) (bytes := 32) (m := B.length) (vs := stepsC B) rfl (by rw [stepsC_len]) (by omega) (by omega)
  rw [f9, Option.bind_some, nilTest_nilif]
  have sH : Sep0 (h4.markRo ids) h6 [.grown 2 t6 (stepsC (A ++ B))] := by rw [stepsC_append]; exact sG
  obtain ⟨ids2, f10⟩ := sameSteps_any F (d + 56) (l := A ++ B) (by simp; omega) (by simp; omega) (fun s hs => by
    rcases List.mem_append.1 hs with hs | hs
    · have := g2 s hs; omega
    · have := g4 s hs; omega) (steps_fr sH)
  simp only [Option.bind_some, Bool.not_true, beq_self_eq_true, cond_true]
  rw [f10]
  simp only [Option.bind_some, bool_bool, Bool.not_true, cond_false]
  rw [len_lst]
  by_cases h0 : A.length = 0
  · have := r3 (List.eq_nil_of_length_eq_zero h0)
    rw [decide_eq_true (show (x.length : Int) < 2 by omega)]
    exact ⟨_, rfl⟩
  obtain ⟨k, hk⟩ : ∃ k, A.length = k + 1 := ⟨A.length - 1, by omega⟩
  by_cases hx2 : x.length < 2
  · rw [decide_eq_true (show (x.length : Int) < 2 by omega)]
    exact ⟨_, rfl⟩
  have r2 := r2 k hk
  rw [decide_eq_false (show ¬ (x.length : Int) < 2 by omega)]
  have hw : IntKind.wrap .i64 ((A.length : Int) - 1) = (k : Int) := by rw [wrap64 (by omega) (by omega)]; omega
  rw [hw, addr_stp _ (show k < A.length by omega)]
  have hkl : (A.getD k (false, [])).2.length ≤ 30 := g2 _ (by simp [List.getD, show k < A.length by omega])
  generalize A.getD k (false, []) = s at r2 hkl
  simp only [Option.bind_some, beq_self_eq_true, cond_true, stepC, field_fp, List.drop_zero, List.drop_succ_cons, cell_fp, slice_slice, bool_bool]
  rw [len_lst]
  have fin : (s.1 = true ∨ s.2 ≠ []) → ∀ g : AHeap, ∃ h', ((aHi (some (.int .i64 (IntKind.wrap .i64 ((x.length : Int) - 2)))) x.length).bind fun hi51 =>
      (aLo (none : Option AVal) hi51).bind fun lo52 => (aMx (none : Option AVal) hi51).bind fun cl53 =>
      bif (AHeap.hasSz g 1 (lstU x)) then ((run F (d + 59) F_proof_Read [(.slice (Sl.cut (lstU x) 1 lo52 hi51 cl53))] g).bind fun r54 =>
    (bif AVal.isTup 2 r54.1 then ((AVal.comp 0 r54.1).bind fun u55 =>
    (AVal.slice? u55).bind fun s56 =>
    (AVal.comp 1 r54.1).bind fun u57 =>
    ((bif (true == true) then ((run F (d + 59) F_skolemref_Placed [(.int .i64 (101 : Int)), (.int .i64 (IntKind.wrap .i64 ((x.length : Int) - (2 : Int))))] r54.2).bind fun r58 =>
    (AVal.agg? r58.1).bind fun c59 =>
    (run F (d + 59) F_skolemsee_Same [u57, (.agg c59)] r58.2).bind fun r60 =>
    (AVal.bool? r60.1).bind fun b61 =>
    some ((AVal.bool b61), r60.2)) else (some ((.bool false), r54.2)) : Option (AVal × AHeap))).bind fun r62 =>
    (AVal.bool? r62.1).bind fun b63 =>
    some ((AVal.bool b63), r62.2)) else none)) else none) = some (.bool true, h') := by
    intro hs g
    obtain ⟨q1, q2⟩ := r2 hs
    have hsub : IntKind.wrap .i64 ((x.length : Int) - 2) = ((x.length - 2 : Nat) : Int) := by rw [wrap64 (by omega) (by omega)]; omega
    rw [hsub, aHi_some (by omega) (by omega), Option.bind_some, aLo_none, Option.bind_some, aMx_none, Option.bind_some, hasSzU (cells g x) (by rw [len_lst]; omega), cond_true, Int.toNat_natCast]
    obtain ⟨ids3, f11⟩ := read_any F (d + 55) (b := x.take (x.length - 2)) (by simp; omega) (by simp; omega) (cutU (cells g x) (Nat.sub_le _ _))
    rw [f11, q2]
    simp only [rdA, Option.bind_some, tup2, comp0, comp1, cond_true, slice_slice, beq_self_eq_true]
    rw [Placed_run F (d + 58) (show (101 : Int) ≠ 0 by omega)]
    simp only [Option.bind_some, agg_agg]
    have hft : IsFault (atV ((x.length - 2 : Nat) : Int) err_api_ErrText) 101 true ((x.length - 2 : Nat) : Int) := IsFault.at (show 0 < 7 by omega) _
    rw [same_true F (d + 55) hft (by omega)]
    exact ⟨_, rfl⟩
  by_cases hs2 : s.2.length = 0
  · rw [decide_eq_true (show (s.2.length : Int) = 0 by omega)]
    cases hs1 : s.1 with
    | false => exact ⟨_, rfl⟩
    | true => exact fin (.inl hs1) _
  · rw [decide_eq_false (show ¬ (s.2.length : Int) = 0 by omega)]
    exact fin (.inr fun e => hs2 (by rw [e]; rfl)) _
theorem proofRows_x (F d : Nat) (hF : 2 ^ 50 ≤ F) (A B : List (Bool × List Int)) (g : (∀ a ∈ A, True ∧ ((∀ n ∈ a.2, (Lit.int .i64 n).wf = true) ∧ List.length a.2 * 8 ≤ reachBytes)) ∧ List.length A * 32 ≤ reachBytes) (g' : (∀ a ∈ B, True ∧ ((∀ n ∈ a.2, (Lit.int .i64 n).wf = true) ∧ List.length a.2 * 8 ≤ reachBytes)) ∧ List.length B * 32 ≤ reachBytes) (h : AHeap) :
    ∃ h', run F (d + 60) F_skolemlaw20_ProofRows [.slice (lstS A), .slice (lstS B)] h = some (.bool true, h') := by
  have hr : reachBytes ≤ 140737488355328 := by decide
  exact proofRows_run F d hF A B (fun s hs => by have := (g.1 s hs).2.2; omega) (fun s hs => by have := (g'.1 s hs).2.2; omega) h
end Go.Proofs.YtdkckkhghghhdaaDoor
