/-
  Numbers and steps as text: dimacs.Line, proof.Bytes, given that single numbers are printed right.
-/
import Derived.Test.YtdkckkhghghhdaaDoorRd1
import Derived.Test.YtdkckkhghghhdaaDoorDec0
namespace Go.Proofs.YtdkckkhghghhdaaDoor
open Go.RowKit

/-- a literal of bytes is pushed and put behind -/
theorem lit_cells (h : AHeap) (u : List UInt8) {n : Nat} (hn : n = u.length) : AHeap.sliceCells (AHeap.push h 1 (bytesC u)) 1 (Sl.mk ⟨AHeap.next h, 0, 0⟩ n true) = some (bytesC u) := by
  subst hn
  have ho : Own (h.push 1 (bytesC u)) 1 h.rows.length 0 u.length (bytesC u) := Own.push h 1 _ _ (by simp)
  exact ho.cells true
theorem Sep0.junk {h0 h : AHeap} {L : List Chunk} (hs : Sep0 h0 h L) {cs : List AVal} : Sep0 h0 (h.push 1 cs) L := (hs.push 1 cs.length (cs := cs) (by simp)).init
theorem bytesC_app (a b : List UInt8) : bytesC (a ++ b) = bytesC a ++ bytesC b := List.map_append
theorem lit_append {h0 h : AHeap} {s : Sl} {t : List UInt8} (hs : Sep0 h0 h [.grown 1 s (bytesC t)]) (u : List UInt8) {m : Nat} (hm : m = u.length) (ht : t.length + u.length < 1000000000) :
    ∃ s' h', AHeap.append h false 1 1 s m (bytesC u) = some (s', h') ∧ Sep0 h0 h' [.grown 1 s' (bytesC (t ++ u))] := by
  subst hm
  have hl := hs.len (i := 0) rfl
  simp only [List.length_map, Nat.mul_one] at hl
  obtain ⟨s', h', e1, s1, _⟩ := hs.grow (i := 0) (bytes := 1) (m := u.length) (vs := bytesC u) rfl (by simp) (by omega) (by omega)
  rw [← bytesC_app] at s1
  exact ⟨s', h', e1, s1⟩

/-- a number is put behind as its text -/
def AppOk (fuel d : Nat) (x : Int) : Prop := ∀ (h0 h : AHeap) (s : Sl) (t : List UInt8), t.length < 900000000 → Sep0 h0 h [.grown 1 s (bytesC t)] →
  ∃ s' h', run fuel d F_strconv_AppendInt [.slice s, .int .i64 x, .int .i64 10] h = some (.slice s', h') ∧ Sep0 h0 h' [.grown 1 s' (bytesC (t ++ decT x))] ∧ (decT x).length ≤ 20
def numsT (l : List Int) : List UInt8 := l.flatMap fun x => decT x ++ [32]
def lineT (l : List Int) : List UInt8 := numsT l ++ [48, 10]
theorem line_loopP (fuel d : Nat) {l : List Int} (hl : l.length < 1000000) (hok : ∀ x ∈ l, AppOk fuel d x) {h0 : AHeap} : ∀ (n k : Nat) (s : Sl) (t : List UInt8) (h : AHeap), l.length < n + k → k ≤ l.length → t.length + 30 * (l.length - k) < 800000000 → Sep0 h0 h [.grown 1 s (bytesC t)] →
    ∃ s' h', (l_dimacs_Line_0 fuel d n [(0, .slice s), (7, .slice (lstI l)), (8, .int .i64 (l.length : Int)), (9, .int .i64 (k : Int))] h).bind (fun p => k_dimacs_Line_0 fuel d p.1 p.2.1 p.2.2) = some (.slice s', h') ∧ Sep0 h0 h' [.grown 1 s' (bytesC (t ++ lineT (l.drop k)))] := by
  intro n
  induction n with
  | zero => intro k s t h h1 h2; omega
  | succ n ih =>
    intro k s t h h1 h2 ht hs
    rw [l_dimacs_Line_0_eq]
    by_cases hk : k < l.length
    · have hd : l.drop k = l.getD k 0 :: l.drop (k + 1) := by rw [List.drop_eq_getElem_cons hk]; simp [List.getD, hk]
      have hx := hok (l.getD k 0) (by simp [List.getD, hk])
      rw [bif_pos (by omega), addr_lstM _ (by omega) (by omega) 0, hd, Int.toNat_natCast]
      generalize l.getD k 0 = x at hx
      simp only [Option.bind_some, cell_fp, int_int]
      obtain ⟨s1, h1', e1, q1, q2⟩ := hx h0 h s t (by omega) hs
      rw [e1]
      simp only [Option.bind_some, slice_slice]
      rw [show [(AVal.int .u8 (32 : Int))] = bytesC [32] from rfl, lit_cells h1' [32] (n := 1) rfl, Option.bind_some, Sl.len]
      obtain ⟨s2, h2', e2, q3⟩ := lit_append (q1.junk (cs := bytesC [32])) [32] (m := 1) rfl (by simp; omega)
      rw [e2, Option.bind_some, sucU (by omega)]
      obtain ⟨s3, h3', e3, q4⟩ := ih (k + 1) s2 (t ++ decT x ++ [32]) h2' (by omega) (by omega) (by simp; omega) q3
      refine ⟨s3, h3', e3, ?_⟩
      have : t ++ decT x ++ [32] ++ lineT (l.drop (k + 1)) = t ++ lineT (x :: l.drop (k + 1)) := by simp [lineT, numsT]
      rw [← this]
      exact q4
    · have : k = l.length := by omega
      subst this
      rw [bif_neg (by omega), List.drop_length]
      simp only [Option.bind_some, k_dimacs_Line_0_x0]
      rw [show [(AVal.int .u8 (48 : Int)), (AVal.int .u8 (10 : Int))] = bytesC [48, 10] from rfl, lit_cells h [48, 10] (n := 2) rfl, Option.bind_some, Sl.len]
      obtain ⟨s2, h2', e2, q3⟩ := lit_append (hs.junk (cs := bytesC [48, 10])) [48, 10] (m := 2) rfl (by simp; omega)
      rw [e2, Option.bind_some]
      exact ⟨s2, h2', rfl, q3⟩
theorem lineP_run (fuel d : Nat) {l : List Int} (hl : l.length < 1000000) (hf : l.length < fuel) (hok : ∀ x ∈ l, AppOk fuel d x) {h0 h : AHeap} {s : Sl} {t : List UInt8} (ht : t.length + 30 * l.length < 800000000) (hs : Sep0 h0 h [.grown 1 s (bytesC t)]) :
    ∃ s' h', run fuel (d + 1) F_dimacs_Line [.slice s, .slice (lstI l)] h = some (.slice s', h') ∧ Sep0 h0 h' [.grown 1 s' (bytesC (t ++ lineT l))] := by
  obtain ⟨s', h', e1, q1⟩ := line_loopP fuel d hl hok fuel 0 s t h (by omega) (by omega) (by omega) hs
  rw [List.drop_zero] at q1
  refine ⟨s', h', ?_, q1⟩
  rw [e_dimacs_Line, len_lst]
  exact e1

/-! steps -/
def stepT (s : Stp) : List UInt8 := (if s.1 = true then [100, 32] else []) ++ lineT s.2
def stepsT (l : List Stp) : List UInt8 := l.flatMap stepT
theorem copyS {h0 h : AHeap} {L : List Chunk} (hs : Sep0 h0 h L) (s : Stp) : ∃ h3, AHeap.storeAt (AHeap.push h 1 [(.bool false), (.slice Sl.nil)]) (stepC s) (Pt.mk ⟨AHeap.next h, 0, 0⟩ 2) = some h3 ∧ Sep0 h0 h3 (L ++ [.own 1 h.next 0 2 (stepC s)]) := by
  have s1 := hs.push 1 2 (cs := [(AVal.bool false), (.slice Sl.nil)]) rfl
  have hi : (L ++ [Chunk.own 1 h.next 0 2 [(AVal.bool false), (.slice Sl.nil)]])[L.length]? = some (Chunk.own 1 h.next 0 2 [(AVal.bool false), (.slice Sl.nil)]) := by simp
  obtain ⟨h3, e1, s2⟩ := s1.put (o := 0) (l := 2) (vs := stepC s) hi (by simp [stepC]) (by simp [stepC])
  have hset : (L ++ [Chunk.own 1 h.next 0 2 [(AVal.bool false), (.slice Sl.nil)]]).set L.length (Chunk.own 1 h.next 0 2 (stepC s)) = L ++ [Chunk.own 1 h.next 0 2 (stepC s)] := by simp
  exact ⟨h3, e1, by rw [← hset]; exact s2⟩
/-- what a step needs -/
def StpOk (fuel d : Nat) (s : Stp) : Prop := s.2.length < 1000 ∧ s.2.length < fuel ∧ ∀ x ∈ s.2, AppOk fuel d x
theorem numsT_len {fuel d : Nat} {h : AHeap} : ∀ {l : List Int}, (∀ x ∈ l, AppOk fuel d x) → (numsT l).length ≤ 21 * l.length
  | [], _ => by simp [numsT]
  | x :: l, hx => by
    have h1 := numsT_len (h := h) (l := l) fun y hy => hx y (List.mem_cons_of_mem _ hy)
    obtain ⟨_, _, _, _, h2⟩ := hx x (List.mem_cons_self ..) h h .nil [] (by simp) ((Sep0.start h).addNil 1)
    have e : numsT (x :: l) = decT x ++ [32] ++ numsT l := by simp [numsT]
    rw [e, List.length_append, List.length_append, List.length_cons]
    simp
    omega
theorem bytes_loop (fuel d : Nat) {L : List Stp} (hL : L.length < 10000) (hok : ∀ s ∈ L, StpOk fuel d s) {h0 : AHeap} : ∀ (n k : Nat) (o : Sl) (t : List UInt8) (h : AHeap), L.length < n + k → k ≤ L.length → t.length + 40000 * (L.length - k) < 700000000 → Sep0 h0 h [.grown 1 o (bytesC t)] →
    ∃ s' h', (l_proof_Bytes_0 fuel (d + 1) n [(3, .slice o), (6, .slice (lstS L)), (7, .int .i64 (L.length : Int)), (8, .int .i64 (k : Int))] h).bind (fun p => k_proof_Bytes_0 fuel (d + 1) p.1 p.2.1 p.2.2) = some (.slice s', h') ∧ Sep0 h0 h' [.grown 1 s' (bytesC (t ++ stepsT (L.drop k)))] := by
  intro n
  induction n with
  | zero => intro k o t h h1 h2; omega
  | succ n ih =>
    intro k o t h h1 h2 ht hs
    rw [l_proof_Bytes_0_eq]
    by_cases hk : k < L.length
    · have hd : L.drop k = L.getD k (false, []) :: L.drop (k + 1) := by rw [List.drop_eq_getElem_cons hk]; simp [List.getD, hk]
      have hx := hok (L.getD k (false, [])) (by simp [List.getD, hk])
      rw [bif_pos (by omega), addr_lstN (sz := 2) (f := stepC) stepC_len (l := L) (j := (k : Int)) (by omega) (by omega) (false, []), hd, Int.toNat_natCast]
      generalize L.getD k (false, []) = s at hx
      obtain ⟨a1, a2, a3⟩ := hx
      have hnl := numsT_len (h := h) a3
      obtain ⟨h3, e1, s1⟩ := copyS hs s
      rw [Option.bind_some, cellsAt_fp (stepC_len s), Option.bind_some, cond_pos _ _ (show (!false && Nat.beq (List.length (stepC s)) 2 && List.all (stepC s) AVal.isCell) = true from rfl), e1]
      have c0 : h3.cell (.mk ⟨AHeap.next h, 0, 0 + 0⟩ 2) = some (.bool s.1) := s1.part (i := 1) rfl (by omega) rfl
      simp only [Option.bind_some, field_mk, c0, bool_bool]
      -- behind the mark
      have tail : ∀ (o' : Sl) (t' : List UInt8) (h4 : AHeap), t'.length ≤ t.length + 2 → h4.cell (.mk ⟨AHeap.next h, 0, 0 + 1⟩ 2) = some (.slice (lstI s.2)) → Sep0 h0 h4 [.grown 1 o' (bytesC t')] →
          ∃ s' h', (k_proof_Bytes_1 fuel (d + 1) n .normal [(3, .slice o'), (5, .ptr (.mk ⟨AHeap.next h, 0, 0⟩ 2)), (6, .slice (lstS L)), (7, .int .i64 (L.length : Int)), (8, .int .i64 (k : Int))] h4).bind (fun p => k_proof_Bytes_0 fuel (d + 1) p.1 p.2.1 p.2.2) = some (.slice s', h') ∧ Sep0 h0 h' [.grown 1 s' (bytesC (t' ++ lineT s.2 ++ stepsT (L.drop (k + 1))))] := by
        intro o' t' h4 hlt c1 hs4
        rw [k_proof_Bytes_1_n]
        simp only [field_mk, Option.bind_some, c1, slice_slice]
        obtain ⟨o2, h5, e5, s5⟩ := lineP_run fuel d (l := s.2) (by omega) a2 a3 (by omega) hs4
        rw [e5]
        simp only [Option.bind_some, slice_slice]
        rw [sucU (by omega)]
        exact ih (k + 1) o2 (t' ++ lineT s.2) h5 (by omega) (by omega) (by simp [lineT]; omega) s5
      have hst : stepsT (s :: L.drop (k + 1)) = stepT s ++ stepsT (L.drop (k + 1)) := by simp [stepsT]
      rw [hst]
      unfold stepT
      cases hb : s.1 with
      | true =>
        simp only [cond_true, if_true]
        rw [show [(AVal.int .u8 (100 : Int)), (AVal.int .u8 (32 : Int))] = bytesC [100, 32] from rfl, lit_cells h3 [100, 32] (n := 2) rfl, Option.bind_some, Sl.len]
        have hl := s1.len (i := 0) rfl
        simp only [List.length_map, Nat.mul_one] at hl
        obtain ⟨o1, h4, e4, s4, _⟩ := (s1.junk (cs := bytesC [100, 32])).grow (i := 0) (bytes := 1) (m := 2) (vs := bytesC [100, 32]) rfl rfl (by omega) (by omega)
        rw [← bytesC_app] at s4
        rw [e4]
        simp only [Option.bind_some]
        have c1 : h4.cell (.mk ⟨AHeap.next h, 0, 0 + 1⟩ 2) = some (.slice (lstI s.2)) := s4.part (i := 1) rfl (by omega) rfl
        obtain ⟨s', h', q1, q2⟩ := tail o1 (t ++ [100, 32]) h4 (by simp) c1 (Sep0.init (L := [_]) s4)
        refine ⟨s', h', q1, ?_⟩
        have : t ++ [100, 32] ++ lineT s.2 ++ stepsT (L.drop (k + 1)) = t ++ ([100, 32] ++ lineT s.2 ++ stepsT (L.drop (k + 1))) := by simp
        rw [← this]
        exact q2
      | false =>
        simp only [cond_false, Bool.false_eq_true, if_false, Option.bind_some, List.nil_append]
        have c1 : h3.cell (.mk ⟨AHeap.next h, 0, 0 + 1⟩ 2) = some (.slice (lstI s.2)) := s1.part (i := 1) rfl (by omega) rfl
        obtain ⟨s', h', q1, q2⟩ := tail o t h3 (by omega) c1 (Sep0.init (L := [_]) s1)
        refine ⟨s', h', q1, ?_⟩
        rw [← List.append_assoc]
        exact q2
    · have : k = L.length := by omega
      subst this
      rw [bif_neg (by omega), List.drop_length]
      simp only [Option.bind_some, k_proof_Bytes_0_x0]
      refine ⟨o, h, rfl, ?_⟩
      rw [show stepsT [] = [] from rfl, List.append_nil]
      exact hs
theorem bytes_body (fuel d : Nat) {L : List Stp} (hL : L.length < 10000) (hLf : L.length < fuel) (hok : ∀ s ∈ L, StpOk fuel d s) : ∃ v h', brun fuel (d + 2) F_proof_Bytes [.slice (lstS L)] AHeap.none = some (v, h') ∧ freezeV h' 8 v = some (.slice (lstU (stepsT L))) := by
  obtain ⟨s', h', e1, q1⟩ := bytes_loop fuel d hL hok fuel 0 .nil [] AHeap.none (by omega) (by omega) (by simp; omega) ((Sep0.start _).addNil 1)
  rw [List.drop_zero, List.nil_append] at q1
  refine ⟨.slice s', h', ?_, ?_⟩
  · rw [e_proof_Bytes, len_lst]
    exact e1
  · have hl := q1.len (i := 0) rfl
    simp only [List.length_map, Nat.mul_one] at hl
    rw [(q1.sep.grown (i := 0) rfl).freeze (n := 7) (by omega) (freeze_bytesC 6 _), ← hl]
theorem bytes_any (fuel d : Nat) {L : List Stp} (hL : L.length < 10000) (hLf : L.length < fuel) (hok : ∀ s ∈ L, StpOk fuel d s) {h : AHeap} {s : Sl} (hs : freezeV h 8 (.slice s) = some (.slice (lstS L))) : ∃ ids, run fuel (d + 2) F_proof_Bytes [.slice s] h = some (.slice (lstU (stepsT L)), h.markRo ids) := by
  obtain ⟨v, h', e1, e2⟩ := bytes_body fuel d hL hLf hok
  exact run_any rfl rfl (mm1 hs) e1 e2
theorem bytes_run (fuel d : Nat) {L : List Stp} (hL : L.length < 10000) (hLf : L.length < fuel) (hok : ∀ s ∈ L, StpOk fuel d s) (h : AHeap) : run fuel (d + 2) F_proof_Bytes [.slice (lstS L)] h = some (.slice (lstU (stepsT L)), h) := by
  obtain ⟨v, h', e1, e2⟩ := bytes_body fuel d hL hLf hok
  exact pure_of rfl rfl (cc1 (canon_lstS 7 L)) e1 e2
end Go.Proofs.YtdkckkhghghhdaaDoor
