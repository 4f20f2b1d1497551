/-
  LitsRename.
-/
import Derived.Test.YtnkbhbkfbigbiaaLrn
import Derived.Test.YtnkbhbkfbigbiaaS1a
import Derived.Test.YtnkbhbkfbigbiaaBm31
namespace Go.Proofs.Ytnkbhbkfbigbiaa
open Go.RowKit

theorem hasSz_mark {h : AHeap} (ids : List Nat) (sz : Nat) (s : Sl) : (h.markRo ids).hasSz sz s = h.hasSz sz s := by
  cases s with
  | nil => rfl
  | lst n c cs => rfl
  | mk r n c =>
    simp only [AHeap.hasSz, rows_mark]
    cases h.rows[r.id]? with
    | none => rfl
    | some row => simp only [Option.map_some]; cases ids.elem r.id <;> rfl
theorem Grown.freezeI {h : AHeap} {s : Sl} {l : List Int} (hg : Grown h 1 s (intsC l)) : freezeV h 8 (.slice s) = some (.slice (lstI l)) := by
  rw [hg.freeze (n := 7) (by omega) (freeze_intsC 6 _)]
  have := hg.len
  simp only [List.length_map, Nat.mul_one] at this
  rw [← this]
theorem Own.freezeI {h : AHeap} {id gen n : Nat} {c : Bool} {l : List Int} (ho : Own h 1 id gen n (intsC l)) : freezeV h 8 (.slice (.mk ⟨id, gen, 0⟩ n c)) = some (.slice (lstI l)) := by
  rw [ho.freeze (n := 7) c (freeze_intsC 6 _)]
  have := ho.len
  simp only [List.length_map, Nat.mul_one] at this
  rw [← this]
/-- a part of a slice that grows, as a value -/
theorem Grown.cutI {h : AHeap} {s : Sl} {l : List Int} (hg : Grown h 1 s (intsC l)) {lo hi : Nat} (h1 : lo ≤ hi) (h2 : hi ≤ l.length) (c : Bool) : freezeV h 8 (.slice (s.cut 1 lo hi c)) = some (.slice (lstI ((l.drop lo).take (hi - lo)))) := by
  have hl := hg.len
  simp only [List.length_map, Nat.mul_one] at hl
  have hlen : ((l.drop lo).take (hi - lo)).length = hi - lo := by simp; omega
  generalize hcs : intsC l = cs at hg
  have zero : ∀ r : Ref, ∀ c : Bool, freezeV h 8 (.slice (.mk r 0 c)) = some (.slice (.lst 0 false [])) := fun r c => freeze_cells (h := h) (r := r) (n := 0) (c := c) (cs := []) (us := []) rfl rfl
  have small : hi = 0 → l = [] → freezeV h 8 (.slice (s.cut 1 lo hi c)) = some (.slice (.lst 0 false [])) → freezeV h 8 (.slice (s.cut 1 lo hi c)) = some (.slice (lstI ((l.drop lo).take (hi - lo)))) := by
    intro e1 e2 e3
    rw [e3, e2]
    simp
  cases hg with
  | nil =>
    have : l = [] := by simpa using hcs
    exact small (by subst this; simpa using h2) this (freeze_nil 7)
  | none =>
    have e : l = [] := by simpa using hcs
    have e0 : hi = 0 := by subst e; simpa using h2
    refine small e0 e ?_
    subst e0
    obtain rfl : lo = 0 := by omega
    exact zero _ _
  | room =>
    have e : l = [] := by simpa using hcs
    have e0 : hi = 0 := by subst e; simpa using h2
    refine small e0 e ?_
    subst e0
    obtain rfl : lo = 0 := by omega
    exact zero _ _
  | @row id gen n cs row q1 q2 q3 q4 q5 q6 q7 =>
    have hs : h.sliceCells 1 (.mk ⟨id, gen, lo⟩ (hi - lo) (c || (false && Nat.beq hi n))) = some (intsC ((l.drop lo).take (hi - lo))) := by
      have := sliceCells_of (r := ⟨id, gen, lo⟩) (n := hi - lo) (c := (c || (false && Nat.beq hi n))) q1 q7 q5 (by rw [q4]; exact Nat.le_refl _) (by simp only; rw [q2, ← hcs]; simp; omega)
      rw [this, q2, ← hcs]
      simp
    have e : Sl.cut (.mk ⟨id, gen, 0⟩ n false) 1 lo hi c = .mk ⟨id, gen, lo⟩ (hi - lo) (c || (false && Nat.beq hi n)) := by simp only [Sl.cut, Nat.mul_one, Nat.zero_add]
    rw [e, freeze_cells hs (freeze_intsC 6 _)]
    show some (AVal.slice (.lst (hi - lo) false _)) = some (AVal.slice (.lst ((l.drop lo).take (hi - lo)).length false _))
    rw [hlen]

/-! the plain law -/
def wN (b v : Nat) : Int := ((1 + (v + b) % 9 + 10 * (v % 2) : Nat) : Int)
def toN (b : Nat) : Nat → List Int
  | 0 => [0]
  | k + 1 => toN b k ++ [wN b (k + 1)]
def backN (b : Nat) : Nat → List Int
  | 0 => List.replicate 30 0
  | k + 1 => (backN b k).set (wN b (k + 1)).toNat ((k + 1 : Nat) : Int)
theorem toN_len (b : Nat) : ∀ k, (toN b k).length = k + 1
  | 0 => rfl
  | k + 1 => by simp [toN, toN_len b k]
theorem backN_len (b : Nat) : ∀ k, (backN b k).length = 30
  | 0 => by simp [backN]
  | k + 1 => by simp [backN, backN_len b k]
def lits9 : List Int := [-9, -8, -7, -6, -5, -4, -3, -2, -1, 1, 2, 3, 4, 5, 6, 7, 8, 9]
theorem ren_all : (List.range 9).all (fun b => lits9.all fun x => decide ((ren1 (toN b 9) x).bind (ren1 (backN b 9)) = some x) && decide (ren1 [0] x = none)) = true := by decide +kernel
theorem lit9_mem {x : Int} (h : x ≠ 0 ∧ -9 ≤ x ∧ x ≤ 9) : x ∈ lits9 := by
  obtain ⟨h0, h1, h2⟩ := h
  have : x = -9 ∨ x = -8 ∨ x = -7 ∨ x = -6 ∨ x = -5 ∨ x = -4 ∨ x = -3 ∨ x = -2 ∨ x = -1 ∨ x = 1 ∨ x = 2 ∨ x = 3 ∨ x = 4 ∨ x = 5 ∨ x = 6 ∨ x = 7 ∨ x = 8 ∨ x = 9 := by omega
  simpa [lits9] using this
theorem ren_ok {b : Nat} (hb : b < 9) {x : Int} (h : x ≠ 0 ∧ -9 ≤ x ∧ x ≤ 9) : (ren1 (toN b 9) x).bind (ren1 (backN b 9)) = some x ∧ ren1 [0] x = none := by
  have := List.all_eq_true.1 ren_all b (List.mem_range.2 hb)
  have := List.all_eq_true.1 this x (lit9_mem h)
  simpa using this
theorem renameL_some {b c m : List Int} {x y : Int} (h1 : ren1 b x = some y) (h2 : renameL b c = some m) : renameL b (x :: c) = some (y :: m) := by
  show renC (ren1 b x) (renameL b c) = _
  rw [h1, h2]; rfl
theorem renameL_none {b c : List Int} {x : Int} (h1 : ren1 b x = none) : renameL b (x :: c) = none := by
  show renC (ren1 b x) (renameL b c) = _
  rw [h1]; rfl
theorem rename_back {T B : List Int} : ∀ {l : List Int}, (∀ x ∈ l, (ren1 T x).bind (ren1 B) = some x) → ∃ m, renameL T l = some m ∧ renameL B m = some l ∧ m.length = l.length
  | [], _ => ⟨[], rfl, rfl, rfl⟩
  | x :: l, h => by
    obtain ⟨m, h1, h2, h3⟩ := rename_back (l := l) fun y hy => h y (List.mem_cons_of_mem _ hy)
    have hx := h x (List.mem_cons_self ..)
    cases hr : ren1 T x with
    | none => rw [hr] at hx; cases hx
    | some y =>
      rw [hr, Option.bind_some] at hx
      refine ⟨y :: m, ?_, ?_, by simp [h3]⟩
      · exact renameL_some hr h1
      · exact renameL_some hx h2
theorem rename_there {b : Nat} (hb : b < 9) {l : List Int} (h : ∀ x ∈ l, x ≠ 0 ∧ -9 ≤ x ∧ x ≤ 9) : ∃ m, renameL (toN b 9) l = some m ∧ renameL (backN b 9) m = some l ∧ m.length = l.length :=
  rename_back fun x hx => (ren_ok hb (h x hx)).1
theorem rename_short {l : List Int} (h : ∀ x ∈ l, x ≠ 0 ∧ -9 ≤ x ∧ x ≤ 9) : (renameL [0] l).isSome = decide ((l.length : Int) = 0) := by
  cases l with
  | nil => rfl
  | cons x l =>
    have := (ren_ok (b := 0) (by omega) (h x (List.mem_cons_self ..))).2
    rw [renameL_none this, decide_eq_false (by simp only [List.length_cons]; omega)]
    rfl

/-! the walk -/
theorem lits_loop (fuel d : Nat) {z : List Int} (hz : z.length < 1000000) {x1 : Int} {b : Bool} : ∀ (n k : Nat) (s : Sl) (h : AHeap), z.length < n + k → k ≤ z.length → Grown h 1 s (intsC ((z.take k).map fun x => litI x 9)) →
    ∃ s' h', l_skolemlaw1_LitsRename_0 fuel (d + 2) n [(0, .slice (lstI z)), (1, .int .i64 x1), (5, .bool b), (6, .slice s), (7, .int .i64 (k : Int))] h = some (.exit 0, [(1, .int .i64 x1), (5, .bool b), (6, .slice s')], h') ∧ Grown h' 1 s' (intsC (z.map fun x => litI x 9)) := by
  intro n
  induction n with
  | zero => intro k s h h1 h2; omega
  | succ n ih =>
    intro k s h h1 h2 hg
    have hl := hg.len
    simp only [List.length_map, List.length_take, Nat.mul_one] at hl
    rw [l_skolemlaw1_LitsRename_0_eq, len_lst]
    by_cases hk : k < z.length
    · rw [bif_pos (by omega), addr_lstM _ (by omega) (by omega) 0]
      simp only [Option.bind_some, cell_fp, int_int, Int.toNat_natCast]
      rw [Lit_run fuel d (by omega) (by omega)]
      simp only [Option.bind_some, int_int]
      obtain ⟨s', h', e1, e2, e3⟩ := hg.snoc (bytes := 8) (vs := [.int .i64 (litI (z.getD k 0) 9)]) rfl (by omega) (by omega)
      rw [e1]
      simp only [Option.bind_some]
      rw [succI (by omega)]
      refine ih (k + 1) s' h' (by omega) (by omega) ?_
      rw [take_get hk 0]
      simpa using e2
    · have : k = z.length := by omega
      subst this
      rw [bif_neg (by omega)]
      rw [List.take_length] at hg
      exact ⟨s, h, rfl, hg⟩

theorem wN_eq {b v : Nat} (hb : b < 9) (hv : v < 100) : IntKind.wrap .i64 (IntKind.wrap .i64 (1 + Int.tmod (IntKind.wrap .i64 ((v : Int) + (b : Int))) 9) + IntKind.wrap .i64 (10 * Int.tmod (v : Int) 2)) = wN b v := by
  rw [wrap64 (n := (v : Int) + b) (by omega) (by omega), Int.tmod_eq_emod_of_nonneg (by omega), Int.tmod_eq_emod_of_nonneg (by omega), wrap64 (n := 1 + _) (by omega) (by omega), wrap64 (n := 10 * _) (by omega) (by omega), wrap64 (by omega) (by omega)]
  unfold wN
  omega
theorem wN_range {b v : Nat} (hv : 1 ≤ v) : 0 ≤ wN b v ∧ wN b v < 30 := by unfold wN; omega

theorem maps_loop (fuel d : Nat) {b : Nat} (hb : b < 9) {ok : Bool} {h0 : AHeap} {L : Nat} {X : Sl} : ∀ (m k : Nat) (n : Nat) (s : Sl) (h : AHeap), k + m = 9 → 1 ≤ k → m < n → Sep0 h0 h [.own 1 L 0 30 (intsC (backN b k)), .grown 1 s (intsC (toN b k))] →
    ∃ s' h', l_skolemlaw1_LitsRename_1 fuel d n [(1, .int .i64 (b : Int)), (5, .bool ok), (6, .slice X), (8, .slice s), (9, .slice (.mk ⟨L, 0, 0⟩ 30 true)), (10, .int .i64 ((k + 1 : Nat) : Int))] h =
      some (.exit 2, [(5, .bool ok), (6, .slice X), (8, .slice s'), (9, .slice (.mk ⟨L, 0, 0⟩ 30 true))], h') ∧ Sep0 h0 h' [.own 1 L 0 30 (intsC (backN b 9)), .grown 1 s' (intsC (toN b 9))] := by
  intro m
  induction m with
  | zero =>
    intro k n s h h1 h2 h3 hs
    obtain ⟨n, rfl⟩ : ∃ n', n = n' + 1 := ⟨n - 1, by omega⟩
    obtain rfl : k = 9 := by omega
    rw [l_skolemlaw1_LitsRename_1_eq, bif_neg (by omega)]
    exact ⟨s, h, rfl, hs⟩
  | succ m ih =>
    intro k n s h h1 h2 h3 hs
    obtain ⟨n, rfl⟩ : ∃ n', n = n' + 1 := ⟨n - 1, by omega⟩
    have hl := hs.len (i := 1) rfl
    simp only [List.length_map, Nat.mul_one, toN_len] at hl
    rw [l_skolemlaw1_LitsRename_1_eq, bif_pos (by omega), wN_eq hb (by omega)]
    have hw := wN_range (b := b) (v := k + 1) (by omega)
    obtain ⟨s1, h1', e1, e2, e3⟩ := hs.grow (i := 1) (bytes := 8) (m := 1) (vs := [.int .i64 (wN b (k + 1))]) rfl rfl (by omega) (by omega)
    have o1 := e2.sep.own (i := 0) rfl
    obtain ⟨a1, h2', f1, f2, f3, f4⟩ := o1.intsStore (j := wN b (k + 1)) (by omega) (by omega) true ((k + 1 : Nat) : Int)
    rw [e1]
    simp only [Option.bind_some]
    rw [a1, Option.bind_some, f1, Option.bind_some, succI (by omega)]
    have sep2 : Sep0 h0 h2' [.own 1 L 0 30 (intsC (backN b (k + 1))), .grown 1 s1 (intsC (toN b (k + 1)))] := by
      have hg := e2.sep.grown (i := 1) rfl
      refine ⟨⟨?_, ?_⟩, keeps_new e2.ext f3 ?_, ?_⟩
      · intro c hc
        simp only [List.mem_cons, List.not_mem_nil, or_false] at hc
        rcases hc with rfl | rfl
        · exact f2
        · have hfar := e2.sep.far
          have : Grown h2' 1 s1 (intsC (toN b k) ++ [.int .i64 (wN b (k + 1))]) := hg.keep f3 (fun i hi e => by
            have := List.pairwise_cons.1 hfar
            exact (this.1 _ (List.mem_cons_self ..)) i (by subst e; rfl) hi)
          show Grown h2' 1 s1 (intsC (toN b k ++ [wN b (k + 1)]))
          simpa using this
      · have hfar := List.pairwise_cons.1 e2.sep.far
        refine List.pairwise_cons.2 ⟨fun c hc => ?_, by simp⟩
        simp only [List.mem_cons, List.not_mem_nil, or_false] at hc
        subst hc
        exact fun r hr => hfar.1 _ (List.mem_cons_self ..) r hr
      · intro i hi
        subst hi
        exact e2.fresh _ (List.mem_cons_self ..) _ rfl
      · intro c hc r hr
        simp only [List.mem_cons, List.not_mem_nil, or_false] at hc
        rcases hc with rfl | rfl
        · exact e2.fresh _ (List.mem_cons_self ..) r hr
        · exact e2.fresh _ (List.mem_cons_of_mem _ (List.mem_cons_self ..)) r hr
    exact ih (k + 1) n s1 h2' (by omega) (by omega) (by omega) sep2

theorem litsRename_run (F d : Nat) (hF : 2 ^ 21 ≤ F) (z : List Int) (by' : Int) (hby : -9223372036854775808 ≤ by' ∧ by' ≤ 9223372036854775807) (h : AHeap) :
    ∃ h', run F (d + 60) F_skolemlaw1_LitsRename [.slice (lstI z), .int .i64 by'] h = some (.bool true, h') := by
  rw [e_skolemlaw1_LitsRename, first1_run F (by omega) (by omega), len_lst]
  simp only [Option.bind_some, bool_bool, Bool.not_true, cond_false]
  by_cases h30 : 30 < z.length
  · rw [bif_pos (by omega)]
    exact ⟨h, rfl⟩
  rw [bif_neg (by omega)]
  obtain ⟨sl, h1, e1, g1⟩ := lits_loop F (d + 57) (z := z) (by omega) (x1 := by') (b := true) F 0 .nil h (by omega) (by omega) .nil
  rw [show ((0 : Nat) : Int) = 0 from rfl] at e1
  rw [e1]
  simp only [Option.bind_some, k_skolemlaw1_LitsRename_0_x0]
  rw [cond_pos _ _ (show (true && decide (0 ≤ (30 : Int)) && decide ((30 : Int) ≤ (30 : Int)) && decide ((30 : Int) * 8 ≤ 140737488355328) && decide ((30 : Int) ≤ 140737488355328)) = true from rfl)]
  rw [show Int.toNat (30 : Int) = 30 from rfl, show eqI (30 : Int) (30 : Int) = true from rfl, repeat_one]
  have hlen : (z.map fun x => litI x 9).length ≤ 30 := by simp; omega
  have hlit : ∀ x ∈ z.map (fun x => litI x 9), x ≠ 0 ∧ -9 ≤ x ∧ x ≤ 9 := by
    intro x hx
    obtain ⟨y, _, rfl⟩ := List.mem_map.1 hx
    exact litI_range (by omega) (by omega)
  generalize (z.map fun x => litI x 9) = l at g1 hlen hlit
  have g1len := g1.len
  simp only [List.length_map, Nat.mul_one] at g1len
  -- from here on
  have tail : ∀ (b : Nat), b < 9 → ∃ h', ((l_skolemlaw1_LitsRename_1 F (d + 59) F [(1, .int .i64 (b : Int)), (5, .bool true), (6, .slice sl), (8, .slice (.lst 1 true [.int .i64 0])), (9, .slice (.mk ⟨h1.next, 0, 0⟩ 30 true)), (10, .int .i64 1)] (h1.push 1 (List.replicate 30 (.int .i64 0)))).bind fun p => k_skolemlaw1_LitsRename_1 F (d + 59) p.1 p.2.1 p.2.2) = some (.bool true, h') := by
    intro b hb
    obtain ⟨m, hm⟩ : ∃ m, F = m + 1 := ⟨F - 1, by omega⟩
    have hq := l_skolemlaw1_LitsRename_1_eq F (d + 59) m (b : Int) true sl (.lst 1 true [.int .i64 0]) (.mk ⟨h1.next, 0, 0⟩ 30 true) 1 (h1.push 1 (List.replicate 30 (.int .i64 0)))
    rw [← hm] at hq
    have hwe := wN_eq (b := b) (v := 1) hb (by omega)
    rw [show ((1 : Nat) : Int) = 1 from rfl] at hwe
    have hw := wN_range (b := b) (v := 1) (by omega)
    have s0 := (Sep0.start h1).push 1 30 (cs := intsC (backN b 0)) (by simp [backN])
    have hbk : intsC (backN b 0) = List.replicate 30 (.int .i64 0) := by simp [backN]
    rw [hbk] at s0
    have hap := append_lst (h := h1.push 1 (List.replicate 30 (.int .i64 (0 : Int)))) (sz := 1) (bytes := 8) (n := 1) (m := 1) (cs := [.int .i64 (0 : Int)]) (xs := [.int .i64 (wN b 1)]) rfl (by omega) (by omega) (by omega)
    have s1 := s0.push 1 2 (cs := [.int .i64 (0 : Int), .int .i64 (wN b 1)]) rfl
    have o1 := s1.sep.own (i := 0) rfl
    have o1 : Own ((h1.push 1 (List.replicate 30 (.int .i64 (0 : Int)))).push 1 [.int .i64 (0 : Int), .int .i64 (wN b 1)]) 1 h1.next 0 30 (intsC (backN b 0)) := by rw [hbk]; exact o1
    obtain ⟨a1, h2', f1, f2, f3, f4⟩ := o1.intsStore (j := wN b 1) (by omega) (by omega) true 1
    rw [hq, bif_pos (by omega), hwe, hap]
    simp only [Option.bind_some, List.cons_append, List.nil_append]
    rw [a1, Option.bind_some, f1, Option.bind_some, wrap64 (by omega) (by omega)]
    have n1 : (h1.push 1 (List.replicate 30 (.int .i64 (0 : Int)))).next = h1.next + 1 := by simp [AHeap.push, AHeap.next]
    have sep2 : Sep0 h1 h2' [.own 1 h1.next 0 30 (intsC (backN b 1)), .grown 1 (.mk ⟨(h1.push 1 (List.replicate 30 (.int .i64 (0 : Int)))).next, 0, 0⟩ 2 false) (intsC (toN b 1))] := by
      have oo := (s1.sep.own (i := 1) rfl).keep f3 (by rw [n1]; omega)
      refine ⟨⟨?_, ?_⟩, keeps_new s1.ext f3 ?_, ?_⟩
      · intro c hc
        simp only [List.mem_cons, List.not_mem_nil, or_false] at hc
        rcases hc with rfl | rfl
        · exact f2
        · obtain ⟨row, r1, r2, r3, r4, r5, r6⟩ := oo.ex
          exact .row r1 r2 rfl r3 (by rw [← r3]; rw [r3]; exact r4) r5 r6
      · refine List.pairwise_cons.2 ⟨fun c hc => ?_, by simp⟩
        simp only [List.mem_cons, List.not_mem_nil, or_false] at hc
        subst hc
        intro r hr hr2
        simp only [Chunk.row, Option.some.injEq] at hr
        have := Sl.row_some (r := ⟨_, 0, 0⟩) (n := 2) (c := false) hr2
        simp only at this
        omega
      · intro i hi
        rw [hi, next_len]; exact Nat.le_refl _
      · intro c hc r hr
        simp only [List.mem_cons, List.not_mem_nil, or_false] at hc
        rcases hc with rfl | rfl
        · simp only [Chunk.row, Option.some.injEq] at hr
          rw [← hr, next_len]; exact Nat.le_refl _
        · have := Sl.row_some (r := ⟨_, 0, 0⟩) (n := 2) (c := false) hr
          simp only at this
          have hx := next_len h1
          omega
    obtain ⟨s2, h3, e3, sep3⟩ := maps_loop F (d + 59) hb (ok := true) (X := sl) 8 1 m _ h2' (by omega) (by omega) (by omega) sep2
    rw [show (1 : Int) + 1 = ((1 + 1 : Nat) : Int) from rfl, show (1 + 1 : Nat) = 2 from rfl]
    rw [show ((1 + 1 : Nat) : Int) = ((2 : Nat) : Int) from rfl] at e3
    rw [e3]
    simp only [Option.bind_some, k_skolemlaw1_LitsRename_1_x2]
    have gto := sep3.sep.grown (i := 1) rfl
    have oback := sep3.sep.own (i := 0) rfl
    have gl := g1.keep (sep3.ext) (fun _ _ h => h)
    have fl := gl.freezeI
    have fto := gto.freezeI
    have fback := oback.freezeI (c := true)
    obtain ⟨mm, r1, r2, r3⟩ := rename_there hb hlit
    obtain ⟨ids1, q1⟩ := rename_run F (d + 57) fl fto (by omega) (by omega)
    rw [r1] at q1
    rw [q1]
    simp only [Option.bind_some, isTup_tup, List.length_cons, List.length_nil, Nat.beq, cond_true, comp_tup, List.getElem?_cons_zero, List.getElem?_cons_succ, slice_slice, bool_bool, Option.getD_some, Option.isSome_some]
    obtain ⟨ids2, q2⟩ := rename_run F (d + 57) (h := h3.markRo ids1) (s := lstI mm) (freeze_lstI 7 mm) (by rw [freeze_mark]; exact fback) (by omega) (by omega)
    rw [r2] at q2
    rw [q2]
    have hl2 := gto.len
    simp only [List.length_map, Nat.mul_one, toN_len] at hl2
    simp only [Option.bind_some, isTup_tup, List.length_cons, List.length_nil, Nat.beq, cond_true, comp_tup, List.getElem?_cons_zero, List.getElem?_cons_succ, slice_slice, bool_bool, Option.getD_some, Option.isSome_some]
    rw [aHi_some (by omega) (by omega), Option.bind_some, aLo_none, Option.bind_some, aMx_none, Option.bind_some, hasSz_mark, hasSz_mark, gto.hasSz, cond_true]
    have fcut := gto.cutI (lo := 0) (hi := 1) (by omega) (by rw [toN_len]; omega) false
    have ecut : ((toN b 9).drop 0).take (1 - 0) = [0] := by
      have : ∀ k, ((toN b k).drop 0).take (1 - 0) = [0] := by
        intro k
        induction k with
        | zero => rfl
        | succ k ih =>
          simp only [toN, List.drop_zero]
          rw [List.take_append_of_le_length (by rw [toN_len]; omega)]
          simpa using ih
      exact this 9
    rw [ecut] at fcut
    obtain ⟨ids3, q3⟩ := rename_run F (d + 57) (h := (h3.markRo ids1).markRo ids2) (s := sl) (t := s2.cut 1 0 1 false) (by rw [freeze_mark, freeze_mark]; exact fl) (by rw [freeze_mark, freeze_mark]; exact fcut) (by omega) (by omega)
    rw [show (1 : Int).toNat = 1 from rfl, q3]
    simp only [Option.bind_some, isTup_tup, List.length_cons, List.length_nil, Nat.beq, cond_true, comp_tup, List.getElem?_cons_zero, List.getElem?_cons_succ, slice_slice, bool_bool, beq_self_eq_true]
    rw [sameI_run F (d + 58) (a := l) (b := l) (s := lstI l) (freeze_lstI 7 l) (by rw [freeze_mark, freeze_mark, freeze_mark]; exact fl) (by omega) (by omega)]
    simp only [Option.bind_some, bool_bool, decide_true, cond_true]
    rw [rename_short hlit, ← g1len]
    refine ⟨((h3.markRo ids1).markRo ids2).markRo ids3, ?_⟩
    simp
  by_cases hneg : by' < 0
  · have e2 : Int.tmod (IntKind.wrap .i64 (0 - IntKind.wrap .i64 (by' + 1))) 9 = (((-(by' + 1)).toNat % 9 : Nat) : Int) := by
      rw [wrap64 (n := by' + 1) (by omega) (by omega), wrap64 (by omega) (by omega), Int.tmod_eq_emod_of_nonneg (by omega)]
      omega
    rw [bif_pos hneg, e2]
    exact tail _ (by omega)
  · have e2 : Int.tmod by' 9 = ((by'.toNat % 9 : Nat) : Int) := by
      rw [Int.tmod_eq_emod_of_nonneg (by omega)]
      omega
    rw [bif_neg hneg, e2]
    exact tail _ (by omega)
end Go.Proofs.Ytnkbhbkfbigbiaa
