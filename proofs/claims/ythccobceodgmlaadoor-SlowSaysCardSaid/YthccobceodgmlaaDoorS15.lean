/-
  SlowSays.
-/
import Derived.Test.YthccobceodgmlaaDoorS5f
import Derived.Test.YthccobceodgmlaaDoorS13
import Derived.Test.YthccobceodgmlaaDoorS14
namespace Go.Proofs.YthccobceodgmlaaDoor
open Go.RowKit

theorem Sat_run (fuel d : Nat) {vars : Nat} {cc : List (List Int)} (hv : vars ≤ 20) (hfu : 2 ^ 21 ≤ fuel) (hl : cc.length ≤ 20000) (ht : totalI cc ≤ 80000) (hc : ∀ c ∈ cc, c.length < 1000000) (hlit : ∀ c ∈ cc, ∀ l ∈ c, isI l vars = true) (h : AHeap) :
    ∃ ob, run fuel (d + 6) F_slow_Sat [.agg (cnfC vars cc)] h = some (satV ob, h) ∧ firstI cc vars ob := by
  obtain ⟨v, h', ob, e1, e2, e3⟩ := Sat_brun fuel d hv hfu hl ht hc hlit
  exact ⟨ob, pure_of rfl rfl (cc1 (canonV_cnf vars cc)) e1 e2, e3⟩

def intsV (v n : Nat) : List Int := (List.range' v n).map fun (x : Nat) => (x : Int)
theorem intsV_succ (v n : Nat) : intsV v (n + 1) = (v : Int) :: intsV (v + 1) n := by simp [intsV, List.range'_succ]
theorem intsV_len (v n : Nat) : (intsV v n).length = n := by simp [intsV]
theorem block_high (ex : Bool) (f : Int) : ∀ (n v : Nat), 1 ≤ v → f < v → blockA ex 0 f v n = [] ∧ blockB ex 0 f v n = intsV v n
  | 0, v, _, _ => ⟨rfl, rfl⟩
  | n + 1, v, h1, h2 => by
    obtain ⟨i1, i2⟩ := block_high ex f n (v + 1) (by omega) (by omega)
    simp only [blockA, blockB]
    rw [decide_eq_false (show ¬ (v : Int) ≤ 0 by omega), Bool.and_false, if_neg (by simp), if_neg (by omega), if_neg (by simp), if_neg (by omega), i1, i2, intsV_succ]
    exact ⟨rfl, rfl⟩
theorem blocks_all (ex : Bool) (f : Int) : ∀ (n v : Nat), 1 ≤ v → blockA ex 0 f v n ++ blockB ex 0 f v n = intsV v n
  | 0, v, _ => rfl
  | n + 1, v, h1 => by
    by_cases h2 : (v : Int) ≤ f
    · have := blocks_all ex f n (v + 1) (by omega)
      simp only [blockA, blockB]
      rw [decide_eq_false (show ¬ (v : Int) ≤ 0 by omega), Bool.and_false, if_neg (by simp), if_pos h2, if_neg (by simp), if_pos h2, intsV_succ, List.cons_append, this]
    · obtain ⟨i1, i2⟩ := block_high ex f (n + 1) v h1 (by omega)
      rw [i1, i2, List.nil_append]
theorem posV_ints (x : Int) : ∀ (n v k : Nat), (v : Int) ≤ x → x < (v : Int) + n → posV x (intsV v n) k = k + (x - v).toNat + 1
  | 0, v, k, h1, h2 => by omega
  | n + 1, v, k, h1, h2 => by
    rw [intsV_succ]
    simp only [posV]
    by_cases h : (v : Int) = x
    · rw [if_pos h]; omega
    · rw [if_neg h, posV_ints x n (v + 1) (k + 1) (by omega) (by omega)]; omega
theorem matP_ints {n : Nat} {cc : List (List Int)} (hn : n ≤ 1000000) (h : ∀ c ∈ cc, ∀ l ∈ c, l ≠ 0 ∧ -(n : Int) ≤ l ∧ l ≤ n) : matP (intsV 1 n) cc = some cc := by
  have key : ∀ l : Int, l ≠ 0 ∧ -(n : Int) ≤ l ∧ l ≤ n → litP (intsV 1 n) l = some l := by
    rintro l ⟨h0, h1, h2⟩
    unfold litP
    rw [varI_eq ⟨by omega, by omega⟩, posV_ints _ _ _ _ (by omega) (by omega), if_neg (by omega)]
    congr 1
    split <;> omega
  have same : ∀ {α : Type} {f : α → Option α} {l : List α}, (∀ a ∈ l, f a = some a) → l.mapM f = some l := by
    intro α f l
    induction l with
    | nil => intro _; rfl
    | cons a l ih => intro h; rw [List.mapM_cons, h a (List.mem_cons_self ..), ih fun b hb => h b (List.mem_cons_of_mem _ hb)]; rfl
  exact same fun c hc => same fun l hl => key l (h c hc l hl)

theorem mod1_range (x : Int) : ∃ V : Nat, 1 ≤ V ∧ V ≤ 9 ∧ IntKind.wrap .i64 ((Int.tmod (IntKind.wrap .i64 ((Int.tmod x 9) + 9)) 9) + 1) = (V : Int) := by
  have h1 := Int.tmod_lt_of_pos x (b := 9) (by omega)
  have h3 := Int.tmod_lt_of_pos (-x) (b := 9) (by omega)
  rw [Int.neg_tmod] at h3
  rw [wrap64 (n := Int.tmod x 9 + 9) (by omega) (by omega), Int.tmod_eq_emod_of_nonneg (by omega)]
  have h4 := Int.emod_nonneg (Int.tmod x 9 + 9) (show (9 : Int) ≠ 0 by omega)
  have h5 := Int.emod_lt_of_pos (Int.tmod x 9 + 9) (show (0 : Int) < 9 by omega)
  refine ⟨((Int.tmod x 9 + 9) % 9 + 1).toNat, by omega, by omega, ?_⟩
  rw [wrap64 (by omega) (by omega)]
  omega
theorem mod2_range (x : Int) {V : Nat} (hV : V ≤ 1000000) : ∃ F : Nat, F ≤ V ∧ Int.tmod (IntKind.wrap .i64 ((IntKind.wrap .i64 ((Int.tmod x (IntKind.wrap .i64 ((V : Int) + 1))) + (V : Int))) + 1)) (IntKind.wrap .i64 ((V : Int) + 1)) = (F : Int) := by
  rw [wrap64 (n := (V : Int) + 1) (by omega) (by omega)]
  have h1 := Int.tmod_lt_of_pos x (b := (V : Int) + 1) (by omega)
  have h3 := Int.tmod_lt_of_pos (-x) (b := (V : Int) + 1) (by omega)
  rw [Int.neg_tmod] at h3
  rw [wrap64 (n := Int.tmod x ((V : Int) + 1) + V) (by omega) (by omega), wrap64 (by omega) (by omega), Int.tmod_eq_emod_of_nonneg (by omega)]
  have h4 := Int.emod_nonneg (Int.tmod x ((V : Int) + 1) + V + 1) (show ((V : Int) + 1) ≠ 0 by omega)
  have h5 := Int.emod_lt_of_pos (Int.tmod x ((V : Int) + 1) + V + 1) (show (0 : Int) < (V : Int) + 1 by omega)
  exact ⟨((Int.tmod x ((V : Int) + 1) + V + 1) % ((V : Int) + 1)).toNat, by omega, by omega⟩

theorem freeze_gameC {h : AHeap} (ex : Bool) (a b : List Int) (cc : List (List Int)) : freezeV h 8 (.agg (gameC ex a b cc)) = some (.agg (gameC ex a b cc)) :=
  freeze_agg 7 (mm4 rfl (freeze_lstI _ _) (freeze_lstI _ _) (freeze_lst _ _ _ (closedL_map closed_lstI cc)))

theorem satV_some (m : List Bool) : satV (some m) = .tup [.slice (lstB m), .bool true, .nilif] := rfl
theorem satV_none : satV none = .tup [.slice (lstB []), .bool false, .nilif] := rfl
theorem firstI_len {cc : List (List Int)} {vars : Nat} {m : List Bool} (h : firstI cc vars (some m)) : m.length = vars + 1 ∧ ofI cc m = true := by
  obtain ⟨b', rfl, h2, h3, _⟩ := h
  exact ⟨by simp [h2], h3⟩

theorem slowSays_run (fuel d : Nat) (hf : 2 ^ 21 ≤ fuel) (l : List Int) (x1 x2 x4 : Int) (ex : Bool) (h : AHeap) :
    ∃ h', run fuel (d + 8) F_skolemlaw7_SlowSays [.slice (lstI l), .int .i64 x1, .int .i64 x2, .bool ex, .int .i64 x4] h = some (.bool true, h') := by
  have hp : (2 : Nat) ^ 21 = 2097152 := rfl
  have hf21 := hf
  rw [e_skolemlaw7_SlowSays, first7_run fuel (d + 1) hf]
  rw [hp] at hf
  clear hp
  simp only [Option.bind_some, bool_bool, Bool.not_true, cond_false]
  rw [show (lstI l).len = l.length from rfl]
  by_cases hl : 60 < l.length
  · rw [bif_pos (by omega)]; exact ⟨h, rfl⟩
  rw [bif_neg (by omega)]
  obtain ⟨V, hV1, hV9, eV⟩ := mod1_range x1
  simp only [eV]
  obtain ⟨F, hF, eF⟩ := mod2_range x2 (V := V) (by omega)
  simp only [eF]
  have hne0 : ¬ IntKind.wrap .i64 ((V : Int) + 1) = 0 := by rw [wrap64 (by omega) (by omega)]; omega
  rw [bif_neg hne0, bif_neg hne0]
  clear eV eF hne0
  have hblk := blocks_all ex (F : Int) V 1 (by omega)
  have hlen : (blockA ex 0 (F : Int) 1 V).length + (blockB ex 0 (F : Int) 1 V).length = V := by rw [← List.length_append, hblk, intsV_len]
  have hne : blockA ex 0 (F : Int) 1 V ≠ [] ∨ blockB ex 0 (F : Int) 1 V ≠ [] := by
    by_cases h0 : blockA ex 0 (F : Int) 1 V = []
    · right; intro h1; rw [h0, h1] at hlen; simp at hlen; omega
    · exact .inl h0
  rw [Formula_run fuel (d + 2) (l := l) (vars := V) (first := F) (free := 0) (ex := ex) (by omega) (by omega) (by omega) (by omega) hne]
  generalize blockA ex 0 (F : Int) 1 V = outer at hblk hlen
  generalize blockB ex 0 (F : Int) 1 V = inner at hblk hlen
  simp only [Option.bind_some, agg_agg, Game_run fuel (d + 6)]
  have hCNF := fun h => CNF_run fuel (d + 3) (l := l) (vars := V) (by omega) (by omega) (by omega) h
  obtain ⟨q1, q2, q3⟩ := clausesI_size l V
  have qlits := clausesI_lits (vars := V) (by omega) l
  generalize clausesI l V = cc at q1 q2 q3 qlits hCNF ⊢
  rw [cond_pos _ _ (show (!false && Nat.beq (List.length (gameC ex outer inner cc)) 4 && List.all (gameC ex outer inner cc) AVal.isCell) = true from rfl)]
  have s0 := (Sep0.start h).push 1 4 (cs := [.bool false, .slice .nil, .slice .nil, .slice .nil]) rfl
  obtain ⟨h1, p1, s1⟩ := s0.put (i := 0) (o := 0) (l := 4) (vs := gameC ex outer inner cc) rfl (by simp [gameC]) (by simp [gameC])
  have s1' : Sep0 h h1 [.own 1 h.next 0 4 (gameC ex outer inner cc)] := s1
  have cG : h1.cellsAt 4 (.mk ⟨h.next, 0, 0⟩ 4) = some (gameC ex outer inner cc) := (s1'.sep.own (i := 0) rfl).parts (by omega) (by simp [gameC])
  have cO : h1.cell (.mk ⟨h.next, 0, 0 + 1⟩ 4) = some (.slice (lstI outer)) := s1'.part (i := 0) rfl (by omega) rfl
  have hmat : matP (outer ++ inner) cc = some cc := by rw [hblk]; exact matP_ints (by omega) qlits
  have hfew : Few fuel cc := ⟨by omega, by omega, fun c hc => by have := q3 c hc; omega⟩
  have hok : ∀ c ∈ cc, c.length < 1000000 ∧ ∀ y ∈ c, okInt y := fun c hc => ⟨by have := q3 c hc; omega, fun y hy => by
    obtain ⟨_, g1, g2⟩ := qlits c hc y hy
    exact ⟨by omega, by omega⟩⟩
  have his : ∀ c ∈ cc, ∀ y ∈ c, isI y (V : Int) = true := fun c hc y hy => (isI_iff (by omega) (by omega)).2 (qlits c hc y hy)
  obtain ⟨a, a1, a2⟩ := Value_run fuel (d + 2) (by omega) hf21 hfew hmat (freeze_gameC (h := h1) ex outer inner cc)
  have hVal := Values_run fuel (d + 6) (x := x4) (many := outer.length) (by omega) (by omega) h1
  obtain ⟨w, w1, w2⟩ := Wins_run fuel (d + 2) (o := valuesI x4 outer.length) (by omega) (valuesI_len _ _) (by omega) hf21 hfew hmat (freeze_gameC (h := h1) ex outer inner cc) (y := .slice (lstB (valuesI x4 outer.length))) (freeze_lst _ _ _ (closedL_map (fun _ => rfl) _))
  have s2 := s1'.push 1 2 (cs := [.int .i64 0, .slice .nil]) rfl
  obtain ⟨h2, p2, s3⟩ := s2.put (i := 1) (o := 0) (l := 2) (vs := cnfC V cc) rfl (by simp [cnfC]) (by simp [cnfC])
  have s3' : Sep0 h h2 [.own 1 h.next 0 4 (gameC ex outer inner cc), .own 1 h1.next 0 2 (cnfC V cc)] := s3
  have cG2 : h2.cellsAt 4 (.mk ⟨h.next, 0, 0⟩ 4) = some (gameC ex outer inner cc) := (s3'.sep.own (i := 0) rfl).parts (by omega) (by simp [gameC])
  have cC2 : h2.cellsAt 2 (.mk ⟨h1.next, 0, 0⟩ 2) = some (cnfC V cc) := (s3'.sep.own (i := 1) rfl).parts (by omega) (by simp [cnfC])
  obtain ⟨ob, t1, t2⟩ := Sat_run fuel (d + 1) (vars := V) (cc := cc) (by omega) hf21 (by omega) (by omega) (fun c hc => by have := q3 c hc; omega) his h2
  obtain ⟨ob', u1, u2⟩ := refSat_run fuel (d + 5) (k := V) (cc := cc) (by omega) hf21 (by omega) hok h2
  obtain rfl := firstI_unique t2 u2
  obtain ⟨a', v1, v2⟩ := refValue_run fuel (d + 3) (ex := ex) hf21 (by omega) (by omega) (by omega) hok hmat h2
  obtain ⟨w', z1, z2⟩ := refWins_run fuel (d + 4) (ex := ex) hf21 (by omega) (by omega) (by omega) hok hmat (o := valuesI x4 outer.length) (by rw [valuesI_len]; omega) (canon_lstB 7 _) h2
  have ea : a = a' := by
    by_cases hP : ∃ o : List Bool, o.length = outer.length ∧ winsP cc ex inner.length o
    · rw [a2.2 hP, v2.2 hP]
    · have g1 : a ≠ ex := fun h => hP (a2.1 h)
      have g2 : a' ≠ ex := fun h => hP (v2.1 h)
      cases a <;> cases a' <;> cases ex <;> simp_all
  have ew : w = w' := by
    cases w with
    | true => exact (z2.2 (w2.1 rfl)).symm
    | false =>
      cases w' with
      | false => rfl
      | true => have := w2.2 (z2.1 rfl); cases this
  subst ea
  subst ew
  have e0 : nilTest .iface .nilif = some true := rfl
  have hlO : (lstI outer).len = outer.length := rfl
  simp only [p1, Option.bind_some, cG, a1, isTup_tup, comp_tup, List.length_cons, List.length_nil, Nat.reduceAdd, Nat.beq_refl, cond_true, List.getElem?_cons_zero, List.getElem?_cons_succ, bool_bool, field_mk, cO, slice_slice, hlO, hVal, w1, hCNF, agg_agg]
  rw [cond_pos _ _ (show (!false && Nat.beq (List.length (cnfC V cc)) 2 && List.all (cnfC V cc) AVal.isCell) = true from rfl)]
  simp only [p2, Option.bind_some, cC2, t1, u1]
  cases ob with
  | none =>
    have hsame := sameB_run fuel (d + 6) (a := []) (b := []) (by simp) (by simp; omega) h2
    simp only [satV_none, isTup_tup, comp_tup, List.length_cons, List.length_nil, Nat.reduceAdd, Nat.beq_refl, cond_true, List.getElem?_cons_zero, List.getElem?_cons_succ, Option.bind_some, slice_slice, bool_bool, beqT, e0, cG2, v1, z1, beq_self_eq_true, hsame, decide_true]
    exact ⟨_, rfl⟩
  | some m =>
    obtain ⟨m1, m2⟩ := firstI_len t2
    have hsame := sameB_run fuel (d + 6) (a := m) (b := m) (by omega) (by omega) h2
    simp only [satV_some, isTup_tup, comp_tup, List.length_cons, List.length_nil, Nat.reduceAdd, Nat.beq_refl, cond_true, List.getElem?_cons_zero, List.getElem?_cons_succ, Option.bind_some, slice_slice, bool_bool, beqT, e0, cG2, v1, z1, beq_self_eq_true, hsame, decide_true]
    exact ⟨_, rfl⟩

end Go.Proofs.YthccobceodgmlaaDoor
