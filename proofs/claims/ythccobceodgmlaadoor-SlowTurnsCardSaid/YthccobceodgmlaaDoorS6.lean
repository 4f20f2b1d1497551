/-
  SlowTurns.
-/
import Derived.Test.YthccobceodgmlaaDoorS5
import Derived.Test.YthccobceodgmlaaDoorBm31
namespace Go.Proofs.YthccobceodgmlaaDoor
open Go.RowKit

theorem first7_run (fuel d : Nat) (hf : 2 ^ 21 ≤ fuel) (h : AHeap) : run fuel (d + 6) F_skolemlaw7_first [] h = some (.bool true, h) := by
  refine pure_of rfl rfl canonL_nil (r := .bool true) (h' := AHeap.none) ?_ rfl
  obtain ⟨r, e1, e2⟩ := Value_run fuel d (ex := false) (outer := []) (inner := []) (cc := []) (mc := []) (by simp) hf ⟨by simp, by simp; omega, fun c h => by cases h⟩ rfl (h := AHeap.none) (x := .agg [.bool false, .slice .nil, .slice .nil, .slice .nil]) rfl
  have hr : r = true := by
    cases r with
    | true => rfl
    | false =>
      obtain ⟨o', l1, l2⟩ := e2.1 rfl
      have := l2 [] rfl
      cases this
  rw [e_skolemlaw7_first, e1, hr]
  rfl

/-! The plain law. -/
theorem posV_six {v : Int} (h1 : 1 ≤ v) (h2 : v ≤ 6) : posV v [1, 2, 3, 4, 5, 6] 0 = v.toNat := by
  have : v = 1 ∨ v = 2 ∨ v = 3 ∨ v = 4 ∨ v = 5 ∨ v = 6 := by omega
  rcases this with rfl | rfl | rfl | rfl | rfl | rfl <;> rfl
def lit6 (l : Int) : Prop := l ≠ 0 ∧ -6 ≤ l ∧ l ≤ 6
theorem litP_six {l : Int} (h : lit6 l) : litP [1, 2, 3, 4, 5, 6] l = some l := by
  obtain ⟨h0, h1, h2⟩ := h
  unfold litP
  rw [varI_eq ⟨by omega, by omega⟩, posV_six (by omega) (by omega)]
  rw [if_neg (by omega)]
  congr 1
  split <;> omega
theorem mapM_same {α : Type} {f : α → Option α} : ∀ {l : List α}, (∀ a ∈ l, f a = some a) → l.mapM f = some l
  | [], _ => rfl
  | a :: l, h => by rw [List.mapM_cons, h a (List.mem_cons_self ..), mapM_same fun b hb => h b (List.mem_cons_of_mem _ hb)]; rfl
theorem matP_six {cc : List (List Int)} (h : ∀ c ∈ cc, ∀ l ∈ c, lit6 l) : matP [1, 2, 3, 4, 5, 6] cc = some cc :=
  mapM_same fun c hc => mapM_same fun l hl => litP_six (h c hc l hl)
def unitsOf (d : List Int) : List (List Int) := d.map fun l => [-l]
theorem holdsI_neg {l : Int} {m : List Bool} (h : lit6 l) (hm : m.length = 7) : holdsI (-l) m = !holdsI l m := by
  obtain ⟨h0, h1, h2⟩ := h
  unfold holdsI
  rw [varI_eq ⟨by omega, by omega⟩, varI_eq ⟨by omega, by omega⟩, Int.natAbs_neg, hm]
  rw [decide_eq_true (show (0 : Int) < (l.natAbs : Int) by omega), decide_eq_true (show (l.natAbs : Int) < ((7 : Nat) : Int) by omega)]
  have : decide (0 < -l) = !decide (0 < l) := by
    by_cases h : 0 < l
    · rw [decide_eq_true h, decide_eq_false (by omega)]; rfl
    · rw [decide_eq_false h, decide_eq_true (by omega)]; rfl
  rw [this]
  cases m.getD (l.natAbs : Int).toNat false <;> cases decide (0 < l) <;> rfl
theorem ofI_units {d : List Int} {m : List Bool} (h : ∀ l ∈ d, lit6 l) (hm : m.length = 7) : ofI (unitsOf d) m = !ofI [d] m := by
  unfold ofI unitsOf
  simp only [List.all_cons, List.all_nil, Bool.and_true, List.all_map]
  induction d with
  | nil => rfl
  | cons l d ih =>
    rw [List.all_cons, List.any_cons, ih fun x hx => h x (List.mem_cons_of_mem _ hx)]
    simp only [Function.comp, List.any_cons, List.any_nil, Bool.or_false]
    rw [holdsI_neg (h l (List.mem_cons_self ..)) hm]
    cases holdsI l m <;> cases d.any (fun l => holdsI l m) <;> rfl
theorem winsP_units {d : List Int} {ex : Bool} {k m : Nat} {o : List Bool} (h : ∀ l ∈ d, lit6 l) (hk : k + m = 6) (ho : o.length = k) : winsP (unitsOf d) (!ex) m o ↔ winsP [d] ex m o := by
  unfold winsP
  refine forall_congr' fun b => forall_congr' fun hb => ?_
  rw [ofI_units h (by simp; omega)]
  cases ofI [d] (false :: o ++ b) <;> cases ex <;> simp
/-- The variables up to f, those behind it. -/
def lowV (f : Int) (v n : Nat) : List Int := ((List.range' v n).map fun (x : Nat) => (x : Int)).filter fun x => decide (x ≤ f)
def highV (f : Int) (v n : Nat) : List Int := ((List.range' v n).map fun (x : Nat) => (x : Int)).filter fun x => !decide (x ≤ f)
theorem lowV_succ (f : Int) (v n : Nat) : lowV f v (n + 1) = if (v : Int) ≤ f then (v : Int) :: lowV f (v + 1) n else lowV f (v + 1) n := by
  unfold lowV
  rw [List.range'_succ, List.map_cons, List.filter_cons]
  simp
theorem highV_succ (f : Int) (v n : Nat) : highV f v (n + 1) = if (v : Int) ≤ f then highV f (v + 1) n else (v : Int) :: highV f (v + 1) n := by
  unfold highV
  rw [List.range'_succ, List.map_cons, List.filter_cons]
  by_cases h : (v : Int) ≤ f <;> simp [h]
theorem six_all {f : Int} (h0 : 0 ≤ f) (h1 : f ≤ 6) : lowV f 1 6 ++ highV f 1 6 = [1, 2, 3, 4, 5, 6] ∧ (lowV f 1 6).length = f.toNat ∧ (highV f 1 6).length = 6 - f.toNat := by
  have : f = 0 ∨ f = 1 ∨ f = 2 ∨ f = 3 ∨ f = 4 ∨ f = 5 ∨ f = 6 := by omega
  rcases this with rfl | rfl | rfl | rfl | rfl | rfl | rfl <;> exact ⟨rfl, rfl, rfl⟩

/-! The law's loops. -/
theorem turns0 (fuel d : Nat) {c : List Int} {x1 x3 : Int} {x2 x9 : Bool} (hc : c.length ≤ 8) : ∀ (n k : Nat) (s : Sl) (h : AHeap), c.length < n + k → k ≤ c.length → Grown h 1 s (intsC ((c.take k).map (litI · 6))) →
    ∃ s' h', l_skolemlaw7_SlowTurns_0 fuel (d + 2) n [(0, .slice (lstI c)), (1, .int .i64 x1), (2, .bool x2), (3, .int .i64 x3), (9, .bool x9), (10, .slice s), (11, .int .i64 (k : Int))] h = some (.exit 0, [(1, .int .i64 x1), (2, .bool x2), (3, .int .i64 x3), (9, .bool x9), (10, .slice s')], h') ∧
      Grown h' 1 s' (intsC (c.map (litI · 6))) := by
  intro n
  induction n with
  | zero => intro k s h h1 h2; omega
  | succ n ih =>
    intro k s h h1 h2 hg
    have hl := hg.len
    simp only [List.length_map, List.length_take, Nat.mul_one] at hl
    rw [l_skolemlaw7_SlowTurns_0_eq, len_lst]
    by_cases hk : k < c.length
    · rw [bif_pos (by omega)]
      obtain ⟨a1, a2⟩ := readI (h := h) (s := lstI c) (c := c) (cells_lstM _ _ _) (j := (k : Int)) (by omega) (by simpa using hk)
      rw [Int.toNat_natCast] at a2
      obtain ⟨s', h', e1, e2, e3⟩ := hg.snoc (bytes := 8) (vs := [.int .i64 (litI (c.getD k 0) 6)]) rfl (by omega) (by omega)
      simp only [a1, a2, Option.bind_some, int_int, Lit_run fuel d (n := c.getD k 0) (vars := 6) (by omega) (by omega), e1]
      rw [succI (by omega)]
      refine ih (k + 1) s' h' (by omega) (by omega) ?_
      rw [take_get hk 0, List.map_append]
      simpa using e2
    · have : k = c.length := by omega
      subst this
      rw [bif_neg (by omega)]
      rw [List.take_length] at hg
      exact ⟨s, h, rfl, hg⟩

theorem turns1 (fuel d : Nat) {c : List Int} {x1 x3 : Int} {x2 x9 : Bool} {s10 : Sl} {G H : Nat} {gc : List AVal} {e : Bool} (hc : c.length ≤ 8) (hr : ∀ l ∈ c, lit6 l) : ∀ (n k : Nat) (s : Sl) (h : AHeap), c.length < n + k → k ≤ c.length →
    Sep h [.grown 1 s10 (intsC c), .own 1 G 0 4 gc, .own 1 H 0 4 [.bool e, .slice .nil, .slice .nil, .slice s], .grown 1 s ((unitsOf (c.take k)).map fun c => .slice (lstI c))] →
    ∃ s' h', l_skolemlaw7_SlowTurns_1 fuel d n [(1, .int .i64 x1), (2, .bool x2), (3, .int .i64 x3), (9, .bool x9), (10, .slice s10), (12, .ptr (.mk ⟨G, 0, 0⟩ 4)), (13, .ptr (.mk ⟨H, 0, 0⟩ 4)), (14, .int .i64 (k : Int))] h = some (.exit 2, [(1, .int .i64 x1), (2, .bool x2), (3, .int .i64 x3), (9, .bool x9), (12, .ptr (.mk ⟨G, 0, 0⟩ 4)), (13, .ptr (.mk ⟨H, 0, 0⟩ 4))], h') ∧
      Sep h' [.grown 1 s10 (intsC c), .own 1 G 0 4 gc, .own 1 H 0 4 [.bool e, .slice .nil, .slice .nil, .slice s'], .grown 1 s' ((unitsOf c).map fun c => .slice (lstI c))] := by
  intro n
  induction n with
  | zero => intro k s h h1 h2; omega
  | succ n ih =>
    intro k s h h1 h2 hs
    have hl0 := hs.len (i := 0) rfl
    have hl := hs.len (i := 3) rfl
    simp only [List.length_map, unitsOf, List.length_take, Nat.mul_one] at hl hl0
    rw [l_skolemlaw7_SlowTurns_1_eq, ← hl0]
    by_cases hk : k < c.length
    · rw [bif_pos (by omega)]
      obtain ⟨a1, a2⟩ := readI (hs.grown (i := 0) rfl).cells (j := (k : Int)) (by omega) (by simpa using hk)
      rw [Int.toNat_natCast] at a2
      obtain ⟨s', h', e1, e2, e3, e4⟩ := hs.grow (i := 3) (bytes := 24) (m := 1) (vs := [.slice (.lst 1 false [.int .i64 (-c.getD k 0)])]) rfl rfl (by omega) (by omega)
      obtain ⟨h5, f1, f2, f3⟩ := e2.put (i := 2) (o := 3) (l := 4) (vs := [.slice s']) rfl (by simp) (by simp)
      have hw : IntKind.wrap .i64 (0 - c.getD k 0) = -c.getD k 0 := by
        have hm : c.getD k 0 ∈ c := by rw [List.getD_eq_getElem?_getD, List.getElem?_eq_getElem hk]; exact List.getElem_mem hk
        obtain ⟨r0, r1, r2⟩ := hr _ hm
        rw [wrap64 (by omega) (by omega)]; omega
      have b1 : h.cell (.mk ⟨H, 0, 3⟩ 4) = some (.slice s) := hs.part (i := 2) rfl (by omega) rfl
      simp only [field_mk, Nat.zero_add, b1, Option.bind_some, slice_slice, a1, a2, int_int, hw, fixL_one, fixV_lst, e1, f1]
      rw [succI (by omega)]
      refine ih (k + 1) s' h5 (by omega) (by omega) ?_
      have : (unitsOf (c.take (k + 1))).map (fun c => AVal.slice (lstI c)) = (unitsOf (c.take k)).map (fun c => AVal.slice (lstI c)) ++ [.slice (.lst 1 false [.int .i64 (-c.getD k 0)])] := by
        rw [take_get hk 0]; simp [unitsOf, lstM]
      rw [this]
      exact f2
    · have : k = c.length := by omega
      subst this
      rw [bif_neg (by omega)]
      rw [List.take_length] at hs
      exact ⟨s, h, rfl, hs⟩

theorem turns2 (fuel d : Nat) {x1 x3 : Int} {x2 x9 : Bool} {G H : Nat} {e e' : Bool} {c c' : AVal} {A B : Chunk} : ∀ (m v n : Nat) (a b : List Int) (go gi ho hi : Sl) (h : AHeap), m < n → v + m = 7 → 1 ≤ v → a.length + b.length ≤ v →
    Sep h [A, .own 1 G 0 4 [.bool e, .slice go, .slice gi, c], .own 1 H 0 4 [.bool e', .slice ho, .slice hi, c'], B, .grown 1 go (intsC a), .grown 1 gi (intsC b), .grown 1 ho (intsC a), .grown 1 hi (intsC b)] →
    ∃ go gi ho hi h', l_skolemlaw7_SlowTurns_2 fuel d n [(1, .int .i64 x1), (2, .bool x2), (3, .int .i64 x3), (9, .bool x9), (12, .ptr (.mk ⟨G, 0, 0⟩ 4)), (13, .ptr (.mk ⟨H, 0, 0⟩ 4)), (15, .int .i64 (v : Int))] h = some (.exit 4, [(1, .int .i64 x1), (2, .bool x2), (3, .int .i64 x3), (9, .bool x9), (12, .ptr (.mk ⟨G, 0, 0⟩ 4)), (13, .ptr (.mk ⟨H, 0, 0⟩ 4))], h') ∧
      Sep h' [A, .own 1 G 0 4 [.bool e, .slice go, .slice gi, c], .own 1 H 0 4 [.bool e', .slice ho, .slice hi, c'], B, .grown 1 go (intsC (a ++ lowV x1 v m)), .grown 1 gi (intsC (b ++ highV x1 v m)), .grown 1 ho (intsC (a ++ lowV x1 v m)), .grown 1 hi (intsC (b ++ highV x1 v m))] := by
  intro m
  induction m with
  | zero =>
    intro v n a b go gi ho hi h h1 h2 h3 h4 hs
    obtain ⟨n, rfl⟩ : ∃ n', n = n' + 1 := ⟨n - 1, by omega⟩
    rw [l_skolemlaw7_SlowTurns_2_eq, bif_neg (by omega)]
    refine ⟨go, gi, ho, hi, h, rfl, ?_⟩
    simpa [lowV, highV] using hs
  | succ m ih =>
    intro v n a b go gi ho hi h h1 h2 h3 h4 hs
    obtain ⟨n, rfl⟩ : ∃ n', n = n' + 1 := ⟨n - 1, by omega⟩
    rw [l_skolemlaw7_SlowTurns_2_eq, bif_pos (by omega)]
    have l4 := hs.len (i := 4) rfl
    have l5 := hs.len (i := 5) rfl
    have l6 := hs.len (i := 6) rfl
    have l7 := hs.len (i := 7) rfl
    simp only [List.length_map, Nat.mul_one] at l4 l5 l6 l7
    rw [lowV_succ, highV_succ]
    by_cases hv : (v : Int) ≤ x1
    · rw [bif_pos hv, if_pos hv, if_pos hv]
      obtain ⟨s1, h5, e1, e2, e3, _⟩ := hs.grow (i := 4) (bytes := 8) (m := 1) (vs := [.int .i64 (v : Int)]) rfl rfl (by omega) (by omega)
      obtain ⟨h6, f1, f2, _⟩ := e2.put (i := 1) (o := 1) (l := 4) (vs := [.slice s1]) rfl (by simp) (by simp)
      obtain ⟨s2, h7, g1, g2, g3, _⟩ := f2.grow (i := 6) (s := ho) (cs := intsC a) (bytes := 8) (m := 1) (vs := [.int .i64 (v : Int)]) rfl rfl (by omega) (by omega)
      obtain ⟨h8, k1, k2, _⟩ := g2.put (i := 2) (sz := 1) (id := H) (gen := 0) (n := 4) (cs := [.bool e', .slice ho, .slice hi, c']) (o := 1) (l := 4) (vs := [.slice s2]) rfl (by simp) (by simp)
      have b1 : h.cell (.mk ⟨G, 0, 1⟩ 4) = some (.slice go) := hs.part (i := 1) rfl (by omega) rfl
      have b2 : h6.cell (.mk ⟨H, 0, 1⟩ 4) = some (.slice ho) := f2.part (i := 2) (cs := [.bool e', .slice ho, .slice hi, c']) rfl (by omega) rfl
      simp only [field_mk, Nat.zero_add, b1, Option.bind_some, slice_slice, e1, f1, b2, g1, k1]
      rw [succI (by omega)]
      have hs' : Sep h8 [A, .own 1 G 0 4 [.bool e, .slice s1, .slice gi, c], .own 1 H 0 4 [.bool e', .slice s2, .slice hi, c'], B, .grown 1 s1 (intsC (a ++ [(v : Int)])), .grown 1 gi (intsC b), .grown 1 s2 (intsC (a ++ [(v : Int)])), .grown 1 hi (intsC b)] := by
        simp only [List.map_append]
        exact k2
      have := ih (v + 1) n (a ++ [(v : Int)]) b s1 gi s2 hi h8 (by omega) (by omega) (by omega) (by simp; omega) hs'
      simpa using this
    · rw [bif_neg hv, if_neg hv, if_neg hv]
      obtain ⟨s1, h5, e1, e2, e3, _⟩ := hs.grow (i := 5) (bytes := 8) (m := 1) (vs := [.int .i64 (v : Int)]) rfl rfl (by omega) (by omega)
      obtain ⟨h6, f1, f2, _⟩ := e2.put (i := 1) (o := 2) (l := 4) (vs := [.slice s1]) rfl (by simp) (by simp)
      obtain ⟨s2, h7, g1, g2, g3, _⟩ := f2.grow (i := 7) (s := hi) (cs := intsC b) (bytes := 8) (m := 1) (vs := [.int .i64 (v : Int)]) rfl rfl (by omega) (by omega)
      obtain ⟨h8, k1, k2, _⟩ := g2.put (i := 2) (sz := 1) (id := H) (gen := 0) (n := 4) (cs := [.bool e', .slice ho, .slice hi, c']) (o := 2) (l := 4) (vs := [.slice s2]) rfl (by simp) (by simp)
      have b1 : h.cell (.mk ⟨G, 0, 2⟩ 4) = some (.slice gi) := hs.part (i := 1) rfl (by omega) rfl
      have b2 : h6.cell (.mk ⟨H, 0, 2⟩ 4) = some (.slice hi) := f2.part (i := 2) (cs := [.bool e', .slice ho, .slice hi, c']) rfl (by omega) rfl
      simp only [field_mk, Nat.zero_add, b1, Option.bind_some, slice_slice, e1, f1, b2, g1, k1]
      rw [succI (by omega)]
      have hs' : Sep h8 [A, .own 1 G 0 4 [.bool e, .slice go, .slice s1, c], .own 1 H 0 4 [.bool e', .slice ho, .slice s2, c'], B, .grown 1 go (intsC a), .grown 1 s1 (intsC (b ++ [(v : Int)])), .grown 1 ho (intsC a), .grown 1 s2 (intsC (b ++ [(v : Int)]))] := by
        simp only [List.map_append]
        exact k2
      have := ih (v + 1) n a (b ++ [(v : Int)]) go s1 ho s2 h8 (by omega) (by omega) (by omega) (by simp; omega) hs'
      simpa using this

theorem modI_range (x : Int) {b : Int} (hb : 0 < b) (hb2 : b ≤ 1000000000) : 0 ≤ Int.tmod (IntKind.wrap .i64 (Int.tmod x b + b)) b ∧ Int.tmod (IntKind.wrap .i64 (Int.tmod x b + b)) b < b := by
  have h1 := Int.tmod_lt_of_pos x hb
  have h3 := Int.tmod_lt_of_pos (-x) hb
  rw [Int.neg_tmod] at h3
  rw [wrap64 (by omega) (by omega), Int.tmod_eq_emod_of_nonneg (by omega)]
  exact ⟨Int.emod_nonneg _ (by omega), Int.emod_lt_of_pos _ hb⟩

theorem freeze_game {h : AHeap} {ex : Bool} {go gi : Sl} {a b : List Int} {c : AVal} {cc : List (List Int)} (ha : Grown h 1 go (intsC a)) (hb : Grown h 1 gi (intsC b)) (hc : freezeV h 7 c = some (.slice (lstLL cc))) :
    freezeV h 8 (.agg [.bool ex, .slice go, .slice gi, c]) = some (.agg (gameC ex a b cc)) := by
  have la := ha.len
  have lb := hb.len
  simp only [List.length_map, Nat.mul_one] at la lb
  refine freeze_agg 7 (mm4 rfl ?_ ?_ hc)
  · rw [ha.freeze (n := 6) (by omega) (freeze_intsC 5 a), ← la]
  · rw [hb.freeze (n := 6) (by omega) (freeze_intsC 5 b), ← lb]

theorem slowTurns_run (fuel d : Nat) (hf : 2 ^ 21 ≤ fuel) (c : List Int) (x1 x3 : Int) (x2 : Bool) (h : AHeap) :
    ∃ h', run fuel (d + 7) F_skolemlaw7_SlowTurns [.slice (lstI c), .int .i64 x1, .bool x2, .int .i64 x3] h = some (.bool true, h') := by
  have hp : (2 : Nat) ^ 21 = 2097152 := rfl
  rw [e_skolemlaw7_SlowTurns, first7_run fuel d hf]
  rw [hp] at hf
  simp only [Option.bind_some, bool_bool, Bool.not_true, cond_false]
  cases hc : (bif decide ((8 : Int) < (((lstI c).len : Nat) : Int)) then true else decide ((((lstI c).len : Nat) : Int) = 0)) with
  | true => exact ⟨h, rfl⟩
  | false =>
    rw [len_lst] at hc
    have hc8 : c.length ≤ 8 := by
      by_cases h8 : (8 : Int) < (c.length : Int)
      · rw [decide_eq_true h8] at hc; cases hc
      · omega
    have hc0 : c.length ≠ 0 := by
      intro h0
      rw [bif_neg (by omega), h0] at hc
      cases hc
    rw [cond_false]
    obtain ⟨f0, f1⟩ := modI_range x1 (b := 7) (by omega) (by omega)
    generalize Int.tmod (IntKind.wrap .i64 (Int.tmod x1 7 + 7)) 7 = f at f0 f1
    obtain ⟨s10, h1, e1, g1⟩ := turns0 fuel (d + 4) (c := c) (x1 := f) (x3 := x3) (x2 := x2) (x9 := true) hc8 fuel 0 .nil h (by omega) (by omega) .nil
    rw [show ((0 : Nat) : Int) = 0 from rfl] at e1
    rw [e1]
    simp only [Option.bind_some, k_skolemlaw7_SlowTurns_0_x0]
    have hr : ∀ l ∈ c.map (litI · 6), lit6 l := fun l hl => by
      obtain ⟨x, _, rfl⟩ := List.mem_map.1 hl
      exact litI_range (by omega) (by omega)
    have hdl : (c.map (litI · 6)).length = c.length := by simp
    generalize c.map (litI · 6) = dd at g1 hr hdl
    have s1 := (Sep.one (h := h1) (c := .grown 1 s10 (intsC dd)) g1).push 1 4 (cs := [.bool false, .slice .nil, .slice .nil, .slice .nil]) rfl
    obtain ⟨h2, p1, q1, _⟩ := s1.put (i := 1) (o := 0) (l := 4) (vs := [.bool x2, .slice .nil, .slice .nil, .slice (.lst 1 true [.slice s10])]) rfl (by simp) (by simp)
    have s2 := q1.push 1 4 (cs := [.bool false, .slice .nil, .slice .nil, .slice .nil]) rfl
    obtain ⟨h3, p2, q2, _⟩ := s2.put (i := 2) (o := 0) (l := 4) (vs := [.bool (!x2), .slice .nil, .slice .nil, .slice .nil]) rfl (by simp) (by simp)
    have s3 := q2.addNil 1
    obtain ⟨sc, h4, e2, q3⟩ := turns1 fuel (d + 6) (c := dd) (x1 := f) (x3 := x3) (x2 := x2) (x9 := true) (s10 := s10) (G := AHeap.next h1) (H := AHeap.next h2) (gc := [.bool x2, .slice .nil, .slice .nil, .slice (.lst 1 true [.slice s10])]) (e := !x2) (by omega) hr fuel 0 .nil h3 (by omega) (by omega) s3
    rw [show ((0 : Nat) : Int) = 0 from rfl] at e2
    simp only [p1, Option.bind_some, p2, e2, k_skolemlaw7_SlowTurns_1_x2]
    have s4 := (((q3.addNil 1).addNil 1).addNil 1).addNil 1
    obtain ⟨go, gi, ho, hi, h5, e3, q4⟩ := turns2 fuel (d + 6) (x1 := f) (x3 := x3) (x2 := x2) (x9 := true) (G := AHeap.next h1) (H := AHeap.next h2) (e := x2) (e' := !x2) (c := .slice (.lst 1 true [.slice s10])) (c' := .slice sc) 6 1 fuel [] [] .nil .nil .nil .nil h4 (by omega) (by omega) (by omega) (by simp) s4
    rw [show ((1 : Nat) : Int) = 1 from rfl] at e3
    simp only [e3, Option.bind_some, k_skolemlaw7_SlowTurns_2_x4]
    simp only [List.nil_append] at q4
    obtain ⟨v1, v2, v3⟩ := six_all f0 (by omega)
    generalize lowV f 1 6 = outer at q4 v1 v2
    generalize highV f 1 6 = inner at q4 v1 v3
    have cG : h5.cellsAt 4 (.mk ⟨AHeap.next h1, 0, 0⟩ 4) = some [.bool x2, .slice go, .slice gi, .slice (.lst 1 true [.slice s10])] := (q4.own (i := 1) rfl).parts (by omega) (by simp)
    have cH : h5.cellsAt 4 (.mk ⟨AHeap.next h2, 0, 0⟩ 4) = some [.bool (!x2), .slice ho, .slice hi, .slice sc] := (q4.own (i := 2) rfl).parts (by omega) (by simp)
    have ld := (q4.len (i := 0) rfl)
    have lc := (q4.len (i := 3) rfl)
    simp only [List.length_map, unitsOf, Nat.mul_one] at ld lc
    have vG : freezeV h5 8 (.agg [.bool x2, .slice go, .slice gi, .slice (.lst 1 true [.slice s10])]) = some (.agg (gameC x2 outer inner [dd])) := by
      refine freeze_game (q4.grown (i := 4) rfl) (q4.grown (i := 5) rfl) ?_
      refine freeze_open 6 1 true (by
        have hh := Grown.isOpen (q4.grown (i := 0) rfl) (by intro h0; rw [List.map_eq_nil_iff] at h0; rw [h0] at hdl; exact hc0 hdl.symm)
        simp [closedL, hh]) (us := [.slice (lstI dd)]) (mm1 ?_)
      rw [(q4.grown (i := 0) rfl).freeze (n := 5) (by omega) (freeze_intsC 4 dd), ← ld]
    have vH : freezeV h5 8 (.agg [.bool (!x2), .slice ho, .slice hi, .slice sc]) = some (.agg (gameC (!x2) outer inner (unitsOf dd))) := by
      refine freeze_game (q4.grown (i := 6) rfl) (q4.grown (i := 7) rfl) ?_
      rw [(q4.grown (i := 3) rfl).freeze (n := 6) (by omega) (mapM_freeze (g := fun c => .slice (lstI c)) (fun c => freeze_lstI 5 c) _), ← lc]
      simp [unitsOf, lstM]
    have hcat : (outer ++ inner).length = 6 := by rw [v1]; rfl
    rw [List.length_append] at hcat
    have hf21 : 2 ^ 21 ≤ fuel := by rw [hp]; exact hf
    clear hp
    have hlu : ∀ c ∈ unitsOf dd, ∀ l ∈ c, lit6 l := fun c hc l hl => by
      obtain ⟨x, hx, rfl⟩ := List.mem_map.1 hc
      have := hr x hx
      rw [List.mem_singleton.1 hl]
      obtain ⟨r0, r1, r2⟩ := this
      exact ⟨by omega, by omega, by omega⟩
    have fG : Few fuel [dd] := ⟨by simp, by simp; omega, fun c h => by rw [List.mem_singleton.1 h]; omega⟩
    have fH : Few fuel (unitsOf dd) := ⟨by simp [unitsOf]; omega, by simp [unitsOf]; omega, fun c hc => by
      obtain ⟨x, hx, rfl⟩ := List.mem_map.1 hc
      simp; omega⟩
    obtain ⟨a, a1, a2⟩ := Value_run fuel (d + 1) (by omega) hf21 fG (by rw [v1]; exact matP_six fun c h l hl => by rw [List.mem_singleton.1 h] at hl; exact hr l hl) vG
    obtain ⟨b, b1, b2⟩ := Value_run fuel (d + 1) (by omega) hf21 fH (by rw [v1]; exact matP_six hlu) vH
    have hfN : f = (f.toNat : Int) := (Int.toNat_of_nonneg f0).symm
    have hV := Values_run fuel (d + 5) (x := x3) (many := f.toNat) (by omega) (by omega) h5
    rw [← hfN] at hV
    obtain ⟨w, w1, w2⟩ := Wins_run fuel (d + 1) (o := valuesI x3 f.toNat) (by omega) (by rw [valuesI_len, v2]) (by omega) hf21 fG (by rw [v1]; exact matP_six fun c h l hl => by rw [List.mem_singleton.1 h] at hl; exact hr l hl) vG (y := .slice (lstB (valuesI x3 f.toNat))) (freeze_lst _ _ _ (closedL_map (fun _ => rfl) _))
    simp only [cG, Option.bind_some, a1, isTup_tup, comp_tup, List.length_cons, List.length_nil, Nat.reduceAdd, Nat.beq_refl, cond_true, List.getElem?_cons_zero, List.getElem?_cons_succ, bool_bool, cH, b1, hV, slice_slice, same_self, w1]
    have hP : ∀ o, o.length = outer.length → (winsP (unitsOf dd) (!x2) inner.length o ↔ winsP [dd] x2 inner.length o) := fun o ho => winsP_units hr hcat ho
    have ab : (!(a == b)) = true := by
      by_cases hh : ∃ o' : List Bool, o'.length = outer.length ∧ winsP [dd] x2 inner.length o'
      · have e1 := a2.2 hh
        have e2 := b2.2 (hh.imp fun o ⟨l1, l2⟩ => ⟨l1, (hP o l1).2 l2⟩)
        rw [e1, e2]; cases x2 <;> rfl
      · have e1 : a ≠ x2 := fun h => hh (a2.1 h)
        have e2 : b ≠ !x2 := fun h => hh ((b2.1 h).imp fun o ⟨l1, l2⟩ => ⟨l1, (hP o l1).1 l2⟩)
        revert e1 e2; cases a <;> cases b <;> cases x2 <;> decide
    have wa : (bif !w then true else (a == x2)) = true := by
      cases w with
      | false => rfl
      | true =>
        have := a2.2 ⟨_, by rw [valuesI_len, v2], w2.1 rfl⟩
        rw [this]; cases x2 <;> rfl
    refine ⟨h5, ?_⟩
    rw [ab]
    simp only [(show nilTest .iface .nilif = some true from rfl), beq_self_eq_true, cond_true, Option.bind_some, bool_bool, wa]

end Go.Proofs.YthccobceodgmlaaDoor
