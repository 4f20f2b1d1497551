/-
 Parts of the proof of RupSays: skolemmake.Near. skolemref.SameInts. The document's small functions on numbers: skolemref.SameInts, Has, Ints. skolemref.Ints: a slice of its own. skolemref1.Norm, SameClause: what lits.Norm, lits.Same are, for numbers that are not too near to the least. The document's values of variables (skolemref1.Assign): NewAssign, Value, Set, Clause, Known. Maps from numbers to slices that grow. The search as a function (the queue of chapter 21), and that it answers right. No program in sight. The document's search (round by round), and that it answers right. No program in sight. A base of clauses that are added and dropped: places by literal. No program in sight. lits.Norm in the heap: nothing of what was there is changed. slices.IndexFunc, ContainsFunc of whatever slice, with a function that has a row of the heap. rup: a base of clauses in the heap; right; what the search sets and looks at. rup: what the search looks at; its loops; closure. What is there still, behind calls. rup: the queue; closure, Implied. rup: Implied; a base that is made and added to. rup: Add, New, Len, Closure. Clauses and CNFs as cells. rup: New, Len, Closure. The document's values: Clause, Known; its search (skolemref20.Closure).
-/
import Derived.Test.YtdmbfmgebgdfnaaDoorTRupSays1
import Derived.Test.YtdmbfmgebgdfnaaDoorE2
import Derived.Test.YtdmbfmgebgdfnaaDoorBm31
import Derived.Test.YtdmbfmgebgdfnaaDoorBm34
namespace Go.Proofs.YtdmbfmgebgdfnaaDoor
open Go.RowKit
def zAm (a : List Int) : Bool := a.all fun x => !decide (x < -1152921504606846976)
theorem zzs (fuel d : Nat) {a : List Int} (hn : a.length < 9000000000000000000) {h : AH} : ∀ (n k : Nat), a.length < n + k → k ≤ a.length →
   (zdS fuel d n [(0, .slice (lstI a)), (3, .int .i64 (k : Int))] h).bind (fun p => zdg fuel d p.1 p.2.1 p.2.2) = some (.bool (zAm (a.drop k)), h) := by
 intro n
 induction n with
 | zero => intro k h1 h2; omega
 | succ n ih =>
   intro k h1 h2
   rw [zpu, zeW]
   by_cases hk : k < a.length
   · rw [zan (by omega), zcC _ (by omega) (by omega) 0]
     simp only [o_bd, zeG, zam, Int.toNat_natCast]
     have hd : a.drop k = a.getD k 0 :: a.drop (k + 1) := by rw [List.drop_eq_getElem_cons hk]; simp [List.getD, hk]
     rw [hd]
     unfold zAm
     rw [List.all_cons]
     by_cases he : a.getD k 0 < -1152921504606846976
     · rw [zan he, decide_eq_true he]
       simp only [o_bd, zp0, Bool.not_true, Bool.false_and]
     · rw [zah he, zlr (by omega), ih (k + 1) (by omega) (by omega), decide_eq_false he, Bool.not_false, Bool.true_and]
       rfl
   · have : k = a.length := by omega
     subst this
     rw [zah (by omega)]
     simp only [o_bd, zpz, List.drop_length]
     rfl
theorem zvx (fuel d : Nat) {a : List Int} {s : Sl} {h : AH} (hs : zap h 8 (.slice s) = some (.slice (lstI a))) (hn : a.length < 9000000000000000000) (hf : a.length < fuel) :
   run fuel (d + 1) zcB [.slice s] h = some (.bool (zAm a), h) := by
 refine zpl rfl rfl (mm1 hs) (r := .bool (zAm a)) (h' := AH.none) ?_ rfl rfl
 rw [zr7]
 have := zzs fuel d hn (h := AH.none) fuel 0 (by omega) (by omega)
 rw [List.drop_zero] at this
 exact this
theorem zAl {a : List Int} (h : zAm a = true) (hw : ∀ x ∈ a, x ≤ 9223372036854775807) : ∀ x ∈ a, zqa x := fun x hx => by
 have := List.all_eq_true.1 h x hx
 simp at this
 exact ⟨by omega, hw x hx⟩
end Go.Proofs.YtdmbfmgebgdfnaaDoor
namespace Go.Proofs.YtdmbfmgebgdfnaaDoor
open Go.RowKit
theorem sucS {m : Nat} (h : m < 9000000000000000000) : IntKind.wrap .i64 ((m : Int) + 1) = ((m + 1 : Nat) : Int) := by rw [zeo (by omega) (by omega)]; omega
theorem zxO (fuel d : Nat) {a b : List Int} (hl : a.length = b.length) (hn : a.length < 1000000000) {h : AH} : ∀ (n k : Nat), a.length < n + k → k ≤ a.length → a.take k = b.take k →
   (zcL fuel d n [(0, .slice (lstI a)), (1, .slice (lstI b)), (5, .int .i64 (k : Int))] h).bind (fun p => zco fuel d p.1 p.2.1 p.2.2) = some (.bool (decide (a = b)), h) := by
 intro n
 induction n with
 | zero => intro k h1 h2; omega
 | succ n ih =>
   intro k h1 h2 h3
   rw [zn7, zeW]
   by_cases hk : k < a.length
   · rw [zan (by omega), zcC _ (by omega) (by omega) 0, zcC _ (by omega) (by omega) 0]
     simp only [o_bd, zeG, zam, Int.toNat_natCast]
     by_cases he : a.getD k 0 = b.getD k 0
     · rw [zng he, sucS (by omega), ih (k + 1) (by omega) (by omega) (by rw [zia hk 0, zia (by omega) 0, h3, he])]
     · rw [zn2 he]
       simp only [o_bd, zoy]
       rw [decide_eq_false (fun h => he (by rw [h]))]
   · have : k = a.length := by omega
     subst this
     rw [zah (by omega)]
     have : a = b := by rw [List.take_length, hl, List.take_length] at h3; exact h3
     simp only [o_bd, zoc]
     rw [decide_eq_true this]
theorem zwh (fuel d : Nat) {a b : List Int} {s t : Sl} {h : AH} (hs : zap h 8 (.slice s) = some (.slice (lstI a))) (ht : zap h 8 (.slice t) = some (.slice (lstI b))) (hn : a.length < 1000000000) (hf : a.length < fuel) :
   run fuel (d + 1) zdv [.slice s, .slice t] h = some (.bool (decide (a = b)), h) := by
 refine zpl rfl rfl (mm2 hs ht) (r := .bool (decide (a = b))) (h' := AH.none) ?_ rfl rfl
 rw [zqy, zeW, zeW]
 by_cases hl : a.length = b.length
 · rw [zng (by omega)]
   have := zxO fuel d hl hn (h := AH.none) fuel 0 (by omega) (by omega) rfl
   exact this
 · rw [zn2 (by omega), decide_eq_false (fun h => hl (by rw [h]))]
end Go.Proofs.YtdmbfmgebgdfnaaDoor
namespace Go.Proofs.YtdmbfmgebgdfnaaDoor
open Go.RowKit
theorem has_loop (fuel d : Nat) {a : List Int} (x : Int) (hn : a.length < 1000000000) {h : AH} : ∀ (n k : Nat), a.length < n + k → k ≤ a.length →
   (zd5 fuel d n [(0, .slice (lstI a)), (1, .int .i64 x), (5, .int .i64 (k : Int))] h).bind (fun p => zdo fuel d p.1 p.2.1 p.2.2) = some (.bool (decide (x ∈ a.drop k)), h) := by
 intro n
 induction n with
 | zero => intro k h1 h2; omega
 | succ n ih =>
   intro k h1 h2
   rw [zmT, zeW]
   by_cases hk : k < a.length
   · rw [zan (by omega), zcC _ (by omega) (by omega) 0]
     simp only [o_bd, zeG, zam, Int.toNat_natCast]
     have hd : a.drop k = a.getD k 0 :: a.drop (k + 1) := by rw [List.drop_eq_getElem_cons hk]; simp [List.getD, hk]
     rw [hd]
     by_cases he : a.getD k 0 = x
     · rw [zan he]
       simp only [o_bd, znx]
       rw [decide_eq_true (by rw [he]; exact List.mem_cons_self ..)]
     · rw [zah he, zlr (by omega), ih (k + 1) (by omega) (by omega)]
       have : (x ∈ a.drop (k + 1)) ↔ x ∈ a.getD k 0 :: a.drop (k + 1) := by
         rw [List.mem_cons]; constructor
         · exact .inr
         · rintro (h | h)
           · exact absurd h.symm he
           · exact h
       rw [decide_eq_decide.2 this]
   · have : k = a.length := by omega
     subst this
     rw [zah (by omega)]
     simp only [o_bd, zm2]
     rw [decide_eq_false (by simp)]
theorem has_run (fuel d : Nat) {a : List Int} {s : Sl} {h : AH} (hs : zap h 8 (.slice s) = some (.slice (lstI a))) (x : Int) (hn : a.length < 1000000000) (hf : a.length < fuel) :
   run fuel (d + 1) zdM [.slice s, .int .i64 x] h = some (.bool (decide (x ∈ a)), h) := by
 refine zpl rfl rfl (mm2 hs rfl) (r := .bool (decide (x ∈ a))) (h' := AH.none) ?_ rfl rfl
 rw [zqh]
 have := has_loop fuel d x hn (h := AH.none) fuel 0 (by omega) (by omega)
 rw [List.drop_zero] at this
 exact this
end Go.Proofs.YtdmbfmgebgdfnaaDoor
namespace Go.Proofs.YtdmbfmgebgdfnaaDoor
open Go.RowKit
theorem zsz {h h' : AH} (hk : zcs h h' fun _ => False) {s : Sl} {sz : Nat} {cs : List AV} (hs : h.sliceCells sz s = some cs) : h'.sliceCells sz s = some cs := zp8 hk hs fun _ _ _ h => h
theorem zyh (fuel d : Nat) {a : List Int} {t : Sl} (hn : a.length < 1000000000) (ht : t.len = a.length) {h0 : AH} (hs0 : h0.sliceCells 1 t = some (zaS a)) : ∀ (n k : Nat) (s : Sl) (h : AH), a.length < n + k → k ≤ a.length → Sep0 h0 h [.grown 1 s (zaS (a.take k))] →
   ∃ s' h', zeB fuel d n [(0, .slice t), (3, .slice s), (4, .int .i64 (k : Int))] h = some (.exit 0, [(3, .slice s')], h') ∧ Sep0 h0 h' [.grown 1 s' (zaS a)] := by
 intro n
 induction n with
 | zero => intro k s h h1 h2; omega
 | succ n ih =>
   intro k s h h1 h2 hg
   have hl := hg.len (i := 0) rfl
   simp only [List.length_map, List.length_take, Nat.mul_one] at hl
   rw [zpY, ht]
   by_cases hk : k < a.length
   · have hr := zDd (zsz hg.ext hs0) (j := (k : Int)) (by omega) (by omega)
     rw [zan (by omega), hr.1, o_bd, hr.2]
     simp only [o_bd, zam, Int.toNat_natCast]
     obtain ⟨s', h', e1, e2, e3⟩ := hg.grow (i := 0) (bytes := 8) (m := 1) (vs := [.int .i64 (a.getD k 0)]) rfl rfl (by omega) (by omega)
     rw [e1]
     simp only [o_bd]
     rw [zlr (by omega)]
     refine ih (k + 1) s' h' (by omega) (by omega) ?_
     rw [zia hk 0]
     simpa using e2
   · have : k = a.length := by omega
     subst this
     rw [zah (by omega)]
     rw [List.take_length] at hg
     exact ⟨s, h, rfl, hg⟩
theorem zue (fuel d : Nat) {a : List Int} {t : Sl} {h : AH} (hs : h.sliceCells 1 t = some (zaS a)) (hn : a.length < 1000000000) (hf : a.length < fuel) :
   ∃ s' h', run fuel (d + 1) zeS [.slice t] h = some (.slice s', h') ∧ New h h' (.grown 1 s' (zaS a)) := by
 have ht : t.len = a.length := by have := za7 hs; simp at this; omega
 have s0 := (Sep0.start h).addMake 1 (eqI (0 : Int) ((a.length : Nat) : Int))
 obtain ⟨s', h', e1, e2⟩ := zyh fuel d hn ht hs fuel 0 _ _ (by omega) (by omega) s0
 refine ⟨s', h', ?_, e2.get (i := 0) rfl⟩
 rw [zs5, ht, zta _ _ (zBe (by omega) (by omega) (by omega))]
 rw [show ((0 : Nat) : Int) = 0 from rfl] at e1
 rw [e1]
 simp only [o_bd, zpZ]
end Go.Proofs.YtdmbfmgebgdfnaaDoor
namespace Go.Proofs.YtdmbfmgebgdfnaaDoor
open Go.RowKit
theorem zy9 (fuel d : Nat) {x : Int} (hx : zqa x) (h : AH) : run fuel (d + 1) zjK [.int .i64 x] h = some (.int .i64 (varI x), h) := by
 refine zft rfl rfl (cc1 rfl) (r := .int .i64 (varI x)) (h' := AH.none) ?_ rfl
 rw [ztr, zv8 hx]
 obtain ⟨h1, h2⟩ := hx
 by_cases h0 : x < 0
 · rw [zan h0, zeo (by omega) (by omega)]
   congr 3; omega
 · rw [zah h0]
   congr 3; omega
theorem zyO (fuel d : Nat) {x y : Int} (hx : zqa x) (hy : zqa y) (h : AH) : run fuel (d + 2) zkN [.int .i64 x, .int .i64 y] h = some (.bool (ltL x y), h) := by
 refine zft rfl rfl (cc2 rfl rfl) (r := .bool (ltL x y)) (h' := AH.none) ?_ rfl
 rw [zq7, zy9 fuel d hx]
 simp only [o_bd, zam, zy9 fuel d hy]
 unfold ltL
 by_cases h1 : varI x < varI y
 · rw [decide_eq_true h1]
   rfl
 · rw [decide_eq_false h1]
   simp only [beq_self_eq_true, cond_true, o_bd, zaf, Bool.false_or]
   cases decide (varI x = varI y) <;> rfl
def posL (x : Int) : List Int → Nat
 | [] => 0
 | y :: l => if ltL y x = true then posL x l + 1 else 0
theorem zAh (x : Int) : ∀ l : List Int, posL x l ≤ l.length
 | [] => Nat.le_refl _
 | y :: l => by
   have := zAh x l
   unfold posL
   split
   · simp only [List.length_cons]; omega
   · omega
theorem zAr {x : Int} : ∀ {l : List Int}, x ∉ l → insO x l = l.take (posL x l) ++ [x] ++ l.drop (posL x l)
 | [], _ => rfl
 | y :: l, h => by
   have hne : x ≠ y := fun e => h (by rw [e]; exact List.mem_cons_self ..)
   have ih := zAr (l := l) fun hm => h (List.mem_cons_of_mem _ hm)
   unfold insO posL
   rw [if_neg hne]
   by_cases h1 : ltL x y = true
   · rw [if_pos h1, if_neg (by rw [zx9 h1]; simp)]
     rfl
   · have h2 : ltL y x = true := by
       cases hc : ltL y x with
       | true => rfl
       | false => exact absurd (zws (by simpa using h1) hc) hne
     rw [if_neg h1, if_pos h2, ih]
     rfl
def zAk (l : List Int) : Prop := ∀ x ∈ l, ∀ y ∈ l, varI x = varI y → x = y
theorem zsB : ∀ {l : List Int}, zni l → (zwg l = true ↔ l.Pairwise fun a b => varI a < varI b)
 | [], _ => by simp [zwg]
 | [a], _ => by simp [zwg]
 | a :: b :: r, hs => by
   have hs' := List.pairwise_cons.1 hs
   have ih := zsB hs'.2
   simp only [zwg, Bool.and_eq_true, Bool.not_eq_true', decide_eq_false_iff_not]
   rw [ih]
   constructor
   · rintro ⟨h1, h2⟩
     have h2' := List.pairwise_cons.1 h2
     have hab : varI a < varI b := by
       have := zuY.1 (hs'.1 b (List.mem_cons_self ..))
       omega
     refine List.pairwise_cons.2 ⟨fun c hc => ?_, h2⟩
     rcases List.mem_cons.1 hc with rfl | hc
     · exact hab
     · have := h2'.1 c hc; omega
   · intro h
     have h' := List.pairwise_cons.1 h
     have := h'.1 b (List.mem_cons_self ..)
     exact ⟨by omega, h'.2⟩
theorem zxM {l : List Int} (hs : zni l) : zwg l = true ↔ zAk l := by
 rw [zsB hs]
 constructor
 · intro h x hx y hy e
   obtain ⟨i, hi, rfl⟩ := List.mem_iff_getElem.1 hx
   obtain ⟨j, hj, rfl⟩ := List.mem_iff_getElem.1 hy
   rcases Nat.lt_trichotomy i j with hlt | he | hlt
   · have := List.pairwise_iff_getElem.1 h i j hi hj hlt; omega
   · subst he; rfl
   · have := List.pairwise_iff_getElem.1 h j i hj hi hlt; omega
 · intro h
   refine List.pairwise_iff_getElem.2 fun i j hi hj hij => ?_
   have h1 := zuY.1 (List.pairwise_iff_getElem.1 hs i j hi hj hij)
   rcases h1 with h1 | ⟨h1, h2⟩
   · exact h1
   · have := h _ (List.getElem_mem hi) _ (List.getElem_mem hj) h1; omega
theorem zxd {a b : List Int} (h : ∀ x, x ∈ a ↔ x ∈ b) : zAk a ↔ zAk b := by
 unfold zAk
 constructor
 · intro ha x hx y hy; exact ha x ((h x).2 hx) y ((h y).2 hy)
 · intro ha x hx y hy; exact ha x ((h x).1 hx) y ((h y).1 hy)
theorem zt6 {x y : Int} (hx : zqa x) (hy : zqa y) : varI x = varI y ↔ x = y ∨ y = -x := by
 rw [zv8 hx, zv8 hy]; omega
theorem zx4 {l : List Int} {x : Int} (hok : ∀ y ∈ l, zqa y) (hx : zqa x) (hn : x ∉ l) : zAk (l ++ [x]) ↔ zAk l ∧ -x ∉ l := by
 constructor
 · intro h
   refine ⟨fun a ha b hb e => h a (List.mem_append_left _ ha) b (List.mem_append_left _ hb) e, fun hm => ?_⟩
   have e := h x (by simp) (-x) (List.mem_append_left _ hm) ((zt6 hx (hok _ hm)).2 (.inr rfl))
   rw [e] at hn
   exact hn hm
 · rintro ⟨h1, h2⟩ a ha b hb e
   rcases List.mem_append.1 ha with ha1 | ha1 <;> rcases List.mem_append.1 hb with hb1 | hb1
   · exact h1 a ha1 b hb1 e
   · rw [List.mem_singleton] at hb1
     rw [hb1] at e ⊢
     rcases (zt6 (hok a ha1) hx).1 e with h | h
     · exact h
     · exact absurd (by rw [show -x = a by omega]; exact ha1) h2
   · rw [List.mem_singleton] at ha1
     rw [ha1] at e ⊢
     rcases (zt6 hx (hok b hb1)).1 e with h | h
     · exact h
     · exact absurd (by rw [← h]; exact hb1) h2
   · rw [List.mem_singleton] at ha1 hb1
     rw [ha1, hb1]
theorem zA2 (fuel d : Nat) {l : List Int} {i : Nat} (hi : i < l.length) (hok : ∀ x ∈ l, zqa x) {D : List Int} (hD : D.length < 1000000000) (hDok : ∀ x ∈ D, zqa x) {s : Sl} {b : Bool} {h : AH} (hg : zkL h 1 s (zaS D)) : ∀ (n k : Nat), D.length < n + k → k ≤ D.length →
   zde fuel (d + 2) n [(0, .slice (lstI l)), (4, .slice s), (5, .bool b), (6, .int .i64 (i : Int)), (7, .int .i64 (k : Int))] h =
     some (.exit 2, [(0, .slice (lstI l)), (4, .slice s), (5, .bool b), (6, .int .i64 (i : Int)), (7, .int .i64 ((k + posL (l.getD i 0) (D.drop k) : Nat) : Int))], h) := by
 have hl := hg.len
 simp only [List.length_map, Nat.mul_one] at hl
 have hx : zqa (l.getD i 0) := hok _ (by simp [List.getD, hi])
 intro n
 induction n with
 | zero => intro k h1 h2; omega
 | succ n ih =>
   intro k h1 h2
   rw [zps, ← hl]
   by_cases hk : k < D.length
   · have hr := zDd hg.cells (j := (k : Int)) (by omega) (by omega)
     have hd : D.drop k = D.getD k 0 :: D.drop (k + 1) := by rw [List.drop_eq_getElem_cons hk]; simp [List.getD, hk]
     have hy : zqa (D.getD k 0) := hDok _ (by simp [List.getD, hk])
     rw [zan (by omega), hr.1, o_bd, hr.2, o_bd, zam, o_bd, zcC _ (by omega) (by omega) 0, hd]
     simp only [o_bd, zeG, zam, Int.toNat_natCast]
     rw [zyO fuel d hy hx]
     simp only [o_bd, zaf, zmr]
     unfold posL
     cases hlt : ltL (D.getD k 0) (l.getD i 0) with
     | true =>
       simp only [cond_true, if_true]
       rw [zlr (by omega), ih (k + 1) (by omega) (by omega), show k + 1 + posL (l.getD i 0) (D.drop (k + 1)) = k + (posL (l.getD i 0) (D.drop (k + 1)) + 1) by omega]
     | false => simp only [cond_false, Bool.false_eq_true, if_false, Nat.add_zero]
   · have : k = D.length := by omega
     subst this
     rw [zah (by omega), List.drop_length]
     simp only [o_bd, zmr, cond_false, posL, Nat.add_zero]
theorem zxS (fuel d : Nat) {l : List Int} (hl : l.length < 1000000000) (hf : l.length + 2 < fuel) (hok : ∀ x ∈ l, zqa x) {h0 : AH} : ∀ (n k : Nat) (s : Sl) (D : List Int) (b : Bool) (h : AH), l.length < n + k → k ≤ l.length → D.length ≤ k → zni D → (∀ x, x ∈ D ↔ x ∈ l.take k) → (b = true ↔ zAk D) → Sep0 h0 h [.grown 1 s (zaS D)] →
   ∃ s' h', zcG fuel (d + 2) n [(0, .slice (lstI l)), (4, .slice s), (5, .bool b), (6, .int .i64 (k : Int))] h = some (.exit 0, [(4, .slice s'), (5, .bool (zwg (zeF l)))], h') ∧ Sep0 h0 h' [.grown 1 s' (zaS (zeF l))] := by
 intro n
 induction n with
 | zero => intro k s D b h h1 h2; omega
 | succ n ih =>
   intro k s D b h h1 h2 h3 h4 h5 h6 hs
   have hlen := hs.len (i := 0) rfl
   simp only [List.length_map, Nat.mul_one] at hlen
   have hg := hs.sep.grown (i := 0) rfl
   have hDok : ∀ x ∈ D, zqa x := fun x hx => hok x (List.mem_of_mem_take ((h5 x).1 hx))
   rw [zpt, zeW]
   by_cases hk : k < l.length
   · have hxm : l.getD k 0 ∈ l := by simp [List.getD, hk]
     have hx := hok _ hxm
     rw [zan (by omega), zcC _ (by omega) (by omega) 0]
     simp only [o_bd, zeG, zam, Int.toNat_natCast]
     rw [has_run fuel (d + 1) hg.freezeI _ (by omega) (by omega)]
     simp only [o_bd, zaf]
     by_cases hm : l.getD k 0 ∈ D
     · rw [zan hm, zlr (by omega)]
       refine ih (k + 1) s D b h (by omega) (by omega) (by omega) h4 (fun x => ?_) h6 hs
       rw [zia hk 0, List.mem_append, List.mem_singleton, h5]
       constructor
       · exact .inl
       · rintro (h | h)
         · exact h
         · subst h; exact (h5 _).1 hm
     · rw [zah hm]
       have hp := zA2 fuel d hk hok (D := D) (by omega) hDok (b := b) hg fuel 0 (by omega) (by omega)
       rw [show ((0 : Nat) : Int) = 0 from rfl, Nat.zero_add, List.drop_zero] at hp
       have hple := zAh (l.getD k 0) D
       have hins := zAr hm
       have hsort : zni (insO (l.getD k 0) D) := zrA h4
       generalize hP : posL (l.getD k 0) D = P at hp hple hins
       rw [hp]
       simp only [o_bd, zpx]
       obtain ⟨hx1, hx2⟩ := hx
       have hw : IntKind.wrap .i64 (0 - l.getD k 0) = - l.getD k 0 := by rw [zeo (by omega) (by omega)]; omega
       have hb2 : ((bif (b == true) then ((AH.addr h 1 (lstI l) (k : Int)).bind fun p1 =>
           (AH.cell h p1).bind fun u2 => (AV.int? .i64 u2).bind fun n3 =>
           (run fuel (d + 2) zdM [.slice s, .int .i64 (IntKind.wrap .i64 (0 - n3))] h).bind fun r4 =>
           (AV.bool? r4.1).bind fun b5 => some (AV.bool (!b5), r4.2)) else (some (AV.bool false, h)) : Option (AV × AH))) = some (.bool (b && !decide (-(l.getD k 0) ∈ D)), h) := by
         cases b with
         | true =>
           rw [zcC _ (by omega) (by omega) 0]
           simp only [beq_self_eq_true, cond_true, o_bd, zeG, zam, Int.toNat_natCast]
           rw [hw, has_run fuel (d + 1) hg.freezeI _ (by omega) (by omega)]
           simp only [o_bd, zaf, Bool.true_and]
         | false => rfl
       rw [hb2]
       simp only [o_bd, zaf]
       rw [← hlen, zqJ (by omega) (by omega), o_bd, zqI, o_bd, zmh, o_bd, hg.hasSz, cond_true, Int.toNat_natCast]
       have hcut := hg.cutS (lo := 0) (hi := P) (by omega) (by omega) false
       obtain ⟨s5, h5', e5, n5⟩ := zue fuel (d + 1) hcut (by simp; omega) (by simp; omega)
       rw [e5]
       simp only [o_bd, zac]
       rw [zcC _ (by omega) (by omega) 0]
       simp only [o_bd]
       rw [zcC _ (by omega) (by omega) 0]
       simp only [o_bd, zls, zeG, zam, Int.toNat_natCast]
       have s6 := hs.add n5
       have hl5 := n5.holds.len
       simp only [List.length_map, Nat.mul_one, List.drop_zero, Nat.sub_zero, List.length_take] at hl5
       obtain ⟨s7, h7, e7, s8, hl7⟩ := s6.grow (i := 1) (bytes := 8) (m := 1) (vs := [.int .i64 (l.getD k 0)]) rfl rfl (by omega) (by omega)
       have g7 := s8.sep.grown (i := 0) rfl
       rw [e7]
       simp only [o_bd]
       rw [zrN, o_bd, zrM (by omega) (by omega), o_bd, zmh, o_bd, g7.hasSz, cond_true, Int.toNat_natCast]
       have hcut2 := g7.cutS (lo := P) (hi := D.length) (by omega) (by omega) false
       have hclen : (s.cut 1 P D.length false).len = D.length - P := by
         refine zAA fun e => ?_
         subst e
         simp only [Sl.len] at hlen
         omega
       rw [hcut2, hclen]
       obtain ⟨s9, h9, e9, s10, hl9⟩ := s8.grow (i := 1) (bytes := 8) (m := D.length - P) (vs := zaS ((D.drop P).take (D.length - P))) rfl (by simp) (by omega) (by omega)
       simp only [o_bd]
       rw [e9]
       simp only [o_bd]
       rw [zlr (by omega)]
       have e11 : zaS ((D.drop 0).take (P - 0)) ++ [AV.int .i64 (l.getD k 0)] ++ zaS ((D.drop P).take (D.length - P)) = zaS (insO (l.getD k 0) D) := by
         rw [List.take_of_length_le (l := D.drop P) (by simp), hins]
         simp
       have s12 : Sep0 h0 h9 [.grown 1 s9 (zaS (insO (l.getD k 0) D))] := by
         rw [← e11]; exact s10.tl
       refine ih (k + 1) s9 (insO (l.getD k 0) D) _ h9 (by omega) (by omega) (by have := zrB (l.getD k 0) D; omega) hsort (fun x => ?_) ?_ s12
       · rw [zsK, zia hk 0, List.mem_append, List.mem_singleton, h5]
         exact Or.comm
       · rw [Bool.and_eq_true, h6, Bool.not_eq_true', decide_eq_false_iff_not, ← zx4 hDok ⟨hx1, hx2⟩ hm]
         refine zxd fun x => ?_
         rw [zsK, List.mem_append, List.mem_singleton]
         exact Or.comm
   · have : k = l.length := by omega
     subst this
     rw [List.take_length] at h5
     have hD : D = zeF l := zmy h4 (zjR l) fun x => by rw [zjN]; exact h5 x
     have hb : b = zwg (zeF l) := by
       rw [Bool.eq_iff_iff, h6, zxM (zjR l), hD]
     rw [zah (by omega)]
     subst hD
     exact ⟨s, h, by rw [hb], hs⟩
theorem zwU {fuel e : Nat} (he : 3 ≤ e) {l : List Int} (hl : l.length < 1000000000) (hf : l.length + 2 < fuel) (hok : ∀ x ∈ l, zqa x) (h : AH) :
   run fuel e zb8 [.slice (lstI l)] h = some (.tup [.slice (lstI (zeF l)), .bool (zwg (zeF l))], h) := by
 obtain ⟨e, rfl⟩ : ∃ e', e = e' + 3 := ⟨e - 3, by omega⟩
 obtain ⟨s', h', e1, g1⟩ := zxS fuel e hl hf hok (h0 := AH.none) fuel 0 .nil [] true AH.none (by omega) (by omega) (by simp) (by simp [zni]) (by simp) (by simp [zAk]) ((Sep0.start _).addNil 1)
 rw [show ((0 : Nat) : Int) = 0 from rfl] at e1
 refine zft rfl rfl (cc1 (zrc 7 l)) (r := .tup [.slice s', .bool (zwg (zeF l))]) (h' := h') ?_ ?_
 · rw [zr6, e1]
   simp only [o_bd, zpy]
 · refine zxi _ ?_ (zxk _ _)
   have hg := g1.sep.grown (i := 0) rfl
   rw [hg.freeze (n := 6) (by omega) (zoE 5 _)]
   have := hg.len
   simp only [List.length_map, Nat.mul_one] at this
   rw [← this]
theorem zrh {fuel e : Nat} (he : 4 ≤ e) {a b : List Int} (ha : a.length < 1000000000) (hb : b.length < 1000000000) (hfa : a.length + 2 < fuel) (hfb : b.length + 2 < fuel) (hoa : ∀ x ∈ a, zqa x) (hob : ∀ x ∈ b, zqa x) {h : AH} {s t : Sl} (hs : zap h 8 (.slice s) = some (.slice (lstI a))) (ht : zap h 8 (.slice t) = some (.slice (lstI b))) :
   run fuel e zfZ [.slice s, .slice t] h = some (.bool (decide (zeF a = zeF b)), h) := by
 obtain ⟨e, rfl⟩ : ∃ e', e = e' + 4 := ⟨e - 4, by omega⟩
 refine zpl rfl rfl (mm2 hs ht) (r := .bool (decide (zeF a = zeF b))) (h' := AH.none) ?_ rfl rfl
 have := zle a
 rw [zpe, zwU (by omega) ha hfa hoa]
 simp only [o_bd, zq0, List.length_cons, List.length_nil, Nat.beq, cond_true, ztb, List.getElem?_cons_zero, List.getElem?_cons_succ, zac, zaf]
 rw [zwU (by omega) hb hfb hob]
 simp only [o_bd, zq0, List.length_cons, List.length_nil, Nat.beq, cond_true, ztb, List.getElem?_cons_zero, List.getElem?_cons_succ, zac, zaf]
 rw [zwh fuel (e + 2) (zdZ 7 _) (zdZ 7 _) (by omega) (by omega)]
 simp only [o_bd, zaf]
end Go.Proofs.YtdmbfmgebgdfnaaDoor
namespace Go.Proofs.YtdmbfmgebgdfnaaDoor
open Go.RowKit
def rcF (v : List Int) : List Int → Int → Int → Int × Int
 | [], left, many => if many = 0 then (2, 0) else if 1 < many then (0, 0) else (0, left)
 | l :: r, left, many => if zfX v l = 1 then (1, 0) else if zfX v l = 0 then rcF v r l (if l ≠ left then many + 1 else many) else rcF v r left many
structure RcI (v p : List Int) (left many : Int) : Prop where
 nt : ∀ l ∈ p, zfX v l ≠ 1
 m0 : many = 0 ↔ ∀ l ∈ p, zfX v l ≠ 0
 m1 : many = 1 ↔ ∃ u, (u ∈ p ∧ zfX v u = 0) ∧ ∀ l ∈ p, zfX v l = 0 → l = u
 lf : many ≠ 0 → left ∈ p ∧ zfX v left = 0
 l0 : many = 0 → left = 0
 pos : 0 ≤ many
theorem zvu {v : List Int} (hv : ∀ x ∈ v, x = 0 ∨ x = 1 ∨ x = 2) : ∀ (c p : List Int) (left many : Int), (∀ l ∈ c, l ≠ 0) → RcI v p left many → rcF v c left many = zbn v (p ++ c)
 | [], p, left, many, _, h => by
   have hno : ¬ ∃ l ∈ p ++ [], zfX v l = 1 := by
     rintro ⟨l, hl, e⟩
     rw [List.append_nil] at hl
     exact h.nt l hl e
   unfold rcF zbn
   rw [if_neg hno, List.append_nil]
   by_cases h0 : many = 0
   · rw [if_pos h0]
     have : p.filter (fun l => decide (zfX v l = 0)) = [] := by
       rw [List.filter_eq_nil_iff]
       intro l hl
       simpa using h.m0.1 h0 l hl
     rw [this]
   · rw [if_neg h0]
     obtain ⟨hl, hvl⟩ := h.lf h0
     cases hf : p.filter (fun l => decide (zfX v l = 0)) with
     | nil =>
       rw [List.filter_eq_nil_iff] at hf
       exact absurd (decide_eq_true hvl) (hf left hl)
     | cons u r =>
       simp only
       have hmem : ∀ x, x ∈ u :: r ↔ x ∈ p ∧ zfX v x = 0 := fun x => by rw [← hf, List.mem_filter, decide_eq_true_eq]
       by_cases h1 : 1 < many
       · rw [if_pos h1]
         have : ¬ ∀ x ∈ r, x = u := fun hall => by
           have : many = 1 := h.m1.2 ⟨u, (hmem u).1 (List.mem_cons_self ..), fun l hl e => by
             rcases List.mem_cons.1 ((hmem l).2 ⟨hl, e⟩) with h | h
             · exact h
             · exact hall l h⟩
           omega
         rw [if_neg this]
       · rw [if_neg h1]
         have hm1 : many = 1 := by have := h.pos; omega
         obtain ⟨w, _, hw⟩ := h.m1.1 hm1
         have e1 := hw left hl hvl
         have hu := (hmem u).1 (List.mem_cons_self ..)
         have e2 := hw u hu.1 hu.2
         have : ∀ x ∈ r, x = u := fun x hx => by
           have hx2 := (hmem x).1 (List.mem_cons_of_mem _ hx)
           rw [hw x hx2.1 hx2.2, e2]
         rw [if_pos this, e1, e2]
 | l :: c, p, left, many, hz, h => by
   unfold rcF
   by_cases h1 : zfX v l = 1
   · rw [if_pos h1]
     unfold zbn
     rw [if_pos ⟨l, by simp, h1⟩]
   · rw [if_neg h1]
     have hz' : ∀ l ∈ c, l ≠ 0 := fun x hx => hz x (List.mem_cons_of_mem _ hx)
     have hl0 := hz l (List.mem_cons_self ..)
     rw [show p ++ l :: c = (p ++ [l]) ++ c by simp]
     have mem : ∀ x, x ∈ p ++ [l] ↔ x ∈ p ∨ x = l := fun x => by rw [List.mem_append, List.mem_singleton]
     by_cases h0 : zfX v l = 0
     · rw [if_pos h0]
       refine zvu hv c (p ++ [l]) _ _ hz' ⟨fun x hx => ?_, ?_, ?_, fun _ => ⟨by simp, h0⟩, fun e => ?_, ?_⟩
       · rcases (mem x).1 hx with hx | rfl
         · exact h.nt x hx
         · exact h1
       · refine ⟨fun e => ?_, fun hall => absurd h0 (hall l (by simp))⟩
         by_cases hle : l = left
         · rw [if_neg (by simpa using hle)] at e
           exact absurd (hle.trans (h.l0 e)) hl0
         · rw [if_pos hle] at e
           have := h.pos
           omega
       · by_cases hle : l = left
         · rw [if_neg (by simpa using hle)]
           have hm : many ≠ 0 := fun e => hl0 (hle.trans (h.l0 e))
           obtain ⟨g1, g2⟩ := h.lf hm
           rw [h.m1]
           constructor
           · rintro ⟨u, ⟨a, b⟩, c⟩
             refine ⟨u, ⟨(mem u).2 (.inl a), b⟩, fun x hx e => ?_⟩
             rcases (mem x).1 hx with hx | rfl
             · exact c x hx e
             · rw [hle]; exact c left g1 g2
           · rintro ⟨u, ⟨a, b⟩, c⟩
             have : left = u := c left ((mem _).2 (.inl g1)) g2
             exact ⟨u, ⟨this ▸ g1, b⟩, fun x hx e => c x ((mem x).2 (.inl hx)) e⟩
         · rw [if_pos hle]
           constructor
           · intro e
             have hm : many = 0 := by omega
             exact ⟨l, ⟨by simp, h0⟩, fun x hx e => by
               rcases (mem x).1 hx with hx | rfl
               · exact absurd e (h.m0.1 hm x hx)
               · rfl⟩
           · rintro ⟨u, _, c⟩
             by_cases hm : many = 0
             · omega
             · obtain ⟨g1, g2⟩ := h.lf hm
               have e1 := c l (by simp) h0
               have e2 := c left ((mem _).2 (.inl g1)) g2
               exact absurd (e1.trans e2.symm) hle
       · by_cases hle : l = left
         · rw [if_neg (by simpa using hle)] at e
           exact absurd (hle.trans (h.l0 e)) hl0
         · rw [if_pos hle] at e
           have := h.pos
           omega
       · have := h.pos
         split <;> omega
     · rw [if_neg h0]
       refine zvu hv c (p ++ [l]) left many hz' ⟨fun x hx => ?_, ?_, ?_, fun hm => ⟨(mem _).2 (.inl (h.lf hm).1), (h.lf hm).2⟩, h.l0, h.pos⟩
       · rcases (mem x).1 hx with hx | rfl
         · exact h.nt x hx
         · exact h1
       · rw [h.m0]
         refine ⟨fun hall x hx => ?_, fun hall x hx => hall x ((mem x).2 (.inl hx))⟩
         rcases (mem x).1 hx with hx | rfl
         · exact hall x hx
         · exact h0
       · rw [h.m1]
         constructor
         · rintro ⟨u, ⟨a, b⟩, c⟩
           refine ⟨u, ⟨(mem u).2 (.inl a), b⟩, fun x hx e => ?_⟩
           rcases (mem x).1 hx with hx | rfl
           · exact c x hx e
           · exact absurd e h0
         · rintro ⟨u, ⟨a, b⟩, c⟩
           rcases (mem u).1 a with a | rfl
           · exact ⟨u, ⟨a, b⟩, fun x hx e => c x ((mem x).2 (.inl hx)) e⟩
           · exact absurd b h0
theorem zCd {v : List Int} (hv : ∀ x ∈ v, x = 0 ∨ x = 1 ∨ x = 2) {c : List Int} (hz : ∀ l ∈ c, l ≠ 0) : rcF v c 0 0 = zbn v c :=
 zvu hv c [] 0 0 hz ⟨(fun l hl => by cases hl), ⟨(fun _ l hl => by cases hl), fun _ => rfl⟩, ⟨(fun h => by cases h), (fun ⟨u, h, _⟩ => by cases h.1)⟩, (fun h => absurd rfl h), (fun _ => rfl), Int.le_refl _⟩
abbrev rO (A V : Nat) (v : List Int) : zcJ := .own 1 A 0 1 [.slice (aSl V v)]
abbrev rV (V : Nat) (v : List Int) : zcJ := .own 1 V 0 v.length (zaS v)
theorem zv3 (fuel d : Nat) {n : Int} (h0 : -9223372036854775808 < n) (h1 : n ≤ 9223372036854775807) (l : Int) (h : AH) : run fuel (d + 1) zjL [.int .i64 l, .int .i64 n] h = some (.bool (zjg l n), h) := by
 refine zft rfl rfl (cc2 rfl rfl) (r := .bool (zjg l n)) (h' := AH.none) ?_ rfl
 rw [zts]
 have : (bif (bif (!decide (l = (0 : Int))) then (decide (l ≤ n)) else false) then (decide (IntKind.wrap .i64 (0 - n) ≤ l)) else false) = zjg l n := by
   rw [zeo (by omega) (by omega), Bool.eq_iff_iff, zbs]
   by_cases e1 : l = 0
   · rw [decide_eq_true e1]; simp [e1]
   · rw [decide_eq_false e1]
     by_cases e2 : l ≤ n
     · rw [decide_eq_true e2]; simp only [Bool.not_false, cond_true, decide_eq_true_eq]; omega
     · rw [decide_eq_false e2]; simp only [Bool.not_false, cond_true, cond_false]; simp; omega
 rw [this]
section
variable {h0 h : AH} {L : List zcJ} {i j A V : Nat} {v : List Int}
theorem zuM (fuel d : Nat) (hs : Sep0 h0 h L) (hi : L[i]? = some (rO A V v)) (hj : L[j]? = some (rV V v)) (hv : ∀ x ∈ v, x = 0 ∨ x = 1 ∨ x = 2) (hn : v.length < 10000) {l : Int} (hl : -9223372036854775807 ≤ l ∧ l ≤ 9223372036854775807) :
   run fuel (d + 2) ze8 [.ptr (.mk ⟨A, 0, 0⟩ 1), .int .i64 l] h = some (.int .i64 (zfX v l), h) := by
 have c0 : h.cell (.mk ⟨A, 0, 0 + 0⟩ 1) = some (.slice (aSl V v)) := hs.part hi (by omega) rfl
 have hcells : h.sliceCells 1 (aSl V v) = some (zaS v) := (hs.sep.own hj).cells true
 rw [zol]
 simp only [Pt.chk, zcd, o_bd, c0, zac, Sl.len]
 rw [zeo (n := (v.length : Int) - 1) (by omega) (by omega), zv3 _ _ (by omega) (by omega)]
 simp only [o_bd, zaf]
 cases hli : zjg l ((v.length : Int) - 1) with
 | false => rw [zpQ hli]; rfl
 | true =>
   have hl' := zbs.1 hli
   have hlt : (absI l).toNat < v.length := by unfold absI; split <;> omega
   have hab : varI l = absI l := by
     rw [zv8 ⟨by omega, by omega⟩]
     unfold absI
     split <;> omega
   have ha0 : 0 ≤ absI l := by unfold absI; split <;> omega
   simp only [Bool.not_true, cond_false, c0, o_bd, zac]
   rw [zy9 fuel d ⟨by omega, by omega⟩]
   simp only [o_bd, zam, c0, zac, hab]
   have a1 : h.addr 1 (aSl V v) (absI l) = some ((aSl V v).at 1 (absI l)) := znh hcells ha0 (by simp only [Sl.len]; omega)
   have a2 : h.cell ((aSl V v).at 1 (absI l)) = some (.int .i64 (v.getD (absI l).toNat 0)) := zrU hcells ha0 (by rw [List.getElem?_map, List.getElem?_eq_getElem hlt, List.getD_eq_getElem?_getD, List.getElem?_eq_getElem hlt]; rfl)
   have hx := hv _ (zqu hlt)
   simp only [zls, a1, a2, o_bd, zam]
   rw [zlq hli]
   generalize v.getD (absI l).toNat 0 = x at hx
   by_cases hneg : l < 0
   · by_cases hx0 : x = 0
     · subst hx0
       rw [decide_eq_true hneg]
       simp
     · rw [decide_eq_true hneg, cond_true, decide_eq_false hx0, if_pos ⟨hneg, hx0⟩]
       simp only [Bool.not_false, cond_true]
       rw [zeo (by omega) (by omega)]
   · rw [decide_eq_false hneg, cond_false, cond_false, if_neg (fun h => hneg h.1)]
theorem zwA (v : List Int) {k : Nat} (hk : k < v.length) (x : Int) : (zaS v).take k ++ [AV.int .i64 x] ++ (zaS v).drop (k + 1) = zaS (v.set k x) := by
 rw [List.set_eq_take_append_cons_drop, if_pos hk]
 simp
theorem zxR (fuel d : Nat) (hs : Sep0 h0 h L) (hi : L[i]? = some (rO A V v)) (hj : L[j]? = some (rV V v)) (hv : ∀ x ∈ v, x = 0 ∨ x = 1 ∨ x = 2) (hn : v.length < 10000) {l : Int} (hl : -9223372036854775807 ≤ l ∧ l ≤ 9223372036854775807) :
   ∃ h', run fuel (d + 3) zf0 [.ptr (.mk ⟨A, 0, 0⟩ 1), .int .i64 l] h = some (.bool (zjm v l), h') ∧ Sep0 h0 h' (L.set j (.own 1 V 0 v.length (zaS (zkX v l)))) := by
 have c0 : h.cell (.mk ⟨A, 0, 0 + 0⟩ 1) = some (.slice (aSl V v)) := hs.part hi (by omega) rfl
 have hcells : h.sliceCells 1 (aSl V v) = some (zaS v) := (hs.sep.own hj).cells true
 have same0 : L.set j (.own 1 V 0 v.length (zaS v)) = L := by
   obtain ⟨j1, j2⟩ := List.getElem?_eq_some_iff.1 hj
   have j3 : L[j] = .own 1 V 0 v.length (zaS v) := j2
   rw [← j3]
   exact List.set_getElem_self j1
 rw [zpf]
 simp only [Pt.chk, zcd, o_bd, c0, zac, Sl.len]
 rw [zeo (n := (v.length : Int) - 1) (by omega) (by omega), zv3 _ _ (by omega) (by omega)]
 simp only [o_bd, zaf]
 cases hli : zjg l ((v.length : Int) - 1) with
 | false =>
   have hc : zjm v l = false := by unfold zjm; rw [hli]; rfl
   have hso : zkX v l = v := by unfold zkX; rw [hc]; rfl
   rw [hc, hso, same0]
   exact ⟨h, rfl, hs⟩
 | true =>
   have hl' := zbs.1 hli
   simp only [Bool.not_true, beq_self_eq_true, cond_true]
   rw [zuM fuel d hs hi hj hv hn hl]
   simp only [o_bd, zam, zaf]
   by_cases h2 : zfX v l = 2
   · have hc : zjm v l = false := by unfold zjm; rw [hli, h2]; rfl
     have hso : zkX v l = v := by unfold zkX; rw [hc]; rfl
     rw [hc, hso, same0, decide_eq_true h2]
     exact ⟨h, rfl, hs⟩
   · have hc : zjm v l = true := zjJ.2 ⟨hli, h2⟩
     have hso : zkX v l = v.set (absI l).toNat (if 0 < l then 1 else 2) := by unfold zkX; rw [if_pos hc]
     have hlt : (absI l).toNat < v.length := by unfold absI; split <;> omega
     rw [hc, hso, decide_eq_false h2, cond_false]
     by_cases hp : 0 < l
     · have hab : absI l = l := by unfold absI; rw [if_neg (by omega)]
       rw [hab] at hlt ⊢
       obtain ⟨h', e1, s1⟩ := hs.put (o := l.toNat) (l := l.toNat + 1) (vs := [.int .i64 1]) hj (by simp) (by simp; omega)
       have a1 : h.addr 1 (aSl V v) l = some ((aSl V v).at 1 l) := znh hcells (by omega) (by simp only [Sl.len]; omega)
       have a2 : (aSl V v).at 1 l = .mk ⟨V, 0, l.toNat⟩ (l.toNat + 1) := by simp [Sl.at]
       rw [decide_eq_true hp, cond_true, c0, o_bd, zac, o_bd, a1, o_bd, a2, e1, if_pos hp]
       rw [List.length_singleton, zwA v hlt] at s1
       exact ⟨h', rfl, s1⟩
     · have hab : absI l = -l := by unfold absI; rw [if_pos (by omega)]
       rw [hab] at hlt ⊢
       obtain ⟨h', e1, s1⟩ := hs.put (o := (-l).toNat) (l := (-l).toNat + 1) (vs := [.int .i64 2]) hj (by simp) (by simp; omega)
       have a1 : h.addr 1 (aSl V v) (-l) = some ((aSl V v).at 1 (-l)) := znh hcells (by omega) (by simp only [Sl.len]; omega)
       have a2 : (aSl V v).at 1 (-l) = .mk ⟨V, 0, (-l).toNat⟩ ((-l).toNat + 1) := by simp [Sl.at]
       rw [decide_eq_false hp, cond_false, c0, o_bd, zac, o_bd, zeo (n := 0 - l) (by omega) (by omega), show 0 - l = -l by omega, a1, o_bd, a2, e1, if_neg hp]
       rw [List.length_singleton, zwA v hlt] at s1
       exact ⟨h', rfl, s1⟩
end
theorem zAY (fuel d : Nat) {h0 h : AH} {L : List zcJ} (hs : Sep0 h0 h L) {n : Nat} (hn : n ≤ 4000) :
   ∃ A V h', run fuel (d + 1) ziY [.int .i64 (n : Int)] h = some (.ptr (.mk ⟨A, 0, 0⟩ 1), h') ∧ Sep0 h0 h' (L ++ [rV V (List.replicate (n + 1) 0), rO A V (List.replicate (n + 1) 0)]) := by
 rw [zpL]
 have e0 : (bif decide ((4000 : Int) < (bif decide ((n : Int) < (0 : Int)) then (0 : Int) else (n : Int))) then (4000 : Int) else (bif decide ((n : Int) < (0 : Int)) then (0 : Int) else (n : Int))) = (n : Int) := by
   rw [zah (show ¬ (n : Int) < 0 by omega), zah (by omega)]
 rw [e0, zeo (n := (n : Int) + 1) (by omega) (by omega), show (true && decide (0 ≤ (n : Int) + 1) && decide ((n : Int) + 1 ≤ (n : Int) + 1) && decide (((n : Int) + 1) * 8 ≤ 140737488355328) && decide ((n : Int) + 1 ≤ 140737488355328)) = true from zDe (by omega) (by omega) (by omega), cond_true, show ((n : Int) + 1).toNat = n + 1 by omega, zpn, zyw]
 have e1 : List.replicate (n + 1) (AV.int .i64 0) = zaS (List.replicate (n + 1) 0) := by simp
 have s1 := hs.push 1 (List.replicate (n + 1) (0 : Int)).length (cs := zaS (List.replicate (n + 1) 0)) (by simp)
 have s2 := s1.push 1 1 (cs := [.slice (aSl h.next (List.replicate (n + 1) 0))]) rfl
 have e2 : AV.slice (.mk ⟨h.next, 0, 0⟩ (n + 1) true) = .slice (aSl h.next (List.replicate (n + 1) 0)) := by simp [aSl]
 rw [e1, e2]
 rw [List.append_assoc] at s2
 exact ⟨_, h.next, _, rfl, s2⟩
end Go.Proofs.YtdmbfmgebgdfnaaDoor
namespace Go.Proofs.YtdmbfmgebgdfnaaDoor
open Go.RowKit
abbrev Key := Int × Sl × List Int
def esK (ks : List Key) : List (AV × AV) := ks.map fun t => (.int .i64 t.1, .slice t.2.1)
def chK (ks : List Key) : List zcJ := ks.map fun t => .part 1 t.2.1 (zaS t.2.2)
def zsr (x : Int) : List Key → Option (Sl × List Int)
 | [] => none
 | t :: r => if x = t.1 then some t.2 else zsr x r
def setK (x : Int) (p : Sl × List Int) : List Key → List Key
 | [] => [(x, p)]
 | t :: r => if x = t.1 then (t.1, p) :: r else t :: setK x p r
def slK (x : Int) (ks : List Key) : Sl := match zsr x ks with
 | some p => p.1
 | none => .nil
def lisK (x : Int) (ks : List Key) : List Int := match zsr x ks with
 | some p => p.2
 | none => []
theorem ztI (x : Int) : ∀ ks : List Key, zwq (.int .i64 x) (esK ks) = some ((zsr x ks).map fun p => .slice p.1)
 | [] => rfl
 | t :: ks => by
   have ih := ztI x ks
   have e : esK (t :: ks) = (.int .i64 t.1, .slice t.2.1) :: esK ks := rfl
   rw [e, zwq]
   simp only [AV.keyEq, decide_true, cond_true, o_bd, zsr]
   by_cases h : x = t.1
   · rw [decide_eq_true h, cond_true, if_pos h]; rfl
   · rw [decide_eq_false h, cond_false, if_neg h, ih]
theorem zx6 (x : Int) (ks : List Key) : mgot (.slice .nil) ((zsr x ks).map fun p => .slice p.1) = .slice (slK x ks) := by
 unfold slK
 cases zsr x ks <;> rfl
theorem zBd (x : Int) (p : Sl × List Int) : ∀ ks : List Key, mset (.int .i64 x) (.slice p.1) (esK ks) = some (esK (setK x p ks))
 | [] => rfl
 | t :: ks => by
   have ih := zBd x p ks
   have e : esK (t :: ks) = (.int .i64 t.1, .slice t.2.1) :: esK ks := rfl
   rw [e, mset]
   simp only [AV.keyEq, decide_true, cond_true, o_bd, setK]
   by_cases h : x = t.1
   · rw [decide_eq_true h, cond_true, if_pos h]; rfl
   · rw [decide_eq_false h, cond_false, if_neg h, ih]; rfl
theorem zvH (x : Int) (p : Sl × List Int) : ∀ ks : List Key, zsr x (setK x p ks) = some p
 | [] => by simp [setK, zsr]
 | t :: ks => by
   simp only [setK]
   by_cases h : x = t.1
   · rw [if_pos h]; simp only [zsr]; rw [if_pos h]
   · rw [if_neg h]; simp only [zsr]; rw [if_neg h]; exact zvH x p ks
theorem zrC {x y : Int} (hne : y ≠ x) (p : Sl × List Int) : ∀ ks : List Key, zsr y (setK x p ks) = zsr y ks
 | [] => by simp only [setK, zsr]; rw [if_neg hne]
 | t :: ks => by
   simp only [setK]
   by_cases h : x = t.1
   · rw [if_pos h]
     simp only [zsr]
     rw [if_neg (fun e => hne (e.trans h.symm)), if_neg (fun e => hne (e.trans h.symm))]
   · rw [if_neg h]
     simp only [zsr]
     by_cases h2 : y = t.1
     · rw [if_pos h2, if_pos h2]
     · rw [if_neg h2, if_neg h2]; exact zrC hne p ks
theorem zuk {x : Int} {p : Sl × List Int} : ∀ {ks : List Key}, zsr x ks = some p → ∃ i, ks[i]? = some (x, p) ∧ ∀ q, setK x q ks = ks.set i (x, q)
 | [], h => by cases h
 | t :: ks, h => by
   simp only [zsr] at h
   by_cases e : x = t.1
   · rw [if_pos e] at h
     cases h
     refine ⟨0, ?_, fun q => ?_⟩
     · rw [e]; rfl
     · simp only [setK]; rw [if_pos e, e]; rfl
   · rw [if_neg e] at h
     obtain ⟨i, h1, h2⟩ := zuk h
     refine ⟨i + 1, h1, fun q => ?_⟩
     simp only [setK]
     rw [if_neg e, h2 q]; rfl
theorem zwG {x : Int} : ∀ {ks : List Key}, zsr x ks = none → ∀ q, setK x q ks = ks ++ [(x, q)]
 | [], _, q => rfl
 | t :: ks, h, q => by
   simp only [zsr] at h
   by_cases e : x = t.1
   · rw [if_pos e] at h; cases h
   · rw [if_neg e] at h
     simp only [setK]
     rw [if_neg e, zwG h q]; rfl
section
variable {h0 h : AH} {A : List zcJ} {ks : List Key} {j m : Nat}
theorem zAG {x : Int} {p : Sl × List Int} {i : Nat} (hi : ks[i]? = some (x, p)) : (A ++ chK ks)[A.length + i]? = some (.part 1 p.1 (zaS p.2)) := by
 rw [List.getElem?_append_right (by omega), Nat.add_sub_cancel_left]
 unfold chK
 rw [List.getElem?_map, hi]; rfl
theorem Sep0.lookK (hs : Sep0 h0 h (A ++ chK ks)) (x : Int) : h.sliceCells 1 (slK x ks) = some (zaS (lisK x ks)) ∧ (slK x ks).len = (lisK x ks).length := by
 unfold slK lisK
 cases hf : zsr x ks with
 | none => exact ⟨rfl, rfl⟩
 | some p =>
   obtain ⟨i, h1, _⟩ := zuk hf
   have hi := zAG (A := A) h1
   have hl := hs.lenP hi
   simp only [List.length_map, Nat.mul_one] at hl
   exact ⟨hs.cellsP hi, hl.symm⟩
theorem Sep0.addK (hs : Sep0 h0 h (A ++ chK ks)) (hj : A[j]? = some (.mp h0.maps.length m (esK ks))) (x v : Int) (hb : (slK x ks).len < 1000000000) :
   ∃ s' h', h.append false 1 8 (slK x ks) 1 [.int .i64 v] = some (s', h') ∧ Sep0 h0 h' A ∧
     Sep0 h0 (h'.setMap m (esK (setK x (s', lisK x ks ++ [v]) ks))) (A.set j (.mp h0.maps.length m (esK (setK x (s', lisK x ks ++ [v]) ks))) ++ chK (setK x (s', lisK x ks ++ [v]) ks)) := by
 have hjl := (List.getElem?_eq_some_iff.1 hj).1
 unfold slK at hb
 unfold slK lisK
 cases hf : zsr x ks with
 | none =>
   simp only
   have s1 := hs.addNil 1
   have s2 := s1.toPart (i := (A ++ chK ks).length) (sz := 1) (s := .nil) (cs := []) (by simp)
   rw [zrn] at s2
   obtain ⟨s', h', e1, s3, _⟩ := s2.growP (i := (A ++ chK ks).length) (sz := 1) (bytes := 8) (m := 1) (s := .nil) (cs := []) (vs := [.int .i64 v]) (by simp) rfl (by simp [Sl.len]) (by simp [Sl.len])
   rw [zrn] at s3
   refine ⟨s', h', e1, s3.sub (by rw [List.append_assoc]; exact List.sublist_append_left ..), ?_⟩
   have s4 := s3.setMap (i := j) (m := m) (es := esK ks) (by rw [List.append_assoc, List.getElem?_append_left hjl]; exact hj) (esK (setK x (s', [] ++ [v]) ks))
   rw [List.append_assoc, List.set_append_left _ _ hjl] at s4
   have e5 : chK (setK x (s', [] ++ [v]) ks) = chK ks ++ [.part 1 s' ([] ++ [.int .i64 v])] := by
     rw [zwG hf]
     simp [chK]
   rw [e5]
   exact s4
 | some p =>
   rw [hf] at hb
   simp only at hb ⊢
   obtain ⟨i, h1, h2⟩ := zuk hf
   have hi := zAG (A := A) h1
   obtain ⟨s', h', e1, s3, _⟩ := hs.growP (bytes := 8) (m := 1) (vs := [.int .i64 v]) hi rfl (by omega) (by omega)
   rw [List.set_append_right _ _ (by omega), Nat.add_sub_cancel_left] at s3
   refine ⟨s', h', e1, s3.sub (List.sublist_append_left ..), ?_⟩
   have s4 := s3.setMap (i := j) (m := m) (es := esK ks) (by rw [List.getElem?_append_left hjl]; exact hj) (esK (setK x (s', p.2 ++ [v]) ks))
   rw [List.set_append_left _ _ hjl] at s4
   have e5 : chK (setK x (s', p.2 ++ [v]) ks) = (chK ks).set i (.part 1 s' (zaS p.2 ++ [.int .i64 v])) := by
     rw [h2]
     unfold chK
     rw [List.map_set]
     congr 1
     simp
   rw [e5]
   exact s4
end
end Go.Proofs.YtdmbfmgebgdfnaaDoor
namespace Go.Proofs.YtdmbfmgebgdfnaaDoor
abbrev St := List Int × List Int
def setV (s : St) (l : Int) : Option St := if zfX s.1 l = 1 then some s else if zjm s.1 l = true then some (zkX s.1 l, s.2 ++ [l]) else none
def ztL (s : St) (c : List Int) : Option St := if (zbn s.1 c).1 = 2 then none else if (zbn s.1 c).2 = 0 then some s else setV s (zbn s.1 c).2
def allV {α : Type} (f : St → α → Option St) : St → List α → Option St
 | s, [] => some s
 | s, a :: r => match f s a with
   | none => none
   | some s' => allV f s' r
def zur (by' : Int → List (List Int)) : Nat → St → Option (List Int)
 | 0, _ => none
 | _ + 1, (v, []) => some v
 | n + 1, (v, l :: q) => match allV ztL (v, q) (by' (-l)) with
   | none => none
   | some s => zur by' n s
def zr9 (by' : Int → List (List Int)) (small : List (List Int)) (n N : Nat) (S : List Int) : Option (List Int) :=
 match allV setV (List.replicate (n + 1) 0, []) S with
 | none => none
 | some s => match allV ztL s small with
   | none => none
   | some s => zur by' N s
structure Inv (C : List (List Int)) (S : List Int) (n : Nat) (s : St) : Prop where
 len : s.1.length = n + 1
 val : ∀ x ∈ s.1, x = 0 ∨ x = 1 ∨ x = 2
 fnd : Fnd C S (zgB s.1)
 tru : ∀ m ∈ s.2, zgB s.1 m = true
 zero : s.1.getD 0 0 = 0
structure Stp' (s t : St) : Prop where
 mono : ∀ m, zgB s.1 m = true → zgB t.1 m = true
 new : ∀ m, zgB t.1 m = true → zgB s.1 m = true ∨ m ∈ t.2
 keep : ∀ m ∈ s.2, m ∈ t.2
 cnt : t.2.length + t.1.count 0 = s.2.length + s.1.count 0
theorem Stp'.refl (s : St) : Stp' s s := ⟨fun _ h => h, fun _ h => .inl h, fun _ h => h, rfl⟩
theorem Stp'.trans {s t u : St} (a : Stp' s t) (b : Stp' t u) : Stp' s u :=
 ⟨fun m h => b.mono m (a.mono m h), fun m h => by
   rcases b.new m h with h | h
   · rcases a.new m h with h | h
     · exact .inl h
     · exact .inr (b.keep m h)
   · exact .inr h, fun m h => b.keep m (a.keep m h), b.cnt.trans a.cnt⟩
section
variable {C : List (List Int)} {S : List Int} {n : Nat}
theorem zxJ {s : St} (h : Inv C S n s) {l : Int} (hl : Up C S l) (hi : zjg l n = true) : match setV s l with
   | none => Cfl C S
   | some t => Inv C S n t ∧ Stp' s t ∧ zgB t.1 l = true := by
 obtain ⟨v, q⟩ := s
 have hlen := h.len
 have hi' : zjg l ((v.length : Int) - 1) = true := by
   have : (v.length : Int) - 1 = n := by simp only at hlen; omega
   rw [this]; exact hi
 unfold setV
 by_cases h1 : zfX v l = 1
 · rw [if_pos h1]
   exact ⟨h, Stp'.refl _, decide_eq_true h1⟩
 · rw [if_neg h1]
   by_cases hc : zjm v l = true
   · rw [if_pos hc]
     have hT := zwb h.val hc
     have h2 := (zjJ.1 hc).2
     have h0 : zfX v l = 0 := by
       rcases zi1 h.val l with e | e | e
       · exact e
       · exact absurd e h1
       · exact absurd e h2
     have hl0 := zbs.1 hi
     have hneg : zgB v (-l) = false := by rw [zse h.val]; exact decide_eq_false h2
     have hlT : setL (zgB v) l l = true := by simp [setL]
     refine ⟨⟨by simp only [znr]; exact hlen, zro h.val l, ?_, fun m hm => ?_, ?_⟩, ⟨fun m hm => ?_, fun m hm => ?_, fun m hm => List.mem_append_left _ hm, ?_⟩, ?_⟩
     · simp only
       rw [hT]
       exact h.fnd.set hl hl0.1 hneg
     · simp only at hm ⊢
       rw [hT]
       rcases List.mem_append.1 hm with hm | hm
       · simp [setL, h.tru m hm]
       · rw [List.mem_singleton.1 hm]; exact hlT
     · have hs : zkX v l = v.set (absI l).toNat (if 0 < l then 1 else 2) := by unfold zkX; rw [if_pos hc]
       have hk : (absI l).toNat ≠ 0 := by unfold absI; split <;> omega
       have hz := h.zero
       simp only at hz ⊢
       rw [hs, List.getD_eq_getElem?_getD, List.getElem?_set_ne hk, ← List.getD_eq_getElem?_getD]
       exact hz
     · simp only at hm ⊢
       rw [hT]
       simp [setL, hm]
     · simp only at hm ⊢
       rw [hT] at hm
       simp only [setL, Bool.or_eq_true, beq_iff_eq] at hm
       rcases hm with rfl | hm
       · exact .inr (List.mem_append_right _ (List.mem_singleton.2 rfl))
       · exact .inl hm
     · have hz := zqi h.val hi' h0
       have hl'' := zbs.1 hi'
       have hlt : (absI l).toNat < v.length := by unfold absI; split <;> omega
       simp only at hz hlt ⊢
       have hget : v[(absI l).toNat] = 0 := by rw [List.getD_eq_getElem?_getD, List.getElem?_eq_getElem hlt] at hz; exact hz
       have hs : zkX v l = v.set (absI l).toNat (if 0 < l then 1 else 2) := by unfold zkX; rw [if_pos hc]
       have hpos : 0 < v.count 0 := List.count_pos_iff.2 (hget ▸ List.getElem_mem hlt)
       rw [hs, List.count_set hlt, hget]
       have hne : ((if 0 < l then (1 : Int) else 2) == 0) = false := by split <;> rfl
       rw [hne]
       simp
       omega
     · simp only
       rw [hT]; exact hlT
   · rw [if_neg hc]
     have h2 : zfX v l = 2 := by
       by_cases e : zfX v l = 2
       · exact e
       · exact absurd (zjJ.2 ⟨hi', e⟩) hc
     exact h.fnd.cfl hl (by simp only; rw [zse h.val]; exact decide_eq_true h2)
theorem zBg {s : St} (h : Inv C S n s) {c : List Int} (hc : c ∈ C) (hr : ∀ l ∈ c, zjg l n = true) : match ztL s c with
   | none => Cfl C S
   | some t => Inv C S n t ∧ Stp' s t ∧ c ≠ [] ∧ Sat1 (zgB t.1) c := by
 have hW := ztc h.val c
 unfold ztL
 rw [hW]
 simp only
 by_cases h2 : zCW (zfU (zgB s.1) c).1 = 2
 · rw [if_pos h2]
   have : (zfU (zgB s.1) c).1 = .fa := by
     cases he : (zfU (zgB s.1) c).1 with
     | fa => rfl
     | tr => rw [he] at h2; cases h2
     | un => rw [he] at h2; cases h2
   exact h.fnd.cfl_clause hc this
 · rw [if_neg h2]
   have hfa : (zfU (zgB s.1) c).1 ≠ .fa := fun e => h2 (by rw [e]; rfl)
   have hne : c ≠ [] := fun e => hfa (by rw [e]; rfl)
   by_cases h0 : (zfU (zgB s.1) c).2 = 0
   · rw [if_pos h0]
     exact ⟨h, Stp'.refl _, hne, zCN hfa h0 fun l hl => (zbs.1 (hr l hl)).1⟩
   · rw [if_neg h0]
     have hweq : zfU (zgB s.1) c = ((zfU (zgB s.1) c).1, (zfU (zgB s.1) c).2) := rfl
     obtain ⟨u1, u2, u3, u4⟩ := zBT hweq h0
     have hup := h.fnd.unit hc hweq h0
     have := zxJ h hup (hr _ u1)
     cases hs : setV s (zfU (zgB s.1) c).2 with
     | none => rw [hs] at this; exact this
     | some t =>
       rw [hs] at this
       obtain ⟨a, b, e⟩ := this
       refine ⟨a, b, hne, fun l hl hm => ?_⟩
       by_cases e1 : l = (zfU (zgB s.1) c).2
       · rw [e1]; exact e
       · have := hm _ u1 (fun e2 => e1 e2.symm)
         rw [a.fnd.con _ e] at this
         cases this
theorem zwf : ∀ {L : List Int} {s : St}, Inv C S n s → (∀ l ∈ L, Up C S l ∧ zjg l n = true) → match allV setV s L with
   | none => Cfl C S
   | some t => Inv C S n t ∧ Stp' s t ∧ ∀ l ∈ L, zgB t.1 l = true
 | [], s, h, _ => ⟨h, Stp'.refl _, fun l hl => by cases hl⟩
 | l :: L, s, h, hL => by
   have h1 := zxJ h (hL l (List.mem_cons_self ..)).1 (hL l (List.mem_cons_self ..)).2
   unfold allV
   cases hs : setV s l with
   | none => rw [hs] at h1; exact h1
   | some t =>
     rw [hs] at h1
     have h2 := zwf (L := L) h1.1 fun m hm => hL m (List.mem_cons_of_mem _ hm)
     simp only
     cases hs2 : allV setV t L with
     | none => rw [hs2] at h2; exact h2
     | some u =>
       rw [hs2] at h2
       refine ⟨h2.1, h1.2.1.trans h2.2.1, fun m hm => ?_⟩
       rcases List.mem_cons.1 hm with rfl | hm
       · exact h2.2.1.mono _ h1.2.2
       · exact h2.2.2 m hm
theorem zsN : ∀ {L : List (List Int)} {s : St}, Inv C S n s → (∀ c ∈ L, c ∈ C ∧ ∀ l ∈ c, zjg l n = true) → match allV ztL s L with
   | none => Cfl C S
   | some t => Inv C S n t ∧ Stp' s t ∧ ∀ c ∈ L, c ≠ [] ∧ ∃ u : St, Stp' s u ∧ Stp' u t ∧ Sat1 (zgB u.1) c
 | [], s, h, _ => ⟨h, Stp'.refl _, fun l hl => by cases hl⟩
 | c :: L, s, h, hL => by
   have h1 := zBg h (hL c (List.mem_cons_self ..)).1 (hL c (List.mem_cons_self ..)).2
   unfold allV
   cases hs : ztL s c with
   | none => rw [hs] at h1; exact h1
   | some t =>
     rw [hs] at h1
     have h2 := zsN (L := L) h1.1 fun m hm => hL m (List.mem_cons_of_mem _ hm)
     simp only
     cases hs2 : allV ztL t L with
     | none => rw [hs2] at h2; exact h2
     | some u =>
       rw [hs2] at h2
       refine ⟨h2.1, h1.2.1.trans h2.2.1, fun m hm => ?_⟩
       rcases List.mem_cons.1 hm with rfl | hm
       · exact ⟨h1.2.2.1, t, h1.2.1, h2.2.1, h1.2.2.2⟩
       · obtain ⟨a, w, b, e, f⟩ := h2.2.2 m hm
         exact ⟨a, w, h1.2.1.trans b, e, f⟩
theorem zp7.step2 {T T' P : Int → Bool} {k : Int} (h : zp7 C T P) (hT : ∀ l, T l = true → T' l = true) (hs : ∀ c ∈ C, -k ∈ c → ∃ U : Int → Bool, (∀ l, setL P k l = true → U l = true) ∧ (∀ l, U l = true → T' l = true) ∧ Sat1 U c) : zp7 C T' (setL P k) := by
 intro c hc h2 l hl hm
 by_cases hkc : -k ∈ c
 · obtain ⟨U, u1, u2, u3⟩ := hs c hc hkc
   exact u2 l (u3 l hl fun m hm' hne => u1 _ (hm m hm' hne))
 · refine hT l (h c hc h2 l hl fun m hm' hne => ?_)
   have := hm m hm' hne
   simp only [setL, Bool.or_eq_true, beq_iff_eq] at this
   rcases this with e | e
   · exact absurd (by rw [← e, Int.neg_neg]; exact hm') hkc
   · exact e
theorem zyB {by' : Int → List (List Int)} (hby : ∀ x c, c ∈ by' x ↔ c ∈ C ∧ x ∈ c) (hlit : ∀ c ∈ C, ∀ l ∈ c, zjg l n = true) : ∀ (N : Nat) (s : St) (P : Int → Bool), Inv C S n s → zp7 C (zgB s.1) P → (∀ m, P m = true → zgB s.1 m = true) → (∀ m, zgB s.1 m = true → P m = true ∨ m ∈ s.2) → (∀ c ∈ C, c.length < 2 → c ≠ [] ∧ Sat1 (zgB s.1) c) → (∀ l ∈ S, zgB s.1 l = true) → s.2.length + s.1.count 0 < N → match zur by' N s with
   | none => Cfl C S
   | some v => zxy C S (some (zgB v)) ∧ v.length = n + 1 ∧ (∀ x ∈ v, x = 0 ∨ x = 1 ∨ x = 2) ∧ v.getD 0 0 = 0
 | 0, s, P, h, h1, h2, h3, h4, h5, h6 => by omega
 | N + 1, (v, []), P, h, h1, h2, h3, h4, h5, h6 => by
   have hP : ∀ m, zgB v m = true → P m = true := fun m hm => by
     rcases h3 m hm with e | e
     · exact e
     · cases e
   have hw : zp7 C (zgB v) (zgB v) := fun c hc hl l hm ha => h1 c hc hl l hm fun m hm' hne => hP _ (ha m hm' hne)
   exact ⟨h.fnd.rest h5 (hw.done h4), h.len, h.val, h.zero⟩
 | N + 1, (v, l :: q), P, h, h1, h2, h3, h4, h5, h6 => by
   have hq : Inv C S n (v, q) := ⟨h.len, h.val, h.fnd, fun m hm => h.tru m (List.mem_cons_of_mem _ hm), h.zero⟩
   have hl : zgB v l = true := h.tru l (List.mem_cons_self ..)
   have ha := zsN (L := by' (-l)) hq fun c hc => ⟨((hby _ c).1 hc).1, hlit c ((hby _ c).1 hc).1⟩
   unfold zur
   cases hs : allV ztL (v, q) (by' (-l)) with
   | none => rw [hs] at ha; exact ha
   | some t =>
     rw [hs] at ha
     obtain ⟨a1, a2, a3⟩ := ha
     have hPl : ∀ m, setL P l m = true → zgB v m = true := fun m hm => by
       simp only [setL, Bool.or_eq_true, beq_iff_eq] at hm
       rcases hm with rfl | hm
       · exact hl
       · exact h2 m hm
     refine zyB hby hlit N t (setL P l) a1 (h1.step2 a2.mono fun c hc hk => ?_) (fun m hm => a2.mono m (hPl m hm)) (fun m hm => ?_) (fun c hc hlen => Sat1.mono1 hlen (h4 c hc hlen) a2.mono) (fun m hm => a2.mono m (h5 m hm)) ?_
     · obtain ⟨_, u, b1, b2, b3⟩ := a3 c ((hby _ c).2 ⟨hc, hk⟩)
       exact ⟨zgB u.1, fun m hm => b1.mono m (hPl m hm), b2.mono, b3⟩
     · rcases a2.new m hm with e | e
       · rcases h3 m e with e | e
         · exact .inl (by simp [setL, e])
         · rcases List.mem_cons.1 e with rfl | e
           · exact .inl (by simp [setL])
           · exact .inr (a2.keep m e)
       · exact .inr e
     · have := a2.cnt
       simp only [List.length_cons] at h6 this
       omega
theorem zv9 (k : Nat) (l : Int) : zfX (List.replicate k 0) l = 0 := by
 cases hl : zjg l (((List.replicate k (0 : Int)).length : Int) - 1) with
 | false => exact zpQ hl
 | true =>
   have hl' := zbs.1 hl
   have hg : (List.replicate k (0 : Int)).getD (absI l).toNat 0 = 0 := by
     rw [List.getD_eq_getElem?_getD, List.getElem?_replicate]
     split <;> rfl
   rw [zlq hl, hg]
   simp
theorem zzQ {by' : Int → List (List Int)} {small : List (List Int)} (hby : ∀ x c, c ∈ by' x ↔ c ∈ C ∧ x ∈ c) (hsm : ∀ c, c ∈ small ↔ c ∈ C ∧ c.length < 2) (hnd : ∀ c ∈ C, c.Nodup) (hlit : ∀ c ∈ C, ∀ l ∈ c, zjg l n = true) (hS : ∀ l ∈ S, zjg l n = true) {N : Nat} (hN : n + 1 < N) : match zr9 by' small n N S with
   | none => Cfl C S
   | some v => zxy C S (some (zgB v)) ∧ v.length = n + 1 ∧ (∀ x ∈ v, x = 0 ∨ x = 1 ∨ x = 2) ∧ v.getD 0 0 = 0 := by
 have hT0 : zgB (List.replicate (n + 1) 0) = fun _ => false := by
   funext l
   unfold zgB
   rw [zv9]; rfl
 have h0 : Inv C S n (List.replicate (n + 1) 0, []) := ⟨by simp, fun x hx => .inl (List.eq_of_mem_replicate hx), by simp only; rw [hT0]; exact Fnd.none C S, (fun m hm => by cases hm), by simp⟩
 have h1 := zwf (L := S) h0 fun l hl => ⟨.start hl, hS l hl⟩
 unfold zr9
 cases hs : allV setV (List.replicate (n + 1) 0, []) S with
 | none => rw [hs] at h1; exact h1
 | some s =>
   rw [hs] at h1
   obtain ⟨a1, a2, a3⟩ := h1
   simp only
   have h2 := zsN (L := small) a1 fun c hc => ⟨((hsm c).1 hc).1, hlit c ((hsm c).1 hc).1⟩
   cases hs2 : allV ztL s small with
   | none => rw [hs2] at h2; exact h2
   | some t =>
     rw [hs2] at h2
     obtain ⟨b1, b2, b3⟩ := h2
     simp only
     have hst := a2.trans b2
     refine zyB hby hlit N t (fun _ => false) b1 (zp7.none hnd _) (fun m hm => by cases hm) (fun m hm => ?_) (fun c hc hl => ?_) (fun l hl => b2.mono l (a3 l hl)) ?_
     · rcases hst.new m hm with e | e
       · simp only at e
         rw [hT0] at e
         cases e
       · exact .inr e
     · obtain ⟨c1, u, c2, c3, c4⟩ := b3 c ((hsm c).2 ⟨hc, hl⟩)
       exact Sat1.mono1 hl ⟨c1, c4⟩ c3.mono
     · have := hst.cnt
       simp only [List.length_nil, List.count_replicate_self, Nat.zero_add] at this
       omega
end
end Go.Proofs.YtdmbfmgebgdfnaaDoor
namespace Go.Proofs.YtdmbfmgebgdfnaaDoor
def zqp (v : List Int) : List (List Int) → Bool → Option (List Int × Bool)
 | [], m => some (v, m)
 | c :: r, m => if (zbn v c).1 = 2 then none else if (zbn v c).2 = 0 then zqp v r m else if zjm v (zbn v c).2 = true then zqp (zkX v (zbn v c).2) r true else none
def refV (C : List (List Int)) : Nat → List Int → Option (List Int)
 | 0, _ => none
 | n + 1, v => match zqp v C false with
   | none => none
   | some p => if p.2 = true then refV C n p.1 else some p.1
def zqj (v : List Int) : List Int → Option (List Int)
 | [] => some v
 | l :: r => if zjm v l = true then zqj (zkX v l) r else none
def zrQ (C : List (List Int)) (n N : Nat) (S : List Int) : Option (List Int) := match zqj (List.replicate (n + 1) 0) S with
 | none => none
 | some v => refV C N v
section
variable {C : List (List Int)} {S : List Int} {n : Nat}
theorem Inv.drop {v q : List Int} (h : Inv C S n (v, q)) : Inv C S n (v, []) := ⟨h.len, h.val, h.fnd, (fun m hm => by cases hm), h.zero⟩
theorem zCe {v : List Int} (h : Inv C S n (v, [])) {l : Int} (hl : Up C S l) (hi : zjg l n = true) : (zjm v l = true → Inv C S n (zkX v l, []) ∧ (∀ m, zgB v m = true → zgB (zkX v l) m = true) ∧ zgB (zkX v l) l = true ∧ (zkX v l).count 0 ≤ v.count 0 ∧ (zfX v l = 0 → (zkX v l).count 0 < v.count 0)) ∧ (zjm v l ≠ true → Cfl C S) := by
 have h1 := zxJ h hl hi
 have hlen := h.len
 have hi' : zjg l ((v.length : Int) - 1) = true := by
   have : (v.length : Int) - 1 = n := by simp only at hlen; omega
   rw [this]; exact hi
 unfold setV at h1
 by_cases e1 : zfX v l = 1
 · have hc : zjm v l = true := zjJ.2 ⟨hi', by rw [e1]; simp⟩
   refine ⟨fun _ => ?_, fun h => absurd hc h⟩
   have hT := zwb h.val hc
   have htl : zgB v l = true := decide_eq_true e1
   have hsame : zgB (zkX v l) = zgB v := by
     rw [hT]
     funext m
     simp only [setL]
     by_cases e : m = l
     · rw [e, htl]; simp
     · rw [beq_false_of_ne e, Bool.false_or]
   have hs : zkX v l = v := by
     have hl' := zbs.1 hi'
     have hlt : (absI l).toNat < v.length := by unfold absI; split <;> omega
     have hx : v[(absI l).toNat] = (if 0 < l then (1 : Int) else 2) := by
       rw [zlq hi'] at e1
       have hg : v.getD (absI l).toNat 0 = v[(absI l).toNat] := by rw [List.getD_eq_getElem?_getD, List.getElem?_eq_getElem hlt]; rfl
       rw [hg] at e1
       have hv := h.val _ (List.getElem_mem hlt)
       split at e1
       · rename_i hneg
         rw [if_neg (by omega)]; omega
       · rename_i hneg
         by_cases h0 : 0 < l
         · rw [if_pos h0]; exact e1
         · exfalso
           apply hneg
           refine ⟨by omega, by omega⟩
     unfold zkX
     rw [if_pos hc, ← hx]
     exact List.set_getElem_self hlt
   rw [hs]
   exact ⟨h, fun m hm => hm, htl, Nat.le_refl _, fun e => by rw [e1] at e; cases e⟩
 · rw [if_neg e1] at h1
   by_cases hc : zjm v l = true
   · rw [if_pos hc] at h1
     obtain ⟨a, b, c⟩ := h1
     have hcnt := b.cnt
     simp only [List.nil_append, List.length_singleton, List.length_nil, Nat.zero_add] at hcnt
     exact ⟨fun _ => ⟨a.drop, b.mono, c, by omega, fun _ => by omega⟩, fun h => absurd hc h⟩
   · rw [if_neg hc] at h1
     exact ⟨fun h => absurd h hc, fun _ => h1⟩
theorem zvr : ∀ {L : List (List Int)} {v : List Int} {m : Bool}, Inv C S n (v, []) → (∀ c ∈ L, c ∈ C ∧ ∀ l ∈ c, zjg l n = true) → match zqp v L m with
   | none => Cfl C S
   | some p => Inv C S n (p.1, []) ∧ (∀ k, zgB v k = true → zgB p.1 k = true) ∧ p.1.count 0 ≤ v.count 0 ∧ (p.2 = false → m = false ∧ p.1 = v ∧ ∀ c ∈ L, c ≠ [] ∧ Sat1 (zgB v) c) ∧ (p.2 = true → m = true ∨ p.1.count 0 < v.count 0)
 | [], v, m, h, _ => ⟨h, fun _ h => h, Nat.le_refl _, fun e => ⟨e, rfl, fun c hc => by cases hc⟩, fun e => .inl e⟩
 | c :: L, v, m, h, hL => by
   obtain ⟨hcC, hr⟩ := hL c (List.mem_cons_self ..)
   have hL' : ∀ c ∈ L, c ∈ C ∧ ∀ l ∈ c, zjg l n = true := fun d hd => hL d (List.mem_cons_of_mem _ hd)
   have hW := ztc h.val c
   simp only at hW
   unfold zqp
   rw [hW]
   simp only
   by_cases h2 : zCW (zfU (zgB v) c).1 = 2
   · rw [if_pos h2]
     have : (zfU (zgB v) c).1 = .fa := by
       cases he : (zfU (zgB v) c).1 with
       | fa => rfl
       | tr => rw [he] at h2; cases h2
       | un => rw [he] at h2; cases h2
     exact h.fnd.cfl_clause hcC this
   · rw [if_neg h2]
     have hfa : (zfU (zgB v) c).1 ≠ .fa := fun e => h2 (by rw [e]; rfl)
     have hne : c ≠ [] := fun e => hfa (by rw [e]; rfl)
     by_cases h0 : (zfU (zgB v) c).2 = 0
     · rw [if_pos h0]
       have ih := zvr (L := L) (v := v) (m := m) h hL'
       cases hs : zqp v L m with
       | none => rw [hs] at ih; exact ih
       | some p =>
         rw [hs] at ih
         obtain ⟨i1, i2, i3, i4, i5⟩ := ih
         refine ⟨i1, i2, i3, fun e => ?_, i5⟩
         obtain ⟨j1, j2, j3⟩ := i4 e
         refine ⟨j1, j2, fun d hd => ?_⟩
         rcases List.mem_cons.1 hd with rfl | hd
         · exact ⟨hne, zCN hfa h0 fun l hl => (zbs.1 (hr l hl)).1⟩
         · exact j3 d hd
     · rw [if_neg h0]
       have hweq : zfU (zgB v) c = ((zfU (zgB v) c).1, (zfU (zgB v) c).2) := rfl
       obtain ⟨u1, u2, u3, u4⟩ := zBT hweq h0
       have hup := h.fnd.unit hcC hweq h0
       generalize (zfU (zgB v) c).2 = l at *
       obtain ⟨p1, p2⟩ := zCe h hup (hr _ u1)
       by_cases hc : zjm v l = true
       · rw [if_pos hc]
         obtain ⟨a1, a2, a3, a4, a5⟩ := p1 hc
         have hv0 : zfX v l = 0 := by
           have h1 : zfX v l ≠ 1 := of_decide_eq_false u2
           have h2 := (zjJ.1 hc).2
           rcases zi1 h.val l with e | e | e
           · exact e
           · exact absurd e h1
           · exact absurd e h2
         have ih := zvr (L := L) (v := zkX v l) (m := true) a1 hL'
         cases hs : zqp (zkX v l) L true with
         | none => rw [hs] at ih; exact ih
         | some p =>
           rw [hs] at ih
           obtain ⟨i1, i2, i3, i4, i5⟩ := ih
           have := a5 hv0
           refine ⟨i1, fun k hk => i2 k (a2 k hk), by omega, fun e => ?_, fun _ => .inr (by omega)⟩
           have := (i4 e).1
           cases this
       · rw [if_neg hc]
         exact p2 hc
theorem zCc (hlit : ∀ c ∈ C, ∀ l ∈ c, zjg l n = true) : ∀ (N : Nat) (v : List Int), Inv C S n (v, []) → (∀ l ∈ S, zgB v l = true) → v.count 0 < N → match refV C N v with
   | none => Cfl C S
   | some v => zxy C S (some (zgB v)) ∧ v.length = n + 1 ∧ (∀ x ∈ v, x = 0 ∨ x = 1 ∨ x = 2) ∧ v.getD 0 0 = 0
 | 0, v, h, h1, h2 => by omega
 | N + 1, v, h, h1, h2 => by
   have hr := zvr (L := C) (v := v) (m := false) h fun c hc => ⟨hc, hlit c hc⟩
   unfold refV
   cases hs : zqp v C false with
   | none => rw [hs] at hr; exact hr
   | some p =>
     rw [hs] at hr
     obtain ⟨a1, a2, a3, a4, a5⟩ := hr
     simp only
     cases hp : p.2 with
     | true =>
       rw [if_pos rfl]
       refine zCc hlit N p.1 a1 (fun l hl => a2 l (h1 l hl)) ?_
       rcases a5 hp with e | e
       · cases e
       · omega
     | false =>
       rw [if_neg (by simp)]
       obtain ⟨_, b2, b3⟩ := a4 hp
       rw [b2]
       exact ⟨h.fnd.rest h1 b3, h.len, h.val, h.zero⟩
theorem zxC : ∀ {L : List Int} {v : List Int}, Inv C S n (v, []) → (∀ l ∈ L, Up C S l ∧ zjg l n = true) → match zqj v L with
   | none => Cfl C S
   | some w => Inv C S n (w, []) ∧ (∀ k, zgB v k = true → zgB w k = true) ∧ (∀ l ∈ L, zgB w l = true) ∧ w.count 0 ≤ v.count 0
 | [], v, h, _ => ⟨h, fun _ h => h, (fun l hl => by cases hl), Nat.le_refl _⟩
 | l :: L, v, h, hL => by
   obtain ⟨p1, p2⟩ := zCe h (hL l (List.mem_cons_self ..)).1 (hL l (List.mem_cons_self ..)).2
   unfold zqj
   by_cases hc : zjm v l = true
   · rw [if_pos hc]
     obtain ⟨a1, a2, a3, a4, _⟩ := p1 hc
     have ih := zxC (L := L) a1 fun m hm => hL m (List.mem_cons_of_mem _ hm)
     cases hs : zqj (zkX v l) L with
     | none => rw [hs] at ih; exact ih
     | some w =>
       rw [hs] at ih
       obtain ⟨i1, i2, i3, i4⟩ := ih
       refine ⟨i1, fun k hk => i2 k (a2 k hk), fun m hm => ?_, by omega⟩
       rcases List.mem_cons.1 hm with rfl | hm
       · exact i2 _ a3
       · exact i3 m hm
   · rw [if_neg hc]
     exact p2 hc
theorem zzl (hlit : ∀ c ∈ C, ∀ l ∈ c, zjg l n = true) (hS : ∀ l ∈ S, zjg l n = true) {N : Nat} (hN : n + 1 < N) : match zrQ C n N S with
   | none => Cfl C S
   | some v => zxy C S (some (zgB v)) ∧ v.length = n + 1 ∧ (∀ x ∈ v, x = 0 ∨ x = 1 ∨ x = 2) ∧ v.getD 0 0 = 0 := by
 have hT0 : zgB (List.replicate (n + 1) 0) = fun _ => false := by
   funext l
   unfold zgB
   rw [zv9]; rfl
 have h0 : Inv C S n (List.replicate (n + 1) 0, []) := ⟨by simp, fun x hx => .inl (List.eq_of_mem_replicate hx), by simp only; rw [hT0]; exact Fnd.none C S, (fun m hm => by cases hm), by simp⟩
 have h1 := zxC (L := S) h0 fun l hl => ⟨.start hl, hS l hl⟩
 unfold zrQ
 cases hs : zqj (List.replicate (n + 1) 0) S with
 | none => rw [hs] at h1; exact h1
 | some v =>
   rw [hs] at h1
   obtain ⟨a1, _, a3, a4⟩ := h1
   simp only
   refine zCc hlit N v a1 a3 ?_
   rw [List.count_replicate_self] at a4
   omega
end
end Go.Proofs.YtdmbfmgebgdfnaaDoor
namespace Go.Proofs.YtdmbfmgebgdfnaaDoor
abbrev zkQ := List (Option (List Int))
def atB (cl : zkQ) (i : Nat) : Option (List Int) := cl.getD i none
def idsP (p : List Int → Bool) (cl : zkQ) : List Nat := (List.range cl.length).filter fun i => match atB cl i with
 | some l => p l
 | none => false
theorem ztJ {p : List Int → Bool} {cl : zkQ} {i : Nat} : i ∈ idsP p cl ↔ ∃ l, atB cl i = some l ∧ p l = true := by
 unfold idsP
 rw [List.mem_filter, List.mem_range]
 cases h : atB cl i with
 | none => simp
 | some l =>
   have hi : i < cl.length := by
     rcases Nat.lt_or_ge i cl.length with h1 | h1
     · exact h1
     · unfold atB at h
       rw [List.getD_eq_getElem?_getD, List.getElem?_eq_none h1] at h
       cases h
   simp [hi]
theorem zyl (p : List Int → Bool) (cl : zkQ) (l : List Int) : idsP p (cl ++ [some l]) = idsP p cl ++ (if p l = true then [cl.length] else []) := by
 unfold idsP
 rw [List.length_append, List.length_singleton, List.range_succ, List.filter_append]
 congr 1
 · apply List.filter_congr
   intro i hi
   have hi := List.mem_range.1 hi
   have : atB (cl ++ [some l]) i = atB cl i := by
     unfold atB
     rw [List.getD_eq_getElem?_getD, List.getElem?_append_left hi, ← List.getD_eq_getElem?_getD]
   rw [this]
 · have : atB (cl ++ [some l]) cl.length = some l := by
     unfold atB
     rw [List.getD_eq_getElem?_getD, List.getElem?_append_right (Nat.le_refl _), Nat.sub_self]
     rfl
   rw [List.filter_cons, this]
   simp only [List.filter_nil]
theorem zCG (cl : zkQ) (i j : Nat) : atB (cl.set i none) j = if i = j then none else atB cl j := by
 unfold atB
 rw [List.getD_eq_getElem?_getD, List.getElem?_set]
 by_cases h : i = j
 · rw [if_pos h, if_pos h]
   split <;> rfl
 · rw [if_neg h, if_neg h, ← List.getD_eq_getElem?_getD]
theorem zBl (p : List Int → Bool) (cl : zkQ) (i : Nat) : idsP p (cl.set i none) = (idsP p cl).filter fun k => k != i := by
 unfold idsP
 rw [List.length_set, List.filter_filter]
 apply List.filter_congr
 intro j _
 rw [zCG]
 by_cases h : i = j
 · subst h; simp
 · rw [if_neg h]
   have : (j != i) = true := by simp; omega
   rw [this]
   simp
def fstB (cl : zkQ) (l : List Int) : Option Nat := (List.range cl.length).find? fun i => atB cl i == some l
theorem ztQ {α : Type} (p q : α → Bool) : ∀ (L : List α), (∀ a ∈ L, q a = true → p a = true) → (L.filter p).find? q = L.find? q
 | [], _ => rfl
 | a :: L, h => by
   have ih := ztQ p q L fun b hb => h b (List.mem_cons_of_mem _ hb)
   rw [List.filter_cons]
   by_cases hp : p a = true
   · rw [if_pos hp, List.find?_cons, List.find?_cons, ih]
   · rw [if_neg hp, List.find?_cons, ih]
     have : q a = false := by
       cases hq : q a with
       | false => rfl
       | true => exact absurd (h a (List.mem_cons_self ..) hq) hp
     rw [this]
theorem zyk {p : List Int → Bool} {cl : zkQ} {l : List Int} (hp : p l = true) : (idsP p cl).find? (fun i => atB cl i == some l) = fstB cl l := by
 unfold idsP fstB
 apply ztQ
 intro i _ h
 have : atB cl i = some l := by simpa using h
 rw [this]
 exact hp
def zep (cl : zkQ) : List (List Int) := cl.filterMap id
theorem zwd (cl : zkQ) (l : List Int) : zep (cl ++ [some l]) = zep cl ++ [l] := by simp [zep]
theorem zwD (o : Option (List Int)) (cl : zkQ) (l : List Int) : fstB (o :: cl) l = if o = some l then some 0 else (fstB cl l).map (· + 1) := by
 unfold fstB
 rw [List.length_cons, List.range_succ_eq_map, List.find?_cons]
 have h0 : atB (o :: cl) 0 = o := rfl
 rw [h0]
 by_cases h : o = some l
 · have : (o == some l) = true := by simp [h]
   rw [this, if_pos h]
 · have : (o == some l) = false := by simpa using h
   rw [this, if_neg h, List.find?_map]
   rfl
theorem zwC {l : List Int} : ∀ {cl : zkQ}, fstB cl l = none → l ∉ zep cl
 | [], _, h => by cases h
 | o :: cl, h0, h => by
   rw [zwD] at h0
   by_cases e : o = some l
   · rw [if_pos e] at h0; cases h0
   · rw [if_neg e] at h0
     have h1 : fstB cl l = none := by
       cases hf : fstB cl l with
       | none => rfl
       | some i => rw [hf] at h0; cases h0
     have ih := zwC h1
     cases o with
     | none => exact ih (by simpa [zep] using h)
     | some m =>
       have : l = m ∨ l ∈ zep cl := by simpa [zep] using h
       rcases this with rfl | h2
       · exact e rfl
       · exact ih h2
theorem zsp {l : List Int} : ∀ {cl : zkQ} {i : Nat}, fstB cl l = some i → atB cl i = some l ∧ l ∈ zep cl ∧ zep (cl.set i none) = (zep cl).erase l
 | [], i, h => by cases h
 | o :: cl, i, h => by
   rw [zwD] at h
   by_cases e : o = some l
   · rw [if_pos e] at h
     cases h
     subst e
     refine ⟨rfl, by simp [zep], by simp [zep]⟩
   · rw [if_neg e] at h
     cases hf : fstB cl l with
     | none => rw [hf] at h; cases h
     | some j =>
       rw [hf] at h
       cases h
       obtain ⟨h1, h2, h3⟩ := zsp hf
       refine ⟨h1, ?_, ?_⟩
       · cases o with
         | none => simpa [zep] using h2
         | some m => exact List.mem_cons_of_mem _ h2
       · cases o with
         | none => simpa [zep] using h3
         | some m =>
           have hne : m ≠ l := fun h => e (by rw [h])
           have e1 : zep ((some m :: cl).set (j + 1) none) = m :: zep (cl.set j none) := by simp [zep]
           have e2 : zep (some m :: cl) = m :: zep cl := by simp [zep]
           rw [e1, e2, h3, List.erase_cons_tail (by simpa using hne)]
end Go.Proofs.YtdmbfmgebgdfnaaDoor
namespace Go.Proofs.YtdmbfmgebgdfnaaDoor
open Go.RowKit Go.Sort
section
variable {fuel : Nat}
theorem zwN (e : Nat) {l : List Int} (hl : l.length < 1000000000) {h : AH} {s : Sl} (hs : h.sliceCells 1 s = some (zaS l)) :
   ∃ s', (l = [] → ∃ h', run fuel (e + 1) zc1 [.slice s] h = some (.slice s', h') ∧ h' = h ∧ (s' = .nil ∨ s' = .lst 0 true [])) ∧
     (l ≠ [] → run fuel (e + 1) zc1 [.slice s] h = some (.slice (.mk ⟨h.next, 0, 0⟩ l.length false), h.push 1 (zaS l))) := by
 have hlen := za7 hs
 simp only [List.length_map, Nat.mul_one] at hlen
 by_cases h0 : l = []
 · subst h0
   have h0' : s.len = 0 := by simpa using hlen.symm
   cases s with
   | nil =>
     refine ⟨.nil, fun _ => ⟨h, ?_, rfl, .inl rfl⟩, fun h => absurd rfl h⟩
     rw [zyN rfl rfl fuel e h rfl, zfr, zoK]; rfl
   | mk r n c =>
     simp only [Sl.len] at h0'
     subst h0'
     refine ⟨.lst 0 true [], fun _ => ⟨h, ?_, rfl, .inr rfl⟩, fun h => absurd rfl h⟩
     rw [zyN rfl rfl fuel e h rfl, zfr, zsJ]
     simp only [o_bd, cond_false, hs, zu1]
     rfl
   | lst n c cs =>
     simp only [Sl.len] at h0'
     subst h0'
     obtain ⟨rfl, _⟩ := zsk hs
     refine ⟨.lst 0 true [], fun _ => ⟨h, ?_, rfl, .inr rfl⟩, fun h => absurd rfl h⟩
     refine zzg rfl rfl rfl (v1 := .slice .nil) (v2 := .slice (.lst 0 true [])) ?_ ?_ rfl
     · rw [zfr, zoK]; rfl
     · rw [znX]; rfl
 · have hpos : 0 < l.length := List.length_pos_iff.2 h0
   refine ⟨.nil, fun h => absurd h h0, fun _ => ?_⟩
   have hn : zd0 .slice (.slice s) = some false := by
     cases s with
     | nil => simp only [Sl.len] at hlen; omega
     | mk r n c => rfl
     | lst n c cs =>
       simp only [Sl.len] at hlen
       simp only [zd0, zll, decide_eq_false (show ¬ n = 0 by omega), cond_false]
   have ho : zmR [.slice s] = false := by
     cases s with
     | nil => rfl
     | mk r n c => rfl
     | lst n c cs =>
       simp only [Sl.len] at hlen
       simp only [zmR, zll, decide_eq_false (show ¬ n = 0 by omega), Bool.false_and]
   rw [zyN rfl rfl fuel e h (by rw [ho, Bool.and_false]), zfr, hn]
   simp only [o_bd, cond_false, hs]
   rw [← hlen, zyS (n := 0) (cs := []) rfl (by omega) (by omega) (by omega)]
   simp
theorem zA0 (h : AH) (m : Nat) (r : Ref) (n : Nat) (c : Bool) : zl3 h (m + 1) (.slice (.mk r n c)) = (bif Nat.beq n 0 then [] else
       match h.rows[r.id]? with
       | some row => r.id :: (match h.sliceCells row.sz (.mk r n false) with | some cs => cs.flatMap (zl3 h m) | .none => [])
       | .none => []) := rfl
theorem zzm (h : AH) (m : Nat) (k : IntKind) (x : Int) : zl3 h (m + 1) (.int k x) = [] := rfl
theorem zxX {h : AH} {r : Ref} {n : Nat} {c : Bool} {l : List Int} (hs : h.sliceCells 1 (.mk r n c) = some (zaS l)) : ∀ i ∈ [AV.slice (.mk r n c)].flatMap (zl3 h 8), i = r.id := by
 intro i hi
 rw [List.flatMap_cons, List.flatMap_nil, List.append_nil, zA0] at hi
 by_cases hn : n = 0
 · subst hn
   cases hi
 · rw [zfc.2 hn, cond_false] at hi
   obtain ⟨row, h1, h2, _⟩ := zgb hs hn
   have hs' : h.sliceCells row.sz (.mk r n false) = some (zaS l) := by rw [h2]; exact hs
   rw [h1] at hi
   simp only [hs', List.mem_cons] at hi
   rcases hi with hi | hi
   · exact hi
   · obtain ⟨c, hc, hi⟩ := List.mem_flatMap.1 hi
     obtain ⟨x, _, rfl⟩ := List.mem_map.1 hc
     rw [zzm] at hi
     cases hi
theorem zBy (e : Nat) {h : AH} {r : Ref} {n : Nat} {c : Bool} {l : List Int} (hs : h.sliceCells 1 (.mk r n c) = some (zaS l)) :
   ∃ h', run fuel (e + 1) zey [.slice (.mk r n c)] h = some (.slice (lstI l), h') ∧ zcs h h' (· = r.id) := by
 refine ⟨_, zAd rfl rfl (zxp (i := 0) rfl rfl) (mm1 (zvG hs (zoE 6 _))) (r := .slice (.lst l.length true (zaS l))) (h' := AH.none) ?_ (zsY 7 _ _ (zi7 (fun _ => rfl) l)) rfl, (zye _).mono fun i _ hi => zxX hs i hi⟩
 have hlen := za7 hs
 simp only [List.length_map, Nat.mul_one, Sl.len] at hlen
 subst hlen
 rw [zld, zeW, zqJ (by omega) (by omega), o_bd, zqI, o_bd]
 have e1 : aMx (some (.int .i64 ((l.length : Nat) : Int))) (Int.toNat ((l.length : Nat) : Int)) = some true := by simp [aMx, zsa]
 rw [e1, o_bd, zyn, cond_true, Int.toNat_natCast]
 simp [Sl.cut, List.take_of_length_le]
theorem zzS (e : Nat) {h : AH} {s : Sl} (hs : s = .nil ∨ s = .lst 0 true []) : run fuel (e + 1) zey [.slice s] h = some (.slice (lstI []), h) := by
 have hb : brun fuel (e + 1) zey [.slice (.lst 0 false [])] AH.none = some (.slice (.lst 0 true []), AH.none) := by
   rw [zld]; rfl
 rcases hs with rfl | rfl
 · exact zft rfl rfl (cc1 (zzV 7)) hb rfl
 · exact zft rfl rfl (cc1 (zsu (n := 7) rfl)) hb rfl
theorem zy3 {e : Nat} (he : 50 ≤ e) {l : List Int} (hl : l.length < 1000000000) (hf : l.length + 10 < fuel) {h : AH} {s : Sl} (hs : h.sliceCells 1 s = some (zaS l)) :
   ∃ h', run fuel e zlo [.slice s] h = some (.tup [.slice (lstI (zeF l)), .bool (zwg (zeF l))], h') ∧ zcs h h' fun _ => False := by
 obtain ⟨e, rfl⟩ : ∃ e', e = e' + 49 + 1 := ⟨e - 50, by omega⟩
 have hlen := zle l
 have fin : ∀ h, ((zhE fuel (e + 49) fuel [(4, .slice (lstI (zeF l))), (5, .int .i64 1)] h).bind fun p => zgz fuel (e + 49) p.1 p.2.1 p.2.2) = some (.tup [.slice (lstI (zeF l)), .bool (zwg (zeF l))], h) := by
   intro h
   by_cases h0 : zeF l = []
   · obtain ⟨m, hm⟩ : ∃ m, fuel = m + 1 := ⟨fuel - 1, by omega⟩
     rw [h0]
     have := zm0 fuel (e + 49) m (lstI []) 1 h
     rw [← hm] at this
     rw [this, zeW, zah (by simp)]
     simp only [o_bd, zpF]
     rfl
   · have hpos : 0 < (zeF l).length := List.length_pos_iff.2 h0
     have := zze (fuel := fuel) (e + 49) (l := zeF l) (h := h) (by omega) (by omega) ((zeF l).length - 1) 1 fuel (by omega) (by omega) (by omega)
     simpa using this
 rw [zxm]
 obtain ⟨s', a1, a2⟩ := zwN (fuel := fuel) (e + 48) hl hs
 by_cases h0 : l = []
 · obtain ⟨h', e1, rfl, hs'⟩ := a1 h0
   subst h0
   rw [e1]
   simp only [o_bd, zac]
   have hsl : s'.len = 0 := by rcases hs' with rfl | rfl <;> rfl
   have hso : run fuel (e + 49) zen [.slice s', .func zi0 []] h' = some (.tup [], h') := by
     rw [zjh, hsl, zrl (by omega) (by omega), zyc fuel (e + 46) (by omega)]
     simp only [o_bd, zam]
     obtain ⟨m, hm⟩ : ∃ m, fuel = m + 1 := ⟨fuel - 1, by omega⟩
     rw [zem]
     have hp := zgU fuel (e + 47) m s' 0 ((0 : Nat) : Int) ((bitsLen 0 : Nat) : Int) zi0 [] true true h'
     rw [← hm] at hp
     have hi := zc8 fuel (e + 46) m s' 0 ((0 : Nat) : Int) zi0 [] (IntKind.wrap .i64 (0 + 1)) h'
     rw [← hm] at hi
     rw [hp, zeo (n := ((0 : Nat) : Int) - 0) (by omega) (by omega), zan (by omega), zgT, hi, zeo (by omega) (by omega), zah (by omega)]
     simp only [o_bd, zfh, zdf]
   have hc : run fuel (e + 49) zaM [.slice s'] h' = some (.slice s', h') := by
     rw [zjI, hsl, zan (by omega)]
   simp only [hso, hc, o_bd, zac, zzS (fuel := fuel) (e + 48) (h := h') hs']
   exact ⟨_, fin _, zcs.refl _ _⟩
 · rw [a2 h0]
   simp only [o_bd, zac]
   have o0 : Own (h.push 1 (zaS l)) 1 h.next 0 l.length (zaS (l.toArray).toList) := Own.of_push 1 _ _ (by simp)
   obtain ⟨h1, d1, e1, p1, s1, o1, k1⟩ := zvo (c := false) (f := zi0) (cps := []) (ord := ordL) (D := 3) (fuel := fuel) (by rw [zx8]; exact zB6) (zBb (by omega)) hl (by omega) (e := e + 49) (by omega) o0
   obtain ⟨h2, k2, c2, e2, q2, q3, q4⟩ := zxo (c := false) (fuel := fuel) (e + 48) hl (by omega) o1
   have hn := zvP (l := l) (d := d1) (by simpa using p1) (by rw [znG o1]; exact s1)
   rw [hn] at q2 q3
   subst q3
   obtain ⟨h3, hcl, k3⟩ := zBy (fuel := fuel) (e + 48) q2
   rw [e1]
   simp only [o_bd, e2, zac, hcl]
   refine ⟨h3, fin _, zkr (zcs.push _ _ _ _) ((k1.trans q4).trans k3) fun i hi => ?_⟩
   have : i = h.next := hi
   rw [this, zrv]; exact Nat.le_refl _
end
end Go.Proofs.YtdmbfmgebgdfnaaDoor
namespace Go.Proofs.YtdmbfmgebgdfnaaDoor
open Go.RowKit
theorem zqD {a b : AV} (hb : zgA 8 b = none) : zn1 [a, b] = none := by
 unfold zn1
 rw [List.mapM_cons, List.mapM_cons, hb]
 cases zgA 8 a <;> rfl
theorem zsM {f : AV → Option AV} {a b : AV} (hb : f b = none) : [a, b].mapM f = none := by
 rw [List.mapM_cons, List.mapM_cons, hb]
 cases f a <;> rfl
def idxF (p : Int → Bool) : List Int → Nat → Int
 | [], _ => -1
 | x :: l, k => if p x = true then (k : Int) else idxF p l (k + 1)
theorem zvE (p : Int → Bool) : ∀ (l : List Int) (k : Nat), decide ((0 : Int) ≤ idxF p l k) = l.any p
 | [], k => rfl
 | x :: l, k => by
   unfold idxF
   rw [List.any_cons]
   cases hp : p x with
   | true => simp
   | false => simp only [Bool.false_eq_true, if_false, Bool.false_or]; exact zvE p l (k + 1)
theorem zBk (fuel d : Nat) {c : List Int} {s : Sl} {f : Nat} {caps : List Pt} {p : Int → Bool} {h : AH} (hs : h.sliceCells 1 s = some (zaS c)) (hc : c.length < 1000000000) (hp : ∀ x ∈ c, run fuel d f ([.int .i64 x] ++ List.map .ptr caps) h = some (.bool (p x), h)) : ∀ (n k : Nat), c.length < n + k → k ≤ c.length →
   (zbk fuel d n [(0, .slice s), (1, .func f caps), (7, .int .i64 (c.length : Int)), (8, .int .i64 (k : Int))] h).bind (fun q => zaU fuel d q.1 q.2.1 q.2.2) = some (.int .i64 (idxF p (c.drop k) k), h) := by
 intro n
 induction n with
 | zero => intro k h1 h2; omega
 | succ n ih =>
   intro k h1 h2
   rw [zkR]
   by_cases hk : k < c.length
   · have hm : c.getD k 0 ∈ c := by rw [List.getD_eq_getElem?_getD, List.getElem?_eq_getElem hk]; exact List.getElem_mem hk
     rw [zan (by omega), zrr hs (by omega) (v := .int .i64 (c.getD k 0)) (by simp [hk]), zjk hk 0]
     simp only [o_bd, zam, hp _ hm, zaf, idxF]
     cases hq : p (c.getD k 0) with
     | true => simp only [cond_true, o_bd, zli, if_true]
     | false =>
       simp only [cond_false, Bool.false_eq_true, if_false]
       rw [zlr (by omega), ih (k + 1) (by omega) (by omega)]
   · have : k = c.length := by omega
     subst this
     rw [zah (by omega)]
     simp [zkV, idxF]
theorem zCm (fuel d : Nat) {c : List Int} {s : Sl} {f : Nat} {r : Ref} {lim : Nat} {p : Int → Bool} {h : AH} (hs : h.sliceCells 1 s = some (zaS c)) (hc : c.length < 1000000000) (hf : c.length < fuel) (hp : ∀ x ∈ c, run fuel d f [.int .i64 x, .ptr (.mk r lim)] h = some (.bool (p x), h)) :
   run fuel (d + 1) zbB [.slice s, .func f [.mk r lim]] h = some (.int .i64 (idxF p c 0), h) := by
 have hlen := za7 hs
 simp only [List.length_map, Nat.mul_one] at hlen
 rw [zvq rfl (zqD rfl) (zsM rfl), zne, ← hlen]
 have := zBk fuel d (c := c) (f := f) (caps := [.mk r lim]) (p := p) (h := h) hs hc hp fuel 0 (by omega) (by omega)
 rw [List.drop_zero] at this
 exact this
theorem zC5 (fuel d : Nat) {c : List Int} {s : Sl} {f : Nat} {r : Ref} {lim : Nat} {p : Int → Bool} {h : AH} (hs : h.sliceCells 1 s = some (zaS c)) (hc : c.length < 1000000000) (hf : c.length < fuel) (hp : ∀ x ∈ c, run fuel d f [.int .i64 x, .ptr (.mk r lim)] h = some (.bool (p x), h)) :
   run fuel (d + 2) zeR [.slice s, .func f [.mk r lim]] h = some (.bool (c.any p), h) := by
 rw [zvq rfl (zqD rfl) (zsM rfl), zlV, zCm fuel d hs hc hf hp]
 simp only [o_bd, zam, zvE]
end Go.Proofs.YtdmbfmgebgdfnaaDoor
namespace Go.Proofs.YtdmbfmgebgdfnaaDoor
open Go.RowKit
def optC (o : Option (List Int)) : AV := match o with
 | some l => .slice (lstI l)
 | none => .slice .nil
abbrev clC (cl : zkQ) : List AV := cl.map optC
abbrev thC (cl : zkQ) : List AV := cl.map fun o => .bool o.isSome
structure Bs where
 B : Nat
 m : Nat
 cS : Sl
 tS : Sl
 sS : Sl
 ks : List Key
abbrev idsI (p : List Int → Bool) (cl : zkQ) : List Int := (idsP p cl).map Int.ofNat
def zkb (l : List Int) : Bool := decide (l.length < 2)
def hasP (x : Int) (l : List Int) : Bool := decide (x ∈ l)
abbrev bObj (b : Bs) (n : Nat) (cl : zkQ) : zcJ := .own 1 b.B 0 6 [.int .i64 (n : Int), .slice b.cS, .slice b.tS, .map (some b.m), .slice b.sS, .int .i64 ((zep cl).length : Int)]
abbrev b5 (lo : Nat) (b : Bs) (n : Nat) (cl : zkQ) (R : List zcJ) : List zcJ :=
 bObj b n cl :: .part 1 b.cS (clC cl) :: .part 1 b.tS (thC cl) :: .part 1 b.sS (zaS (idsI zkb cl)) :: .mp lo b.m (esK b.ks) :: R
structure BOk (b : Bs) (n : Nat) (cl : zkQ) : Prop where
 keys : ∀ x, lisK x b.ks = idsI (hasP x) cl
 norm : ∀ l, some l ∈ cl → zeF l = l ∧ ∀ x ∈ l, zjg x n = true
 len : cl.length < 1000000
 vars : n ≤ 4000
 lens : ∀ l, some l ∈ cl → l.length < 100000
abbrev bP (b : Bs) : Pt := .mk ⟨b.B, 0, 0⟩ 6
theorem ztj {cl : zkQ} {i : Nat} {l : List Int} (h : atB cl i = some l) : some l ∈ cl ∧ i < cl.length := by
 unfold atB at h
 rw [List.getD_eq_getElem?_getD] at h
 by_cases hi : i < cl.length
 · rw [List.getElem?_eq_getElem hi] at h
   exact ⟨h ▸ List.getElem_mem hi, hi⟩
 · rw [List.getElem?_eq_none (by omega)] at h
   cases h
theorem zvk {cl : zkQ} {i : Nat} {l : List Int} (h : atB cl i = some l) : cl[i]? = some (some l) := by
 obtain ⟨_, hi⟩ := ztj h
 unfold atB at h
 rw [List.getD_eq_getElem?_getD, List.getElem?_eq_getElem hi] at h
 rw [List.getElem?_eq_getElem hi]
 exact congrArg some h
def byC (cl : zkQ) (ids : List Nat) : List (List Int) := ids.map fun i => (atB cl i).getD []
abbrev zfF (n : Nat) (c : List Int) : Bool := c.all fun l => zjg l n
theorem zwP {h : AH} (v : AV) : (h.push 1 [v]).cell (.mk ⟨h.next, 0, 0⟩ 1) = some v := by
 have := (Sep0.start h).push 1 1 (cs := [v]) rfl
 exact this.part (i := 0) rfl (by omega) rfl
theorem zxU (fuel d : Nat) {h0 h : AH} {L : List zcJ} (hs : Sep0 h0 h L) {i r B n : Nat} {cs : List AV} (hi : L[i]? = some (.own 1 B 0 6 (.int .i64 (n : Int) :: cs))) (hn : n ≤ 4000) (hr : h.cell (.mk ⟨r, 0, 0⟩ 1) = some (.ptr (.mk ⟨B, 0, 0⟩ 6))) (x : Int) :
   run fuel (d + 2) zln [.int .i64 x, .ptr (.mk ⟨r, 0, 0⟩ 1)] h = some (.bool (!zjg x n), h) := by
 have c0 : h.cell (.mk ⟨B, 0, 0 + 0⟩ 6) = some (.int .i64 (n : Int)) := hs.part hi (by omega) rfl
 rw [zrE]
 simp only [hr, o_bd, zjV, zjl, zcd, c0, zam, zBY, zaf]
 rw [zvC (by omega) (by omega)]
theorem zsg (fuel d : Nat) {h0 h : AH} {L : List zcJ} (hs : Sep0 h0 h L) {i B n : Nat} {cs : List AV} (hi : L[i]? = some (.own 1 B 0 6 (.int .i64 (n : Int) :: cs))) (hn : n ≤ 4000) {s : Sl} {c : List Int} (hc : h.sliceCells 1 s = some (zaS c)) (hcl : c.length < 1000000000) (hf : c.length < fuel) :
   ∃ h', run fuel (d + 5) zeT [.ptr (.mk ⟨B, 0, 0⟩ 6), .slice s] h = some (.bool (zfF n c), h') ∧ Sep0 h0 h' L ∧ zcs h h' fun _ => False := by
 rw [zs8]
 have hc' : (h.push 1 [.ptr (.mk ⟨B, 0, 0⟩ 6)]).sliceCells 1 s = some (zaS c) := zfn (zcs.push _ _ _ _) hc
 have s1 := hs.junk (cs := [.ptr (.mk ⟨B, 0, 0⟩ 6)])
 rw [zC5 fuel (d + 2) (p := fun x => !zjg x n) hc' hcl hf fun x _ => zxU fuel d s1 hi hn (zwP _) x]
 simp only [o_bd, zaf]
 refine ⟨_, ?_, s1, zcs.push _ _ _ _⟩
 have : (!c.any fun x => !zjg x n) = zfF n c := by
   unfold zfF
   induction c with
   | nil => rfl
   | cons a c ih =>
     rw [List.any_cons, List.all_cons, Bool.not_or]
     rw [List.any_eq_not_all_not, Bool.not_not]
     simp
 rw [this]
structure Ch where
 A : Nat
 V : Nat
 a : Nat
 q : Nat
 s : Nat
 b : Nat
abbrev cP (r : Nat) : Pt := .mk ⟨r, 0, 0⟩ 1
abbrev cloL (k : Ch) (bp : Pt) (v : List Int) (Q : Sl) (ql : List Int) (R : List zcJ) : List zcJ :=
 aV k.V v :: aO k.A k.V v :: .own 1 k.a 0 1 [.ptr (cP k.A)] :: .own 1 k.q 0 1 [.slice Q] :: .part 1 Q (zaS ql) :: .own 1 k.s 0 1 [.func zbY [cP k.a, cP k.q]] :: .own 1 k.b 0 1 [.ptr bp] :: R
theorem zyF {h0 h : AH} {k : Ch} {bp : Pt} {v : List Int} {Q : Sl} {ql : List Int} {R : List zcJ} (hs : Sep0 h0 h (cloL k bp v Q ql R)) : Sep0 h0 h R :=
 hs.sub (((List.Sublist.refl R).cons _ |>.cons _ |>.cons _ |>.cons _ |>.cons _ |>.cons _ |>.cons _))
structure VOk (n : Nat) (s : St) : Prop where
 len : s.1.length = n + 1
 val : ∀ x ∈ s.1, x = 0 ∨ x = 1 ∨ x = 2
 cnt : s.2.length + s.1.count 0 ≤ n + 1
 que : ∀ l ∈ s.2, zjg l n = true
theorem zvp {n : Nat} {s t : St} (h : VOk n s) {l : Int} (e : setV s l = some t) : VOk n t ∧ t.2.length + t.1.count 0 = s.2.length + s.1.count 0 := by
 obtain ⟨v, q⟩ := s
 obtain ⟨h1, h2, h3, h4⟩ := h
 simp only at h1 h2 h3 h4
 unfold setV at e
 by_cases e1 : zfX v l = 1
 · rw [if_pos e1] at e
   cases e
   exact ⟨⟨h1, h2, h3, h4⟩, rfl⟩
 · rw [if_neg e1] at e
   by_cases hc : zjm v l = true
   · rw [if_pos hc] at e
     cases e
     obtain ⟨hi, h2'⟩ := zjJ.1 hc
     have h0 : zfX v l = 0 := by
       rcases zi1 h2 l with e | e | e
       · exact e
       · exact absurd e e1
       · exact absurd e h2'
     have hz := zqi h2 hi h0
     have hl'' := zbs.1 hi
     have hlt : (absI l).toNat < v.length := by unfold absI; split <;> omega
     have hget : v[(absI l).toNat] = 0 := by rw [List.getD_eq_getElem?_getD, List.getElem?_eq_getElem hlt] at hz; exact hz
     have hso : zkX v l = v.set (absI l).toNat (if 0 < l then 1 else 2) := by unfold zkX; rw [if_pos hc]
     have hpos : 0 < v.count 0 := List.count_pos_iff.2 (hget ▸ List.getElem_mem hlt)
     have hne : ((if 0 < l then (1 : Int) else 2) == 0) = false := by split <;> rfl
     have hcnt : (zkX v l).count 0 = v.count 0 - 1 := by
       rw [hso, List.count_set hlt, hget, hne]
       simp
     refine ⟨⟨by simp only [znr]; exact h1, zro h2 l, ?_, fun m hm => ?_⟩, ?_⟩
     · simp only [List.length_append, List.length_singleton, hcnt]; omega
     · rcases List.mem_append.1 hm with hm | hm
       · exact h4 m hm
       · rw [List.mem_singleton.1 hm]
         have : (v.length : Int) - 1 = n := by omega
         rw [← this]; exact hi
     · simp only [List.length_append, List.length_singleton, hcnt]; omega
   · rw [if_neg hc] at e
     cases e
theorem zsl {n : Nat} {s t : St} (h : VOk n s) {c : List Int} (e : ztL s c = some t) : VOk n t ∧ t.2.length + t.1.count 0 = s.2.length + s.1.count 0 := by
 unfold ztL at e
 split at e
 · cases e
 · split at e
   · cases e; exact ⟨h, rfl⟩
   · exact zvp h e
theorem zuv {α : Type} {f : St → α → Option St} {n : Nat} (hf : ∀ {s t : St} {a : α}, VOk n s → f s a = some t → VOk n t ∧ t.2.length + t.1.count 0 = s.2.length + s.1.count 0) : ∀ {L : List α} {s t : St}, VOk n s → allV f s L = some t → VOk n t ∧ t.2.length + t.1.count 0 = s.2.length + s.1.count 0
 | [], s, t, h, e => by cases e; exact ⟨h, rfl⟩
 | a :: L, s, t, h, e => by
   simp only [allV] at e
   cases hs : f s a with
   | none => rw [hs] at e; cases e
   | some s' =>
     rw [hs] at e
     obtain ⟨h1, h2⟩ := hf h hs
     obtain ⟨h3, h4⟩ := zuv hf h1 e
     exact ⟨h3, by omega⟩
section
variable {h0 h : AH} {k : Ch} {bp : Pt} {v : List Int} {Q : Sl} {ql : List Int} {R : List zcJ} {n : Nat}
theorem zyD (fuel d : Nat) (hs : Sep0 h0 h (cloL k bp v Q ql R)) (hV : VOk n (v, ql)) (hn : n ≤ 4000) {l : Int} (hl : -9223372036854775807 ≤ l ∧ l ≤ 9223372036854775807) : match setV (v, ql) l with
   | none => ∃ h', run fuel (d + 4) zbY [.int .i64 l, .ptr (cP k.a), .ptr (cP k.q)] h = some (.bool false, h') ∧ Sep0 h0 h' R
   | some t => ∃ Q' h', run fuel (d + 4) zbY [.int .i64 l, .ptr (cP k.a), .ptr (cP k.q)] h = some (.bool true, h') ∧ Sep0 h0 h' (cloL k bp t.1 Q' t.2 R) := by
 have hlen := hV.len
 have hv := hV.val
 have hcnt := hV.cnt
 simp only at hlen hv hcnt
 have c0 : h.cell (.mk ⟨k.a, 0, 0⟩ 1) = some (.ptr (cP k.A)) := hs.part (i := 2) rfl (by omega) rfl
 have c1 : h.cell (.mk ⟨k.q, 0, 0⟩ 1) = some (.slice Q) := hs.part (i := 3) rfl (by omega) rfl
 have hql := hs.lenP (i := 4) rfl
 simp only [List.length_map, Nat.mul_one] at hql
 rw [zqB]
 simp only [o_bd, c0, zjV]
 rw [zt7 fuel (d + 1) hs (i := 1) (j := 0) rfl rfl hv (by omega) hl]
 simp only [o_bd, zam]
 unfold setV
 by_cases h1 : zfX v l = 1
 · rw [if_pos h1, zan h1]
   exact ⟨Q, h, rfl, hs⟩
 · rw [if_neg h1, zah h1]
   obtain ⟨Q', h7, e1, s1, _⟩ := hs.growP (i := 4) (bytes := 8) (m := 1) (vs := [.int .i64 l]) rfl rfl (by omega) (by omega)
   obtain ⟨h8, e2, s2⟩ := s1.put (i := 3) (o := 0) (l := 1) (vs := [.slice Q']) rfl (by simp) (by simp)
   have s3 : Sep0 h0 h8 (cloL k bp v Q' (ql ++ [l]) R) := by
     have : zaS (ql ++ [l]) = zaS ql ++ [.int .i64 l] := zhT _ _
     unfold cloL
     rw [this]
     exact s2
   have c2 : h8.cell (.mk ⟨k.a, 0, 0⟩ 1) = some (.ptr (cP k.A)) := s3.part (i := 2) rfl (by omega) rfl
   obtain ⟨h9, e3, s4⟩ := zB7 fuel d s3 (i := 1) (j := 0) rfl rfl hv (by omega) hl
   simp only [c1, o_bd, zac, e1, e2, c2, zjV, e3, zaf]
   cases hc : zjm v l with
   | true =>
     rw [if_pos rfl]
     refine ⟨Q', h9, rfl, ?_⟩
     have s5 : Sep0 h0 h9 (.own 1 k.V 0 v.length (i8C (zkX v l)) :: aO k.A k.V v :: .own 1 k.a 0 1 [.ptr (cP k.A)] :: .own 1 k.q 0 1 [.slice Q'] :: .part 1 Q' (zaS (ql ++ [l])) :: .own 1 k.s 0 1 [.func zbY [cP k.a, cP k.q]] :: .own 1 k.b 0 1 [.ptr bp] :: R) := s4
     have el : v.length = (zkX v l).length := (znr v l).symm
     have ea : aSl k.V v = aSl k.V (zkX v l) := by unfold aSl; rw [← el]
     unfold aO at s5
     rw [ea, el] at s5
     exact s5
   | false =>
     rw [if_neg (by simp)]
     exact ⟨h9, rfl, s4.sub (((List.Sublist.refl R).cons _ |>.cons _ |>.cons _ |>.cons _ |>.cons _ |>.cons _ |>.cons _))⟩
end
end Go.Proofs.YtdmbfmgebgdfnaaDoor
namespace Go.Proofs.YtdmbfmgebgdfnaaDoor
open Go.RowKit
abbrev bR (lo : Nat) (b : Bs) (n : Nat) (cl : zkQ) (R : List zcJ) : List zcJ := b5 lo b n cl R
section
variable {h0 h : AH} {k : Ch} {b : Bs} {v : List Int} {Q : Sl} {ql : List Int} {R : List zcJ} {n : Nat} {cl : zkQ}
theorem zwv {n : Nat} (hn : n ≤ 4000) {l : Int} (h : zjg l n = true) : -9223372036854775807 ≤ l ∧ l ≤ 9223372036854775807 := by
 have := zbs.1 h; omega
theorem zxF {v c : List Int} (hc : ∀ l ∈ c, -9223372036854775807 ≤ l ∧ l ≤ 9223372036854775807) : -9223372036854775807 ≤ (zbn v c).2 ∧ (zbn v c).2 ≤ 9223372036854775807 := by
 have : (zbn v c).2 = 0 ∨ (zbn v c).2 ∈ c := by
   unfold zbn
   split
   · exact .inl rfl
   · split
     · exact .inl rfl
     · rename_i u r e
       simp only
       split
       · right
         have : u ∈ c.filter (fun l => decide (zfX v l = 0)) := by rw [e]; exact List.mem_cons_self ..
         exact (List.mem_filter.1 this).1
       · exact .inl rfl
 rcases this with h | h
 · rw [h]; omega
 · exact hc _ h
theorem zwM (fuel d : Nat) (hs : Sep0 h0 h (cloL k (bP b) v Q ql (b5 h0.maps.length b n cl R))) (hb : BOk b n cl) (hf : 100000 < fuel) (hV : VOk n (v, ql)) {i : Nat} {c : List Int} (hi : atB cl i = some c) : match ztL (v, ql) c with
   | none => ∃ h', run fuel (d + 5) zfW [.int .i64 (i : Int), .ptr (cP k.a), .ptr (cP k.b), .ptr (cP k.s)] h = some (.bool false, h') ∧ Sep0 h0 h' (b5 h0.maps.length b n cl R)
   | some t => ∃ Q' h', run fuel (d + 5) zfW [.int .i64 (i : Int), .ptr (cP k.a), .ptr (cP k.b), .ptr (cP k.s)] h = some (.bool true, h') ∧ Sep0 h0 h' (cloL k (bP b) t.1 Q' t.2 (b5 h0.maps.length b n cl R)) := by
 have hlen := hV.len
 have hv := hV.val
 simp only at hlen hv
 have hn := hb.vars
 obtain ⟨hm, hil⟩ := ztj hi
 have hcl := hb.lens c hm
 have hlit : ∀ l ∈ c, -9223372036854775807 ≤ l ∧ l ≤ 9223372036854775807 := fun l hl => zwv hn ((hb.norm c hm).2 l hl)
 have c0 : h.cell (.mk ⟨k.a, 0, 0⟩ 1) = some (.ptr (cP k.A)) := hs.part (i := 2) rfl (by omega) rfl
 have c1 : h.cell (.mk ⟨k.b, 0, 0⟩ 1) = some (.ptr (bP b)) := hs.part (i := 6) rfl (by omega) rfl
 have c2 : h.cell (.mk ⟨b.B, 0, 0 + 1⟩ 6) = some (.slice b.cS) := hs.part (i := 7) rfl (by omega) rfl
 have c3 : h.cell (.mk ⟨k.s, 0, 0⟩ 1) = some (.func zbY [cP k.a, cP k.q]) := hs.part (i := 5) rfl (by omega) rfl
 have hcs := hs.cellsP (i := 8) rfl
 have hcell : (clC cl)[((i : Nat) : Int).toNat]? = some (.slice (lstI c)) := by
   rw [Int.toNat_natCast, List.getElem?_map, zvk hi]; rfl
 have hclen := hs.lenP (i := 8) rfl
 simp only [List.length_map, Nat.mul_one] at hclen
 have a1 : h.addr 1 b.cS (i : Int) = some (b.cS.at 1 (i : Int)) := znh hcs (by omega) (by omega)
 have a2 : h.cell (b.cS.at 1 (i : Int)) = some (.slice (lstI c)) := zrU hcs (by omega) hcell
 rw [zqA]
 simp only [o_bd, c0, c1, zjV, zjl, zcd, c2, zac, a1, a2]
 rw [zxu fuel (d + 1) hs (i := 1) (j := 0) rfl rfl hv (by omega) (ziU _ _ _) (by omega) (by omega) hlit]
 simp only [o_bd, tup2, cond_true, zu9, zu8, zam]
 have hrng := zxF (v := v) hlit
 unfold ztL
 by_cases h2 : (zbn v c).1 = 2
 · rw [if_pos h2, decide_eq_true h2]
   exact ⟨h, rfl, zyF hs⟩
 · rw [if_neg h2, decide_eq_false h2]
   by_cases h3 : (zbn v c).2 = 0
   · rw [if_pos h3, decide_eq_true h3]
     exact ⟨Q, h, rfl, hs⟩
   · rw [if_neg h3, decide_eq_false h3]
     simp only [Bool.not_false, beq_self_eq_true, cond_true, c3, o_bd, AV.func?, List.map_cons, List.map_nil, List.cons_append, List.nil_append]
     have := zyD fuel d hs hV hn hrng
     cases hst : setV (v, ql) (zbn v c).2 with
     | none =>
       rw [hst] at this
       obtain ⟨h', e1, s1⟩ := this
       simp only [e1, o_bd, zaf]
       exact ⟨h', rfl, s1⟩
     | some t =>
       rw [hst] at this
       obtain ⟨Q', h', e1, s1⟩ := this
       simp only [e1, o_bd, zaf]
       exact ⟨Q', h', rfl, s1⟩
abbrev lkF (k : Ch) : AV := .func zfW [cP k.a, cP k.b, cP k.s]
def zvm (h0 : AH) (R : List zcJ) (s : Sl) (l : List Int) : Prop := ∀ h, Sep0 h0 h R → h.sliceCells 1 s = some (zaS l)
theorem zxD (fuel d : Nat) (hn : n ≤ 4000) {s : Sl} {S : List Int} (hS : zvm h0 R s S) (hSl : S.length < 1000000000) (hr : ∀ l ∈ S, -9223372036854775807 ≤ l ∧ l ≤ 9223372036854775807) : ∀ (m j : Nat) (v : List Int) (Q : Sl) (ql : List Int) (h : AH), S.length < m + j → j ≤ S.length → Sep0 h0 h (cloL k (bP b) v Q ql R) → VOk n (v, ql) →
   match allV setV (v, ql) (S.drop j) with
   | none => ∃ h', (zcu fuel (d + 5) m [(2, .ptr (cP k.b)), (6, .ptr (cP k.a)), (7, .ptr (cP k.q)), (8, .ptr (cP k.s)), (9, lkF k), (24, .slice s), (25, .int .i64 (S.length : Int)), (26, .int .i64 (j : Int))] h).bind (fun p => zcU fuel (d + 5) p.1 p.2.1 p.2.2) = some (.tup [.ptr .nil, .bool false], h') ∧ Sep0 h0 h' R
   | some t => ∃ Q' h', zcu fuel (d + 5) m [(2, .ptr (cP k.b)), (6, .ptr (cP k.a)), (7, .ptr (cP k.q)), (8, .ptr (cP k.s)), (9, lkF k), (24, .slice s), (25, .int .i64 (S.length : Int)), (26, .int .i64 (j : Int))] h = some (.exit 0, [(2, .ptr (cP k.b)), (4, .bot), (5, .bot), (6, .ptr (cP k.a)), (7, .ptr (cP k.q)), (9, lkF k)], h') ∧ Sep0 h0 h' (cloL k (bP b) t.1 Q' t.2 R) := by
 intro m
 induction m with
 | zero => intro j v Q ql h h1 h2; omega
 | succ m ih =>
   intro j v Q ql h h1 h2 hs hV
   rw [zoZ]
   by_cases hj : j < S.length
   · have c3 : h.cell (.mk ⟨k.s, 0, 0⟩ 1) = some (.func zbY [cP k.a, cP k.q]) := hs.part (i := 5) rfl (by omega) rfl
     have hc := hS h (zyF hs)
     have hm : S.getD j 0 ∈ S := by rw [List.getD_eq_getElem?_getD, List.getElem?_eq_getElem hj]; exact List.getElem_mem hj
     rw [zan (by omega), zrr hc (by omega) (v := .int .i64 (S.getD j 0)) (by simp [hj]), zjk hj 0]
     simp only [o_bd, zam, c3, AV.func?, List.map_cons, List.map_nil, List.cons_append, List.nil_append, allV]
     have := zyD fuel (d + 1) hs hV hn (hr _ hm)
     cases hst : setV (v, ql) (S.getD j 0) with
     | none =>
       rw [hst] at this
       obtain ⟨h', e1, s1⟩ := this
       simp only [e1, o_bd, zaf, Bool.not_false, cond_true, zpD]
       exact ⟨h', rfl, s1⟩
     | some t =>
       rw [hst] at this
       obtain ⟨Q', h', e1, s1⟩ := this
       simp only [e1, o_bd, zaf, Bool.not_true, cond_false]
       rw [zlr (by omega)]
       exact ih (j + 1) t.1 Q' t.2 h' (by omega) (by omega) s1 (zvp hV hst).1
   · have : j = S.length := by omega
     subst this
     rw [zah (by omega), List.drop_length]
     simp only [allV]
     exact ⟨Q, h, rfl, hs⟩
theorem zvZ {ids : List Nat} {j : Nat} (hj : j < ids.length) : (byC cl ids).drop j = (atB cl (ids.getD j 0)).getD [] :: (byC cl ids).drop (j + 1) := by
 unfold byC
 rw [← List.map_drop, ← List.map_drop, zjk hj 0, List.map_cons]
theorem zxG (fuel d : Nat) (hb : BOk b n cl) (hf : 100000 < fuel) {ids : List Nat} (hids : ∀ i ∈ ids, ∃ c, atB cl i = some c) (hil : ids.length < 1000000000) {s : Sl} (hS : zvm h0 (b5 h0.maps.length b n cl R) s (ids.map Int.ofNat)) : ∀ (m j : Nat) (v : List Int) (Q : Sl) (ql : List Int) (h : AH), ids.length < m + j → j ≤ ids.length → Sep0 h0 h (cloL k (bP b) v Q ql (b5 h0.maps.length b n cl R)) → VOk n (v, ql) →
   match allV ztL (v, ql) ((byC cl ids).drop j) with
   | none => ∃ h', (zcN fuel (d + 5) m [(2, .ptr (cP k.b)), (6, .ptr (cP k.a)), (7, .ptr (cP k.q)), (9, lkF k), (38, .slice s), (39, .int .i64 (ids.length : Int)), (40, .int .i64 (j : Int))] h).bind (fun p => zcT fuel (d + 5) p.1 p.2.1 p.2.2) = some (.tup [.ptr .nil, .bool false], h') ∧ Sep0 h0 h' (b5 h0.maps.length b n cl R)
   | some t => ∃ Q' h', zcN fuel (d + 5) m [(2, .ptr (cP k.b)), (6, .ptr (cP k.a)), (7, .ptr (cP k.q)), (9, lkF k), (38, .slice s), (39, .int .i64 (ids.length : Int)), (40, .int .i64 (j : Int))] h = some (.exit 2, [(2, .ptr (cP k.b)), (4, .bot), (5, .bot), (6, .ptr (cP k.a)), (7, .ptr (cP k.q)), (9, lkF k)], h') ∧ Sep0 h0 h' (cloL k (bP b) t.1 Q' t.2 (b5 h0.maps.length b n cl R)) := by
 intro m
 induction m with
 | zero => intro j v Q ql h h1 h2; omega
 | succ m ih =>
   intro j v Q ql h h1 h2 hs hV
   rw [zoY]
   by_cases hj : j < ids.length
   · have hc := hS h (zyF hs)
     have hm : ids.getD j 0 ∈ ids := by rw [List.getD_eq_getElem?_getD, List.getElem?_eq_getElem hj]; exact List.getElem_mem hj
     obtain ⟨c, hic⟩ := hids _ hm
     rw [zan (by omega), zrr hc (by omega) (v := .int .i64 ((ids.getD j 0 : Nat) : Int)) (by simp [hj]), zvZ hj, hic]
     simp only [o_bd, zam, List.map_cons, List.map_nil, List.cons_append, List.nil_append, allV, Option.getD_some]
     have := zwM fuel d hs hb hf hV hic
     cases hst : ztL (v, ql) c with
     | none =>
       rw [hst] at this
       obtain ⟨h', e1, s1⟩ := this
       simp only [e1, o_bd, zaf, Bool.not_false, cond_true, zpC]
       exact ⟨h', rfl, s1⟩
     | some t =>
       rw [hst] at this
       obtain ⟨Q', h', e1, s1⟩ := this
       simp only [e1, o_bd, zaf, Bool.not_true, cond_false]
       rw [zlr (by omega)]
       exact ih (j + 1) t.1 Q' t.2 h' (by omega) (by omega) s1 (zsl hV hst).1
   · have : j = ids.length := by omega
     subst this
     rw [zah (by omega), List.drop_eq_nil_of_le (by simp [byC])]
     simp only [allV]
     exact ⟨Q, h, rfl, hs⟩
theorem zCC (fuel d mm : Nat) (hb : BOk b n cl) (hf : 100000 < fuel) {ids : List Nat} (hids : ∀ i ∈ ids, ∃ c, atB cl i = some c) (hil : ids.length < 1000000000) {s : Sl} (hS : zvm h0 (b5 h0.maps.length b n cl R) s (ids.map Int.ofNat)) : ∀ (m j : Nat) (v : List Int) (Q : Sl) (ql : List Int) (h : AH), ids.length < m + j → j ≤ ids.length → Sep0 h0 h (cloL k (bP b) v Q ql (b5 h0.maps.length b n cl R)) → VOk n (v, ql) →
   match allV ztL (v, ql) ((byC cl ids).drop j) with
   | none => ∃ h', (zcM fuel (d + 5) m [(2, .ptr (cP k.b)), (6, .ptr (cP k.a)), (7, .ptr (cP k.q)), (9, lkF k), (63, .slice s), (64, .int .i64 (ids.length : Int)), (65, .int .i64 (j : Int))] h).bind (fun p => zcS fuel (d + 5) mm p.1 p.2.1 p.2.2) = some (.ret, [(4, .ptr .nil), (5, .bool false), (6, .ptr (cP k.a))], h') ∧ Sep0 h0 h' (b5 h0.maps.length b n cl R)
   | some t => ∃ Q' h', zcM fuel (d + 5) m [(2, .ptr (cP k.b)), (6, .ptr (cP k.a)), (7, .ptr (cP k.q)), (9, lkF k), (63, .slice s), (64, .int .i64 (ids.length : Int)), (65, .int .i64 (j : Int))] h = some (.exit 6, [(2, .ptr (cP k.b)), (4, .bot), (5, .bot), (6, .ptr (cP k.a)), (7, .ptr (cP k.q)), (9, lkF k)], h') ∧ Sep0 h0 h' (cloL k (bP b) t.1 Q' t.2 (b5 h0.maps.length b n cl R)) := by
 intro m
 induction m with
 | zero => intro j v Q ql h h1 h2; omega
 | succ m ih =>
   intro j v Q ql h h1 h2 hs hV
   rw [zoW]
   by_cases hj : j < ids.length
   · have hc := hS h (zyF hs)
     have hm : ids.getD j 0 ∈ ids := by rw [List.getD_eq_getElem?_getD, List.getElem?_eq_getElem hj]; exact List.getElem_mem hj
     obtain ⟨c, hic⟩ := hids _ hm
     rw [zan (by omega), zrr hc (by omega) (v := .int .i64 ((ids.getD j 0 : Nat) : Int)) (by simp [hj]), zvZ hj, hic]
     simp only [o_bd, zam, List.map_cons, List.map_nil, List.cons_append, List.nil_append, allV, Option.getD_some]
     have := zwM fuel d hs hb hf hV hic
     cases hst : ztL (v, ql) c with
     | none =>
       rw [hst] at this
       obtain ⟨h', e1, s1⟩ := this
       simp only [e1, o_bd, zaf, Bool.not_false, cond_true, zpA]
       exact ⟨h', rfl, s1⟩
     | some t =>
       rw [hst] at this
       obtain ⟨Q', h', e1, s1⟩ := this
       simp only [e1, o_bd, zaf, Bool.not_true, cond_false]
       rw [zlr (by omega)]
       exact ih (j + 1) t.1 Q' t.2 h' (by omega) (by omega) s1 (zsl hV hst).1
   · have : j = ids.length := by omega
     subst this
     rw [zah (by omega), List.drop_eq_nil_of_le (by simp [byC])]
     simp only [allV]
     exact ⟨Q, h, rfl, hs⟩
end
end Go.Proofs.YtdmbfmgebgdfnaaDoor
namespace Go.Proofs.YtdmbfmgebgdfnaaDoor
open Go.RowKit
structure zxx (h h' : AH) : Prop where
 at_ : ∀ (n : Nat) (p : Pt) (cs : List AV), h.cellsAt n p = some cs → h'.cellsAt n p = some cs
 cell : ∀ (p : Pt) (v : AV), h.cell p = some v → h'.cell p = some v
 cells : ∀ (sz : Nat) (s : Sl) (cs : List AV), h.sliceCells sz s = some cs → h'.sliceCells sz s = some cs
theorem zxx.refl (h : AH) : zxx h h := ⟨fun _ _ _ h => h, fun _ _ h => h, fun _ _ _ h => h⟩
theorem zxx.trans {a b c : AH} (h : zxx a b) (k : zxx b c) : zxx a c := ⟨fun n p cs q => k.1 n p cs (h.1 n p cs q), fun p v q => k.2 p v (h.2 p v q), fun sz s cs q => k.3 sz s cs (h.3 sz s cs q)⟩
theorem zxx.ext {h h' : AH} (hk : zcs h h' fun _ => False) : zxx h h' :=
 ⟨fun n p cs q => by
   cases p with
   | nil => exact q
   | fp => exact q
   | mk r l => exact zvW hk (fun h => h) q,
  fun p v q => by
   cases p with
   | nil => exact q
   | fp => exact q
   | mk r l => exact zzU hk (fun h => h) q,
  fun sz s cs q => zfn hk q⟩
theorem zxx.mark (h : AH) (ids : List Nat) : zxx h (h.markRo ids) := ⟨fun n p cs q => by rw [zvV]; exact q, fun p v q => by rw [zzT]; exact q, fun sz s cs q => by rw [zto]; exact q⟩
theorem Sep0.still {h0 h : AH} {L : List zcJ} (hs : Sep0 h0 h L) : zxx h0 h := zxx.ext hs.ext
theorem zyo {h : AH} {s : Sl} {sz : Nat} {cs : List AV} (hs : h.sliceCells sz s = some cs) (hn : s.len ≠ 0) : h.hasSz sz s = true := by
 cases s with
 | nil => rfl
 | lst n c ds =>
   obtain ⟨rfl, hl2⟩ := zsk hs
   simp only [AH.hasSz]
   exact nbeq.2 hl2
 | mk r n c =>
   obtain ⟨row, q1, q2, _⟩ := zgb hs hn
   simp [AH.hasSz, q1, q2]
end Go.Proofs.YtdmbfmgebgdfnaaDoor
namespace Go.Proofs.YtdmbfmgebgdfnaaDoor
open Go.RowKit
theorem zDn {α : Type} (p s q a v o b : α) : List.Perm [p, s, q, a, v, o, b] [v, o, a, q, p, s, b] := by
 have := (by decide : List.Perm [0, 1, 2, 3, 4, 5, 6] [4, 5, 3, 2, 0, 1, 6]).map (fun i : Nat => [p, s, q, a, v, o, b].getD i p)
 exact this
def byF (cl : zkQ) (x : Int) : List (List Int) := byC cl (idsP (hasP x) cl)
section
variable {h0 h : AH} {k : Ch} {b : Bs} {v : List Int} {Q : Sl} {ql : List Int} {R : List zcJ} {n : Nat} {cl : zkQ}
abbrev bAll (lo : Nat) (b : Bs) (n : Nat) (cl : zkQ) (R : List zcJ) : List zcJ := b5 lo b n cl (R ++ chK b.ks)
theorem zzB (p : List Int → Bool) : ∀ i ∈ idsP p cl, ∃ c, atB cl i = some c := fun i hi => by
 obtain ⟨l, h1, _⟩ := ztJ.1 hi
 exact ⟨l, h1⟩
theorem zq2 (p : List Int → Bool) : (idsP p cl).length ≤ cl.length := by
 unfold idsP
 exact Nat.le_trans (List.length_filter_le _ _) (by simp)
theorem zvY (hb : BOk b n cl) (x : Int) : zvm h0 (bAll h0.maps.length b n cl R) (slK x b.ks) ((idsP (hasP x) cl).map Int.ofNat) := fun h hs => by
 have := (Sep0.lookK (A := b5 h0.maps.length b n cl R) hs x).1
 rw [hb.keys x] at this
 exact this
theorem zBD (hb : BOk b n cl) (hs : Sep0 h0 h (bAll h0.maps.length b n cl R)) (x : Int) : (slK x b.ks).len = (idsP (hasP x) cl).length := by
 have := (Sep0.lookK (A := b5 h0.maps.length b n cl R) hs x).2
 rw [hb.keys x] at this
 simpa using this
theorem zyC (fuel d : Nat) (hb : BOk b n cl) (hf : 2000000 < fuel) : ∀ (N m : Nat) (v : List Int) (Q : Sl) (ql : List Int) (h : AH), N ≤ m → ql.length + v.count 0 < N → Sep0 h0 h (cloL k (bP b) v Q ql (bAll h0.maps.length b n cl R)) → VOk n (v, ql) →
   match zur (byF cl) N (v, ql) with
   | none => ∃ h', (zct fuel (d + 5) m [(2, .ptr (cP k.b)), (6, .ptr (cP k.a)), (7, .ptr (cP k.q)), (9, lkF k)] h).bind (fun p => zcw fuel (d + 5) p.1 p.2.1 p.2.2) = some (.tup [.ptr .nil, .bool false], h') ∧ Sep0 h0 h' (bAll h0.maps.length b n cl R)
   | some w => ∃ Q' ql' h', (zct fuel (d + 5) m [(2, .ptr (cP k.b)), (6, .ptr (cP k.a)), (7, .ptr (cP k.q)), (9, lkF k)] h).bind (fun p => zcw fuel (d + 5) p.1 p.2.1 p.2.2) = some (.tup [.ptr (cP k.A), .bool true], h') ∧ Sep0 h0 h' (cloL k (bP b) w Q' ql' (bAll h0.maps.length b n cl R)) ∧ VOk n (w, []) := by
 have hn := hb.vars
 intro N
 induction N with
 | zero => intro m v Q ql h h1 h2; omega
 | succ N ih =>
   intro m v Q ql h h1 h2 hs hV
   obtain ⟨m, rfl⟩ : ∃ m', m = m' + 1 := ⟨m - 1, by omega⟩
   rw [zoX]
   have c1 : h.cell (.mk ⟨k.q, 0, 0⟩ 1) = some (.slice Q) := hs.part (i := 3) rfl (by omega) rfl
   have hql := hs.lenP (i := 4) rfl
   simp only [List.length_map, Nat.mul_one] at hql
   simp only [c1, o_bd, zac]
   cases ql with
   | nil =>
     have c0 : h.cell (.mk ⟨k.a, 0, 0⟩ 1) = some (.ptr (cP k.A)) := hs.part (i := 2) rfl (by omega) rfl
     simp only [List.length_nil] at hql
     rw [← hql, zah (by omega)]
     simp only [zur, o_bd, zo4, c0, zjV]
     exact ⟨Q, [], h, rfl, hs, hV⟩
   | cons l q =>
     have hlit := hV.que l (List.mem_cons_self ..)
     have hrng := zwv hn hlit
     have hcnt := hV.cnt
     simp only [List.length_cons] at hql hcnt h2
     have hcs := hs.cellsP (i := 4) rfl
     rw [zan (by omega), zrr hcs (by omega) (v := .int .i64 l) rfl]
     simp only [zam, o_bd]
     have s1 := hs.cutP (i := 4) (lo := 1) (hi' := Q.len) rfl (by omega) (Nat.le_refl _)
     obtain ⟨h8, e2, s2⟩ := s1.put (i := 3) (o := 0) (l := 1) (vs := [.slice (Q.cut 1 1 Q.len false)]) rfl (by simp) (by simp)
     have s3 : Sep0 h0 h8 (cloL k (bP b) v (Q.cut 1 1 Q.len false) q (bAll h0.maps.length b n cl R)) := by
       have : ((zaS (l :: q)).drop (1 * 1)).take ((Q.len - 1) * 1) = zaS q := by
         rw [Nat.mul_one, Nat.mul_one]
         show (zaS q).take (Q.len - 1) = zaS q
         exact List.take_of_length_le (by simp; omega)
       rw [this] at s2
       exact s2
     have hsz : h.hasSz 1 Q = true := zyo hcs (by omega)
     have c3 : h8.cell (.mk ⟨k.b, 0, 0⟩ 1) = some (.ptr (bP b)) := s3.part (i := 6) rfl (by omega) rfl
     have c4 : h8.cell (.mk ⟨b.B, 0, 0 + 3⟩ 6) = some (.map (some b.m)) := s3.part (i := 7) rfl (by omega) rfl
     have cm : h8.maps[b.m]? = some (esK b.ks) := s3.getMap (i := 11) rfl
     rw [zrN, o_bd, zrM (by omega) (by omega), o_bd, zmh, o_bd, hsz, cond_true, Int.toNat_one, e2, o_bd]
     simp only [c3, zjV, zjl, zcd, o_bd, c4, zsL, zpq, cm, ztI, zx6, zac]
     rw [show (0 : Int) - l = -l by omega, zeo (n := -l) (by omega) (by omega)]
     have hV' : VOk n (v, q) := ⟨hV.len, hV.val, by simp only; omega, fun x hx => hV.que x (List.mem_cons_of_mem _ hx)⟩
     have hbl := zq2 (cl := cl) (hasP (-l))
     have hcl := hb.len
     rw [zBD hb (zyF s3) (-l)]
     have := zCC fuel d m hb (by omega) (zzB (hasP (-l))) (by omega) (zvY (h0 := h0) (R := R) hb (-l)) fuel 0 v _ q h8 (by omega) (by omega) s3 hV'
     rw [List.drop_zero] at this
     simp only [zur]
     show match (match allV ztL (v, q) (byC cl (idsP (hasP (-l)) cl)) with | none => none | some s => zur (byF cl) N s) with | none => _ | some w => _
     cases hst : allV ztL (v, q) (byC cl (idsP (hasP (-l)) cl)) with
     | none =>
       rw [hst] at this
       obtain ⟨h', e1, s4⟩ := this
       simp only
       rw [Int.natCast_zero] at e1
       rw [e1]
       simp only [o_bd, zpB]
       exact ⟨h', rfl, s4⟩
     | some t =>
       rw [hst] at this
       obtain ⟨Q', h', e1, s4⟩ := this
       simp only
       rw [Int.natCast_zero] at e1
       rw [e1]
       simp only [o_bd, zo3]
       obtain ⟨hV2, hc2⟩ := zuv (fun hV hl => zsl hV hl) hV' hst
       simp only at hc2
       exact ih m t.1 Q' t.2 h' (by omega) (by omega) s4 hV2
theorem ztT (fuel d : Nat) (hb : BOk b n cl) (hf : 2000000 < fuel) (hs : Sep0 h0 h (bAll h0.maps.length b n cl R)) {s : Sl} {S : List Int} (hS : zvm h0 (bAll h0.maps.length b n cl R) s S) (hSl : S.length < 1000000) (hr : ∀ l ∈ S, -9223372036854775807 ≤ l ∧ l ≤ 9223372036854775807) :
   match zr9 (byF cl) (byC cl (idsP zkb cl)) n (n + 2) S with
   | none => ∃ h', run fuel (d + 6) za4 [.ptr (bP b), .slice s] h = some (.tup [.ptr .nil, .bool false], h') ∧ Sep0 h0 h' (bAll h0.maps.length b n cl R)
   | some w => ∃ A V h', run fuel (d + 6) za4 [.ptr (bP b), .slice s] h = some (.tup [.ptr (cP A), .bool true], h') ∧ Sep0 h0 h' (aV V w :: aO A V w :: bAll h0.maps.length b n cl R) ∧ VOk n (w, []) := by
 have hn := hb.vars
 rw [zrF]
 have s1 := (hs.push 1 1 (cs := [.ptr (bP b)]) rfl).cons
 have c1 : (h.push 1 [.ptr (bP b)]).cell (.mk ⟨h.next, 0, 0⟩ 1) = some (.ptr (bP b)) := zwP _
 have c2 : (h.push 1 [.ptr (bP b)]).cell (.mk ⟨b.B, 0, 0 + 0⟩ 6) = some (.int .i64 (n : Int)) := s1.part (i := 1) rfl (by omega) rfl
 simp only [c1, o_bd, zjV, zjl, zcd, c2, zam]
 obtain ⟨A, V, h2, e2, s2⟩ := zBM fuel (d + 3) s1 hn
 have s2' : Sep0 h0 h2 (aV V (List.replicate (n + 1) 0) :: aO A V (List.replicate (n + 1) 0) :: .own 1 h.next 0 1 [.ptr (bP b)] :: bAll h0.maps.length b n cl R) := s2.perm List.perm_append_comm
 rw [e2]
 simp only [o_bd, zjV]
 have s3 := (s2'.push 1 1 (cs := [.ptr Pt.nil]) rfl).cons
 obtain ⟨h4, e4, s4⟩ := s3.putAll (i := 0) (vs := [.ptr (cP A)]) rfl rfl rfl
 rw [List.set_cons_zero] at s4
 rw [show (h2.push 1 [AV.ptr Pt.nil]).storeAt [AV.ptr (Pt.mk ⟨A, 0, 0⟩ 1)] (Pt.mk ⟨h2.next, 0, 0⟩ 1) = some h4 from e4]
 simp only [o_bd]
 have s5 := (s4.push 1 1 (cs := [.slice Sl.nil]) rfl).cons
 have s6 := (s5.push 1 1 (cs := [.nilfunc]) rfl).cons
 obtain ⟨h7, e7, s7⟩ := s6.putAll (i := 0) (vs := [.func zbY [cP h2.next, cP h4.next]]) rfl rfl rfl
 rw [List.set_cons_zero] at s7
 rw [show ((h4.push 1 [AV.slice Sl.nil]).push 1 [AV.nilfunc]).storeAt [AV.func zbY [Pt.mk ⟨h2.next, 0, 0⟩ 1, Pt.mk ⟨h4.next, 0, 0⟩ 1]] (Pt.mk ⟨(h4.push 1 [AV.slice Sl.nil]).next, 0, 0⟩ 1) = some h7 from e7]
 simp only [o_bd]
 have s8 := ((s7.addNil 1).cons).toPart (i := 0) rfl
 rw [List.set_cons_zero] at s8
 obtain ⟨k, rfl, rfl, hka, hkq, hks, hkb⟩ : ∃ k : Ch, A = k.A ∧ V = k.V ∧ h2.next = k.a ∧ h4.next = k.q ∧ (h4.push 1 [AV.slice Sl.nil]).next = k.s ∧ h.next = k.b := ⟨⟨A, V, _, _, _, _⟩, rfl, rfl, rfl, rfl, rfl, rfl⟩
 rw [hka, hkq, hks, hkb] at s8
 rw [hka, hkq, hks, hkb]
 have s9 : Sep0 h0 h7 (cloL k (bP b) (List.replicate (n + 1) 0) .nil [] (bAll h0.maps.length b n cl R)) := by
   refine s8.perm ((zDn _ _ _ _ _ _ _).append_right (bAll h0.maps.length b n cl R))
 have hV0 : VOk n (List.replicate (n + 1) 0, []) := ⟨by simp, fun x hx => .inl (List.eq_of_mem_replicate hx), by simp only [List.length_nil]; rw [List.count_replicate_self]; omega, fun l hl => by cases hl⟩
 have hSlen := za7 (hS h hs)
 simp only [List.length_map, Nat.mul_one] at hSlen
 rw [← hSlen]
 have h10 := zxD (b := b) fuel d hn hS (by omega) hr fuel 0 _ _ _ h7 (by omega) (by omega) s9 hV0
 rw [List.drop_zero, Int.natCast_zero] at h10
 unfold zr9
 cases hst : allV setV (List.replicate (n + 1) 0, []) S with
 | none =>
   rw [hst] at h10
   obtain ⟨h', e1, s10⟩ := h10
   exact ⟨h', e1, s10⟩
 | some t =>
   rw [hst] at h10
   obtain ⟨Q1, h11, e11, s11⟩ := h10
   have hV1 := (zuv (fun hV hl => zvp hV hl) hV0 hst).1
   simp only
   rw [show zcu fuel (d + 5) fuel [(2, .ptr (cP k.b)), (6, .ptr (cP k.a)), (7, .ptr (cP k.q)), (8, .ptr (cP k.s)), (9, lkF k), (24, .slice s), (25, .int .i64 (S.length : Int)), (26, .int .i64 0)] h7 = _ from e11]
   have c3 : h11.cell (.mk ⟨k.b, 0, 0⟩ 1) = some (.ptr (bP b)) := s11.part (i := 6) rfl (by omega) rfl
   have c4 : h11.cell (.mk ⟨b.B, 0, 0 + 4⟩ 6) = some (.slice b.sS) := s11.part (i := 7) rfl (by omega) rfl
   simp only [o_bd, zo6, c3, zjV, zjl, zcd, c4, zac]
   have hsl := s11.lenP (i := 10) rfl
   simp only [List.length_map, Nat.mul_one] at hsl
   have hbl := zq2 (cl := cl) zkb
   have hcl := hb.len
   rw [← hsl]
   have hst2 : zvm h0 (bAll h0.maps.length b n cl R) b.sS ((idsP zkb cl).map Int.ofNat) := fun h hs => hs.cellsP (i := 3) rfl
   have h12 := zxG (k := k) fuel d hb (by omega) (zzB zkb) (by omega) hst2 fuel 0 t.1 Q1 t.2 h11 (by omega) (by omega) s11 hV1
   rw [List.drop_zero, Int.natCast_zero] at h12
   cases hst2 : allV ztL t (byC cl (idsP zkb cl)) with
   | none =>
     rw [show (t.1, t.2) = t from rfl, hst2] at h12
     obtain ⟨h', e1, s12⟩ := h12
     exact ⟨h', e1, s12⟩
   | some t2 =>
     rw [show (t.1, t.2) = t from rfl, hst2] at h12
     obtain ⟨Q2, h13, e13, s13⟩ := h12
     have hV2 := (zuv (fun hV hl => zsl hV hl) hV1 hst2).1
     have hc2 := hV2.cnt
     rw [e13]
     simp only [o_bd, zo5]
     have h14 := zyC (k := k) fuel d hb hf (n + 2) fuel t2.1 Q2 t2.2 h13 (by omega) (by omega) s13 hV2
     cases hst3 : zur (byF cl) (n + 2) t2 with
     | none =>
       rw [show (t2.1, t2.2) = t2 from rfl, hst3] at h14
       exact h14
     | some w =>
       rw [show (t2.1, t2.2) = t2 from rfl, hst3] at h14
       obtain ⟨Q', ql', h', e1, s14, v14⟩ := h14
       exact ⟨k.A, k.V, h', e1, s14.sub ((((List.Sublist.refl _).cons _ |>.cons _ |>.cons _ |>.cons _ |>.cons _).cons_cons _).cons_cons _), v14⟩
end
end Go.Proofs.YtdmbfmgebgdfnaaDoor
namespace Go.Proofs.YtdmbfmgebgdfnaaDoor
open Go.RowKit
theorem mid5 {α : Type} (a b c d e x : α) (X : List α) : List.Perm (x :: a :: b :: c :: d :: e :: X) (a :: b :: c :: d :: e :: x :: X) :=
 (List.perm_middle (l₁ := [a, b, c, d, e]) (l₂ := X) (a := x)).symm
def zwB (n : Nat) (cl : zkQ) (c : List Int) : Bool := zfF n c && (zr9 (byF cl) (byC cl (idsP zkb cl)) n (n + 2) (c.map fun l => -l)).isNone
section
variable {h0 h : AH} {k : Ch} {b : Bs} {R : List zcJ} {n : Nat} {cl : zkQ}
theorem zBj (fuel d : Nat) {p : Pt} {s : Sl} {c : List Int} {R : List zcJ} (hS : zvm h0 R s c) (hcl : c.length < 1000000) (hr : ∀ l ∈ c, -9223372036854775807 ≤ l ∧ l ≤ 9223372036854775807) : ∀ (m j : Nat) (t : Sl) (h : AH), c.length < m + j → j ≤ c.length → Sep0 h0 h (.grown 1 t (zaS ((c.take j).map fun l => -l)) :: R) →
   ∃ t' h', zds fuel d m [(0, .ptr p), (5, .slice t), (17, .slice s), (18, .int .i64 (c.length : Int)), (19, .int .i64 (j : Int))] h = some (.exit 0, [(0, .ptr p), (5, .slice t')], h') ∧ Sep0 h0 h' (.grown 1 t' (zaS (c.map fun l => -l)) :: R) := by
 intro m
 induction m with
 | zero => intro j t h h1 h2; omega
 | succ m ih =>
   intro j t h h1 h2 hs
   have hl := hs.len (i := 0) rfl
   simp only [List.length_map, List.length_take, Nat.mul_one] at hl
   rw [zo0]
   by_cases hj : j < c.length
   · have hc := hS h (hs.sub ((List.Sublist.refl R).cons _))
     have hm : c.getD j 0 ∈ c := by rw [List.getD_eq_getElem?_getD, List.getElem?_eq_getElem hj]; exact List.getElem_mem hj
     have hx := hr _ hm
     rw [zan (by omega), zrr hc (by omega) (v := .int .i64 (c.getD j 0)) (by simp [hj])]
     simp only [o_bd, zam]
     rw [show (0 : Int) - c.getD j 0 = -c.getD j 0 by omega, zeo (by omega) (by omega)]
     obtain ⟨t', h', e1, s1, _⟩ := hs.grow (i := 0) (bytes := 8) (m := 1) (vs := [.int .i64 (-c.getD j 0)]) rfl rfl (by omega) (by omega)
     rw [e1, o_bd, zlr (by omega)]
     refine ih (j + 1) t' h' (by omega) (by omega) ?_
     rw [zia hj 0, List.map_append, zhT]
     exact s1
   · have : j = c.length := by omega
     subst this
     rw [zah (by omega)]
     rw [List.take_length] at hs
     exact ⟨t, h, rfl, hs⟩
theorem zmK (fuel d : Nat) (hb : BOk b n cl) (hf : 2000000 < fuel) (hs : Sep0 h0 h (bAll h0.maps.length b n cl R)) {s : Sl} {c : List Int} (hS : zvm h0 (bAll h0.maps.length b n cl R) s c) (hcl : c.length < 1000000) :
   ∃ h', run fuel (d + 7) za5 [.ptr (bP b), .slice s] h = some (.bool (zwB n cl c), h') ∧ Sep0 h0 h' (bAll h0.maps.length b n cl R) := by
 have hn := hb.vars
 have hc := hS h hs
 have hlen := za7 hc
 simp only [List.length_map, Nat.mul_one] at hlen
 obtain ⟨h1, e1, s1, k1⟩ := zsg fuel (d + 1) hs (i := 0) rfl hn hc (by omega) (by omega)
 rw [zrG, e1]
 simp only [o_bd, zaf]
 unfold zwB
 cases hlo : zfF n c with
 | false => exact ⟨h1, rfl, s1⟩
 | true =>
   have hr : ∀ l ∈ c, -9223372036854775807 ≤ l ∧ l ≤ 9223372036854775807 := fun l hl => zwv hn (List.all_eq_true.1 hlo l hl)
   have e2 : (decide ((0 : Int) ≤ ((s.len : Nat) : Int)) && decide (((s.len : Nat) : Int) * 8 ≤ 140737488355328) && decide (((s.len : Nat) : Int) ≤ 140737488355328)) = true := zBe (by omega) (by omega) (by omega)
   simp only [Bool.not_true, cond_false, e2, cond_true, Bool.true_and]
   have s2 := (s1.addMake 1 (eqI 0 ((s.len : Nat) : Int))).cons
   obtain ⟨t', h3, e3, s3⟩ := zBj fuel (d + 6) (p := bP b) hS hcl hr fuel 0 _ _ (by omega) (by omega) s2
   rw [← hlen]
   rw [← hlen, Int.natCast_zero] at e3
   rw [e3]
   simp only [o_bd, zo7]
   have s4 : Sep0 h0 h3 (bAll h0.maps.length b n cl (.grown 1 t' (zaS (c.map fun l => -l)) :: R)) := s3.perm (mid5 _ _ _ _ _ _ _)
   have hcr := ztT fuel d hb hf s4 (s := t') (S := c.map fun l => -l) (fun h hs => (hs.sep.grown (i := 5) rfl).cells) (by simpa using hcl) (fun l hl => by
     obtain ⟨x, hx, rfl⟩ := List.mem_map.1 hl
     have := hr x hx
     omega)
   have back : ∀ {h'}, Sep0 h0 h' (bAll h0.maps.length b n cl (.grown 1 t' (zaS (c.map fun l => -l)) :: R)) → Sep0 h0 h' (bAll h0.maps.length b n cl R) := fun hs => hs.sub ((((((List.Sublist.refl _).cons _).cons_cons _).cons_cons _).cons_cons _).cons_cons _ |>.cons_cons _)
   cases hcv : zr9 (byF cl) (byC cl (idsP zkb cl)) n (n + 2) (c.map fun l => -l) with
   | none =>
     rw [hcv] at hcr
     obtain ⟨h', e4, s5⟩ := hcr
     simp only [e4, o_bd, tup2, cond_true, zu9, zu8, zjV, zaf]
     exact ⟨h', rfl, back s5⟩
   | some w =>
     rw [hcv] at hcr
     obtain ⟨A, V, h', e4, s5, _⟩ := hcr
     simp only [e4, o_bd, tup2, cond_true, zu9, zu8, zjV, zaf]
     exact ⟨h', rfl, back (s5.sub (((List.Sublist.refl _).cons _).cons _))⟩
abbrev gAll (lo : Nat) (b : Bs) (n : Nat) (many : Int) (cC tC sC : List AV) (R : List zcJ) : List zcJ :=
 .own 1 b.B 0 6 [.int .i64 (n : Int), .slice b.cS, .slice b.tS, .map (some b.m), .slice b.sS, .int .i64 many] :: .part 1 b.cS cC :: .part 1 b.tS tC :: .part 1 b.sS sC :: .mp lo b.m (esK b.ks) :: (R ++ chK b.ks)
def zCO (ks ks' : List Key) (l : List Int) (id : Int) : Prop := ∀ x, lisK x ks' = lisK x ks ++ (if x ∈ l then [id] else [])
theorem zBQ (fuel d : Nat) {ks0 : List Key} {many : Int} {cC tC sC : List AV} {l : List Int} (hnd : l.Nodup) (hl : l.length < 1000000) {id : Nat} (hks : ∀ x, (lisK x ks0).length < 100000000) : ∀ (m j : Nat) (ks : List Key) (h : AH), l.length < m + j → j ≤ l.length → zCO ks0 ks (l.take j) (id : Int) → Sep0 h0 h (gAll h0.maps.length { b with ks := ks } n many cC tC sC R) →
   ∃ ks' h', zeM fuel d m [(0, .ptr (bP b)), (5, .slice (lstI l)), (7, .int .i64 (id : Int)), (43, .slice (lstI l)), (44, .int .i64 (l.length : Int)), (45, .int .i64 (j : Int))] h = some (.exit 0, [(0, .ptr (bP b)), (5, .slice (lstI l)), (7, .int .i64 (id : Int))], h') ∧ zCO ks0 ks' l (id : Int) ∧ Sep0 h0 h' (gAll h0.maps.length { b with ks := ks' } n many cC tC sC R) := by
 intro m
 induction m with
 | zero => intro j ks h h1 h2; omega
 | succ m ih =>
   intro j ks h h1 h2 hk hs
   rw [zqV]
   by_cases hj : j < l.length
   · have c3 : h.cell (.mk ⟨b.B, 0, 0 + 3⟩ 6) = some (.map (some b.m)) := hs.part (i := 0) rfl (by omega) rfl
     have cm : h.maps[b.m]? = some (esK ks) := hs.getMap (i := 4) rfl
     rw [zan (by omega), zcC _ (by omega) (by omega) 0]
     simp only [o_bd, zeG, zam, Int.toNat_natCast, zjl, zcd, c3, zsL, zpq, cm, ztI, zx6, zac]
     have hsl : (slK (l.getD j 0) ks).len = (lisK (l.getD j 0) ks).length := (Sep0.lookK (A := .own 1 b.B 0 6 [.int .i64 (n : Int), .slice b.cS, .slice b.tS, .map (some b.m), .slice b.sS, .int .i64 many] :: .part 1 b.cS cC :: .part 1 b.tS tC :: .part 1 b.sS sC :: .mp h0.maps.length b.m (esK ks) :: R) (ks := ks) hs (l.getD j 0)).2
     have hk1 := hk (l.getD j 0)
     have hk2 := hks (l.getD j 0)
     have hlt : (lisK (l.getD j 0) ks).length < 1000000000 := by
       rw [hk1, List.length_append]
       split <;> simp only [List.length_singleton, List.length_nil] <;> omega
     obtain ⟨s', h', e1, s1, s2⟩ := Sep0.addK (A := .own 1 b.B 0 6 [.int .i64 (n : Int), .slice b.cS, .slice b.tS, .map (some b.m), .slice b.sS, .int .i64 many] :: .part 1 b.cS cC :: .part 1 b.tS tC :: .part 1 b.sS sC :: .mp h0.maps.length b.m (esK ks) :: R) (ks := ks) (j := 4) (m := b.m) hs rfl (l.getD j 0) (id : Int) (by omega)
     have c3' : h'.cell (.mk ⟨b.B, 0, 0 + 3⟩ 6) = some (.map (some b.m)) := s1.part (i := 0) rfl (by omega) rfl
     have cm' : h'.maps[b.m]? = some (esK ks) := s1.getMap (i := 4) rfl
     have hset := zBd (l.getD j 0) (s', lisK (l.getD j 0) ks ++ [(id : Int)]) ks
     simp only at hset
     simp only [e1, o_bd, c3', zsL, zls, cm', hset]
     rw [zlr (by omega)]
     refine ih (j + 1) (setK (l.getD j 0) (s', lisK (l.getD j 0) ks ++ [(id : Int)]) ks) _ (by omega) (by omega) ?_ s2
     have hnot : l.getD j 0 ∉ l.take j := by
       intro hin
       rw [List.getD_eq_getElem?_getD, List.getElem?_eq_getElem hj, Option.getD_some] at hin
       obtain ⟨i, hi, e⟩ := List.mem_iff_getElem.1 hin
       rw [List.length_take] at hi
       rw [List.getElem_take] at e
       have := (List.getElem_inj hnd).1 e
       omega
     intro x
     rw [zia hj 0]
     by_cases hx : x = l.getD j 0
     · subst hx
       unfold lisK
       rw [zvH]
       simp only [List.mem_append, List.mem_singleton, or_true, if_true]
       have := hk (l.getD j 0)
       rw [if_neg hnot, List.append_nil] at this
       unfold lisK at this
       rw [this]
     · have e2 : lisK x (setK (l.getD j 0) (s', lisK (l.getD j 0) ks ++ [(id : Int)]) ks) = lisK x ks := by
         unfold lisK
         rw [zrC hx]
       rw [e2, hk x]
       have : (x ∈ l.take j ++ [l.getD j 0]) ↔ x ∈ l.take j := by simp only [List.mem_append, List.mem_singleton, hx, or_false]
       simp only [this]
   · have : j = l.length := by omega
     subst this
     rw [zah (by omega)]
     rw [List.take_length] at hk
     exact ⟨ks, h, rfl, hk, hs⟩
end
end Go.Proofs.YtdmbfmgebgdfnaaDoor
namespace Go.Proofs.YtdmbfmgebgdfnaaDoor
open Go.RowKit
theorem zru (c : List Int) : (zeF c).Nodup := (zjR c).imp fun h e => by subst e; rw [zpr] at h; cases h
theorem zry {n : Nat} {c : List Int} (h : zfF n c = true) : ∀ x ∈ zeF c, zjg x n = true := fun x hx => List.all_eq_true.1 h x (zjN.1 hx)
section
variable {h0 h : AH} {b : Bs} {R : List zcJ} {n : Nat} {cl : zkQ}
theorem zwc (cl : zkQ) : (zep cl).length ≤ cl.length := List.length_filterMap_le _ _
def zAP (h0 : AH) (b b' : Bs) (n : Nat) (cl : zkQ) (R : List zcJ) (c : List Int) (h' : AH) : Bool → Prop
 | false => b' = b ∧ Sep0 h0 h' (bAll h0.maps.length b n cl R)
 | true => BOk b' n (cl ++ [some (zeF c)]) ∧ Sep0 h0 h' (bAll h0.maps.length b' n (cl ++ [some (zeF c)]) R)
theorem zyY (fuel d : Nat) (hd : 49 ≤ d) (hb : BOk b n cl) (hlen : cl.length < 999999) (hf : 2000000 < fuel) (hs : Sep0 h0 h (bAll h0.maps.length b n cl R)) {s : Sl} {c : List Int} (hc : h.sliceCells 1 s = some (zaS c)) (hcl : c.length < 100000) :
   ∃ b' h', run fuel (d + 6) zdq [.ptr (bP b), .slice s] h = some (.bool (zfF n c), h') ∧ b'.B = b.B ∧ zAP h0 b b' n cl R c h' (zfF n c) := by
 have hn := hb.vars
 obtain ⟨h1, e1, s1, k1⟩ := zsg fuel d hs (i := 0) rfl hn hc (by omega) (by omega)
 rw [zup, e1]
 simp only [o_bd, zaf]
 cases hlo : zfF n c with
 | false => exact ⟨b, h1, rfl, rfl, rfl, s1⟩
 | true =>
   have hc1 := zfn k1 hc
   obtain ⟨h2, e2, k2⟩ := zy3 (fuel := fuel) (e := d + 5) (by omega) (l := c) (by omega) (by omega) hc1
   have s2 := s1.call k2
   have hnl := zle c
   simp only [Bool.not_true, cond_false, e2, o_bd, tup2, cond_true, zu9, zu8, zac, zaf, zjl, zcd]
   have c1 : h2.cell (.mk ⟨b.B, 0, 0 + 1⟩ 6) = some (.slice b.cS) := s2.part (i := 0) rfl (by omega) rfl
   have c2 : h2.cell (.mk ⟨b.B, 0, 0 + 2⟩ 6) = some (.slice b.tS) := s2.part (i := 0) rfl (by omega) rfl
   have l1 := s2.lenP (i := 1) rfl
   have l2 := s2.lenP (i := 2) rfl
   have l3 := s2.lenP (i := 3) rfl
   simp only [List.length_map, Nat.mul_one] at l1 l2 l3
   obtain ⟨cS', h3, e3, s3, _⟩ := s2.growP (i := 1) (bytes := 24) (m := 1) (vs := [.slice (lstI (zeF c))]) rfl rfl (by omega) (by omega)
   rw [set1] at s3
   have c2' : h3.cell (.mk ⟨b.B, 0, 0 + 2⟩ 6) = some (.slice b.tS) := s3.part (i := 0) rfl (by omega) rfl
   obtain ⟨tS', h4, e4, s4, _⟩ := s3.growP (i := 2) (bytes := 1) (m := 1) (vs := [.bool true]) rfl rfl (by omega) (by omega)
   rw [set2] at s4
   obtain ⟨h5, e5, s5⟩ := s4.put (i := 0) (o := 1) (l := 6) (vs := [.slice cS']) rfl (by simp) (by simp)
   rw [set0] at s5
   obtain ⟨h6, e6, s6⟩ := s5.put (i := 0) (o := 2) (l := 6) (vs := [.slice tS']) rfl (by simp) (by simp)
   rw [set0] at s6
   have s6' : Sep0 h0 h6 (gAll h0.maps.length { b with cS := cS', tS := tS', ks := b.ks } n ((zep cl).length : Int) (clC (cl ++ [some (zeF c)])) (thC (cl ++ [some (zeF c)])) (zaS (idsI zkb cl)) R) := by
     unfold gAll clC thC
     rw [List.map_append, List.map_append]
     exact s6
   simp only [c1, c2, c2', o_bd, zac, e3, zls, e4, e5, e6, Nat.zero_add, zeW]
   rw [← l1]
   obtain ⟨ks', h7, e7, hk7, s7⟩ := zBQ fuel (d + 5) (b := { b with cS := cS', tS := tS' }) (ks0 := b.ks) (id := cl.length) (zru c) (by omega) (fun x => by rw [hb.keys x, List.length_map]; have := zq2 (cl := cl) (hasP x); omega) fuel 0 b.ks h6 (by omega) (by omega) (fun x => by simp) s6'
   rw [show zeM fuel (d + 5) fuel [(0, .ptr (bP b)), (5, .slice (lstI (zeF c))), (7, .int .i64 (cl.length : Int)), (43, .slice (lstI (zeF c))), (44, .int .i64 ((zeF c).length : Int)), (45, .int .i64 0)] h6 = _ from e7]
   simp only [o_bd, zqY, zjl, zcd]
   rw [zeW]
   have hthere : (zep (cl ++ [some (zeF c)])).length = (zep cl).length + 1 := by rw [zwd]; simp
   have htl := zwc cl
   have fin : ∀ (sS' : Sl) (h8 : AH) (sm : List Int), sm = idsI zkb (cl ++ [some (zeF c)]) → Sep0 h0 h8 (gAll h0.maps.length { b with cS := cS', tS := tS', sS := sS', ks := ks' } n ((zep cl).length : Int) (clC (cl ++ [some (zeF c)])) (thC (cl ++ [some (zeF c)])) (zaS sm) R) →
       ∃ b' h', zhk fuel (d + 5) .normal [(0, .ptr (bP b))] h8 = some (.bool true, h') ∧ b'.B = b.B ∧ zAP h0 b b' n cl R c h' true := by
     intro sS' h8 sm hsm s8
     subst hsm
     have c5 : h8.cell (.mk ⟨b.B, 0, 0 + 5⟩ 6) = some (.int .i64 ((zep cl).length : Int)) := s8.part (i := 0) rfl (by omega) rfl
     obtain ⟨h9, e9, s9⟩ := s8.put (i := 0) (o := 5) (l := 6) (vs := [.int .i64 (((zep cl).length + 1 : Nat) : Int)]) rfl (by simp) (by simp)
     rw [set0, ← hthere] at s9
     rw [zrz]
     simp only [zjl, zcd, o_bd, c5, zam]
     rw [zlr (by omega), Nat.zero_add, e9]
     refine ⟨{ b with cS := cS', tS := tS', sS := sS', ks := ks' }, h9, rfl, rfl, ⟨fun x => ?_, fun l hl => ?_, by simp; omega, hn, fun l hl => ?_⟩, s9⟩
     · have := hk7 x
       simp only at this ⊢
       rw [this, hb.keys x]
       unfold idsI
       rw [zyl]
       unfold hasP
       by_cases hx : x ∈ zeF c <;> simp [hx]
     · rcases List.mem_append.1 hl with hl | hl
       · exact hb.norm l hl
       · rw [List.mem_singleton] at hl
         cases hl
         exact ⟨zsI c, zry hlo⟩
     · rcases List.mem_append.1 hl with hl | hl
       · exact hb.lens l hl
       · rw [List.mem_singleton] at hl
         cases hl
         omega
   by_cases hsm : (zeF c).length < 2
   · have hsm' : ((zeF c).length : Int) < 2 := by omega
     simp only [decide_eq_true hsm', cond_true]
     have c4 : h7.cell (.mk ⟨b.B, 0, 0 + 4⟩ 6) = some (.slice b.sS) := s7.part (i := 0) rfl (by omega) rfl
     have hil := zq2 (cl := cl) zkb
     obtain ⟨sS', h8, e8, s8, _⟩ := s7.growP (i := 3) (bytes := 8) (m := 1) (vs := [.int .i64 (cl.length : Int)]) rfl rfl (by simp only; omega) (by simp only; omega)
     rw [set3] at s8
     obtain ⟨h9, e9, s9⟩ := s8.put (i := 0) (o := 4) (l := 6) (vs := [.slice sS']) rfl (by simp) (by simp)
     rw [set0] at s9
     simp only [c4, o_bd, zac, e8, e9, Nat.zero_add]
     refine fin sS' h9 (idsI zkb cl ++ [(cl.length : Int)]) ?_ ?_
     · unfold idsI
       rw [zyl]
       simp [zkb, hsm]
     · unfold gAll
       rw [zhT]
       exact s9
   · have hsm' : ¬ ((zeF c).length : Int) < 2 := by omega
     simp only [decide_eq_false hsm', cond_false, o_bd]
     refine fin b.sS h7 (idsI zkb cl) ?_ s7
     unfold idsI
     rw [zyl]
     simp [zkb, hsm]
end
end Go.Proofs.YtdmbfmgebgdfnaaDoor
namespace Go.Proofs.YtdmbfmgebgdfnaaDoor
open Go.RowKit
abbrev zoo (cc : List (List Int)) : List AV := cc.map fun c => .slice (lstI c)
theorem zsX (a b : List (List Int)) : zoo (a ++ b) = zoo a ++ zoo b := List.map_append
theorem zvD (a b : List Int) : zaS (a ++ b) = zaS a ++ zaS b := List.map_append
theorem zsZ {h : AH} (n : Nat) (cc : List (List Int)) : (zoo cc).mapM (zap h (n + 1)) = some (zoo cc) := zrx (g := fun c => .slice (lstI c)) (fun c => zdZ n c) cc
def cnfC (vars : Int) (cc : List (List Int)) : List AV := [.int .i64 vars, .slice (zuA cc)]
def zqP (cc : List (List Int)) : Nat := (cc.map List.length).sum
end Go.Proofs.YtdmbfmgebgdfnaaDoor
namespace Go.Proofs.YtdmbfmgebgdfnaaDoor
open Go.RowKit
section
variable {h0 h : AH} {b : Bs} {R : List zcJ} {n : Nat} {cl : zkQ}
abbrev zrS (cc : List (List Int)) : zkQ := cc.map fun c => some (zeF c)
def zsd (h0 : AH) (R : List zcJ) (s : Sl) (cc : List (List Int)) : Prop := ∀ h, Sep0 h0 h R → Nest h s cc
theorem zsi {h : AH} {s : Sl} {cc : List (List Int)} (hs : h.sliceCells 1 s = some (zoo cc)) : Nest h s cc := by
 refine ⟨cc.map lstI, by rw [hs]; simp, by simp, fun k s' c h1 h2 => ?_⟩
 rw [List.getElem?_map, h2] at h1
 cases h1
 exact ziU _ _ _
theorem zyP (hs : Sep0 h0 h (bAll h0.maps.length b n cl R)) : Sep0 h0 h R :=
 hs.sub (((((List.sublist_append_left R _).cons _).cons _).cons _).cons _ |>.cons _)
abbrev okCC (n : Nat) (cc : List (List Int)) : Bool := cc.all (zfF n)
def zAN (h0 : AH) (n : Nat) (cc : List (List Int)) (R : List zcJ) (v : AV) (h' : AH) : Bool → Prop
 | false => v = .tup [.ptr .nil, zdm] ∧ Sep0 h0 h' R
 | true => ∃ b, v = .tup [.ptr (bP b), .nilif] ∧ BOk b n (zrS cc) ∧ Sep0 h0 h' (bAll h0.maps.length b n (zrS cc) R)
theorem zBc (fuel d : Nat) (hd : 49 ≤ d) (hf : 2000000 < fuel) {s : Sl} {cc : List (List Int)} (hS : zsd h0 R s cc) (hl : cc.length < 900000) (hc : ∀ c ∈ cc, c.length < 100000) : ∀ (m j : Nat) (b : Bs) (h : AH), cc.length < m + j → j ≤ cc.length → BOk b n (zrS (cc.take j)) → Sep0 h0 h (bAll h0.maps.length b n (zrS (cc.take j)) R) →
   ∃ v h', (zlf fuel (d + 6) m [(6, .ptr (bP b)), (14, .slice s), (15, .int .i64 (cc.length : Int)), (16, .int .i64 (j : Int))] h).bind (fun p => zj7 fuel (d + 6) p.1 p.2.1 p.2.2) = some (v, h') ∧ zAN h0 n cc R v h' (okCC n (cc.drop j)) := by
 intro m
 induction m with
 | zero => intro j b h h1 h2; omega
 | succ m ih =>
   intro j b h h1 h2 hb hs
   rw [zuc]
   by_cases hj : j < cc.length
   · have hcells := hS h (zyP hs)
     have hm : cc.getD j [] ∈ cc := by rw [List.getD_eq_getElem?_getD, List.getElem?_eq_getElem hj]; exact List.getElem_mem hj
     obtain ⟨s', a1, a2, a3, _⟩ := hcells.read hj
     rw [zan (by omega), a1, o_bd, a2]
     simp only [o_bd, zac]
     obtain ⟨b', h', e1, hB, hp⟩ := zyY fuel d hd hb (by simp; omega) hf hs (s := s') a3 (hc _ hm)
     rw [e1]
     simp only [o_bd, zaf]
     have hdr : okCC n (cc.drop j) = (zfF n (cc.getD j []) && okCC n (cc.drop (j + 1))) := by rw [zjk hj [], okCC, List.all_cons]
     rw [hdr]
     cases hlo : zfF n (cc.getD j []) with
     | false =>
       rw [hlo] at hp
       obtain ⟨rfl, s1⟩ := hp
       simp only [Bool.not_false, cond_true, o_bd, zu2, Bool.false_and]
       exact ⟨_, h', rfl, rfl, zyP s1⟩
     | true =>
       rw [hlo] at hp
       obtain ⟨hb', s1⟩ := hp
       simp only [Bool.not_true, cond_false, Bool.true_and]
       rw [zlr (by omega)]
       have e2 : zrS (cc.take j) ++ [some (zeF (cc.getD j []))] = zrS (cc.take (j + 1)) := by rw [zia hj [], zrS, zrS, List.map_append]; rfl
       rw [e2] at hb' s1
       have hbp : bP b = bP b' := by unfold bP; rw [hB]
       rw [hbp]
       exact ih (j + 1) b' h' (by omega) (by omega) hb' s1
   · have : j = cc.length := by omega
     subst this
     rw [zah (by omega), List.drop_length]
     rw [List.take_length] at hb hs
     simp only [o_bd, zud]
     exact ⟨_, h, rfl, b, rfl, hb, hs⟩
theorem zuT (fuel d : Nat) (hd : 49 ≤ d) (hf : 2000000 < fuel) (hn : n ≤ 4000) (hs : Sep0 h0 h R) {s : Sl} {cc : List (List Int)} (hS : zsd h0 R s cc) (hl : cc.length < 900000) (hc : ∀ c ∈ cc, c.length < 100000) :
   ∃ v h', run fuel (d + 7) ziA [.int .i64 (n : Int), .slice s] h = some (v, h') ∧ zAN h0 n cc R v h' (okCC n cc) := by
 rw [zzJ, zAz _ _ _ _ (by omega) (by omega)]
 simp only [o_bd, zam]
 have s1 := (hs.addMap).cons
 have s2 := (s1.push 1 6 (cs := [.int .i64 (n : Int), .slice Sl.nil, .slice Sl.nil, .map (some h.maps.length), .slice Sl.nil, .int .i64 0]) rfl).cons
 have s3 := ((s2.addNil 1).cons).toPart (i := 0) rfl
 rw [set0] at s3
 have s4 := ((s3.addNil 1).cons).toPart (i := 0) rfl
 rw [set0] at s4
 have s5 := ((s4.addNil 1).cons).toPart (i := 0) rfl
 rw [set0] at s5
 have s6 : Sep0 h0 (h.newMap.push 1 [.int .i64 (n : Int), .slice Sl.nil, .slice Sl.nil, .map (some h.maps.length), .slice Sl.nil, .int .i64 0]) (bAll h0.maps.length ⟨h.newMap.next, h.maps.length, .nil, .nil, .nil, []⟩ n [] R) := by
   refine s5.perm ?_
   show List.Perm _ (_ :: _ :: _ :: _ :: _ :: (R ++ []))
   rw [List.append_nil]
   exact List.perm_middle (l₁ := [_, _, _])
 have hb : BOk ⟨h.newMap.next, h.maps.length, .nil, .nil, .nil, []⟩ n [] := ⟨fun x => rfl, (fun l hl => by cases hl), by simp, hn, (fun l hl => by cases hl)⟩
 have hlen := (hS h hs).len
 rw [hlen]
 have := zBc (n := n) fuel d hd hf hS hl hc fuel 0 _ _ (by omega) (by omega) hb s6
 rw [List.drop_zero, Int.natCast_zero] at this
 exact this
theorem zBh (fuel d : Nat) (hs : Sep0 h0 h (bAll h0.maps.length b n cl R)) : run fuel (d + 1) zmI [.ptr (bP b)] h = some (.int .i64 ((zep cl).length : Int), h) := by
 have c5 : h.cell (.mk ⟨b.B, 0, 0 + 5⟩ 6) = some (.int .i64 ((zep cl).length : Int)) := hs.part (i := 0) rfl (by omega) rfl
 rw [zun]
 simp only [zjl, zcd, o_bd, c5, zam]
def zpX (n : Nat) (cc : List (List Int)) (S : List Int) : Option (List Int) :=
 if okCC n cc = true ∧ zfF n S = true then (zr9 (byF (zrS cc)) (byC (zrS cc) (idsP zkb (zrS cc))) n (n + 2) S).map zpw else none
def zCR (h0 : AH) (R : List zcJ) (v : AV) (h' : AH) : Option (List Int) → Prop
 | none => v = .tup [.slice .nil, .bool false] ∧ Sep0 h0 h' R
 | some l => ∃ s', v = .tup [.slice s', .bool true] ∧ Sep0 h0 h' (.grown 1 s' (zaS l) :: R)
theorem zvs (fuel d : Nat) (hd : 49 ≤ d) (hf : 2000000 < fuel) (hn : n ≤ 4000) (hs : Sep0 h0 h R) {s : Sl} {cc : List (List Int)} (hS : zsd h0 R s cc) (hl : cc.length < 900000) (hc : ∀ c ∈ cc, c.length < 100000) {t : Sl} {S : List Int} (hT : zvm h0 R t S) (hSl : S.length < 1000000) :
   ∃ v h', run fuel (d + 8) zlW [.int .i64 (n : Int), .slice s, .slice t] h = some (v, h') ∧ zCR h0 R v h' (zpX n cc S) := by
 obtain ⟨v, h1, e1, hp⟩ := zuT fuel d hd hf hn hs hS hl hc
 rw [zu7, e1]
 unfold zpX
 cases hok : okCC n cc with
 | false =>
   rw [hok] at hp
   obtain ⟨rfl, s1⟩ := hp
   simp only [o_bd, tup2, cond_true, zu9, zu8, zjV]
   rw [if_neg (by simp)]
   exact ⟨_, h1, rfl, rfl, s1⟩
 | true =>
   rw [hok] at hp
   obtain ⟨b, rfl, hb, s1⟩ := hp
   have hT' : zvm h0 (bAll h0.maps.length b n (zrS cc) R) t S := fun h hs => hT h (zyP hs)
   obtain ⟨h2, e2, s2, _⟩ := zsg fuel (d + 2) s1 (i := 0) rfl hn (hT' _ s1) (by omega) (by omega)
   simp only [o_bd, tup2, cond_true, zu9, zu8, zjV, zpo, Bool.not_true, beq_self_eq_true, show run fuel (d + 7) zeT [.ptr (bP b), .slice t] h1 = _ from e2, zaf]
   cases hlo : zfF n S with
   | false =>
     rw [if_neg (by simp)]
     exact ⟨_, h2, rfl, rfl, zyP s2⟩
   | true =>
     rw [if_pos (by simp)]
     have hr : ∀ l ∈ S, -9223372036854775807 ≤ l ∧ l ≤ 9223372036854775807 := fun l hl => zwv hn (List.all_eq_true.1 hlo l hl)
     have hcr := ztT fuel (d + 1) hb hf s2 hT' hSl hr
     simp only [Bool.not_true, cond_false]
     cases hcv : zr9 (byF (zrS cc)) (byC (zrS cc) (idsP zkb (zrS cc))) n (n + 2) S with
     | none =>
       rw [hcv] at hcr
       obtain ⟨h', e4, s5⟩ := hcr
       simp only [e4, o_bd, tup2, cond_true, zu9, zu8, zjV, zaf, Bool.not_false]
       exact ⟨_, h', rfl, rfl, zyP s5⟩
     | some w =>
       rw [hcv] at hcr
       obtain ⟨A, V, h', e4, s5, v5⟩ := hcr
       have hwl := v5.len
       simp only at hwl
       obtain ⟨s', h'', e6, s6⟩ := zyW fuel (d + 6) s5 (i := 1) (j := 0) rfl rfl v5.val (by omega) (by omega)
       simp only [e4, o_bd, tup2, cond_true, zu9, zu8, zjV, zaf, Bool.not_true, cond_false, e6, zac]
       exact ⟨_, h'', rfl, s', rfl, (s6.perm (List.perm_append_singleton _ _)).sub ((((((((List.sublist_append_left R _).cons _).cons _).cons _).cons _).cons _).cons _ |>.cons _).cons_cons _)⟩
end
end Go.Proofs.YtdmbfmgebgdfnaaDoor
namespace Go.Proofs.YtdmbfmgebgdfnaaDoor
open Go.RowKit
section
variable {h0 h : AH} {L : List zcJ} {i j A V : Nat} {v : List Int}
theorem zvt (fuel d : Nat) (hs : Sep0 h0 h L) (hi : L[i]? = some (rO A V v)) (hj : L[j]? = some (rV V v)) (hv : ∀ x ∈ v, x = 0 ∨ x = 1 ∨ x = 2) (hn : v.length < 10000) {s : Sl} {c : List Int} (hc : h.sliceCells 1 s = some (zaS c)) (hcl : c.length < 1000000000) (hlit : ∀ l ∈ c, -9223372036854775807 ≤ l ∧ l ≤ 9223372036854775807) :
   ∀ (n k : Nat) (left many : Int), c.length < n + k → k ≤ c.length → 0 ≤ many → many ≤ k →
     (zaP fuel (d + 2) n [(0, .ptr (.mk ⟨A, 0, 0⟩ 1)), (1, .slice s), (6, .int .i64 left), (7, .int .i64 many), (8, .int .i64 (k : Int))] h).bind (fun p => zbf fuel (d + 2) p.1 p.2.1 p.2.2) =
       some (.tup [.int .i64 (rcF v (c.drop k) left many).1, .int .i64 (rcF v (c.drop k) left many).2], h) := by
 have hl : s.len = c.length := by have := za7 hc; simp at this; omega
 intro n
 induction n with
 | zero => intro k left many h1 h2; omega
 | succ n ih =>
   intro k left many h1 h2 h3 h4
   rw [zlC, hl]
   by_cases hk : k < c.length
   · have hg : (zaS c)[(k : Int).toNat]? = some (.int .i64 c[k]) := by simp [List.getElem?_eq_getElem hk]
     have hd : c.drop k = c[k] :: c.drop (k + 1) := List.drop_eq_getElem_cons hk
     rw [zan (by omega), zrr hc (by omega) hg, hd]
     simp only [zam, o_bd]
     rw [zuM fuel d hs hi hj hv hn (hlit _ (List.getElem_mem hk))]
     simp only [zam, o_bd, rcF]
     generalize hw : zfX v c[k] = w
     by_cases h1' : w = 1
     · rw [zan h1', if_pos h1']
       simp only [o_bd, zmd]
     · rw [zah h1', if_neg h1']
       by_cases h0' : w = 0
       · rw [zan h0', if_pos h0', zrr hc (by omega) hg]
         simp only [zam, o_bd]
         by_cases hle : c[k] = left
         · rw [zng hle, if_neg (by simpa using hle)]
           simp only [o_bd, zh7]
           rw [zrr hc (by omega) hg]
           simp only [zam, o_bd]
           rw [zlr (by omega)]
           exact ih (k + 1) _ _ (by omega) (by omega) h3 (by omega)
         · rw [zn2 hle, if_pos hle]
           simp only [o_bd, zh7]
           rw [zrr hc (by omega) hg]
           simp only [zam, o_bd]
           rw [zlr (by omega), zeo (n := many + 1) (by omega) (by omega)]
           exact ih (k + 1) _ _ (by omega) (by omega) (by omega) (by omega)
       · rw [zah h0', if_neg h0', zlr (by omega)]
         exact ih (k + 1) _ _ (by omega) (by omega) h3 (by omega)
   · have : k = c.length := by omega
     subst this
     rw [zah (by omega), List.drop_length]
     simp only [o_bd, zlS, rcF]
     by_cases e0 : many = 0
     · rw [zan e0, if_pos e0]
     · rw [zah e0, if_neg e0]
       by_cases e1 : 1 < many
       · rw [zan e1, if_pos e1]
       · rw [zah e1, if_neg e1]
theorem zxb (fuel d : Nat) (hs : Sep0 h0 h L) (hi : L[i]? = some (rO A V v)) (hj : L[j]? = some (rV V v)) (hv : ∀ x ∈ v, x = 0 ∨ x = 1 ∨ x = 2) (hn : v.length < 10000) {s : Sl} {c : List Int} (hc : h.sliceCells 1 s = some (zaS c)) (hcl : c.length < 1000000000) (hf : c.length < fuel) (hlit : ∀ l ∈ c, l ≠ 0 ∧ -9223372036854775807 ≤ l ∧ l ≤ 9223372036854775807) :
   run fuel (d + 3) zbt [.ptr (.mk ⟨A, 0, 0⟩ 1), .slice s] h = some (.tup [.int .i64 (zbn v c).1, .int .i64 (zbn v c).2], h) := by
 have := zvt fuel d hs hi hj hv hn hc hcl (fun l hl => (hlit l hl).2) fuel 0 0 0 (by omega) (by omega) (Int.le_refl _) (by omega)
 rw [List.drop_zero, Int.natCast_zero, zCd hv (fun l hl => (hlit l hl).1)] at this
 rw [zn0]
 exact this
theorem zw9 (fuel d : Nat) {L : List zcJ} (hi : L[i]? = some (rO A V v)) (hj : L[j]? = some (rV V v)) (hv : ∀ x ∈ v, x = 0 ∨ x = 1 ∨ x = 2) (hn : v.length < 10000) : ∀ (n k : Nat) (s : Sl) (h : AH) (acc : List Int), v.length < n + k → k ≤ v.length → acc.length ≤ k → Sep0 h0 h (L ++ [.grown 1 s (zaS acc)]) →
   ∃ s' h', zaY fuel d n [(0, .ptr (.mk ⟨A, 0, 0⟩ 1)), (3, .slice s), (4, .int .i64 (k : Int))] h = some (.exit 0, [(3, .slice s')], h') ∧
     Sep0 h0 h' (L ++ [.grown 1 s' (zaS (acc ++ ((List.range v.length).drop k).flatMap (zjZ v)))]) := by
 have hjl := (List.getElem?_eq_some_iff.1 hj).1
 have hil := (List.getElem?_eq_some_iff.1 hi).1
 intro n
 induction n with
 | zero => intro k s h acc h1 h2; omega
 | succ n ih =>
   intro k s h acc h1 h2 h3 hs
   have c0 : ∀ {h : AH} {s : Sl} {cs : List AV}, Sep0 h0 h (L ++ [.grown 1 s cs]) → h.cell (.mk ⟨A, 0, 0 + 0⟩ 1) = some (.slice (aSl V v)) := fun hs => hs.part (i := i) (by rw [List.getElem?_append_left hil]; exact hi) (by omega) rfl
   have hcells : ∀ {h : AH} {s : Sl} {cs : List AV}, Sep0 h0 h (L ++ [.grown 1 s cs]) → h.sliceCells 1 (aSl V v) = some (zaS v) := fun hs => (hs.sep.own (i := j) (by rw [List.getElem?_append_left hjl]; exact hj)).cells true
   rw [zl6]
   simp only [zjl, zcd, o_bd, c0 hs, zac]
   rw [show Sl.len (aSl V v) = v.length from rfl]
   by_cases hk : k < v.length
   · have hg : (zaS v)[(k : Int).toNat]? = some (.int .i64 (v.getD k 0)) := by simp [hk]
     have hl := hs.len (i := L.length) (sz := 1) (s := s) (cs := zaS acc) (by simp)
     simp only [List.length_map, Nat.mul_one] at hl
     rw [zan (by omega), zrr (hcells hs) (by omega) hg]
     have hd : (List.range v.length).drop k = k :: (List.range v.length).drop (k + 1) := by rw [List.drop_eq_getElem_cons (by simpa using hk)]; simp
     rw [hd, List.flatMap_cons, ← List.append_assoc]
     have hx := hv _ (zqu hk)
     simp only [o_bd, zam]
     rcases hx with hx | hx | hx
     · have hkn : zjZ v k = [] := by unfold zjZ; rw [hx]; rfl
       rw [hx, hkn, zah (by omega)]
       simp only [o_bd, zfq, zjl, zcd, c0 hs, zac]
       rw [zrr (hcells hs) (by omega) hg, hx]
       simp only [o_bd, zam]
       rw [zah (by omega), zlr (by omega)]
       exact ih (k + 1) s h (acc ++ []) (by omega) (by omega) (by simp; omega) (by simpa using hs)
     · have hkn : zjZ v k = [(k : Int)] := by unfold zjZ; rw [hx]; rfl
       obtain ⟨s', h', e1, s1, l1⟩ := hs.grow (i := L.length) (sz := 1) (s := s) (cs := zaS acc) (bytes := 8) (m := 1) (vs := [.int .i64 (k : Int)]) (by simp) rfl (by omega) (by omega)
       rw [zrn] at s1
       rw [hx, hkn, zan rfl, e1]
       simp only [o_bd, zfq, zjl, zcd, c0 s1, zac]
       rw [zrr (hcells s1) (by omega) hg, hx]
       simp only [o_bd, zam]
       rw [zah (by omega), zlr (by omega)]
       exact ih (k + 1) s' h' (acc ++ [(k : Int)]) (by omega) (by omega) (by simp; omega) (by rw [zhT]; exact s1)
     · have hkn : zjZ v k = [-(k : Int)] := by unfold zjZ; rw [hx]; rfl
       obtain ⟨s', h', e1, s1, l1⟩ := hs.grow (i := L.length) (sz := 1) (s := s) (cs := zaS acc) (bytes := 8) (m := 1) (vs := [.int .i64 (-(k : Int))]) (by simp) rfl (by omega) (by omega)
       rw [zrn] at s1
       rw [hx, hkn, zah (by omega)]
       simp only [o_bd, zfq, zjl, zcd, c0 hs, zac]
       rw [zrr (hcells hs) (by omega) hg, hx]
       simp only [o_bd, zam]
       have e2 : decide ((2 : Int) = 2) = true := rfl
       rw [show (0 : Int) - (k : Int) = -(k : Int) by omega, zeo (n := -(k : Int)) (by omega) (by omega), e1]
       simp only [decide_true, cond_true, o_bd]
       rw [zlr (by omega)]
       exact ih (k + 1) s' h' (acc ++ [-(k : Int)]) (by omega) (by omega) (by simp; omega) (by rw [zhT]; exact s1)
   · have : k = v.length := by omega
     subst this
     rw [zah (by omega)]
     refine ⟨s, h, rfl, ?_⟩
     rw [List.drop_eq_nil_of_le (by simp)]
     simpa using hs
theorem zxT (fuel d : Nat) (hs : Sep0 h0 h L) (hi : L[i]? = some (rO A V v)) (hj : L[j]? = some (rV V v)) (hv : ∀ x ∈ v, x = 0 ∨ x = 1 ∨ x = 2) (hn : v.length < 10000) (hz : v.getD 0 0 = 0) (hp : 0 < v.length) (hf : 10000 ≤ fuel) :
   ∃ s' h', run fuel (d + 1) zbJ [.ptr (.mk ⟨A, 0, 0⟩ 1)] h = some (.slice s', h') ∧ Sep0 h0 h' (L ++ [.grown 1 s' (zaS (zpw v))]) := by
 rw [zom]
 obtain ⟨s', h', e1, s1⟩ := zw9 fuel d hi hj hv hn fuel 1 .nil h [] (by omega) (by omega) (by simp) (hs.addNil 1)
 rw [show ((1 : Nat) : Int) = 1 from rfl] at e1
 rw [e1]
 simp only [o_bd, zmc]
 refine ⟨s', h', rfl, ?_⟩
 have : zpw v = ((List.range v.length).drop 1).flatMap (zjZ v) := by
   unfold zpw
   have hd : List.range v.length = 0 :: (List.range v.length).drop 1 := by
     have := List.drop_eq_getElem_cons (l := List.range v.length) (i := 0) (by simpa using hp)
     simpa using this
   have hk0 : zjZ v 0 = [] := by unfold zjZ; rw [hz]; rfl
   conv => lhs; rw [hd, List.flatMap_cons, hk0, List.nil_append]
 rw [this]
 simpa using s1
end
abbrev rcL (A V : Nat) (v : List Int) (R : List zcJ) : List zcJ := rV V v :: rO A V v :: R
section
variable {h0 : AH} {R : List zcJ} {A V n : Nat}
theorem rput {h h' : AH} {v : List Int} {l : Int} (s1 : Sep0 h0 h' ((rcL A V v R).set 0 (.own 1 V 0 v.length (zaS (zkX v l))))) : Sep0 h0 h' (rcL A V (zkX v l) R) := by
 have el : v.length = (zkX v l).length := (znr v l).symm
 have ea : aSl V v = aSl V (zkX v l) := by unfold aSl; rw [← el]
 have s2 : Sep0 h0 h' (.own 1 V 0 v.length (zaS (zkX v l)) :: rO A V v :: R) := s1
 unfold rO at s2
 rw [ea, el] at s2
 exact s2
theorem zw6 (fuel d : Nat) (hn : n ≤ 4000) {x1 s : Sl} {S : List Int} (hS : zvm h0 R s S) (hSl : S.length < 1000000) (hr : ∀ l ∈ S, -9223372036854775807 ≤ l ∧ l ≤ 9223372036854775807) : ∀ (m j : Nat) (v : List Int) (h : AH), S.length < m + j → j ≤ S.length → v.length = n + 1 → (∀ x ∈ v, x = 0 ∨ x = 1 ∨ x = 2) → Sep0 h0 h (rcL A V v R) →
   match zqj v (S.drop j) with
   | none => ∃ h', (zb3 fuel (d + 3) m [(1, .slice x1), (2, .slice s), (8, .ptr (.mk ⟨A, 0, 0⟩ 1)), (9, .int .i64 (j : Int))] h).bind (fun p => zb7 fuel (d + 3) p.1 p.2.1 p.2.2) = some (.tup [.slice .nil, .bool false], h') ∧ Sep0 h0 h' R
   | some w => ∃ h', zb3 fuel (d + 3) m [(1, .slice x1), (2, .slice s), (8, .ptr (.mk ⟨A, 0, 0⟩ 1)), (9, .int .i64 (j : Int))] h = some (.exit 0, [(1, .slice x1), (6, .bot), (7, .bot), (8, .ptr (.mk ⟨A, 0, 0⟩ 1))], h') ∧ Sep0 h0 h' (rcL A V w R) := by
 intro m
 induction m with
 | zero => intro j v h h1 h2; omega
 | succ m ih =>
   intro j v h h1 h2 hvl hv hs
   have hc := hS h hs.tl.tl
   have hlen := za7 hc
   simp only [List.length_map, Nat.mul_one] at hlen
   rw [znJ, ← hlen]
   by_cases hj : j < S.length
   · have hm : S.getD j 0 ∈ S := by rw [List.getD_eq_getElem?_getD, List.getElem?_eq_getElem hj]; exact List.getElem_mem hj
     rw [zan (by omega), zrr hc (by omega) (v := .int .i64 (S.getD j 0)) (by simp [hj]), zjk hj 0]
     simp only [o_bd, zam, zqj]
     obtain ⟨h', e1, s1⟩ := zxR fuel d hs (i := 1) (j := 0) rfl rfl hv (by omega) (hr _ hm)
     rw [e1]
     simp only [o_bd, zaf]
     cases hcs : zjm v (S.getD j 0) with
     | false =>
       rw [if_neg (by simp)]
       simp only [Bool.not_false, cond_true, o_bd, zoe]
       exact ⟨h', rfl, s1.tl.tl⟩
     | true =>
       rw [if_pos rfl]
       simp only [Bool.not_true, cond_false]
       rw [zlr (by omega)]
       exact ih (j + 1) (zkX v (S.getD j 0)) h' (by omega) (by omega) (by rw [znr]; exact hvl) (zro hv _) (rput (h := h) s1)
   · have : j = S.length := by omega
     subst this
     rw [zah (by omega), List.drop_length]
     exact ⟨h, rfl, hs⟩
theorem zw7 (fuel d mm : Nat) (hn : n ≤ 4000) {x1 : Sl} {cc : List (List Int)} (hG : zsd h0 R x1 cc) (hl : cc.length < 1000000) (hc : ∀ c ∈ cc, c.length < 1000000 ∧ c.length < fuel ∧ ∀ l ∈ c, zjg l n = true) : ∀ (m j : Nat) (v : List Int) (b : Bool) (h : AH), cc.length < m + j → j ≤ cc.length → v.length = n + 1 → (∀ x ∈ v, x = 0 ∨ x = 1 ∨ x = 2) → Sep0 h0 h (rcL A V v R) →
   match zqp v (cc.drop j) b with
   | none => ∃ h', (zbD fuel (d + 3) m [(1, .slice x1), (8, .ptr (.mk ⟨A, 0, 0⟩ 1)), (10, .bool b), (11, .int .i64 (j : Int))] h).bind (fun p => zb6 fuel (d + 3) mm p.1 p.2.1 p.2.2) = some (.ret, [(6, .slice .nil), (7, .bool false)], h') ∧ Sep0 h0 h' R
   | some w => ∃ h', zbD fuel (d + 3) m [(1, .slice x1), (8, .ptr (.mk ⟨A, 0, 0⟩ 1)), (10, .bool b), (11, .int .i64 (j : Int))] h = some (.exit 4, [(1, .slice x1), (6, .bot), (7, .bot), (8, .ptr (.mk ⟨A, 0, 0⟩ 1)), (10, .bool w.2)], h') ∧ Sep0 h0 h' (rcL A V w.1 R) ∧ w.1.length = n + 1 ∧ ∀ x ∈ w.1, x = 0 ∨ x = 1 ∨ x = 2 := by
 intro m
 induction m with
 | zero => intro j v b h h1 h2; omega
 | succ m ih =>
   intro j v b h h1 h2 hvl hv hs
   have hN := hG h hs.tl.tl
   rw [znH, hN.len]
   by_cases hj : j < cc.length
   · have hm : cc.getD j [] ∈ cc := by rw [List.getD_eq_getElem?_getD, List.getElem?_eq_getElem hj]; exact List.getElem_mem hj
     obtain ⟨c1, c2, c3⟩ := hc _ hm
     have hlit : ∀ l ∈ cc.getD j [], l ≠ 0 ∧ -9223372036854775807 ≤ l ∧ l ≤ 9223372036854775807 := fun l hl => by
       have := zbs.1 (c3 l hl); omega
     obtain ⟨s', a1, a2, a3, _⟩ := hN.read hj
     rw [zan (by omega), a1, o_bd, a2, zjk hj []]
     simp only [o_bd, zac, zqp]
     rw [zxb fuel d hs (i := 1) (j := 0) rfl rfl hv (by omega) a3 (by omega) c2 hlit]
     simp only [o_bd, tup2, cond_true, zu9, zu8, zam]
     by_cases h2' : (zbn v (cc.getD j [])).1 = 2
     · rw [zan h2', if_pos h2']
       simp only [o_bd, zj1]
       exact ⟨h, rfl, hs.tl.tl⟩
     · rw [zah h2', if_neg h2']
       by_cases h3' : (zbn v (cc.getD j [])).2 = 0
       · rw [zng h3', if_pos h3', zlr (by omega)]
         exact ih (j + 1) v b h (by omega) (by omega) hvl hv hs
       · rw [zn2 h3', if_neg h3']
         obtain ⟨h', e1, s1⟩ := zxR fuel d hs (i := 1) (j := 0) rfl rfl hv (by omega) (zxF (v := v) fun l hl => (hlit l hl).2)
         rw [e1]
         simp only [o_bd, zaf]
         cases hcs : zjm v (zbn v (cc.getD j [])).2 with
         | false =>
           rw [if_neg (by simp)]
           simp only [Bool.not_false, cond_true, o_bd, zj1]
           exact ⟨h', rfl, s1.tl.tl⟩
         | true =>
           rw [if_pos rfl]
           simp only [Bool.not_true, cond_false]
           rw [zlr (by omega)]
           exact ih (j + 1) _ true h' (by omega) (by omega) (by rw [znr]; exact hvl) (zro hv _) (rput (h := h) s1)
   · have : j = cc.length := by omega
     subst this
     rw [zah (by omega), List.drop_length]
     exact ⟨h, rfl, hs, hvl, hv⟩
end
end Go.Proofs.YtdmbfmgebgdfnaaDoor
