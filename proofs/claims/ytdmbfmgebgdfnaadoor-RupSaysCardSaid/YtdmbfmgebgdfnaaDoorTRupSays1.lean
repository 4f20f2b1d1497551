/-
 Parts of the proof of RupSays: What follows of clauses and literals at once (unit propagation): no program in sight. The search for what follows at once: its steps and where it comes to rest. No program in sight. What is known, as a list; a row of clauses each of which hands on to the next. No program in sight. Values of variables: plain (turned from wip/laws A1, A3, A5, A8), and as a search's literals. Values of variables as what a search has found. lits.Is. Literals. lits.Var. assign.Value. assign.Set. Chunks in another order; whole objects; what calls hand back, taken apart. assign.New, Clause, Known. slices.SortFunc at []int, first part: reading, exchanging, comparing; insertion sort; heap sort. slices.SortFunc at []int, second part: partitions. slices.SortFunc at []int, third part: reversing, the partial insertion sort, the pivot, the patterns. slices.SortFunc at []int, fourth part: bits.Len, the patterns, the sort. Literals in their order, each once: plain Lean. Parts of slices that grow; what is marked; what was there before an append. lits.Norm; slices.Clone, Compact, Clip. slices.Equal.
-/
import Derived.Test.YtdmbfmgebgdfnaaDoorE2
import Derived.Test.YtdmbfmgebgdfnaaDoorBm34
import Derived.Test.YtdmbfmgebgdfnaaDoorBm31
import Derived.Sort.AssemblyPlain
import Derived.Lib.SlicesCompact
namespace Go.Proofs.YtdmbfmgebgdfnaaDoor
inductive Up (C : List (List Int)) (S : List Int) : Int → Prop
 | start {l : Int} : l ∈ S → Up C S l
 | unit {c : List Int} {l : Int} : c ∈ C → l ∈ c → (∀ m ∈ c, m ≠ l → Up C S (-m)) → Up C S l
def Cfl (C : List (List Int)) (S : List Int) : Prop := (∃ l, Up C S l ∧ Up C S (-l)) ∨ ∃ c ∈ C, ∀ m ∈ c, Up C S (-m)
theorem zCX {C : List (List Int)} {S : List Int} {T : Int → Prop} (hS : ∀ l ∈ S, T l) (hcon : ∀ l, T l → ¬ T (-l))
   (hunit : ∀ c ∈ C, ∀ l ∈ c, (∀ m ∈ c, m ≠ l → T (-m)) → T l) (hno : ∀ c ∈ C, ¬ ∀ m ∈ c, T (-m)) (hsub : ∀ l, T l → Up C S l) : (∀ l, Up C S l ↔ T l) ∧ ¬ Cfl C S := by
 have h1 : ∀ l, Up C S l → T l := by
   intro l h
   induction h with
   | start h => exact hS _ h
   | unit hc hl _ ih => exact hunit _ hc _ hl ih
 refine ⟨fun l => ⟨h1 l, hsub l⟩, ?_⟩
 rintro (⟨l, a, b⟩ | ⟨c, hc, h⟩)
 · exact hcon l (h1 l a) (h1 _ b)
 · exact hno c hc fun m hm => h1 _ (h m hm)
theorem zz9 {C C' : List (List Int)} {S S' : List Int} (hC : ∀ c ∈ C, ∃ c' ∈ C', ∀ l, l ∈ c' ↔ l ∈ c) (hS : ∀ l ∈ S, Up C' S' l) : (∀ l, Up C S l → Up C' S' l) ∧ (Cfl C S → Cfl C' S') := by
 have h1 : ∀ l, Up C S l → Up C' S' l := by
   intro l h
   induction h with
   | start h => exact hS _ h
   | @unit c l hc hl _ ih =>
     obtain ⟨c', hc', e⟩ := hC c hc
     exact .unit hc' ((e l).2 hl) fun m hm hne => ih m ((e m).1 hm) hne
 refine ⟨h1, ?_⟩
 rintro (⟨l, a, b⟩ | ⟨c, hc, h⟩)
 · exact .inl ⟨l, h1 l a, h1 _ b⟩
 · obtain ⟨c', hc', e⟩ := hC c hc
   exact .inr ⟨c', hc', fun m hm => h1 _ (h m ((e m).1 hm))⟩
theorem zwa {C C' : List (List Int)} {S S' : List Int} (h1 : ∀ c ∈ C, ∃ c' ∈ C', ∀ l, l ∈ c' ↔ l ∈ c) (h2 : ∀ c ∈ C', ∃ c' ∈ C, ∀ l, l ∈ c' ↔ l ∈ c) (h3 : ∀ l, l ∈ S ↔ l ∈ S') : (∀ l, Up C S l ↔ Up C' S' l) ∧ (Cfl C S ↔ Cfl C' S') := by
 obtain ⟨a1, a2⟩ := zz9 h1 (S := S) (S' := S') fun l hl => .start ((h3 l).1 hl)
 obtain ⟨b1, b2⟩ := zz9 h2 (S := S') (S' := S) fun l hl => .start ((h3 l).2 hl)
 exact ⟨fun l => ⟨a1 l, b1 l⟩, ⟨a2, b2⟩⟩
def Imp (C : List (List Int)) (c : List Int) : Prop := Cfl C (c.map fun l => -l)
end Go.Proofs.YtdmbfmgebgdfnaaDoor
namespace Go.Proofs.YtdmbfmgebgdfnaaDoor
inductive Wth where
 | fa : Wth
 | tr : Wth
 | un : Wth
def nonF (T : Int → Bool) (c : List Int) : List Int := c.filter fun l => !T (-l)
def zfU (T : Int → Bool) (c : List Int) : Wth × Int :=
 match nonF T c with
 | [] => (.fa, 0)
 | l :: r => if (l :: r).any T = true then (.tr, 0) else if (r.all fun m => m == l) = true then (.un, l) else (.un, 0)
theorem zrw {T : Int → Bool} {c : List Int} {l : Int} : l ∈ nonF T c ↔ l ∈ c ∧ T (-l) = false := by
 simp [nonF, List.mem_filter]
theorem W_fa {T : Int → Bool} {c : List Int} : (zfU T c).1 = .fa ↔ ∀ m ∈ c, T (-m) = true := by
 unfold zfU
 cases hN : nonF T c with
 | nil =>
   refine ⟨fun _ m hm => ?_, fun _ => rfl⟩
   cases h : T (-m) with
   | true => rfl
   | false =>
     have : m ∈ nonF T c := zrw.2 ⟨hm, h⟩
     rw [hN] at this
     cases this
 | cons l r =>
   have hl : l ∈ nonF T c := by rw [hN]; exact List.mem_cons_self ..
   obtain ⟨h1, h2⟩ := zrw.1 hl
   refine ⟨fun h => ?_, fun h => by rw [h l h1] at h2; cases h2⟩
   exfalso
   by_cases ha : (l :: r).any T = true
   · simp only [ha, if_true] at h; cases h
   · simp only [ha, if_false] at h
     by_cases hb : (r.all fun m => m == l) = true
     · simp only [hb, if_true] at h; cases h
     · simp only [hb, if_false] at h; cases h
theorem zBT {T : Int → Bool} {c : List Int} {w : Wth} {l : Int} (h : zfU T c = (w, l)) (h0 : l ≠ 0) : l ∈ c ∧ T l = false ∧ T (-l) = false ∧ ∀ m ∈ c, m ≠ l → T (-m) = true := by
 unfold zfU at h
 cases hN : nonF T c with
 | nil => rw [hN] at h; cases h; exact absurd rfl h0
 | cons a r =>
   rw [hN] at h
   have ha : a ∈ nonF T c := by rw [hN]; exact List.mem_cons_self ..
   by_cases hb : (a :: r).any T = true
   · simp only [hb, if_true] at h; cases h; exact absurd rfl h0
   · simp only [hb, if_false] at h
     by_cases hc : (r.all fun m => m == a) = true
     · simp only [hc, if_true] at h
       cases h
       obtain ⟨h1, h2⟩ := zrw.1 ha
       refine ⟨h1, ?_, h2, fun m hm hne => ?_⟩
       · cases ht : T l with
         | false => rfl
         | true => exact absurd (by simp [ht]) hb
       · cases ht : T (-m) with
         | true => rfl
         | false =>
           have : m ∈ nonF T c := zrw.2 ⟨hm, ht⟩
           rw [hN] at this
           rcases List.mem_cons.1 this with e | e
           · exact absurd e hne
           · have := List.all_eq_true.1 hc m e
             exact absurd (by simpa using this) hne
     · simp only [hc, if_false] at h; cases h; exact absurd rfl h0
def Sat1 (T : Int → Bool) (c : List Int) : Prop := ∀ l ∈ c, (∀ m ∈ c, m ≠ l → T (-m) = true) → T l = true
theorem zCN {T : Int → Bool} {c : List Int} (h : (zfU T c).1 ≠ .fa) (h2 : (zfU T c).2 = 0) (hc : ∀ l ∈ c, l ≠ 0) : Sat1 T c := by
 intro l hl hm
 unfold zfU at h h2
 cases hN : nonF T c with
 | nil => rw [hN] at h; exact absurd rfl h
 | cons a r =>
   rw [hN] at h2
   have hall : ∀ m ∈ nonF T c, m = l := fun m hmem => by
     obtain ⟨a1, a2⟩ := zrw.1 hmem
     by_cases e : m = l
     · exact e
     · rw [hm m a1 e] at a2; cases a2
   have hal : a = l := hall a (by rw [hN]; exact List.mem_cons_self ..)
   subst hal
   have hr : (r.all fun m => m == a) = true := List.all_eq_true.2 fun m hmr => by
     have := hall m (by rw [hN]; exact List.mem_cons_of_mem _ hmr)
     simp [this]
   by_cases hb : (a :: r).any T = true
   · obtain ⟨k, hk, ht⟩ := List.any_eq_true.1 hb
     have := hall k (by rw [hN]; exact hk)
     rw [← this]; exact ht
   · simp only [hb, hr, if_true, if_false] at h2
     exact absurd h2 (hc a hl)
def setL (T : Int → Bool) (l : Int) : Int → Bool := fun m => m == l || T m
structure Fnd (C : List (List Int)) (S : List Int) (T : Int → Bool) : Prop where
 sub : ∀ l, T l = true → Up C S l
 con : ∀ l, T l = true → T (-l) = false
theorem Fnd.none (C : List (List Int)) (S : List Int) : Fnd C S fun _ => false := ⟨(fun _ h => by cases h), (fun _ h => by cases h)⟩
theorem Fnd.set {C : List (List Int)} {S : List Int} {T : Int → Bool} (h : Fnd C S T) {l : Int} (hl : Up C S l) (h0 : l ≠ 0) (hn : T (-l) = false) : Fnd C S (setL T l) := by
 refine ⟨fun m hm => ?_, fun m hm => ?_⟩
 · simp only [setL, Bool.or_eq_true, beq_iff_eq] at hm
   rcases hm with rfl | hm
   · exact hl
   · exact h.sub m hm
 · simp only [setL, Bool.or_eq_true, beq_iff_eq] at hm
   simp only [setL, Bool.or_eq_false_iff, beq_eq_false_iff_ne]
   rcases hm with rfl | hm
   · exact ⟨by omega, hn⟩
   · refine ⟨fun e => ?_, h.con m hm⟩
     rw [← e, Int.neg_neg, hm] at hn
     cases hn
theorem Fnd.cfl {C : List (List Int)} {S : List Int} {T : Int → Bool} (h : Fnd C S T) {l : Int} (hl : Up C S l) (hn : T (-l) = true) : Cfl C S := .inl ⟨l, hl, h.sub _ hn⟩
theorem Fnd.cfl_clause {C : List (List Int)} {S : List Int} {T : Int → Bool} (h : Fnd C S T) {c : List Int} (hc : c ∈ C) (hw : (zfU T c).1 = .fa) : Cfl C S := .inr ⟨c, hc, fun m hm => h.sub _ (W_fa.1 hw m hm)⟩
theorem Fnd.unit {C : List (List Int)} {S : List Int} {T : Int → Bool} (h : Fnd C S T) {c : List Int} (hc : c ∈ C) {w : Wth} {l : Int} (hw : zfU T c = (w, l)) (h0 : l ≠ 0) : Up C S l := by
 obtain ⟨h1, _, _, h2⟩ := zBT hw h0
 exact .unit hc h1 fun m hm hne => h.sub _ (h2 m hm hne)
def zxy (C : List (List Int)) (S : List Int) : Option (Int → Bool) → Prop
 | none => Cfl C S
 | some T => (∀ l, Up C S l ↔ T l = true) ∧ ¬ Cfl C S
theorem Fnd.rest {C : List (List Int)} {S : List Int} {T : Int → Bool} (h : Fnd C S T) (hS : ∀ l ∈ S, T l = true) (hC : ∀ c ∈ C, c ≠ [] ∧ Sat1 T c) : zxy C S (some T) := by
 refine zCX (T := fun l => T l = true) hS (fun l hl hn => by rw [h.con l hl] at hn; cases hn) (fun c hc => (hC c hc).2) (fun c hc hall => ?_) h.sub
 obtain ⟨h1, h2⟩ := hC c hc
 cases c with
 | nil => exact h1 rfl
 | cons l r =>
   have := h2 l (List.mem_cons_self ..) fun m hm _ => hall m hm
   have hl := hall l (List.mem_cons_self ..)
   rw [h.con l this] at hl
   cases hl
theorem zq1 {C C' : List (List Int)} {S S' : List Int} {r r' : Option (Int → Bool)} (h : zxy C S r) (h' : zxy C' S' r') (h1 : ∀ c ∈ C, ∃ c' ∈ C', ∀ l, l ∈ c' ↔ l ∈ c) (h2 : ∀ c ∈ C', ∃ c' ∈ C, ∀ l, l ∈ c' ↔ l ∈ c) (h3 : ∀ l, l ∈ S ↔ l ∈ S') : r = r' := by
 obtain ⟨a, b⟩ := zwa h1 h2 h3
 cases r with
 | none =>
   cases r' with
   | none => rfl
   | some T' => exact absurd (b.1 h) h'.2
 | some T =>
   cases r' with
   | none => exact absurd (b.2 h') h.2
   | some T' =>
     congr 1
     funext l
     rw [Bool.eq_iff_iff, ← h.1 l, ← h'.1 l]
     exact a l
def zp7 (C : List (List Int)) (T P : Int → Bool) : Prop := ∀ c ∈ C, 2 ≤ c.length → ∀ l ∈ c, (∀ m ∈ c, m ≠ l → P (-m) = true) → T l = true
theorem zp7.none {C : List (List Int)} (hC : ∀ c ∈ C, c.Nodup) (T : Int → Bool) : zp7 C T fun _ => false := by
 intro c hc h2 l hl h
 have hnd := hC c hc
 match c, h2, hnd with
 | a :: b :: r, _, hnd =>
   exfalso
   by_cases e : a = l
   · have hb : b ≠ l := fun e2 => by
       rw [List.nodup_cons] at hnd
       exact hnd.1 (by rw [e, ← e2]; exact List.mem_cons_self ..)
     exact Bool.false_ne_true (h b (by simp) hb)
   · exact Bool.false_ne_true (h a (by simp) e)
theorem zp7.mono {C : List (List Int)} {T T' P : Int → Bool} (h : zp7 C T P) (hT : ∀ l, T l = true → T' l = true) : zp7 C T' P := fun c hc h2 l hl hm => hT l (h c hc h2 l hl hm)
theorem zp7.step {C : List (List Int)} {T T' P : Int → Bool} {k : Int} (h : zp7 C T P) (hT : ∀ l, T l = true → T' l = true) (hP : ∀ l, P l = true → T' l = true) (hk : T' k = true) (hs : ∀ c ∈ C, -k ∈ c → Sat1 T' c) : zp7 C T' (setL P k) := by
 intro c hc h2 l hl hm
 have hP' : ∀ m, setL P k m = true → T' m = true := fun m hm => by
   simp only [setL, Bool.or_eq_true, beq_iff_eq] at hm
   rcases hm with rfl | hm
   · exact hk
   · exact hP m hm
 by_cases hkc : -k ∈ c
 · exact hs c hc hkc l hl fun m hm' hne => hP' _ (hm m hm' hne)
 · refine hT l (h c hc h2 l hl fun m hm' hne => ?_)
   have := hm m hm' hne
   simp only [setL, Bool.or_eq_true, beq_iff_eq] at this
   rcases this with e | e
   · exact absurd (by rw [← e, Int.neg_neg]; exact hm') hkc
   · exact e
theorem zp7.done {C : List (List Int)} {T : Int → Bool} (h : zp7 C T T) (h1 : ∀ c ∈ C, c.length < 2 → c ≠ [] ∧ Sat1 T c) : ∀ c ∈ C, c ≠ [] ∧ Sat1 T c := by
 intro c hc
 by_cases h2 : c.length < 2
 · exact h1 c hc h2
 · refine ⟨fun e => by rw [e] at h2; exact h2 (by simp), h c hc (by omega)⟩
theorem Sat1.mono1 {T T' : Int → Bool} {c : List Int} (hc : c.length < 2) (h : c ≠ [] ∧ Sat1 T c) (hT : ∀ l, T l = true → T' l = true) : c ≠ [] ∧ Sat1 T' c := by
 obtain ⟨h0, h1⟩ := h
 match c, hc, h0 with
 | [a], _, _ =>
   refine ⟨by simp, fun l hl hm => hT l (h1 l hl fun m hm' hne => ?_)⟩
   rw [List.mem_singleton.1 hm', List.mem_singleton.1 hl] at hne
   exact absurd rfl hne
end Go.Proofs.YtdmbfmgebgdfnaaDoor
namespace Go.Proofs.YtdmbfmgebgdfnaaDoor
def zxg (T : Int → Bool) (n : Nat) : List Int := (List.range (n + 1)).flatMap fun v : Nat => if T (v : Int) = true then [(v : Int)] else if T (-(v : Int)) = true then [-(v : Int)] else []
def zDv (n : Nat) : List (List Int) := (List.range (n - 1)).map fun v : Nat => [-((v : Int) + 1), (v : Int) + 2]
def upT (a n : Int) : Int → Bool := fun l => decide (a ≤ l) && decide (l ≤ n)
end Go.Proofs.YtdmbfmgebgdfnaaDoor
namespace Go.Proofs.YtdmbfmgebgdfnaaDoor
def zjg (l n : Int) : Bool := decide (l ≠ 0) && decide (-n ≤ l) && decide (l ≤ n)
def absI (l : Int) : Int := if l < 0 then -l else l
def zfX (v : List Int) (l : Int) : Int :=
 if zjg l ((v.length : Int) - 1) then
   (let x := v.getD (absI l).toNat 0
    if l < 0 ∧ x ≠ 0 then 3 - x else x)
 else 0
theorem zbs {l n : Int} : zjg l n = true ↔ l ≠ 0 ∧ -n ≤ l ∧ l ≤ n := by simp [zjg, and_assoc]
def zjm (v : List Int) (l : Int) : Bool := zjg l ((v.length : Int) - 1) && !decide (zfX v l = 2)
def zkX (v : List Int) (l : Int) : List Int := if zjm v l then v.set (absI l).toNat (if 0 < l then 1 else 2) else v
theorem znr (v : List Int) (l : Int) : (zkX v l).length = v.length := by unfold zkX; split <;> simp
theorem zqu {v : List Int} {n : Nat} (h : n < v.length) : v.getD n 0 ∈ v := by
 rw [List.getD_eq_getElem?_getD, List.getElem?_eq_getElem h]
 exact List.getElem_mem _
theorem zlq {v : List Int} {y : Int} (hl : zjg y ((v.length : Int) - 1) = true) : zfX v y = if y < 0 ∧ v.getD (absI y).toNat 0 ≠ 0 then 3 - v.getD (absI y).toNat 0 else v.getD (absI y).toNat 0 := by
 unfold zfX
 rw [if_pos hl]
structure ClSt where
 left : Int
 many : Int
 worth : Int
def zpN (v : List Int) (s : ClSt) (l : Int) : ClSt :=
 if zfX v l = 2 then s
 else
   let w := if zfX v l = 1 then 1 else if s.worth = 2 then 0 else s.worth
   if s.many = 0 ∨ l ≠ s.left then ⟨l, s.many + 1, w⟩ else ⟨s.left, s.many, w⟩
def zvS (v : List Int) (c : List Int) : Int × Int :=
 let s := c.foldl (zpN v) ⟨0, 0, 2⟩
 (s.worth, if s.many = 1 ∧ s.worth = 0 then s.left else 0)
theorem zi1 {v : List Int} (hv : ∀ x ∈ v, x = 0 ∨ x = 1 ∨ x = 2) (l : Int) : zfX v l = 0 ∨ zfX v l = 1 ∨ zfX v l = 2 := by
 unfold zfX
 split
 · rename_i hl
   have hl' := zbs.1 hl
   have hlt : (absI l).toNat < v.length := by unfold absI; split <;> omega
   rcases hv _ (zqu hlt) with h | h | h <;> simp only [h] <;> split <;> omega
 · exact .inl rfl
def zbn (v c : List Int) : Int × Int :=
 if ∃ l ∈ c, zfX v l = 1 then (1, 0)
 else match c.filter (fun l => decide (zfX v l = 0)) with
   | [] => (2, 0)
   | u :: r => (0, if ∀ x ∈ r, x = u then u else 0)
structure zCV (v p : List Int) (s : ClSt) : Prop where
 w1 : s.worth = 1 ↔ ∃ l ∈ p, zfX v l = 1
 w2 : s.worth = 2 ↔ ∀ l ∈ p, zfX v l = 2
 w0 : s.worth = 0 ∨ s.worth = 1 ∨ s.worth = 2
 pos : 0 ≤ s.many
 m0 : s.many = 0 ↔ ∀ l ∈ p, zfX v l = 2
 m1 : s.many = 1 ↔ (s.left ∈ p ∧ zfX v s.left ≠ 2) ∧ ∀ l ∈ p, zfX v l ≠ 2 → l = s.left
 lt : s.many ≠ 0 → s.left ∈ p ∧ zfX v s.left ≠ 2
theorem zyG {v : List Int} (hv : ∀ x ∈ v, x = 0 ∨ x = 1 ∨ x = 2) {p : List Int} {s : ClSt} (hi : zCV v p s) (l : Int) : zCV v (p ++ [l]) (zpN v s l) := by
 obtain ⟨w1, w2, w0, pos, m0, m1, lt⟩ := hi
 unfold zpN
 by_cases h2 : zfX v l = 2
 · rw [if_pos h2]
   have hmem : ∀ x, x ∈ p ++ [l] ↔ x ∈ p ∨ x = l := by simp
   refine ⟨?_, ?_, w0, pos, ?_, ?_, fun h => ⟨List.mem_append_left _ (lt h).1, (lt h).2⟩⟩
   · rw [w1]
     constructor
     · rintro ⟨x, h1, h3⟩; exact ⟨x, List.mem_append_left _ h1, h3⟩
     · rintro ⟨x, h1, h3⟩
       rcases (hmem x).1 h1 with h1 | rfl
       · exact ⟨x, h1, h3⟩
       · omega
   · rw [w2]
     constructor
     · intro h x hx
       rcases (hmem x).1 hx with hx | rfl
       · exact h x hx
       · exact h2
     · intro h x hx; exact h x (List.mem_append_left _ hx)
   · rw [m0]
     constructor
     · intro h x hx
       rcases (hmem x).1 hx with hx | rfl
       · exact h x hx
       · exact h2
     · intro h x hx; exact h x (List.mem_append_left _ hx)
   · rw [m1]
     constructor
     · rintro ⟨⟨h1, h3⟩, h4⟩
       refine ⟨⟨List.mem_append_left _ h1, h3⟩, fun x hx hn => ?_⟩
       rcases (hmem x).1 hx with hx | rfl
       · exact h4 x hx hn
       · exact absurd h2 hn
     · rintro ⟨⟨h1, h3⟩, h4⟩
       refine ⟨⟨?_, h3⟩, fun x hx hn => h4 x (List.mem_append_left _ hx) hn⟩
       rcases (hmem _).1 h1 with h1 | h1
       · exact h1
       · rw [h1] at h3; exact absurd h2 h3
 · rw [if_neg h2]
   have hmem : ∀ x, x ∈ p ++ [l] ↔ x ∈ p ∨ x = l := by simp
   have hl : l ∈ p ++ [l] := by simp
   have hc := zi1 hv l
   have hw : ∀ a b, (⟨a, b, if zfX v l = 1 then 1 else if s.worth = 2 then 0 else s.worth⟩ : ClSt).worth = (if zfX v l = 1 then 1 else if s.worth = 2 then 0 else s.worth) := fun _ _ => rfl
   have k1 : (if zfX v l = 1 then (1 : Int) else if s.worth = 2 then 0 else s.worth) = 1 ↔ ∃ x ∈ p ++ [l], zfX v x = 1 := by
     by_cases h1 : zfX v l = 1
     · rw [if_pos h1]; exact ⟨fun _ => ⟨l, hl, h1⟩, fun _ => rfl⟩
     · rw [if_neg h1]
       have : (∃ x ∈ p ++ [l], zfX v x = 1) ↔ s.worth = 1 := by
         rw [w1]
         constructor
         · rintro ⟨x, hx, hx1⟩
           rcases (hmem x).1 hx with hx | rfl
           · exact ⟨x, hx, hx1⟩
           · exact absurd hx1 h1
         · rintro ⟨x, hx, hx1⟩; exact ⟨x, List.mem_append_left _ hx, hx1⟩
       rw [this]
       split <;> omega
   have k2 : (if zfX v l = 1 then (1 : Int) else if s.worth = 2 then 0 else s.worth) = 2 ↔ ∀ x ∈ p ++ [l], zfX v x = 2 := by
     constructor
     · intro h
       split at h
       · omega
       · split at h <;> omega
     · intro h; exact absurd (h l hl) h2
   have k0 : (if zfX v l = 1 then (1 : Int) else if s.worth = 2 then 0 else s.worth) = 0 ∨ (if zfX v l = 1 then (1 : Int) else if s.worth = 2 then 0 else s.worth) = 1 ∨ (if zfX v l = 1 then (1 : Int) else if s.worth = 2 then 0 else s.worth) = 2 := by
     split
     · omega
     · split <;> omega
   by_cases hm : s.many = 0 ∨ l ≠ s.left
   · simp only [if_pos hm]
     refine ⟨k1, k2, k0, by simp only; omega, ?_, ?_, fun _ => ⟨hl, h2⟩⟩
     · constructor
       · intro h; simp only at h; omega
       · intro h; exact absurd (h l hl) h2
     · simp only
       constructor
       · intro h
         have h0 : s.many = 0 := by omega
         refine ⟨⟨hl, h2⟩, fun x hx hn => ?_⟩
         rcases (hmem x).1 hx with hx | rfl
         · exact absurd (m0.1 h0 x hx) hn
         · rfl
       · rintro ⟨_, h⟩
         by_cases h0 : s.many = 0
         · omega
         · have := h s.left (List.mem_append_left _ (lt h0).1) (lt h0).2
           rcases hm with hm | hm
           · exact absurd hm h0
           · exact absurd this.symm hm
   · simp only [if_neg hm]
     simp only [not_or, ne_eq, Decidable.not_not] at hm
     obtain ⟨hm0, hml⟩ := hm
     refine ⟨k1, k2, k0, pos, ?_, ?_, fun h => ⟨List.mem_append_left _ (lt h).1, (lt h).2⟩⟩
     · constructor
       · intro h; exact absurd h hm0
       · intro h; exact absurd (h l hl) h2
     · simp only
       rw [m1]
       constructor
       · rintro ⟨⟨h1, h3⟩, h4⟩
         refine ⟨⟨List.mem_append_left _ h1, h3⟩, fun x hx hn => ?_⟩
         rcases (hmem x).1 hx with hx | rfl
         · exact h4 x hx hn
         · exact hml
       · rintro ⟨_, h4⟩
         exact ⟨lt hm0, fun x hx hn => h4 x (List.mem_append_left _ hx) hn⟩
theorem zve {v : List Int} (hv : ∀ x ∈ v, x = 0 ∨ x = 1 ∨ x = 2) : ∀ (c p : List Int) (s : ClSt), zCV v p s → zCV v (p ++ c) (c.foldl (zpN v) s)
 | [], p, s, h => by simpa using h
 | l :: c, p, s, h => by
   have := zve hv c (p ++ [l]) _ (zyG hv h l)
   simpa using this
theorem zvd {v : List Int} (hv : ∀ x ∈ v, x = 0 ∨ x = 1 ∨ x = 2) (c : List Int) : zvS v c = zbn v c := by
 have hi := zve hv c [] ⟨0, 0, 2⟩ ⟨by simp, by simp, .inr (.inr rfl), by simp, by simp, by simp, by simp⟩
 rw [List.nil_append] at hi
 unfold zvS zbn
 simp only
 generalize c.foldl (zpN v) ⟨0, 0, 2⟩ = s at hi
 obtain ⟨w1, w2, w0, pos, m0, m1, lt⟩ := hi
 by_cases h1 : ∃ l ∈ c, zfX v l = 1
 · have := w1.2 h1
   rw [if_pos h1, this, if_neg (by omega)]
 · rw [if_neg h1]
   have n1 : ∀ l ∈ c, zfX v l ≠ 1 := fun l hl e => h1 ⟨l, hl, e⟩
   cases hf : c.filter (fun l => decide (zfX v l = 0)) with
   | nil =>
     have : ∀ l ∈ c, zfX v l = 2 := by
       intro l hl
       rcases zi1 hv l with h | h | h
       · have : l ∈ c.filter (fun l => decide (zfX v l = 0)) := List.mem_filter.2 ⟨hl, by simp [h]⟩
         rw [hf] at this
         cases this
       · exact absurd h (n1 l hl)
       · exact h
     rw [w2.2 this, if_neg (by omega)]
   | cons u r =>
     have hmem : ∀ x, x ∈ u :: r ↔ x ∈ c ∧ zfX v x = 0 := by
       intro x
       rw [← hf, List.mem_filter]
       simp
     have hu := (hmem u).1 (List.mem_cons_self ..)
     have hw : s.worth = 0 := by
       rcases w0 with h | h | h
       · exact h
       · exact absurd (w1.1 h) h1
       · have := w2.1 h u hu.1; omega
     rw [hw]
     have hne : ∀ x ∈ c, zfX v x ≠ 2 → zfX v x = 0 := by
       intro x hx hn
       rcases zi1 hv x with h | h | h
       · exact h
       · exact absurd h (n1 x hx)
       · exact absurd h hn
     by_cases hm : s.many = 1
     · obtain ⟨⟨a1, a2⟩, a3⟩ := m1.1 hm
       have hul := a3 u hu.1 (by omega)
       rw [if_pos ⟨hm, rfl⟩]
       simp only
       rw [if_pos]
       · rw [hul]
       · intro x hx
         have := (hmem x).1 (List.mem_cons_of_mem _ hx)
         rw [hul]
         exact a3 x this.1 (by omega)
     · rw [if_neg fun h => hm h.1]
       simp only
       rw [if_neg]
       intro hr
       apply hm
       have h0 : s.many ≠ 0 := fun h0 => by have := m0.1 h0 u hu.1; omega
       have key : ∀ x ∈ c, zfX v x ≠ 2 → x = u := fun x hx hn => by
         rcases List.mem_cons.1 ((hmem x).2 ⟨hx, hne x hx hn⟩) with h | h
         · exact h
         · exact hr x h
       have hl := lt h0
       refine m1.2 ⟨hl, fun x hx hn => ?_⟩
       rw [key x hx hn, key s.left hl.1 hl.2]
theorem zzc {v : List Int} {y l : Int} (hy : zjg y ((v.length : Int) - 1) = true) (hl : zjg l ((v.length : Int) - 1) = true) :
   zfX (v.set (absI y).toNat (if 0 < y then 1 else 2)) l = if absI l = absI y then (if l = y then 1 else 2) else zfX v l := by
 have hy' := zbs.1 hy
 have hl' := zbs.1 hl
 have h1 : (absI y).toNat < v.length ∧ 0 ≤ absI y := by unfold absI; split <;> omega
 have h2 : (absI l).toNat < v.length ∧ 0 ≤ absI l := by unfold absI; split <;> omega
 have hset : zjg l (((v.set (absI y).toNat (if 0 < y then 1 else 2)).length : Int) - 1) = true := by rw [List.length_set]; exact hl
 rw [zlq hset, zlq hl]
 by_cases e : absI l = absI y
 · rw [if_pos e, e, List.getD_eq_getElem?_getD, List.getElem?_set_self h1.1, Option.getD_some]
   have : l = y ∨ l = -y := by unfold absI at e; split at e <;> split at e <;> omega
   by_cases hp : 0 < y
   · rcases this with rfl | rfl
     · simp [hp, show ¬ l < 0 by omega]
     · simp [hp, show ¬ -y = y by omega]
   · rcases this with rfl | rfl
     · simp [hp, show l < 0 by omega]
     · simp [hp, show ¬ -y = y by omega]
 · have hne : (absI y).toNat ≠ (absI l).toNat := by omega
   rw [if_neg e, List.getD_eq_getElem?_getD, List.getElem?_set_ne hne, ← List.getD_eq_getElem?_getD]
theorem zsm {y n : Int} : zjg (-y) n = zjg y n := by
 rw [Bool.eq_iff_iff, zbs, zbs]
 omega
theorem zBS (y : Int) : absI (-y) = absI y := by unfold absI; split <;> split <;> omega
theorem zqi {v : List Int} (hv : ∀ x ∈ v, x = 0 ∨ x = 1 ∨ x = 2) {y : Int} (hy : zjg y ((v.length : Int) - 1) = true) (h0 : zfX v y = 0) : v.getD (absI y).toNat 0 = 0 := by
 have hy' := zbs.1 hy
 have hlt : (absI y).toNat < v.length := by unfold absI; split <;> omega
 have hx := hv _ (zqu hlt)
 rw [zlq hy] at h0
 generalize v.getD (absI y).toNat 0 = x at hx h0
 rcases hx with rfl | rfl | rfl
 · rfl
 · split at h0 <;> omega
 · split at h0 <;> omega
def zjZ (v : List Int) (t : Nat) : List Int := if v.getD t 0 = 1 then [(t : Int)] else if v.getD t 0 = 2 then [-(t : Int)] else []
def zpw (v : List Int) : List Int := (List.range v.length).flatMap (zjZ v)
end Go.Proofs.YtdmbfmgebgdfnaaDoor
namespace Go.Proofs.YtdmbfmgebgdfnaaDoor
def zgB (v : List Int) (l : Int) : Bool := decide (zfX v l = 1)
theorem zz8 {v : List Int} (hv : ∀ x ∈ v, x = 0 ∨ x = 1 ∨ x = 2) (l : Int) : zfX v (-l) = if zfX v l = 0 then 0 else 3 - zfX v l := by
 cases hl : zjg l ((v.length : Int) - 1) with
 | false =>
   have h1 : zfX v l = 0 := by unfold zfX; rw [hl]; rfl
   have h2 : zfX v (-l) = 0 := by unfold zfX; rw [zsm, hl]; rfl
   rw [h1, h2, if_pos rfl]
 | true =>
   have hn : zjg (-l) ((v.length : Int) - 1) = true := by rw [zsm]; exact hl
   have hl' := zbs.1 hl
   have hlt : (absI l).toNat < v.length := by unfold absI; split <;> omega
   have hx := hv _ (zqu hlt)
   rw [zlq hn, zlq hl, zBS]
   generalize v.getD (absI l).toNat 0 = x at hx
   by_cases h0 : l < 0
   · have h1 : ¬ -l < 0 := by omega
     rcases hx with rfl | rfl | rfl <;> simp [h0, h1] <;> omega
   · have h1 : -l < 0 := by omega
     rcases hx with rfl | rfl | rfl <;> simp [h0, h1] <;> omega
theorem zse {v : List Int} (hv : ∀ x ∈ v, x = 0 ∨ x = 1 ∨ x = 2) (l : Int) : zgB v (-l) = decide (zfX v l = 2) := by
 unfold zgB
 rw [zz8 hv]
 rcases zi1 hv l with h | h | h <;> rw [h] <;> rfl
theorem zpQ {v : List Int} {l : Int} (h : zjg l ((v.length : Int) - 1) = false) : zfX v l = 0 := by
 unfold zfX
 rw [h]; rfl
theorem zjJ {v : List Int} {l : Int} : zjm v l = true ↔ zjg l ((v.length : Int) - 1) = true ∧ zfX v l ≠ 2 := by
 unfold zjm
 simp
theorem zwb {v : List Int} (hv : ∀ x ∈ v, x = 0 ∨ x = 1 ∨ x = 2) {l : Int} (hc : zjm v l = true) : zgB (zkX v l) = setL (zgB v) l := by
 obtain ⟨hl, h2⟩ := zjJ.1 hc
 funext m
 have hs : zkX v l = v.set (absI l).toNat (if 0 < l then 1 else 2) := by unfold zkX; rw [if_pos hc]
 simp only [setL, zgB, hs]
 cases hm : zjg m ((v.length : Int) - 1) with
 | false =>
   have hne : m ≠ l := fun e => by rw [e, hl] at hm; cases hm
   rw [zpQ hm, zpQ (by rw [List.length_set]; exact hm), beq_false_of_ne hne]
   rfl
 | true =>
   rw [zzc hl hm]
   have hm' := zbs.1 hm
   have hl' := zbs.1 hl
   by_cases e : absI m = absI l
   · rw [if_pos e]
     by_cases e2 : m = l
     · rw [if_pos e2, e2]; simp
     · have e3 : m = -l := by unfold absI at e; split at e <;> split at e <;> omega
       have h3 : zfX v m ≠ 1 := by
         rw [e3, zz8 hv]
         rcases zi1 hv l with h | h | h <;> rw [h]
         · simp
         · simp
         · exact absurd h h2
       rw [if_neg e2, beq_false_of_ne e2, decide_eq_false h3]
       rfl
   · rw [if_neg e, beq_false_of_ne (fun e2 => e (by rw [e2])), Bool.false_or]
theorem zro {v : List Int} (hv : ∀ x ∈ v, x = 0 ∨ x = 1 ∨ x = 2) (l : Int) : ∀ x ∈ zkX v l, x = 0 ∨ x = 1 ∨ x = 2 := by
 intro x hx
 unfold zkX at hx
 split at hx
 · rcases List.mem_or_eq_of_mem_set hx with h | h
   · exact hv x h
   · rw [h]; split <;> simp
 · exact hv x hx
def zCW : Wth → Int
 | .fa => 2
 | .tr => 1
 | .un => 0
theorem ztc {v : List Int} (hv : ∀ x ∈ v, x = 0 ∨ x = 1 ∨ x = 2) (c : List Int) : zbn v c = (zCW (zfU (zgB v) c).1, (zfU (zgB v) c).2) := by
 have hN : nonF (zgB v) c = c.filter fun l => !decide (zfX v l = 2) := by
   unfold nonF
   congr 1
   funext l
   rw [zse hv]
 unfold zbn zfU
 by_cases h1 : ∃ l ∈ c, zfX v l = 1
 · rw [if_pos h1]
   obtain ⟨l, hl, h⟩ := h1
   have hmem : l ∈ nonF (zgB v) c := by rw [hN, List.mem_filter]; exact ⟨hl, by rw [h]; rfl⟩
   cases hn : nonF (zgB v) c with
   | nil => rw [hn] at hmem; cases hmem
   | cons a r =>
     rw [hn] at hmem
     have hany : (a :: r).any (zgB v) = true := List.any_eq_true.2 ⟨l, hmem, by unfold zgB; rw [h]; rfl⟩
     simp only [hany, if_true]
     rfl
 · rw [if_neg h1]
   have hF : nonF (zgB v) c = c.filter fun l => decide (zfX v l = 0) := by
     rw [hN]
     apply List.filter_congr
     intro l hl
     have hne : zfX v l ≠ 1 := fun h => h1 ⟨l, hl, h⟩
     rcases zi1 hv l with h | h | h
     · rw [h]; rfl
     · exact absurd h hne
     · rw [h]; rfl
   rw [← hF]
   cases hn : nonF (zgB v) c with
   | nil => rfl
   | cons a r =>
     have hany : ¬ (a :: r).any (zgB v) = true := fun h => by
       obtain ⟨k, hk, ht⟩ := List.any_eq_true.1 h
       have hmem : k ∈ nonF (zgB v) c := by rw [hn]; exact hk
       exact h1 ⟨k, (zrw.1 hmem).1, of_decide_eq_true ht⟩
     simp only [hany, if_false]
     by_cases hall : ∀ x ∈ r, x = a
     · have h2 : (r.all fun m => m == a) = true := List.all_eq_true.2 fun x hx => by simp [hall x hx]
       rw [if_pos hall]
       simp only [h2, if_true]
       rfl
     · have h2 : ¬ (r.all fun m => m == a) = true := fun h => hall fun x hx => by simpa using List.all_eq_true.1 h x hx
       rw [if_neg hall]
       simp only [h2, if_false]
       rfl
theorem zwy {v : List Int} (hv : ∀ x ∈ v, x = 0 ∨ x = 1 ∨ x = 2) (h0 : v.getD 0 0 = 0) {n : Nat} (hn : v.length = n + 1) : zpw v = zxg (zgB v) n := by
 unfold zpw zxg
 rw [hn]
 have key : ∀ t ∈ List.range (n + 1), zjZ v t = if zgB v (t : Int) = true then [(t : Int)] else if zgB v (-(t : Int)) = true then [-(t : Int)] else [] := by
   intro t ht
   have ht := List.mem_range.1 ht
   unfold zjZ
   rw [zse hv]
   unfold zgB
   by_cases h : t = 0
   · subst h
     rw [zpQ (by unfold zjg; simp), h0]
     simp
   · have hl : zjg (t : Int) ((v.length : Int) - 1) = true := zbs.2 ⟨by omega, by omega, by omega⟩
     have hneg : ¬ ((t : Int) < 0) := by omega
     have habs : (absI (t : Int)).toNat = t := by unfold absI; rw [if_neg hneg]; omega
     rw [zlq hl, habs]
     simp only [hneg, false_and, if_false, decide_eq_true_eq]
 rw [List.flatMap_def, List.flatMap_def]
 congr 1
 exact List.map_congr_left key
end Go.Proofs.YtdmbfmgebgdfnaaDoor
namespace Go.Proofs.YtdmbfmgebgdfnaaDoor
open Go.RowKit
def isI (l n : Int) : Bool := bif (bif (!decide (l = (0 : Int))) then (decide ((IntKind.wrap .i64 (0 - n)) ≤ l)) else false) then (decide (l ≤ n)) else false
theorem zBY (fuel d : Nat) (l n : Int) (h : AH) : run fuel (d + 1) zrj [.int .i64 l, .int .i64 n] h = some (.bool (isI l n), h) :=
 zft rfl rfl (cc2 rfl rfl) (by rw [zzK]) rfl
theorem zCk {l n : Int} (h0 : -9223372036854775808 < n) (h1 : n ≤ 9223372036854775807) : isI l n = true ↔ l ≠ 0 ∧ -n ≤ l ∧ l ≤ n := by
 unfold isI
 rw [zeo (by omega) (by omega)]
 by_cases a : l = 0
 · simp [a]
 · by_cases b : -n ≤ l <;> by_cases c : l ≤ n <;> simp [a, b, c]
end Go.Proofs.YtdmbfmgebgdfnaaDoor
namespace Go.Proofs.YtdmbfmgebgdfnaaDoor
open Go.RowKit
theorem zlr {n : Nat} (h : n < 9000000000000000000) : IntKind.wrap .i64 ((n : Int) + 1) = ((n + 1 : Nat) : Int) := by rw [zeo (by omega) (by omega)]; omega
def varI (l : Int) : Int := bif decide (l < IntKind.wrap .i64 (0 - l)) then IntKind.wrap .i64 (0 - l) else l
def zqa (l : Int) : Prop := -9223372036854775808 < l ∧ l ≤ 9223372036854775807
theorem zv8 {l : Int} (h : zqa l) : varI l = (l.natAbs : Int) := by
 obtain ⟨h1, h2⟩ := h
 unfold varI
 rw [zeo (by omega) (by omega)]
 by_cases h0 : l < 0 - l
 · rw [decide_eq_true h0, cond_true]; omega
 · rw [decide_eq_false h0, cond_false]; omega
end Go.Proofs.YtdmbfmgebgdfnaaDoor
namespace Go.Proofs.YtdmbfmgebgdfnaaDoor
open Go.RowKit
theorem zAM (fuel d : Nat) (l : Int) (h : AH) : run fuel (d + 1) zlX [.int .i64 l] h = some (.int .i64 (varI l), h) :=
 zft rfl rfl (cc1 rfl) (by rw [zyy]) rfl
end Go.Proofs.YtdmbfmgebgdfnaaDoor
namespace Go.Proofs.YtdmbfmgebgdfnaaDoor
open Go.RowKit
abbrev i8C (v : List Int) : List AV := v.map (.int .i8)
abbrev aSl (V : Nat) (v : List Int) : Sl := .mk ⟨V, 0, 0⟩ v.length true
theorem zvC {l n : Int} (h0 : -9223372036854775808 < n) (h1 : n ≤ 9223372036854775807) : isI l n = zjg l n := by
 rw [Bool.eq_iff_iff, zCk h0 h1, zbs]
theorem zt7 (fuel d : Nat) {h0 h : AH} {L : List zcJ} {i j A V : Nat} {v : List Int} (hs : Sep0 h0 h L) (hi : L[i]? = some (.own 1 A 0 1 [.slice (aSl V v)])) (hj : L[j]? = some (.own 1 V 0 v.length (i8C v))) (hv : ∀ x ∈ v, x = 0 ∨ x = 1 ∨ x = 2) (hn : v.length < 10000) {l : Int} (hl : -9223372036854775807 ≤ l ∧ l ≤ 9223372036854775807) :
   run fuel (d + 2) zfm [.ptr (.mk ⟨A, 0, 0⟩ 1), .int .i64 l] h = some (.int .i64 (zfX v l), h) := by
 have c0 : h.cell (.mk ⟨A, 0, 0 + 0⟩ 1) = some (.slice (aSl V v)) := hs.part hi (by omega) rfl
 have hcells : h.sliceCells 1 (aSl V v) = some (i8C v) := (hs.sep.own hj).cells true
 rw [zp5]
 simp only [Pt.chk, zcd, o_bd, c0, zac, Sl.len]
 rw [zeo (n := (v.length : Int) - 1) (by omega) (by omega), zBY, zvC (by omega) (by omega)]
 simp only [o_bd, zaf]
 cases hli : zjg l ((v.length : Int) - 1) with
 | false => rw [zpQ hli]; rfl
 | true =>
   have hl' := zbs.1 hli
   have hlt : (absI l).toNat < v.length := by unfold absI; split <;> omega
   have hab : varI l = absI l := by
     unfold varI absI
     rw [zeo (n := 0 - l) (by omega) (by omega)]
     by_cases hneg : l < 0
     · rw [decide_eq_true (show l < 0 - l by omega), if_pos hneg, cond_true]; omega
     · rw [decide_eq_false (show ¬ l < 0 - l by omega), if_neg hneg, cond_false]
   have ha0 : 0 ≤ absI l := by unfold absI; split <;> omega
   simp only [Bool.not_true, cond_false, c0, o_bd, zac]
   rw [zAM fuel d]
   simp only [o_bd, zam, c0, zac, hab]
   have a1 : h.addr 1 (aSl V v) (absI l) = some ((aSl V v).at 1 (absI l)) := znh hcells ha0 (by simp only [Sl.len]; omega)
   have a2 : h.cell ((aSl V v).at 1 (absI l)) = some (.int .i8 (v.getD (absI l).toNat 0)) := zrU hcells ha0 (by rw [List.getElem?_map, List.getElem?_eq_getElem hlt, List.getD_eq_getElem?_getD, List.getElem?_eq_getElem hlt]; rfl)
   have hx := hv _ (zqu hlt)
   simp only [zls, a1, a2, o_bd]
   rw [zlq hli]
   generalize v.getD (absI l).toNat 0 = x at hx
   rw [show AV.int? .i8 (.int .i8 x) = some x from rfl, o_bd, zeo (n := x) (by omega) (by omega)]
   by_cases hneg : l < 0
   · by_cases hx0 : x = 0
     · subst hx0
       rw [decide_eq_true hneg]
       simp
     · rw [decide_eq_true hneg, cond_true, decide_eq_false hx0, zeo (by omega) (by omega), if_pos ⟨hneg, hx0⟩]
       rfl
   · rw [decide_eq_false hneg, cond_false, cond_false, if_neg (fun h => hneg h.1)]
end Go.Proofs.YtdmbfmgebgdfnaaDoor
namespace Go.Proofs.YtdmbfmgebgdfnaaDoor
open Go.RowKit
theorem zAs (v : List Int) {k : Nat} (hk : k < v.length) (x : Int) : (i8C v).take k ++ [AV.int .i8 x] ++ (i8C v).drop (k + 1) = i8C (v.set k x) := by
 rw [List.set_eq_take_append_cons_drop, if_pos hk]
 simp
theorem zB7 (fuel d : Nat) {h0 h : AH} {L : List zcJ} {i j A V : Nat} {v : List Int} (hs : Sep0 h0 h L) (hi : L[i]? = some (.own 1 A 0 1 [.slice (aSl V v)])) (hj : L[j]? = some (.own 1 V 0 v.length (i8C v))) (hv : ∀ x ∈ v, x = 0 ∨ x = 1 ∨ x = 2) (hn : v.length < 10000) {l : Int} (hl : -9223372036854775807 ≤ l ∧ l ≤ 9223372036854775807) :
   ∃ h', run fuel (d + 3) zkO [.ptr (.mk ⟨A, 0, 0⟩ 1), .int .i64 l] h = some (.bool (zjm v l), h') ∧ Sep0 h0 h' (L.set j (.own 1 V 0 v.length (i8C (zkX v l)))) := by
 have c0 : h.cell (.mk ⟨A, 0, 0 + 0⟩ 1) = some (.slice (aSl V v)) := hs.part hi (by omega) rfl
 have hcells : h.sliceCells 1 (aSl V v) = some (i8C v) := (hs.sep.own hj).cells true
 have same0 : L.set j (.own 1 V 0 v.length (i8C v)) = L := by
   obtain ⟨j1, j2⟩ := List.getElem?_eq_some_iff.1 hj
   rw [← j2]
   exact List.set_getElem_self j1
 rw [zra]
 simp only [Pt.chk, zcd, o_bd, c0, zac, Sl.len]
 rw [zeo (n := (v.length : Int) - 1) (by omega) (by omega), zBY, zvC (by omega) (by omega)]
 simp only [o_bd, zaf]
 cases hli : zjg l ((v.length : Int) - 1) with
 | false =>
   have hc : zjm v l = false := by unfold zjm; rw [hli]; rfl
   have hso : zkX v l = v := by unfold zkX; rw [hc]; rfl
   rw [hc, hso, same0]
   exact ⟨h, rfl, hs⟩
 | true =>
   have hl' := zbs.1 hli
   simp only [Bool.not_true, beq_self_eq_true, cond_true]
   rw [zt7 fuel d hs hi hj hv hn hl]
   simp only [o_bd, zam, zaf]
   by_cases h2 : zfX v l = 2
   · have hc : zjm v l = false := by unfold zjm; rw [hli, h2]; rfl
     have hso : zkX v l = v := by unfold zkX; rw [hc]; rfl
     rw [hc, hso, same0, decide_eq_true h2]
     exact ⟨h, rfl, hs⟩
   · have hc : zjm v l = true := zjJ.2 ⟨hli, h2⟩
     have hso : zkX v l = v.set (absI l).toNat (if 0 < l then 1 else 2) := by unfold zkX; rw [if_pos hc]
     have hlt : (absI l).toNat < v.length := by unfold absI; split <;> omega
     rw [hc, hso, decide_eq_false h2, cond_false]
     by_cases hp : 0 < l
     · have hab : absI l = l := by unfold absI; rw [if_neg (by omega)]
       rw [hab] at hlt ⊢
       obtain ⟨h', e1, s1⟩ := hs.put (o := l.toNat) (l := l.toNat + 1) (vs := [.int .i8 1]) hj (by simp) (by simp; omega)
       have a1 : h.addr 1 (aSl V v) l = some ((aSl V v).at 1 l) := znh hcells (by omega) (by simp only [Sl.len]; omega)
       have a2 : (aSl V v).at 1 l = .mk ⟨V, 0, l.toNat⟩ (l.toNat + 1) := by simp [Sl.at]
       rw [decide_eq_true hp, cond_true, c0, o_bd, zac, o_bd, a1, o_bd, a2, e1, if_pos hp]
       rw [List.length_singleton, zAs v hlt] at s1
       exact ⟨h', rfl, s1⟩
     · have hab : absI l = -l := by unfold absI; rw [if_pos (by omega)]
       rw [hab] at hlt ⊢
       obtain ⟨h', e1, s1⟩ := hs.put (o := (-l).toNat) (l := (-l).toNat + 1) (vs := [.int .i8 2]) hj (by simp) (by simp; omega)
       have a1 : h.addr 1 (aSl V v) (-l) = some ((aSl V v).at 1 (-l)) := znh hcells (by omega) (by simp only [Sl.len]; omega)
       have a2 : (aSl V v).at 1 (-l) = .mk ⟨V, 0, (-l).toNat⟩ ((-l).toNat + 1) := by simp [Sl.at]
       rw [decide_eq_false hp, cond_false, c0, o_bd, zac, o_bd, zeo (n := 0 - l) (by omega) (by omega), show 0 - l = -l by omega, a1, o_bd, a2, e1, if_neg hp]
       rw [List.length_singleton, zAs v hlt] at s1
       exact ⟨h', rfl, s1⟩
end Go.Proofs.YtdmbfmgebgdfnaaDoor
namespace Go.Proofs.YtdmbfmgebgdfnaaDoor
open Go.RowKit
theorem Sep0.perm {h0 h : AH} {L L' : List zcJ} (hs : Sep0 h0 h L) (hp : L.Perm L') : Sep0 h0 h L' :=
 ⟨⟨fun c hc => hs.sep.all c (hp.mem_iff.2 hc), hp.pairwise hs.sep.far fun h => zcJ.Far.symm h⟩, hs.ext, fun c hc => hs.fresh c (hp.mem_iff.2 hc)⟩
theorem Sep0.sub {h0 h : AH} {L L' : List zcJ} (hs : Sep0 h0 h L) (hp : L'.Sublist L) : Sep0 h0 h L' :=
 ⟨⟨fun c hc => hs.sep.all c (hp.subset hc), hs.sep.far.sublist hp⟩, hs.ext, fun c hc => hs.fresh c (hp.subset hc)⟩
theorem Sep0.cons {h0 h : AH} {L : List zcJ} {c : zcJ} (hs : Sep0 h0 h (L ++ [c])) : Sep0 h0 h (c :: L) := hs.perm (List.perm_append_singleton _ L)
theorem zpq (h : AH) (m : Nat) : h.mapOf (some m) = h.maps[m]? := rfl
theorem tup2 (a b : AV) : AV.isTup 2 (.tup [a, b]) = true := rfl
theorem zu9 (a : AV) (l : List AV) : AV.comp 0 (.tup (a :: l)) = some a := rfl
theorem zu8 (a b : AV) (l : List AV) : AV.comp 1 (.tup (a :: b :: l)) = some b := rfl
theorem zCK {α : Type} {l : List α} {z : List α} {n : Nat} (hl : l.length = n) (hz : z.length = n) : l.take 0 ++ z ++ l.drop (0 + z.length) = z := by
 rw [List.take_zero, List.nil_append, List.drop_eq_nil_of_le (by omega), List.append_nil]
theorem Sep0.putAll {h0 h : AH} {L : List zcJ} (hs : Sep0 h0 h L) {i id n : Nat} {cs vs : List AV} (hi : L[i]? = some (.own 1 id 0 n cs)) (hc : cs.length = n) (hv : vs.length = n) :
   ∃ h', h.storeAt vs (.mk ⟨id, 0, 0⟩ n) = some h' ∧ Sep0 h0 h' (L.set i (.own 1 id 0 n vs)) := by
 obtain ⟨h', e1, s1⟩ := hs.put (o := 0) (l := n) (vs := vs) hi (by omega) (by omega)
 rw [zCK hc hv] at s1
 exact ⟨h', e1, s1⟩
theorem Sep0.init {h0 h : AH} {L : List zcJ} {c : zcJ} (hs : Sep0 h0 h (L ++ [c])) : Sep0 h0 h L :=
 ⟨⟨fun d hd => hs.sep.all d (List.mem_append_left _ hd), hs.sep.far.sublist (List.sublist_append_left ..)⟩, hs.ext, fun d hd => hs.fresh d (List.mem_append_left _ hd)⟩
theorem Sep0.junk {h0 h : AH} {L : List zcJ} (hs : Sep0 h0 h L) {cs : List AV} : Sep0 h0 (h.push 1 cs) L := (hs.push 1 cs.length (cs := cs) (by simp)).init
theorem zhT (a b : List Int) : zaS (a ++ b) = zaS a ++ zaS b := List.map_append
theorem zrn {α : Type} (X : List α) (c d : α) : (X ++ [c]).set X.length d = X ++ [d] := by simp
theorem set0 {α : Type} (a x : α) (L : List α) : (a :: L).set 0 x = x :: L := rfl
theorem set1 {α : Type} (a b x : α) (L : List α) : (a :: b :: L).set 1 x = a :: x :: L := rfl
theorem set2 {α : Type} (a b c x : α) (L : List α) : (a :: b :: c :: L).set 2 x = a :: b :: x :: L := rfl
theorem set3 {α : Type} (a b c d x : α) (L : List α) : (a :: b :: c :: d :: L).set 3 x = a :: b :: c :: x :: L := rfl
end Go.Proofs.YtdmbfmgebgdfnaaDoor
namespace Go.Proofs.YtdmbfmgebgdfnaaDoor
open Go.RowKit
abbrev aO (A V : Nat) (v : List Int) : zcJ := .own 1 A 0 1 [.slice (aSl V v)]
abbrev aV (V : Nat) (v : List Int) : zcJ := .own 1 V 0 v.length (i8C v)
theorem zAz (fuel d : Nat) (n : Int) (h : AH) (h0 : 0 ≤ n) (h1 : n ≤ 4000) : run fuel (d + 1) zoJ [.int .i64 n] h = some (.int .i64 n, h) := by
 rw [zvN, zah (show ¬ n < 0 by omega), zah (by omega)]
theorem zBM (fuel d : Nat) {h0 h : AH} {L : List zcJ} (hs : Sep0 h0 h L) {n : Nat} (hn : n ≤ 4000) :
   ∃ A V h', run fuel (d + 2) zqL [.int .i64 (n : Int)] h = some (.ptr (.mk ⟨A, 0, 0⟩ 1), h') ∧ Sep0 h0 h' (L ++ [aV V (List.replicate (n + 1) 0), aO A V (List.replicate (n + 1) 0)]) := by
 rw [zvM, zAz _ _ _ _ (by omega) (by omega)]
 simp only [o_bd, zam]
 rw [zeo (by omega) (by omega), zDe (by omega) (by omega) (by omega), cond_true, show ((n : Int) + 1).toNat = n + 1 by omega, zpn, zyw]
 have e0 : List.replicate (n + 1) (AV.int .i8 0) = i8C (List.replicate (n + 1) 0) := by simp [i8C]
 have s1 := hs.push 1 (List.replicate (n + 1) (0 : Int)).length (cs := i8C (List.replicate (n + 1) 0)) (by simp)
 have s2 := s1.push 1 1 (cs := [.slice (aSl h.next (List.replicate (n + 1) 0))]) rfl
 have e1 : AV.slice (.mk ⟨h.next, 0, 0⟩ (n + 1) true) = .slice (aSl h.next (List.replicate (n + 1) 0)) := by simp [aSl]
 rw [e0, e1]
 rw [List.append_assoc] at s2
 exact ⟨_, h.next, _, rfl, s2⟩
section
variable {h0 h : AH} {L : List zcJ} {i j A V : Nat} {v : List Int}
theorem zv1 (fuel d : Nat) (hs : Sep0 h0 h L) (hi : L[i]? = some (aO A V v)) (hj : L[j]? = some (aV V v)) (hv : ∀ x ∈ v, x = 0 ∨ x = 1 ∨ x = 2) (hn : v.length < 10000) {s : Sl} {c : List Int} (hc : h.sliceCells 1 s = some (zaS c)) (hcl : c.length < 1000000000) (hlit : ∀ l ∈ c, -9223372036854775807 ≤ l ∧ l ≤ 9223372036854775807) :
   ∀ (n k : Nat) (st : ClSt), c.length < n + k → k ≤ c.length → 0 ≤ st.many → st.many ≤ k →
     za8 fuel (d + 2) n [(0, .ptr (.mk ⟨A, 0, 0⟩ 1)), (6, .int .i64 st.left), (7, .int .i64 st.many), (8, .int .i64 st.worth), (12, .slice s), (13, .int .i64 (c.length : Int)), (14, .int .i64 (k : Int))] h =
       some (.exit 0, [(6, .int .i64 ((c.drop k).foldl (zpN v) st).left), (7, .int .i64 ((c.drop k).foldl (zpN v) st).many), (8, .int .i64 ((c.drop k).foldl (zpN v) st).worth)], h) := by
 intro n
 induction n with
 | zero => intro k st h1 h2; omega
 | succ n ih =>
   intro k st h1 h2 h3 h4
   rw [znm]
   by_cases hk : k < c.length
   · have hg : (zaS c)[(k : Int).toNat]? = some (.int .i64 c[k]) := by simp [List.getElem?_eq_getElem hk]
     have hd : c.drop k = c[k] :: c.drop (k + 1) := List.drop_eq_getElem_cons hk
     rw [zan (by omega), zrr hc (by omega) hg]
     simp only [zam, o_bd]
     rw [zt7 fuel d hs hi hj hv hn (hlit _ (List.getElem_mem hk))]
     simp only [zam, o_bd]
     rw [hd, List.foldl_cons, zlr (by omega)]
     generalize hx : zfX v c[k] = x
     have hstep : zpN v st c[k] = if x = 2 then st else if st.many = 0 ∨ c[k] ≠ st.left then ⟨c[k], st.many + 1, if x = 1 then 1 else if st.worth = 2 then 0 else st.worth⟩ else ⟨st.left, st.many, if x = 1 then 1 else if st.worth = 2 then 0 else st.worth⟩ := by
       unfold zpN; rw [hx]
     have go : ∀ w, w = (if x = 1 then 1 else if st.worth = 2 then 0 else st.worth) → x ≠ 2 →
         zcZ fuel (d + 2) n .normal [(0, .ptr (.mk ⟨A, 0, 0⟩ 1)), (6, .int .i64 st.left), (7, .int .i64 st.many), (8, .int .i64 w), (10, .int .i64 c[k]), (12, .slice s), (13, .int .i64 (c.length : Int)), (14, .int .i64 (k : Int))] h =
         some (.exit 0, [(6, .int .i64 ((c.drop (k + 1)).foldl (zpN v) (zpN v st c[k])).left), (7, .int .i64 ((c.drop (k + 1)).foldl (zpN v) (zpN v st c[k])).many), (8, .int .i64 ((c.drop (k + 1)).foldl (zpN v) (zpN v st c[k])).worth)], h) := by
       intro w hw' hx2
       rw [znU, zlr (by omega)]
       rw [hstep, if_neg hx2, ← hw']
       by_cases hm : st.many = 0 ∨ c[k] ≠ st.left
       · rw [if_pos hm]
         have e : (bif decide (st.many = 0) then true else !decide (c[k] = st.left)) = true := by
           rcases hm with hm | hm <;> by_cases h9 : st.many = 0 <;> simp [hm, h9]
         rw [e, cond_true, zeo (by omega) (by omega)]
         exact ih (k + 1) ⟨c[k], st.many + 1, w⟩ (by omega) (by omega) (by simp only; omega) (by simp only; omega)
       · rw [if_neg hm]
         have e : (bif decide (st.many = 0) then true else !decide (c[k] = st.left)) = false := by
           simp only [not_or, ne_eq, Decidable.not_not] at hm
           simp [hm.1, hm.2]
         rw [e, cond_false]
         exact ih (k + 1) ⟨st.left, st.many, w⟩ (by omega) (by omega) h3 (by simp only; omega)
     by_cases hx2 : x = 2
     · simp only [hx2, decide_true, cond_true]
       rw [hstep, if_pos hx2]
       exact ih (k + 1) st (by omega) (by omega) h3 (by omega)
     · simp only [hx2, decide_false, cond_false]
       by_cases hx1 : x = 1
       · simp only [hx1, decide_true, cond_true, o_bd]
         exact go 1 (by rw [if_pos hx1]) hx2
       · simp only [hx1, decide_false, cond_false]
         by_cases hw2 : st.worth = 2
         · simp only [hw2, decide_true, cond_true, o_bd, zjH]
           exact go 0 (by rw [if_neg hx1, if_pos hw2]) hx2
         · simp only [hw2, decide_false, cond_false, o_bd, zjH]
           exact go st.worth (by rw [if_neg hx1, if_neg hw2]) hx2
   · have : k = c.length := by omega
     subst this
     rw [zah (by omega)]
     simp only [List.drop_length, List.foldl_nil]
theorem zxu (fuel d : Nat) (hs : Sep0 h0 h L) (hi : L[i]? = some (aO A V v)) (hj : L[j]? = some (aV V v)) (hv : ∀ x ∈ v, x = 0 ∨ x = 1 ∨ x = 2) (hn : v.length < 10000) {s : Sl} {c : List Int} (hc : h.sliceCells 1 s = some (zaS c)) (hcl : c.length < 1000000000) (hf : c.length < fuel) (hlit : ∀ l ∈ c, -9223372036854775807 ≤ l ∧ l ≤ 9223372036854775807) :
   run fuel (d + 3) zcr [.ptr (.mk ⟨A, 0, 0⟩ 1), .slice s] h = some (.tup [.int .i64 (zbn v c).1, .int .i64 (zbn v c).2], h) := by
 have hl : s.len = c.length := by have := za7 hc; simp at this; omega
 rw [zpM, hl]
 have := zv1 fuel d hs hi hj hv hn hc hcl hlit fuel 0 ⟨0, 0, 2⟩ (by omega) (by omega) (by simp) (by simp)
 simp only [Int.natCast_zero] at this
 rw [this, ← zvd hv]
 simp only [o_bd, znp, List.drop_zero, zvS]
 generalize c.foldl (zpN v) ⟨0, 0, 2⟩ = st
 by_cases h1 : st.many = 1 <;> by_cases h2 : st.worth = 0 <;> simp [h1, h2]
theorem zxs (fuel d : Nat) {L : List zcJ} (hj : L[j]? = some (aV V v)) (hv : ∀ x ∈ v, x = 0 ∨ x = 1 ∨ x = 2) (hn : v.length < 10000) : ∀ (n k : Nat) (s : Sl) (h : AH) (acc : List Int), v.length < n + k → k ≤ v.length → acc.length ≤ k → Sep0 h0 h (L ++ [.grown 1 s (zaS acc)]) →
   ∃ s' h', zbE fuel d n [(3, .slice s), (9, .slice (aSl V v)), (10, .int .i64 (v.length : Int)), (11, .int .i64 (k : Int))] h = some (.exit 0, [(3, .slice s')], h') ∧
     Sep0 h0 h' (L ++ [.grown 1 s' (zaS (acc ++ ((List.range v.length).drop k).flatMap (zjZ v)))]) := by
 have hjl := (List.getElem?_eq_some_iff.1 hj).1
 intro n
 induction n with
 | zero => intro k s h acc h1 h2; omega
 | succ n ih =>
   intro k s h acc h1 h2 h3 hs
   rw [znN]
   by_cases hk : k < v.length
   · have hcells : h.sliceCells 1 (aSl V v) = some (i8C v) := (hs.sep.own (i := j) (by rw [List.getElem?_append_left hjl]; exact hj)).cells true
     have hg : (i8C v)[(k : Int).toNat]? = some (.int .i8 (v.getD k 0)) := by simp [hk]
     have hl := hs.len (i := L.length) (sz := 1) (s := s) (cs := zaS acc) (by simp)
     simp only [List.length_map, Nat.mul_one] at hl
     rw [zan (by omega), znh hcells (by omega) (by simp only [Sl.len]; omega), o_bd, zrU hcells (by omega) hg]
     have hd : (List.range v.length).drop k = k :: (List.range v.length).drop (k + 1) := by rw [List.drop_eq_getElem_cons (by simpa using hk)]; simp
     rw [hd, List.flatMap_cons, ← List.append_assoc]
     have hx := hv _ (zqu hk)
     simp only [o_bd, zam]
     rcases hx with hx | hx | hx
     · have hkn : zjZ v k = [] := by unfold zjZ; rw [hx]; rfl
       rw [hx, hkn, zah (by omega)]
       simp only [o_bd, zhl]
       rw [zah (by omega), zlr (by omega)]
       exact ih (k + 1) s h (acc ++ []) (by omega) (by omega) (by simp; omega) (by simpa using hs)
     · have hkn : zjZ v k = [(k : Int)] := by unfold zjZ; rw [hx]; rfl
       obtain ⟨s', h', e1, s1, l1⟩ := hs.grow (i := L.length) (sz := 1) (s := s) (cs := zaS acc) (bytes := 8) (m := 1) (vs := [.int .i64 (k : Int)]) (by simp) rfl (by omega) (by omega)
       rw [zrn] at s1
       rw [hx, hkn, zan rfl, e1]
       simp only [o_bd, zhl]
       rw [zah (by omega), zlr (by omega)]
       exact ih (k + 1) s' h' (acc ++ [(k : Int)]) (by omega) (by omega) (by simp; omega) (by rw [zhT]; exact s1)
     · have hkn : zjZ v k = [-(k : Int)] := by unfold zjZ; rw [hx]; rfl
       obtain ⟨s', h', e1, s1, l1⟩ := hs.grow (i := L.length) (sz := 1) (s := s) (cs := zaS acc) (bytes := 8) (m := 1) (vs := [.int .i64 (-(k : Int))]) (by simp) rfl (by omega) (by omega)
       rw [zrn] at s1
       rw [hx, hkn, zah (by omega)]
       simp only [o_bd, zhl]
       simp only [decide_true, cond_true]
       rw [show (0 : Int) - (k : Int) = -(k : Int) by omega, zeo (n := -(k : Int)) (by omega) (by omega), e1, o_bd, zlr (by omega)]
       exact ih (k + 1) s' h' (acc ++ [-(k : Int)]) (by omega) (by omega) (by simp; omega) (by rw [zhT]; exact s1)
   · have : k = v.length := by omega
     subst this
     rw [zah (by omega)]
     refine ⟨s, h, rfl, ?_⟩
     rw [List.drop_eq_nil_of_le (by simp)]
     simpa using hs
theorem zyW (fuel d : Nat) (hs : Sep0 h0 h L) (hi : L[i]? = some (aO A V v)) (hj : L[j]? = some (aV V v)) (hv : ∀ x ∈ v, x = 0 ∨ x = 1 ∨ x = 2) (hn : v.length < 10000) (hf : 10000 ≤ fuel) :
   ∃ s' h', run fuel (d + 1) zcE [.ptr (.mk ⟨A, 0, 0⟩ 1)] h = some (.slice s', h') ∧ Sep0 h0 h' (L ++ [.grown 1 s' (zaS (zpw v))]) := by
 have c0 : h.cell (.mk ⟨A, 0, 0 + 0⟩ 1) = some (.slice (aSl V v)) := hs.part hi (by omega) rfl
 rw [zp6]
 simp only [Pt.chk, zcd, o_bd, c0, zac, Sl.len]
 obtain ⟨s', h', e1, s1⟩ := zxs fuel d hj hv hn fuel 0 .nil h [] (by omega) (by omega) (by simp) (hs.addNil 1)
 rw [Int.natCast_zero] at e1
 rw [e1]
 simp only [o_bd, znT]
 exact ⟨s', h', rfl, by simpa [zpw] using s1⟩
end
end Go.Proofs.YtdmbfmgebgdfnaaDoor
namespace Go.Proofs.YtdmbfmgebgdfnaaDoor
open Go.RowKit Go.Sort
theorem addI {a b : Nat} (h : a + b < 9000000000000000000) : IntKind.wrap .i64 ((a : Int) + (b : Int)) = ((a + b : Nat) : Int) := by rw [zeo (by omega) (by omega)]; omega
theorem zCM {a : Nat} (k : Nat) (h : a + k < 9000000000000000000) {z : Int} (hz : z = (k : Int)) : IntKind.wrap .i64 ((a : Int) + z) = ((a + k : Nat) : Int) := by subst hz; exact addI h
theorem subI {a b : Nat} (h : b ≤ a) (h2 : a < 9000000000000000000) : IntKind.wrap .i64 ((a : Int) - (b : Int)) = ((a - b : Nat) : Int) := by rw [zeo (by omega) (by omega)]; omega
theorem zsh {a : Nat} (h : 1 ≤ a) (h2 : a < 9000000000000000000) : IntKind.wrap .i64 ((a : Int) - 1) = ((a - 1 : Nat) : Int) := by rw [zeo (by omega) (by omega)]; omega
theorem sucI {n : Nat} (h : n < 9000000000000000000) : IntKind.wrap .i64 ((n : Int) + 1) = ((n + 1 : Nat) : Int) := by rw [zeo (by omega) (by omega)]; omega
theorem zB0 {n : Nat} (h : n < 9000000000000000000) : IntKind.wrap .i64 (n : Int) = (n : Int) := zeo (by omega) (by omega)
def ltO (ord : Int → Int → Int) (x y : Int) : Bool := decide (ord x y < 0)
def zqN (fuel f : Nat) (cps : List Pt) (ord : Int → Int → Int) (D : Nat) : Prop :=
 ∀ e, D ≤ e → ∀ (x y : Int) (h : AH), run fuel e f ([.int .i64 x, .int .i64 y] ++ cps.map .ptr) h = some (.int .i64 (ord x y), h)
section
variable {fuel f : Nat} {cps : List Pt} {ord : Int → Int → Int} {D : Nat} {h : AH} {id gen n : Nat} {c : Bool} {d : Array Int}
theorem znG (ho : Own h 1 id gen n (zaS d.toList)) : d.size = n := by have := ho.len; simpa using this
theorem rdK (ho : Own h 1 id gen n (zaS d.toList)) {i : Nat} (hi : i < n) {β : Type} (K : Int → Option β) :
   ((h.addr 1 (.mk ⟨id, gen, 0⟩ n c) (i : Int)).bind fun p => (h.cell p).bind fun u => (AV.int? .i64 u).bind K) = K d[i]! := by
 have hs := ho.cells c
 have hsz := znG ho
 have hd : i < d.size := by omega
 rw [znh hs (by omega) (by simp [Sl.len]; omega), o_bd, zrU hs (v := .int .i64 d[i]!) (by omega) (by simp [hd]), o_bd, zam, o_bd]
theorem swpK (ho : Own h 1 id gen n (zaS d.toList)) {i j : Nat} (hi : i < n) (hj : j < n) : ∃ h', Own h' 1 id gen n (zaS (swp d i j).toList) ∧ zcs h h' (· = id) ∧ ∀ {β : Type} (K : AH → Option β),
   ((h.addr 1 (.mk ⟨id, gen, 0⟩ n c) (j : Int)).bind fun p => (h.cell p).bind fun u => (AV.int? .i64 u).bind fun n3 =>
     (h.addr 1 (.mk ⟨id, gen, 0⟩ n c) (i : Int)).bind fun p => (h.cell p).bind fun u => (AV.int? .i64 u).bind fun n6 =>
     (h.addr 1 (.mk ⟨id, gen, 0⟩ n c) (i : Int)).bind fun p => (h.storeAt [.int .i64 n3] p).bind fun h8 =>
     (h8.addr 1 (.mk ⟨id, gen, 0⟩ n c) (j : Int)).bind fun p => (h8.storeAt [.int .i64 n6] p).bind K) = K h' := by
 have hsz := znG ho
 obtain ⟨a1, h1, e1, o1, k1, _⟩ := ho.intsStore (j := (i : Int)) (by omega) (by omega) c d[j]!
 obtain ⟨a2, h2, e2, o2, k2, _⟩ := o1.intsStore (j := (j : Int)) (by omega) (by omega) c d[i]!
 refine ⟨h2, ?_, k1.trans k2, fun K => ?_⟩
 · have : (swp d i j).toList = (d.toList.set i d[j]!).set j d[i]! := by simp [swp]
   rw [this]
   exact o2
 · rw [rdK ho hj, rdK ho hi, a1, o_bd, e1, o_bd, a2, o_bd, e2, o_bd]
theorem zAR (d : Array Int) (i j : Nat) : (swp d i j).size = d.size := by simp [swp]
theorem dlt (x y : Int) : decide (ord x y < 0) = ltO ord x y := rfl
def Srt (h h' : AH) (id gen n : Nat) (d : Array Int) : Prop := Own h' 1 id gen n (zaS d.toList) ∧ zcs h h' (· = id)
theorem zzx (hc : zqN fuel f cps ord D) {e : Nat} (he : D ≤ e) (hn : n < 1000000000000) (a b i : Nat) : ∀ (j m : Nat) (d : Array Int) (h : AH), j < m → j < n → Own h 1 id gen n (zaS d.toList) →
   ∃ h', zaz fuel e m [(0, .slice (.mk ⟨id, gen, 0⟩ n c)), (1, .int .i64 (a : Int)), (2, .int .i64 (b : Int)), (3, .func f cps), (8, .int .i64 (i : Int)), (9, .int .i64 (j : Int))] h =
     some (.exit 2, [(0, .slice (.mk ⟨id, gen, 0⟩ n c)), (1, .int .i64 (a : Int)), (2, .int .i64 (b : Int)), (3, .func f cps), (8, .int .i64 (i : Int))], h') ∧ Srt h h' id gen n (insInner (ltO ord) a j d) := by
 intro j
 induction j with
 | zero =>
   intro m d h hm hj ho
   obtain ⟨m, rfl⟩ : ∃ m', m = m' + 1 := ⟨m - 1, by omega⟩
   rw [zfd, zah (by omega)]
   simp only [o_bd, zdl, cond_false]
   exact ⟨h, rfl, by simpa [insInner] using ho, zcs.refl _ _⟩
 | succ j ih =>
   intro m d h hm hj ho
   obtain ⟨m, rfl⟩ : ∃ m', m = m' + 1 := ⟨m - 1, by omega⟩
   rw [zfd, zsh (by omega) (by omega), Nat.add_sub_cancel]
   unfold insInner
   by_cases ha : a < j + 1
   · rw [zan (by omega), rdK ho hj, rdK ho (by omega), hc _ he]
     simp only [o_bd, zam, dlt (ord := ord)]
     simp only [o_bd, zdl]
     cases hlt : ltO ord d[j + 1]! d[j]! with
     | true =>
       obtain ⟨h2, o2, k2, e2⟩ := swpK (c := c) ho (i := j + 1) (j := j) hj (by omega)
       rw [cond_true, zsh (by omega) (by omega), Nat.add_sub_cancel, e2]
       obtain ⟨h', q1, q2, q3⟩ := ih m _ h2 (by omega) (by omega) o2
       refine ⟨h', q1, ?_, k2.trans q3⟩
       simpa [ha] using q2
     | false =>
       rw [cond_false]
       exact ⟨h, rfl, by simpa using ho, zcs.refl _ _⟩
   · rw [zah (by omega)]
     simp only [o_bd, zdl, cond_false]
     exact ⟨h, rfl, by simpa [ha] using ho, zcs.refl _ _⟩
theorem zzw (hc : zqN fuel f cps ord D) {e : Nat} (he : D ≤ e) (hn : n < 1000000000000) (hf : n < fuel) (a b : Nat) (hb : b ≤ n) : ∀ (k i m : Nat) (d : Array Int) (h : AH), k < m → b - i = k → i < 2000000000000 → Own h 1 id gen n (zaS d.toList) →
   ∃ h', zaA fuel e m [(0, .slice (.mk ⟨id, gen, 0⟩ n c)), (1, .int .i64 (a : Int)), (2, .int .i64 (b : Int)), (3, .func f cps), (8, .int .i64 (i : Int))] h = some (.exit 0, [], h') ∧ Srt h h' id gen n (insOuter (ltO ord) a b i d) := by
 intro k
 induction k with
 | zero =>
   intro i m d h hm hk hi ho
   obtain ⟨m, rfl⟩ : ∃ m', m = m' + 1 := ⟨m - 1, by omega⟩
   rw [zc8, zah (by omega)]
   refine ⟨h, rfl, ?_, zcs.refl _ _⟩
   rw [insOuter, if_neg (by omega)]
   exact ho
 | succ k ih =>
   intro i m d h hm hk hi ho
   obtain ⟨m, rfl⟩ : ∃ m', m = m' + 1 := ⟨m - 1, by omega⟩
   obtain ⟨h1, e1, o1, k1⟩ := zzx (c := c) hc he hn a b i i fuel d h (by omega) (by omega) ho
   rw [zc8, zan (by omega), e1, o_bd]
   simp only [zji]
   rw [sucI (by omega)]
   obtain ⟨h2, e2, o2, k2⟩ := ih (i + 1) m _ h1 (by omega) (by omega) (by omega) o1
   refine ⟨h2, e2, ?_, k1.trans k2⟩
   rw [insOuter, if_pos (by omega)]
   exact o2
theorem zu5 (hc : zqN fuel f cps ord D) {e : Nat} (he : D ≤ e) (hn : n < 1000000000000) (hf : n < fuel) {a b : Nat} (ha : a ≤ n) (hb : b ≤ n) (ho : Own h 1 id gen n (zaS d.toList)) :
   ∃ h', run fuel (e + 1) zat [.slice (.mk ⟨id, gen, 0⟩ n c), .int .i64 (a : Int), .int .i64 (b : Int), .func f cps] h = some (.tup [], h') ∧ Srt h h' id gen n (insertionSort (ltO ord) d a b) := by
 obtain ⟨h1, e1, q⟩ := zzw (c := c) hc he hn hf a b hb (b - (a + 1)) (a + 1) fuel d h (by omega) rfl (by omega) ho
 refine ⟨h1, ?_, q⟩
 rw [zgT, sucI (by omega), e1]
 simp only [o_bd, zfh]
theorem zzd (hc : zqN fuel f cps ord D) {e : Nat} (he : D ≤ e) (hn : n < 1000000000000) (hi first : Nat) (hb : first + hi ≤ n) : ∀ (k root m : Nat) (d : Array Int) (h : AH), hi - root ≤ k → k < m → root < 1000000000000 → Own h 1 id gen n (zaS d.toList) →
   ∃ h' x, (zaT fuel e m [(0, .slice (.mk ⟨id, gen, 0⟩ n c)), (2, .int .i64 (hi : Int)), (3, .int .i64 (first : Int)), (4, .func f cps), (10, .int .i64 (root : Int))] h) = some (x, [], h') ∧ (x = .exit 0 ∨ x = .ret) ∧ Srt h h' id gen n (siftDown (ltO ord) hi first root d) := by
 intro k
 induction k with
 | zero =>
   intro root m d h hk hm hr ho
   obtain ⟨m, rfl⟩ : ∃ m', m = m' + 1 := ⟨m - 1, by omega⟩
   have e2 : IntKind.wrap .i64 ((2 : Int) * (root : Int)) = ((2 * root : Nat) : Int) := by rw [zeo (by omega) (by omega)]; omega
   rw [zgJ, e2, sucI (by omega), zan (by omega)]
   refine ⟨h, _, rfl, .inl rfl, ?_, zcs.refl _ _⟩
   rw [siftDown, dif_pos (by omega)]
   exact ho
 | succ k ih =>
   intro root m d h hk hm hr ho
   obtain ⟨m, rfl⟩ : ∃ m', m = m' + 1 := ⟨m - 1, by omega⟩
   have e2 : IntKind.wrap .i64 ((2 : Int) * (root : Int)) = ((2 * root : Nat) : Int) := by rw [zeo (by omega) (by omega)]; omega
   rw [zgJ, e2, sucI (by omega)]
   by_cases hge : hi ≤ 2 * root + 1
   · rw [zan (by omega)]
     refine ⟨h, _, rfl, .inl rfl, ?_, zcs.refl _ _⟩
     rw [siftDown, dif_pos (by omega)]
     exact ho
   have step : ∀ ch, ch < hi → root < ch → (∀ (x11 : Nat), x11 = ch → ∃ h' x, zbQ fuel e m .normal [(0, .slice (.mk ⟨id, gen, 0⟩ n c)), (2, .int .i64 (hi : Int)), (3, .int .i64 (first : Int)), (4, .func f cps), (10, .int .i64 (root : Int)), (11, .int .i64 (x11 : Int))] h = some (x, [], h') ∧ (x = .exit 0 ∨ x = .ret) ∧
       Srt h h' id gen n (if !ltO ord d[first + root]! d[first + ch]! then d else siftDown (ltO ord) hi first ch (swp d (first + root) (first + ch)))) := by
     intro ch h1 h2 x11 hx
     subst hx
     rw [zlg, addI (by omega), addI (by omega), rdK ho (by omega), rdK ho (by omega), hc _ he]
     simp only [o_bd, zam, dlt (ord := ord)]
     cases hlt : ltO ord d[first + root]! d[first + x11]! with
     | false => exact ⟨h, _, rfl, .inr rfl, by simpa using ho, zcs.refl _ _⟩
     | true =>
       obtain ⟨h3, o3, k3, e3⟩ := swpK (c := c) ho (i := first + root) (j := first + x11) (by omega) (by omega)
       simp only [Bool.not_true, cond_false, Bool.false_eq_true, if_false]
       rw [e3]
       obtain ⟨h', x, q1, q2, q3, q4⟩ := ih x11 m _ h3 (by omega) (by omega) (by omega) o3
       exact ⟨h', x, q1, q2, q3, k3.trans q4⟩
   rw [zah (by omega), siftDown, dif_neg (by omega), sucI (by omega)]
   by_cases h1 : 2 * root + 1 + 1 < hi
   · rw [zan (by omega), addI (by omega), sucI (by omega), rdK ho (by omega), rdK ho (by omega), hc _ he]
     simp only [o_bd, zam, dlt (ord := ord)]
     simp only [o_bd, zg2]
     cases hlt : ltO ord d[first + (2 * root + 1)]! d[first + (2 * root + 1) + 1]! with
     | true =>
       simp only [cond_true, o_bd, decide_eq_true h1, Bool.and_self, if_true]
       rw [sucI (by omega)]
       obtain ⟨h', x, q1, q2, q3⟩ := step (2 * root + 2) (by omega) (by omega) _ rfl
       refine ⟨h', x, q1, q2, ?_⟩
       rw [dif_pos (by omega)]
       exact q3
     | false =>
       simp only [cond_false, o_bd, Bool.and_false, Bool.false_eq_true, if_false]
       exact step (2 * root + 1) (by omega) (by omega) _ rfl
   · rw [zah (by omega)]
     simp only [o_bd, zg2, cond_false, decide_eq_false h1, Bool.false_and, Bool.false_eq_true, if_false]
     exact step (2 * root + 1) (by omega) (by omega) _ rfl
theorem zxI (hc : zqN fuel f cps ord D) {e : Nat} (he : D ≤ e) (hn : n < 1000000000000) (hf : n < fuel) {lo hi first : Nat} (hb : first + hi ≤ n) (hl : lo < 1000000000000) (ho : Own h 1 id gen n (zaS d.toList)) :
   ∃ h', run fuel (e + 1) zaR [.slice (.mk ⟨id, gen, 0⟩ n c), .int .i64 (lo : Int), .int .i64 (hi : Int), .int .i64 (first : Int), .func f cps] h = some (.tup [], h') ∧ Srt h h' id gen n (siftDown (ltO ord) hi first lo d) := by
 obtain ⟨h1, x, e1, hx, q⟩ := zzd (c := c) hc he hn hi first hb n lo fuel d h (by omega) (by omega) hl ho
 refine ⟨h1, ?_, q⟩
 rw [znc, e1]
 rcases hx with rfl | rfl
 · simp only [o_bd, zkS]
 · simp only [o_bd, zlh]
theorem zym (hc : zqN fuel f cps ord D) {e : Nat} (he : D ≤ e) (hn : n < 1000000000000) (hf : n < fuel) (hi first : Nat) (hb : first + hi ≤ n) (z : Int) (hz : z = 0) : ∀ (k m : Nat) (d : Array Int) (h : AH), k < m → k ≤ n → Own h 1 id gen n (zaS d.toList) →
   ∃ h', zbj fuel (e + 1) m [(0, .slice (.mk ⟨id, gen, 0⟩ n c)), (3, .func f cps), (8, .int .i64 (first : Int)), (9, .int .i64 z), (10, .int .i64 (hi : Int)), (11, .int .i64 ((k : Int) - 1))] h =
     some (.exit 0, [(0, .slice (.mk ⟨id, gen, 0⟩ n c)), (3, .func f cps), (8, .int .i64 (first : Int)), (9, .int .i64 z), (10, .int .i64 (hi : Int))], h') ∧ Srt h h' id gen n (heapBuild (ltO ord) hi first k d) := by
 intro k
 induction k with
 | zero =>
   intro m d h hm hk ho
   obtain ⟨m, rfl⟩ : ∃ m', m = m' + 1 := ⟨m - 1, by omega⟩
   rw [zgN, zah (by omega)]
   exact ⟨h, rfl, ho, zcs.refl _ _⟩
 | succ k ih =>
   intro m d h hm hk ho
   obtain ⟨m, rfl⟩ : ∃ m', m = m' + 1 := ⟨m - 1, by omega⟩
   obtain ⟨h1, e1, o1, k1⟩ := zxI (c := c) hc he hn hf hb (lo := k) (by omega) ho
   have e2 : (((k + 1 : Nat) : Int) - 1) = (k : Int) := by omega
   rw [e2, zgN, zan (by omega), e1, o_bd, zeo (by omega) (by omega)]
   obtain ⟨h2, q1, q2, q3⟩ := ih m _ h1 (by omega) (by omega) o1
   exact ⟨h2, q1, q2, k1.trans q3⟩
theorem zBn (hc : zqN fuel f cps ord D) {e : Nat} (he : D ≤ e) (hn : n < 1000000000000) (hf : n < fuel) (first : Nat) : ∀ (k m : Nat) (d : Array Int) (h : AH), k < m → first + k ≤ n → Own h 1 id gen n (zaS d.toList) →
   ∃ h', zbi fuel (e + 1) m [(0, .slice (.mk ⟨id, gen, 0⟩ n c)), (3, .func f cps), (8, .int .i64 (first : Int)), (9, .int .i64 0), (12, .int .i64 ((k : Int) - 1))] h =
     some (.exit 2, [], h') ∧ Srt h h' id gen n (heapPop (ltO ord) first k d) := by
 intro k
 induction k with
 | zero =>
   intro m d h hm hk ho
   obtain ⟨m, rfl⟩ : ∃ m', m = m' + 1 := ⟨m - 1, by omega⟩
   rw [zgL, zah (by omega)]
   exact ⟨h, rfl, ho, zcs.refl _ _⟩
 | succ k ih =>
   intro m d h hm hk ho
   obtain ⟨m, rfl⟩ : ∃ m', m = m' + 1 := ⟨m - 1, by omega⟩
   obtain ⟨h1, o1, k1, e1⟩ := swpK (c := c) ho (i := first) (j := first + k) (by omega) (by omega)
   have e2 : (((k + 1 : Nat) : Int) - 1) = (k : Int) := by omega
   obtain ⟨h2, e3, o2, k2⟩ := zxI (c := c) hc he hn hf (lo := 0) (hi := k) (first := first) (by omega) (by omega) o1
   rw [e2, zgL, zan (by omega), addI (by omega), e1, show (0 : Int) = ((0 : Nat) : Int) from rfl, e3, o_bd, zeo (n := (k : Int) - 1) (by omega) (by omega)]
   obtain ⟨h3, q1, q2, q3⟩ := ih m _ h2 (by omega) (by omega) o2
   exact ⟨h3, q1, q2, k1.trans (k2.trans q3)⟩
theorem zBm (hc : zqN fuel f cps ord D) {e : Nat} (he : D ≤ e) (hn : n < 1000000000000) (hf : n + 1 < fuel) {a b : Nat} (ha : a ≤ b) (hb : b ≤ n) (hpos : 0 < b - a) (ho : Own h 1 id gen n (zaS d.toList)) :
   ∃ h', run fuel (e + 2) zbg [.slice (.mk ⟨id, gen, 0⟩ n c), .int .i64 (a : Int), .int .i64 (b : Int), .func f cps] h = some (.tup [], h') ∧ Srt h h' id gen n (heapSort (ltO ord) d a b) := by
 have hd : (Int.tdiv ((b - a - 1 : Nat) : Int) 2) = ((b - a - 1) / 2 : Nat) := by
   rw [Int.tdiv_eq_ediv_of_nonneg (by omega)]; omega
 obtain ⟨h1, e1, o1, k1⟩ := zym (c := c) hc he hn (by omega) (b - a) a (by omega) 0 rfl ((b - a - 1) / 2 + 1) fuel d h (by omega) (by omega) ho
 obtain ⟨h2, e2, o2, k2⟩ := zBn (c := c) hc he hn (by omega) a (b - a) fuel _ h1 (by omega) (by omega) o1
 have e3 : ((((b - a - 1) / 2 + 1 : Nat) : Int) - 1) = (((b - a - 1) / 2 : Nat) : Int) := by omega
 rw [e3] at e1
 refine ⟨h2, ?_, o2, k1.trans k2⟩
 rw [znd, subI ha (by omega), zsh (by omega) (by omega), hd, zB0 (by omega), e1, o_bd]
 simp only [zkU]
 rw [zeo (n := ((b - a : Nat) : Int) - 1) (by omega) (by omega), e2]
 simp only [o_bd, zkT]
end
end Go.Proofs.YtdmbfmgebgdfnaaDoor
namespace Go.Proofs.YtdmbfmgebgdfnaaDoor
open Go.RowKit Go.Sort
section
variable {fuel f : Nat} {cps : List Pt} {ord : Int → Int → Int} {D : Nat} {h : AH} {id gen n : Nat} {c : Bool} {d : Array Int}
theorem zA8 (hc : zqN fuel f cps ord D) {e : Nat} (he : D ≤ e) (hn : n < 1000000000000) {a j : Nat} (ha : a < n) (hj : j < n) (ho : Own h 1 id gen n (zaS d.toList)) : ∀ (k i m : Nat), j + 1 - i ≤ k → k < m → i < 2000000000000 →
   zaK fuel e m [(0, .slice (.mk ⟨id, gen, 0⟩ n c)), (1, .int .i64 (a : Int)), (4, .func f cps), (12, .int .i64 (i : Int)), (13, .int .i64 (j : Int))] h = some (.exit 0, [(0, .slice (.mk ⟨id, gen, 0⟩ n c)), (1, .int .i64 (a : Int)), (4, .func f cps), (12, .int .i64 ((scanUp (fun x => ltO ord x d[a]!) d j i : Nat) : Int)), (13, .int .i64 (j : Int))], h) := by
 intro k
 induction k with
 | zero =>
   intro i m h1 h2 h3
   obtain ⟨m, rfl⟩ : ∃ m', m = m' + 1 := ⟨m - 1, by omega⟩
   rw [zgg, zah (by omega)]
   simp only [o_bd, zek, cond_false]
   rw [scanUp, decide_eq_false (show ¬ i ≤ j by omega)]
   rfl
 | succ k ih =>
   intro i m h1 h2 h3
   obtain ⟨m, rfl⟩ : ∃ m', m = m' + 1 := ⟨m - 1, by omega⟩
   rw [zgg, scanUp]
   by_cases hij : i ≤ j
   · rw [zan (by omega), rdK ho (by omega), rdK ho ha, hc _ he]
     simp only [o_bd, zam, dlt (ord := ord), zek, decide_eq_true hij, Bool.true_and]
     cases hlt : ltO ord d[i]! d[a]! with
     | true =>
       simp only [cond_true, if_true, hlt]
       rw [sucI (by omega)]
       exact ih (i + 1) m (by omega) (by omega) (by omega)
     | false => simp only [cond_false, Bool.false_eq_true, if_false, hlt]
   · rw [zah (by omega)]
     simp only [o_bd, zek, cond_false, decide_eq_false hij, Bool.false_and, Bool.false_eq_true, if_false]
theorem zBa (hc : zqN fuel f cps ord D) {e : Nat} (he : D ≤ e) (hn : n < 1000000000000) {a i : Nat} (ha : a < n) (hi : 1 ≤ i) (ho : Own h 1 id gen n (zaS d.toList)) : ∀ (j m : Nat), j < m → j < n →
   zaJ fuel e m [(0, .slice (.mk ⟨id, gen, 0⟩ n c)), (1, .int .i64 (a : Int)), (4, .func f cps), (12, .int .i64 (i : Int)), (13, .int .i64 (j : Int))] h = some (.exit 2, [(0, .slice (.mk ⟨id, gen, 0⟩ n c)), (1, .int .i64 (a : Int)), (4, .func f cps), (12, .int .i64 (i : Int)), (13, .int .i64 ((scanDown (fun x => !ltO ord x d[a]!) d i j : Nat) : Int))], h) := by
 intro j
 induction j with
 | zero =>
   intro m h1 h2
   obtain ⟨m, rfl⟩ : ∃ m', m = m' + 1 := ⟨m - 1, by omega⟩
   rw [zgf, zah (by omega)]
   simp only [o_bd, zej, cond_false, scanDown]
 | succ j ih =>
   intro m h1 h2
   obtain ⟨m, rfl⟩ : ∃ m', m = m' + 1 := ⟨m - 1, by omega⟩
   rw [zgf, scanDown]
   by_cases hij : i ≤ j + 1
   · rw [zan (by omega), rdK ho h2, rdK ho ha, hc _ he]
     simp only [o_bd, zam, dlt (ord := ord), zej, decide_eq_true hij, Bool.true_and]
     cases hlt : !ltO ord d[j + 1]! d[a]! with
     | true =>
       simp only [cond_true, if_true, hlt]
       rw [zsh (by omega) (by omega), Nat.add_sub_cancel]
       exact ih m (by omega) (by omega)
     | false => simp only [cond_false, Bool.false_eq_true, if_false, hlt]
   · rw [zah (by omega)]
     simp only [o_bd, zej, cond_false, decide_eq_false hij, Bool.false_and, Bool.false_eq_true, if_false]
theorem zx1 (hc : zqN fuel f cps ord D) {e : Nat} (he : D ≤ e) (hn : n < 1000000000000) {a j : Nat} (ha : a < n) (hj : j < n) (ho : Own h 1 id gen n (zaS d.toList)) : ∀ (k i m : Nat), j + 1 - i ≤ k → k < m → i < 2000000000000 →
   zaH fuel e m [(0, .slice (.mk ⟨id, gen, 0⟩ n c)), (1, .int .i64 (a : Int)), (4, .func f cps), (12, .int .i64 (i : Int)), (13, .int .i64 (j : Int))] h = some (.exit 6, [(0, .slice (.mk ⟨id, gen, 0⟩ n c)), (1, .int .i64 (a : Int)), (4, .func f cps), (12, .int .i64 ((scanUp (fun x => ltO ord x d[a]!) d j i : Nat) : Int)), (13, .int .i64 (j : Int))], h) := by
 intro k
 induction k with
 | zero =>
   intro i m h1 h2 h3
   obtain ⟨m, rfl⟩ : ∃ m', m = m' + 1 := ⟨m - 1, by omega⟩
   rw [zgd, zah (by omega)]
   simp only [o_bd, zei, cond_false]
   rw [scanUp, decide_eq_false (show ¬ i ≤ j by omega)]
   rfl
 | succ k ih =>
   intro i m h1 h2 h3
   obtain ⟨m, rfl⟩ : ∃ m', m = m' + 1 := ⟨m - 1, by omega⟩
   rw [zgd, scanUp]
   by_cases hij : i ≤ j
   · rw [zan (by omega), rdK ho (by omega), rdK ho ha, hc _ he]
     simp only [o_bd, zam, dlt (ord := ord), zei, decide_eq_true hij, Bool.true_and]
     cases hlt : ltO ord d[i]! d[a]! with
     | true =>
       simp only [cond_true, if_true, hlt]
       rw [sucI (by omega)]
       exact ih (i + 1) m (by omega) (by omega) (by omega)
     | false => simp only [cond_false, Bool.false_eq_true, if_false, hlt]
   · rw [zah (by omega)]
     simp only [o_bd, zei, cond_false, decide_eq_false hij, Bool.false_and, Bool.false_eq_true, if_false]
theorem zx2 (hc : zqN fuel f cps ord D) {e : Nat} (he : D ≤ e) (hn : n < 1000000000000) {a i : Nat} (ha : a < n) (hi : 1 ≤ i) (ho : Own h 1 id gen n (zaS d.toList)) : ∀ (j m : Nat), j < m → j < n →
   zaG fuel e m [(0, .slice (.mk ⟨id, gen, 0⟩ n c)), (1, .int .i64 (a : Int)), (4, .func f cps), (12, .int .i64 (i : Int)), (13, .int .i64 (j : Int))] h = some (.exit 8, [(0, .slice (.mk ⟨id, gen, 0⟩ n c)), (1, .int .i64 (a : Int)), (4, .func f cps), (12, .int .i64 (i : Int)), (13, .int .i64 ((scanDown (fun x => !ltO ord x d[a]!) d i j : Nat) : Int))], h) := by
 intro j
 induction j with
 | zero =>
   intro m h1 h2
   obtain ⟨m, rfl⟩ : ∃ m', m = m' + 1 := ⟨m - 1, by omega⟩
   rw [zgc, zah (by omega)]
   simp only [o_bd, zeh, cond_false, scanDown]
 | succ j ih =>
   intro m h1 h2
   obtain ⟨m, rfl⟩ : ∃ m', m = m' + 1 := ⟨m - 1, by omega⟩
   rw [zgc, scanDown]
   by_cases hij : i ≤ j + 1
   · rw [zan (by omega), rdK ho h2, rdK ho ha, hc _ he]
     simp only [o_bd, zam, dlt (ord := ord), zeh, decide_eq_true hij, Bool.true_and]
     cases hlt : !ltO ord d[j + 1]! d[a]! with
     | true =>
       simp only [cond_true, if_true, hlt]
       rw [zsh (by omega) (by omega), Nat.add_sub_cancel]
       exact ih m (by omega) (by omega)
     | false => simp only [cond_false, Bool.false_eq_true, if_false, hlt]
   · rw [zah (by omega)]
     simp only [o_bd, zeh, cond_false, decide_eq_false hij, Bool.false_and, Bool.false_eq_true, if_false]
theorem zAi (hc : zqN fuel f cps ord D) {e : Nat} (he : D ≤ e) (hn : n < 1000000000000) {a j : Nat} (ha : a < n) (hj : j < n) (ho : Own h 1 id gen n (zaS d.toList)) : ∀ (k i m : Nat), j + 1 - i ≤ k → k < m → i < 2000000000000 →
   zaw fuel e m [(0, .slice (.mk ⟨id, gen, 0⟩ n c)), (1, .int .i64 (a : Int)), (4, .func f cps), (11, .int .i64 (i : Int)), (12, .int .i64 (j : Int))] h = some (.exit 2, [(0, .slice (.mk ⟨id, gen, 0⟩ n c)), (1, .int .i64 (a : Int)), (4, .func f cps), (11, .int .i64 ((scanUp (fun x => !ltO ord d[a]! x) d j i : Nat) : Int)), (12, .int .i64 (j : Int))], h) := by
 intro k
 induction k with
 | zero =>
   intro i m h1 h2 h3
   obtain ⟨m, rfl⟩ : ∃ m', m = m' + 1 := ⟨m - 1, by omega⟩
   rw [zeY, zah (by omega)]
   simp only [o_bd, zdd, cond_false]
   rw [scanUp, decide_eq_false (show ¬ i ≤ j by omega)]
   rfl
 | succ k ih =>
   intro i m h1 h2 h3
   obtain ⟨m, rfl⟩ : ∃ m', m = m' + 1 := ⟨m - 1, by omega⟩
   rw [zeY, scanUp]
   by_cases hij : i ≤ j
   · rw [zan (by omega), rdK ho ha, rdK ho (by omega), hc _ he]
     simp only [o_bd, zam, dlt (ord := ord), zdd, decide_eq_true hij, Bool.true_and]
     cases hlt : !ltO ord d[a]! d[i]! with
     | true =>
       simp only [cond_true, if_true, hlt]
       rw [sucI (by omega)]
       exact ih (i + 1) m (by omega) (by omega) (by omega)
     | false => simp only [cond_false, Bool.false_eq_true, if_false, hlt]
   · rw [zah (by omega)]
     simp only [o_bd, zdd, cond_false, decide_eq_false hij, Bool.false_and, Bool.false_eq_true, if_false]
theorem zAj (hc : zqN fuel f cps ord D) {e : Nat} (he : D ≤ e) (hn : n < 1000000000000) {a i : Nat} (ha : a < n) (hi : 1 ≤ i) (ho : Own h 1 id gen n (zaS d.toList)) : ∀ (j m : Nat), j < m → j < n →
   zav fuel e m [(0, .slice (.mk ⟨id, gen, 0⟩ n c)), (1, .int .i64 (a : Int)), (4, .func f cps), (11, .int .i64 (i : Int)), (12, .int .i64 (j : Int))] h = some (.exit 4, [(0, .slice (.mk ⟨id, gen, 0⟩ n c)), (1, .int .i64 (a : Int)), (4, .func f cps), (11, .int .i64 (i : Int)), (12, .int .i64 ((scanDown (fun x => ltO ord d[a]! x) d i j : Nat) : Int))], h) := by
 intro j
 induction j with
 | zero =>
   intro m h1 h2
   obtain ⟨m, rfl⟩ : ∃ m', m = m' + 1 := ⟨m - 1, by omega⟩
   rw [zeX, zah (by omega)]
   simp only [o_bd, zdc, cond_false, scanDown]
 | succ j ih =>
   intro m h1 h2
   obtain ⟨m, rfl⟩ : ∃ m', m = m' + 1 := ⟨m - 1, by omega⟩
   rw [zeX, scanDown]
   by_cases hij : i ≤ j + 1
   · rw [zan (by omega), rdK ho ha, rdK ho h2, hc _ he]
     simp only [o_bd, zam, dlt (ord := ord), zdc, decide_eq_true hij, Bool.true_and]
     cases hlt : ltO ord d[a]! d[j + 1]! with
     | true =>
       simp only [cond_true, if_true, hlt]
       rw [zsh (by omega) (by omega), Nat.add_sub_cancel]
       exact ih m (by omega) (by omega)
     | false => simp only [cond_false, Bool.false_eq_true, if_false, hlt]
   · rw [zah (by omega)]
     simp only [o_bd, zdc, cond_false, decide_eq_false hij, Bool.false_and, Bool.false_eq_true, if_false]
theorem zA6 (hc : zqN fuel f cps ord D) {e : Nat} (he : D ≤ e) (hn : n < 1000000000000) (hf : n + 2 < fuel) {a : Nat} (ha : a < n) : ∀ (k i j m : Nat) (d : Array Int) (h : AH), j + 1 - i ≤ k → k < m → 1 ≤ i → i < 2000000000000 → j < n → Own h 1 id gen n (zaS d.toList) →
   ∃ h', zax fuel e m [(0, .slice (.mk ⟨id, gen, 0⟩ n c)), (1, .int .i64 (a : Int)), (4, .func f cps), (11, .int .i64 (i : Int)), (12, .int .i64 (j : Int))] h = some (.exit 0, [(11, .int .i64 ((partEqLoop (ltO ord) a i j d).1 : Nat))], h') ∧ Srt h h' id gen n (partEqLoop (ltO ord) a i j d).2 := by
 intro k
 induction k with
 | zero =>
   intro i j m d h h1 h2 h3 h4 h5 ho
   obtain ⟨m, rfl⟩ : ∃ m', m = m' + 1 := ⟨m - 1, by omega⟩
   have e1 := zAi (c := c) (j := j) hc he hn ha h5 ho n i fuel (by omega) (by omega) h4
   have g1 := scanUp_ge (fun x => !ltO ord d[a]! x) d j i
   have g3 := (scanUp_spec (fun x => !ltO ord d[a]! x) d j _ i rfl)
   rw [partEqLoop_eq]
   generalize hi2 : scanUp (fun x => !ltO ord d[a]! x) d j i = i2 at *
   have e2 := zAj (c := c) (i := i2) hc he hn ha (by omega) ho j fuel (by omega) h5
   have g2 := scanDown_le (fun x => ltO ord d[a]! x) d i2 j
   generalize hj2 : scanDown (fun x => ltO ord d[a]! x) d i2 j = j2 at *
   rw [zeZ, e1]
   simp only [o_bd, ze4, e2, ze1]
   rw [zan (by omega), if_pos (by omega)]
   exact ⟨h, rfl, ho, zcs.refl _ _⟩
 | succ k ih =>
   intro i j m d h h1 h2 h3 h4 h5 ho
   obtain ⟨m, rfl⟩ : ∃ m', m = m' + 1 := ⟨m - 1, by omega⟩
   have e1 := zAi (c := c) (j := j) hc he hn ha h5 ho n i fuel (by omega) (by omega) h4
   have g1 := scanUp_ge (fun x => !ltO ord d[a]! x) d j i
   rw [partEqLoop_eq]
   generalize hi2 : scanUp (fun x => !ltO ord d[a]! x) d j i = i2 at *
   have e2 := zAj (c := c) (i := i2) hc he hn ha (by omega) ho j fuel (by omega) h5
   have g2 := scanDown_le (fun x => ltO ord d[a]! x) d i2 j
   generalize hj2 : scanDown (fun x => ltO ord d[a]! x) d i2 j = j2 at *
   rw [zeZ, e1]
   simp only [o_bd, ze4, e2, ze1]
   by_cases hgt : j2 < i2
   · rw [zan (by omega), if_pos (by omega)]
     exact ⟨h, rfl, ho, zcs.refl _ _⟩
   · rw [zah (by omega), if_neg (by omega)]
     obtain ⟨h3', o3, k3, e3⟩ := swpK (c := c) ho (i := i2) (j := j2) (by omega) (by omega)
     rw [e3, sucI (by omega), zsh (by omega) (by omega)]
     obtain ⟨h', q1, q2, q3⟩ := ih (i2 + 1) (j2 - 1) m _ h3' (by omega) (by omega) (by omega) (by omega) (by omega) o3
     exact ⟨h', q1, q2, k3.trans q3⟩
theorem zCh (hc : zqN fuel f cps ord D) {e : Nat} (he : D ≤ e) (hn : n < 1000000000000) (hf : n + 2 < fuel) {a b pv : Nat} (ha : a < b) (hb : b ≤ n) (hp : pv < n) (ho : Own h 1 id gen n (zaS d.toList)) :
   ∃ h', run fuel (e + 1) zag [.slice (.mk ⟨id, gen, 0⟩ n c), .int .i64 (a : Int), .int .i64 (b : Int), .int .i64 (pv : Int), .func f cps] h = some (.int .i64 ((partitionEqual (ltO ord) d a b pv).1 : Nat), h') ∧ Srt h h' id gen n (partitionEqual (ltO ord) d a b pv).2 := by
 obtain ⟨h1, o1, k1, e1⟩ := swpK (c := c) ho (i := a) (j := pv) (by omega) (by omega)
 obtain ⟨h2, e2, o2, k2⟩ := zA6 (c := c) (a := a) hc he hn hf (by omega) n (a + 1) (b - 1) fuel _ h1 (by omega) (by omega) (by omega) (by omega) (by omega) o1
 refine ⟨h2, ?_, o2, k1.trans k2⟩
 rw [zkJ, e1, sucI (by omega), zsh (by omega) (by omega), e2]
 simp only [o_bd, zi3]
 rfl
theorem zzp (hc : zqN fuel f cps ord D) {e : Nat} (he : D ≤ e) (hn : n < 1000000000000) (hf : n + 2 < fuel) {a : Nat} (ha : a < n) : ∀ (k i j m : Nat) (d : Array Int) (h : AH), j + 1 - i ≤ k → k < m → 1 ≤ i → i < 2000000000000 → j < n → Own h 1 id gen n (zaS d.toList) →
   ∃ h', zaI fuel e m [(0, .slice (.mk ⟨id, gen, 0⟩ n c)), (1, .int .i64 (a : Int)), (4, .func f cps), (12, .int .i64 (i : Int)), (13, .int .i64 (j : Int))] h = some (.exit 4, [(0, .slice (.mk ⟨id, gen, 0⟩ n c)), (1, .int .i64 (a : Int)), (13, .int .i64 ((partLoop (ltO ord) a i j d).1 : Nat))], h') ∧ Srt h h' id gen n (partLoop (ltO ord) a i j d).2 := by
 intro k
 induction k with
 | zero =>
   intro i j m d h h1 h2 h3 h4 h5 ho
   obtain ⟨m, rfl⟩ : ∃ m', m = m' + 1 := ⟨m - 1, by omega⟩
   have e1 := zx1 (c := c) (j := j) hc he hn ha h5 ho n i fuel (by omega) (by omega) h4
   have g1 := scanUp_ge (fun x => ltO ord x d[a]!) d j i
   rw [partLoop_eq]
   generalize hi2 : scanUp (fun x => ltO ord x d[a]!) d j i = i2 at *
   have e2 := zx2 (c := c) (i := i2) hc he hn ha (by omega) ho j fuel (by omega) h5
   have g2 := scanDown_le (fun x => !ltO ord x d[a]!) d i2 j
   generalize hj2 : scanDown (fun x => !ltO ord x d[a]!) d i2 j = j2 at *
   rw [zge, e1]
   simp only [o_bd, zgm, e2, zgj]
   rw [zan (by omega), if_pos (by omega)]
   exact ⟨h, rfl, ho, zcs.refl _ _⟩
 | succ k ih =>
   intro i j m d h h1 h2 h3 h4 h5 ho
   obtain ⟨m, rfl⟩ : ∃ m', m = m' + 1 := ⟨m - 1, by omega⟩
   have e1 := zx1 (c := c) (j := j) hc he hn ha h5 ho n i fuel (by omega) (by omega) h4
   have g1 := scanUp_ge (fun x => ltO ord x d[a]!) d j i
   rw [partLoop_eq]
   generalize hi2 : scanUp (fun x => ltO ord x d[a]!) d j i = i2 at *
   have e2 := zx2 (c := c) (i := i2) hc he hn ha (by omega) ho j fuel (by omega) h5
   have g2 := scanDown_le (fun x => !ltO ord x d[a]!) d i2 j
   generalize hj2 : scanDown (fun x => !ltO ord x d[a]!) d i2 j = j2 at *
   rw [zge, e1]
   simp only [o_bd, zgm, e2, zgj]
   by_cases hgt : j2 < i2
   · rw [zan (by omega), if_pos (by omega)]
     exact ⟨h, rfl, ho, zcs.refl _ _⟩
   · rw [zah (by omega), if_neg (by omega)]
     obtain ⟨h3', o3, k3, e3⟩ := swpK (c := c) ho (i := i2) (j := j2) (by omega) (by omega)
     rw [e3, sucI (by omega), zsh (by omega) (by omega)]
     obtain ⟨h', q1, q2, q3⟩ := ih (i2 + 1) (j2 - 1) m _ h3' (by omega) (by omega) (by omega) (by omega) (by omega) o3
     exact ⟨h', q1, q2, k3.trans q3⟩
theorem zxc (lt : Int → Int → Bool) (a : Nat) : ∀ (k i j : Nat) (d : Array Int), j + 1 - i ≤ k → (partLoop lt a i j d).1 ≤ j := by
 intro k
 induction k with
 | zero =>
   intro i j d h
   have g1 := scanUp_ge (fun x => lt x d[a]!) d j i
   have g2 := scanDown_le (fun x => !lt x d[a]!) d (scanUp (fun x => lt x d[a]!) d j i) j
   rw [partLoop_eq, if_pos (by omega)]
   exact g2
 | succ k ih =>
   intro i j d h
   have g1 := scanUp_ge (fun x => lt x d[a]!) d j i
   have g2 := scanDown_le (fun x => !lt x d[a]!) d (scanUp (fun x => lt x d[a]!) d j i) j
   rw [partLoop_eq]
   split
   · exact g2
   · have := ih (scanUp (fun x => lt x d[a]!) d j i + 1) (scanDown (fun x => !lt x d[a]!) d (scanUp (fun x => lt x d[a]!) d j i) j - 1) (swp d (scanUp (fun x => lt x d[a]!) d j i) (scanDown (fun x => !lt x d[a]!) d (scanUp (fun x => lt x d[a]!) d j i) j)) (by omega)
     omega
theorem zA9 (hc : zqN fuel f cps ord D) {e : Nat} (he : D ≤ e) (hn : n < 1000000000000) (hf : n + 2 < fuel) {a b pv : Nat} (ha : a < b) (hb : b ≤ n) (hp : pv < n) (ho : Own h 1 id gen n (zaS d.toList)) :
   ∃ h', run fuel (e + 1) zaa [.slice (.mk ⟨id, gen, 0⟩ n c), .int .i64 (a : Int), .int .i64 (b : Int), .int .i64 (pv : Int), .func f cps] h = some (.tup [.int .i64 ((Sort.partition (ltO ord) d a b pv).1 : Nat), .bool (Sort.partition (ltO ord) d a b pv).2.1], h') ∧ Srt h h' id gen n (Sort.partition (ltO ord) d a b pv).2.2 := by
 obtain ⟨h1, o1, k1, e1⟩ := swpK (c := c) ho (i := a) (j := pv) (by omega) (by omega)
 have e2 := zA8 (c := c) (a := a) (j := b - 1) hc he hn (by omega) (by omega) o1 n (a + 1) fuel (by omega) (by omega) (by omega)
 have g1 := scanUp_ge (fun x => ltO ord x (swp d a pv)[a]!) (swp d a pv) (b - 1) (a + 1)
 unfold Sort.partition
 simp only
 generalize hi2 : scanUp (fun x => ltO ord x (swp d a pv)[a]!) (swp d a pv) (b - 1) (a + 1) = i2 at *
 have e3 := zBa (c := c) (a := a) (i := i2) hc he hn (by omega) (by omega) o1 (b - 1) fuel (by omega) (by omega)
 have g2 := scanDown_le (fun x => !ltO ord x (swp d a pv)[a]!) (swp d a pv) i2 (b - 1)
 generalize hj2 : scanDown (fun x => !ltO ord x (swp d a pv)[a]!) (swp d a pv) i2 (b - 1) = j2 at *
 rw [zmD, e1, sucI (by omega), zsh (by omega) (by omega), e2]
 simp only [o_bd, zku, e3, zkt]
 by_cases hgt : j2 < i2
 · rw [zan (by omega), if_pos (by omega)]
   obtain ⟨h3, o3, k3, e4⟩ := swpK (c := c) o1 (i := j2) (j := a) (by omega) (by omega)
   rw [e4]
   exact ⟨h3, rfl, o3, k1.trans k3⟩
 · rw [zah (by omega), if_neg (by omega)]
   obtain ⟨h3, o3, k3, e4⟩ := swpK (c := c) o1 (i := i2) (j := j2) (by omega) (by omega)
   rw [e4, sucI (by omega), zsh (by omega) (by omega)]
   obtain ⟨h4, e5, o4, k4⟩ := zzp (c := c) (a := a) hc he hn hf (by omega) n (i2 + 1) (j2 - 1) fuel _ h3 (by omega) (by omega) (by omega) (by omega) (by omega) o3
   have g3 := zxc (ltO ord) a n (i2 + 1) (j2 - 1) (swp (swp d a pv) i2 j2) (by omega)
   rw [e5]
   simp only [o_bd, zks]
   obtain ⟨h5, o5, k5, e6⟩ := swpK (c := c) o4 (i := (partLoop (ltO ord) a (i2 + 1) (j2 - 1) (swp (swp d a pv) i2 j2)).1) (j := a) (by omega) (by omega)
   rw [e6]
   exact ⟨h5, rfl, o5, k1.trans (k3.trans (k4.trans k5))⟩
end
end Go.Proofs.YtdmbfmgebgdfnaaDoor
namespace Go.Proofs.YtdmbfmgebgdfnaaDoor
open Go.RowKit Go.Sort
section
variable {fuel f : Nat} {cps : List Pt} {ord : Int → Int → Int} {D : Nat} {h : AH} {id gen n : Nat} {c : Bool} {d : Array Int}
theorem zAZ (e : Nat) (hn : n < 1000000000000) : ∀ (k i j m : Nat) (d : Array Int) (h : AH), j - i ≤ k → k < m → i < 2000000000000 → j < n → Own h 1 id gen n (zaS d.toList) →
   ∃ h', zaN fuel e m [(0, .slice (.mk ⟨id, gen, 0⟩ n c)), (8, .int .i64 (i : Int)), (9, .int .i64 (j : Int))] h = some (.exit 0, [], h') ∧ Srt h h' id gen n (reverseLoop i j d) := by
 intro k
 induction k with
 | zero =>
   intro i j m d h h1 h2 h3 h4 ho
   obtain ⟨m, rfl⟩ : ∃ m', m = m' + 1 := ⟨m - 1, by omega⟩
   rw [zfv, zah (by omega), reverseLoop, if_neg (by omega)]
   exact ⟨h, rfl, ho, zcs.refl _ _⟩
 | succ k ih =>
   intro i j m d h h1 h2 h3 h4 ho
   obtain ⟨m, rfl⟩ : ∃ m', m = m' + 1 := ⟨m - 1, by omega⟩
   rw [zfv, reverseLoop]
   by_cases hij : i < j
   · obtain ⟨h2', o2, k2, e2⟩ := swpK (c := c) ho (i := i) (j := j) (by omega) (by omega)
     rw [zan (by omega), if_pos hij, e2, sucI (by omega), zsh (by omega) (by omega)]
     obtain ⟨h', q1, q2, q3⟩ := ih (i + 1) (j - 1) m _ h2' (by omega) (by omega) (by omega) (by omega) o2
     exact ⟨h', q1, q2, k2.trans q3⟩
   · rw [zah (by omega), if_neg hij]
     exact ⟨h, rfl, ho, zcs.refl _ _⟩
theorem zCb (e : Nat) (hn : n < 1000000000000) (hf : n < fuel) {a b : Nat} (ha : a < b) (hb : b ≤ n) (ho : Own h 1 id gen n (zaS d.toList)) :
   ∃ h', run fuel (e + 1) zca [.slice (.mk ⟨id, gen, 0⟩ n c), .int .i64 (a : Int), .int .i64 (b : Int), .func f cps] h = some (.tup [], h') ∧ Srt h h' id gen n (reverseRange d a b) := by
 obtain ⟨h1, e1, q⟩ := zAZ (c := c) (fuel := fuel) e hn n a (b - 1) fuel d h (by omega) (by omega) (by omega) (by omega) ho
 refine ⟨h1, ?_, q⟩
 rw [zlk, zsh (by omega) (by omega), e1]
 simp only [o_bd, zju]
theorem zA3 (hc : zqN fuel f cps ord D) {e : Nat} (he : D ≤ e) (hn : n < 1000000000000) {a b : Nat} (hb : b ≤ n) (x10 : Int) (ho : Own h 1 id gen n (zaS d.toList)) : ∀ (k i m : Nat), b - i ≤ k → k < m → 1 ≤ i → i ≤ n →
   zao fuel e m [(0, .slice (.mk ⟨id, gen, 0⟩ n c)), (1, .int .i64 (a : Int)), (2, .int .i64 (b : Int)), (3, .func f cps), (9, .int .i64 (i : Int)), (10, .int .i64 x10)] h = some (.exit 2, [(0, .slice (.mk ⟨id, gen, 0⟩ n c)), (1, .int .i64 (a : Int)), (2, .int .i64 (b : Int)), (3, .func f cps), (9, .int .i64 ((scanSorted (ltO ord) d b i : Nat) : Int)), (10, .int .i64 x10)], h) := by
 intro k
 induction k with
 | zero =>
   intro i m h1 h2 h3 h4
   obtain ⟨m, rfl⟩ : ∃ m', m = m' + 1 := ⟨m - 1, by omega⟩
   rw [zdE, zah (by omega)]
   simp only [o_bd, zcv, cond_false]
   rw [scanSorted, decide_eq_false (show ¬ i < b by omega)]
   rfl
 | succ k ih =>
   intro i m h1 h2 h3 h4
   obtain ⟨m, rfl⟩ : ∃ m', m = m' + 1 := ⟨m - 1, by omega⟩
   rw [zdE, scanSorted]
   by_cases hij : i < b
   · rw [zan (by omega), rdK ho (by omega), zsh (by omega) (by omega), rdK ho (by omega), hc _ he]
     simp only [o_bd, zam, dlt (ord := ord), zcv, decide_eq_true hij, Bool.true_and]
     cases hlt : !ltO ord d[i]! d[i - 1]! with
     | true =>
       simp only [cond_true, if_true]
       rw [sucI (by omega)]
       exact ih (i + 1) m (by omega) (by omega) (by omega) (by omega)
     | false => simp only [cond_false, Bool.false_eq_true, if_false]
   · rw [zah (by omega)]
     simp only [o_bd, zcv, cond_false, decide_eq_false hij, Bool.false_and, Bool.false_eq_true, if_false]
theorem zA5 (hc : zqN fuel f cps ord D) {e : Nat} (he : D ≤ e) (hn : n < 1000000000000) {a b i : Nat} (x10 : Int) : ∀ (j m : Nat) (d : Array Int) (h : AH), j < m → j < n → Own h 1 id gen n (zaS d.toList) →
   ∃ h', zas fuel e m [(0, .slice (.mk ⟨id, gen, 0⟩ n c)), (1, .int .i64 (a : Int)), (2, .int .i64 (b : Int)), (3, .func f cps), (9, .int .i64 (i : Int)), (10, .int .i64 x10), (11, .int .i64 (j : Int))] h = some (.exit 4, [(0, .slice (.mk ⟨id, gen, 0⟩ n c)), (1, .int .i64 (a : Int)), (2, .int .i64 (b : Int)), (3, .func f cps), (9, .int .i64 (i : Int)), (10, .int .i64 x10)], h') ∧ Srt h h' id gen n (shiftDown (ltO ord) j d) := by
 intro j
 induction j with
 | zero =>
   intro m d h h1 h2 ho
   obtain ⟨m, rfl⟩ : ∃ m', m = m' + 1 := ⟨m - 1, by omega⟩
   rw [zdD, zah (by omega)]
   exact ⟨h, rfl, ho, zcs.refl _ _⟩
 | succ j ih =>
   intro m d h h1 h2 ho
   obtain ⟨m, rfl⟩ : ∃ m', m = m' + 1 := ⟨m - 1, by omega⟩
   rw [zdD, zan (by omega), zsh (by omega) (by omega), Nat.add_sub_cancel, rdK ho h2, rdK ho (by omega), hc _ he, shiftDown]
   simp only [o_bd, zam, dlt (ord := ord)]
   cases hlt : ltO ord d[j + 1]! d[j]! with
   | true =>
     obtain ⟨h2', o2, k2, e2⟩ := swpK (c := c) ho (i := j + 1) (j := j) (by omega) (by omega)
     simp only [Bool.not_true, cond_false, Bool.false_eq_true, if_false]
     rw [e2]
     obtain ⟨h', q1, q2, q3⟩ := ih m _ h2' (by omega) (by omega) o2
     exact ⟨h', q1, q2, k2.trans q3⟩
   | false =>
     simp only [Bool.not_false, cond_true, if_true]
     exact ⟨h, rfl, ho, zcs.refl _ _⟩
theorem zCZ (hc : zqN fuel f cps ord D) {e : Nat} (he : D ≤ e) (hn : n < 1000000000000) {a b i : Nat} (hb : b ≤ n) (x10 : Int) : ∀ (k j m : Nat) (d : Array Int) (h : AH), b - j ≤ k → k < m → 1 ≤ j → j < 2000000000000 → Own h 1 id gen n (zaS d.toList) →
   ∃ h', zar fuel e m [(0, .slice (.mk ⟨id, gen, 0⟩ n c)), (1, .int .i64 (a : Int)), (2, .int .i64 (b : Int)), (3, .func f cps), (9, .int .i64 (i : Int)), (10, .int .i64 x10), (12, .int .i64 (j : Int))] h = some (.exit 6, [(0, .slice (.mk ⟨id, gen, 0⟩ n c)), (1, .int .i64 (a : Int)), (2, .int .i64 (b : Int)), (3, .func f cps), (9, .int .i64 (i : Int)), (10, .int .i64 x10)], h') ∧ Srt h h' id gen n (shiftUp (ltO ord) b j d) := by
 intro k
 induction k with
 | zero =>
   intro j m d h h1 h2 h3 h4 ho
   obtain ⟨m, rfl⟩ : ∃ m', m = m' + 1 := ⟨m - 1, by omega⟩
   rw [zdB, zah (by omega), shiftUp, if_neg (by omega)]
   exact ⟨h, rfl, ho, zcs.refl _ _⟩
 | succ k ih =>
   intro j m d h h1 h2 h3 h4 ho
   obtain ⟨m, rfl⟩ : ∃ m', m = m' + 1 := ⟨m - 1, by omega⟩
   rw [zdB, shiftUp]
   by_cases hjb : j < b
   · rw [zan (by omega), if_pos hjb, zsh (by omega) (by omega), rdK ho (by omega), rdK ho (by omega), hc _ he]
     simp only [o_bd, zam, dlt (ord := ord)]
     cases hlt : ltO ord d[j]! d[j - 1]! with
     | true =>
       obtain ⟨h2', o2, k2, e2⟩ := swpK (c := c) ho (i := j) (j := j - 1) (by omega) (by omega)
       simp only [Bool.not_true, cond_false, Bool.false_eq_true, if_false]
       rw [e2, sucI (by omega)]
       obtain ⟨h', q1, q2, q3⟩ := ih (j + 1) m _ h2' (by omega) (by omega) (by omega) (by omega) o2
       exact ⟨h', q1, q2, k2.trans q3⟩
     | false =>
       simp only [Bool.not_false, cond_true, if_true]
       exact ⟨h, rfl, ho, zcs.refl _ _⟩
   · rw [zah (by omega), if_neg hjb]
     exact ⟨h, rfl, ho, zcs.refl _ _⟩
theorem zuK (lt : Int → Int → Bool) (d : Array Int) {b : Nat} : ∀ (k i : Nat), b - i ≤ k → i ≤ b → i ≤ scanSorted lt d b i ∧ scanSorted lt d b i ≤ b := by
 intro k
 induction k with
 | zero =>
   intro i h1 h2
   rw [scanSorted, decide_eq_false (show ¬ i < b by omega)]
   simp
   omega
 | succ k ih =>
   intro i h1 h2
   rw [scanSorted]
   split
   · rename_i h
     simp only [Bool.and_eq_true, decide_eq_true_eq] at h
     have := ih (i + 1) (by omega) (by omega)
     omega
   · omega
theorem zA4 (hc : zqN fuel f cps ord D) {e : Nat} (he : D ≤ e) (hn : n < 1000000000000) (hf : n + 5 < fuel) {a b : Nat} (hab : a < b) (hb : b ≤ n) : ∀ (s i m : Nat) (x10 : Int) (d : Array Int) (h : AH), x10 = 5 - (s : Int) → s ≤ 5 → s < m → a + 1 ≤ i → i ≤ b → Own h 1 id gen n (zaS d.toList) →
   ∃ h', ((zai fuel e m [(0, .slice (.mk ⟨id, gen, 0⟩ n c)), (1, .int .i64 (a : Int)), (2, .int .i64 (b : Int)), (3, .func f cps), (9, .int .i64 (i : Int)), (10, .int .i64 x10)] h).bind fun p => zal fuel e p.1 p.2.1 p.2.2) = some (.bool (partialIns (ltO ord) a b s i d).2, h') ∧ Srt h h' id gen n (partialIns (ltO ord) a b s i d).1 := by
 intro s
 induction s with
 | zero =>
   intro i m x10 d h hx h1 h2 h3 h4 ho
   obtain ⟨m, rfl⟩ : ∃ m', m = m' + 1 := ⟨m - 1, by omega⟩
   rw [zdF, zah (by omega)]
   simp only [o_bd, zhp, partialIns]
   exact ⟨h, rfl, ho, zcs.refl _ _⟩
 | succ s ih =>
   intro i m x10 d h hx h1 h2 h3 h4 ho
   obtain ⟨m, rfl⟩ : ∃ m', m = m' + 1 := ⟨m - 1, by omega⟩
   have e1 := zA3 (c := c) (a := a) hc he hn hb x10 ho n i fuel (by omega) (by omega) (by omega) (by omega)
   have g1 := zuK (ltO ord) d n i (by omega) h4
   rw [zdF, zan (by omega), partialIns_succ]
   generalize scanSorted (ltO ord) d b i = i2 at *
   rw [e1]
   simp only [o_bd, zho]
   by_cases hi2 : i2 = b
   · subst hi2
     rw [zan rfl, if_pos rfl]
     simp only [o_bd, zdT]
     exact ⟨h, rfl, ho, zcs.refl _ _⟩
   · rw [zah (by omega), if_neg hi2, subI (by omega) (by omega)]
     by_cases h50 : b - a < 50
     · rw [zan (by omega), if_pos h50]
       simp only [o_bd, zdT]
       exact ⟨h, rfl, ho, zcs.refl _ _⟩
     · rw [zah (by omega), if_neg h50, zsh (by omega) (by omega)]
       obtain ⟨h2', o2, k2, e2⟩ := swpK (c := c) ho (i := i2) (j := i2 - 1) (by omega) (by omega)
       rw [e2, subI (by omega) (by omega)]
       have tail : ∀ (d2 : Array Int) (h3 : AH), Own h3 1 id gen n (zaS d2.toList) → ∃ h', ((zaE fuel e m .normal [(0, .slice (.mk ⟨id, gen, 0⟩ n c)), (1, .int .i64 (a : Int)), (2, .int .i64 (b : Int)), (3, .func f cps), (9, .int .i64 (i2 : Int)), (10, .int .i64 x10)] h3).bind fun p => zal fuel e p.1 p.2.1 p.2.2) = some (.bool (partialIns (ltO ord) a b s i2 (fixUp (ltO ord) b i2 d2)).2, h') ∧ Srt h3 h' id gen n (partialIns (ltO ord) a b s i2 (fixUp (ltO ord) b i2 d2)).1 := by
         intro d2 h3 o3
         rw [zhQ, subI (by omega) (by omega)]
         unfold fixUp
         have ex : IntKind.wrap .i64 (x10 + 1) = 5 - (s : Int) := by rw [zeo (by omega) (by omega)]; omega
         by_cases hg : b - i2 ≥ 2
         · rw [zan (by omega), if_pos hg, sucI (by omega)]
           obtain ⟨h4, e4, o4, k4⟩ := zCZ (c := c) (a := a) (i := i2) hc he hn hb x10 n (i2 + 1) fuel d2 h3 (by omega) (by omega) (by omega) (by omega) o3
           rw [e4]
           simp only [o_bd, zhm]
           obtain ⟨h', q1, q2, q3⟩ := ih i2 m (IntKind.wrap .i64 (x10 + 1)) _ h4 ex (by omega) (by omega) (by omega) (by omega) o4
           exact ⟨h', q1, q2, k4.trans q3⟩
         · rw [zah (by omega), if_neg hg]
           exact ih i2 m (IntKind.wrap .i64 (x10 + 1)) _ h3 ex (by omega) (by omega) (by omega) (by omega) o3
       by_cases hg : i2 - a ≥ 2
       · rw [zan (by omega), fixDown, if_pos hg]
         obtain ⟨h3, e3, o3, k3⟩ := zA5 (c := c) (a := a) (b := b) (i := i2) hc he hn x10 (i2 - 1) fuel _ h2' (by omega) (by omega) o2
         rw [e3]
         simp only [o_bd, zhn]
         obtain ⟨h', q1, q2, q3⟩ := tail _ h3 o3
         exact ⟨h', q1, q2, k2.trans (k3.trans q3)⟩
       · rw [zah (by omega), fixDown, if_neg hg]
         simp only [o_bd]
         obtain ⟨h', q1, q2, q3⟩ := tail _ h2' o2
         exact ⟨h', q1, q2, k2.trans q3⟩
theorem zCg (hc : zqN fuel f cps ord D) {e : Nat} (he : D ≤ e) (hn : n < 1000000000000) (hf : n + 5 < fuel) {a b : Nat} (ha : a < b) (hb : b ≤ n) (ho : Own h 1 id gen n (zaS d.toList)) :
   ∃ h', run fuel (e + 1) zab [.slice (.mk ⟨id, gen, 0⟩ n c), .int .i64 (a : Int), .int .i64 (b : Int), .func f cps] h = some (.bool (partialInsertionSort (ltO ord) d a b).2, h') ∧ Srt h h' id gen n (partialInsertionSort (ltO ord) d a b).1 := by
 rw [ziS, sucI (by omega)]
 exact zA4 (c := c) hc he hn hf ha hb 5 (a + 1) fuel 0 d h (by omega) (by omega) (by omega) (by omega) (by omega) ho
theorem zsH (hc : zqN fuel f cps ord D) {e : Nat} (he : D ≤ e) {a b : Nat} (ha : a < n) (hb : b < n) (ho : Own h 1 id gen n (zaS d.toList)) {sid : Nat} (hne : id ≠ sid) {s : Int} (hs : Own h 1 sid 0 1 [.int .i64 s]) :
   ∃ (h' : AH) (x y : Nat) (s' : Int), run fuel (e + 1) zdn [.slice (.mk ⟨id, gen, 0⟩ n c), .int .i64 (a : Int), .int .i64 (b : Int), .ptr (.mk ⟨sid, 0, 0⟩ 1), .func f cps] h = some (.tup [.int .i64 (x : Int), .int .i64 (y : Int)], h') ∧
     ((x = a ∧ y = b) ∨ (x = b ∧ y = a)) ∧ Own h' 1 id gen n (zaS d.toList) ∧ Own h' 1 sid 0 1 [.int .i64 s'] ∧ zcs h h' (· = sid) := by
 rw [znV, rdK ho hb, rdK ho ha, hc _ he]
 simp only [o_bd, zam, dlt (ord := ord)]
 cases hlt : ltO ord d[b]! d[a]! with
 | true =>
   obtain ⟨h1, e1, o1, k1, _⟩ := hs.put (o := 0) (l := 1) (vs := [.int .i64 (IntKind.wrap .i64 (s + 1))]) (by simp) (by simp)
   simp only [cond_true, zjl, o_bd, hs.part (o := 0) (l := 1) (by omega) rfl, zam, e1]
   exact ⟨h1, b, a, _, rfl, .inr ⟨rfl, rfl⟩, ho.keep k1 hne, o1, k1⟩
 | false =>
   simp only [cond_false]
   exact ⟨h, a, b, s, rfl, .inl ⟨rfl, rfl⟩, ho, hs, zcs.refl _ _⟩
theorem zuV (hc : zqN fuel f cps ord D) {e : Nat} (he : D ≤ e) {a b x : Nat} (ha : a < n) (hb : b < n) (hx : x < n) (ho : Own h 1 id gen n (zaS d.toList)) {sid : Nat} (hne : id ≠ sid) {s : Int} (hs : Own h 1 sid 0 1 [.int .i64 s]) :
   ∃ (h' : AH) (y : Nat) (s' : Int), run fuel (e + 2) zeH [.slice (.mk ⟨id, gen, 0⟩ n c), .int .i64 (a : Int), .int .i64 (b : Int), .int .i64 (x : Int), .ptr (.mk ⟨sid, 0, 0⟩ 1), .func f cps] h = some (.int .i64 (y : Int), h') ∧
     (y = a ∨ y = b ∨ y = x) ∧ Own h' 1 id gen n (zaS d.toList) ∧ Own h' 1 sid 0 1 [.int .i64 s'] ∧ zcs h h' (· = sid) := by
 obtain ⟨h1, x1, y1, s1, e1, c1, o1, q1, k1⟩ := zsH (c := c) hc he ha hb ho hne hs
 obtain ⟨h2, x2, y2, s2, e2, c2, o2, q2, k2⟩ := zsH (c := c) hc he (a := y1) (b := x) (by omega) hx o1 hne q1
 obtain ⟨h3, x3, y3, s3, e3, c3, o3, q3, k3⟩ := zsH (c := c) hc he (a := x1) (b := x2) (by omega) (by omega) o2 hne q2
 refine ⟨h3, y3, s3, ?_, by omega, o3, q3, k1.trans (k2.trans k3)⟩
 rw [znW, e1]
 simp only [o_bd, zq0, List.length_cons, List.length_nil, Nat.beq, cond_true, ztb, List.getElem?_cons_zero, List.getElem?_cons_succ, zam, e2, e3]
theorem zyX (hc : zqN fuel f cps ord D) {e : Nat} (he : D ≤ e) (hn : n < 1000000000000) {a : Nat} (ha : 1 ≤ a) (hb : a + 1 < n) (ho : Own h 1 id gen n (zaS d.toList)) {sid : Nat} (hne : id ≠ sid) {s : Int} (hs : Own h 1 sid 0 1 [.int .i64 s]) :
   ∃ (h' : AH) (y : Nat) (s' : Int), run fuel (e + 3) zbT [.slice (.mk ⟨id, gen, 0⟩ n c), .int .i64 (a : Int), .ptr (.mk ⟨sid, 0, 0⟩ 1), .func f cps] h = some (.int .i64 (y : Int), h') ∧
     (y = a - 1 ∨ y = a ∨ y = a + 1) ∧ Own h' 1 id gen n (zaS d.toList) ∧ Own h' 1 sid 0 1 [.int .i64 s'] ∧ zcs h h' (· = sid) := by
 obtain ⟨h1, y, s1, e1, c1, o1, q1, k1⟩ := zuV (c := c) hc he (a := a - 1) (b := a) (x := a + 1) (by omega) (by omega) hb ho hne hs
 refine ⟨h1, y, s1, ?_, c1, o1, q1, k1⟩
 rw [zkK, zsh (by omega) (by omega), sucI (by omega), e1]
 simp only [o_bd, zam]
theorem divI {a : Nat} (k : Nat) (h : a < 9000000000000000000) (hk : 1 ≤ k) : IntKind.wrap .i64 (Int.tdiv (a : Int) (k : Int)) = ((a / k : Nat) : Int) := by
 rw [Int.tdiv_eq_ediv_of_nonneg (by omega), ← Int.natCast_ediv, zB0]
 exact Nat.lt_of_le_of_lt (Nat.div_le_self _ _) h
theorem mulI {a b : Nat} (h : a * b < 9000000000000000000) : IntKind.wrap .i64 ((a : Int) * (b : Int)) = ((a * b : Nat) : Int) := by rw [← Int.natCast_mul, zB0 h]
theorem zyH (hc : zqN fuel f cps ord D) {e : Nat} (he : D ≤ e) (hn : n < 1000000000000) {a b : Nat} (ha : a < b) (hb : b ≤ n) (ho : Own h 1 id gen n (zaS d.toList)) :
   ∃ (h' : AH) (y : Nat) (z : Int), run fuel (e + 4) zbI [.slice (.mk ⟨id, gen, 0⟩ n c), .int .i64 (a : Int), .int .i64 (b : Int), .func f cps] h = some (.tup [.int .i64 (y : Int), .int .i64 z], h') ∧ a ≤ y ∧ y < b ∧ Srt h h' id gen n d := by
 have hlt := ho.lt
 have o0 : Own (h.push 1 [.int .i64 (0 : Int)]) 1 id gen n (zaS d.toList) := ho.keep (zcs.push h 1 _ fun _ => False) (fun h => h)
 have s0 : Own (h.push 1 [.int .i64 (0 : Int)]) 1 h.next 0 1 [.int .i64 (0 : Int)] := Own.of_push 1 1 _ rfl
 have hne : id ≠ h.next := by rw [zrv]; omega
 have k0 : zcs h (h.push 1 [.int .i64 (0 : Int)]) (· = id) := zcs.push h 1 _ _
 have knew : ∀ {h' : AH}, zcs (h.push 1 [.int .i64 (0 : Int)]) h' (· = h.next) → zcs h h' (· = id) := fun k => (zkr (zcs.push h 1 _ _) k (by intro i hi; rw [hi, zrv]; exact Nat.le_refl _)).mono (fun _ _ h => h.elim)
 have m1 : IntKind.wrap .i64 ((a : Int) + IntKind.wrap .i64 (IntKind.wrap .i64 (Int.tdiv ((b - a : Nat) : Int) 4) * 1)) = ((a + (b - a) / 4 * 1 : Nat) : Int) := by
   rw [show (4 : Int) = ((4 : Nat) : Int) from rfl, divI 4 (by omega) (by omega), show (1 : Int) = ((1 : Nat) : Int) from rfl, mulI (by omega), addI (by omega)]
 have m2 : IntKind.wrap .i64 ((a : Int) + IntKind.wrap .i64 (IntKind.wrap .i64 (Int.tdiv ((b - a : Nat) : Int) 4) * 2)) = ((a + (b - a) / 4 * 2 : Nat) : Int) := by
   rw [show (4 : Int) = ((4 : Nat) : Int) from rfl, divI 4 (by omega) (by omega), show (2 : Int) = ((2 : Nat) : Int) from rfl, mulI (by omega), addI (by omega)]
 have m3 : IntKind.wrap .i64 ((a : Int) + IntKind.wrap .i64 (IntKind.wrap .i64 (Int.tdiv ((b - a : Nat) : Int) 4) * 3)) = ((a + (b - a) / 4 * 3 : Nat) : Int) := by
   rw [show (4 : Int) = ((4 : Nat) : Int) from rfl, divI 4 (by omega) (by omega), show (3 : Int) = ((3 : Nat) : Int) from rfl, mulI (by omega), addI (by omega)]
 have fin : ∀ (h' : AH) (y : Nat) (s : Int), a ≤ y → y < b → Own h' 1 id gen n (zaS d.toList) → Own h' 1 h.next 0 1 [.int .i64 s] → zcs (h.push 1 [.int .i64 (0 : Int)]) h' (· = h.next) →
     ∃ (h'' : AH) (y2 : Nat) (z : Int), zaV fuel (e + 3) .normal [(11, .ptr (.mk ⟨h.next, 0, 0⟩ 1)), (13, .int .i64 (y : Int))] h' = some (.tup [.int .i64 (y2 : Int), .int .i64 z], h'') ∧ a ≤ y2 ∧ y2 < b ∧ Srt h h'' id gen n d := by
   intro h' y s h1 h2 o q k
   rw [zkc, q.part (o := 0) (l := 1) (by omega) rfl]
   simp only [o_bd, zam]
   by_cases z0 : s = 0
   · rw [zan z0]; exact ⟨h', y, _, rfl, h1, h2, o, knew k⟩
   · rw [zah z0]
     by_cases z1 : s = 12
     · rw [zan z1]; exact ⟨h', y, _, rfl, h1, h2, o, knew k⟩
     · rw [zah z1]; exact ⟨h', y, _, rfl, h1, h2, o, knew k⟩
 rw [zlU, subI (by omega) (by omega), m1, m2, m3]
 clear m1 m2 m3
 by_cases h8 : 8 ≤ b - a
 · rw [zan (by omega)]
   have mid : ∀ (h' : AH) (i j k : Nat) (s : Int), a ≤ i → i < b → a ≤ j → j < b → a ≤ k → k < b → Own h' 1 id gen n (zaS d.toList) → Own h' 1 h.next 0 1 [.int .i64 s] → zcs (h.push 1 [.int .i64 (0 : Int)]) h' (· = h.next) →
       ∃ (h'' : AH) (y : Nat) (z : Int), ((zbo fuel (e + 3) .normal [(0, .slice (.mk ⟨id, gen, 0⟩ n c)), (3, .func f cps), (11, .ptr (.mk ⟨h.next, 0, 0⟩ 1)), (12, .int .i64 (i : Int)), (13, .int .i64 (j : Int)), (14, .int .i64 (k : Int))] h').bind fun p8 =>
         zaV fuel (e + 3) p8.1 p8.2.1 p8.2.2) = some (.tup [.int .i64 (y : Int), .int .i64 z], h'') ∧ a ≤ y ∧ y < b ∧ Srt h h'' id gen n d := by
     intro h' i j k s i1 i2 j1 j2 k1 k2 o q kk
     obtain ⟨h1, y, s1, e1, c1, o1, q1, kk1⟩ := zuV (c := c) (e := e + 1) hc (by omega) (a := i) (b := j) (x := k) (by omega) (by omega) (by omega) o hne q
     rw [zkd, e1]
     simp only [o_bd, zam]
     exact fin h1 y s1 (by omega) (by omega) o1 q1 (kk.trans kk1)
   by_cases h50 : 50 ≤ b - a
   · rw [zan (by omega)]
     obtain ⟨h1, y1, s1, e1, c1, o1, q1, k1⟩ := zyX (c := c) hc he hn (a := a + (b - a) / 4 * 1) (by omega) (by omega) o0 hne s0
     obtain ⟨h2, y2, s2, e2, c2, o2, q2, k2⟩ := zyX (c := c) hc he hn (a := a + (b - a) / 4 * 2) (by omega) (by omega) o1 hne q1
     obtain ⟨h3, y3, s3, e3, c3, o3, q3, k3⟩ := zyX (c := c) hc he hn (a := a + (b - a) / 4 * 3) (by omega) (by omega) o2 hne q2
     rw [e1]
     simp only [o_bd, zam, e2, e3]
     exact mid h3 y1 y2 y3 s3 (by omega) (by omega) (by omega) (by omega) (by omega) (by omega) o3 q3 (k1.trans (k2.trans k3))
   · rw [zah (by omega)]
     simp only [o_bd]
     exact mid _ _ _ _ 0 (by omega) (by omega) (by omega) (by omega) (by omega) (by omega) o0 s0 (zcs.refl _ _)
 · rw [zah (by omega)]
   simp only [o_bd]
   exact fin _ _ 0 (by omega) (by omega) o0 s0 (zcs.refl _ _)
end
end Go.Proofs.YtdmbfmgebgdfnaaDoor
namespace Go.Proofs.YtdmbfmgebgdfnaaDoor
open Go.RowKit Go.Sort
theorem zrl {n : Int} (h0 : 0 ≤ n) (h1 : n < 18446744073709551616) : IntKind.wrap .u64 n = n := by
 simp [IntKind.wrap, IntKind.bits, IntKind.signed]
 omega
theorem zB4 (n : Int) : IntKind.wrap .u8 n = n % 256 := by
 simp [IntKind.wrap, IntKind.bits, IntKind.signed]
theorem zt4 (n : Int) : 0 ≤ IntKind.wrap .u64 n ∧ IntKind.wrap .u64 n < 18446744073709551616 := by
 simp [IntKind.wrap, IntKind.bits, IntKind.signed]
 omega
theorem zrW {n k : Nat} (h : 2 ^ k ≤ n) : bitsLen n = bitsLen (n / 2 ^ k) + k := by
 have key : ∀ j, bitsLen n ≤ j ↔ bitsLen (n / 2 ^ k) + k ≤ j := by
   intro j
   rw [bitsLen_le_iff]
   rcases Nat.lt_or_ge j k with hj | hj
   · have : 2 ^ j ≤ 2 ^ k := Nat.pow_le_pow_right (by omega) (by omega)
     constructor
     · intro h1; omega
     · intro h1; omega
   · have e : bitsLen (n / 2 ^ k) + k ≤ j ↔ bitsLen (n / 2 ^ k) ≤ j - k := by omega
     rw [e, bitsLen_le_iff, Nat.div_lt_iff_lt_mul (Nat.two_pow_pos k), ← Nat.pow_add, Nat.sub_add_cancel hj]
 exact Nat.le_antisymm ((key _).2 (Nat.le_refl _)) ((key _).1 (Nat.le_refl _))
theorem zyd : (List.range 256).all (fun i => znB.data.toList[i]? == some (UInt8.ofNat (bitsLen i))) = true := by kernel_rfl
theorem zzt {i : Nat} (h : i < 256) : zAa znB (i : Int) = some (bitsLen i : Int) := by
 have := List.all_eq_true.1 zyd i (List.mem_range.2 h)
 have h2 : znB.data.toList[i]? = some (UInt8.ofNat (bitsLen i)) := by simpa using this
 have h3 : bitsLen i ≤ 8 := (bitsLen_le_iff i 8).2 (by omega)
 unfold zAa
 rw [zan (by omega), Int.toNat_natCast, h2]
 simp
 omega
theorem zAp (fuel d : Nat) {x : Nat} (hx : x < 256) {b : Nat} (hb : b < 1000) (h : AH) : zi4 fuel d .normal [(0, .int .u64 (x : Int)), (2, .int .i64 (b : Int))] h = some (.int .i64 ((bitsLen x + b : Nat) : Int), h) := by
 have h3 : bitsLen x ≤ 8 := (bitsLen_le_iff x 8).2 (by omega)
 have e : IntKind.wrap .u8 (x : Int) = (x : Int) := by rw [zB4]; omega
 rw [zsS, e]
 rw [zzt hx, o_bd, zB0 (by omega), addI (by omega), Nat.add_comm]
theorem zDi (a b : Nat) : Int.fdiv (a : Int) (b : Int) = ((a / b : Nat) : Int) := by
 rw [Int.fdiv_eq_ediv_of_nonneg _ (by omega)]
 exact (Int.natCast_ediv a b).symm
theorem zAq (fuel d : Nat) {x : Nat} (hx : x < 65536) {b : Nat} (hb : b < 900) (h : AH) : zi5 fuel d .normal [(0, .int .u64 (x : Int)), (2, .int .i64 (b : Int))] h = some (.int .i64 ((bitsLen x + b : Nat) : Int), h) := by
 rw [zsT]
 by_cases h8 : 256 ≤ x
 · have e : Int.fdiv (x : Int) (2 ^ min (Int.toNat (8 : Int)) (IntKind.bits .u64)) = ((x / 2 ^ 8 : Nat) : Int) := zDi x (2 ^ 8)
   have e2 : IntKind.wrap .i64 ((b : Int) + 8) = ((b + 8 : Nat) : Int) := zCM 8 (by omega) rfl
   rw [zan (by omega), e, e2]
   simp only [o_bd]
   rw [zAp fuel d (by omega) (by omega), zrW (n := x) (k := 8) (by omega)]
   congr 3; omega
 · rw [zah (by omega)]
   simp only [o_bd]
   exact zAp fuel d (by omega) (by omega) h
theorem zCj (fuel d : Nat) {x : Nat} (hx : x < 4294967296) {b : Nat} (hb : b < 800) (h : AH) : zi6 fuel d .normal [(0, .int .u64 (x : Int)), (2, .int .i64 (b : Int))] h = some (.int .i64 ((bitsLen x + b : Nat) : Int), h) := by
 rw [zsU]
 by_cases h8 : 65536 ≤ x
 · have e : Int.fdiv (x : Int) (2 ^ min (Int.toNat (16 : Int)) (IntKind.bits .u64)) = ((x / 2 ^ 16 : Nat) : Int) := zDi x (2 ^ 16)
   have e2 : IntKind.wrap .i64 ((b : Int) + 16) = ((b + 16 : Nat) : Int) := zCM 16 (by omega) rfl
   rw [zan (by omega), e, e2]
   simp only [o_bd]
   rw [zAq fuel d (by omega) (by omega), zrW (n := x) (k := 16) (by omega)]
   congr 3; omega
 · rw [zah (by omega)]
   simp only [o_bd]
   exact zAq fuel d (by omega) (by omega) h
theorem zzu (fuel d : Nat) {x : Nat} (hx : x < 4294967296) (h : AH) : run fuel (d + 1) zhU [.int .u64 (x : Int)] h = some (.int .i64 (bitsLen x : Int), h) := by
 refine zft rfl rfl (cc1 rfl) (r := .int .i64 (bitsLen x : Int)) (h' := AH.none) ?_ rfl
 rw [zvL, zah (by omega)]
 simp only [o_bd]
 have := zCj fuel d hx (b := 0) (by omega) AH.none
 simpa using this
theorem zyc (fuel d : Nat) {x : Nat} (hx : x < 4294967296) (h : AH) : run fuel (d + 2) zrk [.int .u64 (x : Int)] h = some (.int .i64 (bitsLen x : Int), h) := by
 refine zft rfl rfl (cc1 rfl) (r := .int .i64 (bitsLen x : Int)) (h' := AH.none) ?_ rfl
 rw [zyz, zzu fuel d hx]
 rfl
theorem zzr (fuel d : Nat) {x : Nat} (hx : x < 4294967296) (h : AH) : run fuel (d + 3) zij [.int .i64 (x : Int)] h = some (.int .u64 ((2 ^ bitsLen x : Nat) : Int), h) := by
 have hb : bitsLen x ≤ 32 := (bitsLen_le_iff x 32).2 (by omega)
 have hp : 2 ^ bitsLen x ≤ 2 ^ 32 := Nat.pow_le_pow_right (by omega) hb
 refine zft rfl rfl (cc1 rfl) (r := .int .u64 ((2 ^ bitsLen x : Nat) : Int)) (h' := AH.none) ?_ rfl
 rw [zpa, zrl (by omega) (by omega), zyc fuel d hx]
 simp only [o_bd, zam]
 have e : min (Int.toNat (bitsLen x : Int)) (IntKind.bits .u64) = bitsLen x := by
   rw [Int.toNat_natCast]; exact Nat.min_eq_left (Nat.le_trans hb (by decide))
 rw [zah (by omega), e, Int.one_mul, show ((2 : Int) ^ bitsLen x) = ((2 ^ bitsLen x : Nat) : Int) from by simp]
 generalize 2 ^ bitsLen x = p at *
 rw [zrl (by omega) (by omega)]
theorem zvj (op : BinOp) (a b : Int) : 0 ≤ zmG op .u64 a b ∧ zmG op .u64 a b < 18446744073709551616 := by
 unfold zmG
 exact zt4 _
theorem zzb (fuel d : Nat) {h : AH} {rid : Nat} {s : Int} (ho : Own h 1 rid 0 1 [.int .u64 s]) :
   ∃ (h' : AH) (r : Int), run fuel (d + 1) ziW [.ptr (.mk ⟨rid, 0, 0⟩ 1)] h = some (.int .u64 r, h') ∧ 0 ≤ r ∧ r < 18446744073709551616 ∧ Own h' 1 rid 0 1 [.int .u64 r] ∧ zcs h h' (· = rid) := by
 rw [zpJ]
 obtain ⟨h1, e1, o1, k1, _⟩ := ho.put (o := 0) (l := 1) (vs := [.int .u64 (zmG .xor .u64 s (IntKind.wrap .u64 (s * 2 ^ min (Int.toNat (13 : Int)) (IntKind.bits .u64))))]) (by simp) (by simp)
 obtain ⟨s1, hs1⟩ : ∃ s1, s1 = zmG .xor .u64 s (IntKind.wrap .u64 (s * 2 ^ min (Int.toNat (13 : Int)) (IntKind.bits .u64))) := ⟨_, rfl⟩
 rw [← hs1] at e1 o1
 have o1 : Own h1 1 rid 0 1 [.int .u64 s1] := o1
 obtain ⟨h2, e2, o2, k2, _⟩ := o1.put (o := 0) (l := 1) (vs := [.int .u64 (zmG .xor .u64 s1 (Int.fdiv s1 (2 ^ min (Int.toNat (7 : Int)) (IntKind.bits .u64))))]) (by simp) (by simp)
 obtain ⟨s2, hs2⟩ : ∃ s2, s2 = zmG .xor .u64 s1 (Int.fdiv s1 (2 ^ min (Int.toNat (7 : Int)) (IntKind.bits .u64))) := ⟨_, rfl⟩
 rw [← hs2] at e2 o2
 have o2 : Own h2 1 rid 0 1 [.int .u64 s2] := o2
 obtain ⟨h3, e3, o3, k3, _⟩ := o2.put (o := 0) (l := 1) (vs := [.int .u64 (zmG .xor .u64 s2 (IntKind.wrap .u64 (s2 * 2 ^ min (Int.toNat (17 : Int)) (IntKind.bits .u64))))]) (by simp) (by simp)
 have o3 : Own h3 1 rid 0 1 [.int .u64 (zmG .xor .u64 s2 (IntKind.wrap .u64 (s2 * 2 ^ min (Int.toNat (17 : Int)) (IntKind.bits .u64))))] := o3
 simp only [zjl, o_bd, ho.part (o := 0) (l := 1) (by omega) rfl, zam, ← hs1, e1, o1.part (o := 0) (l := 1) (by omega) rfl, ← hs2, e2, o2.part (o := 0) (l := 1) (by omega) rfl, e3, o3.part (o := 0) (l := 1) (by omega) rfl]
 exact ⟨h3, _, rfl, (zvj _ _ _).1, (zvj _ _ _).2, o3, k1.trans (k2.trans k3)⟩
theorem zDa {r : Int} {m : Nat} (h0 : 0 ≤ r) (h1 : r < 18446744073709551616) (hm : m < 18446744073709551616) : ∃ o : Nat, zmG .and .u64 r (m : Int) = (o : Int) ∧ o ≤ m := by
 obtain ⟨x, rfl⟩ : ∃ x : Nat, r = (x : Int) := ⟨r.toNat, by omega⟩
 have hx : x < 18446744073709551616 := by omega
 refine ⟨x &&& m, ?_, Nat.and_le_right⟩
 unfold zmG
 have hle : x &&& m ≤ m := Nat.and_le_right
 have e : (BitVec.ofInt (IntKind.bits .u64) (x : Int) &&& BitVec.ofInt (IntKind.bits .u64) (m : Int)).toNat = x &&& m := by
   rw [BitVec.toNat_and]
   simp only [BitVec.ofInt_natCast, BitVec.toNat_ofNat, IntKind.bits]
   rw [Nat.mod_eq_of_lt (by omega), Nat.mod_eq_of_lt (by omega)]
 simp only [e]
 exact zrl (by omega) (by omega)
section
variable {fuel f : Nat} {cps : List Pt} {ord : Int → Int → Int} {D : Nat} {h : AH} {id gen n : Nat} {c : Bool} {d : Array Int}
theorem zBE (e : Nat) (hn : n < 1000000000) (hf : 5 < fuel) {a b : Nat} (hab : 8 ≤ b - a) (hb : b ≤ n) {rid : Nat} (hne : id ≠ rid) : ∀ (k i m : Nat) (d : Array Int) (h : AH) (s : Int), i + k = a + (b - a) / 4 * 2 + 2 → k ≤ 3 → k < m → d.size = n → Own h 1 id gen n (zaS d.toList) → Own h 1 rid 0 1 [.int .u64 s] →
   ∃ (h' : AH) (d' : Array Int), zaB fuel (e + 1) m [(0, .slice (.mk ⟨id, gen, 0⟩ n c)), (1, .int .i64 (a : Int)), (8, .int .i64 ((b - a : Nat) : Int)), (9, .ptr (.mk ⟨rid, 0, 0⟩ 1)), (10, .int .u64 ((2 ^ bitsLen (b - a) : Nat) : Int)), (11, .int .i64 (i : Int))] h = some (.exit 0, [], h') ∧
     PermIn a b d d' ∧ Own h' 1 id gen n (zaS d'.toList) ∧ zcs h h' (fun r => r = id ∨ r = rid) := by
 have hbl : 2 ^ bitsLen (b - a) ≤ 2 * (b - a) := two_pow_bitsLen_le (by omega)
 have hpos : 0 < 2 ^ bitsLen (b - a) := Nat.two_pow_pos _
 have m2 : IntKind.wrap .i64 (IntKind.wrap .i64 ((a : Int) + IntKind.wrap .i64 (IntKind.wrap .i64 (Int.tdiv ((b - a : Nat) : Int) 4) * 2)) + 1) = ((a + (b - a) / 4 * 2 + 1 : Nat) : Int) := by
   rw [show (4 : Int) = ((4 : Nat) : Int) from rfl, divI 4 (by omega) (by omega), show (2 : Int) = ((2 : Nat) : Int) from rfl, mulI (by omega), addI (by omega), sucI (by omega)]
 have e10 : IntKind.wrap .u64 (((2 ^ bitsLen (b - a) : Nat) : Int) - 1) = ((2 ^ bitsLen (b - a) - 1 : Nat) : Int) := by rw [zrl (by omega) (by omega)]; omega
 intro k
 induction k with
 | zero =>
   intro i m d h s h1 h2 h3 hsz ho hr
   obtain ⟨m, rfl⟩ : ∃ m', m = m' + 1 := ⟨m - 1, by omega⟩
   rw [zfe, m2, zah (by omega)]
   exact ⟨h, d, rfl, permIn_refl _ _ _, ho, zcs.refl _ _⟩
 | succ k ih =>
   intro i m d h s h1 h2 h3 hsz ho hr
   obtain ⟨m, rfl⟩ : ∃ m', m = m' + 1 := ⟨m - 1, by omega⟩
   rw [zfe, m2, zan (by omega)]
   obtain ⟨h2', r, e2, r0, r1, q2, k2⟩ := zzb fuel e hr
   obtain ⟨o, eo, ho'⟩ := zDa (m := 2 ^ bitsLen (b - a) - 1) r0 r1 (by omega)
   rw [e2]
   simp only [o_bd, zam, e10, eo]
   rw [zB0 (by omega)]
   clear m2
   have oo := ho.keep k2 hne
   have tail : ∀ (t : Nat), t < b - a → ∃ (h' : AH) (d' : Array Int), zba fuel (e + 1) m .normal [(0, .slice (.mk ⟨id, gen, 0⟩ n c)), (1, .int .i64 (a : Int)), (8, .int .i64 ((b - a : Nat) : Int)), (9, .ptr (.mk ⟨rid, 0, 0⟩ 1)), (10, .int .u64 ((2 ^ bitsLen (b - a) : Nat) : Int)), (11, .int .i64 (i : Int)), (12, .int .i64 (t : Int))] h2' = some (.exit 0, [], h') ∧
     PermIn a b d d' ∧ Own h' 1 id gen n (zaS d'.toList) ∧ zcs h h' (fun r => r = id ∨ r = rid) := by
     intro t ht
     rw [zjv, addI (by omega), sucI (by omega)]
     obtain ⟨h3', o3, k3, e3⟩ := swpK (c := c) oo (i := i) (j := a + t) (by omega) (by omega)
     rw [e3]
     obtain ⟨h', d', q1, q3, q4, q5⟩ := ih (i + 1) m _ h3' r (by omega) (by omega) (by omega) (by rw [zAR]; exact hsz) o3 (q2.keep k3 (fun e => hne e.symm))
     refine ⟨h', d', q1, permIn_trans _ _ _ a b (swp_permIn d a b i (a + t) (by omega) (by omega) (by omega) (by omega) (by omega)) q3, q4, ?_⟩
     exact (k2.mono fun _ _ e => .inr e).trans ((k3.mono fun _ _ e => .inl e).trans q5)
   by_cases hge : b - a ≤ o
   · rw [zan (by omega), subI hge (by omega)]
     simp only [o_bd]
     exact tail (o - (b - a)) (by omega)
   · rw [zah (by omega)]
     simp only [o_bd]
     exact tail o (by omega)
theorem zCD (e : Nat) (hn : n < 1000000000) (hf : 5 < fuel) {a b : Nat} (hab : a ≤ b) (hb : b ≤ n) (ho : Own h 1 id gen n (zaS d.toList)) :
   ∃ (h' : AH) (d' : Array Int), run fuel (e + 4) zaW [.slice (.mk ⟨id, gen, 0⟩ n c), .int .i64 (a : Int), .int .i64 (b : Int), .func f cps] h = some (.tup [], h') ∧ PermIn a b d d' ∧ Srt h h' id gen n d' := by
 have hsz := znG ho
 rw [zkW, subI hab (by omega)]
 by_cases h8 : 8 ≤ b - a
 · have hlt := ho.lt
   have hne : id ≠ h.next := by rw [zrv]; omega
   have o0 : Own (h.push 1 [.int .u64 (0 : Int)]) 1 id gen n (zaS d.toList) := ho.keep (zcs.push h 1 _ fun _ => False) (fun h => h)
   have s0 : Own (h.push 1 [.int .u64 (0 : Int)]) 1 h.next 0 1 [.int .u64 (0 : Int)] := Own.of_push 1 1 _ rfl
   obtain ⟨h1, e1, s1, k1, _⟩ := s0.put (o := 0) (l := 1) (vs := [.int .u64 (IntKind.wrap .u64 (IntKind.wrap .i64 ((b - a : Nat) : Int)))]) (by simp) (by simp)
   have m2 : IntKind.wrap .i64 (IntKind.wrap .i64 ((a : Int) + IntKind.wrap .i64 (IntKind.wrap .i64 (Int.tdiv ((b - a : Nat) : Int) 4) * 2)) - 1) = ((a + (b - a) / 4 * 2 - 1 : Nat) : Int) := by
     rw [show (4 : Int) = ((4 : Nat) : Int) from rfl, divI 4 (by omega) (by omega), show (2 : Int) = ((2 : Nat) : Int) from rfl, mulI (by omega), addI (by omega), zsh (by omega) (by omega)]
   rw [zB0 (by omega)] at e1 s1
   rw [zan (by omega), e1, o_bd, zzr fuel e (by omega), m2]
   simp only [o_bd, zam]
   clear m2
   obtain ⟨h', d', q1, q2, q3, q4⟩ := zBE (c := c) (fuel := fuel) (e + 2) hn hf h8 hb hne 3 (a + (b - a) / 4 * 2 - 1) fuel d h1 _ (by omega) (by omega) (by omega) hsz (o0.keep k1 hne) s1
   rw [q1]
   simp only [o_bd, zjj]
   refine ⟨h', d', rfl, q2, q3, ?_⟩
   have k3 : zcs h h1 fun _ => False := zkr (zcs.push h 1 _ _) k1 (by intro i hi; rw [hi, zrv]; exact Nat.le_refl _)
   refine ⟨Nat.le_trans k3.len q4.len, fun i row hi hn => q4.rows i row (k3.rows i row hi (fun h => h)) ?_, fun m es hm => q4.maps m es (k3.maps m es hm)⟩
   rintro (rfl | rfl)
   · exact hn rfl
   · have := (List.getElem?_eq_some_iff.1 hi).1
     rw [zrv] at this
     omega
 · rw [zah (by omega)]
   exact ⟨h, d, rfl, permIn_refl _ _ _, ho, zcs.refl _ _⟩
theorem zA7 (hS : SWO (ltO ord)) (hc : zqN fuel f cps ord D) (hn : n < 1000000000) (hf : n + 5 < fuel) : ∀ (N a b m dd : Nat) (x3 : Int) (wb wp : Bool) (d : Array Int) (h : AH), b - a ≤ N → N < m → a ≤ b → b ≤ n → D + 5 + bitsLen (b - a) ≤ dd → Below (ltO ord) a b d → Own h 1 id gen n (zaS d.toList) →
   ∃ (h' : AH) (d' : Array Int), zaC fuel dd m [(0, .slice (.mk ⟨id, gen, 0⟩ n c)), (1, .int .i64 (a : Int)), (2, .int .i64 (b : Int)), (3, .int .i64 x3), (4, .func f cps), (10, .bool wb), (11, .bool wp)] h = some (.ret, [], h') ∧ PermIn a b d d' ∧ SortedIn (ltO ord) a b d' ∧ Srt h h' id gen n d' := by
 intro N
 induction N using Nat.strongRecOn with
 | _ N IH =>
 intro a b m dd x3 wb wp d h hN hm hab hb hdd hB ho
 have hsz := znG ho
 obtain ⟨m, rfl⟩ : ∃ m', m = m' + 1 := ⟨m - 1, by omega⟩
 rw [zgU, subI hab (by omega)]
 by_cases h12 : b - a ≤ 12
 · obtain ⟨e, rfl⟩ : ∃ e, dd = e + 1 := ⟨dd - 1, by omega⟩
   obtain ⟨h1, e1, o1, k1⟩ := zu5 (c := c) hc (e := e) (by omega) (by omega) (by omega) (a := a) (b := b) (by omega) hb ho
   rw [zan (by omega), e1]
   obtain ⟨q1, q2⟩ := insertionSort_holds hS d a b hab (by omega)
   exact ⟨h1, _, rfl, q1, q2, o1, k1⟩
 rw [zah (by omega)]
 by_cases hl : x3 = 0
 · obtain ⟨e, rfl⟩ : ∃ e, dd = e + 2 := ⟨dd - 2, by omega⟩
   obtain ⟨h1, e1, o1, k1⟩ := zBm (c := c) hc (e := e) (by omega) (by omega) (by omega) hab hb (by omega) ho
   rw [zan hl, e1]
   obtain ⟨q1, q2⟩ := heapSort_holds hS d a b hab (by omega)
   exact ⟨h1, _, rfl, q1, q2, o1, k1⟩
 rw [zah hl]
 have A4 : ∀ (d3 : Array Int) (h3 : AH) (x3 : Int) (pv : Nat), PermIn a b d d3 → a ≤ pv → pv < b → Srt h h3 id gen n d3 →
     ∃ (h' : AH) (d' : Array Int), za3 fuel dd m .normal [(0, .slice (.mk ⟨id, gen, 0⟩ n c)), (1, .int .i64 (a : Int)), (2, .int .i64 (b : Int)), (3, .int .i64 x3), (4, .func f cps), (10, .bool wb), (11, .bool wp), (12, .int .i64 ((b - a : Nat) : Int)), (13, .int .i64 (pv : Int))] h3 = some (.ret, [], h') ∧ PermIn a b d d' ∧ SortedIn (ltO ord) a b d' ∧ Srt h h' id gen n d' := by
   intro d3 h3 x3 pv P3 hp1 hp2 hs3
   obtain ⟨o3, k3⟩ := hs3
   have b3 : b ≤ d3.size := by rw [P3.1, hsz]; exact hb
   have B3 : Below (ltO ord) a b d3 := hB.perm (by omega) P3
   have part : ∃ (h' : AH) (d' : Array Int), zbZ fuel dd m .normal [(0, .slice (.mk ⟨id, gen, 0⟩ n c)), (1, .int .i64 (a : Int)), (2, .int .i64 (b : Int)), (3, .int .i64 x3), (4, .func f cps), (10, .bool wb), (11, .bool wp), (12, .int .i64 ((b - a : Nat) : Int)), (13, .int .i64 (pv : Int)), (97, .bool false)] h3 = some (.ret, [], h') ∧ PermIn a b d d' ∧ SortedIn (ltO ord) a b d' ∧ Srt h h' id gen n d' := by
     obtain ⟨e, rfl⟩ : ∃ e, dd = e + 1 := ⟨dd - 1, by omega⟩
     obtain ⟨h4, e4, o4, k4⟩ := zA9 (c := c) hc (e := e) (by omega) (by omega) (by omega) (a := a) (b := b) (pv := pv) (by omega) hb (by omega) o3
     rw [zhI, cond_false, e4]
     rcases hx : Sort.partition (ltO ord) d3 a b pv with ⟨mid, ap, d4⟩
     rw [hx] at o4
     obtain ⟨g1, g2, hs4, hBa, hBr, hleft, hright⟩ := round_part hS (partition_holds (ltO ord)) hp1 hp2 b3 B3 hx
     simp only [o_bd, zq0, List.length_cons, List.length_nil, Nat.beq, cond_true, ztb, List.getElem?_cons_zero, List.getElem?_cons_succ, zam, zaf]
     rw [subI g1 (by omega), subI (by omega) (by omega), sucI (by omega)]
     by_cases hlt : mid - a < b - mid
     · rw [zan (by omega)]
       have hbl : bitsLen (mid - a) + 1 ≤ bitsLen (b - a) := bitsLen_half (by omega) (by omega)
       obtain ⟨h5, d5, e5, p5, s5, o5, k5⟩ := IH (mid - a) (by omega) a mid fuel e x3 true true d4 h4 (Nat.le_refl _) (by omega) g1 (by omega) (by omega) hBa o4
       have e5' : run fuel (e + 1) zaq [.slice (.mk ⟨id, gen, 0⟩ n c), .int .i64 (a : Int), .int .i64 (mid : Int), .int .i64 x3, .func f cps] h4 = some (.tup [], h5) := by
         rw [zem, e5]
         simp only [o_bd, zdf]
       obtain ⟨hBL, hfin⟩ := hleft _ p5 s5
       have hbl2 : bitsLen (b - (mid + 1)) ≤ bitsLen (b - a) := bitsLen_mono (by omega)
       obtain ⟨h6, d6, e6, p6, s6, o6, k6⟩ := IH (b - (mid + 1)) (by omega) (mid + 1) b m (e + 1) x3 (decide (IntKind.wrap .i64 (Int.tdiv ((b - a : Nat) : Int) 8) ≤ ((mid - a : Nat) : Int))) ap d5 h5 (Nat.le_refl _) (by omega) (by omega) hb (by omega) hBL o5
       obtain ⟨q1, q2⟩ := hfin _ p6 s6
       rw [e5', o_bd, e6]
       exact ⟨h6, d6, rfl, permIn_trans _ _ _ a b P3 q1, q2, o6, k3.trans (k4.trans (k5.trans k6))⟩
     · rw [zah (by omega)]
       have hbl : bitsLen (b - (mid + 1)) + 1 ≤ bitsLen (b - a) := bitsLen_half (by omega) (by omega)
       obtain ⟨h5, d5, e5, p5, s5, o5, k5⟩ := IH (b - (mid + 1)) (by omega) (mid + 1) b fuel e x3 true true d4 h4 (Nat.le_refl _) (by omega) (by omega) hb (by omega) hBr o4
       have e5' : run fuel (e + 1) zaq [.slice (.mk ⟨id, gen, 0⟩ n c), .int .i64 ((mid + 1 : Nat) : Int), .int .i64 (b : Int), .int .i64 x3, .func f cps] h4 = some (.tup [], h5) := by
         rw [zem, e5]
         simp only [o_bd, zdf]
       obtain ⟨hBL, hfin⟩ := hright _ p5 s5
       have hbl2 : bitsLen (mid - a) ≤ bitsLen (b - a) := bitsLen_mono (by omega)
       obtain ⟨h6, d6, e6, p6, s6, o6, k6⟩ := IH (mid - a) (by omega) a mid m (e + 1) x3 (decide (IntKind.wrap .i64 (Int.tdiv ((b - a : Nat) : Int) 8) ≤ ((b - mid : Nat) : Int))) ap d5 h5 (Nat.le_refl _) (by omega) g1 (by omega) (by omega) hBL o5
       obtain ⟨q1, q2⟩ := hfin _ p6 s6
       rw [e5', o_bd, e6]
       exact ⟨h6, d6, rfl, permIn_trans _ _ _ a b P3 q1, q2, o6, k3.trans (k4.trans (k5.trans k6))⟩
   rw [zlG]
   by_cases ha0 : 0 < a
   · rw [zan (by omega), zsh (by omega) (by omega), rdK o3 (by omega), rdK o3 (by omega), hc _ (by omega)]
     simp only [o_bd, zam, dlt (ord := ord)]
     cases hlt : ltO ord d3[a - 1]! d3[pv]! with
     | true => exact part
     | false =>
       obtain ⟨e, rfl⟩ : ∃ e, dd = e + 1 := ⟨dd - 1, by omega⟩
       obtain ⟨h4, e4, o4, k4⟩ := zCh (c := c) hc (e := e) (by omega) (by omega) (by omega) (a := a) (b := b) (pv := pv) (by omega) hb (by omega) o3
       rw [Bool.not_false, zhI, cond_true, e4]
       rcases hx : partitionEqual (ltO ord) d3 a b pv with ⟨mid, d4⟩
       rw [hx] at o4
       obtain ⟨g1, g2, hs4, hB4, hfin⟩ := round_eq hS (partitionEqual_holds (ltO ord)) ha0 hp1 hp2 b3 B3 hlt hx
       simp only [o_bd, zam]
       have hbl2 : bitsLen (b - mid) ≤ bitsLen (b - a) := bitsLen_mono (by omega)
       obtain ⟨h6, d6, e6, p6, s6, o6, k6⟩ := IH (b - mid) (by omega) mid b m (e + 1) x3 wb wp d4 h4 (Nat.le_refl _) (by omega) g2 hb (by omega) hB4 o4
       obtain ⟨q1, q2⟩ := hfin _ p6 s6
       rw [e6]
       exact ⟨h6, d6, rfl, permIn_trans _ _ _ a b P3 q1, q2, o6, k3.trans (k4.trans k6)⟩
   · rw [zah (by omega)]
     simp only [o_bd]
     exact part
 have A2 : ∀ (d2 : Array Int) (h2 : AH) (x3 x14 : Int) (pv : Nat), PermIn a b d d2 → a ≤ pv → pv < b → Srt h h2 id gen n d2 →
     ∃ (h' : AH) (d' : Array Int), zb0 fuel dd m .normal [(0, .slice (.mk ⟨id, gen, 0⟩ n c)), (1, .int .i64 (a : Int)), (2, .int .i64 (b : Int)), (3, .int .i64 x3), (4, .func f cps), (10, .bool wb), (11, .bool wp), (12, .int .i64 ((b - a : Nat) : Int)), (13, .int .i64 (pv : Int)), (14, .int .i64 x14)] h2 = some (.ret, [], h') ∧ PermIn a b d d' ∧ SortedIn (ltO ord) a b d' ∧ Srt h h' id gen n d' := by
   intro d2 h2 x3 x14 pv P2 hp1 hp2 hs2
   rw [zlH]
   cases hcond : (bif (bif wb then wp else false) then (decide (x14 = (1 : Int))) else false) with
   | false =>
     simp only [cond_false, o_bd]
     exact A4 d2 h2 x3 pv P2 hp1 hp2 hs2
   | true =>
     obtain ⟨e, rfl⟩ : ∃ e, dd = e + 1 := ⟨dd - 1, by omega⟩
     have b2 : b ≤ d2.size := by rw [P2.1, hsz]; exact hb
     have B2 : Below (ltO ord) a b d2 := hB.perm (by omega) P2
     obtain ⟨h3, e3, o3, k3⟩ := zCg (c := c) hc (e := e) (by omega) (by omega) (by omega) (a := a) (b := b) (by omega) hb hs2.1
     obtain ⟨q1, q2⟩ := partialInsertionSort_holds hS d2 a b (by omega) b2 B2
     rw [cond_true, e3]
     simp only [o_bd, zaf]
     cases hp : (partialInsertionSort (ltO ord) d2 a b).2 with
     | true =>
       simp only [cond_true, o_bd, zlF]
       exact ⟨h3, _, rfl, permIn_trans _ _ _ a b P2 q1, q2 hp, o3, hs2.2.trans k3⟩
     | false =>
       simp only [cond_false, o_bd]
       exact A4 _ h3 x3 pv (permIn_trans _ _ _ a b P2 q1) hp1 hp2 ⟨o3, hs2.2.trans k3⟩
 have A1 : ∀ (d1 : Array Int) (h1 : AH) (x3 : Int), PermIn a b d d1 → Srt h h1 id gen n d1 →
     ∃ (h' : AH) (d' : Array Int), zb1 fuel dd m .normal [(0, .slice (.mk ⟨id, gen, 0⟩ n c)), (1, .int .i64 (a : Int)), (2, .int .i64 (b : Int)), (3, .int .i64 x3), (4, .func f cps), (10, .bool wb), (11, .bool wp), (12, .int .i64 ((b - a : Nat) : Int))] h1 = some (.ret, [], h') ∧ PermIn a b d d' ∧ SortedIn (ltO ord) a b d' ∧ Srt h h' id gen n d' := by
   intro d1 h1 x3 P1 hs1
   obtain ⟨e, rfl⟩ : ∃ e, dd = e + 4 := ⟨dd - 4, by omega⟩
   obtain ⟨h2, y, z, e2, y1, y2, o2, k2⟩ := zyH (c := c) hc (e := e) (by omega) (by omega) (a := a) (b := b) (by omega) hb hs1.1
   rw [zlI, e2]
   simp only [o_bd, zq0, List.length_cons, List.length_nil, Nat.beq, cond_true, ztb, List.getElem?_cons_zero, List.getElem?_cons_succ, zam]
   by_cases hz : z = 2
   · obtain ⟨h3, e3, o3, k3⟩ := zCb (c := c) (fuel := fuel) (f := f) (cps := cps) (e + 3) (by omega) (by omega) (a := a) (b := b) (by omega) hb o2
     have b1 : b ≤ d1.size := by rw [P1.1, hsz]; exact hb
     rw [zan hz, e3, zsh (by omega) (by omega), subI y1 (by omega), subI (by omega) (by omega)]
     simp only [o_bd]
     exact A2 _ h3 x3 1 (b - 1 - (y - a)) (permIn_trans _ _ _ a b P1 (reverseRange_holds d1 a b hab b1)) (by omega) (by omega) ⟨o3, hs1.2.trans (k2.trans k3)⟩
   · rw [zah hz]
     simp only [o_bd]
     exact A2 d1 h2 x3 z y P1 y1 y2 ⟨o2, hs1.2.trans k2⟩
 cases wb with
 | true =>
   simp only [Bool.not_true, cond_false, o_bd]
   exact A1 d h x3 (permIn_refl _ _ _) ⟨ho, zcs.refl _ _⟩
 | false =>
   obtain ⟨e, he⟩ : ∃ e, dd = e + 4 := ⟨dd - 4, by omega⟩
   obtain ⟨h1, d1, e1, p1, s1⟩ := zCD (c := c) (fuel := fuel) (f := f) (cps := cps) e hn (by omega) hab hb ho
   simp only [Bool.not_false, cond_true]
   rw [← he] at e1
   rw [e1]
   simp only [o_bd]
   exact A1 d1 h1 _ p1 s1
theorem zvo (hS : SWO (ltO ord)) (hc : zqN fuel f cps ord D) (hn : n < 1000000000) (hf : n + 5 < fuel) {e : Nat} (he : D + 40 ≤ e) (ho : Own h 1 id gen n (zaS d.toList)) :
   ∃ (h' : AH) (d' : Array Int), run fuel e zen [.slice (.mk ⟨id, gen, 0⟩ n c), .func f cps] h = some (.tup [], h') ∧ d'.toList.Perm d.toList ∧ SortedIn (ltO ord) 0 n d' ∧ Srt h h' id gen n d' := by
 have hsz := znG ho
 have hbl : bitsLen n ≤ 30 := (bitsLen_le_iff n 30).2 (by omega)
 obtain ⟨e, rfl⟩ : ∃ e', e = e' + 3 := ⟨e - 3, by omega⟩
 obtain ⟨h1, d1, e1, p1, s1, t1⟩ := zA7 (c := c) hS hc hn hf n 0 n fuel (e + 1) (bitsLen n : Int) true true d h (by omega) (by omega) (by omega) (by omega) (by simp only [Nat.sub_zero]; omega) (.inl rfl) ho
 refine ⟨h1, d1, ?_, ?_, s1, t1⟩
 · rw [zjh, zu1, zrl (by omega) (by omega), zyc fuel e (by omega)]
   simp only [o_bd, zam]
   rw [zem, show (0 : Int) = ((0 : Nat) : Int) from rfl, e1]
   simp only [o_bd, zdf]
 · have := p1.2.2
   have h2 : d1.size = n := by rw [p1.1, hsz]
   have e1 : d1.extract 0 n = d1 := by rw [← h2]; exact Array.extract_size
   have e2 : d.extract 0 n = d := by rw [← hsz]; exact Array.extract_size
   rwa [e1, e2] at this
end
end Go.Proofs.YtdmbfmgebgdfnaaDoor
namespace Go.Proofs.YtdmbfmgebgdfnaaDoor
open Go.RowKit Go.Sort
def ltL (x y : Int) : Bool := decide (varI x < varI y) || (decide (varI x = varI y) && decide (x < y))
theorem zuY {x y : Int} : ltL x y = true ↔ varI x < varI y ∨ (varI x = varI y ∧ x < y) := by simp [ltL]
theorem zpr (x : Int) : ltL x x = false := by simp [ltL]
theorem zsj {x y z : Int} (h1 : ltL x y = true) (h2 : ltL y z = true) : ltL x z = true := by rw [zuY] at *; omega
theorem zws {x y : Int} (h1 : ltL x y = false) (h2 : ltL y x = false) : x = y := by
 rw [← Bool.not_eq_true, zuY] at h1 h2; omega
theorem zx9 {x y : Int} (h1 : ltL x y = true) : ltL y x = false := by
 cases h : ltL y x with
 | false => rfl
 | true => have := zsj h1 h; rw [zpr] at this; cases this
theorem zB6 : SWO ltL where
 irrefl := zpr
 trans := fun x y z h1 h2 => zsj h1 h2
 ntrans := fun x y z h1 h2 => by
   rw [← Bool.not_eq_true, zuY] at *; omega
def insO (x : Int) : List Int → List Int
 | [] => [x]
 | y :: l => if x = y then y :: l else if ltL x y = true then x :: y :: l else y :: insO x l
def zeF (l : List Int) : List Int := l.foldr insO []
def zni (l : List Int) : Prop := l.Pairwise fun a b => ltL a b = true
theorem zsK {x z : Int} : ∀ {l : List Int}, z ∈ insO x l ↔ z = x ∨ z ∈ l
 | [] => by simp [insO]
 | y :: l => by
   unfold insO
   split
   · rename_i h; subst h; simp
   · split
     · simp
     · simp only [List.mem_cons, zsK (l := l)]
       constructor
       · rintro (h | h | h) <;> simp [h]
       · rintro (h | h | h) <;> simp [h]
theorem zjN {z : Int} : ∀ {l : List Int}, z ∈ zeF l ↔ z ∈ l
 | [] => by simp [zeF]
 | x :: l => by
   show z ∈ insO x (zeF l) ↔ _
   rw [zsK, zjN (l := l), List.mem_cons]
theorem zrA {x : Int} : ∀ {l : List Int}, zni l → zni (insO x l)
 | [], _ => by simp [insO, zni]
 | y :: l, h => by
   have h' := List.pairwise_cons.1 h
   unfold insO
   split
   · exact h
   · rename_i hxy
     split
     · rename_i hlt
       exact List.pairwise_cons.2 ⟨fun z hz => by
         rcases List.mem_cons.1 hz with rfl | hz
         · exact hlt
         · exact zsj hlt (h'.1 z hz), h⟩
     · rename_i hlt
       refine List.pairwise_cons.2 ⟨fun z hz => ?_, zrA h'.2⟩
       rcases zsK.1 hz with rfl | hz
       · cases hc : ltL y z with
         | true => rfl
         | false => exact absurd (zws (by simpa using hlt) hc) hxy
       · exact h'.1 z hz
theorem zjR : ∀ (l : List Int), zni (zeF l)
 | [] => by simp [zeF, zni]
 | x :: l => zrA (zjR l)
theorem zmy : ∀ {a b : List Int}, zni a → zni b → (∀ x, x ∈ a ↔ x ∈ b) → a = b
 | [], [], _, _, _ => rfl
 | [], y :: b, _, _, h => by have := (h y).2 (List.mem_cons_self ..); cases this
 | x :: a, [], _, _, h => by have := (h x).1 (List.mem_cons_self ..); cases this
 | x :: a, y :: b, ha, hb, h => by
   have ha' := List.pairwise_cons.1 ha
   have hb' := List.pairwise_cons.1 hb
   have e : x = y := by
     rcases List.mem_cons.1 ((h x).1 (List.mem_cons_self ..)) with e | h1
     · exact e
     · rcases List.mem_cons.1 ((h y).2 (List.mem_cons_self ..)) with e | h2
       · exact e.symm
       · have := zx9 (hb'.1 x h1)
         rw [ha'.1 y h2] at this
         cases this
   subst e
   congr 1
   refine zmy ha'.2 hb'.2 fun z => ?_
   have hz := h z
   simp only [List.mem_cons] at hz
   constructor
   · intro hm
     rcases hz.1 (.inr hm) with e | h1
     · subst e; have := ha'.1 z hm; rw [zpr] at this; cases this
     · exact h1
   · intro hm
     rcases hz.2 (.inr hm) with e | h1
     · subst e; have := hb'.1 z hm; rw [zpr] at this; cases this
     · exact h1
theorem ztp {a : List Int} (h : zni a) : zeF a = a :=
 zmy (zjR a) h fun x => zjN
theorem zsI (l : List Int) : zeF (zeF l) = zeF l := ztp (zjR l)
theorem zrB (x : Int) : ∀ l : List Int, (insO x l).length ≤ l.length + 1
 | [] => by simp [insO]
 | y :: l => by
   unfold insO
   split
   · simp
   · split
     · simp
     · have := zrB x l; simp; omega
theorem zle : ∀ l : List Int, (zeF l).length ≤ l.length
 | [] => by simp [zeF]
 | x :: l => by
   have h1 := zrB x (zeF l)
   have h2 := zle l
   show (insO x (zeF l)).length ≤ _
   simp only [List.length_cons]; omega
def zwg : List Int → Bool
 | [] => true
 | [_] => true
 | a :: b :: r => !decide (varI b = varI a) && zwg (b :: r)
def cmpI (a b : Int) : Int := bif decide (a < b) then -1 else bif decide (b < a) then 1 else 0
def ordL (x y : Int) : Int := bif decide (cmpI (varI x) (varI y) = 0) then cmpI x y else cmpI (varI x) (varI y)
theorem zAD {a b : Int} (h : a < b) : cmpI a b = -1 := by unfold cmpI; rw [zan h]
theorem zAE {a b : Int} (h : b < a) : cmpI a b = 1 := by unfold cmpI; rw [zah (by omega), zan h]
theorem zwL (a : Int) : cmpI a a = 0 := by unfold cmpI; rw [zah (by omega), zah (by omega)]
theorem zx8 : ltO ordL = ltL := by
 funext x y
 unfold ltO ordL
 rcases Int.lt_trichotomy (varI x) (varI y) with h | h | h
 · rw [zAD h, zah (by omega)]; simp [ltL, h]
 · rw [h, zwL, zan rfl]
   rcases Int.lt_trichotomy x y with h2 | h2 | h2
   · rw [zAD h2]; simp [ltL, h, h2]
   · subst h2; rw [zwL]; simp [ltL]
   · rw [zAE h2]
     have : ¬ x < y := by omega
     simp [ltL, h, this]
 · rw [zAE h, zah (by omega)]
   have h1 : ¬ varI x < varI y := by omega
   have h2 : ¬ varI x = varI y := by omega
   simp [ltL, h1, h2]
end Go.Proofs.YtdmbfmgebgdfnaaDoor
namespace Go.Proofs.YtdmbfmgebgdfnaaDoor
open Go.RowKit
theorem zvG {h : AH} {r : Ref} {n m : Nat} {c : Bool} {cs us : List AV} (hs : h.sliceCells 1 (.mk r n c) = some cs) (hm : cs.mapM (zap h m) = some us) : zap h (m + 1) (.slice (.mk r n c)) = some (.slice (.lst n false us)) := by
 by_cases h0 : n = 0
 · subst h0
   simp [AH.sliceCells] at hs
   subst hs
   simp at hm
   subst hm
   simp [zap]
 · obtain ⟨row, h1, h2, h3, h4, h5, rfl⟩ := zgb hs h0
   have hs2 : h.sliceCells row.sz (.mk r n false) = some ((row.cells.drop r.off).take (n * 1)) := by rw [h2]; exact zfs h1 h2 h3 h4 h5
   simp only [zap, zll, decide_eq_false h0, cond_false, h1, hs2, o_bd, hm, Option.map_some]
theorem zkL.freezeI {h : AH} {s : Sl} {l : List Int} (hg : zkL h 1 s (zaS l)) : zap h 8 (.slice s) = some (.slice (lstI l)) := by
 rw [hg.freeze (n := 7) (by omega) (zoE 6 _)]
 have := hg.len
 simp only [List.length_map, Nat.mul_one] at this
 rw [← this]
theorem Own.freezeI {h : AH} {id gen n : Nat} {c : Bool} {l : List Int} (ho : Own h 1 id gen n (zaS l)) : zap h 8 (.slice (.mk ⟨id, gen, 0⟩ n c)) = some (.slice (lstI l)) := by
 rw [ho.freeze (n := 7) c (zoE 6 _)]
 have := ho.len
 simp only [List.length_map, Nat.mul_one] at this
 rw [← this]
theorem Sep0.tl {h0 h : AH} {c : zcJ} {L : List zcJ} (hs : Sep0 h0 h (c :: L)) : Sep0 h0 h L :=
 ⟨⟨fun x hx => hs.sep.all x (List.mem_cons_of_mem _ hx), (List.pairwise_cons.1 hs.sep.far).2⟩, hs.ext, fun x hx => hs.fresh x (List.mem_cons_of_mem _ hx)⟩
theorem zkL.cutS {h : AH} {s : Sl} {l : List Int} (hg : zkL h 1 s (zaS l)) {lo hi : Nat} (h1 : lo ≤ hi) (h2 : hi ≤ l.length) (c : Bool) : h.sliceCells 1 (s.cut 1 lo hi c) = some (zaS ((l.drop lo).take (hi - lo))) := by
 generalize hcs : zaS l = cs at hg
 have small : hi = 0 → l = [] → h.sliceCells 1 (s.cut 1 lo hi c) = some [] → h.sliceCells 1 (s.cut 1 lo hi c) = some (zaS ((l.drop lo).take (hi - lo))) := by
   intro e1 e2 e3
   rw [e3, e2]
   simp
 cases hg with
 | nil =>
   have : l = [] := by simpa using hcs
   exact small (by subst this; simpa using h2) this rfl
 | none =>
   have e : l = [] := by simpa using hcs
   have e0 : hi = 0 := by subst e; simpa using h2
   refine small e0 e ?_
   subst e0
   obtain rfl : lo = 0 := by omega
   rfl
 | room =>
   have e : l = [] := by simpa using hcs
   have e0 : hi = 0 := by subst e; simpa using h2
   refine small e0 e ?_
   subst e0
   obtain rfl : lo = 0 := by omega
   rfl
 | @row id gen n cs row q1 q2 q3 q4 q5 q6 q7 =>
   have hs : h.sliceCells 1 (.mk ⟨id, gen, lo⟩ (hi - lo) (c || (false && Nat.beq hi n))) = some (zaS ((l.drop lo).take (hi - lo))) := by
     have := zfs (r := ⟨id, gen, lo⟩) (n := hi - lo) (c := (c || (false && Nat.beq hi n))) q1 q7 q5 (by rw [q4]; exact Nat.le_refl _) (by simp only; rw [q2, ← hcs]; simp; omega)
     rw [this, q2, ← hcs]
     simp
   have e : Sl.cut (.mk ⟨id, gen, 0⟩ n false) 1 lo hi c = .mk ⟨id, gen, lo⟩ (hi - lo) (c || (false && Nat.beq hi n)) := by simp only [Sl.cut, Nat.mul_one, Nat.zero_add]
   rw [e, hs]
 | @full id gen n cs row q0 q1 q2 q3 q4 q5 q6 q7 =>
   have hs : h.sliceCells 1 (.mk ⟨id, gen, lo⟩ (hi - lo) (c || (true && Nat.beq hi n))) = some (zaS ((l.drop lo).take (hi - lo))) := by
     have := zfs (r := ⟨id, gen, lo⟩) (n := hi - lo) (c := (c || (true && Nat.beq hi n))) q1 q7 q5 (by rw [q4]; exact Nat.le_refl _) (by simp only; rw [q2, ← hcs]; simp; omega)
     rw [this, q2, ← hcs]
     simp
   have e : Sl.cut (.mk ⟨id, gen, 0⟩ n true) 1 lo hi c = .mk ⟨id, gen, lo⟩ (hi - lo) (c || (true && Nat.beq hi n)) := by simp only [Sl.cut, Nat.mul_one, Nat.zero_add]
   rw [e, hs]
theorem zAA {s : Sl} {lo hi : Nat} {c : Bool} (h : s = .nil → hi ≤ lo) : (s.cut 1 lo hi c).len = hi - lo := by
 cases s with
 | nil => have := h rfl; simp [Sl.cut, Sl.len]; omega
 | mk r n c => rfl
 | lst n c cs => rfl
end Go.Proofs.YtdmbfmgebgdfnaaDoor
namespace Go.Proofs.YtdmbfmgebgdfnaaDoor
open Go.RowKit Go.Sort
section
variable {fuel : Nat} {h : AH} {id gen n : Nat} {c : Bool} {d : Array Int}
theorem Own.cellsFrom {cs : List AV} (ho : Own h 1 id gen n cs) {off k : Nat} (hk : off + k ≤ n) (c : Bool) : h.sliceCells 1 (.mk ⟨id, gen, off⟩ k c) = some ((cs.drop off).take k) := by
 obtain ⟨⟨row, h1, rfl, rfl, h4, h5, h6⟩, hlen⟩ := ho
 have := zfs (r := ⟨id, row.gen, off⟩) (n := k) (c := c) h1 h6 h4 (Nat.le_refl _) (by simp only; omega)
 rwa [Nat.mul_one] at this
theorem rdK2 (ho : Own h 1 id gen n (zaS d.toList)) {off k i : Nat} (hk : off + k ≤ n) (hi : i < k) {β : Type} (K : Int → Option β) :
   ((h.addr 1 (.mk ⟨id, gen, off⟩ k c) (i : Int)).bind fun p => (h.cell p).bind fun u => (AV.int? .i64 u).bind K) = K d[off + i]! := by
 have hs := ho.cellsFrom hk c
 have hsz := znG ho
 have hd : off + i < d.size := by omega
 rw [znh hs (by omega) (by simp [Sl.len]; omega), o_bd, zrU hs (v := .int .i64 d[off + i]!) (by omega) (by
   rw [Int.toNat_natCast, List.getElem?_take, if_pos hi, List.getElem?_drop, List.getElem?_map, Array.getElem?_toList, Array.getElem?_eq_getElem hd, getElem!_pos d _ hd]; rfl), o_bd, zam, o_bd]
theorem wrK (ho : Own h 1 id gen n (zaS d.toList)) {i : Nat} (hi : i < n) (x : Int) : ∃ h', Own h' 1 id gen n (zaS (d.setIfInBounds i x).toList) ∧ zcs h h' (· = id) ∧ ∀ {β : Type} (K : AH → Option β),
   ((h.addr 1 (.mk ⟨id, gen, 0⟩ n c) (i : Int)).bind fun p => (h.storeAt [.int .i64 x] p).bind K) = K h' := by
 obtain ⟨a1, h1, e1, o1, k1, _⟩ := ho.intsStore (j := (i : Int)) (by omega) (by omega) c x
 refine ⟨h1, ?_, k1, fun K => by rw [a1, o_bd, e1, o_bd]⟩
 rw [Array.toList_setIfInBounds]
 exact o1
theorem Own.clear {cs : List AV} (ho : Own h 1 id gen n cs) {off k : Nat} {c : Bool} (z : AV) (hl : off + k ≤ n) :
   ∃ h', h.clear false [z] 1 (.mk ⟨id, gen, off⟩ k c) = some h' ∧ Own h' 1 id gen n (cs.take off ++ List.replicate k z ++ cs.drop (off + k)) ∧ zcs h h' (· = id) ∧ h'.rows.length = h.rows.length := by
 by_cases h0 : k = 0
 · subst h0
   exact ⟨h, by simp [AH.clear, Sl.len], by simpa using ho, zcs.refl _ _, rfl⟩
 · obtain ⟨⟨row, h1, rfl, rfl, h4, h5, h6⟩, hlen⟩ := ho
   rw [Nat.mul_one] at hlen
   have hlt := (List.getElem?_eq_some_iff.1 h1).1
   have hle : off + k ≤ row.cells.length := by omega
   refine ⟨h.setRow id { row with cells := AH.overlay row.cells off (List.replicate k z), valid := row.gen }, ?_, ⟨⟨{ row with cells := AH.overlay row.cells off (List.replicate k z), valid := row.gen }, ?_, ?_, rfl, Nat.le_refl _, h5, h6⟩, ?_⟩, zcs.setRow _ _ _, by simp [AH.setRow]⟩
   · simp only [AH.clear, Sl.len, zll, h0, decide_false, cond_false, h1, h6, decide_true, cond_true, AH.store, h5, Bool.not_false, zpn, List.length_replicate, ble_eq, hle, Bool.and_self]
   · simp only [AH.setRow]
     exact List.getElem?_set_self hlt
   · simp only [AH.overlay, List.length_replicate]
   · simp; omega
open Go.Lib in
theorem zzN (e : Nat) (hn : n < 1000000000) {k0 : Nat} (hk0 : 1 ≤ k0) (hk1 : k0 < n) (d0 : Array Int) : ∀ (g k m q : Nat) (dk : Array Int) (h : AH), q + g = n → g < m → Own h 1 id gen n (zaS dk.toList) → CompInv d0 q k dk → k0 < q →
   ∃ (h' : AH) (dk' : Array Int) (k' : Nat), zbb fuel e m [(0, .slice (.mk ⟨id, gen, 0⟩ n c)), (3, .int .i64 (k : Int)), (4, .slice (.mk ⟨id, gen, k0⟩ (n - k0) c)), (5, .int .i64 ((q - k0 : Nat) : Int))] h = some (.exit 2, [(0, .slice (.mk ⟨id, gen, 0⟩ n c)), (3, .int .i64 (k' : Int))], h') ∧
     Own h' 1 id gen n (zaS dk'.toList) ∧ CompInv d0 n k' dk' ∧ zcs h h' (· = id) := by
 intro g
 induction g with
 | zero =>
   intro k m q dk h hq hm ho hC hq0
   obtain ⟨m, rfl⟩ : ∃ m', m = m' + 1 := ⟨m - 1, by omega⟩
   obtain rfl : q = n := by omega
   rw [zhz, zu1, zah (by omega)]
   exact ⟨h, dk, k, rfl, ho, hC, zcs.refl _ _⟩
 | succ g ih =>
   intro k m q dk h hq hm ho hC hq0
   obtain ⟨m, rfl⟩ : ∃ m', m = m' + 1 := ⟨m - 1, by omega⟩
   have hs := znG ho
   have hs0 : d0.size = n := by rw [← hC.size]; exact hs
   have hlt := hC.lt
   have e1 : dk[q]! = d0[q]! := hC.high q (by omega)
   have e2 : dk[q - 1]! = d0[q - 1]! := hC.high (q - 1) (by omega)
   rw [zhz, zu1, zan (by omega), rdK2 (off := k0) (k := n - k0) ho (by omega) (by omega), zsh (by omega) (by omega), rdK2 (off := k0) (k := n - k0) (i := q - k0 - 1) ho (by omega) (by omega), show k0 + (q - k0) = q by omega, show k0 + (q - k0 - 1) = q - 1 by omega, e1, e2]
   by_cases he : d0[q]! = d0[q - 1]!
   · rw [zng he, sucI (by omega), show q - k0 + 1 = q + 1 - k0 by omega]
     exact ih k m (q + 1) dk h (by omega) (by omega) ho (hC.skip (keeps_neg (by omega) he)) (by omega)
   · obtain ⟨h2, o2, k2, w2⟩ := wrK (c := c) ho (i := k) (by omega) d0[q]!
     rw [zn2 he, rdK2 (off := k0) (k := n - k0) ho (by omega) (by omega), show k0 + (q - k0) = q by omega, e1, w2, sucI (by omega), sucI (by omega), show q - k0 + 1 = q + 1 - k0 by omega]
     obtain ⟨h', dk', k', q1, q2, q3, q4⟩ := ih (k + 1) m (q + 1) _ h2 (by omega) (by omega) o2 (hC.keep (by omega) (keeps_pos he)) (by omega)
     exact ⟨h', dk', k', q1, q2, q3, k2.trans q4⟩
open Go.Lib in
theorem zzO (e : Nat) (hn : n < 1000000000) (hf : n < fuel) (ho : Own h 1 id gen n (zaS d.toList)) : ∀ (g k m : Nat), k + g = n → g < m → 1 ≤ k → (∀ j, j < k → keeps d j = true) →
   ∃ (h' : AH) (k' : Nat) (c' : Bool), ((zbu fuel e m [(0, .slice (.mk ⟨id, gen, 0⟩ n c)), (3, .int .i64 (k : Int))] h).bind fun p => zbd fuel e p.1 p.2.1 p.2.2) = some (.slice (.mk ⟨id, gen, 0⟩ k' c'), h') ∧
     h'.sliceCells 1 (.mk ⟨id, gen, 0⟩ k' c') = some (zaS (compact d.toList)) ∧ k' = (compact d.toList).length ∧ zcs h h' (· = id) := by
 have hsz := znG ho
 have hcd : compact d.toList = compactUpTo d n := by unfold compact; simp [hsz]
 intro g
 induction g with
 | zero =>
   intro k m hk hm h1 hall
   obtain ⟨m, rfl⟩ : ∃ m', m = m' + 1 := ⟨m - 1, by omega⟩
   obtain rfl : k = n := by omega
   have e9 : compact d.toList = d.toList := by rw [hcd, compactUpTo_all d _ hall, ← hsz, range_map_get]
   rw [zhB, zu1, zah (by omega)]
   simp only [o_bd, zlK]
   refine ⟨h, k, c, rfl, ?_, by rw [e9]; simpa using hsz.symm, zcs.refl _ _⟩
   rw [e9]
   exact ho.cells c
 | succ g ih =>
   intro k m hk hm h1 hall
   obtain ⟨m, rfl⟩ : ∃ m', m = m' + 1 := ⟨m - 1, by omega⟩
   rw [zhB, zu1, zan (by omega), rdK ho (by omega), zsh (by omega) (by omega), rdK ho (by omega)]
   by_cases he : d[k]! = d[k - 1]!
   · rw [zan he, zrN, o_bd, zrM (by omega) (by omega), o_bd, zmh, o_bd, ho.hasSz c, cond_true, Int.toNat_natCast]
     have ec : Sl.cut (.mk ⟨id, gen, 0⟩ n c) 1 k n false = .mk ⟨id, gen, k⟩ (n - k) c := by simp [Sl.cut]
     rw [ec]
     have hC := CompInv.start hall (keeps_neg (by omega) he)
     obtain ⟨h2, dk, k2, q1, o2, q3, kk2⟩ := zzN (c := c) (fuel := fuel) e hn h1 (by omega) d (n - (k + 1)) k fuel (k + 1) d h (by omega) (by omega) ho hC (by omega)
     rw [show k + 1 - k = 1 by omega] at q1
     rw [show ((1 : Nat) : Int) = 1 from rfl] at q1
     rw [q1]
     simp only [o_bd, zlJ]
     have hlt := q3.lt
     rw [zu1, zrN, o_bd, zrM (by omega) (by omega), o_bd, zmh, o_bd, o2.hasSz c, cond_true, Int.toNat_natCast]
     have ec2 : Sl.cut (.mk ⟨id, gen, 0⟩ n c) 1 k2 n false = .mk ⟨id, gen, k2⟩ (n - k2) c := by simp [Sl.cut]
     obtain ⟨h3, e3, o3, k3, _⟩ := o2.clear (off := k2) (k := n - k2) (c := c) (.int .i64 0) (by omega)
     rw [ec2, e3, o_bd, zqJ (by omega) (by omega), o_bd, zqI, o_bd, zmh, o_bd, o3.hasSz c, cond_true, Int.toNat_natCast]
     simp only [o_bd, zma]
     have ec3 : Sl.cut (.mk ⟨id, gen, 0⟩ n c) 1 0 k2 false = .mk ⟨id, gen, 0⟩ k2 (c && Nat.beq k2 n) := by simp [Sl.cut]
     rw [ec3]
     have hl : (compact d.toList).length = k2 := by rw [hcd]; exact q3.len
     refine ⟨h3, k2, _, rfl, ?_, hl.symm, kk2.trans k3⟩
     rw [o3.cellsFrom (off := 0) (k := k2) (by omega), List.drop_zero, List.take_append_of_le_length (by simp; have := o2.len; simp at this; omega), List.take_append_of_le_length (by simp; have := o2.len; simp at this; omega), List.take_take, Nat.min_self]
     congr 1
     rw [← List.map_take, hcd]
     congr 1
     apply List.ext_getElem?
     intro j
     rw [List.getElem?_take]
     by_cases hj : j < k2
     · have hj2 : j < dk.size := by have := q3.size; omega
       rw [if_pos hj, q3.low j hj, Array.getElem?_toList, Array.getElem?_eq_getElem hj2, getElem!_pos dk j hj2]
     · rw [if_neg hj, List.getElem?_eq_none (by rw [q3.len]; omega)]
   · rw [zah he, sucI (by omega)]
     exact ih (k + 1) m (by omega) (by omega) (by omega) fun j hj => by
       by_cases e : j = k
       · subst e; exact keeps_pos he
       · exact hall j (by omega)
open Go.Lib in
theorem zxo (e : Nat) (hn : n < 1000000000) (hf : n < fuel) (ho : Own h 1 id gen n (zaS d.toList)) :
   ∃ (h' : AH) (k' : Nat) (c' : Bool), run fuel (e + 1) zaM [.slice (.mk ⟨id, gen, 0⟩ n c)] h = some (.slice (.mk ⟨id, gen, 0⟩ k' c'), h') ∧
     h'.sliceCells 1 (.mk ⟨id, gen, 0⟩ k' c') = some (zaS (compact d.toList)) ∧ k' = (compact d.toList).length ∧ zcs h h' (· = id) := by
 have hsz := znG ho
 rw [zjI, zu1]
 by_cases h2 : n < 2
 · have hcd : compact d.toList = compactUpTo d n := by unfold compact; simp [hsz]
   have e9 : compact d.toList = d.toList := by rw [hcd, compactUpTo_all d _ (fun j hj => keeps_lt_one' d j (by omega)), ← hsz, range_map_get]
   rw [zan (by omega)]
   refine ⟨h, n, c, rfl, ?_, by rw [e9]; simpa using hsz.symm, zcs.refl _ _⟩
   rw [e9]
   exact ho.cells c
 · rw [zah (by omega)]
   exact zzO (c := c) e hn hf ho (n - 1) 1 fuel (by omega) (by omega) (by omega) (keeps_lt_one d)
where keeps_lt_one' (d : Array Int) (j : Nat) (h : j < 1) : Go.Lib.keeps d j = true := Go.Lib.keeps_lt_one d j h
theorem zyS {sz bytes n m : Nat} {cs xs : List AV} (hc : cs.length = n * sz) (hm : m ≠ 0) (hb : (n + m) * bytes ≤ 140737488355328) (hb' : n + m ≤ 140737488355328) :
   h.append false sz bytes (.lst n true cs) m xs = some (.mk ⟨h.next, 0, 0⟩ (n + m) false, h.push sz (cs ++ xs)) := zyR hc hm hb hb'
theorem zuy (fuel : Nat) {e : Nat} (he : 1 ≤ e) (l : Int) (h : AH) : run fuel e zlX [.int .i64 l] h = some (.int .i64 (varI l), h) := by
 obtain ⟨e, rfl⟩ : ∃ e', e = e' + 1 := ⟨e - 1, by omega⟩
 exact zAM fuel e l h
theorem zAn (e : Nat) (x : Int) (h : AH) : run fuel (e + 1) zlu [.int .i64 x] h = some (.bool false, h) :=
 zft rfl rfl (cc1 rfl) (by rw [ztw]) (by simp [zap, AV.closed])
theorem zxn (e : Nat) (x y : Int) (h : AH) : run fuel (e + 2) zjO [.int .i64 x, .int .i64 y] h = some (.int .i64 (cmpI x y), h) := by
 refine zft rfl rfl (cc2 rfl rfl) (r := .int .i64 (cmpI x y)) (h' := AH.none) ?_ rfl
 rw [zr8, zAn]
 simp only [o_bd, zaf, zAn, cond_false]
 unfold cmpI
 cases decide (x < y) <;> cases decide (y < x) <;> rfl
theorem zC0 (e : Nat) (hf : 3 < fuel) (x y : Int) (h : AH) : run fuel (e + 1) zlp [.slice (.lst 2 true [.int .i64 x, .int .i64 y])] h = some (.int .i64 (bif decide (x = 0) then y else x), h) := by
 refine zft rfl rfl (cc1 (zsu (n := 7) rfl)) (r := .int .i64 (bif decide (x = 0) then y else x)) (h' := AH.none) ?_ rfl
 obtain ⟨m, rfl⟩ : ∃ m, fuel = m + 3 := ⟨fuel - 3, by omega⟩
 have a0 : ∀ h : AH, h.addr 1 (.lst 2 false [.int .i64 x, .int .i64 y]) 0 = some (.fp 0 [.int .i64 x]) := fun h => rfl
 have a1 : ∀ h : AH, h.addr 1 (.lst 2 false [.int .i64 x, .int .i64 y]) 1 = some (.fp 0 [.int .i64 y]) := fun h => rfl
 rw [zvK, zl7, zeW, zan (by omega), a0, o_bd, zeG, o_bd, zam, o_bd]
 by_cases hx : x = 0
 · rw [zng hx, zan hx, zeo (by omega) (by omega), show (0 : Int) + 1 = 1 from rfl, zl7, zan (by omega), a1, o_bd, zeG, o_bd, zam, o_bd]
   by_cases hy : y = 0
   · rw [zng hy, zeo (by omega) (by omega), show (1 : Int) + 1 = 2 from rfl, zl7, zah (by omega)]
     simp only [o_bd, zr4, hy]
   · rw [zn2 hy]
     simp only [o_bd, zpG]
 · rw [zn2 hx, zah hx]
   simp only [o_bd, zpG]
theorem zzq (e : Nat) (hf : 3 < fuel) (x y : Int) (h : AH) : run fuel (e + 3) zi0 [.int .i64 x, .int .i64 y] h = some (.int .i64 (ordL x y), h) := by
 refine zft rfl rfl (cc2 rfl rfl) (r := .int .i64 (ordL x y)) (h' := AH.none) ?_ rfl
 rw [zvJ, zuy fuel (by omega)]
 simp only [o_bd, zam, zuy fuel (show 1 ≤ e + 2 by omega), zxn e]
 rw [zC0 (e + 1) hf]
 simp only [o_bd, zam]
 rfl
theorem zBb (hf : 3 < fuel) : zqN fuel zi0 [] ordL 3 := by
 intro e he x y h
 obtain ⟨e, rfl⟩ : ∃ e', e = e' + 3 := ⟨e - 3, by omega⟩
 exact zzq e hf x y h
theorem zze (e : Nat) {l : List Int} (hl : l.length < 1000000000) {h : AH} (he : 1 ≤ e) : ∀ (g k m : Nat), k + g = l.length → g < m → 1 ≤ k →
   ((zhE fuel e m [(4, .slice (lstI l)), (5, .int .i64 (k : Int))] h).bind fun p => zgz fuel e p.1 p.2.1 p.2.2) = some (.tup [.slice (lstI l), .bool (zwg (l.drop (k - 1)))], h) := by
 intro g
 induction g with
 | zero =>
   intro k m hk hm h1
   obtain ⟨m, rfl⟩ : ∃ m', m = m' + 1 := ⟨m - 1, by omega⟩
   rw [zm0, zeW, zah (by omega)]
   simp only [o_bd, zpF]
   have : (l.drop (k - 1)).length = 1 := by simp; omega
   obtain ⟨x, hx⟩ := List.length_eq_one_iff.1 this
   rw [hx]
   rfl
 | succ g ih =>
   intro k m hk hm h1
   obtain ⟨m, rfl⟩ : ∃ m', m = m' + 1 := ⟨m - 1, by omega⟩
   rw [zm0, zeW, zan (by omega), zcC _ (by omega) (by omega) 0, o_bd, zeG, o_bd, zam, o_bd, zuy fuel he]
   simp only [o_bd, zam]
   rw [zsh (by omega) (by omega), zcC _ (by omega) (by omega) 0]
   simp only [o_bd, zls, zeG, zam, zuy fuel he, Int.toNat_natCast]
   have e1 : l.drop (k - 1) = l.getD (k - 1) 0 :: l.drop k := by
     have h2 : k - 1 < l.length := by omega
     rw [List.drop_eq_getElem_cons h2, show k - 1 + 1 = k by omega]
     simp [List.getD, h2]
   have e2 : l.drop k = l.getD k 0 :: l.drop (k + 1) := by
     have h2 : k < l.length := by omega
     rw [List.drop_eq_getElem_cons h2]
     simp [List.getD, h2]
   rw [e1, e2]
   unfold zwg
   by_cases hv : varI (l.getD k 0) = varI (l.getD (k - 1) 0)
   · rw [zan hv, decide_eq_true hv]
     simp only [o_bd, ztq, Bool.not_true, Bool.false_and]
   · rw [zah hv, decide_eq_false hv, sucI (by omega), ih (k + 1) m (by omega) (by omega) (by omega)]
     simp only [Nat.add_sub_cancel, e2, Bool.not_false, Bool.true_and]
open Go.Lib in
theorem zvP {l : List Int} {d : Array Int} (hp : d.toList.Perm l) (hs : SortedIn (ltO ordL) 0 d.size d) : compact d.toList = zeF l := by
 have hcd : compact d.toList = compactUpTo d d.size := by unfold compact; simp
 rw [zx8] at hs
 have key : ∀ m, m ≤ d.size → zni (compactUpTo d m) ∧ (∀ x, x ∈ compactUpTo d m ↔ ∃ j, j < m ∧ d[j]! = x) ∧ (0 < m → ∃ y, (compactUpTo d m).getLast? = some y ∧ y = d[m - 1]!) := by
   intro m
   induction m with
   | zero => intro _; exact ⟨by simp [compactUpTo, zni], fun x => by simp [compactUpTo], fun h => absurd h (by omega)⟩
   | succ m ih =>
     intro hm
     obtain ⟨i1, i2, i3⟩ := ih (by omega)
     rw [compactUpTo_succ]
     have hmem : ∀ x, x ∈ compactUpTo d m → x = d[m - 1]! ∨ ltL x d[m - 1]! = true := by
       intro x hx
       obtain ⟨j, hj, rfl⟩ := (i2 x).1 hx
       by_cases e : j = m - 1
       · left; rw [e]
       · have := hs j (m - 1) (by omega) (by omega) (by omega)
         cases hc : ltL d[j]! d[m - 1]! with
         | true => exact .inr rfl
         | false => exact .inl (zws hc this)
     by_cases hk : keeps d m = true
     · rw [if_pos hk]
       have hlast : ∀ x, x ∈ compactUpTo d m → ltL x d[m]! = true := by
         intro x hx
         have hm0 : 0 < m := by
           obtain ⟨j, hj, _⟩ := (i2 x).1 hx; omega
         have hne : d[m]! ≠ d[m - 1]! := by
           have : m = 0 ∨ d[m]! ≠ d[m - 1]! := by simpa [keeps] using hk
           rcases this with h | h
           · omega
           · exact h
         have h1 : ltL d[m - 1]! d[m]! = true := by
           have := hs (m - 1) m (by omega) (by omega) (by omega)
           cases hc : ltL d[m - 1]! d[m]! with
           | true => rfl
           | false => exact absurd (zws hc this).symm hne
         rcases hmem x hx with e | e
         · rw [e]; exact h1
         · exact zsj e h1
       refine ⟨List.pairwise_append.2 ⟨i1, by simp, fun a ha b hb => ?_⟩, fun x => ?_, fun _ => ⟨d[m]!, by simp, by simp⟩⟩
       · simp at hb; subst hb; exact hlast a ha
       · rw [List.mem_append, i2]
         constructor
         · rintro (⟨j, h1, h2⟩ | h1)
           · exact ⟨j, by omega, h2⟩
           · simp at h1; exact ⟨m, by omega, h1.symm⟩
         · rintro ⟨j, h1, h2⟩
           by_cases e : j = m
           · subst e; right; simp [h2]
           · exact .inl ⟨j, by omega, h2⟩
     · rw [if_neg hk, List.append_nil]
       have hk' : ¬ (m = 0 ∨ d[m]! ≠ d[m - 1]!) := by simpa [keeps] using hk
       have hm0 : 0 < m := by omega
       have heq : d[m]! = d[m - 1]! := by
         by_cases e : d[m]! = d[m - 1]!
         · exact e
         · exact absurd (.inr e) hk'
       refine ⟨i1, fun x => ?_, fun _ => ?_⟩
       · rw [i2]
         constructor
         · rintro ⟨j, h1, h2⟩; exact ⟨j, by omega, h2⟩
         · rintro ⟨j, h1, h2⟩
           by_cases e : j = m
           · exact ⟨m - 1, by omega, by rw [← heq, ← e]; exact h2⟩
           · exact ⟨j, by omega, h2⟩
       · obtain ⟨y, h1, h2⟩ := i3 hm0
         exact ⟨y, h1, by rw [h2, ← heq, Nat.add_sub_cancel]⟩
 obtain ⟨k1, k2, _⟩ := key d.size (Nat.le_refl _)
 rw [hcd]
 refine zmy k1 (zjR l) fun x => ?_
 rw [k2, zjN, ← hp.mem_iff]
 constructor
 · rintro ⟨j, h1, rfl⟩
   rw [getElem!_pos d j h1]
   exact Array.getElem_mem_toList h1
 · intro hx
   obtain ⟨j, hj, rfl⟩ := List.mem_iff_getElem.1 hx
   have hj2 : j < d.size := by simpa using hj
   exact ⟨j, hj2, by rw [getElem!_pos d j hj2]; simp⟩
end
end Go.Proofs.YtdmbfmgebgdfnaaDoor
namespace Go.Proofs.YtdmbfmgebgdfnaaDoor
open Go.RowKit Go.Sort
section
variable {fuel : Nat} {h : AH}
theorem zyv (e : Nat) {a b : List Int} (hl : a.length = b.length) (hn : a.length < 1000000000) {h : AH} : ∀ (m k : Nat), a.length < m + k → k ≤ a.length → a.take k = b.take k →
   ((zbW fuel e m [(0, .slice (lstI a)), (1, .slice (lstI b)), (12, .int .i64 (a.length : Int)), (13, .int .i64 (k : Int))] h).bind fun p => zbq fuel e p.1 p.2.1 p.2.2) = some (.bool (decide (a = b)), h) := by
 intro m
 induction m with
 | zero => intro k h1 h2; omega
 | succ m ih =>
   intro k h1 h2 h3
   rw [zmz]
   by_cases hk : k < a.length
   · rw [zan (by omega), zcC _ (by omega) (by omega) 0, o_bd, zeG, o_bd, zam, o_bd, zcC _ (by omega) (by omega) 0, o_bd, zeG, o_bd, zam, o_bd]
     simp only [Int.toNat_natCast]
     by_cases he : a.getD k 0 = b.getD k 0
     · rw [zng he, sucI (by omega), ih (k + 1) (by omega) (by omega) (by rw [zia hk 0, zia (by omega) 0, h3, he])]
     · rw [zn2 he]
       simp only [o_bd, zm1]
       rw [decide_eq_false (fun h => he (by rw [h]))]
   · have : k = a.length := by omega
     subst this
     have : a = b := by rw [List.take_length, hl, List.take_length] at h3; exact h3
     rw [zah (by omega)]
     simp only [o_bd, zmB]
     rw [decide_eq_true this]
theorem zzI (e : Nat) {a b : List Int} (hn : a.length < 1000000000) (hf : a.length < fuel) (h : AH) : run fuel (e + 1) zc0 [.slice (lstI a), .slice (lstI b)] h = some (.bool (decide (a = b)), h) := by
 refine zft rfl rfl (cc2 (zrc 7 a) (zrc 7 b)) (r := .bool (decide (a = b))) (h' := AH.none) ?_ rfl
 rw [zoF, zeW, zeW]
 by_cases hl : a.length = b.length
 · rw [zng (by omega)]
   exact zyv e hl hn fuel 0 (by omega) (by omega) rfl
 · rw [zn2 (by omega), decide_eq_false (fun h => hl (by rw [h]))]
end
end Go.Proofs.YtdmbfmgebgdfnaaDoor
