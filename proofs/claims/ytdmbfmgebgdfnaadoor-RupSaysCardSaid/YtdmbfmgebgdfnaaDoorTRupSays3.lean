/-
 Parts of the proof of RupSays: Clauses that are chained; the search's answers told; skolemlaw21.first. rup.Closure told as a list and a truth value; the same where clauses are; more where there are more. The document's search (skolemref20.Closure), and that it says what the program's says. skolemref.Clauses: a row of its own; parts of slices that grow, in cells. The document's small functions on numbers: skolemref.SameInts, Has, Ints. The document's base (skolemref20.Base): right, Implied, Blocked, find, there; Add, Drop. skolemworld.Number. Literals out of numbers. skolemmake.Clauses, skolemmake.CNF; skolemref1.Of. Small things of a base's laws. slices.Grow of nil. slices.Concat in the heap. slices.DeleteFunc on a part of a row of one's own. rup: without, Blocked. The program's base and the document's: the same answers. No heap in sight. The document's base: Add, Drop. rup: find, Has, gone, Drop. rup: Drop. skolemmake.Clauses as a value. skolemsee: errors as plain data. skolemsee.Is.
-/
import Derived.Test.YtdmbfmgebgdfnaaDoorTRupSays2
import Derived.Test.YtdmbfmgebgdfnaaDoorE2
import Derived.Test.YtdmbfmgebgdfnaaDoorBm31
import Derived.Test.YtdmbfmgebgdfnaaDoorBm34
namespace Go.Proofs.YtdmbfmgebgdfnaaDoor
open Go.RowKit
theorem zsx (cc : List (List Int)) : zep (zrS cc) = cc.map zeF := by
 unfold zep zrS
 induction cc with
 | nil => rfl
 | cons c cc ih => rw [List.map_cons, List.map_cons, List.filterMap_cons]; simp [ih]
theorem zub {cl : zkQ} {c : List Int} : c ∈ zep cl ↔ ∃ i, atB cl i = some c := by
 unfold zep
 rw [List.mem_filterMap]
 constructor
 · rintro ⟨o, ho, rfl⟩
   obtain ⟨i, hi, e⟩ := List.mem_iff_getElem.1 ho
   refine ⟨i, ?_⟩
   unfold atB
   rw [List.getD_eq_getElem?_getD, List.getElem?_eq_getElem hi]
   exact e
 · rintro ⟨i, hi⟩
   exact ⟨some c, (ztj hi).1, rfl⟩
theorem zwr {cl : zkQ} {p : List Int → Bool} {c : List Int} : c ∈ byC cl (idsP p cl) ↔ c ∈ zep cl ∧ p c = true := by
 unfold byC
 rw [List.mem_map]
 constructor
 · rintro ⟨i, hi, rfl⟩
   obtain ⟨l, h1, h2⟩ := ztJ.1 hi
   rw [h1, Option.getD_some]
   exact ⟨zub.2 ⟨i, h1⟩, h2⟩
 · rintro ⟨h1, h2⟩
   obtain ⟨i, hi⟩ := zub.1 h1
   exact ⟨i, ztJ.2 ⟨c, hi, h2⟩, by rw [hi]; rfl⟩
section
variable {n : Nat} {cl : zkQ}
theorem zzR (hb : ∀ l, some l ∈ cl → zeF l = l ∧ ∀ x ∈ l, zjg x n = true) {S : List Int} (hS : ∀ l ∈ S, zjg l n = true) : match zr9 (byF cl) (byC cl (idsP zkb cl)) n (n + 2) S with
   | none => Cfl (zep cl) S
   | some v => zxy (zep cl) S (some (zgB v)) ∧ v.length = n + 1 ∧ (∀ x ∈ v, x = 0 ∨ x = 1 ∨ x = 2) ∧ v.getD 0 0 = 0 := by
 have hm : ∀ c ∈ zep cl, some c ∈ cl := fun c hc => by
   obtain ⟨i, hi⟩ := zub.1 hc
   exact (ztj hi).1
 refine zzQ (C := zep cl) (fun x c => ?_) (fun c => ?_) (fun c hc => ?_) (fun c hc => (hb c (hm c hc)).2) hS (by omega)
 · unfold byF
   rw [zwr]
   unfold hasP
   simp
 · rw [zwr]
   unfold zkb
   simp
 · rw [← (hb c (hm c hc)).1]
   exact zru c
theorem zst (hb : ∀ l, some l ∈ cl → zeF l = l ∧ ∀ x ∈ l, zjg x n = true) {S : List Int} (hS : ∀ l ∈ S, zjg l n = true) :
   (zr9 (byF cl) (byC cl (idsP zkb cl)) n (n + 2) S = none ∧ Cfl (zep cl) S) ∨
   ∃ v, zr9 (byF cl) (byC cl (idsP zkb cl)) n (n + 2) S = some v ∧ zxy (zep cl) S (some (zgB v)) ∧ zpw v = zxg (zgB v) n := by
 have := zzR hb hS
 cases hv : zr9 (byF cl) (byC cl (idsP zkb cl)) n (n + 2) S with
 | none => rw [hv] at this; exact .inl ⟨rfl, this⟩
 | some v =>
   rw [hv] at this
   obtain ⟨h1, h2, h3, h4⟩ := this
   exact .inr ⟨v, rfl, h1, zwy h3 h4 h2⟩
theorem zzz (hb : ∀ l, some l ∈ cl → zeF l = l ∧ ∀ x ∈ l, zjg x n = true) {c : List Int} (hc : zfF n c = true) : zwB n cl c = true ↔ Imp (zep cl) c := by
 unfold zwB Imp
 have hS : ∀ l ∈ c.map (fun l => -l), zjg l n = true := fun l hl => by
   obtain ⟨x, hx, rfl⟩ := List.mem_map.1 hl
   rw [zsm]
   exact List.all_eq_true.1 hc x hx
 rw [hc, Bool.true_and]
 rcases zst hb hS with ⟨e, h⟩ | ⟨v, e, h, _⟩
 · rw [e]
   exact ⟨fun _ => h, fun _ => rfl⟩
 · rw [e]
   refine ⟨(fun h => by cases h), fun hcf => absurd hcf ?_⟩
   exact h.2
theorem zua {cc : List (List Int)} (h : okCC n cc = true) : ∀ l, some l ∈ zrS cc → zeF l = l ∧ ∀ x ∈ l, zjg x n = true := fun l hl => by
 obtain ⟨c, hc, e⟩ := List.mem_map.1 hl
 cases e
 exact ⟨zsI c, zry (List.all_eq_true.1 h c hc)⟩
theorem zpi (cc : List (List Int)) : ∀ c ∈ cc, ∃ c' ∈ zep (zrS cc), ∀ l, l ∈ c' ↔ l ∈ c := fun c hc =>
 ⟨zeF c, by rw [zsx]; exact List.mem_map_of_mem hc, fun l => zjN⟩
theorem zph (cc : List (List Int)) : ∀ c ∈ zep (zrS cc), ∃ c' ∈ cc, ∀ l, l ∈ c' ↔ l ∈ c := fun c hc => by
 rw [zsx] at hc
 obtain ⟨d, hd, rfl⟩ := List.mem_map.1 hc
 exact ⟨d, hd, fun l => zjN.symm⟩
theorem zw3 {cc : List (List Int)} {S : List Int} {T : Int → Bool} (hok : okCC n cc = true) (hS : zfF n S = true) (h : zxy cc S (some T)) : zpX n cc S = some (zxg T n) := by
 unfold zpX
 rw [if_pos ⟨hok, hS⟩]
 rcases zst (zua hok) (fun l hl => List.all_eq_true.1 hS l hl) with ⟨e, hc⟩ | ⟨v, e, hc, hk⟩
 · have := zq1 (r' := none) h hc (zpi cc) (zph cc) (fun l => Iff.rfl)
   cases this
 · have := zq1 h hc (zpi cc) (zph cc) (fun l => Iff.rfl)
   rw [e, Option.map_some, hk, Option.some.inj this]
theorem zw4 {cc : List (List Int)} {S : List Int} (hok : okCC n cc = true) (hS : zfF n S = true) (h : Cfl cc S) : zpX n cc S = none := by
 unfold zpX
 rw [if_pos ⟨hok, hS⟩]
 rcases zst (zua hok) (fun l hl => List.all_eq_true.1 hS l hl) with ⟨e, hc⟩ | ⟨v, e, hc, hk⟩
 · rw [e]; rfl
 · have := zq1 (r := none) h hc (zpi cc) (zph cc) (fun l => Iff.rfl)
   cases this
end
theorem zwR {h0 h : AH} {b c : Bs} {n m lo : Nat} {cl dl : zkQ} {R : List zcJ} (hs : Sep0 h0 h (bAll lo c m dl (bAll lo b n cl R))) : Sep0 h0 h (bAll lo b n cl (bAll lo c m dl R)) := by
 refine hs.perm ?_
 have e1 : ∀ (b : Bs) (n : Nat) (cl : zkQ) (X : List zcJ), bAll lo b n cl X = b5 lo b n cl [] ++ (X ++ chK b.ks) := fun b n cl X => rfl
 rw [e1 c, e1 b, e1 b, e1 c]
 generalize b5 lo c m dl [] = A
 generalize b5 lo b n cl [] = B
 generalize chK b.ks = K
 generalize chK c.ks = L
 have h1 : List.Perm (A ++ (B ++ (R ++ K) ++ L)) ((A ++ B) ++ (R ++ (K ++ L))) := by simp only [List.append_assoc]; exact List.Perm.refl _
 have h2 : List.Perm (B ++ (A ++ (R ++ L) ++ K)) ((B ++ A) ++ (R ++ (L ++ K))) := by simp only [List.append_assoc]; exact List.Perm.refl _
 exact h1.trans ((List.perm_append_comm.append ((List.Perm.refl R).append List.perm_append_comm)).trans h2.symm)
theorem zBi : zwB 1 (zrS [[1], [-1]]) [] = true := by decide +kernel
theorem zzy : zwB 1 (zrS []) [] = false := by decide +kernel
theorem zxl (fuel : Nat) {e : Nat} (he : 60 ≤ e) (hf : 2000000 < fuel) (h : AH) : run fuel e ziz [] h = some (.bool true, h) := by
 obtain ⟨d, rfl⟩ : ∃ d, e = d + 59 + 1 := ⟨e - 60, by omega⟩
 have key : ∃ h', brun fuel (d + 59 + 1) ziz [] AH.none = some (.bool true, h') := by
   rw [zq9]
   have g1 : zsd AH.none [] (Sl.lst 2 true [.slice (Sl.lst 1 true [.int .i64 1]), .slice (Sl.lst 1 true [.int .i64 (-1)])]) [[1], [-1]] := fun h _ =>
     ⟨[Sl.lst 1 true [.int .i64 1], Sl.lst 1 true [.int .i64 (-1)]], rfl, rfl, fun k s' c h1 h2 => by
       match k with
       | 0 => cases h1; cases h2; rfl
       | 1 => cases h1; cases h2; rfl
       | k + 2 => cases h1⟩
   obtain ⟨v, h1, e1, hp⟩ := zuT (n := 1) fuel (d + 52) (by omega) hf (by omega) (Sep0.start AH.none) g1 (by simp) (fun c hc => by
     simp only [List.mem_cons, List.not_mem_nil, or_false] at hc
     rcases hc with rfl | rfl <;> simp)
   rw [show okCC 1 [[1], [-1]] = true from by decide] at hp
   obtain ⟨b, rfl, hb, s1⟩ := hp
   rw [show run fuel (d + 59) ziA [.int .i64 1, .slice (Sl.lst 2 true [.slice (Sl.lst 1 true [.int .i64 1]), .slice (Sl.lst 1 true [.int .i64 (-1)])])] AH.none = _ from e1]
   simp only [o_bd, tup2, cond_true, zu9, zu8, zjV, zos, zpo, beq_self_eq_true, Bool.not_true, zaf, cond_false]
   have g2 : zsd AH.none (bAll AH.none.maps.length b 1 (zrS [[1], [-1]]) []) .nil [] := fun h _ => ⟨[], rfl, rfl, fun k s' c h1 => by cases h1⟩
   obtain ⟨v, h2, e2, hp⟩ := zuT (n := 1) fuel (d + 52) (by omega) hf (by omega) s1 g2 (by simp) (fun c hc => by cases hc)
   rw [show okCC 1 [] = true from by decide] at hp
   obtain ⟨c, rfl, hc, s2⟩ := hp
   rw [show run fuel (d + 59) ziA [.int .i64 1, .slice Sl.nil] h1 = _ from e2]
   simp only [o_bd, tup2, cond_true, zu9, zu8, zjV]
   obtain ⟨h3, e3, s3⟩ := zmK (d := d + 52) fuel hb hf (zwR s2) (s := .nil) (c := []) (fun h _ => rfl) (by simp)
   rw [zBi] at e3
   rw [show run fuel (d + 59) za5 [.ptr (bP b), .slice .nil] h2 = _ from e3]
   simp only [o_bd, zaf, beq_self_eq_true, cond_true, zos, Bool.not_false]
   obtain ⟨h4, e4, s4⟩ := zmK (d := d + 52) fuel hc hf (zwR s3) (s := .nil) (c := []) (fun h _ => rfl) (by simp)
   rw [zzy] at e4
   rw [show run fuel (d + 59) za5 [.ptr (bP c), .slice .nil] h3 = _ from e4]
   exact ⟨h4, rfl⟩
 obtain ⟨h', e⟩ := key
 exact zft rfl rfl zrd e rfl
end Go.Proofs.YtdmbfmgebgdfnaaDoor
namespace Go.Proofs.YtdmbfmgebgdfnaaDoor
open Go.RowKit
section
variable {h0 h : AH} {R : List zcJ} {n : Nat}
theorem zCx (fuel d : Nat) (hd : 49 ≤ d) (hf : 2000000 < fuel) (hn : n ≤ 4000) (hs : Sep0 h0 h R) {s : Sl} {cc : List (List Int)} (hS : zsd h0 R s cc) (hl : cc.length < 900000) (hc : ∀ c ∈ cc, c.length < 100000) {t : Sl} {S : List Int} (hT : zvm h0 R t S) (hSl : S.length < 1000000) :
   ∃ s' h', run fuel (d + 8) zlW [.int .i64 (n : Int), .slice s, .slice t] h = some (.tup [.slice s', .bool (zpX n cc S).isSome], h') ∧ Sep0 h0 h' (.grown 1 s' (zaS ((zpX n cc S).getD [])) :: R) := by
 obtain ⟨v, h', e1, hp⟩ := zvs fuel d hd hf hn hs hS hl hc hT hSl
 cases hr : zpX n cc S with
 | none =>
   rw [hr] at hp
   obtain ⟨rfl, s1⟩ := hp
   exact ⟨.nil, h', e1, (s1.addNil 1).cons⟩
 | some l =>
   rw [hr] at hp
   obtain ⟨s', rfl, s1⟩ := hp
   exact ⟨s', h', e1, s1⟩
end
section
variable {n : Nat}
theorem zt9 {cc : List (List Int)} {S : List Int} (hok : okCC n cc = true) (hS : zfF n S = true) : (zpX n cc S = none ∧ Cfl cc S) ∨ ∃ T, zpX n cc S = some (zxg T n) ∧ zxy cc S (some T) := by
 rcases zst (zua hok) (fun l hl => List.all_eq_true.1 hS l hl) with ⟨e, hc⟩ | ⟨v, e, hc, hk⟩
 · have hc' : Cfl cc S := (zwa (zpi cc) (zph cc) (fun l => Iff.rfl)).2.2 hc
   exact .inl ⟨zw4 hok hS hc', hc'⟩
 · have h2 := zwa (zpi cc) (zph cc) (S := S) (S' := S) (fun l => Iff.rfl)
   have hc' : zxy cc S (some (zgB v)) := ⟨fun l => (h2.1 l).trans (hc.1 l), fun h => hc.2 (h2.2.1 h)⟩
   exact .inr ⟨zgB v, zw3 hok hS hc', hc'⟩
end
end Go.Proofs.YtdmbfmgebgdfnaaDoor
namespace Go.Proofs.YtdmbfmgebgdfnaaDoor
open Go.RowKit
theorem zuG {v : List Int} (h : v.getD 0 0 = 0) (l : Int) : (zkX v l).getD 0 0 = 0 := by
 unfold zkX
 split
 · rename_i hc
   have hl := zbs.1 (zjJ.1 hc).1
   have hk : (absI l).toNat ≠ 0 := by unfold absI; split <;> omega
   rw [List.getD_eq_getElem?_getD, List.getElem?_set_ne hk, ← List.getD_eq_getElem?_getD]
   exact h
 · exact h
theorem ztE : ∀ {S v w : List Int}, v.getD 0 0 = 0 → zqj v S = some w → w.getD 0 0 = 0
 | [], v, w, h, e => by cases e; exact h
 | l :: S, v, w, h, e => by
   simp only [zqj] at e
   split at e
   · exact ztE (zuG h l) e
   · cases e
theorem zrq : ∀ {C : List (List Int)} {v : List Int} {b : Bool} {w : List Int × Bool}, v.getD 0 0 = 0 → zqp v C b = some w → w.1.getD 0 0 = 0
 | [], v, b, w, h, e => by cases e; exact h
 | c :: C, v, b, w, h, e => by
   simp only [zqp] at e
   split at e
   · cases e
   · split at e
     · exact zrq h e
     · split at e
       · exact zrq (zuG h _) e
       · cases e
theorem zuF {n : Nat} : ∀ {S v : List Int}, v.length = n + 1 → zfF n S = false → zqj v S = none
 | [], v, _, h => by cases h
 | l :: S, v, hv, h => by
   simp only [zqj]
   rw [zfF, List.all_cons, Bool.and_eq_false_iff] at h
   rcases h with h | h
   · have : zjm v l = false := by
       unfold zjm
       rw [show (v.length : Int) - 1 = n by omega, h]; rfl
     rw [this, if_neg (by simp)]
   · split
     · exact zuF (by rw [znr]; exact hv) h
     · rfl
theorem zB8 {v : List Int} (hv : ∀ x ∈ v, x = 0 ∨ x = 1 ∨ x = 2) {l : Int} (hc : zjm v l = true) (h0 : zfX v l = 0) : (zkX v l).count 0 < v.count 0 := by
 have hl := zjJ.1 hc
 have hz := zqi hv hl.1 h0
 have hl'' := zbs.1 hl.1
 have hlt : (absI l).toNat < v.length := by unfold absI; split <;> omega
 have hget : v[(absI l).toNat] = 0 := by rw [List.getD_eq_getElem?_getD, List.getElem?_eq_getElem hlt] at hz; exact hz
 have hso : zkX v l = v.set (absI l).toNat (if 0 < l then 1 else 2) := by unfold zkX; rw [if_pos hc]
 have hpos : 0 < v.count 0 := List.count_pos_iff.2 (hget ▸ List.getElem_mem hlt)
 have hne : ((if 0 < l then (1 : Int) else 2) == 0) = false := by split <;> rfl
 rw [hso, List.count_set hlt, hget, hne]
 simp
 omega
theorem zAU {v c : List Int} (h : (zbn v c).2 ≠ 0) : zfX v (zbn v c).2 = 0 := by
 unfold zbn at h ⊢
 split
 · rename_i h1
   rw [if_pos h1] at h
   exact absurd rfl h
 · rename_i h1
   rw [if_neg h1] at h
   split
   · rename_i e
     rw [e] at h
     exact absurd rfl h
   · rename_i u r e
     rw [e] at h
     simp only at h ⊢
     split
     · have : u ∈ c.filter (fun l => decide (zfX v l = 0)) := by rw [e]; exact List.mem_cons_self ..
       simpa using (List.mem_filter.1 this).2
     · rename_i h2
       rw [if_neg h2] at h
       exact absurd rfl h
theorem zsE : ∀ {C : List (List Int)} {v : List Int} {b : Bool} {w : List Int × Bool}, (∀ x ∈ v, x = 0 ∨ x = 1 ∨ x = 2) → zqp v C b = some w → w.1.count 0 ≤ v.count 0 ∧ (w.2 = true → b = true ∨ w.1.count 0 < v.count 0)
 | [], v, b, w, _, e => by cases e; exact ⟨Nat.le_refl _, fun h => .inl h⟩
 | c :: C, v, b, w, hv, e => by
   simp only [zqp] at e
   split at e
   · cases e
   · split at e
     · exact zsE hv e
     · rename_i h2
       split at e
       · rename_i hc
         have h1 := zB8 hv hc (zAU h2)
         obtain ⟨a, b⟩ := zsE (zro hv _) e
         exact ⟨by omega, fun _ => .inr (by omega)⟩
       · cases e
def zxa (n : Nat) (cc : List (List Int)) (S : List Int) : Option (List Int) := (zrQ cc n (n + 2) S).map zpw
theorem zuN {n : Nat} {cc : List (List Int)} (hok : okCC n cc = true) (S : List Int) : zxa n cc S = zpX n cc S := by
 unfold zxa
 cases hS : zfF n S with
 | false =>
   have : zrQ cc n (n + 2) S = none := by
     unfold zrQ
     rw [zuF (n := n) (by simp) hS]
   rw [this]
   unfold zpX
   rw [if_neg (by rw [hS]; simp)]; rfl
 | true =>
   have h1 := zzl (C := cc) (S := S) (n := n) (N := n + 2) (fun c hc l hl => List.all_eq_true.1 (List.all_eq_true.1 hok c hc) l hl) (fun l hl => List.all_eq_true.1 hS l hl) (by omega)
   rcases zt9 hok hS with ⟨e, hc⟩ | ⟨T, e, hc⟩
   · cases hr : zrQ cc n (n + 2) S with
     | none => rw [e]; rfl
     | some v =>
       rw [hr] at h1
       exact absurd hc h1.1.2
   · cases hr : zrQ cc n (n + 2) S with
     | none =>
       rw [hr] at h1
       exact absurd h1 hc.2
     | some v =>
       rw [hr] at h1
       obtain ⟨a1, a2, a3, a4⟩ := h1
       have := zq1 a1 hc (fun c hc => ⟨c, hc, fun l => Iff.rfl⟩) (fun c hc => ⟨c, hc, fun l => Iff.rfl⟩) (fun l => Iff.rfl)
       rw [e, Option.map_some, zwy a3 a4 a2, Option.some.inj this]
section
variable {h0 : AH} {R : List zcJ} {A V n : Nat}
theorem zzi (fuel d : Nat) (hf : 2000000 < fuel) (hn : n ≤ 4000) {x1 : Sl} {cc : List (List Int)} (hG : zsd h0 R x1 cc) (hl : cc.length < 1000000) (hc : ∀ c ∈ cc, c.length < 1000000 ∧ c.length < fuel ∧ ∀ l ∈ c, zjg l n = true) : ∀ (N m : Nat) (v : List Int) (h : AH), N ≤ m → v.count 0 < N → v.length = n + 1 → (∀ x ∈ v, x = 0 ∨ x = 1 ∨ x = 2) → v.getD 0 0 = 0 → Sep0 h0 h (rcL A V v R) →
   ∃ s' h', (zb2 fuel (d + 3) m [(1, .slice x1), (8, .ptr (.mk ⟨A, 0, 0⟩ 1))] h).bind (fun p => zdh fuel (d + 3) p.1 p.2.1 p.2.2) = some (.tup [.slice s', .bool (refV cc N v).isSome], h') ∧ Sep0 h0 h' (.grown 1 s' (zaS (((refV cc N v).map zpw).getD [])) :: R) := by
 intro N
 induction N with
 | zero => intro m v h h1 h2; omega
 | succ N ih =>
   intro m v h h1 h2 hvl hv hz hs
   obtain ⟨m, rfl⟩ : ∃ m', m = m' + 1 := ⟨m - 1, by omega⟩
   rw [znI]
   have hr := zw7 fuel d m hn hG hl hc fuel 0 v false h (by omega) (by omega) hvl hv hs
   rw [List.drop_zero, Int.natCast_zero] at hr
   simp only [refV]
   cases hro : zqp v cc false with
   | none =>
     rw [hro] at hr
     obtain ⟨h', e1, s1⟩ := hr
     rw [e1]
     simp only [o_bd, zj2, Option.isSome_none, Option.map_none, Option.getD_none]
     exact ⟨.nil, h', rfl, (s1.addNil 1).cons⟩
   | some w =>
     rw [hro] at hr
     obtain ⟨h', e1, s1, wl, wv⟩ := hr
     obtain ⟨c1, c2⟩ := zsE hv hro
     have wz := zrq hz hro
     rw [e1]
     simp only [o_bd, znO]
     cases hw : w.2 with
     | false =>
       obtain ⟨s', h'', e2, s2⟩ := zxT fuel (d + 2) s1 (i := 1) (j := 0) rfl rfl wv (by omega) wz (by omega) (by omega)
       simp only [Bool.not_false, cond_true, e2, o_bd, zac, zj2]
       rw [if_neg (by simp)]
       simp only [Option.isSome_some, Option.map_some, Option.getD_some]
       exact ⟨s', h'', rfl, (s2.perm (List.perm_append_singleton _ _)).sub (((List.Sublist.refl R).cons _ |>.cons _).cons_cons _)⟩
     | true =>
       simp only [Bool.not_true, cond_false, if_true]
       have : w.1.count 0 < v.count 0 := by
         rcases c2 hw with h | h
         · cases h
         · exact h
       exact ih m w.1 h' (by omega) (by omega) wl wv wz s1
theorem zxY (fuel d : Nat) (hf : 2000000 < fuel) (hn : n ≤ 4000) {h : AH} (hs : Sep0 h0 h R) {x1 s : Sl} {cc : List (List Int)} (hG : zsd h0 R x1 cc) (hl : cc.length < 1000000) (hc : ∀ c ∈ cc, c.length < 1000000 ∧ c.length < fuel ∧ ∀ l ∈ c, zjg l n = true) {S : List Int} (hS : zvm h0 R s S) (hSl : S.length < 1000000) (hr : ∀ l ∈ S, -9223372036854775807 ≤ l ∧ l ≤ 9223372036854775807) :
   ∃ s' h', run fuel (d + 4) za6 [.int .i64 (n : Int), .slice x1, .slice s] h = some (.tup [.slice s', .bool (zxa n cc S).isSome], h') ∧ Sep0 h0 h' (.grown 1 s' (zaS ((zxa n cc S).getD [])) :: R) := by
 rw [zp3]
 obtain ⟨A, V, h1, e1, s1⟩ := zAY fuel (d + 2) hs hn
 have s1' : Sep0 h0 h1 (rcL A V (List.replicate (n + 1) 0) R) := s1.perm List.perm_append_comm
 rw [e1]
 simp only [o_bd, zjV]
 have hst := zw6 fuel d hn (x1 := x1) hS hSl hr fuel 0 _ h1 (by omega) (by omega) (by simp) (fun x hx => .inl (List.eq_of_mem_replicate hx)) s1'
 rw [List.drop_zero, Int.natCast_zero] at hst
 unfold zxa zrQ
 cases hsv : zqj (List.replicate (n + 1) 0) S with
 | none =>
   rw [hsv] at hst
   obtain ⟨h', e2, s2⟩ := hst
   exact ⟨.nil, h', e2, (s2.addNil 1).cons⟩
 | some v =>
   rw [hsv] at hst
   obtain ⟨h2, e2, s2⟩ := hst
   have hz : v.getD 0 0 = 0 := ztE (by simp) hsv
   have hvs : v.length = n + 1 ∧ (∀ x ∈ v, x = 0 ∨ x = 1 ∨ x = 2) := by
     have : ∀ {S v w : List Int}, v.length = n + 1 → (∀ x ∈ v, x = 0 ∨ x = 1 ∨ x = 2) → zqj v S = some w → w.length = n + 1 ∧ ∀ x ∈ w, x = 0 ∨ x = 1 ∨ x = 2 := fun {S} => by
       induction S with
       | nil => intro v w h1 h2 e; cases e; exact ⟨h1, h2⟩
       | cons l S ih =>
         intro v w h1 h2 e
         simp only [zqj] at e
         split at e
         · exact ih (by rw [znr]; exact h1) (zro h2 l) e
         · cases e
     exact this (by simp) (fun x hx => .inl (List.eq_of_mem_replicate hx)) hsv
   rw [e2]
   simp only [o_bd, znP]
   have hcnt : v.count 0 < n + 2 := by
     have := List.count_le_length (a := (0 : Int)) (l := v)
     have := hvs.1
     omega
   obtain ⟨s', h', e3, s3⟩ := zzi fuel d hf hn hG hl hc (n + 2) fuel v h2 (by omega) hcnt hvs.1 hvs.2 hz s2
   rw [e3]
   refine ⟨s', h', ?_, s3⟩
   simp
end
end Go.Proofs.YtdmbfmgebgdfnaaDoor
namespace Go.Proofs.YtdmbfmgebgdfnaaDoor
open Go.RowKit
theorem zBr {h : AH} (cc : List (List Int)) : h.fixL (zoo cc) = (zoo cc, h) := zys (fun a h => rfl) _
theorem zA1 (fuel d : Nat) {cc : List (List Int)} {t : Sl} (hn : cc.length < 1000000) (ht : t.len = cc.length) {h0 : AH} (hs0 : h0.sliceCells 1 t = some (zoo cc)) : ∀ (n k : Nat) (s : Sl) (h : AH), cc.length < n + k → k ≤ cc.length → Sep0 h0 h [.grown 1 s (zoo (cc.take k))] →
   ∃ s' h', zda fuel d n [(0, .slice t), (3, .slice s), (4, .int .i64 (k : Int))] h = some (.exit 0, [(3, .slice s')], h') ∧ Sep0 h0 h' [.grown 1 s' (zoo cc)] := by
 intro n
 induction n with
 | zero => intro k s h h1 h2; omega
 | succ n ih =>
   intro k s h h1 h2 hg
   have hl := hg.len (i := 0) rfl
   simp only [List.length_map, List.length_take, Nat.mul_one] at hl
   rw [zou, ht]
   by_cases hk : k < cc.length
   · have hr := zfn hg.ext hs0
     rw [zan (by omega), zrr hr (by omega) (v := .slice (lstI (cc.getD k []))) (by simp [hk])]
     simp only [o_bd, zac, zuj, zBs]
     obtain ⟨s', h', e1, e2, e3⟩ := hg.grow (i := 0) (bytes := 24) (m := 1) (vs := [.slice (lstI (cc.getD k []))]) rfl rfl (by omega) (by omega)
     rw [e1]
     simp only [o_bd]
     rw [zlr (by omega)]
     refine ih (k + 1) s' h' (by omega) (by omega) ?_
     rw [zia hk [], zoo, List.map_append]
     exact e2
   · have : k = cc.length := by omega
     subst this
     rw [zah (by omega)]
     rw [List.take_length] at hg
     exact ⟨s, h, rfl, hg⟩
theorem zsF (fuel d : Nat) {cc : List (List Int)} {t : Sl} {h : AH} (hs : h.sliceCells 1 t = some (zoo cc)) (hn : cc.length < 1000000) (hf : cc.length < fuel) :
   ∃ s' h', run fuel (d + 1) zdX [.slice t] h = some (.slice s', h') ∧ New h h' (.grown 1 s' (zoo cc)) := by
 have ht : t.len = cc.length := by have := za7 hs; simp at this; omega
 have s0 := (Sep0.start h).addMake 1 (eqI (0 : Int) ((t.len : Nat) : Int))
 obtain ⟨s', h', e1, e2⟩ := zA1 fuel d hn ht hs fuel 0 _ _ (by omega) (by omega) s0
 rw [zq6]
 have e3 : (decide ((0 : Int) ≤ ((t.len : Nat) : Int)) && decide (((t.len : Nat) : Int) * 24 ≤ 140737488355328) && decide (((t.len : Nat) : Int) ≤ 140737488355328)) = true := zBe (by omega) (by omega) (by omega)
 rw [e3, cond_true]
 rw [Int.natCast_zero] at e1
 rw [e1]
 simp only [o_bd, zoz]
 exact ⟨s', h', rfl, e2.get (i := 0) rfl⟩
end Go.Proofs.YtdmbfmgebgdfnaaDoor
namespace Go.Proofs.YtdmbfmgebgdfnaaDoor
open Go.RowKit
end Go.Proofs.YtdmbfmgebgdfnaaDoor
namespace Go.Proofs.YtdmbfmgebgdfnaaDoor
open Go.RowKit
abbrev xC (n : Nat) (XC : List (List Int)) : List AV := [.int .i64 (n : Int), .slice (zuA XC)]
abbrev xF (n : Nat) (XC : List (List Int)) : Pt := .fp 0 (xC n XC)
theorem zzP (n : Nat) (XC : List (List Int)) : ziT (xC n XC) = true := by
 show (true && ((AV.slice (zuA XC)).closed && true)) = true
 rw [zvQ]; rfl
theorem zsq {h : AH} (n : Nat) (XC : List (List Int)) : zap h 8 (.ptr (xF n XC)) = some (.ptr (xF n XC)) := zzD 7 0 (zzP n XC)
structure QOk (fuel : Nat) (c : List Int) : Prop where
 len : c.length < 100000
 fl : c.length < fuel
 ok : ∀ x ∈ c, zqa x
structure QL (fuel : Nat) (c : List Int) : Prop where
 len : c.length < 900000
 fl : c.length < fuel
 ok : ∀ x ∈ c, zqa x
theorem QOk.ql {fuel : Nat} {c : List Int} (h : QOk fuel c) : QL fuel c := ⟨by have := h.len; omega, h.fl, h.ok⟩
structure XOk (fuel n : Nat) (XC : List (List Int)) : Prop where
 len : XC.length < 900000
 fl : XC.length < fuel
 each : ∀ c ∈ XC, QOk fuel c ∧ ∀ l ∈ c, zjg l n = true
 vars : n ≤ 4000
theorem XOk.okCC {fuel n : Nat} {XC : List (List Int)} (h : XOk fuel n XC) : okCC n XC = true := by
 rw [List.all_eq_true]
 intro c hc
 rw [List.all_eq_true]
 exact (h.each c hc).2
section
variable {fuel n : Nat} {XC : List (List Int)}
theorem zw8 (d : Nat) (hn : n ≤ 4000) {c : List Int} (hcl : c.length < 1000000) {h : AH} : ∀ (m j : Nat), c.length < m + j → j ≤ c.length →
   (zbX fuel (d + 1) m [(0, .ptr (xF n XC)), (1, .slice (lstI c)), (5, .int .i64 (j : Int))] h).bind (fun p => zbr fuel (d + 1) p.1 p.2.1 p.2.2) = some (.bool (zfF n (c.drop j)), h) := by
 intro m
 induction m with
 | zero => intro j h1 h2; omega
 | succ m ih =>
   intro j h1 h2
   rw [zmA, zeW]
   by_cases hj : j < c.length
   · rw [zan (by omega), zcC _ (by omega) (by omega) 0]
     simp only [o_bd, zeG, zam, Int.toNat_natCast, zvT, zqv, List.drop_zero]
     rw [zv3 _ _ (by omega) (by omega), zjk hj 0, zfF, List.all_cons]
     simp only [o_bd, zaf]
     cases zjg (c.getD j 0) n with
     | false => simp only [Bool.not_false, cond_true, o_bd, zm3, Bool.false_and]
     | true =>
       simp only [Bool.not_true, cond_false, Bool.true_and]
       rw [zlr (by omega)]
       exact ih (j + 1) (by omega) (by omega)
   · have : j = c.length := by omega
     subst this
     rw [zah (by omega), List.drop_length]
     simp only [o_bd, zmC]
     rfl
theorem zsD (d : Nat) (hn : n ≤ 4000) {c : List Int} (hcl : c.length < 1000000) (hf : c.length < fuel) {h : AH} {p : Pt} {q : Sl} (hp : zap h 8 (.ptr p) = some (.ptr (xF n XC))) (hq : zap h 8 (.slice q) = some (.slice (lstI c))) :
   run fuel (d + 2) zbU [.ptr p, .slice q] h = some (.bool (zfF n c), h) := by
 have := zw8 (fuel := fuel) (XC := XC) d hn hcl (h := AH.none) fuel 0 (by omega) (by omega)
 rw [List.drop_zero, Int.natCast_zero] at this
 exact zpl rfl rfl (mm2 hp hq) (by rw [zoG]; exact this) rfl rfl
theorem zzj (d : Nat) {c : List Int} {p : Pt} (hcl : c.length < 1000000) (hok : ∀ x ∈ c, zqa x) {h0 : AH} {R : List zcJ} : ∀ (m j : Nat) (t : Sl) (h : AH), c.length < m + j → j ≤ c.length → Sep0 h0 h (.grown 1 t (zaS ((c.take j).map fun l => -l)) :: R) →
   ∃ t' h', zbv fuel d m [(0, .ptr p), (1, .slice (lstI c)), (5, .slice t), (6, .int .i64 (j : Int))] h = some (.exit 0, [(0, .ptr p), (5, .slice t')], h') ∧ Sep0 h0 h' (.grown 1 t' (zaS (c.map fun l => -l)) :: R) := by
 intro m
 induction m with
 | zero => intro j t h h1 h2; omega
 | succ m ih =>
   intro j t h h1 h2 hs
   have hl := hs.len (i := 0) rfl
   simp only [List.length_map, List.length_take, Nat.mul_one] at hl
   rw [zlz, zeW]
   by_cases hj : j < c.length
   · have hm : c.getD j 0 ∈ c := by rw [List.getD_eq_getElem?_getD, List.getElem?_eq_getElem hj]; exact List.getElem_mem hj
     have hx := hok _ hm
     obtain ⟨hx1, hx2⟩ := hx
     rw [zan (by omega), zcC _ (by omega) (by omega) 0]
     simp only [o_bd, zeG, zam, Int.toNat_natCast]
     rw [show (0 : Int) - c.getD j 0 = -c.getD j 0 by omega, zeo (by omega) (by omega)]
     obtain ⟨t', h', e1, s1, _⟩ := hs.grow (i := 0) (bytes := 8) (m := 1) (vs := [.int .i64 (-c.getD j 0)]) rfl rfl (by omega) (by omega)
     rw [e1, o_bd, zlr (by omega)]
     refine ih (j + 1) t' h' (by omega) (by omega) ?_
     rw [zia hj 0, List.map_append, zhT]
     exact s1
   · have : j = c.length := by omega
     subst this
     rw [zah (by omega)]
     rw [List.take_length] at hs
     exact ⟨t, h, rfl, hs⟩
def zxh (n : Nat) (XC : List (List Int)) (c : List Int) : Bool := zfF n c && !(zxa n XC (c.map fun l => -l)).isSome
theorem zor (d : Nat) (hf : 2000000 < fuel) (hx : XOk fuel n XC) {c : List Int} (hc : QL fuel c) {h : AH} {p : Pt} {q : Sl} (hp : zap h 8 (.ptr p) = some (.ptr (xF n XC))) (hq : zap h 8 (.slice q) = some (.slice (lstI c))) :
   run fuel (d + 5) zay [.ptr p, .slice q] h = some (.bool (zxh n XC c), h) := by
 have hn := hx.vars
 have hcl := hc.len
 have hcf := hc.fl
 have key : ∃ h', brun fuel (d + 5) zay [.ptr (xF n XC), .slice (lstI c)] AH.none = some (.bool (zxh n XC c), h') := by
   rw [znY, zsD (XC := XC) (d + 2) hn (by omega) hcf (zsq n XC) (zdZ 7 c)]
   simp only [o_bd, zaf]
   unfold zxh
   cases hlo : zfF n c with
   | false => exact ⟨_, rfl⟩
   | true =>
     obtain ⟨t, h1, e1, s1⟩ := zzj (fuel := fuel) (d + 4) (p := xF n XC) (R := []) (by omega) hc.ok fuel 0 .nil AH.none (by omega) (by omega) ((Sep0.start AH.none).addNil 1)
     rw [Int.natCast_zero] at e1
     simp only [Bool.not_true, cond_false, e1, o_bd, zlM, zvT, zqv, List.drop_zero, zeG, zam, List.drop_succ_cons, zac]
     obtain ⟨s', h2, e2, s2⟩ := zxY (n := n) (R := [.grown 1 t (zaS (c.map fun l => -l))]) fuel d hf hn s1 (x1 := zuA XC) (cc := XC) (fun h _ => zsi (ziU _ _ _)) (by have := hx.len; omega) (fun c hc => by
       obtain ⟨a, b⟩ := hx.each c hc
       exact ⟨by have := a.len; omega, a.fl, b⟩) (s := t) (S := c.map fun l => -l) (fun h hs => (hs.sep.grown (i := 0) rfl).cells) (by simpa using (by omega : c.length < 1000000)) (fun l hl => by
       obtain ⟨x, hx, rfl⟩ := List.mem_map.1 hl
       obtain ⟨a, b⟩ := hc.ok x hx
       omega)
     rw [e2]
     simp only [o_bd, tup2, cond_true, zu9, zu8, zac, zaf, Bool.true_and]
     exact ⟨_, rfl⟩
 obtain ⟨h', e⟩ := key
 exact zpl rfl rfl (mm2 hp hq) e rfl rfl
abbrev noP (p : Int) (e : List Int) : List Int := e.filter fun y => !decide (y = -p)
def zAI (n : Nat) (XC : List (List Int)) (c : List Int) : Option Int → Bool
 | none => false
 | some p => zfF n c && XC.all fun e => !decide (-p ∈ e) || zxh n XC (c ++ noP p e)
def zvi (n : Nat) (XC : List (List Int)) (c : List Int) : Bool := zxh n XC c || zAI n XC c c.head?
theorem zzo (d : Nat) {c : List Int} {p : Int} (hp : zqa p) {i : Nat} (hi : i < XC.length) (hil : XC.length < 900000) (hel : (XC.getD i []).length < 100000) (hcl : c.length < 100000) : ∀ (m j : Nat) (s : Sl) (h : AH), (XC.getD i []).length < m + j → j ≤ (XC.getD i []).length → Sep0 AH.none h [.grown 1 s (zaS (c ++ noP p ((XC.getD i []).take j)))] →
   ∃ s' h', zbc fuel d m [(0, .ptr (xF n XC)), (1, .slice (lstI c)), (5, .int .i64 p), (6, .int .i64 (i : Int)), (7, .slice s), (8, .int .i64 (j : Int))] h = some (.exit 2, [(0, .ptr (xF n XC)), (1, .slice (lstI c)), (5, .int .i64 p), (6, .int .i64 (i : Int)), (7, .slice s')], h') ∧ Sep0 AH.none h' [.grown 1 s' (zaS (c ++ noP p (XC.getD i [])))] := by
 obtain ⟨p1, p2⟩ := hp
 intro m
 induction m with
 | zero => intro j s h h1 h2; omega
 | succ m ih =>
   intro j s h h1 h2 hs
   have hl := hs.len (i := 0) rfl
   have hfl : (noP p ((XC.getD i []).take j)).length ≤ j := Nat.le_trans (List.length_filter_le _ _) (by rw [List.length_take]; omega)
   simp only [List.length_map, List.length_append, Nat.mul_one] at hl
   rw [zlA]
   simp only [zvT, zqv, o_bd, List.drop_succ_cons, List.drop_zero, zeG, zac]
   rw [zcC _ (by omega) (by omega) []]
   simp only [o_bd, zeG, zac, Int.toNat_natCast]
   rw [zeW]
   by_cases hj : j < (XC.getD i []).length
   · have ht : noP p ((XC.getD i []).take (j + 1)) = noP p ((XC.getD i []).take j) ++ (if (XC.getD i []).getD j 0 = -p then [] else [(XC.getD i []).getD j 0]) := by
       unfold noP
       rw [zia hj 0, List.filter_append, List.filter_cons, List.filter_nil]
       by_cases e : (XC.getD i []).getD j 0 = -p
       · rw [if_pos e, decide_eq_true e]; rfl
       · rw [if_neg e, decide_eq_false e]; rfl
     rw [zan (by omega), zcC _ (by omega) (by omega) 0]
     simp only [o_bd, zeG, zam, Int.toNat_natCast]
     rw [show (0 : Int) - p = -p by omega, zeo (n := -p) (by omega) (by omega)]
     by_cases e : (XC.getD i []).getD j 0 = -p
     · rw [zng e, zlr (by omega)]
       rw [if_pos e, List.append_nil] at ht
       exact ih (j + 1) s h (by omega) (by omega) (by rw [ht]; exact hs)
     · rw [zn2 e]
       rw [if_neg e] at ht
       obtain ⟨s', h', e1, s1, _⟩ := hs.grow (i := 0) (bytes := 8) (m := 1) (vs := [.int .i64 ((XC.getD i []).getD j 0)]) rfl rfl (by omega) (by omega)
       rw [e1]
       simp only [o_bd]
       rw [zlr (by omega)]
       refine ih (j + 1) s' h' (by omega) (by omega) ?_
       rw [ht, ← List.append_assoc, zhT]
       exact s1
   · have : j = (XC.getD i []).length := by omega
     rw [zah (by omega)]
     rw [this, List.take_length] at hs
     exact ⟨s, h, rfl, hs⟩
theorem zzn (d : Nat) (hf : 2000000 < fuel) (hx : XOk fuel n XC) {c : List Int} (hc : QOk fuel c) {p : Int} (hp : zqa p) : ∀ (m i : Nat) (h : AH), XC.length < m + i → i ≤ XC.length → Sep0 AH.none h [] →
   ∃ h', (zaO fuel (d + 5) m [(0, .ptr (xF n XC)), (1, .slice (lstI c)), (5, .int .i64 p), (6, .int .i64 (i : Int))] h).bind (fun q => zbe fuel (d + 5) q.1 q.2.1 q.2.2) = some (.bool ((XC.drop i).all fun e => !decide (-p ∈ e) || zxh n XC (c ++ noP p e)), h') := by
 have hn := hx.vars
 have hcl := hc.len
 have hcf := hc.fl
 have hXl := hx.len
 have hpp := hp
 obtain ⟨p1, p2⟩ := hp
 intro m
 induction m with
 | zero => intro i h h1 h2; omega
 | succ m ih =>
   intro i h h1 h2 hs
   rw [zlB]
   simp only [zvT, zqv, o_bd, List.drop_succ_cons, List.drop_zero, zeG, zac]
   rw [zeW]
   by_cases hi : i < XC.length
   · have hm : XC.getD i [] ∈ XC := by rw [List.getD_eq_getElem?_getD, List.getElem?_eq_getElem hi]; exact List.getElem_mem hi
     obtain ⟨hqe, hle⟩ := hx.each _ hm
     have hel := hqe.len
     have hef := hqe.fl
     rw [zan (by omega), zcC _ (by omega) (by omega) []]
     simp only [o_bd, zeG, zac, Int.toNat_natCast]
     rw [show (0 : Int) - p = -p by omega, zeo (n := -p) (by omega) (by omega), has_run fuel (d + 4) (zdZ 7 (XC.getD i [])) (-p) (by omega) hef, zjk hi [], List.all_cons]
     simp only [o_bd, zaf]
     cases hin : decide (-p ∈ XC.getD i []) with
     | false =>
       simp only [Bool.not_false, cond_true, Bool.true_or, Bool.true_and]
       rw [zlr (by omega)]
       exact ih (i + 1) h (by omega) (by omega) hs
     | true =>
       simp only [Bool.not_true, cond_false, Bool.false_or]
       obtain ⟨s1, h1', e1, n1⟩ := zue fuel (d + 4) (a := c) (t := lstI c) (h := h) (ziU _ _ _) (by omega) hcf
       rw [e1]
       simp only [o_bd, zac]
       have s2 := (hs.add n1).cons
       obtain ⟨s', h2', e2, s3⟩ := zzo (fuel := fuel) (n := n) (d + 5) (c := c) hpp hi hXl hel (by omega) fuel 0 s1 h1' (by omega) (by omega) (by
         have : c ++ noP p ((XC.getD i []).take 0) = c := by simp [noP]
         rw [this]; exact s2)
       rw [Int.natCast_zero] at e2
       rw [e2]
       simp only [o_bd, zlN]
       have hfl : (noP p (XC.getD i [])).length ≤ (XC.getD i []).length := List.length_filter_le _ _
       rw [zor (n := n) (XC := XC) d hf hx (c := c ++ noP p (XC.getD i [])) ⟨by rw [List.length_append]; omega, by rw [List.length_append]; omega, fun x hx => by
         rcases List.mem_append.1 hx with hx | hx
         · exact hc.ok x hx
         · exact hqe.ok x (List.mem_filter.1 hx).1⟩ (zsq n XC) (s3.sep.grown (i := 0) rfl).freezeI]
       simp only [o_bd, zaf]
       cases hir : zxh n XC (c ++ noP p (XC.getD i [])) with
       | false =>
         simp only [Bool.not_false, cond_true, o_bd, zmb, Bool.false_and]
         exact ⟨_, rfl⟩
       | true =>
         simp only [Bool.not_true, cond_false, Bool.true_and]
         rw [zlr (by omega)]
         exact ih (i + 1) h2' (by omega) (by omega) s3.tl
   · have : i = XC.length := by omega
     subst this
     rw [zah (by omega), List.drop_length]
     simp only [o_bd, zlO]
     exact ⟨h, rfl⟩
theorem zvv (d : Nat) (hf : 2000000 < fuel) (hx : XOk fuel n XC) {c : List Int} (hc : QOk fuel c) {h : AH} {p : Pt} {q : Sl} (hp : zap h 8 (.ptr p) = some (.ptr (xF n XC))) (hq : zap h 8 (.slice q) = some (.slice (lstI c))) :
   run fuel (d + 6) zaF [.ptr p, .slice q] h = some (.bool (zvi n XC c), h) := by
 have hn := hx.vars
 have hcl := hc.len
 have hcf := hc.fl
 have key : ∃ h', brun fuel (d + 6) zaF [.ptr (xF n XC), .slice (lstI c)] AH.none = some (.bool (zvi n XC c), h') := by
   rw [znZ, zor (XC := XC) d hf hx hc.ql (zsq n XC) (zdZ 7 c)]
   simp only [o_bd, zaf]
   rw [zeW]
   unfold zvi
   cases hi : zxh n XC c with
   | true => exact ⟨_, rfl⟩
   | false =>
     simp only [cond_false, Bool.false_or]
     by_cases hnil : c = []
     · subst hnil
       exact ⟨_, rfl⟩
     · obtain ⟨p, r, hcp⟩ : ∃ p r, c = p :: r := by
         cases c with
         | nil => exact absurd rfl hnil
         | cons p r => exact ⟨p, r, rfl⟩
       have hhd : c.head? = some p := by rw [hcp]; rfl
       have h0' : decide ((c.length : Int) = 0) = false := decide_eq_false (by rw [hcp]; simp; omega)
       have hg0 : c.getD 0 0 = p := by rw [hcp]; rfl
       have hpo : zqa p := hc.ok p (by rw [hcp]; exact List.mem_cons_self ..)
       rw [hhd]
       unfold zAI
       rw [h0', zsD (XC := XC) (d + 3) hn (by omega) hcf (zsq n XC) (zdZ 7 c)]
       simp only [beq_self_eq_true, cond_true, o_bd, zaf]
       cases hlo : zfF n c with
       | false => exact ⟨_, rfl⟩
       | true =>
         simp only [Bool.not_true, cond_false]
         rw [show AH.none.addr 1 (lstI c) 0 = _ from zcC (.int .i64) (l := c) (j := 0) (by omega) (by rw [hcp]; simp) 0 false]
         simp only [o_bd, zeG, zam, Int.toNat_zero, hg0, Bool.true_and]
         obtain ⟨h', e⟩ := zzn d hf hx hc hpo fuel 0 AH.none (by have := hx.fl; omega) (by omega) (Sep0.start _)
         rw [Int.natCast_zero, List.drop_zero] at e
         exact ⟨h', e⟩
 obtain ⟨h', e⟩ := key
 exact zpl rfl rfl (mm2 hp hq) e rfl rfl
def fndX (XC : List (List Int)) (c : List Int) : Option Nat := XC.findIdx? fun e => decide (zeF e = zeF c)
theorem zxV (d : Nat) (hf : 2000000 < fuel) (hx : XOk fuel n XC) {c : List Int} (hc : QOk fuel c) {h : AH} : ∀ (m i : Nat), XC.length < m + i → i ≤ XC.length →
   (zb9 fuel (d + 4) m [(0, .ptr (xF n XC)), (1, .slice (lstI c)), (5, .int .i64 (i : Int))] h).bind (fun q => zbH fuel (d + 4) q.1 q.2.1 q.2.2) = some (.int .i64 (match (XC.drop i).findIdx? fun e => decide (zeF e = zeF c) with | some k => ((i + k : Nat) : Int) | none => -1), h) := by
 have hcl := hc.len
 have hXl := hx.len
 intro m
 induction m with
 | zero => intro i h1 h2; omega
 | succ m ih =>
   intro i h1 h2
   rw [zmU]
   simp only [zvT, zqv, o_bd, List.drop_succ_cons, List.drop_zero, zeG, zac]
   rw [zeW]
   by_cases hi : i < XC.length
   · have hm : XC.getD i [] ∈ XC := by rw [List.getD_eq_getElem?_getD, List.getElem?_eq_getElem hi]; exact List.getElem_mem hi
     obtain ⟨hqe, hle⟩ := hx.each _ hm
     have hel := hqe.len
     rw [zan (by omega), zcC _ (by omega) (by omega) []]
     simp only [o_bd, zeG, zac, Int.toNat_natCast]
     rw [zrh (by omega) (by omega) (by omega) (by omega) (by omega) hqe.ok hc.ok (zdZ 7 _) (zdZ 7 c), zjk hi [], List.findIdx?_cons]
     simp only [o_bd, zaf]
     by_cases he : zeF (XC.getD i []) = zeF c
     · rw [decide_eq_true he]
       simp only [cond_true, o_bd, zno, if_true, Nat.add_zero]
     · rw [decide_eq_false he]
       simp only [cond_false, Bool.false_eq_true, if_false]
       rw [zlr (by omega), ih (i + 1) (by omega) (by omega)]
       cases (XC.drop (i + 1)).findIdx? fun e => decide (zeF e = zeF c) with
       | none => rfl
       | some k =>
         simp only [Option.map_some]
         rw [show i + 1 + k = i + (k + 1) by omega]
   · have : i = XC.length := by omega
     subst this
     rw [zah (by omega), List.drop_length]
     simp only [o_bd, zm4, List.findIdx?_nil]
def zCU (XC : List (List Int)) (c : List Int) : Int := match fndX XC c with
 | some k => (k : Int)
 | none => -1
theorem zzk (d : Nat) (hf : 2000000 < fuel) (hx : XOk fuel n XC) {c : List Int} (hc : QOk fuel c) {h : AH} {p : Pt} {q : Sl} (hp : zap h 8 (.ptr p) = some (.ptr (xF n XC))) (hq : zap h 8 (.slice q) = some (.slice (lstI c))) :
   run fuel (d + 5) zdk [.ptr p, .slice q] h = some (.int .i64 (zCU XC c), h) := by
 have := zxV d hf hx hc (h := AH.none) fuel 0 (by have := hx.fl; omega) (by omega)
 rw [List.drop_zero, Int.natCast_zero] at this
 refine zpl rfl rfl (mm2 hp hq) (r := .int .i64 (zCU XC c)) (h' := AH.none) ?_ rfl rfl
 rw [zpc]
 unfold zCU fndX
 rw [this]
 cases XC.findIdx? fun e => decide (zeF e = zeF c) with
 | none => rfl
 | some k => simp only [Nat.zero_add]
theorem zw5 (d : Nat) (hf : 2000000 < fuel) (hx : XOk fuel n XC) {c : List Int} (hc : QOk fuel c) {h : AH} : ∀ (m i : Nat), XC.length < m + i → i ≤ XC.length →
   (zdb fuel (d + 4) m [(0, .ptr (xF n XC)), (1, .slice (lstI c)), (5, .int .i64 (i : Int))] h).bind (fun q => zcD fuel (d + 4) q.1 q.2.1 q.2.2) = some (.bool ((XC.drop i).any fun e => decide (zeF e = zeF c)), h) := by
 have hcl := hc.len
 have hXl := hx.len
 intro m
 induction m with
 | zero => intro i h1 h2; omega
 | succ m ih =>
   intro i h1 h2
   rw [zov]
   simp only [zvT, zqv, o_bd, List.drop_succ_cons, List.drop_zero, zeG, zac]
   rw [zeW]
   by_cases hi : i < XC.length
   · have hm : XC.getD i [] ∈ XC := by rw [List.getD_eq_getElem?_getD, List.getElem?_eq_getElem hi]; exact List.getElem_mem hi
     obtain ⟨hqe, hle⟩ := hx.each _ hm
     have hel := hqe.len
     rw [zan (by omega), zcC _ (by omega) (by omega) []]
     simp only [o_bd, zeG, zac, Int.toNat_natCast]
     rw [zrh (by omega) (by omega) (by omega) (by omega) (by omega) hqe.ok hc.ok (zdZ 7 _) (zdZ 7 c), zjk hi [], List.any_cons]
     simp only [o_bd, zaf]
     cases decide (zeF (XC.getD i []) = zeF c) with
     | true => simp only [cond_true, o_bd, zo2, Bool.true_or]
     | false =>
       simp only [cond_false, Bool.false_or]
       rw [zlr (by omega)]
       exact ih (i + 1) (by omega) (by omega)
   · have : i = XC.length := by omega
     subst this
     rw [zah (by omega), List.drop_length]
     simp only [o_bd, zoB, List.any_nil]
theorem zxQ (d : Nat) (hf : 2000000 < fuel) (hx : XOk fuel n XC) {c : List Int} (hc : QOk fuel c) {h : AH} {p : Pt} {q : Sl} (hp : zap h 8 (.ptr p) = some (.ptr (xF n XC))) (hq : zap h 8 (.slice q) = some (.slice (lstI c))) :
   run fuel (d + 5) zdY [.ptr p, .slice q] h = some (.bool (XC.any fun e => decide (zeF e = zeF c)), h) := by
 have := zw5 d hf hx hc (h := AH.none) fuel 0 (by have := hx.fl; omega) (by omega)
 rw [List.drop_zero, Int.natCast_zero] at this
 exact zpl rfl rfl (mm2 hp hq) (by rw [zq8]; exact this) rfl rfl
end
end Go.Proofs.YtdmbfmgebgdfnaaDoor
namespace Go.Proofs.YtdmbfmgebgdfnaaDoor
open Go.RowKit
def numI (n b : Int) : Int := bif decide (Int.tmod n b < 0) then IntKind.wrap .i64 (Int.tmod n b + b) else Int.tmod n b
theorem ztn (fuel d : Nat) {n b : Int} (hb : b ≠ 0) (h : AH) : run fuel (d + 1) zfV [.int .i64 n, .int .i64 b] h = some (.int .i64 (numI n b), h) :=
 zft rfl rfl (cc2 rfl rfl) (by
   rw [zqw, zah hb]
   show _ = some (AV.int .i64 (numI n b), AH.none)
   unfold numI
   cases decide (Int.tmod n b < 0) <;> rfl) rfl
theorem zuR {n b : Int} (hb : 0 < b) (hb2 : b ≤ 9223372036854775807) : 0 ≤ numI n b ∧ numI n b < b := by
 have h1 := Int.tmod_lt_of_pos n hb
 have h2 : -b < Int.tmod n b := by
   have := Int.neg_lt_of_neg_lt (a := Int.tmod n b) (b := b)
   have h3 := Int.tmod_lt_of_pos (-n) hb
   rw [Int.neg_tmod] at h3
   omega
 unfold numI
 by_cases h0 : Int.tmod n b < 0
 · rw [decide_eq_true h0, cond_true, zeo (by omega) (by omega)]; omega
 · rw [decide_eq_false h0, cond_false]; omega
end Go.Proofs.YtdmbfmgebgdfnaaDoor
namespace Go.Proofs.YtdmbfmgebgdfnaaDoor
open Go.RowKit
def litI (n vars : Int) : Int := bif decide (numI n (2 * vars) < vars) then numI n (2 * vars) + 1 else vars - numI n (2 * vars) - 1
theorem zy4 (fuel d : Nat) {n vars : Int} (h1 : 0 < vars) (h2 : vars ≤ 1000000) (h : AH) : run fuel (d + 2) ziZ [.int .i64 n, .int .i64 vars] h = some (.int .i64 (litI n vars), h) := by
 have hr := zuR (n := n) (b := 2 * vars) (by omega) (by omega)
 refine zft rfl rfl (cc2 rfl rfl) (r := .int .i64 (litI n vars)) (h' := AH.none) ?_ rfl
 rw [zs7, zeo (n := 2 * vars) (by omega) (by omega), ztn fuel d (by omega)]
 simp only [o_bd, zam]
 unfold litI
 by_cases h0 : numI n (2 * vars) < vars
 · rw [decide_eq_true h0, cond_true, cond_true, zeo (by omega) (by omega)]
 · rw [decide_eq_false h0, cond_false, cond_false, zeo (n := vars - numI n (2 * vars)) (by omega) (by omega), zeo (by omega) (by omega)]
theorem zu0 {n vars : Int} (h1 : 0 < vars) (h2 : vars ≤ 1000000) : litI n vars ≠ 0 ∧ -vars ≤ litI n vars ∧ litI n vars ≤ vars := by
 have hr := zuR (n := n) (b := 2 * vars) (by omega) (by omega)
 unfold litI
 by_cases h0 : numI n (2 * vars) < vars
 · rw [decide_eq_true h0, cond_true]; omega
 · rw [decide_eq_false h0, cond_false]; omega
end Go.Proofs.YtdmbfmgebgdfnaaDoor
namespace Go.Proofs.YtdmbfmgebgdfnaaDoor
open Go.RowKit
def zAF (n vars : Int) : Int := litI (IntKind.wrap .i64 (Int.tdiv (numI n 1099511627776) 7)) vars
def zCy (n : Int) (c : List Int) : Bool := (decide (numI n 7 = 0) && decide (0 < c.length)) || decide (5 ≤ c.length)
def clGo (vars : Int) : List Int → List (List Int) → List Int → List (List Int)
 | [], cc, c => if c = [] then cc else cc ++ [c]
 | n :: l, cc, c => if zCy n c = true then clGo vars l (cc ++ [c]) [zAF n vars] else clGo vars l cc (c ++ [zAF n vars])
def znf (l : List Int) (vars : Int) : List (List Int) := if vars < 1 then [] else clGo vars l [] []
theorem zvR (fuel d : Nat) {l : List Int} {vars : Int} (hv : 0 < vars) (hv' : vars ≤ 1000000) (hl : l.length < 1000000) {h0 : AH} : ∀ (n k : Nat) (cc : List (List Int)) (c : List Int) (s5 s6 : Sl) (h : AH), l.length < n + k → k ≤ l.length → cc.length ≤ k → c.length ≤ k →
   Sep0 h0 h [.grown 1 s5 (zoo cc), .grown 1 s6 (zaS c)] →
   ∃ s' h', (zbR fuel (d + 2) n [(0, .slice (lstI l)), (1, .int .i64 vars), (5, .slice s5), (6, .slice s6), (7, .int .i64 (k : Int))] h).bind (fun p => zcp fuel (d + 2) p.1 p.2.1 p.2.2) = some (.slice s', h') ∧
     New h0 h' (.grown 1 s' (zoo (clGo vars (l.drop k) cc c))) := by
 intro n
 induction n with
 | zero => intro k cc c s5 s6 h h1 h2; omega
 | succ n ih =>
   intro k cc c s5 s6 h h1 h2 h3 h4 hs
   have l5 := hs.len (i := 0) rfl
   have l6 := hs.len (i := 1) rfl
   simp only [List.length_map, Nat.mul_one] at l5 l6
   rw [zn9, zeW]
   by_cases hk : k < l.length
   · rw [zan (by omega), zjk hk 0, zcC _ (by omega) (by omega) 0]
     simp only [o_bd, zeG, zam, Int.toNat_natCast, ztn fuel (d + 1) (show (7 : Int) ≠ 0 by decide), ← l6]
     have hcut : (bif (bif decide (numI (l.getD k 0) 7 = 0) then decide ((0 : Int) < (c.length : Int)) else false) then true else decide ((5 : Int) ≤ (c.length : Int))) = zCy (l.getD k 0) c := by
       unfold zCy
       have e1 : decide ((0 : Int) < (c.length : Int)) = decide (0 < c.length) := by congr 1; simp
       have e2 : decide ((5 : Int) ≤ (c.length : Int)) = decide (5 ≤ c.length) := by congr 1; simp; omega
       rw [e1, e2]
       cases decide (numI (l.getD k 0) 7 = 0) <;> cases decide (0 < c.length) <;> cases decide (5 ≤ c.length) <;> rfl
     rw [hcut]
     simp only [clGo]
     have step : ∀ (cc : List (List Int)) (c : List Int) (s5 s6 : Sl) (h : AH), cc.length ≤ k + 1 → c.length ≤ k → Sep0 h0 h [.grown 1 s5 (zoo cc), .grown 1 s6 (zaS c)] →
         ∃ s' h', (zdy fuel (d + 2) n .normal [(0, .slice (lstI l)), (1, .int .i64 vars), (5, .slice s5), (6, .slice s6), (7, .int .i64 (k : Int))] h).bind (fun p => zcp fuel (d + 2) p.1 p.2.1 p.2.2) = some (.slice s', h') ∧
           New h0 h' (.grown 1 s' (zoo (clGo vars (l.drop (k + 1)) cc (c ++ [zAF (l.getD k 0) vars])))) := by
       intro cc c s5 s6 h h3 h4 hs
       have l6 := hs.len (i := 1) rfl
       simp only [List.length_map, Nat.mul_one] at l6
       obtain ⟨s', h', e1, e2, e3⟩ := hs.grow (i := 1) (bytes := 8) (m := 1) (vs := [.int .i64 (zAF (l.getD k 0) vars)]) rfl rfl (by omega) (by omega)
       rw [zoA, zcC _ (by omega) (by omega) 0]
       simp only [o_bd, zeG, zam, Int.toNat_natCast, ztn fuel (d + 1) (show (1099511627776 : Int) ≠ 0 by decide)]
       rw [zy4 fuel d hv hv']
       have e1' : AH.append h false 1 8 s6 1 [.int .i64 (litI (IntKind.wrap .i64 (Int.tdiv (numI (l.getD k 0) 1099511627776) 7)) vars)] = some (s', h') := e1
       simp only [o_bd, zam, e1']
       rw [zlr (by omega)]
       refine ih (k + 1) cc (c ++ [zAF (l.getD k 0) vars]) s5 s' h' (by omega) (by omega) (by omega) (by simp; omega) ?_
       rw [zvD]
       exact e2
     cases hc : zCy (l.getD k 0) c with
     | true =>
       obtain ⟨h5, f1, f2⟩ := hs.fix (i := 1) (sz := 1) (s := s6) (cs := zaS c) rfl (zi7 (fun _ => rfl) c) 1
       obtain ⟨s', h', e1, e2, e3⟩ := f2.grow (i := 0) (sz := 1) (s := s5) (cs := zoo cc) (bytes := 24) (m := 1) (vs := [.slice (lstI c)]) rfl rfl (by omega) (by omega)
       have hfx : h.fixL [.slice s6] = ([.slice (lstI c)], h5) := by rw [zuj, f1, ← l6]
       simp only [cond_true, hfx, e1, o_bd, if_true]
       exact step (cc ++ [c]) [] s' .nil h' (by simp; omega) (by simp) (by rw [zsX]; exact e2)
     | false =>
       simp only [cond_false, o_bd, Bool.false_eq_true, if_false]
       exact step cc c s5 s6 h (by omega) h4 hs
   · have : k = l.length := by omega
     subst this
     rw [zah (by omega), List.drop_eq_nil_of_le (by omega)]
     simp only [o_bd, zof, clGo, ← l6]
     by_cases h0 : c = []
     · subst h0
       rw [zah (by simp)]
       exact ⟨s5, h, rfl, hs.get (i := 0) rfl⟩
     · have : 0 < c.length := List.length_pos_iff.2 h0
       rw [zan (by omega), if_neg h0]
       obtain ⟨h5, f1, f2⟩ := hs.fix (i := 1) (sz := 1) (s := s6) (cs := zaS c) rfl (zi7 (fun _ => rfl) c) 1
       obtain ⟨s', h', e1, e2, e3⟩ := f2.grow (i := 0) (sz := 1) (s := s5) (cs := zoo cc) (bytes := 24) (m := 1) (vs := [.slice (lstI c)]) rfl rfl (by omega) (by omega)
       have hfx : h.fixL [.slice s6] = ([.slice (lstI c)], h5) := by rw [zuj, f1, ← l6]
       simp only [hfx, e1, o_bd]
       refine ⟨s', h', rfl, ?_⟩
       rw [zsX]
       exact e2.get (i := 0) rfl
theorem zv7 (fuel d : Nat) {l : List Int} {vars : Int} (hv' : vars ≤ 1000000) (hl : l.length < 1000000) (hf : l.length < fuel) (h : AH) :
   ∃ s h', (bif (decide (vars < (1 : Int))) then (some ((AV.slice Sl.nil), h)) else ((zbR fuel (d + 2) fuel [(0, (AV.slice (lstI l))), (1, (AV.int .i64 vars)), (5, (AV.slice Sl.nil)), (6, (AV.slice Sl.nil)), (7, (AV.int .i64 (0 : Int)))] h).bind fun p1 => zcp fuel (d + 2) p1.1 p1.2.1 p1.2.2)) = some (.slice s, h') ∧ New h h' (.grown 1 s (zoo (znf l vars))) := by
 unfold znf
 by_cases hv : vars < 1
 · rw [zan hv, if_pos hv]
   exact ⟨_, _, rfl, zcs.refl _ _, .nil, fun r hr => by cases hr⟩
 · rw [zah hv, if_neg hv]
   obtain ⟨s', h', e1, e2⟩ := zvR fuel d (l := l) (vars := vars) (by omega) hv' hl (h0 := h) fuel 0 [] [] .nil .nil h (by omega) (by omega) (by simp) (by simp) ((((Sep0.start h).addNil 1).addNil 1))
   rw [show ((0 : Nat) : Int) = 0 from rfl] at e1
   rw [List.drop_zero] at e2
   exact ⟨s', h', e1, e2⟩
theorem zus {vars : Int} (hv : 0 < vars) (hv' : vars ≤ 1000000) : ∀ (l : List Int) (cc : List (List Int)) (c : List Int), (∀ b ∈ cc, ∀ x ∈ b, x ≠ 0 ∧ -vars ≤ x ∧ x ≤ vars) → (∀ x ∈ c, x ≠ 0 ∧ -vars ≤ x ∧ x ≤ vars) → ∀ b ∈ clGo vars l cc c, ∀ x ∈ b, x ≠ 0 ∧ -vars ≤ x ∧ x ≤ vars
 | [], cc, c, h1, h2 => by
   unfold clGo
   split
   · exact h1
   · intro b hb
     rcases List.mem_append.1 hb with hb | hb
     · exact h1 b hb
     · rw [List.mem_singleton.1 hb]; exact h2
 | n :: l, cc, c, h1, h2 => by
   have hl : zAF n vars ≠ 0 ∧ -vars ≤ zAF n vars ∧ zAF n vars ≤ vars := zu0 hv hv'
   unfold clGo
   split
   · refine zus hv hv' l _ _ (fun b hb => ?_) fun x hx => by rw [List.mem_singleton.1 hx]; exact hl
     rcases List.mem_append.1 hb with hb | hb
     · exact h1 b hb
     · rw [List.mem_singleton.1 hb]; exact h2
   · refine zus hv hv' l _ _ h1 fun x hx => ?_
     rcases List.mem_append.1 hx with hx | hx
     · exact h2 x hx
     · rw [List.mem_singleton.1 hx]; exact hl
theorem zvc {vars : Int} (hv' : vars ≤ 1000000) (l : List Int) : ∀ b ∈ znf l vars, ∀ x ∈ b, x ≠ 0 ∧ -vars ≤ x ∧ x ≤ vars := by
 unfold znf
 split
 · intro b hb; cases hb
 · exact zus (by omega) hv' l [] [] (fun b h => by cases h) fun x h => by cases h
theorem ztd {vars : Int} : ∀ (l : List Int) (cc : List (List Int)) (c : List Int), zqP (clGo vars l cc c) = zqP cc + c.length + l.length
 | [], cc, c => by
   unfold clGo zqP
   split
   · rename_i h; subst h; simp
   · simp
 | n :: l, cc, c => by
   unfold clGo
   split
   · rw [ztd l]; simp [zqP]; omega
   · rw [ztd l]; simp; omega
theorem zut {vars : Int} : ∀ (l : List Int) (cc : List (List Int)) (c : List Int), (∀ b ∈ cc, b ≠ []) → ∀ b ∈ clGo vars l cc c, b ≠ []
 | [], cc, c, h => by
   unfold clGo
   split
   · exact h
   · rename_i h0
     intro b hb
     rcases List.mem_append.1 hb with hb | hb
     · exact h b hb
     · rw [List.mem_singleton.1 hb]; exact h0
 | n :: l, cc, c, h => by
   unfold clGo
   split
   · rename_i hc
     refine zut l _ _ fun b hb => ?_
     rcases List.mem_append.1 hb with hb | hb
     · exact h b hb
     · rw [List.mem_singleton.1 hb]
       rintro rfl
       simp [zCy] at hc
   · exact zut l _ _ h
theorem ztC : ∀ {cc : List (List Int)}, (∀ b ∈ cc, b ≠ []) → cc.length ≤ zqP cc ∧ ∀ b ∈ cc, b.length ≤ zqP cc
 | [], _ => ⟨Nat.le_refl _, fun b h => by cases h⟩
 | c :: cc, h => by
   obtain ⟨h1, h2⟩ := ztC (cc := cc) fun b hb => h b (List.mem_cons_of_mem _ hb)
   have h0 := List.length_pos_iff.2 (h c (List.mem_cons_self ..))
   have e : zqP (c :: cc) = c.length + zqP cc := by simp [zqP]
   refine ⟨by rw [e, List.length_cons]; omega, fun b hb => ?_⟩
   rcases List.mem_cons.1 hb with rfl | hb
   · omega
   · have := h2 b hb; omega
theorem zvb (l : List Int) (vars : Int) : (znf l vars).length ≤ l.length ∧ zqP (znf l vars) ≤ l.length ∧ ∀ b ∈ znf l vars, b.length ≤ l.length := by
 unfold znf
 split
 · exact ⟨by simp, by simp [zqP], fun b h => by cases h⟩
 · have e := ztd (vars := vars) l [] []
   simp only [zqP, List.map_nil, List.sum_nil, List.length_nil, Nat.zero_add] at e
   obtain ⟨h1, h2⟩ := ztC (zut (vars := vars) l [] [] fun b h => by cases h)
   unfold zqP at h1 h2
   exact ⟨by omega, by unfold zqP; omega, fun b hb => by have := h2 b hb; omega⟩
end Go.Proofs.YtdmbfmgebgdfnaaDoor
namespace Go.Proofs.YtdmbfmgebgdfnaaDoor
open Go.RowKit
section
variable {h0 h : AH} {b : Bs} {R : List zcJ} {n : Nat} {cl : zkQ}
theorem zt0 {c : zcJ} {lo : Nat} (hs : Sep0 h0 h (c :: bAll lo b n cl R)) : Sep0 h0 h (bAll lo b n cl (c :: R)) := hs.perm (mid5 _ _ _ _ _ _ _)
theorem zqE {c : zcJ} {lo : Nat} (hs : Sep0 h0 h (bAll lo b n cl (c :: R))) : Sep0 h0 h (c :: bAll lo b n cl R) := hs.perm (mid5 _ _ _ _ _ _ _).symm
theorem zwn {n : Nat} (hn : n ≤ 4000) {l : Int} (h : zjg l n = true) : zqa l := by
 have := zbs.1 h
 exact ⟨by omega, by omega⟩
end
end Go.Proofs.YtdmbfmgebgdfnaaDoor
namespace Go.Proofs.YtdmbfmgebgdfnaaDoor
open Go.RowKit
theorem zBZ (fuel d : Nat) {n : Nat} (hn : n < 1000000000) (h : AH) :
   ∃ s' h', run fuel (d + 1) zex [.slice .nil, .int .i64 (n : Int)] h = some (.slice s', h') ∧ zkL h' 1 s' (zaS []) ∧ zcs h h' (fun _ => False) ∧ s'.len = 0 ∧ (∀ r, s'.row = some r → h.rows.length ≤ r) := by
 rw [zpb, zah (by omega)]
 have hc : Sl.capOf .nil = some 0 := rfl
 simp only [o_bd, znn, hc]
 have hw : IntKind.wrap .i64 ((n : Int) - IntKind.wrap .i64 (((0 : Nat) : Int) - ((Sl.nil.len : Nat) : Int))) = (n : Int) := by
   rw [show IntKind.wrap .i64 (((0 : Nat) : Int) - ((Sl.nil.len : Nat) : Int)) = 0 from rfl, Int.sub_zero, zeo (by omega) (by omega)]
 rw [hw]
 by_cases h0 : n = 0
 · subst h0
   exact ⟨.nil, h, rfl, .nil, zcs.refl _ _, rfl, fun r h => by cases h⟩
 · rw [zan (by omega), zqJ (by omega) (by simp)]
   simp only [o_bd]
   rw [show (((0 : Nat) : Int)).toNat = 0 from rfl, zqI]
   simp only [o_bd, zmh]
   rw [zta _ _ (show AH.hasSz h 1 .nil = true from rfl), zta]
   · obtain ⟨s2, h2, e1, e2, e3, e4, e5⟩ := (zkL.nil (h := h) (sz := 1)).more (bytes := 8) (m := n) (vs := List.replicate n (.int .i64 0)) (by simp) (by simp [Sl.len]; omega) (by simp [Sl.len]; omega)
     have hap : AH.append h false 1 8 (Sl.cut .nil 1 0 0 false) (Int.toNat (n : Int)) (za9 [(AV.int .i64 (0 : Int))] (Int.toNat (n : Int))) = some (s2, h2) := by
       rw [Int.toNat_natCast, zpn]; exact e1
     rw [hap]
     simp only [o_bd]
     rw [zqJ (x := ((Sl.nil.len : Nat) : Int)) (by simp [Sl.len]) (by simp [Sl.len])]
     simp only [o_bd]
     rw [show ((Sl.nil.len : Nat) : Int).toNat = 0 from rfl, zqI]
     simp only [o_bd, zmh]
     rw [zta _ _ e2.hasSz]
     simp only [Sl.len, Nat.zero_add] at e3
     have hk : zcs h h2 (fun _ => False) := e4.mono fun i _ e => by cases e
     generalize ([] : List AV) ++ List.replicate n (AV.int .i64 0) = cs at e2
     cases e2 with
     | nil => simp [Sl.len] at e3; omega
     | none => simp [Sl.len] at e3; omega
     | room => simp [Sl.len] at e3; omega
     | row h1 hc hn hg hv hr hs =>
       refine ⟨_, _, rfl, ?_, hk, rfl, fun r hr => ?_⟩
       · simpa [Sl.cut] using zkL.room h1 hg hv hr hs
       · rcases e5 with e5 | e5
         · cases e5
         · simp [Sl.cut, Sl.row] at hr e5
           omega
     | full h0 h1 hc hn hg hv hr hs =>
       refine ⟨_, _, rfl, ?_, hk, rfl, fun r hr => ?_⟩
       · have := zkL.room h1 hg hv hr hs
         simp only [Sl.cut, Nat.zero_mul, Nat.add_zero, Nat.sub_zero, zfc.2 (Ne.symm h0), Bool.and_false]
         simpa using this
       · rw [Sl.row_mk h0] at e5
         rcases e5 with e5 | e5
         · cases e5
         · simp [Sl.cut, Sl.row, zfc.2 (Ne.symm h0)] at hr e5
           omega
   · simp only [Bool.and_eq_true, decide_eq_true_eq]
     omega
def zuD : List (List Int) → Nat
 | [] => 0
 | c :: l => c.length + zuD l
theorem ztD {cc : List (List Int)} {k : Nat} (h : k < cc.length) : zuD (cc.drop k) = (cc.getD k []).length + zuD (cc.drop (k + 1)) := by
 rw [zjk h []]
 rfl
end Go.Proofs.YtdmbfmgebgdfnaaDoor
namespace Go.Proofs.YtdmbfmgebgdfnaaDoor
open Go.RowKit
section
variable {h0 : AH} {R : List zcJ}
theorem zCA (fuel d : Nat) {x y : Sl} {cc : List (List Int)} {h : AH} (hG : Nest h x cc) (hcl : cc.length < 1000000000) : ∀ (n k a : Nat), cc.length < n + k → k ≤ cc.length → a + zuD (cc.drop k) < 1000000000 →
   zbP fuel d n [(0, .slice y), (3, .int .i64 (a : Int)), (9, .slice x), (10, .int .i64 (cc.length : Int)), (11, .int .i64 (k : Int))] h = some (.exit 0, [(0, .slice y), (3, .int .i64 ((a + zuD (cc.drop k) : Nat) : Int))], h) := by
 intro n
 induction n with
 | zero => intro k a h1 h2; omega
 | succ n ih =>
   intro k a h1 h2 ha
   rw [zl5]
   by_cases hk : k < cc.length
   · obtain ⟨s', a1, a2, a3, a4⟩ := hG.read hk
     rw [zan (by omega), a1, o_bd, a2]
     rw [ztD hk] at ha ⊢
     simp only [o_bd, zac]
     have hw : IntKind.wrap .i64 ((a : Int) + ((s'.len : Nat) : Int)) = ((a + (cc.getD k []).length : Nat) : Int) := by rw [a4, zeo (by omega) (by omega)]; omega
     rw [hw, zah (by omega), zlr (by omega), ih (k + 1) _ (by omega) (by omega) (by omega), Nat.add_assoc]
   · have : k = cc.length := by omega
     subst this
     rw [zah (by omega), List.drop_length]
     rfl
theorem zBB (fuel d : Nat) {x : Sl} {cc : List (List Int)} (hG : zsd h0 R x cc) (hcl : cc.length < 1000000000) : ∀ (n k : Nat) (s6 : Sl) (acc : List Int) (h : AH), cc.length < n + k → k ≤ cc.length → acc.length + zuD (cc.drop k) < 1000000000 → Sep0 h0 h (.grown 1 s6 (zaS acc) :: R) →
   ∃ s' h', zbO fuel d n [(6, .slice s6), (25, .slice x), (26, .int .i64 (cc.length : Int)), (27, .int .i64 (k : Int))] h = some (.exit 2, [(6, .slice s')], h') ∧ Sep0 h0 h' (.grown 1 s' (zaS (acc ++ (cc.drop k).flatten)) :: R) := by
 intro n
 induction n with
 | zero => intro k s6 acc h h1 h2; omega
 | succ n ih =>
   intro k s6 acc h h1 h2 ha hs
   rw [zl4]
   have h6l := hs.len (i := 0) rfl
   simp only [List.length_map, Nat.mul_one] at h6l
   by_cases hk : k < cc.length
   · obtain ⟨t, a1, a2, a3, a4⟩ := (hG h hs.tl).read hk
     rw [zan (by omega), a1, o_bd, a2]
     rw [ztD hk] at ha
     simp only [o_bd, zac, a3, a4]
     obtain ⟨s', h', e1, s1, _⟩ := hs.grow (i := 0) (bytes := 8) (m := (cc.getD k []).length) (vs := zaS (cc.getD k [])) rfl (by simp) (by omega) (by omega)
     rw [set0, ← zhT] at s1
     rw [e1]
     simp only [o_bd]
     rw [zlr (by omega)]
     obtain ⟨t', h'', g1, g2⟩ := ih (k + 1) s' (acc ++ cc.getD k []) h' (by omega) (by omega) (by rw [List.length_append]; omega) s1
     refine ⟨t', h'', g1, ?_⟩
     rw [zjk hk [], List.flatten_cons, ← List.append_assoc]
     exact g2
   · have : k = cc.length := by omega
     subst this
     rw [zah (by omega), List.drop_length]
     exact ⟨s6, h, rfl, by simpa using hs⟩
theorem zyE (fuel d : Nat) {h : AH} (hs : Sep0 h0 h R) {x : Sl} {cc : List (List Int)} (hG : zsd h0 R x cc) (hcl : cc.length < 1000000000) (hf : cc.length < fuel) (hsum : zuD cc < 1000000000) :
   ∃ s' h', run fuel (d + 2) zaX [.slice x] h = some (.slice s', h') ∧ Sep0 h0 h' (.grown 1 s' (zaS cc.flatten) :: R) := by
 have hn := hG h hs
 have e1 := zCA fuel (d + 1) (y := x) hn hcl fuel 0 0 (by omega) (by omega) (by simpa using hsum)
 rw [List.drop_zero, Nat.zero_add] at e1
 obtain ⟨s2, h2, e2, w2, k2, l2, f2⟩ := zBZ fuel d hsum h
 have s1 : Sep0 h0 h2 (.grown 1 s2 (zaS []) :: R) := (hs.add (c := .grown 1 s2 (zaS [])) ⟨k2, w2, f2⟩).cons
 obtain ⟨s', h', e3, g3⟩ := zBB fuel (d + 1) hG hcl fuel 0 s2 [] h2 (by omega) (by omega) (by simpa using hsum) s1
 rw [Int.natCast_zero] at e1 e3
 rw [List.drop_zero, List.nil_append] at g3
 rw [zok, hn.len]
 simp only [e1, o_bd, zl9, e2, zac]
 rw [hn.len, e3]
 simp only [o_bd, zl8]
 exact ⟨s', h', rfl, g3⟩
end
end Go.Proofs.YtdmbfmgebgdfnaaDoor
namespace Go.Proofs.YtdmbfmgebgdfnaaDoor
open Go.RowKit
section
variable {h0 h : AH} {L : List zcJ}
theorem Part.clear1 {s : Sl} {cs : List AV} (hp : Part h 1 s cs) {lo : Nat} (hlo : lo ≤ s.len) (z : AV) :
   ∃ h', h.clear false [z] 1 (s.cut 1 lo s.len false) = some h' ∧ Part h' 1 s (cs.take lo ++ List.replicate (s.len - lo) z) ∧ zcs h h' (fun i => s.row = some i) := by
 have hlen := hp.len
 rw [Nat.mul_one] at hlen
 by_cases h0 : s.len - lo = 0
 · have hcl : (s.cut 1 lo s.len false).len = 0 := by
     rw [zAA (fun e => by subst e; simp [Sl.len])]
     exact h0
   refine ⟨h, by simp only [AH.clear, hcl]; rfl, ?_, zcs.refl _ _⟩
   rw [h0, List.replicate_zero, List.append_nil, List.take_of_length_le (by omega)]
   exact hp
 · obtain ⟨id, gen, off, n, c, row, rfl, q0, q1, q2, q3, q4, q5, q6, q7⟩ := hp.open (by omega)
   simp only [Sl.len, Nat.mul_one] at hlo hlen h0 q2 q3
   have hlt := (List.getElem?_eq_some_iff.1 q1).1
   have hle : off + lo + (n - lo) ≤ row.cells.length := by omega
   refine ⟨h.setRow id { row with cells := AH.overlay row.cells (off + lo) (List.replicate (n - lo) z), valid := row.gen }, ?_, ?_, (zcs.setRow h id _).mono fun i _ e => by subst e; exact Sl.row_mk q0 c⟩
   · rw [show (Sl.mk ⟨id, gen, off⟩ n c).len = n from rfl, zvO]
     simp only [AH.clear, Sl.len, zll, h0, decide_false, cond_false, q1, q7, decide_true, cond_true, AH.store, q6, Bool.not_false, zpn, List.length_replicate, ble_eq, Nat.mul_one, hle, Bool.and_self, q4]
   · refine .cut (row := { row with cells := AH.overlay row.cells (off + lo) (List.replicate (n - lo) z), valid := row.gen }) (fun _ => q0) ?_ ?_ ?_ q4 (by rw [← q4]; exact Nat.le_refl _) q6 q7
     · simp only [AH.setRow]
       exact List.getElem?_set_self hlt
     · simp only [AH.overlay, List.length_append, List.length_take, List.length_drop, List.length_replicate]
       omega
     · have hR : row.cells = row.cells.take off ++ row.cells.drop off := (List.take_append_drop off row.cells).symm
       have hA : (row.cells.take off).length = off := by rw [List.length_take]; omega
       have hB : n ≤ (row.cells.drop off).length := by rw [List.length_drop]; omega
       have := ztH (row.cells.take off) (row.cells.drop off) (List.replicate (n - lo) z) (N := n) (k := lo) hB (by simp; omega)
       rw [← hR, hA] at this
       simp only [AH.overlay, Nat.mul_one]
       have e9 : List.drop (lo + (List.replicate (n - lo) z).length) (List.take n (row.cells.drop off)) = [] := List.drop_eq_nil_of_le (by simp; omega)
       rw [this, q3, show (Sl.mk ⟨id, gen, off⟩ n c).len = n from rfl, e9, List.append_nil]
theorem Sep0.clearP (hs : Sep0 h0 h L) {i : Nat} {s : Sl} {cs : List AV} (hi : L[i]? = some (.part 1 s cs)) {lo : Nat} (hlo : lo ≤ s.len) (z : AV) :
   ∃ h', h.clear false [z] 1 (s.cut 1 lo s.len false) = some h' ∧ Sep0 h0 h' (L.set i (.part 1 s (cs.take lo ++ List.replicate (s.len - lo) z))) := by
 obtain ⟨h', e1, e2, e3⟩ := (hs.sep.partOf hi).clear1 hlo z
 have hf : ∀ r, s.row = some r → h0.rows.length ≤ r := fun r hr => hs.fresh _ (List.mem_of_getElem? hi) r hr
 refine ⟨h', e1, hs.sep.set hi e3 e2 (fun r hr => .inl hr), zkr hs.ext e3 hf, fun c hc r hr => ?_⟩
 rcases zqT hc with hc | rfl
 · exact hs.fresh c hc r hr
 · exact hf r hr
theorem Sep0.putI (hs : Sep0 h0 h L) {i : Nat} {s : Sl} {l : List Int} (hi : L[i]? = some (.part 1 s (zaS l))) {k : Nat} (hk : k < l.length) (x : Int) :
   ∃ h', (∀ {β : Type} (K : AH → Option β), ((h.addr 1 s (k : Int)).bind fun p => (h.storeAt [.int .i64 x] p).bind K) = K h') ∧ Sep0 h0 h' (L.set i (.part 1 s (zaS (l.set k x)))) := by
 have hl := hs.lenP hi
 simp only [List.length_map, Nat.mul_one] at hl
 have hc := hs.cellsP hi
 obtain ⟨p, h', e1, e2, s1⟩ := hs.putP (k := k) (o := 0) (vs := [.int .i64 x]) hi (by omega) (by simp)
 refine ⟨h', fun K => ?_, ?_⟩
 · have hp : p = s.at 1 (k : Int) := by
     cases s with
     | nil => rw [show Sl.nil.len = 0 from rfl] at hl; omega
     | mk r n c => simp only [Sl.at, Pt.field, Nat.add_zero] at e1; exact (Option.some.inj e1).symm
     | lst n c cs => exact absurd (hs.sep.partOf hi) (by intro h; cases h with | of h => cases h)
   rw [znh hc (by omega) (by omega), o_bd, ← hp, e2, o_bd]
 · have : (zaS l).take (k * 1 + 0) ++ [AV.int .i64 x] ++ (zaS l).drop (k * 1 + 0 + 1) = zaS (l.set k x) := by
     rw [List.set_eq_take_append_cons_drop, if_pos hk]
     simp
   rw [List.length_singleton, this] at s1
   exact s1
end
def zow (p : Int → Bool) (l : List Int) (j : Nat) : List Int := (l.take j).filter fun x => !p x
theorem zyg (p : Int → Bool) (l : List Int) (j : Nat) : (zow p l j).length ≤ j := by
 unfold zow
 exact Nat.le_trans (List.length_filter_le _ _) (by rw [List.length_take]; omega)
theorem zsQ (p : Int → Bool) {l : List Int} {j : Nat} (hj : j < l.length) : zow p l (j + 1) = zow p l j ++ (if p (l.getD j 0) = true then [] else [l.getD j 0]) := by
 unfold zow
 rw [zia hj 0, List.filter_append]
 congr 1
 by_cases h : p (l.getD j 0) = true
 · rw [if_pos h, List.filter_cons, List.filter_nil, h]; rfl
 · rw [if_neg h, List.filter_cons, List.filter_nil]
   simp only [Bool.not_eq_true] at h
   rw [h]; rfl
section
variable {h0 : AH}
theorem zCv (fuel d : Nat) {l : List Int} (hl : l.length < 1000000000) {s : Sl} {f : Nat} {r : Ref} {lim : Nat} {p : Int → Bool} {R : List zcJ} (hp : ∀ (h : AH), Sep0 h0 h R → ∀ x ∈ l, run fuel d f [.int .i64 x, .ptr (.mk r lim)] h = some (.bool (p x), h)) : ∀ (n j : Nat) (h : AH), l.length < n + j → j ≤ l.length → Sep0 h0 h (.part 1 s (zaS (zow p l j ++ l.drop (zow p l j).length)) :: R) →
   ∃ h', zaL fuel d n [(0, .slice s), (1, .func f [.mk r lim]), (5, .int .i64 ((zow p l j).length : Int)), (6, .int .i64 (j : Int))] h = some (.exit 0, [(0, .slice s), (5, .int .i64 ((zow p l l.length).length : Int))], h') ∧ Sep0 h0 h' (.part 1 s (zaS (zow p l l.length ++ l.drop (zow p l l.length).length)) :: R) := by
 intro n
 induction n with
 | zero => intro j h h1 h2; omega
 | succ n ih =>
   intro j h h1 h2 hs
   have hkl := zyg p l j
   have hlen := hs.lenP (i := 0) rfl
   simp only [List.length_map, List.length_append, List.length_drop, Nat.mul_one] at hlen
   have hsl : s.len = l.length := by omega
   rw [zkh, hsl]
   by_cases hj : j < l.length
   · have hm : l.getD j 0 ∈ l := by rw [List.getD_eq_getElem?_getD, List.getElem?_eq_getElem hj]; exact List.getElem_mem hj
     have hget : (zaS (zow p l j ++ l.drop (zow p l j).length))[((j : Nat) : Int).toNat]? = some (.int .i64 (l.getD j 0)) := by
       rw [Int.toNat_natCast, List.getElem?_map, List.getElem?_append_right (by omega), List.getElem?_drop, show (zow p l j).length + (j - (zow p l j).length) = j by omega, List.getElem?_eq_getElem hj]
       simp [hj]
     rw [zan (by omega), zrr (hs.cellsP (i := 0) rfl) (by omega) hget]
     simp only [o_bd, zam, List.map_cons, List.map_nil, List.cons_append, List.nil_append, hp h hs.tl _ hm, zaf]
     have hks := zsQ p hj
     cases hpx : p (l.getD j 0) with
     | true =>
       rw [if_pos hpx, List.append_nil] at hks
       simp only [Bool.not_true, cond_false]
       rw [zlr (by omega), ← hks]
       exact ih (j + 1) h (by omega) (by omega) (by rw [hks]; exact hs)
     | false =>
       rw [if_neg (by rw [hpx]; simp)] at hks
       simp only [Bool.not_false, cond_true]
       obtain ⟨h', e1, s1⟩ := hs.putI (i := 0) rfl (k := (zow p l j).length) (by simp; omega) (l.getD j 0)
       rw [set0] at s1
       rw [e1, zlr (by omega), zlr (by omega)]
       have hlk : (zow p l (j + 1)).length = (zow p l j).length + 1 := by rw [hks]; simp
       rw [← hlk]
       refine ih (j + 1) h' (by omega) (by omega) ?_
       have : (zow p l j ++ l.drop (zow p l j).length).set (zow p l j).length (l.getD j 0) = zow p l (j + 1) ++ l.drop (zow p l (j + 1)).length := by
         rw [hlk, hks, List.set_append_right _ _ (Nat.le_refl _), Nat.sub_self, List.drop_eq_getElem_cons (by omega), List.set_cons_zero, List.append_assoc]
         rfl
       rw [← this]
       exact s1
   · have : j = l.length := by omega
     subst this
     rw [zah (by omega)]
     exact ⟨h, rfl, hs⟩
theorem zyj (p : Int → Bool) : ∀ (l : List Int) (k : Nat), idxF p l k = -1 ∨ ∃ j, j < l.length ∧ idxF p l k = ((k + j : Nat) : Int) ∧ p (l.getD j 0) = true ∧ ∀ i, i < j → p (l.getD i 0) = false
 | [], k => .inl rfl
 | x :: l, k => by
   unfold idxF
   by_cases h : p x = true
   · rw [if_pos h]
     exact .inr ⟨0, by simp, by simp, h, fun i hi => absurd hi (Nat.not_lt_zero i)⟩
   · rw [if_neg h]
     rcases zyj p l (k + 1) with e | ⟨j, h1, h2, h3, h4⟩
     · exact .inl e
     · refine .inr ⟨j + 1, by simp; omega, by rw [h2]; omega, h3, fun i hi => ?_⟩
       cases i with
       | zero => simpa using h
       | succ i => exact h4 i (by omega)
theorem zzv {p : Int → Bool} {l : List Int} {j : Nat} (hj : j ≤ l.length) (h : ∀ i, i < j → p (l.getD i 0) = false) : zow p l j = l.take j := by
 induction j with
 | zero => simp [zow]
 | succ j ih =>
   rw [zsQ p (by omega), ih (by omega) (fun i hi => h i (by omega)), if_neg (by rw [h j (by omega)]; simp), zia (by omega) 0]
theorem zCu (fuel d : Nat) {h : AH} {l : List Int} (hl : l.length < 1000000000) (hf : l.length < fuel) {s : Sl} {f : Nat} {r : Ref} {lim : Nat} {p : Int → Bool} {R : List zcJ} (hp : ∀ (d : Nat) (h : AH), Sep0 h0 h R → ∀ x ∈ l, run fuel (d + 1) f [.int .i64 x, .ptr (.mk r lim)] h = some (.bool (p x), h)) (hs : Sep0 h0 h (.part 1 s (zaS l) :: R)) :
   ∃ s' h', run fuel (d + 3) zbp [.slice s, .func f [.mk r lim]] h = some (.slice s', h') ∧ Sep0 h0 h' (.part 1 s' (zaS (l.filter fun x => !p x)) :: R) := by
 have hlen := hs.lenP (i := 0) rfl
 simp only [List.length_map, Nat.mul_one] at hlen
 rw [zvq rfl (zqD rfl) (zsM rfl), zmE, zCm fuel (d + 1) (hs.cellsP (i := 0) rfl) hl hf (hp d h hs.tl)]
 simp only [o_bd, zam]
 rcases zyj p l 0 with e | ⟨j, h1, h2, h3, h4⟩
 · rw [e, zan rfl]
   have hall : (l.filter fun x => !p x) = l := by
     rw [List.filter_eq_self]
     intro x hx
     have := zvE p l 0
     rw [e] at this
     have h9 : l.any p = false := this.symm
     rw [List.any_eq_false] at h9
     have := h9 x hx
     simpa using this
   rw [hall]
   exact ⟨s, h, rfl, hs⟩
 · rw [h2, Nat.zero_add, zah (by omega), zlr (by omega)]
   have hk := zzv (p := p) (by omega) h4
   have hk1 : zow p l (j + 1) = zow p l j := by rw [zsQ p h1, if_pos h3, List.append_nil]
   have hkl : (zow p l (j + 1)).length = j := by rw [hk1, hk, List.length_take]; omega
   have s0 : Sep0 h0 h (.part 1 s (zaS (zow p l (j + 1) ++ l.drop (zow p l (j + 1)).length)) :: R) := by
     rw [hkl, hk1, hk, List.take_append_drop]
     exact hs
   obtain ⟨h5, e5, s5⟩ := zCv fuel (d + 2) hl (s := s) (f := f) (r := r) (lim := lim) (p := p) (R := R) (hp (d + 1)) fuel (j + 1) h (by omega) (by omega) s0
   rw [hkl] at e5
   rw [e5]
   have hL := zyg p l l.length
   have hlen5 := s5.lenP (i := 0) rfl
   have hs5 := s5.cellsP (i := 0) rfl
   have hfil : zow p l l.length = l.filter fun x => !p x := by unfold zow; rw [List.take_length]
   simp only [o_bd, zkv]
   rw [zrN, o_bd, zrM (by omega) (by omega), o_bd, zmh, o_bd, zyo hs5 (by omega), cond_true, Int.toNat_natCast]
   obtain ⟨h6, e6, s6⟩ := s5.clearP (i := 0) rfl (lo := (zow p l l.length).length) (by omega) (.int .i64 0)
   rw [set0] at s6
   rw [e6]
   have hs6 := s6.cellsP (i := 0) rfl
   rw [o_bd, zqJ (by omega) (by omega), o_bd, zqI, o_bd, zmh, o_bd, zyo hs6 (by omega), cond_true, Int.toNat_natCast]
   have s7 := s6.cutP (i := 0) (lo := 0) (hi' := (zow p l l.length).length) rfl (by omega) (by omega)
   rw [set0] at s7
   refine ⟨_, h6, rfl, ?_⟩
   have e8 : (List.take ((zow p l l.length).length - 0) (List.drop 0 ((zaS (zow p l l.length ++ l.drop (zow p l l.length).length)).take (zow p l l.length).length ++ List.replicate (s.len - (zow p l l.length).length) (.int .i64 0)))) = zaS (l.filter fun x => !p x) := by
     rw [List.drop_zero, Nat.sub_zero, zhT, List.take_append_of_le_length (by simp), List.take_append_of_le_length (by simp), List.take_take, Nat.min_self, List.take_of_length_le (by simp), hfil]
   simp only [Nat.mul_one] at s7
   rw [e8] at s7
   exact s7
end
end Go.Proofs.YtdmbfmgebgdfnaaDoor
namespace Go.Proofs.YtdmbfmgebgdfnaaDoor
open Go.RowKit
section
variable {h0 h : AH} {R : List zcJ}
theorem zwW (fuel d : Nat) (hs : Sep0 h0 h R) {s : Sl} {c : List Int} (hc : h.sliceCells 1 s = some (zaS c)) (hcl : c.length < 1000000000) (hf : c.length < fuel) (hne : c ≠ []) (x : Int) :
   ∃ s' h', run fuel (d + 4) znC [.slice s, .int .i64 x] h = some (.slice s', h') ∧ Sep0 h0 h' (.part 1 s' (zaS (c.filter fun y => !decide (y = x))) :: R) := by
 rw [zu6]
 have s1 := (hs.push 1 1 (cs := [.int .i64 x]) rfl).cons
 have hc1 : (h.push 1 [.int .i64 x]).sliceCells 1 s = some (zaS c) := zfn (zcs.push _ _ _ _) hc
 obtain ⟨_, _, e2⟩ := zwN (fuel := fuel) (d + 2) hcl hc1
 rw [e2 hne]
 simp only [o_bd, zac]
 have hpos : 0 < c.length := List.length_pos_iff.2 hne
 have s2 := (((s1.push 1 c.length (cs := zaS c) (by simp)).toGrown false (by omega)).cons).toPart (i := 0) rfl
 rw [set0] at s2
 obtain ⟨s', h', e3, s3⟩ := zCu fuel d hcl hf (f := zn3) (r := ⟨h.next, 0, 0⟩) (lim := 1) (p := fun y => decide (y = x)) (fun d h hs y _ => by
   rw [ztt]
   have c0 : h.cell (.mk ⟨_, 0, 0⟩ 1) = some (.int .i64 x) := hs.part (i := 0) rfl (by omega) rfl
   simp only [c0, o_bd, zam]) s2
 rw [e3]
 exact ⟨s', h', rfl, s3.sub (((List.Sublist.refl R).cons _).cons_cons _)⟩
end
def zCE (n : Nat) (cl : zkQ) (c : List Int) : Option Int → Bool
 | none => false
 | some p => zfF n c && (byF cl (-p)).all fun e => zwB n cl (c ++ e.filter fun y => !decide (y = -p))
def zzY (n : Nat) (cl : zkQ) (c : List Int) : Bool := zwB n cl c || zCE n cl c c.head?
section
variable {h0 h : AH} {b : Bs} {R : List zcJ} {n : Nat} {cl : zkQ}
theorem zBG (fuel d : Nat) (hb : BOk b n cl) (hf : 2000000 < fuel) {s : Sl} {c : List Int} {p : Int} {r : List Int} (hcp : c = p :: r) (hp : zjg p n = true) (hS : zvm h0 (bAll h0.maps.length b n cl R) s c) (hcl : c.length < 500000) {ids : List Nat} (hids : ∀ i ∈ ids, ∃ e, atB cl i = some e ∧ -p ∈ e) (hil : ids.length < 1000000000) {t : Sl} (hT : zvm h0 (bAll h0.maps.length b n cl R) t (ids.map Int.ofNat)) : ∀ (m j : Nat) (h : AH), ids.length < m + j → j ≤ ids.length → Sep0 h0 h (bAll h0.maps.length b n cl R) →
   ∃ h', (zdt fuel (d + 7) m [(0, .ptr (bP b)), (1, .slice s), (27, .slice t), (28, .int .i64 (ids.length : Int)), (29, .int .i64 (j : Int))] h).bind (fun q => zcV fuel (d + 7) q.1 q.2.1 q.2.2) = some (.bool (((byC cl ids).drop j).all fun e => zwB n cl (c ++ e.filter fun y => !decide (y = -p))), h') ∧ Sep0 h0 h' (bAll h0.maps.length b n cl R) := by
 have hn := hb.vars
 have hpl := zbs.1 hp
 intro m
 induction m with
 | zero => intro j h h1 h2; omega
 | succ m ih =>
   intro j h h1 h2 hs
   rw [zo1]
   by_cases hj : j < ids.length
   · have hm : ids.getD j 0 ∈ ids := by rw [List.getD_eq_getElem?_getD, List.getElem?_eq_getElem hj]; exact List.getElem_mem hj
     obtain ⟨e, hie, hpe⟩ := hids _ hm
     obtain ⟨hem, hil2⟩ := ztj hie
     have hel := hb.lens e hem
     rw [zan (by omega), zrr (hT h hs) (by omega) (v := .int .i64 ((ids.getD j 0 : Nat) : Int)) (by simp [hj]), zvZ hj, hie, Option.getD_some, List.all_cons]
     have c1 : h.cell (.mk ⟨b.B, 0, 0 + 1⟩ 6) = some (.slice b.cS) := hs.part (i := 0) rfl (by omega) rfl
     simp only [o_bd, zam, zjl, zcd, c1, zac]
     rw [zrr (hs.cellsP (i := 1) rfl) (by omega) (v := .slice (lstI e)) (by rw [Int.toNat_natCast, List.getElem?_map, zvk hie]; rfl)]
     simp only [o_bd, zac]
     rw [zrr (hS h hs) (by omega) (v := .int .i64 p) (by rw [hcp]; rfl)]
     simp only [o_bd, zam]
     rw [show (0 : Int) - p = -p by omega, zeo (n := -p) (by omega) (by omega)]
     obtain ⟨s', h3, e3, s3⟩ := zwW fuel (d + 3) hs (s := lstI e) (c := e) (ziU _ _ _) (by omega) (by omega) (List.ne_nil_of_mem hpe) (-p)
     rw [show run fuel (d + 7) znC [.slice (lstI e), .int .i64 (-p)] h = _ from e3]
     simp only [o_bd, zac]
     have hfl : (e.filter fun y => !decide (y = -p)).length ≤ e.length := List.length_filter_le _ _
     generalize hE : (e.filter fun y => !decide (y = -p)) = E at s3 hfl
     obtain ⟨s'', h4, e4, s4⟩ := zyE fuel (d + 5) s3 (x := .lst 2 true [.slice s, .slice s']) (cc := [c, E]) (fun h' hs' => ⟨[s, s'], rfl, rfl, fun k s1 c1 h1 h2 => by
       match k with
       | 0 => cases h1; cases h2; exact hS h' hs'.tl
       | 1 => cases h1; cases h2; exact hs'.cellsP (i := 0) rfl
       | k + 2 => cases h1⟩) (by simp) (by simp; omega) (by simp [zuD]; omega)
     rw [show run fuel (d + 7) zaX [.slice (.lst 2 true [.slice s, .slice s'])] h3 = _ from e4]
     simp only [o_bd, zac]
     have hfla : [c, E].flatten = c ++ E := by simp
     rw [hfla] at s4
     have s5 := zt0 (s4.perm (List.Perm.swap _ _ _)).tl
     have s5' : Sep0 h0 h4 (bAll h0.maps.length b n cl (.grown 1 s'' (zaS (c ++ E)) :: R)) := s5
     obtain ⟨h5, e5, s6⟩ := zmK fuel d hb hf s5' (s := s'') (c := c ++ E) (fun h hs => (hs.sep.grown (i := 5) rfl).cells) (by rw [List.length_append]; omega)
     rw [e5]
     simp only [o_bd, zaf]
     have s7 := (zqE s6).tl
     cases hi : zwB n cl (c ++ E) with
     | false =>
       simp only [Bool.not_false, cond_true, o_bd, zpE, Bool.false_and]
       exact ⟨h5, rfl, s7⟩
     | true =>
       simp only [Bool.not_true, cond_false, Bool.true_and]
       rw [zlr (by omega)]
       exact ih (j + 1) h5 (by omega) (by omega) s7
   · have : j = ids.length := by omega
     subst this
     rw [zah (by omega), List.drop_eq_nil_of_le (by simp [byC])]
     simp only [o_bd, zo8]
     exact ⟨h, rfl, hs⟩
theorem zxq (fuel d : Nat) (hb : BOk b n cl) (hf : 2000000 < fuel) (hs : Sep0 h0 h (bAll h0.maps.length b n cl R)) {s : Sl} {c : List Int} (hS : zvm h0 (bAll h0.maps.length b n cl R) s c) (hcl : c.length < 500000) :
   ∃ h', run fuel (d + 8) zeE [.ptr (bP b), .slice s] h = some (.bool (zzY n cl c), h') ∧ Sep0 h0 h' (bAll h0.maps.length b n cl R) := by
 have hn := hb.vars
 obtain ⟨h1, e1, s1⟩ := zmK fuel d hb hf hs hS (by omega)
 rw [zrH, e1]
 simp only [o_bd, zaf]
 unfold zzY
 cases hi : zwB n cl c with
 | true => exact ⟨h1, rfl, s1⟩
 | false =>
   have hlen := za7 (hS h1 s1)
   simp only [List.length_map, Nat.mul_one] at hlen
   simp only [cond_false, Bool.false_or]
   rw [← hlen]
   by_cases hnil : c = []
   · subst hnil
     exact ⟨h1, rfl, s1⟩
   · obtain ⟨p, r, hc⟩ : ∃ p r, c = p :: r := by
       cases c with
       | nil => exact absurd rfl hnil
       | cons p r => exact ⟨p, r, rfl⟩
     have hhd : c.head? = some p := by rw [hc]; rfl
     rw [hhd]
     unfold zCE
     have h0' : decide ((c.length : Int) = 0) = false := decide_eq_false (by rw [hc]; simp; omega)
     obtain ⟨h2, e2, s2, _⟩ := zsg fuel (d + 2) s1 (i := 0) rfl hn (hS h1 s1) (by omega) (by omega)
     simp only [h0', beq_self_eq_true, cond_true, show run fuel (d + 7) zeT [.ptr (bP b), .slice s] h1 = _ from e2, o_bd, zaf]
     cases hlo : zfF n c with
     | false => exact ⟨h2, rfl, s2⟩
     | true =>
       have hp : zjg p n = true := List.all_eq_true.1 hlo p (by rw [hc]; exact List.mem_cons_self ..)
       have hpl := zbs.1 hp
       have c4 : h2.cell (.mk ⟨b.B, 0, 0 + 3⟩ 6) = some (.map (some b.m)) := s2.part (i := 0) rfl (by omega) rfl
       have cm : h2.maps[b.m]? = some (esK b.ks) := s2.getMap (i := 4) rfl
       simp only [Bool.not_true, cond_false, zjl, zcd, o_bd, c4, zsL]
       rw [zrr (hS h2 s2) (by omega) (v := .int .i64 p) (by rw [hc]; rfl)]
       simp only [o_bd, zam, zpq, cm]
       rw [show (0 : Int) - p = -p by omega, zeo (n := -p) (by omega) (by omega)]
       simp only [ztI, o_bd, zx6, zac]
       rw [zBD hb s2 (-p)]
       have hbl := zq2 (cl := cl) (hasP (-p))
       have hcl2 := hb.len
       obtain ⟨h3, e3, s3⟩ := zBG fuel d hb hf hc hp hS hcl (ids := idsP (hasP (-p)) cl) (fun i hi => by
         obtain ⟨l, g1, g2⟩ := ztJ.1 hi
         exact ⟨l, g1, of_decide_eq_true g2⟩) (by omega) (zvY hb (-p)) fuel 0 h2 (by omega) (by omega) s2
       rw [Int.natCast_zero] at e3
       rw [e3, List.drop_zero, Bool.true_and]
       exact ⟨h3, rfl, s3⟩
end
end Go.Proofs.YtdmbfmgebgdfnaaDoor
namespace Go.Proofs.YtdmbfmgebgdfnaaDoor
theorem zBq (cl : zkQ) (l : List Int) : (fstB cl l).isSome = decide (l ∈ zep cl) := by
 cases h : fstB cl l with
 | none => rw [decide_eq_false (zwC h)]; rfl
 | some i => rw [decide_eq_true (zsp h).2.1]; rfl
structure RelB (n : Nat) (cl : zkQ) (XC : List (List Int)) : Prop where
 there : zep cl = XC.map zeF
 norm : ∀ l, some l ∈ cl → zeF l = l ∧ ∀ x ∈ l, zjg x n = true
 ok : okCC n XC = true
section
variable {n : Nat} {cl : zkQ} {XC : List (List Int)}
theorem RelB.s1 (h : RelB n cl XC) : ∀ c ∈ XC, ∃ c' ∈ zep cl, ∀ l, l ∈ c' ↔ l ∈ c := fun c hc => ⟨zeF c, by rw [h.there]; exact List.mem_map_of_mem hc, fun l => zjN⟩
theorem RelB.s2 (h : RelB n cl XC) : ∀ c ∈ zep cl, ∃ c' ∈ XC, ∀ l, l ∈ c' ↔ l ∈ c := fun c hc => by
 rw [h.there] at hc
 obtain ⟨d, hd, rfl⟩ := List.mem_map.1 hc
 exact ⟨d, hd, fun l => zjN.symm⟩
theorem zzA (hok : okCC n XC = true) {c : List Int} (hc : zfF n c = true) : zxh n XC c = true ↔ Imp XC c := by
 have hS : zfF n (c.map fun l => -l) = true := by
   rw [List.all_eq_true]
   intro l hl
   obtain ⟨x, hx, rfl⟩ := List.mem_map.1 hl
   rw [zsm]
   exact List.all_eq_true.1 hc x hx
 unfold zxh Imp
 rw [hc, Bool.true_and, zuN hok]
 rcases zt9 hok hS with ⟨e, h⟩ | ⟨T, e, h⟩
 · rw [e]; exact ⟨fun _ => h, fun _ => rfl⟩
 · rw [e]
   exact ⟨(fun h => by cases h), fun hcf => absurd hcf h.2⟩
theorem zuf (h : RelB n cl XC) {c d : List Int} (hm : ∀ l, l ∈ c ↔ l ∈ d) : zwB n cl c = zxh n XC d := by
 have hlo : zfF n c = zfF n d := by
   rw [Bool.eq_iff_iff, List.all_eq_true, List.all_eq_true]
   exact ⟨fun g l hl => g l ((hm l).2 hl), fun g l hl => g l ((hm l).1 hl)⟩
 cases hc : zfF n c with
 | false =>
   unfold zwB zxh
   rw [← hlo, hc]; rfl
 | true =>
   rw [hc] at hlo
   rw [Bool.eq_iff_iff, zzz h.norm hc, zzA h.ok hlo.symm]
   refine (zwa h.s2 h.s1 fun l => ?_).2
   simp only [List.mem_map]
   exact ⟨fun ⟨x, hx, e⟩ => ⟨x, (hm x).1 hx, e⟩, fun ⟨x, hx, e⟩ => ⟨x, (hm x).2 hx, e⟩⟩
theorem zzX (h : RelB n cl XC) (c : List Int) : zzY n cl c = zvi n XC c := by
 unfold zzY zvi
 rw [zuf h (fun l => Iff.rfl)]
 congr 1
 cases c.head? with
 | none => rfl
 | some p =>
   show (zfF n c && _) = (zfF n c && _)
   congr 1
   rw [Bool.eq_iff_iff, List.all_eq_true, List.all_eq_true]
   have key : ∀ e, zwB n cl (c ++ (zeF e).filter fun y => !decide (y = -p)) = zxh n XC (c ++ noP p e) := fun e => zuf h fun l => by
     simp only [List.mem_append, List.mem_filter, zjN]
   constructor
   · intro g e he
     by_cases hp : -p ∈ e
     · rw [← key e, g (zeF e) (by
         unfold byF
         rw [zwr, h.there]
         exact ⟨List.mem_map_of_mem he, decide_eq_true (zjN.2 hp)⟩), Bool.or_true]
     · rw [decide_eq_false hp]; rfl
   · intro g e he
     unfold byF at he
     rw [zwr, h.there] at he
     obtain ⟨h1, h2⟩ := he
     obtain ⟨x, hx, rfl⟩ := List.mem_map.1 h1
     have := g x hx
     rw [decide_eq_true (zjN.1 (of_decide_eq_true h2)), Bool.not_true, Bool.false_or] at this
     rw [key x]; exact this
theorem zAv (h : RelB n cl XC) (c : List Int) : (fstB cl (zeF c)).isSome = XC.any fun e => decide (zeF e = zeF c) := by
 rw [zBq, h.there, Bool.eq_iff_iff, decide_eq_true_eq, List.any_eq_true]
 simp only [List.mem_map, decide_eq_true_eq]
theorem zAx (h : RelB n cl XC) (c : List Int) : (fndX XC c).isSome = (fstB cl (zeF c)).isSome := by
 rw [zAv h]
 unfold fndX
 rw [List.findIdx?_isSome]
theorem zwJ (q : List Int) : ∀ {XC : List (List Int)} {k : Nat}, (XC.findIdx? fun e => decide (zeF e = q)) = some k → (XC.map zeF).erase q = (XC.take k ++ XC.drop (k + 1)).map zeF
 | [], k, h => by cases h
 | x :: XC, k, h => by
   rw [List.findIdx?_cons] at h
   by_cases e : zeF x = q
   · rw [decide_eq_true e, if_pos rfl] at h
     cases h
     rw [List.map_cons, e, List.erase_cons_head]
     rfl
   · rw [decide_eq_false e, if_neg (by simp)] at h
     cases hf : XC.findIdx? fun e => decide (zeF e = q) with
     | none => rw [hf] at h; cases h
     | some j =>
       rw [hf] at h
       cases h
       rw [List.map_cons, List.erase_cons_tail (by simpa using e), zwJ q hf]
       rfl
theorem zBt (h : RelB n cl XC) {c : List Int} {i k : Nat} (hi : fstB cl (zeF c) = some i) (hk : fndX XC c = some k) : RelB n (cl.set i none) (XC.take k ++ XC.drop (k + 1)) := by
 refine ⟨?_, fun l hl => ?_, ?_⟩
 · rw [(zsp hi).2.2, h.there]
   exact zwJ _ hk
 · rcases List.mem_or_eq_of_mem_set hl with hl | hl
   · exact h.norm l hl
   · cases hl
 · rw [List.all_eq_true]
   intro c hc
   rcases List.mem_append.1 hc with hc | hc
   · exact List.all_eq_true.1 h.ok c (List.mem_of_mem_take hc)
   · exact List.all_eq_true.1 h.ok c (List.mem_of_mem_drop hc)
theorem zCL (h : RelB n cl XC) {c : List Int} (hc : zfF n c = true) : RelB n (cl ++ [some (zeF c)]) (XC ++ [c]) := by
 refine ⟨by rw [zwd, h.there]; simp, fun l hl => ?_, ?_⟩
 · rcases List.mem_append.1 hl with hl | hl
   · exact h.norm l hl
   · rw [List.mem_singleton] at hl
     cases hl
     exact ⟨zsI c, zry hc⟩
 · rw [okCC, List.all_append, Bool.and_eq_true]
   exact ⟨h.ok, by simpa using hc⟩
theorem zCo {c : List Int} (hc : c ∈ XC) : (fndX XC c).isSome = true := by
 unfold fndX
 rw [List.findIdx?_isSome, List.any_eq_true]
 exact ⟨c, hc, decide_eq_true rfl⟩
end
end Go.Proofs.YtdmbfmgebgdfnaaDoor
namespace Go.Proofs.YtdmbfmgebgdfnaaDoor
open Go.RowKit
theorem zwO {h : AH} {s : Sl} {cs : List AV} (hs : h.sliceCells 1 s = some cs) {lo hi : Nat} (h1 : lo ≤ hi) (h2 : hi ≤ s.len) : h.sliceCells 1 (s.cut 1 lo hi false) = some ((cs.drop lo).take (hi - lo)) := by
 cases s with
 | nil =>
   simp only [Sl.len] at h2
   obtain rfl : hi = 0 := by omega
   obtain rfl : lo = 0 := by omega
   cases hs
   rfl
 | lst n c ds =>
   obtain ⟨rfl, hl⟩ := zsk hs
   simp only [Sl.len] at h2
   simp only [Sl.cut, Nat.mul_one, AH.sliceCells]
   rw [show Nat.beq ((ds.drop lo).take (hi - lo)).length (hi - lo) = true from nbeq.2 (by rw [List.length_take, List.length_drop]; omega), cond_true]
 | mk r n c =>
   simp only [Sl.len] at h2
   by_cases hn : n = 0
   · subst hn
     obtain rfl : hi = 0 := by omega
     obtain rfl : lo = 0 := by omega
     simp [Sl.cut, AH.sliceCells]
   · obtain ⟨row, a1, a2, a3, a4, a5, a6⟩ := zgb hs hn
     simp only [Sl.cut]
     rw [zfs (r := ⟨r.id, r.gen, r.off + lo * 1⟩) a1 a2 a3 a4 (by simp only; omega), a6]
     simp only [Nat.mul_one]
     rw [List.drop_take, List.take_take, List.drop_drop, Nat.min_eq_left (by omega)]
theorem zBw {s : Sl} {lo hi : Nat} (h1 : hi ≤ s.len) (h2 : lo ≤ hi) : (s.cut 1 lo hi false).len = hi - lo := by
 cases s with
 | nil => simp only [Sl.len] at h1; simp [Sl.cut, Sl.len]; omega
 | mk => rfl
 | lst => rfl
abbrev oX (X n : Nat) (xs : Sl) : zcJ := .own 1 X 0 2 [.int .i64 (n : Int), .slice xs]
abbrev pX (X : Nat) : Pt := .mk ⟨X, 0, 0⟩ 2
section
variable {fuel n X : Nat} {XC : List (List Int)} {h0 h : AH} {R : List zcJ} {xs : Sl}
theorem zuh {L : List zcJ} {i : Nat} (hs : Sep0 h0 h L) (hi : L[i]? = some (oX X n xs)) (hfr : zap h 7 (.slice xs) = some (.slice (zuA XC))) : zap h 8 (.ptr (pX X)) = some (.ptr (xF n XC)) :=
 (hs.sep.own hi).freezePtr rfl (mm2 rfl hfr)
def zBW (h0 : AH) (X n : Nat) (xs : Sl) (XC : List (List Int)) (c : List Int) (R : List zcJ) (h' : AH) : Bool → Prop
 | false => Sep0 h0 h' (oX X n xs :: R)
 | true => ∃ xs', Sep0 h0 h' (oX X n xs' :: .grown 1 xs' (zoo (XC ++ [c])) :: R)
theorem zxZ (d : Nat) (hf : 2000000 < fuel) (hx : XOk fuel n XC) (hs : Sep0 h0 h (oX X n xs :: R)) (hcells : h.sliceCells 1 xs = some (zoo XC)) (hfr : zap h 7 (.slice xs) = some (.slice (zuA XC))) {y : Sl} {c : List Int} (hc : QOk fuel c) (hy : h.sliceCells 1 y = some (zaS c)) (hyf : zap h 8 (.slice y) = some (.slice (lstI c))) :
   ∃ h', run fuel (d + 6) zdz [.ptr (pX X), .slice y] h = some (.bool (zfF n c), h') ∧ zBW h0 X n xs XC c R h' (zfF n c) := by
 have hn := hx.vars
 have hcl := hc.len
 have hcf := hc.fl
 have hXl := hx.len
 have hXf := hx.fl
 rw [zpK, zsD (XC := XC) (d + 3) hn (by omega) hcf (zuh hs (i := 0) rfl hfr) hyf]
 simp only [o_bd, zaf]
 cases hlo : zfF n c with
 | false => exact ⟨h, rfl, hs⟩
 | true =>
   have c1 : h.cell (.mk ⟨X, 0, 0 + 1⟩ 2) = some (.slice xs) := hs.part (i := 0) rfl (by omega) rfl
   simp only [Bool.not_true, cond_false, zjl, zcd, o_bd, c1, zac]
   obtain ⟨s8, h2, e2, n2⟩ := zsF fuel (d + 4) hcells (by omega) hXf
   have s2 := (hs.add n2).cons
   have hy2 := zfn n2.ext hy
   rw [e2]
   simp only [o_bd, zac]
   obtain ⟨s10, h3, e3, n3⟩ := zue fuel (d + 4) hy2 (by omega) hcf
   have s3 := (s2.add n3).cons
   rw [e3]
   simp only [o_bd, zac]
   have l10 := s3.len (i := 0) rfl
   have l8 := s3.len (i := 1) rfl
   simp only [List.length_map, Nat.mul_one] at l10 l8
   obtain ⟨h4, f4, s4⟩ := s3.fix (i := 0) rfl (zi7 (fun _ => rfl) _) 1
   have ey : AV.slice (.lst s10.len false (zaS c)) = .slice (lstI c) := by
     show _ = AV.slice (.lst _ false _)
     rw [l10]
   rw [zuj, f4, ey]
   simp only
   rw [set0] at s4
   obtain ⟨s11, h5, e5, s5, _⟩ := s4.grow (i := 1) (bytes := 24) (m := 1) (vs := [.slice (lstI c)]) rfl rfl (by omega) (by omega)
   rw [set1] at s5
   rw [e5]
   simp only [o_bd]
   obtain ⟨h6, e6, s6⟩ := s5.put (i := 2) (o := 1) (l := 2) (vs := [.slice s11]) rfl (by simp) (by simp)
   rw [set2] at s6
   rw [Nat.zero_add, e6]
   have e7 : zoo XC ++ [.slice (lstI c)] = zoo (XC ++ [c]) := by simp [zoo]
   rw [e7] at s6
   exact ⟨h6, rfl, s11, (s6.tl).perm (List.Perm.swap _ _ _)⟩
def zz5 (h0 : AH) (X n : Nat) (xs : Sl) (XC : List (List Int)) (R : List zcJ) (h' : AH) : Option Nat → Prop
 | none => Sep0 h0 h' (oX X n xs :: R)
 | some k => ∃ xs', Sep0 h0 h' (oX X n xs' :: .grown 1 xs' (zoo (XC.take k ++ XC.drop (k + 1))) :: R)
theorem zwk (d : Nat) (hf : 2000000 < fuel) (hx : XOk fuel n XC) (hs : Sep0 h0 h (oX X n xs :: R)) (hcells : h.sliceCells 1 xs = some (zoo XC)) (hfr : zap h 7 (.slice xs) = some (.slice (zuA XC))) {y : Sl} {c : List Int} (hc : QOk fuel c) (hyf : zap h 8 (.slice y) = some (.slice (lstI c))) :
   ∃ h', run fuel (d + 6) zez [.ptr (pX X), .slice y] h = some (.bool (fndX XC c).isSome, h') ∧ zz5 h0 X n xs XC R h' (fndX XC c) := by
 have hXl := hx.len
 have hXf := hx.fl
 rw [zpd, zzk d hf hx hc (zuh hs (i := 0) rfl hfr) hyf]
 simp only [o_bd, zam]
 unfold zCU
 cases hk : fndX XC c with
 | none =>
   show ∃ h', (bif decide ((-1 : Int) < 0) then _ else _) = _ ∧ _
   rw [zan (by omega)]
   exact ⟨h, rfl, hs⟩
 | some k =>
   have hkl : k < XC.length := by
     unfold fndX at hk
     rw [List.findIdx?_eq_some_iff_getElem] at hk
     exact hk.1
   have hlen := za7 hcells
   simp only [List.length_map, Nat.mul_one] at hlen
   show ∃ h', (bif decide ((k : Int) < 0) then _ else _) = _ ∧ _
   rw [zah (by omega)]
   have c1 : h.cell (.mk ⟨X, 0, 0 + 1⟩ 2) = some (.slice xs) := hs.part (i := 0) rfl (by omega) rfl
   simp only [zjl, zcd, o_bd, c1, zac]
   rw [zqJ (by omega) (by omega), o_bd, zqI, o_bd, zmh, o_bd, zyo hcells (by omega), cond_true, Int.toNat_natCast]
   have hcut := zwO hcells (lo := 0) (hi := k) (by omega) (by omega)
   rw [List.drop_zero, Nat.sub_zero, ← List.map_take] at hcut
   obtain ⟨s11, h2, e2, n2⟩ := zsF fuel (d + 4) hcut (by rw [List.length_take]; omega) (by rw [List.length_take]; omega)
   have s2 := (hs.add n2).cons
   have hcells2 := zfn n2.ext hcells
   rw [e2]
   have c2 : h2.cell (.mk ⟨X, 0, 0 + 1⟩ 2) = some (.slice xs) := s2.part (i := 1) rfl (by omega) rfl
   simp only [o_bd, zac, zjl, zcd, c2]
   rw [zlr (by omega), zrN, o_bd, zrM (by omega) (by omega), o_bd, zmh, o_bd, zyo hcells2 (by omega), cond_true, Int.toNat_natCast]
   have hcut2 := zwO hcells2 (lo := k + 1) (hi := xs.len) (by omega) (by omega)
   rw [← List.map_drop, List.take_of_length_le (by simp; omega)] at hcut2
   rw [hcut2]
   simp only [o_bd]
   rw [zBr, zBw (Nat.le_refl _) (by omega)]
   simp only
   have l11 := s2.len (i := 0) rfl
   simp only [List.length_map, List.length_take, Nat.mul_one] at l11
   obtain ⟨s20, h3, e3, s3, _⟩ := s2.grow (i := 0) (bytes := 24) (m := xs.len - (k + 1)) (vs := zoo (XC.drop (k + 1))) rfl (by simp; omega) (by omega) (by omega)
   rw [set0] at s3
   rw [e3]
   simp only [o_bd]
   obtain ⟨h4, e4, s4⟩ := s3.put (i := 1) (o := 1) (l := 2) (vs := [.slice s20]) rfl (by simp) (by simp)
   rw [set1] at s4
   rw [Nat.zero_add, e4]
   have e7 : zoo (XC.take k) ++ zoo (XC.drop (k + 1)) = zoo (XC.take k ++ XC.drop (k + 1)) := by simp [zoo]
   rw [e7] at s4
   exact ⟨h4, rfl, s20, s4.perm (List.Perm.swap _ _ _)⟩
end
theorem Sep0.twice {h0 h : AH} {R : List zcJ} {s : Sl} {Y : List Int} (hs : Sep0 h0 h (.grown 1 s (zaS Y) :: R)) (hop : s = .nil ∨ ∃ r n, s = .mk r n false ∧ n ≠ 0) (hl : Y.length < 1000000) (v : Int) :
   ∃ s1 h1 c, h.append false 1 8 s 1 [.int .i64 v] = some (s1, h1) ∧ Sep0 h0 h1 (c :: R) ∧ ∀ h' R', Sep0 h0 h' (c :: R') → h'.sliceCells 1 s1 = some (zaS (Y ++ [v])) ∧ ∃ s2 h2, h'.append false 1 8 s 1 [.int .i64 v] = some (s2, h2) ∧ Sep0 h0 h2 (.grown 1 s2 (zaS (Y ++ [v])) :: R') := by
 have hg := hs.sep.grown (i := 0) rfl
 have hlen := hs.len (i := 0) rfl
 simp only [List.length_map, Nat.mul_one] at hlen
 rcases hop with rfl | ⟨r, n, rfl, hn⟩
 · have hY : Y = [] := by
     have : Y.length = 0 := hlen
     exact List.eq_nil_of_length_eq_zero this
   subst hY
   obtain ⟨s1, h1, e1, s1', _⟩ := hs.grow (i := 0) (bytes := 8) (m := 1) (vs := [.int .i64 v]) rfl rfl (by simp [Sl.len]) (by simp [Sl.len])
   rw [set0] at s1'
   refine ⟨s1, h1, _, e1, s1', fun h' R' hs' => ⟨(hs'.sep.grown (i := 0) rfl).cells, ?_⟩⟩
   obtain ⟨s2, h2, e2, s2', _⟩ := ((hs'.tl.addNil 1).cons).grow (i := 0) (bytes := 8) (m := 1) (vs := [.int .i64 v]) rfl rfl (by simp [Sl.len]) (by simp [Sl.len])
   rw [set0] at s2'
   exact ⟨s2, h2, e2, s2'⟩
 · simp only [Sl.len] at hlen
   generalize hcs : zaS Y = cs at hg
   cases hg with
   | room => exact absurd rfl hn
   | @row id gen n' cs row q1 q2 q3 q4 q5 q6 q7 =>
     subst hcs
     subst q4
     have hlt := (List.getElem?_eq_some_iff.1 q1).1
     have hcl : row.cells.length = n := by rw [q2]; simpa using hlen
     have a1 : (n + 1) * 8 ≤ 140737488355328 := by omega
     have a2 : n + 1 ≤ 140737488355328 := by omega
     have a3 : row.valid ≤ row.gen := q5
     have htk : row.cells.take (0 + n * 1) = zaS Y := by rw [List.take_of_length_le (by omega), q2]
     generalize hrow1 : ({ sz := row.sz, cells := row.cells.take (0 + n * 1) ++ [.int .i64 v], gen := row.gen + 1, valid := row.valid, ro := false } : ARow) = row1
     have hh0 : ∀ r, (zcJ.grown 1 (.mk ⟨id, row.gen, 0⟩ n false) (zaS Y)).row = some r → h0.rows.length ≤ r := fun r hr => hs.fresh _ (List.mem_cons_self ..) r hr
     have hid := hh0 id rfl
     have e1 : h.append false 1 8 (.mk ⟨id, row.gen, 0⟩ n false) 1 [.int .i64 v] = some (.mk ⟨id, row.gen + 1, 0⟩ (n + 1) false, h.setRow id row1) := by
       subst hrow1
       simp only [AH.append, zll, ble_eq, Sl.len, a1, a2, decide_true, Bool.and_self, Bool.not_true, cond_false, q1, q6, Bool.not_false, q7, a3, Nat.le_refl, show 0 + n * 1 = row.cells.length by omega, cond_true, show ¬ (1 : Nat) = 0 by omega, decide_false]
     have s1 : Sep0 h0 (h.setRow id row1) (.exact id row1 :: R) := by
       have hk : zcs h (h.setRow id row1) (· = id) := zcs.setRow h id row1
       refine ⟨hs.sep.set (i := 0) (c' := .exact id row1) rfl (hk.mono fun i _ e => by subst e; rfl) ?_ (fun r hr => .inl hr), zkr hs.ext hk (fun i e => by subst e; exact hid), fun c hc r hr => ?_⟩
       · show (h.setRow id row1).rows[id]? = some row1
         simp only [AH.setRow]
         exact List.getElem?_set_self hlt
       · rcases List.mem_cons.1 hc with rfl | hc
         · cases hr; exact hid
         · exact hs.fresh c (List.mem_cons_of_mem _ hc) r hr
     refine ⟨_, _, .exact id row1, e1, s1, fun h' R' hs' => ?_⟩
     have hr' : h'.rows[id]? = some row1 := hs'.sep.all _ (List.mem_cons_self ..)
     have hlt' := (List.getElem?_eq_some_iff.1 hr').1
     have r1 : row1.cells = zaS Y ++ [.int .i64 v] := by subst hrow1; simp only; rw [htk]
     have r2 : row1.gen = row.gen + 1 := by subst hrow1; rfl
     have r3 : row1.valid = row.valid := by subst hrow1; rfl
     have r4 : row1.ro = false := by subst hrow1; rfl
     have r5 : row1.sz = 1 := by subst hrow1; exact q7
     have r6 : row1.cells.length = n + 1 := by rw [r1]; simp; omega
     refine ⟨?_, .mk ⟨id, row1.gen + 1, 0⟩ (n + 1) false, h'.setRow id { sz := row1.sz, cells := row1.cells.take (0 + n * 1) ++ [.int .i64 v], gen := row1.gen + 1, valid := row1.gen + 1, ro := false }, ?_, ?_⟩
     · rw [zfs (r := ⟨id, row.gen + 1, 0⟩) hr' r5 (by rw [r3]; simp only; omega) (by rw [r2]; exact Nat.le_refl _) (by simp only; omega), List.drop_zero, List.take_of_length_le (by omega), r1, zhT]
       rfl
     · have b1 : ¬ row.gen = row1.gen := by omega
       simp only [AH.append, zll, ble_eq, Sl.len, a1, a2, decide_true, Bool.and_self, Bool.not_true, cond_false, hr', r4, Bool.not_false, r5, show row1.valid ≤ row.gen by omega, show row.gen ≤ row1.gen by omega, show 0 + n * 1 ≤ row1.cells.length by omega, b1, decide_false, Bool.false_and, cond_true, show ¬ (1 : Nat) = 0 by omega]
     · generalize hrow2 : ({ sz := row1.sz, cells := row1.cells.take (0 + n * 1) ++ [.int .i64 v], gen := row1.gen + 1, valid := row1.gen + 1, ro := false } : ARow) = row2
       have hc2 : row2.cells = zaS (Y ++ [v]) := by
         subst hrow2
         simp only
         rw [r1, List.take_append_of_le_length (by simp; omega), List.take_of_length_le (by simp; omega), zhT]
         rfl
       have hk : zcs h' (h'.setRow id row2) (· = id) := zcs.setRow h' id row2
       refine ⟨hs'.sep.set (i := 0) (c' := .grown 1 (.mk ⟨id, row1.gen + 1, 0⟩ (n + 1) false) (zaS (Y ++ [v]))) rfl (hk.mono fun i _ e => by subst e; rfl) ?_ (fun r hr => .inl (by cases hr; rfl)), zkr hs'.ext hk (fun i e => by subst e; exact hid), fun c hc r hr => ?_⟩
       · exact .row (row := row2) (by simp only [AH.setRow]; exact List.getElem?_set_self hlt') hc2 (by simp; omega) (by subst hrow2; rfl) (by subst hrow2; exact Nat.le_refl _) (by subst hrow2; rfl) (by subst hrow2; exact r5)
       · rcases List.mem_cons.1 hc with rfl | hc
         · cases hr; exact hid
         · exact hs'.fresh c (List.mem_cons_of_mem _ hc) r hr
end Go.Proofs.YtdmbfmgebgdfnaaDoor
namespace Go.Proofs.YtdmbfmgebgdfnaaDoor
open Go.RowKit
section
variable {h0 h : AH} {L A R : List zcJ}
theorem Sep0.putA (hs : Sep0 h0 h L) {i : Nat} {s : Sl} {cs : List AV} (hi : L[i]? = some (.part 1 s cs)) {k : Nat} (hk : k < cs.length) (v : AV) :
   ∃ h', (∀ {β : Type} (K : AH → Option β), ((h.addr 1 s (k : Int)).bind fun p => (h.storeAt [v] p).bind K) = K h') ∧ Sep0 h0 h' (L.set i (.part 1 s (cs.set k v))) := by
 have hl := hs.lenP hi
 rw [Nat.mul_one] at hl
 have hc := hs.cellsP hi
 obtain ⟨p, h', e1, e2, s1⟩ := hs.putP (k := k) (o := 0) (vs := [v]) hi (by omega) (by simp)
 refine ⟨h', fun K => ?_, ?_⟩
 · have hp : p = s.at 1 (k : Int) := by
     cases s with
     | nil => rw [show Sl.nil.len = 0 from rfl] at hl; omega
     | mk r n c => simp only [Sl.at, Pt.field, Nat.add_zero] at e1; exact (Option.some.inj e1).symm
     | lst n c cs => exact absurd (hs.sep.partOf hi) (by intro h; cases h with | of h => cases h)
   rw [znh hc (by omega) (by omega), o_bd, ← hp, e2, o_bd]
 · have : cs.take (k * 1 + 0) ++ [v] ++ cs.drop (k * 1 + 0 + 1) = cs.set k v := by
     rw [List.set_eq_take_append_cons_drop, if_pos hk]
     simp
   rw [List.length_singleton, this] at s1
   exact s1
theorem zuP {α : Type} {l : List α} {i : Nat} {t : α} (h : l[i]? = some t) : List.Perm l (t :: l.eraseIdx i) := by
 obtain ⟨hi, e⟩ := List.getElem?_eq_some_iff.1 h
 have h1 : l = l.take i ++ t :: l.drop (i + 1) := by
   rw [← e, ← List.drop_eq_getElem_cons hi, List.take_append_drop]
 rw [List.eraseIdx_eq_take_drop_succ]
 exact (List.Perm.of_eq h1).trans List.perm_middle
theorem Sep0.frontK {ks : List Key} (hs : Sep0 h0 h (A ++ chK ks)) {i : Nat} {x : Int} {p : Sl × List Int} (hi : ks[i]? = some (x, p)) : Sep0 h0 h (.part 1 p.1 (zaS p.2) :: (A ++ chK (ks.eraseIdx i))) := by
 refine hs.perm ?_
 have h1 : List.Perm (chK ks) (.part 1 p.1 (zaS p.2) :: chK (ks.eraseIdx i)) := (zuP hi).map _
 exact ((List.Perm.refl A).append h1).trans List.perm_middle
theorem Sep0.backK {ks : List Key} {i : Nat} {x : Int} {s : Sl} {l : List Int} (hs : Sep0 h0 h (.part 1 s (zaS l) :: (A ++ chK (ks.eraseIdx i)))) (hi : i < ks.length) : Sep0 h0 h (A ++ chK (ks.set i (x, (s, l)))) := by
 refine hs.perm ?_
 have hg : (ks.set i (x, (s, l)))[i]? = some (x, (s, l)) := List.getElem?_set_self hi
 have h1 : List.Perm (chK (ks.set i (x, (s, l)))) (.part 1 s (zaS l) :: chK (ks.eraseIdx i)) := by
   have := (zuP hg).map (fun t : Key => zcJ.part 1 t.2.1 (zaS t.2.2))
   rw [List.eraseIdx_set_eq] at this
   exact this
 exact (((List.Perm.refl A).append h1).trans List.perm_middle).symm
theorem zyp (fuel d : Nat) {s : Sl} {l : List Int} (hs : Sep0 h0 h (.part 1 s (zaS l) :: R)) (hl : l.length < 1000000000) (hf : l.length < fuel) (x : Int) :
   ∃ s' h', run fuel (d + 4) zpP [.slice s, .int .i64 x] h = some (.slice s', h') ∧ Sep0 h0 h' (.part 1 s' (zaS (l.filter fun y => !decide (y = x))) :: R) := by
 rw [zyx]
 have s1 := ((hs.push 1 1 (cs := [.int .i64 x]) rfl).cons).perm (List.Perm.swap _ _ _)
 obtain ⟨s', h', e3, s3⟩ := zCu fuel d hl hf (f := zqK) (r := ⟨h.next, 0, 0⟩) (lim := 1) (p := fun y => decide (y = x)) (fun d h hs y _ => by
   rw [zvI]
   have c0 : h.cell (.mk ⟨_, 0, 0⟩ 1) = some (.int .i64 x) := hs.part (i := 0) rfl (by omega) rfl
   simp only [c0, o_bd, zam]) s1
 rw [e3]
 exact ⟨s', h', rfl, s3.sub (((List.Sublist.refl R).cons _).cons_cons _)⟩
end
def fndI (cl : zkQ) (l : List Int) : Int := match fstB cl l with
 | some i => (i : Int)
 | none => -1
section
variable {h0 h : AH} {b : Bs} {R : List zcJ} {n : Nat} {cl : zkQ}
theorem zwY : zvm h0 (bAll h0.maps.length b n cl R) b.sS ((idsP zkb cl).map Int.ofNat) := fun _ hs => hs.cellsP (i := 3) rfl
theorem zwH (fuel d : Nat) (hb : BOk b n cl) (hf : 2000000 < fuel) {l : List Int} (hll : l.length < 100000) {ids : List Nat} (hids : ∀ i ∈ ids, ∃ c, atB cl i = some c) (hil : ids.length < 1000000000) {t : Sl} (hs : Sep0 h0 h (bAll h0.maps.length b n cl R)) (hT : h.sliceCells 1 t = some (zaS (ids.map Int.ofNat))) : ∀ (m j : Nat), ids.length < m + j → j ≤ ids.length →
   (zd6 fuel (d + 1) m [(0, .ptr (bP b)), (5, .slice (lstI l)), (30, .slice t), (31, .int .i64 (ids.length : Int)), (32, .int .i64 (j : Int))] h).bind (fun q => zdp fuel (d + 1) q.1 q.2.1 q.2.2) = some (.int .i64 (match (ids.drop j).find? (fun i => atB cl i == some l) with | some i => (i : Int) | none => -1), h) := by
 intro m
 induction m with
 | zero => intro j h1 h2; omega
 | succ m ih =>
   intro j h1 h2
   rw [zqq]
   by_cases hj : j < ids.length
   · have hm : ids.getD j 0 ∈ ids := by rw [List.getD_eq_getElem?_getD, List.getElem?_eq_getElem hj]; exact List.getElem_mem hj
     obtain ⟨c, hic⟩ := hids _ hm
     obtain ⟨hem, hil2⟩ := ztj hic
     have hcl := hb.lens c hem
     rw [zan (by omega), zrr hT (by omega) (v := .int .i64 ((ids.getD j 0 : Nat) : Int)) (by simp [hj]), zjk hj 0, List.find?_cons]
     have c1 : h.cell (.mk ⟨b.B, 0, 0 + 1⟩ 6) = some (.slice b.cS) := hs.part (i := 0) rfl (by omega) rfl
     have c2 : h.cell (.mk ⟨b.B, 0, 0 + 2⟩ 6) = some (.slice b.tS) := hs.part (i := 0) rfl (by omega) rfl
     simp only [o_bd, zam, zjl, zcd, c2, zac]
     rw [zrr (hs.cellsP (i := 2) rfl) (by omega) (v := .bool true) (by rw [Int.toNat_natCast, List.getElem?_map, zvk hic]; rfl)]
     simp only [o_bd, zaf, beq_self_eq_true, cond_true, zjl, zcd, c1, zac]
     rw [zrr (hs.cellsP (i := 1) rfl) (by omega) (v := .slice (lstI c)) (by rw [Int.toNat_natCast, List.getElem?_map, zvk hic]; rfl)]
     simp only [o_bd, zac]
     rw [zzI d (a := c) (b := l) (by omega) (by omega)]
     simp only [o_bd, zaf, hic]
     by_cases he : c = l
     · have e1 : (some c == some l) = true := by rw [he]; exact beq_self_eq_true _
       rw [decide_eq_true he, cond_true, e1]
       simp only [o_bd, zqX]
     · have e1 : (some c == some l) = false := by simpa using he
       rw [decide_eq_false he, cond_false, e1, zlr (by omega)]
       exact ih (j + 1) (by omega) (by omega)
   · have : j = ids.length := by omega
     subst this
     rw [zah (by omega), List.drop_length]
     simp only [o_bd, zqs, List.find?_nil]
theorem zyt (fuel d : Nat) (hd : 49 ≤ d) (hb : BOk b n cl) (hf : 2000000 < fuel) (hs : Sep0 h0 h (bAll h0.maps.length b n cl R)) {s : Sl} {c : List Int} (hc : h.sliceCells 1 s = some (zaS c)) (hcl : c.length < 100000) :
   ∃ h', run fuel (d + 2) zgI [.ptr (bP b), .slice s] h = some (.int .i64 (fndI cl (zeF c)), h') ∧ Sep0 h0 h' (bAll h0.maps.length b n cl R) ∧ zcs h h' fun _ => False := by
 have hnl := zle c
 obtain ⟨h1, e1, k1⟩ := zy3 (fuel := fuel) (e := d + 1) (by omega) (l := c) (by omega) (by omega) hc
 have s1 := hs.call k1
 have hcl2 := hb.len
 rw [ztu, e1]
 have c4 : h1.cell (.mk ⟨b.B, 0, 0 + 4⟩ 6) = some (.slice b.sS) := s1.part (i := 0) rfl (by omega) rfl
 have c3 : h1.cell (.mk ⟨b.B, 0, 0 + 3⟩ 6) = some (.map (some b.m)) := s1.part (i := 0) rfl (by omega) rfl
 have cm : h1.maps[b.m]? = some (esK b.ks) := s1.getMap (i := 4) rfl
 simp only [o_bd, tup2, cond_true, zu9, zu8, zac, zaf, zjl, zcd, c4]
 rw [zeW]
 unfold fndI
 cases hn : zeF c with
 | nil =>
   rw [zah (by simp)]
   have hsl := s1.lenP (i := 3) rfl
   simp only [List.length_map, Nat.mul_one] at hsl
   have hbl := zq2 (cl := cl) zkb
   have := zwH fuel d hb hf (l := []) (by simp) (zzB zkb) (by omega) s1 (zwY _ s1) fuel 0 (by omega) (by omega)
   rw [List.drop_zero, zyk (p := zkb) (l := []) rfl, Int.natCast_zero] at this
   rw [← hsl]
   exact ⟨h1, this, s1, k1⟩
 | cons x r =>
   rw [zan (by simp)]
   simp only [zjl, zcd, o_bd, c3, zsL]
   rw [show h1.addr 1 (lstI (x :: r)) 0 = _ from zcC (.int .i64) (l := x :: r) (j := 0) (by omega) (by simp) 0 false]
   simp only [o_bd, zeG]
   rw [show (x :: r).getD (Int.toNat 0) 0 = x from rfl, zam]
   simp only [o_bd, zpq, cm, ztI, zx6, zac]
   rw [zBD hb s1 x]
   have hbl := zq2 (cl := cl) (hasP x)
   have := zwH fuel d hb hf (l := x :: r) (by rw [← hn]; omega) (zzB (hasP x)) (by omega) s1 (zvY hb x _ s1) fuel 0 (by omega) (by omega)
   rw [List.drop_zero, zyk (p := hasP x) (l := x :: r) (by simp [hasP]), Int.natCast_zero] at this
   exact ⟨h1, this, s1, k1⟩
theorem zBo (fuel d : Nat) (hd : 49 ≤ d) (hb : BOk b n cl) (hf : 2000000 < fuel) (hs : Sep0 h0 h (bAll h0.maps.length b n cl R)) {s : Sl} {c : List Int} (hc : h.sliceCells 1 s = some (zaS c)) (hcl : c.length < 100000) :
   ∃ h', run fuel (d + 3) zmJ [.ptr (bP b), .slice s] h = some (.bool (fstB cl (zeF c)).isSome, h') ∧ Sep0 h0 h' (bAll h0.maps.length b n cl R) ∧ zcs h h' fun _ => False := by
 obtain ⟨h', e1, s1, k1⟩ := zyt fuel d hd hb hf hs hc hcl
 rw [zuo, e1]
 simp only [o_bd, zam]
 refine ⟨h', ?_, s1, k1⟩
 unfold fndI
 cases fstB cl (zeF c) with
 | none => rfl
 | some i =>
   show some (AV.bool (decide ((0 : Int) ≤ (i : Int))), h') = _
   rw [decide_eq_true (by omega)]; rfl
end
end Go.Proofs.YtdmbfmgebgdfnaaDoor
namespace Go.Proofs.YtdmbfmgebgdfnaaDoor
open Go.RowKit
section
variable {h0 h : AH} {b : Bs} {R : List zcJ} {n : Nat} {cl : zkQ}
abbrev outI (l : List Int) (id : Int) : List Int := l.filter fun y => !decide (y = id)
def zy5 (ks ks' : List Key) (l : List Int) (id : Int) : Prop := ∀ x, lisK x ks' = if x ∈ l then outI (lisK x ks) id else lisK x ks
theorem zvF (p : List Int → Bool) (cl : zkQ) (i : Nat) : outI (idsI p cl) (i : Int) = idsI p (cl.set i none) := by
 unfold outI idsI
 rw [zBl, List.filter_map]
 congr 1
 apply List.filter_congr
 intro k _
 show (!decide ((k : Int) = (i : Int))) = (k != i)
 by_cases e : k = i
 · subst e; simp
 · have : ¬ (k : Int) = (i : Int) := by omega
   simp [e, this]
theorem zzL (fuel d : Nat) (hf : 2000000 < fuel) {ks0 : List Key} {many : Int} {cC tC sC : List AV} {l : List Int} (hnd : l.Nodup) (hl : l.length < 1000000) {id : Nat} (hks : ∀ x, (lisK x ks0).length < 1000000) (hin : ∀ x ∈ l, lisK x ks0 ≠ []) : ∀ (m j : Nat) (ks : List Key) (h : AH), l.length < m + j → j ≤ l.length → zy5 ks0 ks (l.take j) (id : Int) → Sep0 h0 h (gAll h0.maps.length { b with ks := ks } n many cC tC sC R) →
   ∃ ks' h', zd7 fuel (d + 4) m [(0, .ptr (bP b)), (5, .int .i64 (id : Int)), (19, .slice (lstI l)), (20, .int .i64 (l.length : Int)), (21, .int .i64 (j : Int))] h = some (.exit 0, [(0, .ptr (bP b)), (5, .int .i64 (id : Int))], h') ∧ zy5 ks0 ks' l (id : Int) ∧ Sep0 h0 h' (gAll h0.maps.length { b with ks := ks' } n many cC tC sC R) := by
 intro m
 induction m with
 | zero => intro j ks h h1 h2; omega
 | succ m ih =>
   intro j ks h h1 h2 hk hs
   rw [zqr]
   by_cases hj : j < l.length
   · have c3 : h.cell (.mk ⟨b.B, 0, 0 + 3⟩ 6) = some (.map (some b.m)) := hs.part (i := 0) rfl (by omega) rfl
     have cm : h.maps[b.m]? = some (esK ks) := hs.getMap (i := 4) rfl
     rw [zan (by omega), zcC _ (by omega) (by omega) 0]
     simp only [o_bd, zeG, zam, Int.toNat_natCast, zjl, zcd, c3, zsL, zpq, cm, ztI, zx6, zac]
     have hm : l.getD j 0 ∈ l := by rw [List.getD_eq_getElem?_getD, List.getElem?_eq_getElem hj]; exact List.getElem_mem hj
     have hnot : l.getD j 0 ∉ l.take j := by
       intro hin
       rw [List.getD_eq_getElem?_getD, List.getElem?_eq_getElem hj, Option.getD_some] at hin
       obtain ⟨i, hi, e⟩ := List.mem_iff_getElem.1 hin
       rw [List.length_take] at hi
       rw [List.getElem_take] at e
       have := (List.getElem_inj hnd).1 e
       omega
     generalize hx : l.getD j 0 = x at hm hnot
     have hk1 := hk x
     rw [if_neg hnot] at hk1
     have hne := hin x hm
     obtain ⟨p, hp⟩ : ∃ p, zsr x ks = some p := by
       cases hf : zsr x ks with
       | some p => exact ⟨p, rfl⟩
       | none =>
         unfold lisK at hk1 hne
         rw [hf] at hk1
         exact absurd hk1.symm hne
     have hpl : p.2 = lisK x ks0 := by rw [← hk1]; unfold lisK; rw [hp]
     have hps : slK x ks = p.1 := by unfold slK; rw [hp]
     obtain ⟨i, hi1, hi2⟩ := zuk hp
     have hil := (List.getElem?_eq_some_iff.1 hi1).1
     have hkx := hks x
     rw [hps]
     have s1 := Sep0.frontK (A := .own 1 b.B 0 6 [.int .i64 (n : Int), .slice b.cS, .slice b.tS, .map (some b.m), .slice b.sS, .int .i64 many] :: .part 1 b.cS cC :: .part 1 b.tS tC :: .part 1 b.sS sC :: .mp h0.maps.length b.m (esK ks) :: R) hs hi1
     obtain ⟨s', h', e1, s2⟩ := zyp fuel d s1 (by rw [hpl]; omega) (by rw [hpl]; omega) (id : Int)
     have c3' : h'.cell (.mk ⟨b.B, 0, 0 + 3⟩ 6) = some (.map (some b.m)) := s2.part (i := 1) rfl (by omega) rfl
     have cm' : h'.maps[b.m]? = some (esK ks) := s2.getMap (i := 5) rfl
     have hset := zBd x (s', outI p.2 (id : Int)) ks
     simp only at hset
     simp only [e1, o_bd, zac, c3', zsL, zls, cm', hset]
     rw [zlr (by omega)]
     have s3 := s2.setMap (i := 5) rfl (esK (setK x (s', outI p.2 (id : Int)) ks))
     have s4 : Sep0 h0 (h'.setMap b.m (esK (setK x (s', outI p.2 (id : Int)) ks))) (.part 1 s' (zaS (outI p.2 (id : Int))) :: ((.own 1 b.B 0 6 [.int .i64 (n : Int), .slice b.cS, .slice b.tS, .map (some b.m), .slice b.sS, .int .i64 many] :: .part 1 b.cS cC :: .part 1 b.tS tC :: .part 1 b.sS sC :: .mp h0.maps.length b.m (esK (setK x (s', outI p.2 (id : Int)) ks)) :: R) ++ chK (ks.eraseIdx i))) := s3
     have s5 := Sep0.backK (x := x) s4 hil
     rw [← hi2 (s', outI p.2 (id : Int))] at s5
     refine ih (j + 1) (setK x (s', outI p.2 (id : Int)) ks) _ (by omega) (by omega) (fun y => ?_) s5
     rw [zia hj 0, hx]
     by_cases hy : y = x
     · subst hy
       have e9 : lisK y (setK y (s', outI p.2 (id : Int)) ks) = outI p.2 (id : Int) := by unfold lisK; rw [zvH]
       rw [e9, if_pos (List.mem_append_right _ (List.mem_singleton.2 rfl)), hpl]
     · have e2 : lisK y (setK x (s', outI p.2 (id : Int)) ks) = lisK y ks := by
         unfold lisK
         rw [zrC hy]
       rw [e2, hk y]
       have : (y ∈ l.take j ++ [x]) ↔ y ∈ l.take j := by simp only [List.mem_append, List.mem_singleton, hy, or_false]
       simp only [this]
   · have : j = l.length := by omega
     subst this
     rw [zah (by omega)]
     rw [List.take_length] at hk
     exact ⟨ks, h, rfl, hk, hs⟩
def zy6 (h0 : AH) (b b' : Bs) (n : Nat) (cl : zkQ) (R : List zcJ) (h' : AH) : Option Nat → Prop
 | none => b' = b ∧ Sep0 h0 h' (bAll h0.maps.length b n cl R)
 | some i => BOk b' n (cl.set i none) ∧ Sep0 h0 h' (bAll h0.maps.length b' n (cl.set i none) R)
theorem zyA (fuel d : Nat) (hd : 49 ≤ d) (hb : BOk b n cl) (hf : 2000000 < fuel) (hs : Sep0 h0 h (bAll h0.maps.length b n cl R)) {s : Sl} {c : List Int} (hc : h.sliceCells 1 s = some (zaS c)) (hcl : c.length < 100000) :
   ∃ b' h', run fuel (d + 3) zeI [.ptr (bP b), .slice s] h = some (.bool (fstB cl (zeF c)).isSome, h') ∧ b'.B = b.B ∧ zy6 h0 b b' n cl R h' (fstB cl (zeF c)) := by
 obtain ⟨d, rfl⟩ : ∃ d', d = d' + 2 := ⟨d - 2, by omega⟩
 obtain ⟨h1, e1, s1, _⟩ := zyt fuel (d + 2) hd hb hf hs hc hcl
 rw [ztv, e1]
 simp only [o_bd, zam]
 unfold fndI
 cases hfst : fstB cl (zeF c) with
 | none =>
   show ∃ b' h', (bif decide ((-1 : Int) < 0) then _ else _) = _ ∧ _
   rw [zan (by omega)]
   exact ⟨b, h1, rfl, rfl, rfl, s1⟩
 | some id =>
   obtain ⟨hat, hmem, hers⟩ := zsp hfst
   obtain ⟨hem, hil⟩ := ztj hat
   have hn := hb.vars
   have hnl := zle c
   have hcln := hb.len
   show ∃ b' h', (bif decide ((id : Int) < 0) then _ else _) = _ ∧ _
   rw [zah (by omega)]
   have c1 : h1.cell (.mk ⟨b.B, 0, 0 + 1⟩ 6) = some (.slice b.cS) := s1.part (i := 0) rfl (by omega) rfl
   simp only [zjl, zcd, o_bd, c1, zac]
   rw [zrr (s1.cellsP (i := 1) rfl) (by omega) (v := .slice (lstI (zeF c))) (by rw [Int.toNat_natCast, List.getElem?_map, zvk hat]; rfl)]
   simp only [o_bd, zac]
   rw [zeW]
   obtain ⟨ks', h2, e2, hk2, s2⟩ := zzL fuel d hf (b := b) (ks0 := b.ks) (id := id) (zru c) (by omega) (fun x => by rw [hb.keys x, List.length_map]; have := zq2 (cl := cl) (hasP x); omega) (fun x hx => by
     rw [hb.keys x]
     have : id ∈ idsP (hasP x) cl := ztJ.2 ⟨_, hat, decide_eq_true hx⟩
     intro e
     have h9 : (id : Int) ∈ idsI (hasP x) cl := List.mem_map_of_mem this
     rw [e] at h9
     cases h9) fuel 0 b.ks h1 (by omega) (by omega) (fun x => by simp) s1
   rw [show zd7 fuel (d + 2 + 2) fuel [(0, .ptr (bP b)), (5, .int .i64 (id : Int)), (19, .slice (lstI (zeF c))), (20, .int .i64 ((zeF c).length : Int)), (21, .int .i64 0)] h1 = _ from e2]
   simp only [o_bd, zqt, zjl, zcd]
   have c4 : h2.cell (.mk ⟨b.B, 0, 0 + 4⟩ 6) = some (.slice b.sS) := s2.part (i := 0) rfl (by omega) rfl
   simp only [c4, o_bd, zac]
   have hsl := zq2 (cl := cl) zkb
   have s3 := s2.perm (List.perm_middle (l₁ := [_, _, _]))
   obtain ⟨sS', h3, e3, s4⟩ := zyp fuel d s3 (l := idsI zkb cl) (by simp; omega) (by simp; omega) (id : Int)
   have s5 := s4.perm (List.perm_middle (l₁ := [_, _, _])).symm
   rw [show run fuel (d + 2 + 2) zpP [.slice b.sS, .int .i64 (id : Int)] h2 = _ from e3]
   simp only [o_bd, zac, Nat.zero_add]
   obtain ⟨h4, e4, s6⟩ := s5.put (i := 0) (o := 4) (l := 6) (vs := [.slice sS']) rfl (by simp) (by simp)
   rw [e4]
   have d1 : h4.cell (.mk ⟨b.B, 0, 1⟩ 6) = some (.slice b.cS) := s6.part (i := 0) rfl (by omega) rfl
   have d2 : h4.cell (.mk ⟨b.B, 0, 2⟩ 6) = some (.slice b.tS) := s6.part (i := 0) rfl (by omega) rfl
   simp only [o_bd, d1, d2, zac]
   obtain ⟨h5, e5, s7⟩ := s6.putA (i := 1) rfl (k := id) (by simpa using hil) (.slice .nil)
   rw [e5]
   obtain ⟨h6, e6, s8⟩ := s7.putA (i := 2) rfl (k := id) (by simpa using hil) (.bool false)
   rw [e6]
   have d5 : h6.cell (.mk ⟨b.B, 0, 5⟩ 6) = some (.int .i64 ((zep cl).length : Int)) := s8.part (i := 0) rfl (by omega) rfl
   have htl := zwc cl
   have hpos : 0 < (zep cl).length := List.length_pos_of_mem hmem
   have hth : (zep (cl.set id none)).length = (zep cl).length - 1 := by rw [hers, List.length_erase_of_mem hmem]
   obtain ⟨h7, e7, s9⟩ := s8.put (i := 0) (o := 5) (l := 6) (vs := [.int .i64 ((zep (cl.set id none)).length : Int)]) rfl (by simp) (by simp)
   simp only [d5, o_bd, zam]
   rw [show IntKind.wrap .i64 (((zep cl).length : Int) - 1) = ((zep (cl.set id none)).length : Int) by rw [zeo (by omega) (by omega), hth]; omega, e7]
   refine ⟨{ b with sS := sS', ks := ks' }, h7, rfl, rfl, ⟨fun x => ?_, fun l hl => ?_, by simpa using hcln, hn, fun l hl => ?_⟩, ?_⟩
   · have := hk2 x
     simp only at this ⊢
     rw [this, hb.keys x]
     split
     · exact zvF (hasP x) cl id
     · rename_i hx
       rw [← zvF]
       symm
       rw [List.filter_eq_self]
       intro y hy
       obtain ⟨k, hk, rfl⟩ := List.mem_map.1 hy
       have : k ≠ id := fun e => by
         subst e
         obtain ⟨l, g1, g2⟩ := ztJ.1 hk
         rw [hat] at g1
         cases g1
         exact hx (of_decide_eq_true g2)
       have h9 : ¬ Int.ofNat k = (id : Int) := fun e => this (by exact Int.ofNat.inj e)
       rw [decide_eq_false h9]; rfl
   · rcases List.mem_or_eq_of_mem_set hl with hl | hl
     · exact hb.norm l hl
     · cases hl
   · rcases List.mem_or_eq_of_mem_set hl with hl | hl
     · exact hb.lens l hl
     · cases hl
   · have e8 : (clC cl).set id (.slice .nil) = clC (cl.set id none) := by unfold clC; rw [List.map_set]; rfl
     have e9 : (thC cl).set id (.bool false) = thC (cl.set id none) := by unfold thC; rw [List.map_set]; rfl
     have e10 : zaS (outI (idsI zkb cl) (id : Int)) = zaS (idsI zkb (cl.set id none)) := by rw [zvF]
     unfold bAll b5
     rw [← e8, ← e9, ← e10]
     exact s9
end
end Go.Proofs.YtdmbfmgebgdfnaaDoor
namespace Go.Proofs.YtdmbfmgebgdfnaaDoor
open Go.RowKit
theorem zxw (fuel d : Nat) {l : List Int} {vars : Int} (hv' : vars ≤ 1000000) (hl : l.length < 1000000) (hf : l.length < fuel) (h : AH) :
   run fuel (d + 3) zcx [.slice (lstI l), .int .i64 vars] h = some (.slice (zuA (znf l vars)), h) := by
 obtain ⟨s, h', e1, e2⟩ := zv7 fuel d hv' hl hf AH.none
 refine zft rfl rfl (cc2 (zrc 7 l) rfl) (by rw [zqz]; exact e1) ?_
 have hg : zkL h' 1 s (zoo (znf l vars)) := e2.holds
 have hl2 := hg.len
 simp only [List.length_map, Nat.mul_one] at hl2
 rw [hg.freeze (n := 7) (by omega) (zsZ 6 _), ← hl2]
end Go.Proofs.YtdmbfmgebgdfnaaDoor
namespace Go.Proofs.YtdmbfmgebgdfnaaDoor
open Go.RowKit
theorem zx0 {f : FuncId} {args us : List AV} (hp : zAg f = true) (hx : exts f = none) (hc : zn1 args = some us) {fuel d : Nat} {h : AH} {r v : AV}
   (hb : ∃ h', brun fuel (d + 1) f us AH.none = some (r, h')) (hf : ∀ h', zap h' 8 r = some v) : run fuel (d + 1) f args h = some (v, h) := by
 obtain ⟨h', e⟩ := hb
 exact zft hp hx hc e (hf h')
def errs : List AV := [zdL, zdW, zee, zdm, zga, ziR, zlt]
abbrev errN (j : Nat) : AV := errs.getD j .nilif
theorem zB1 {j : Nat} (h : j < 7) : j = 0 ∨ j = 1 ∨ j = 2 ∨ j = 3 ∨ j = 4 ∨ j = 5 ∨ j = 6 := by omega
theorem zpI {j : Nat} (h : j < 7) (n : Nat) : zgA (n + 4) (errN j) = some (errN j) := by
 rcases zB1 h with rfl | rfl | rfl | rfl | rfl | rfl | rfl <;> rfl
theorem zq4 {j : Nat} (h : j < 7) : zd0 .iface (errN j) = some false := by
 rcases zB1 h with rfl | rfl | rfl | rfl | rfl | rfl | rfl <;> rfl
theorem zCs {j : Nat} (h : j < 7) : zrP zrg (errN j) = some none := by
 rcases zB1 h with rfl | rfl | rfl | rfl | rfl | rfl | rfl <;> rfl
theorem zzH {i j : Nat} (hi : i < 7) (hj : j < 7) (fuel : Nat) : znA (Cf fuel zh9) (errN i) (errN j) = some (decide (i = j)) := by
 rcases zB1 hi with rfl | rfl | rfl | rfl | rfl | rfl | rfl <;> rcases zB1 hj with rfl | rfl | rfl | rfl | rfl | rfl | rfl <;> rfl
theorem zz3 (fuel d : Nat) {i j : Nat} (hi : i < 7) (hj : j < 7) (h : AH) : run fuel (d + 1) zh9 [errN i, errN j] h = some (.bool (decide (i = j)), h) := by
 refine zft rfl rfl (cc2 (zpI hi 4) (zpI hj 4)) (r := .bool (decide (i = j))) (h' := AH.none) ?_ rfl
 rw [zr5, zq4 hi, zq4 hj]
 simp only [o_bd, beq_self_eq_true, cond_true, zaf, cond_false, zzH hi hj]
theorem zuH (fuel d : Nat) (h : AH) : run fuel (d + 1) zjn [] h = some (.slice (.lst 7 false errs), h) :=
 zft rfl rfl zrd (r := .slice (.lst 7 true errs)) (h' := AH.none) (by rw [zp1]; rfl) rfl
theorem zuI (fuel d : Nat) {j : Nat} (hj : j < 7) {h : AH} : ∀ (m k : Nat), 7 < m + k → k ≤ j →
   (zcK fuel (d + 1) m [(0, errN j), (3, .slice (.lst 7 false errs)), (4, .int .i64 (k : Int))] h).bind (fun p => zdx fuel (d + 1) p.1 p.2.1 p.2.2) = some (.int .i64 (101 + (j : Int)), h) := by
 intro m
 induction m with
 | zero => intro k h1 h2; omega
 | succ m ih =>
   intro k h1 h2
   rw [zn6, show (Sl.lst 7 false errs).len = 7 from rfl, zan (show ((k : Int) < ((7 : Nat) : Int)) by omega)]
   have ha : h.addr 1 (.lst 7 false errs) (k : Int) = some (.fp 0 [errN k]) := by
     have := zcC (h := h) (fun v : AV => v) (l := errs) (j := (k : Int)) (by omega) (by show (k : Int).toNat < 7; omega) .nilif false
     simp only [List.map_id', Int.toNat_natCast] at this
     exact this
   rw [ha]
   simp only [o_bd, zeG]
   rw [zz3 fuel d hj (by omega)]
   simp only [o_bd, zaf]
   by_cases he : j = k
   · subst he
     rw [decide_eq_true rfl, cond_true]
     simp only [o_bd, zox]
     rw [zeo (by omega) (by omega)]
   · rw [zah he, show IntKind.wrap .i64 ((k : Int) + 1) = ((k + 1 : Nat) : Int) by rw [zeo (by omega) (by omega)]; omega]
     exact ih (k + 1) (by omega) (by omega)
theorem zsA (fuel d : Nat) {j : Nat} (hj : j < 7) (hf : 10 < fuel) (h : AH) : run fuel (d + 2) zdu [errN j] h = some (.int .i64 (101 + (j : Int)), h) := by
 refine zft rfl rfl (cc1 (zpI hj 4)) (r := .int .i64 (101 + (j : Int))) (h' := AH.none) ?_ rfl
 rw [zqx, zuH fuel d]
 simp only [o_bd, zac]
 exact zuI fuel d hj fuel 0 (by omega) (by omega)
def zke (c : Int) (p : Bool) (x : Int) : List AV := [.int .i64 c, .bool p, .int .i64 x]
theorem zrJ (c : Int) (p : Bool) (x : Int) : zgA 8 (.agg (zke c p x)) = some (.agg (zke c p x)) := by
 unfold zke
 rw [zzW, zrK (u := .int .i64 c) rfl (zrK (u := .bool p) rfl (zrK (u := .int .i64 x) rfl (zyL _)))]
 rfl
theorem zlj {h : AH} (c : Int) (p : Bool) (x : Int) : zap h 8 (.agg (zke c p x)) = some (.agg (zke c p x)) := zyr 7 (mm3 rfl rfl rfl)
theorem zy8 (fuel d : Nat) (c : Int) (h : AH) : run fuel (d + 1) ziX [.int .i64 c] h = some (.agg (zke c false 0), h) :=
 zft rfl rfl (cc1 rfl) (by rw [zs6]; rfl) (zlj c false 0)
theorem zBX (fuel d : Nat) (h : AH) : run fuel (d + 1) zkM [] h = some (.agg (zke 0 false 0), h) :=
 zft rfl rfl zrd (by rw [zs4]; rfl) (zlj 0 false 0)
theorem zy2 (fuel d : Nat) {c : Int} (hc : c ≠ 0) (x : Int) (h : AH) : run fuel (d + 1) zlm [.int .i64 c, .int .i64 x] h = some (.agg (zke c true x), h) :=
 zft rfl rfl (cc2 rfl rfl) (by rw [zrD, zah hc]; rfl) (zlj c true x)
theorem zvn (fuel d : Nat) (c c' : Int) (p p' : Bool) (x x' : Int) (h : AH) : run fuel (d + 1) zjo [.agg (zke c p x), .agg (zke c' p' x')] h = some (.bool (decide (c = c') && p == p' && decide (x = x')), h) := by
 have hb := zp2 fuel d (zke c p x) (zke c' p' x') AH.none
 rw [show List.all (zke c p x) AV.isCell = true from rfl, show List.all (zke c' p' x') AV.isCell = true from rfl, cond_true, cond_true] at hb
 have hl : (zke c p x).length = 3 := rfl
 have hl' : (zke c' p' x').length = 3 := rfl
 simp only [hl, hl', zcd, o_bd] at hb
 generalize hP : (AH.none.push 1 (zke c p x)).push 1 (zke c' p' x') = P at hb
 have a0 : P.cell (.mk ⟨AH.none.next, 0, 0 + 0⟩ 3) = some (.int .i64 c) := by rw [← hP]; rfl
 have a1 : P.cell (.mk ⟨AH.none.next, 0, 0 + 1⟩ 3) = some (.bool p) := by rw [← hP]; rfl
 have a2 : P.cell (.mk ⟨AH.none.next, 0, 0 + 2⟩ 3) = some (.int .i64 x) := by rw [← hP]; rfl
 have b0 : P.cell (.mk ⟨(AH.none.push 1 (zke c p x)).next, 0, 0 + 0⟩ 3) = some (.int .i64 c') := by rw [← hP]; rfl
 have b1 : P.cell (.mk ⟨(AH.none.push 1 (zke c p x)).next, 0, 0 + 1⟩ 3) = some (.bool p') := by rw [← hP]; rfl
 have b2 : P.cell (.mk ⟨(AH.none.push 1 (zke c p x)).next, 0, 0 + 2⟩ 3) = some (.int .i64 x') := by rw [← hP]; rfl
 simp only [a0, a1, b0, b1, o_bd, zam, zaf, beqT] at hb
 refine zft rfl rfl (cc2 (zrJ c p x) (zrJ c' p' x')) (r := .bool (decide (c = c') && p == p' && decide (x = x'))) (h' := P) (hb.trans ?_) rfl
 by_cases hc : c = c'
 · rw [decide_eq_true hc]
   simp only [cond_true, o_bd, zaf, Bool.true_and]
   cases p == p' with
   | true => simp only [cond_true, a2, b2, o_bd, zam, zaf, Bool.true_and]
   | false => simp only [cond_false, o_bd, zaf, Bool.false_and]
 · rw [decide_eq_false hc]
   simp only [cond_false, o_bd, zaf, Bool.false_and]
abbrev atV (k : Int) (e : AV) : AV := .iface zrg (.ptr (.fp 0 [.int .i64 k, e]))
inductive zrZ : AV → Int → Bool → Int → Prop
 | fine : zrZ .nilif 0 false 0
 | bare {j : Nat} (hj : j < 7) : zrZ (errN j) (101 + (j : Int)) false 0
 | at {j : Nat} (hj : j < 7) (k : Int) : zrZ (atV k (errN j)) (101 + (j : Int)) true k
theorem zwQ {j : Nat} (hj : j < 7) (k : Int) : zgA 8 (atV k (errN j)) = some (atV k (errN j)) := by
 rcases zB1 hj with rfl | rfl | rfl | rfl | rfl | rfl | rfl <;> rfl
theorem zrZ.canon {e : AV} {c : Int} {p : Bool} {x : Int} (hf : zrZ e c p x) : zgA 8 e = some e := by
 cases hf with
 | fine => rfl
 | bare hj => exact zpI hj 4
 | «at» hj k => exact zwQ hj _
theorem zz6 (fuel d : Nat) {e : AV} {c : Int} {p : Bool} {x : Int} (hf : zrZ e c p x) (hfu : 10 < fuel) (h : AH) : run fuel (d + 3) zmi [e] h = some (.agg (zke c p x), h) := by
 have hc1 : ∀ c p x, (!false && Nat.beq (List.length (zke c p x)) 3 && List.all (zke c p x) AV.isCell) = true := fun _ _ _ => rfl
 cases hf with
 | fine =>
   refine zx0 rfl rfl (cc1 rfl) ⟨?w1, ?_⟩ (fun _ => zlj 0 false 0)
   rotate_left
   · rw [zmg]
     simp only [show zd0 .iface .nilif = some true from rfl, o_bd, cond_true, zBX, zvl, hc1]
     rfl
 | bare hj =>
   refine zx0 rfl rfl (cc1 (zpI hj 4)) ⟨?w2, ?_⟩ (fun _ => zlj _ false 0)
   rotate_left
   · rw [zmg]
     simp only [zq4 hj, o_bd, cond_false, zCs hj, Option.isSome_none, Bool.not_false, cond_true, zsA fuel d hj hfu, zam, zy8, zvl, hc1]
     rfl
 | @«at» j hj k =>
   refine zx0 rfl rfl (cc1 (zwQ hj x)) ⟨?w3, ?_⟩ (fun _ => zlj _ true x)
   rotate_left
   · rw [zmg]
     have t1 : zd0 .iface (atV x (errN j)) = some false := rfl
     have t2 : zrP zrg (atV x (errN j)) = some (some (.fp 0 [.int .i64 x, errN j])) := rfl
     have t3 : zd0 .ptr (.ptr (.fp 0 [.int .i64 x, errN j])) = some false := rfl
     simp only [t1, t2, o_bd, cond_false, Option.isSome_some, Bool.not_true, Option.getD_some, t3, beq_self_eq_true, cond_true, zvT, zqv, List.drop_succ_cons, List.drop_zero, zeG, zq4 hj, zaf, zsA fuel d hj hfu, zam, zls, zy2 fuel (d + 1) (show (101 + (j : Int)) ≠ 0 by omega), zvl, hc1]
     rfl
theorem zBU (fuel d : Nat) {e : AV} {c : Int} {p : Bool} {x : Int} (hf : zrZ e c p x) (hfu : 10 < fuel) (c' : Int) (p' : Bool) (x' : Int) (h : AH) :
   run fuel (d + 4) znj [e, .agg (zke c' p' x')] h = some (.bool (decide (c = c') && p == p' && decide (x = x')), h) := by
 refine zft rfl rfl (cc2 hf.canon (zrJ c' p' x')) (r := .bool (decide (c = c') && p == p' && decide (x = x'))) (h' := AH.none.push 1 (zke c' p' x')) ?_ rfl
 · rw [zs3, show List.all (zke c' p' x') AV.isCell = true from rfl, cond_true, zz6 fuel d hf hfu]
   have hc : (AH.none.push 1 (zke c' p' x')).cellsAt 3 (.mk ⟨AH.none.next, 0, 0⟩ (zke c' p' x').length) = some (zke c' p' x') := rfl
   simp only [o_bd, zvl, hc, zls, zvn, zaf]
end Go.Proofs.YtdmbfmgebgdfnaaDoor
namespace Go.Proofs.YtdmbfmgebgdfnaaDoor
open Go.RowKit
theorem zCP (fuel d : Nat) {e : AV} {c : Int} {p : Bool} {x : Int} (hf : zrZ e c p x) (hfu : 10 < fuel) (c' : Int) (h : AH) :
   run fuel (d + 5) zmH [e, .int .i64 c'] h = some (.bool (decide (c = c') && p == false && decide (x = 0)), h) := by
 refine zft rfl rfl (cc2 hf.canon rfl) (r := .bool (decide (c = c') && p == false && decide (x = 0))) (h' := AH.none) ?_ rfl
 rw [zum]
 simp only [zy8, o_bd, zvl, zBU fuel d hf hfu, zaf]
end Go.Proofs.YtdmbfmgebgdfnaaDoor
