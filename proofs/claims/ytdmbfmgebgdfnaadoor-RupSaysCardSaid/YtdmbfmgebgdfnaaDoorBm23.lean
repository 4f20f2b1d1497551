/-
 Values: lists of numbers, of bools, of bytes, lists of lists; what is read of them; what a body's result becomes.
-/
import Derived.Test.YtdmbfmgebgdfnaaDoorBm22
import Derived.Test.YtdmbfmgebgdfnaaDoorBm25
namespace Go.Proofs.YtdmbfmgebgdfnaaDoor
open Go.RowKit
def eqI (a b : Int) : Bool := decide (a = b)
theorem zyw (a : Int) : eqI a a = true := decide_eq_true rfl
theorem zDe {n b : Int} (h0 : 0 ≤ n) (h1 : n * b ≤ 140737488355328) (h2 : n ≤ 140737488355328) : (true && decide (0 ≤ n) && decide (n ≤ n) && decide (n * b ≤ 140737488355328) && decide (n ≤ 140737488355328)) = true := by
 simp [h0, h1, h2]
theorem zBe {n b : Int} (h0 : 0 ≤ n) (h1 : n * b ≤ 140737488355328) (h2 : n ≤ 140737488355328) : (decide ((0 : Int) ≤ n) && decide (n * b ≤ 140737488355328) && decide (n ≤ 140737488355328)) = true := by
 simp [h0, h1, h2]
abbrev lstM {α : Type} (f : α → AV) (l : List α) : Sl := .lst l.length false (l.map f)
abbrev lstN {α : Type} (f : α → List AV) (l : List α) : Sl := .lst l.length false (l.flatMap f)
abbrev lstI (l : List Int) : Sl := lstM (.int .i64) l
abbrev lstB (l : List Bool) : Sl := lstM .bool l
abbrev lstU (l : List UInt8) : Sl := lstM (fun b => .int .u8 (b.toNat : Int)) l
abbrev zuA (cc : List (List Int)) : Sl := lstM (fun c => .slice (lstI c)) cc
abbrev lstP (l : List (Int × Int)) : Sl := lstN (fun p => [.int .i64 p.1, .int .i64 p.2]) l
abbrev zDw (b : List UInt8) : List AV := b.map fun x => .int .u8 (x.toNat : Int)
abbrev zDx (l : List Bool) : List AV := l.map .bool
theorem zjk {α : Type} {l : List α} {i : Nat} (h : i < l.length) (d : α) : l.drop i = l.getD i d :: l.drop (i + 1) := by
 rw [List.drop_eq_getElem_cons h, List.getD_eq_getElem?_getD, List.getElem?_eq_getElem h]; rfl
theorem zia {α : Type} {l : List α} {i : Nat} (h : i < l.length) (d : α) : l.take (i + 1) = l.take i ++ [l.getD i d] := by
 rw [List.take_succ_eq_append_getElem h, List.getD_eq_getElem?_getD, List.getElem?_eq_getElem h]; rfl
section
variable {α : Type} {h : AH}
theorem ziU (f : α → AV) (l : List α) (c : Bool) : h.sliceCells 1 (.lst l.length c (l.map f)) = some (l.map f) := by
 simp [AH.sliceCells]
theorem zcC (f : α → AV) {l : List α} {j : Int} (h0 : 0 ≤ j) (hj : j.toNat < l.length) (d : α) (c : Bool) : h.addr 1 (.lst l.length c (l.map f)) j = some (.fp 0 [f (l.getD j.toNat d)]) := by
 have hjn : j < (l.length : Int) := by omega
 simp only [AH.addr, h0, hjn, decide_true, Bool.and_self, cond_true, Nat.mul_one]
 have e : (l.map f).drop j.toNat = f (l.getD j.toNat d) :: (l.map f).drop (j.toNat + 1) := by
   rw [← List.map_drop, zjk hj d, List.map_cons, List.map_drop]
 rw [e]
 rfl
theorem zs0 {f : α → List AV} {sz : Nat} (hf : ∀ a, (f a).length = sz) : ∀ (l : List α) (i : Nat), (l.flatMap f).drop (i * sz) = (l.drop i).flatMap f
 | l, 0 => by simp
 | [], i + 1 => by simp
 | a :: l, i + 1 => by
   rw [List.flatMap_cons, Nat.add_mul, Nat.one_mul, Nat.add_comm, ← List.drop_drop, List.drop_left' (hf a), List.drop_succ_cons, zs0 hf l i]
theorem zz4 {f : α → List AV} {sz : Nat} (hf : ∀ a, (f a).length = sz) {l : List α} {j : Int} (h0 : 0 ≤ j) (hj : j.toNat < l.length) (d : α) (c : Bool) : h.addr sz (.lst l.length c (l.flatMap f)) j = some (.fp 0 (f (l.getD j.toNat d))) := by
 have hjn : j < (l.length : Int) := by omega
 simp only [AH.addr, h0, hjn, decide_true, Bool.and_self, cond_true]
 rw [zs0 hf, zjk hj d, List.flatMap_cons, List.take_left' (hf _)]
theorem zeG (k : Nat) (v : AV) (vs : List AV) : h.cell (.fp k (v :: vs)) = some v := rfl
theorem zqv (o k : Nat) (cs : List AV) : Pt.field o (.fp k cs) = some (.fp 0 (cs.drop o)) := rfl
theorem zvT (k : Nat) (cs : List AV) : Pt.chk (.fp k cs) = some (.fp k cs) := rfl
theorem zyI {n k : Nat} {cs : List AV} (hn : cs.length = n) : h.cellsAt n (.fp k cs) = some cs := by
 subst hn
 simp only [AH.cellsAt, ble_eq, Nat.le_refl, decide_true, cond_true, List.take_length]
theorem zeW (n : Nat) (c : Bool) (cs : List AV) : Sl.len (.lst n c cs) = n := rfl
theorem zyn (f : α → AV) (l : List α) (c : Bool) : h.hasSz 1 (.lst l.length c (l.map f)) = true := by simp [AH.hasSz]
theorem zi7 {f : α → AV} (hf : ∀ a, (f a).closed = true) : ∀ l : List α, ziT (l.map f) = true
 | [] => rfl
 | a :: l => by simp [ziT, hf, zi7 hf l]
theorem ztU {f : α → AV} (hf : ∀ a, (f a).closed = true) (l : List α) (n : Nat) : (AV.slice (.lst n false (l.map f))).closed = true := by
 simpa [AV.closed, Sl.closed] using zi7 hf l
theorem ztV (l : List Int) : (AV.slice (lstI l)).closed = true := ztU (fun _ => rfl) l _
theorem zvQ (l : List (List Int)) : (AV.slice (zuA l)).closed = true := ztU ztV l _
theorem zxp {l : List AV} {i : Nat} {v : AV} (hi : l[i]? = some v) (hv : zgA 8 v = none) : zn1 l = none := by
 cases h : zn1 l with
 | none => rfl
 | some as =>
   obtain ⟨h1, h2⟩ := zot h
   have hlt : i < as.length := by rw [h1]; exact (List.getElem?_eq_some_iff.1 hi).1
   have := h2 i v _ hi (List.getElem?_eq_getElem hlt)
   rw [hv] at this
   cases this
theorem ztY {v u : AV} {l us : List AV} (hv : zgA 8 v = some u) (hl : zn1 l = some us) : zn1 (v :: l) = some (u :: us) := by
 unfold zn1 at hl ⊢
 rw [List.mapM_cons, hv, hl]; rfl
theorem zrd : zn1 [] = some [] := rfl
theorem cc1 {a u : AV} (ha : zgA 8 a = some u) : zn1 [a] = some [u] := ztY ha zrd
theorem cc2 {a b u v : AV} (ha : zgA 8 a = some u) (hb : zgA 8 b = some v) : zn1 [a, b] = some [u, v] := ztY ha (cc1 hb)
theorem zsu {n m : Nat} {c : Bool} {cs : List AV} (hc : ziT cs = true) : zgA (n + 1) (.slice (.lst m c cs)) = some (.slice (.lst m false cs)) := by simp [zgA, hc]
theorem zyK {f : α → AV} (hf : ∀ a, (f a).closed = true) (n m : Nat) (c : Bool) (l : List α) : zgA (n + 1) (.slice (.lst m c (l.map f))) = some (.slice (.lst m false (l.map f))) := zsu (zi7 hf l)
theorem zrc (n : Nat) (l : List Int) : zgA (n + 1) (.slice (lstI l)) = some (.slice (lstI l)) := zyK (fun _ => rfl) _ _ _ l
theorem zzV (n : Nat) : zgA (n + 1) (.slice .nil) = some (.slice (.lst 0 false [])) := rfl
theorem zzW (n : Nat) (cs : List AV) : zgA (n + 1) (.agg cs) = (cs.mapM (zgA n)).map .agg := rfl
theorem zrK {n : Nat} {v u : AV} {l us : List AV} (hv : zgA n v = some u) (hl : l.mapM (zgA n) = some us) : (v :: l).mapM (zgA n) = some (u :: us) := by
 rw [List.mapM_cons, hv, hl]; rfl
theorem zyL (n : Nat) : ([] : List AV).mapM (zgA n) = some [] := rfl
theorem zrx {f g : α → AV} {n : Nat} (hf : ∀ a, zap h n (f a) = some (g a)) : ∀ l : List α, (l.map f).mapM (zap h n) = some (l.map g)
 | [] => rfl
 | a :: l => by rw [List.map_cons, List.mapM_cons, hf, zrx hf l]; rfl
theorem zxk (n : Nat) (x : Bool) : zap h (n + 1) (.bool x) = some (.bool x) := rfl
theorem zxi (n : Nat) {a b u v : AV} (ha : zap h n a = some u) (hb : zap h n b = some v) : zap h (n + 1) (.tup [a, b]) = some (.tup [u, v]) := by
 simp [zap, ha, hb]
theorem zsY (n m : Nat) (c : Bool) {cs : List AV} (hc : ziT cs = true) : zap h (n + 1) (.slice (.lst m c cs)) = some (.slice (.lst m false cs)) := by
 simp [zap, hc]
theorem zzD (n k : Nat) {cs : List AV} (hc : ziT cs = true) : zap h (n + 1) (.ptr (.fp k cs)) = some (.ptr (.fp k cs)) := by
 simp [zap, hc]
theorem zdZ (n : Nat) (l : List Int) : zap h (n + 1) (.slice (lstI l)) = some (.slice (lstI l)) := zsY _ _ _ (zi7 (fun _ => rfl) l)
theorem zkL.freeze {n sz : Nat} {s : Sl} {cs us : List AV} (hg : zkL h sz s cs) (_ : 0 < sz) (hm : cs.mapM (zap h n) = some us) : zap h (n + 1) (.slice s) = some (.slice (.lst s.len false us)) := by
 cases hg with
 | nil => simp at hm; subst hm; rfl
 | none => simp at hm; subst hm; rfl
 | room => simp at hm; subst hm; rfl
 | @row id gen m _ row h1 hc hn hgn hv hr hs =>
   have hcells := (zkL.row h1 hc hn hgn hv hr hs).cells
   simp only [zap, Sl.len, Bool.cond_eq_ite]
   by_cases h0 : m = 0
   · subst h0
     have : cs = [] := by simpa using hn
     subst this
     simp at hm
     subst hm
     simp
   · rw [if_neg (by rw [nbeq]; exact h0), h1]
     simp only [hs, hcells, o_bd, hm, Option.map_some]
 | @full id gen m _ row h0 h1 hc hn hgn hv hr hs =>
   have hcells : h.sliceCells sz (.mk ⟨id, gen, 0⟩ m false) = some cs := (zkL.full h0 h1 hc hn hgn hv hr hs).cells
   simp only [zap, Sl.len, Bool.cond_eq_ite]
   rw [if_neg (by rw [nbeq]; exact h0), h1]
   simp only [hs, hcells, o_bd, hm, Option.map_some]
theorem Own.freeze {n sz id gen m : Nat} {cs us : List AV} (ho : Own h sz id gen m cs) (c : Bool) (hm : cs.mapM (zap h n) = some us) : zap h (n + 1) (.slice (.mk ⟨id, gen, 0⟩ m c)) = some (.slice (.lst m false us)) := by
 have hcells := ho.cells false
 obtain ⟨⟨row, h1, hc, hgn, hv, hr, hs⟩, hl⟩ := ho
 simp only [zap, Bool.cond_eq_ite]
 by_cases h0 : m = 0
 · subst h0
   have : cs = [] := by simpa using hl
   subst this
   simp at hm
   subst hm
   simp
 · rw [if_neg (by rw [nbeq]; exact h0), h1]
   simp only [hs, hcells, o_bd, hm, Option.map_some]
theorem zoE (n : Nat) (l : List Int) : (zaS l).mapM (zap h (n + 1)) = some (zaS l) := zrx (fun _ => rfl) l
theorem zkL.one {sz bytes : Nat} {s : Sl} {cs vs : List AV} (hg : zkL h sz s cs) (hv : vs.length = sz) (hb : (s.len + 1) * bytes ≤ 140737488355328) (hb' : s.len + 1 ≤ 140737488355328) :
   ∃ s' h', h.append false sz bytes s 1 vs = some (s', h') ∧ zkL h' sz s' (cs ++ vs) ∧ s'.len = s.len + 1 ∧ zcs h h' (fun i => s.row = some i) ∧ (s'.row = s.row ∨ s'.row = some h.rows.length) := by
 obtain ⟨s', h', e1, e2, e3, e4, e5⟩ := hg.append (bytes := bytes) (m := 1) (xs := vs) (by rw [Nat.one_mul]; exact hv) (by omega) hb hb' some
 have hbs : ∀ x : Option (Sl × AH), x.bind some = x := fun x => by cases x <;> rfl
 rw [hbs] at e1
 exact ⟨s', h', e1, e2, e4, e3, e5⟩
theorem zkL.more {sz bytes m : Nat} {s : Sl} {cs vs : List AV} (hg : zkL h sz s cs) (hv : vs.length = m * sz) (hb : (s.len + m) * bytes ≤ 140737488355328) (hb' : s.len + m ≤ 140737488355328) :
   ∃ s' h', h.append false sz bytes s m vs = some (s', h') ∧ zkL h' sz s' (cs ++ vs) ∧ s'.len = s.len + m ∧ zcs h h' (fun i => s.row = some i) ∧ (s'.row = s.row ∨ s'.row = some h.rows.length) := by
 by_cases h0 : m = 0
 · subst h0
   have : vs = [] := by simpa using hv
   subst this
   exact ⟨s, h, by simp [AH.append], by simpa using hg, rfl, zcs.refl _ _, .inl rfl⟩
 · obtain ⟨s', h', e1, e2, e3, e4, e5⟩ := hg.append (bytes := bytes) (m := m) (xs := vs) hv h0 hb hb' some
   have hbs : ∀ x : Option (Sl × AH), x.bind some = x := fun x => by cases x <;> rfl
   rw [hbs] at e1
   exact ⟨s', h', e1, e2, e4, e3, e5⟩
theorem zkL.make (sz : Nat) (c : Bool) : zkL (h.push sz []) sz (.mk ⟨h.next, 0, 0⟩ 0 c) [] := by
 cases c with
 | true => exact .none
 | false => exact .row (row := { cells := [], sz := sz }) (by simp [AH.push, AH.next]) rfl (by simp) rfl (Nat.le_refl _) rfl rfl
theorem zkL.hasSz {sz : Nat} {s : Sl} {cs : List AV} (hg : zkL h sz s cs) : h.hasSz sz s = true := by
 cases hg with
 | nil => rfl
 | none => rfl
 | room h1 hgen hv hr hs => simp [AH.hasSz, h1, hs]
 | row h1 hc hn hgen hv hr hs => simp [AH.hasSz, h1, hs]
 | full h0 h1 hc hn hgen hv hr hs => simp [AH.hasSz, h1, hs]
theorem Own.hasSz {sz id gen n : Nat} {cs : List AV} (ho : Own h sz id gen n cs) (c : Bool) : h.hasSz sz (.mk ⟨id, gen, 0⟩ n c) = true := by
 obtain ⟨⟨row, h1, _, _, _, _, h6⟩, _⟩ := ho
 simp [AH.hasSz, h1, h6]
theorem zkL.len {sz : Nat} {s : Sl} {cs : List AV} (hg : zkL h sz s cs) : cs.length = s.len * sz := za7 hg.cells
end
section
variable {α : Type} {h : AH}
theorem zuj (v : AV) : h.fixL [v] = ([(h.fixV v).1], (h.fixV v).2) := rfl
theorem zzE (v : AV) (vs : List AV) : h.fixL (v :: vs) = ((h.fixV v).1 :: ((h.fixV v).2.fixL vs).1, ((h.fixV v).2.fixL vs).2) := rfl
theorem zBs (n : Nat) (c : Bool) (cs : List AV) : h.fixV (.slice (.lst n c cs)) = (.slice (.lst n false cs), h) := rfl
theorem zys {f : α → AV} (hf : ∀ a h, AH.fixV h (f a) = (f a, h)) : ∀ (l : List α), h.fixL (l.map f) = (l.map f, h)
 | [] => rfl
 | a :: l => by rw [List.map_cons, zzE, hf, zys hf l]
theorem zkL.fix {sz : Nat} {s : Sl} {cs : List AV} (hg : zkL h sz s cs) (hc : ziT cs = true) :
   ∃ h', h.fixV (.slice s) = (.slice (.lst s.len false cs), h') ∧ zcs h h' (fun i => s.row = some i) ∧ h'.rows.length = h.rows.length ∧ h'.maps = h.maps := by
 cases hg with
 | nil => exact ⟨h, rfl, zcs.refl _ _, rfl, rfl⟩
 | none => exact ⟨h, rfl, zcs.refl _ _, rfl, rfl⟩
 | room => exact ⟨h, rfl, zcs.refl _ _, rfl, rfl⟩
 | @row id gen m _ row h1 hcs hn hgn hv hr hs =>
   have hcells := (zkL.row h1 hcs hn hgn hv hr hs).cells
   by_cases h0 : m = 0
   · subst h0
     have : cs = [] := by simpa using hn
     subst this
     exact ⟨h, rfl, zcs.refl _ _, rfl, rfl⟩
   · refine ⟨h.setRow id { row with ro := true }, ?_, (zcs.setRow h id _).mono fun i _ e => by subst e; rfl, by simp [AH.setRow], rfl⟩
     simp only [AH.fixV, Bool.cond_eq_ite]
     rw [if_neg (by rw [nbeq]; exact h0), h1]
     simp only [hr, Bool.false_eq_true, if_false, hs, hcells, hc, if_true, Sl.len]
 | @full id gen m _ row h0 h1 hcs hn hgn hv hr hs =>
   have hcells := (zkL.full h0 h1 hcs hn hgn hv hr hs).cells
   refine ⟨h.setRow id { row with ro := true }, ?_, (zcs.setRow h id _).mono fun i _ e => by subst e; exact Sl.row_mk h0 true, by simp [AH.setRow], rfl⟩
   simp only [AH.fixV, Bool.cond_eq_ite]
   rw [if_neg (by rw [nbeq]; exact h0), h1]
   simp only [hr, Bool.false_eq_true, if_false, hs, hcells, hc, if_true, Sl.len]
end
def Far (s t : Sl) : Prop := ∀ r, s.row = some r → t.row ≠ some r
theorem Far.nil (s : Sl) : Far s .nil := fun r _ h => by cases h
theorem Far.symm {s t : Sl} (h : Far s t) : Far t s := fun r ht hs => h r hs ht
section
variable {h : AH}
end
section
variable {h : AH}
theorem zvX : ∀ (n : Nat) {v u : AV}, zgA n v = some u → zap h n v = some u := by
 intro n
 induction n with
 | zero => intro v u hu; simp [zgA] at hu
 | succ n ih =>
   intro v u hu
   have lists : ∀ {cs us : List AV}, cs.mapM (zgA n) = some us → cs.mapM (zap h n) = some us := by
     intro cs
     induction cs with
     | nil => intro us hm; simpa using hm
     | cons c cs ihc =>
       intro us hm
       rw [List.mapM_cons] at hm ⊢
       cases h1 : zgA n c with
       | none => rw [h1] at hm; cases hm
       | some u =>
         cases h2 : cs.mapM (zgA n) with
         | none => rw [h1, h2] at hm; cases hm
         | some us' =>
           rw [h1, h2] at hm
           cases hm
           rw [ih h1, ihc h2]; rfl
   unfold zgA at hu
   split at hu
   · rename_i s
     split at hu
     · cases hu; rfl
     · rename_i len c cs
       rw [Bool.cond_eq_ite] at hu
       split at hu
       · rename_i hc; cases hu; simp [zap, hc]
       · cases hu
     · cases hu
   · rename_i t y
     cases hy : zgA n y with
     | none => rw [hy] at hu; cases hu
     | some u' => rw [hy] at hu; cases hu; simp [zap, ih hy]
   · rename_i cs
     cases hm : cs.mapM (zgA n) with
     | none => rw [hm] at hu; cases hu
     | some us => rw [hm] at hu; cases hu; simp [zap, lists hm]
   · rename_i cs
     cases hm : cs.mapM (zgA n) with
     | none => rw [hm] at hu; cases hu
     | some us => rw [hm] at hu; cases hu; simp [zap, lists hm]
   · rw [Bool.cond_eq_ite] at hu
     split at hu
     · rename_i hc
       cases hu
       cases v <;> simp_all [zap, AV.closed]
       rename_i p
       cases p <;> simp_all [Pt.closed]
     · cases hu
theorem zuX {l us : List AV} (hl : zn1 l = some us) : l.mapM (zap h 8) = some us := by
 induction l generalizing us with
 | nil => unfold zn1 at hl; simpa using hl
 | cons c cs ihc =>
   unfold zn1 at hl
   rw [List.mapM_cons] at hl ⊢
   cases h1 : zgA 8 c with
   | none => rw [h1] at hl; cases hl
   | some u =>
     cases h2 : cs.mapM (zgA 8) with
     | none => rw [h1, h2] at hl; cases hl
     | some us' =>
       rw [h1, h2] at hl
       cases hl
       rw [zvX 8 h1, ihc h2]; rfl
end
theorem mm1 {g : AV → Option AV} {a u : AV} (ha : g a = some u) : [a].mapM g = some [u] := by simp [ha]
theorem mm2 {g : AV → Option AV} {a b u v : AV} (ha : g a = some u) (hb : g b = some v) : [a, b].mapM g = some [u, v] := by simp [ha, hb]
theorem mm3 {g : AV → Option AV} {a b c u v x : AV} (ha : g a = some u) (hb : g b = some v) (hc : g c = some x) : [a, b, c].mapM g = some [u, v, x] := by simp [ha, hb, hc]
theorem zyr {h : AH} (n : Nat) {cs us : List AV} (hm : cs.mapM (zap h n) = some us) : zap h (n + 1) (.agg cs) = some (.agg us) := by simp [zap, hm]
section
variable {h : AH}
theorem Own.copy {id gen n : Nat} {cs : List AV} (ho : Own h 1 id gen n cs) {off k m : Nat} {c : Bool} {xs : List AV} (hm : m ≤ xs.length) (hl : off + m ≤ n) :
   ∃ h', h.copy false 1 (.mk ⟨id, gen, off⟩ k c) m xs = some h' ∧ Own h' 1 id gen n (cs.take off ++ xs.take m ++ cs.drop (off + m)) ∧ zcs h h' (· = id) ∧ h'.rows.length = h.rows.length := by
 by_cases h0 : m = 0
 · subst h0
   exact ⟨h, by simp [AH.copy], by simpa using ho, zcs.refl _ _, rfl⟩
 · obtain ⟨⟨row, h1, rfl, rfl, h4, h5, h6⟩, hlen⟩ := ho
   rw [Nat.mul_one] at hlen
   have hlt := (List.getElem?_eq_some_iff.1 h1).1
   have hxl : (xs.take m).length = m := by simp; omega
   have hle : off + m ≤ row.cells.length := by omega
   refine ⟨h.setRow id { row with cells := AH.overlay row.cells off (xs.take m), valid := row.gen }, ?_, ⟨⟨{ row with cells := AH.overlay row.cells off (xs.take m), valid := row.gen }, ?_, ?_, rfl, Nat.le_refl _, h5, h6⟩, ?_⟩, zcs.setRow _ _ _, by simp [AH.setRow]⟩
   · simp only [AH.copy, zll, h0, decide_false, cond_false, h1, h6, decide_true, cond_true, Nat.mul_one, AH.store, h5, Bool.not_false, hxl, ble_eq, hle, Bool.and_self]
   · simp only [AH.setRow]
     exact List.getElem?_set_self hlt
   · simp only [AH.overlay, hxl]
   · simp; omega
theorem Own.of_push (sz n : Nat) (cs : List AV) (hl : cs.length = n * sz) : Own (h.push sz cs) sz h.next 0 n cs := Own.push h sz n cs hl
end
theorem zrN (n : Nat) : aHi none n = some n := rfl
theorem zqJ {x : Int} {n : Nat} (h0 : 0 ≤ x) (h1 : x ≤ n) (k : IntKind) : aHi (some (.int k x)) n = some x.toNat := by
 simp [aHi, zsa, h0, h1]
theorem zqI (n : Nat) : aLo none n = some 0 := rfl
theorem zrM {x : Int} {n : Nat} (h0 : 0 ≤ x) (h1 : x ≤ n) (k : IntKind) : aLo (some (.int k x)) n = some x.toNat := by
 simp [aLo, zsa, h0, h1]
theorem zmh (n : Nat) : aMx none n = some false := rfl
end Go.Proofs.YtdmbfmgebgdfnaaDoor
