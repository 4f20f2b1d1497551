/-
  What the package word does, told of lists: lines and words.
-/
import Derived.Test.YthccobceodgmlaaE
import Derived.Test.YthccobceodgmlaaAm26
namespace Go.Proofs.Ythccobceodgmlaa
open Go.RowKit

theorem succU {m : Nat} (h : m < 9000000000000000000) : IntKind.wrap .i64 ((m : Int) + 1) = ((m + 1 : Nat) : Int) := by rw [wrap64 (by omega) (by omega)]; omega

/-- What a byte is: 0 of a word, 1 a blank, 2 a line's end. -/
def kindI (c : Int) : Int := if c = 32 ∨ c = 9 ∨ c = 13 then 1 else if c = 10 then 2 else 0
def isW (c : UInt8) : Bool := decide (kindI (c.toNat : Int) = 0)

theorem kind50 (fuel d : Nat) (c : Int) (h : AHeap) : run fuel (d + 1) 50 [.int .u8 c] h = some (.int .i64 (kindI c), h) := by
  rw [e50]
  unfold kindI
  by_cases h1 : c = 32
  · simp [h1, k50_0_n, k50_1_n]
  · by_cases h2 : c = 9
    · simp [h2, k50_0_n, k50_1_n]
    · by_cases h3 : c = 13
      · simp [h3, k50_0_x3, k50_1_n]
      · by_cases h4 : c = 10
        · simp [h4, k50_0_x4, k50_1_x4]
        · simp [h1, h2, h3, h4, k50_0_x0, k50_1_x0]

/-- A word of a text. -/
structure Wd where
  text : List UInt8
  pos : Nat
  first : Bool
  deriving DecidableEq

def wdC (w : Wd) : List AVal := [.str ⟨w.text.toArray⟩, .int .i64 (w.pos : Int), .bool w.first]
abbrev wdsC (l : List Wd) : List AVal := l.flatMap wdC

theorem wdsC_len (l : List Wd) : (wdsC l).length = l.length * 3 := by
  induction l with
  | nil => rfl
  | cons q l ih =>
    have ec : wdsC (q :: l) = wdC q ++ wdsC l := rfl
    rw [ec, List.length_append, ih, List.length_cons]
    simp [wdC]
    omega

theorem wdsC_get : ∀ {l : List Wd} {m : Nat} {p : Wd}, l[m]? = some p → (wdsC l)[m * 3 + 0]? = some (.str ⟨p.text.toArray⟩) ∧ (wdsC l)[m * 3 + 1]? = some (.int .i64 (p.pos : Int)) ∧ (wdsC l)[m * 3 + 2]? = some (.bool p.first)
  | [], m, p, h => by simp at h
  | q :: l, 0, p, h => by
    simp at h
    subst h
    exact ⟨rfl, rfl, rfl⟩
  | q :: l, m + 1, p, h => by
    obtain ⟨h1, h2, h3⟩ := wdsC_get (l := l) (m := m) (p := p) (by simpa using h)
    have e0 : (m + 1) * 3 + 0 = (m * 3 + 0) + 1 + 1 + 1 := by omega
    have e1 : (m + 1) * 3 + 1 = (m * 3 + 1) + 1 + 1 + 1 := by omega
    have e2 : (m + 1) * 3 + 2 = (m * 3 + 2) + 1 + 1 + 1 := by omega
    have ec : wdsC (q :: l) = .str ⟨q.text.toArray⟩ :: .int .i64 (q.pos : Int) :: .bool q.first :: wdsC l := rfl
    rw [e0, e1, e2, ec]
    simp only [List.getElem?_cons_succ]
    exact ⟨h1, h2, h3⟩

/-- A word's parts, read. -/
theorem readW {h : AHeap} {s : Sl} {l : List Wd} (hs : h.sliceCells 3 s = some (wdsC l)) {m : Nat} {p : Wd} (hp : l[m]? = some p) :
    s.len = l.length ∧ h.addr 3 s (m : Int) = some (s.at 3 (m : Int)) ∧ (Pt.field 0 (s.at 3 (m : Int)) = some ((s.at 3 (m : Int)).fld 0) ∧ h.cell ((s.at 3 (m : Int)).fld 0) = some (.str ⟨p.text.toArray⟩)) ∧
      (Pt.field 1 (s.at 3 (m : Int)) = some ((s.at 3 (m : Int)).fld 1) ∧ h.cell ((s.at 3 (m : Int)).fld 1) = some (.int .i64 (p.pos : Int))) ∧
      (Pt.field 2 (s.at 3 (m : Int)) = some ((s.at 3 (m : Int)).fld 2) ∧ h.cell ((s.at 3 (m : Int)).fld 2) = some (.bool p.first)) := by
  have hl := sliceCells_len hs
  rw [wdsC_len] at hl
  have hm := (List.getElem?_eq_some_iff.1 hp).1
  obtain ⟨g0, g1, g2⟩ := wdsC_get hp
  refine ⟨by omega, addr_at hs (by omega) (by omega), ?_, ?_, ?_⟩
  · exact cell_fld hs (j := (m : Int)) (o := 0) (by omega) (by omega) (by omega) (by rw [Int.toNat_natCast]; exact g0)
  · exact cell_fld hs (j := (m : Int)) (o := 1) (by omega) (by omega) (by omega) (by rw [Int.toNat_natCast]; exact g1)
  · exact cell_fld hs (j := (m : Int)) (o := 2) (by omega) (by omega) (by omega) (by rw [Int.toNat_natCast]; exact g2)

/-- Where the word ends that goes on at a place. -/
def wEnd (b : List UInt8) (k : Nat) : Nat := k + ((b.drop k).takeWhile isW).length

theorem drop_cons {b : List UInt8} {k : Nat} (h : k < b.length) : b.drop k = b.getD k 0 :: b.drop (k + 1) := by
  rw [List.drop_eq_getElem_cons h, List.getD_eq_getElem?_getD, List.getElem?_eq_getElem h, Option.getD_some]

theorem wEnd_in {b : List UInt8} {k : Nat} (h : k < b.length) (hw : isW (b.getD k 0) = true) : wEnd b k = wEnd b (k + 1) := by
  unfold wEnd
  rw [drop_cons h, List.takeWhile_cons, if_pos hw, List.length_cons]
  omega
theorem wEnd_out {b : List UInt8} {k : Nat} (hw : isW (b.getD k 0) = false) : wEnd b k = k := by
  unfold wEnd
  by_cases h : k < b.length
  · rw [drop_cons h, List.takeWhile_cons, if_neg (by rw [hw]; simp)]
    rfl
  · rw [List.drop_eq_nil_of_le (by omega)]; rfl
theorem wEnd_end {b : List UInt8} {k : Nat} (h : b.length ≤ k) : wEnd b k = k := by
  unfold wEnd
  rw [List.drop_eq_nil_of_le h]; rfl
theorem wEnd_le {b : List UInt8} {k : Nat} (h : k ≤ b.length) : k ≤ wEnd b k ∧ wEnd b k ≤ b.length := by
  unfold wEnd
  have h1 := List.takeWhile_prefix isW (l := b.drop k)
  have := h1.length_le
  rw [List.length_drop] at this
  omega

/-- The words of a line that begins at a place. -/
def lineGo (b : List UInt8) (at_ : Nat) : Nat → Nat → Bool → List Wd
  | 0, _, _ => []
  | n + 1, k, f => if k < b.length then (if isW (b.getD k 0) = true then ⟨(b.drop k).take (wEnd b k - k), at_ + k, f⟩ :: lineGo b at_ n (wEnd b k + 1) false else lineGo b at_ n (k + 1) f) else []

theorem lineGo_fuel {b : List UInt8} {at_ : Nat} : ∀ (n m k : Nat) (f : Bool), b.length < n + k → b.length < m + k → lineGo b at_ n k f = lineGo b at_ m k f
  | 0, m, k, f, h1, h2 => by
    cases m with
    | zero => rfl
    | succ m => simp only [lineGo]; rw [if_neg (by omega)]
  | n + 1, 0, k, f, h1, h2 => by simp only [lineGo]; rw [if_neg (by omega)]
  | n + 1, m + 1, k, f, h1, h2 => by
    simp only [lineGo]
    split
    · rename_i hk
      split
      · have := (wEnd_le (b := b) (k := k) (by omega)).1
        rw [lineGo_fuel n m _ _ (by omega) (by omega)]
      · exact lineGo_fuel n m _ _ (by omega) (by omega)
    · rfl
def lineOf (b : List UInt8) (at_ : Nat) : List Wd := lineGo b at_ (b.length + 1) 0 true

theorem line_inner (fuel d : Nat) {h : AHeap} {s s5 : Sl} {x1 x7 : Int} {b : List UInt8} (hs : h.sliceCells 1 s = some (bytesC b)) (hb : b.length < 1000000000) : ∀ (n k : Nat), b.length < n + k → k ≤ b.length →
    l48_1 fuel (d + 1) n [(0, .slice s), (1, .int .i64 x1), (5, .slice s5), (6, .int .i64 (k : Int)), (7, .int .i64 x7)] h = some (.exit 2, [(0, .slice s), (1, .int .i64 x1), (5, .slice s5), (6, .int .i64 (wEnd b k : Int)), (7, .int .i64 x7)], h) := by
  have hsl : s.len = b.length := by have := sliceCells_len hs; simp at this; omega
  intro n
  induction n with
  | zero => intro k h1 h2; omega
  | succ n ih =>
    intro k h1 h2
    rw [l48_1_eq, hsl]
    by_cases hk : k < b.length
    · obtain ⟨r1, r2⟩ := readU hs hk
      rw [decide_eq_true (show (k : Int) < (b.length : Int) by omega)]
      simp only [beq_self_eq_true, cond_true, r1, r2, Option.bind_some, int_int, kind50, bool_bool]
      by_cases hw : kindI ((b.getD k 0).toNat : Int) = 0
      · rw [bif_pos hw, succU (by omega), ih (k + 1) (by omega) (by omega)]
        rw [wEnd_in hk (by unfold isW; exact decide_eq_true hw)]
      · rw [bif_neg hw]
        rw [wEnd_out (by unfold isW; exact decide_eq_false hw)]
    · have : k = b.length := by omega
      subst this
      rw [decide_eq_false (show ¬ (b.length : Int) < (b.length : Int) by omega), wEnd_end (Nat.le_refl _)]
      rfl

theorem line_loop (fuel d : Nat) {s : Sl} {b : List UInt8} {at_ : Nat} {h0 : AHeap} (hs0 : h0.sliceCells 1 s = some (bytesC b)) (hb : b.length < 1000000000) (hat : at_ < 1000000000) (hf : b.length < fuel) : ∀ (n k : Nat) (s5 : Sl) (acc : List Wd) (h : AHeap), b.length + 2 ≤ n + k → k ≤ b.length + 1 →
    Ext h0 h → s5.From h0.rows.length → Grown h 3 s5 (wdsC acc) → acc.length ≤ k →
    ∃ s' h', l48_0 fuel (d + 1) n [(0, .slice s), (1, .int .i64 (at_ : Int)), (5, .slice s5), (6, .int .i64 (k : Int))] h = some (.exit 0, [(5, .slice s')], h') ∧ Ext h0 h' ∧ s'.From h0.rows.length ∧ Grown h' 3 s' (wdsC (acc ++ lineGo b at_ n k acc.isEmpty)) := by
  intro n
  induction n with
  | zero => intro k s5 acc h h1 h2; omega
  | succ n ih =>
    intro k s5 acc h h1 h2 hx hf5 hg hacc
    have hs := sliceCells_ext hx hs0
    have hsl : s.len = b.length := by have := sliceCells_len hs; simp at this; omega
    have h5l : s5.len = acc.length := by have := sliceCells_len hg.cells; rw [wdsC_len] at this; omega
    rw [l48_0_eq, hsl]
    by_cases hk : k < b.length
    · rw [bif_pos (by omega)]
      obtain ⟨r1, r2⟩ := readU hs hk
      simp only [r1, r2, Option.bind_some, int_int, kind50]
      by_cases hw : kindI ((b.getD k 0).toNat : Int) = 0
      · rw [bif_npos hw]
        have hw' : isW (b.getD k 0) = true := by unfold isW; exact decide_eq_true hw
        have e1 := line_inner fuel d (s5 := s5) (x1 := (at_ : Int)) (x7 := (k : Int)) hs hb fuel k (by omega) (by omega)
        obtain ⟨w1, w2⟩ := wEnd_le (b := b) (k := k) (by omega)
        have w3 : k + 1 ≤ wEnd b k := by rw [wEnd_in hk hw']; exact (wEnd_le (by omega)).1
        obtain ⟨c1, _⟩ := cut_bytes hs (lb := k) (hb := wEnd b k) w1 w2 false
        have hhas : h.hasSz 1 s = true := hasSz_of hs (by omega)
        have a1 : aHi (some (.int .i64 (wEnd b k : Int))) s.len = some (wEnd b k) := by rw [aHi_some (by omega) (by omega), Int.toNat_natCast]
        have a2 : aLo (some (.int .i64 (k : Int))) (wEnd b k) = some k := by rw [aLo_some (by omega) (by omega), Int.toNat_natCast]
        have hpos : IntKind.wrap .i64 ((at_ : Int) + (k : Int)) = ((at_ + k : Nat) : Int) := by rw [wrap64 (by omega) (by omega)]; omega
        obtain ⟨g0, s', h', g1, g2, g3, g4, g5⟩ := growOneExt (bytes := 32) (vs := wdC ⟨(b.drop k).take (wEnd b k - k), at_ + k, acc.isEmpty⟩) hx hf5 hg rfl (by omega) (by omega)
        obtain ⟨t', h'', f1, f2, f3, f4⟩ := ih (wEnd b k + 1) s' (acc ++ [⟨(b.drop k).take (wEnd b k - k), at_ + k, acc.isEmpty⟩]) h' (by omega) (by omega) g4 g5 (by simpa [wdsC] using g2) (by simp; omega)
        refine ⟨t', h'', ?_, f2, f3, ?_⟩
        · simp only [e1, Option.bind_some, k48_1_x2]
          rw [a1]
          simp only [Option.bind_some, a2, aMx_none, hhas, cond_true, c1, bytesFrom_bytesC, hpos]
          have hem : decide ((s5.len : Int) = 0) = acc.isEmpty := by
            rw [h5l]
            cases acc with
            | nil => rfl
            | cons a l => simp; omega
          rw [hem]
          unfold wdC at g0 g1
          simp only at g0 g1
          rw [g0]
          simp only [Option.bind_some]
          rw [g1]
          simp only [Option.bind_some, succU (show wEnd b k < 9000000000000000000 by omega)]
          exact f1
        · have hne : (acc ++ [(⟨(b.drop k).take (wEnd b k - k), at_ + k, acc.isEmpty⟩ : Wd)]).isEmpty = false := by cases acc <;> rfl
          rw [hne] at f4
          simp only [lineGo]
          rw [if_pos hk, if_pos hw']
          simpa using f4
      · rw [bif_nneg hw]
        have hw' : isW (b.getD k 0) = false := by unfold isW; exact decide_eq_false hw
        obtain ⟨t', h'', f1, f2, f3, f4⟩ := ih (k + 1) s5 acc h (by omega) (by omega) hx hf5 hg (by omega)
        refine ⟨t', h'', by rw [succU (by omega)]; exact f1, f2, f3, ?_⟩
        simp only [lineGo]
        rw [if_pos hk, if_neg (by rw [hw']; simp)]
        exact f4
    · rw [bif_neg (by omega)]
      refine ⟨s5, h, rfl, hx, hf5, ?_⟩
      simp only [lineGo]
      rw [if_neg hk, List.append_nil]
      exact hg

theorem line48 (fuel d : Nat) {s : Sl} {b : List UInt8} {at_ : Nat} {h : AHeap} (hs : h.sliceCells 1 s = some (bytesC b)) (hb : b.length < 1000000000) (hat : at_ < 1000000000) (hf : b.length + 2 ≤ fuel) :
    ∃ s' h', run fuel (d + 2) 48 [.slice s, .int .i64 (at_ : Int)] h = some (.slice s', h') ∧ Ext h h' ∧ s'.From h.rows.length ∧ Grown h' 3 s' (wdsC (lineOf b at_)) := by
  obtain ⟨s', h', e1, e2, e3, e4⟩ := line_loop fuel d hs hb hat (by omega) fuel 0 .nil [] h (by omega) (by omega) (.refl _ _) (.nil _) .nil (by simp)
  refine ⟨s', h', ?_, e2, e3, ?_⟩
  · rw [e48]
    rw [show ((0 : Nat) : Int) = 0 from rfl] at e1
    simp only [e1, Option.bind_some, k48_0_x0]
  · unfold lineOf
    rw [lineGo_fuel (b.length + 1) fuel 0 true (by omega) (by omega)]
    exact e4

/-- Where the next line's end is, from a place on. -/
def nlOf (b : List UInt8) (at_ : Nat) : Nat := if Lib.indexByte (b.drop at_) 10 < 0 then b.length - at_ else (Lib.indexByte (b.drop at_) 10).toNat

theorem index_lt : ∀ (l : List UInt8) (c : UInt8), Lib.indexByte l c < l.length ∨ l = [] ∧ Lib.indexByte l c = -1
  | [], c => .inr ⟨rfl, rfl⟩
  | x :: l, c => by
    left
    unfold Lib.indexByte
    split
    · simp only [List.length_cons]; omega
    · split
      · simp only [List.length_cons]; omega
      · rcases index_lt l c with h | ⟨rfl, h⟩
        · simp only [List.length_cons]; omega
        · rw [h]; simp

theorem nlOf_le {b : List UInt8} {at_ : Nat} (h : at_ ≤ b.length) : at_ + nlOf b at_ ≤ b.length := by
  unfold nlOf
  split
  · omega
  · rcases index_lt (b.drop at_) 10 with h1 | ⟨h1, h2⟩
    · rw [List.length_drop] at h1; omega
    · omega

/-- A line without its comment. -/
def keepLine (c : Bool) (l : List Wd) : Bool := !c || match l with
  | [] => true
  | w :: _ => w.text.getD 0 0 != 99

def splitGo (b : List UInt8) (c : Bool) : Nat → Nat → List Wd
  | 0, _ => []
  | n + 1, at_ => if at_ < b.length then (if keepLine c (lineOf ((b.drop at_).take (nlOf b at_)) at_) = true then lineOf ((b.drop at_).take (nlOf b at_)) at_ else []) ++ splitGo b c n (at_ + nlOf b at_ + 1) else []
def splitOf (b : List UInt8) (c : Bool) : List Wd := splitGo b c (b.length + 1) 0

theorem splitGo_fuel {b : List UInt8} {c : Bool} : ∀ (n m k : Nat), b.length < n + k → b.length < m + k → splitGo b c n k = splitGo b c m k
  | 0, m, k, h1, h2 => by
    cases m with
    | zero => rfl
    | succ m => simp only [splitGo]; rw [if_neg (by omega)]
  | n + 1, 0, k, h1, h2 => by simp only [splitGo]; rw [if_neg (by omega)]
  | n + 1, m + 1, k, h1, h2 => by
    simp only [splitGo]
    split
    · rw [splitGo_fuel n m _ (by omega) (by omega)]
    · rfl

theorem lineGo_text {b : List UInt8} {at_ : Nat} : ∀ (n k : Nat) (f : Bool), ∀ w ∈ lineGo b at_ n k f, w.text ≠ []
  | 0, k, f, w, hw => by simp [lineGo] at hw
  | n + 1, k, f, w, hw => by
    simp only [lineGo] at hw
    split at hw
    · rename_i hk
      split at hw
      · rename_i hi
        rcases List.mem_cons.1 hw with rfl | hw
        · have := (wEnd_le (b := b) (k := k + 1) (by omega)).1
          rw [← wEnd_in hk hi] at this
          intro e
          have := congrArg List.length e
          simp at this
          omega
        · exact lineGo_text n _ _ w hw
      · exact lineGo_text n _ _ w hw
    · cases hw

theorem lineGo_len {b : List UInt8} {at_ : Nat} : ∀ (n k : Nat) (f : Bool), (lineGo b at_ n k f).length ≤ b.length - k
  | 0, k, f => by simp [lineGo]
  | n + 1, k, f => by
    simp only [lineGo]
    split
    · rename_i hk
      split
      · rename_i hi
        have h1 := lineGo_len (b := b) (at_ := at_) n (wEnd b k + 1) false
        have := (wEnd_le (b := b) (k := k) (by omega)).1
        simp only [List.length_cons]
        omega
      · have h1 := lineGo_len (b := b) (at_ := at_) n (k + 1) f
        omega
    · simp

theorem index47 (fuel d : Nat) {h : AHeap} {s : Sl} {b : List UInt8} (hs : h.sliceCells 1 s = some (bytesC b)) :
    run fuel (d + 1) 47 [.slice s, .int .u8 10] h = some (.int .i64 (Lib.indexByte b 10), h) := by
  rw [e47, e49, hs]
  simp only [Option.bind_some, bytesFrom_bytesC, int_int]
  rfl

theorem growMany {h0 h : AHeap} (hx : Ext h0 h) {sz bytes : Nat} {s : Sl} {cs xs : List AVal} {m : Nat} (hf : s.From h0.rows.length) (hg : Grown h sz s cs) (hm : xs.length = m * sz) (hb : (s.len + m) * bytes ≤ 140737488355328) (hb' : s.len + m ≤ 140737488355328) :
    ∃ s' h', AHeap.append h false sz bytes s m xs = some (s', h') ∧ Grown h' sz s' (cs ++ xs) ∧ s'.len = s.len + m ∧ Ext h0 h' ∧ s'.From h0.rows.length := by
  by_cases h0m : m = 0
  · subst h0m
    have : xs = [] := by simpa using hm
    subst this
    exact ⟨s, h, by simp [AHeap.append], by simpa using hg, by simp, hx, hf⟩
  · obtain ⟨s', h', e1, e2, e3, e4, e5⟩ := hg.append (bytes := bytes) (m := m) (xs := xs) hm h0m hb hb' some
    have hbs : ∀ x : Option (Sl × AHeap), x.bind some = x := fun x => by cases x <;> rfl
    rw [hbs] at e1
    refine ⟨s', h', e1, e2, e4, Keeps.toNew hx e3 hf, fun r hr => ?_⟩
    rcases e5 with e5 | e5
    · exact hf r (by rw [← e5]; exact hr)
    · rw [e5] at hr
      cases hr
      exact hx.1

theorem split_loop (fuel d : Nat) {s : Sl} {b : List UInt8} {c : Bool} {h0 : AHeap} (hs0 : h0.sliceCells 1 s = some (bytesC b)) (hb : b.length < 1000000000) (hf : b.length + 2 ≤ fuel) : ∀ (n k : Nat) (s5 : Sl) (acc : List Wd) (h : AHeap), b.length + 2 ≤ n + k → k ≤ b.length + 1 →
    Ext h0 h → s5.From h0.rows.length → Grown h 3 s5 (wdsC acc) → acc.length ≤ k →
    ∃ s' h', l37_0 fuel (d + 2) n [(0, .slice s), (1, .bool c), (5, .slice s5), (6, .int .i64 (k : Int))] h = some (.exit 0, [(5, .slice s')], h') ∧ Ext h0 h' ∧ s'.From h0.rows.length ∧ Grown h' 3 s' (wdsC (acc ++ splitGo b c n k)) := by
  intro n
  induction n with
  | zero => intro k s5 acc h h1 h2; omega
  | succ n ih =>
    intro k s5 acc h h1 h2 hx hf5 hg hacc
    have hs := sliceCells_ext hx hs0
    have hsl : s.len = b.length := by have := sliceCells_len hs; simp at this; omega
    have h5l : s5.len = acc.length := by have := sliceCells_len hg.cells; rw [wdsC_len] at this; omega
    rw [l37_0_eq, hsl]
    by_cases hk : k < b.length
    · rw [bif_pos (by omega)]
      have hhas : h.hasSz 1 s = true := hasSz_of hs (by omega)
      have a0 : aLo (some (.int .i64 (k : Int))) b.length = some k := by rw [aLo_some (by omega) (by omega), Int.toNat_natCast]
      obtain ⟨c0, _⟩ := cut_bytes hs (lb := k) (hb := b.length) (by omega) (Nat.le_refl _) false
      rw [show (b.drop k).take (b.length - k) = b.drop k from List.take_of_length_le (by simp)] at c0
      have e0 := index47 fuel (d + 1) c0
      have hnl := nlOf_le (b := b) (at_ := k) (by omega)
      -- the length of the line
      have key : ∃ s' h', k37_1 fuel (d + 2) n .normal [(0, .slice s), (1, .bool c), (5, .slice s5), (6, .int .i64 (k : Int)), (7, .int .i64 (nlOf b k : Int))] h = some (.exit 0, [(5, .slice s')], h') ∧ Ext h0 h' ∧ s'.From h0.rows.length ∧ Grown h' 3 s' (wdsC (acc ++ splitGo b c (n + 1) k)) := by
        have hsum : IntKind.wrap .i64 ((k : Int) + (nlOf b k : Int)) = ((k + nlOf b k : Nat) : Int) := by rw [wrap64 (by omega) (by omega)]; omega
        have hsum2 : IntKind.wrap .i64 ((k : Int) + IntKind.wrap .i64 ((nlOf b k : Int) + 1)) = ((k + nlOf b k + 1 : Nat) : Int) := by
          rw [wrap64 (n := (nlOf b k : Int) + 1) (by omega) (by omega), wrap64 (by omega) (by omega)]; omega
        have a1 : aHi (some (.int .i64 ((k + nlOf b k : Nat) : Int))) s.len = some (k + nlOf b k) := by rw [aHi_some (by omega) (by omega), Int.toNat_natCast]
        have a2 : aLo (some (.int .i64 (k : Int))) (k + nlOf b k) = some k := by rw [aLo_some (by omega) (by omega), Int.toNat_natCast]
        obtain ⟨c1, c1l⟩ := cut_bytes hs (lb := k) (hb := k + nlOf b k) (by omega) hnl false
        rw [show k + nlOf b k - k = nlOf b k by omega] at c1
        have hll : ((b.drop k).take (nlOf b k)).length ≤ nlOf b k := List.length_take_le _ _
        obtain ⟨s8, h8, e8, x8, f8, g8⟩ := line48 fuel d (at_ := k) c1 (by omega) (by omega) (by omega)
        have hlen8 : (lineOf ((b.drop k).take (nlOf b k)) k).length ≤ nlOf b k := by
          have := lineGo_len (b := (b.drop k).take (nlOf b k)) (at_ := k) (((b.drop k).take (nlOf b k)).length + 1) 0 true
          unfold lineOf
          omega
        have hne8 : ∀ w ∈ lineOf ((b.drop k).take (nlOf b k)) k, w.text ≠ [] := lineGo_text _ _ _
        have hsp : splitGo b c (n + 1) k = (if keepLine c (lineOf ((b.drop k).take (nlOf b k)) k) = true then lineOf ((b.drop k).take (nlOf b k)) k else []) ++ splitGo b c n (k + nlOf b k + 1) := by
          rw [splitGo, if_pos hk]
        rw [hsp]
        generalize lineOf ((b.drop k).take (nlOf b k)) k = ln at g8 hlen8 hne8
        have hx8 : Ext h0 h8 := hx.trans x8
        have hg8 : Grown h8 3 s5 (wdsC acc) := hg.keep x8 fun _ _ => id
        have h8l : s8.len = ln.length := by have := sliceCells_len g8.cells; rw [wdsC_len] at this; omega
        rw [k37_1_n, hsum, a1]
        simp only [Option.bind_some, a2, aMx_none, hhas, cond_true, e8, slice_slice]
        -- whether the line is kept
        have test : ((bif ((bif (!c) then true else (decide (((s8.len : Nat) : Int) = (0 : Int)))) == false) then ((AHeap.addr h8 3 s8 (0 : Int)).bind fun p6 =>
            (Pt.field 0 p6).bind fun p7 => (AHeap.cell h8 p7).bind fun u8 => (AVal.str? u8).bind fun s9 => (strAt s9 (0 : Int)).bind fun n10 =>
            some ((AVal.bool (!decide (n10 = (99 : Int)))), h8)) else (some ((AVal.bool true), h8)) : Option (AVal × AHeap))) = some (.bool (keepLine c ln), h8) := by
          cases c with
          | false => rfl
          | true =>
            cases ln with
            | nil =>
              have : s8.len = 0 := by simpa using h8l
              rw [this]; rfl
            | cons w l =>
              have hl0 : ¬ ((s8.len : Int) = 0) := by rw [h8l]; simp only [List.length_cons]; omega
              obtain ⟨_, r1, ⟨r2, r3⟩, _, _⟩ := readW (m := 0) (p := w) g8.cells rfl
              rw [show ((0 : Nat) : Int) = 0 from rfl] at r1 r2 r3
              have hw := hne8 w (List.mem_cons_self ..)
              rw [decide_eq_false hl0]
              simp only [Bool.not_true, cond_false, beq_self_eq_true, cond_true, r1, Option.bind_some, r2, r3, str_str]
              cases ht : w.text with
              | nil => exact absurd ht hw
              | cons x t =>
                have : strAt ⟨(x :: t).toArray⟩ 0 = some (x.toNat : Int) := by simp [strAt]
                rw [this]
                simp only [Option.bind_some, keepLine, Bool.not_true, Bool.false_or, ht, List.getD_cons_zero]
                congr 3
                have hx9 : ((x.toNat : Int) = 99) ↔ x = 99 := by
                  constructor
                  · intro h; apply UInt8.toNat_inj.1; have : (99 : UInt8).toNat = 99 := rfl; omega
                  · rintro rfl; rfl
                by_cases hxx : x = 99
                · subst hxx; rfl
                · have hxi : ¬ ((x.toNat : Int) = 99) := fun e => hxx (hx9.1 e)
                  rw [decide_eq_false hxi]
                  simp [hxx]
        rw [test]
        simp only [Option.bind_some, bool_bool, hsum2]
        cases hkeep : keepLine c ln with
        | true =>
          obtain ⟨s9, h9, e9, g9, l9, x9, f9⟩ := growMany (bytes := 32) (m := s8.len) hx8 hf5 hg8 (by rw [wdsC_len, h8l]) (by omega) (by omega)
          simp only [cond_true, g8.cells, Option.bind_some, e9, if_true]
          obtain ⟨t', h'', q1, q2, q3, q4⟩ := ih (k + nlOf b k + 1) s9 (acc ++ ln) h9 (by omega) (by omega) x9 f9 (by simpa [wdsC] using g9) (by simp; omega)
          exact ⟨t', h'', q1, q2, q3, by rw [← List.append_assoc]; exact q4⟩
        | false =>
          simp only [cond_false]
          obtain ⟨t', h'', q1, q2, q3, q4⟩ := ih (k + nlOf b k + 1) s5 acc h8 (by omega) (by omega) hx8 hf5 hg8 (by omega)
          exact ⟨t', h'', q1, q2, q3, by simpa using q4⟩
      rw [aHi_none]
      simp only [Option.bind_some]
      rw [a0]
      simp only [Option.bind_some, aMx_none, hhas, cond_true, e0, int_int]
      by_cases hneg : Lib.indexByte (b.drop k) 10 < 0
      · rw [bif_pos hneg]
        have : IntKind.wrap .i64 ((b.length : Int) - (k : Int)) = (nlOf b k : Int) := by
          unfold nlOf; rw [if_pos hneg, wrap64 (by omega) (by omega)]; omega
        rw [this]
        simp only [Option.bind_some]
        exact key
      · rw [bif_neg hneg]
        have : Lib.indexByte (b.drop k) 10 = (nlOf b k : Int) := by unfold nlOf; rw [if_neg hneg]; omega
        rw [this]
        simp only [Option.bind_some]
        exact key
    · rw [bif_neg (by omega)]
      refine ⟨s5, h, rfl, hx, hf5, ?_⟩
      simp only [splitGo]
      rw [if_neg hk, List.append_nil]
      exact hg

theorem split37 (fuel d : Nat) {s : Sl} {b : List UInt8} (c : Bool) {h : AHeap} (hs : h.sliceCells 1 s = some (bytesC b)) (hb : b.length < 1000000000) (hf : b.length + 2 ≤ fuel) :
    ∃ s' h', run fuel (d + 3) 37 [.slice s, .bool c] h = some (.slice s', h') ∧ Ext h h' ∧ s'.From h.rows.length ∧ Grown h' 3 s' (wdsC (splitOf b c)) := by
  obtain ⟨s', h', e1, e2, e3, e4⟩ := split_loop fuel d (c := c) hs hb hf fuel 0 .nil [] h (by omega) (by omega) (.refl _ _) (.nil _) .nil (by simp)
  refine ⟨s', h', ?_, e2, e3, ?_⟩
  · rw [e37]
    rw [show ((0 : Nat) : Int) = 0 from rfl] at e1
    simp only [e1, Option.bind_some, k37_0_x0]
  · unfold splitOf
    rw [splitGo_fuel (b.length + 1) fuel 0 (by omega) (by omega)]
    exact e4

/-- The chapter's examples. -/
theorem first36 (fuel d : Nat) (h : AHeap) (hf : 10 ≤ fuel) : ∃ h', run fuel (d + 4) 36 [] h = some (.bool true, h') ∧ Ext h h' := by
  have ho : Own (h.push 1 (bytesC [97, 32, 98])) 1 h.rows.length 0 3 (bytesC [97, 32, 98]) := Own.push h 1 3 (bytesC [97, 32, 98]) rfl
  obtain ⟨s', h', e1, e2, e3, e4⟩ := split37 fuel d false (ho.cells true) (by decide) (by simp; omega)
  have hsp : splitOf [97, 32, 98] false = [⟨[97], 0, true⟩, ⟨[98], 2, false⟩] := by decide
  rw [hsp] at e4
  obtain ⟨l0, r1, ⟨r2, r3⟩, ⟨r4, r5⟩, ⟨r6, r7⟩⟩ := readW (m := 0) (p := ⟨[97], 0, true⟩) e4.cells rfl
  obtain ⟨l1, q1, ⟨q2, q3⟩, ⟨q4, q5⟩, ⟨q6, q7⟩⟩ := readW (m := 1) (p := ⟨[98], 2, false⟩) e4.cells rfl
  rw [show ((0 : Nat) : Int) = 0 from rfl] at r1 r6 r7
  rw [show ((1 : Nat) : Int) = 1 from rfl] at q1 q4 q5 q6 q7
  have hcells : bytesC [97, 32, 98] = [(AVal.int .u8 (97 : Int)), (AVal.int .u8 (32 : Int)), (AVal.int .u8 (98 : Int))] := rfl
  rw [hcells] at e1 ho e2
  refine ⟨h', ?_, (Keeps.push h 1 _ _).trans e2⟩
  rw [e36]
  have hl2 : s'.len = 2 := l0
  have hown := ho.ownAt
  simp only [next_len, hown, cond_true, e1, Option.bind_some, slice_slice]
  rw [decide_eq_true (show ((s'.len : Nat) : Int) = 2 by omega)]
  simp [q1, q4, q5, int_int, r1, r6, r7, bool_bool, q6, q7]

end Go.Proofs.Ythccobceodgmlaa
