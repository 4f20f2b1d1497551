/-
  Parts of the proof of DimacsBlanks: qdimacs: a reader's blocks. qdimacs.Read. Clauses and formulas as text: the program's and the reference's. Clauses' text is read as they were. Clauses' words with other blanks between them. Clauses' words with other blanks between them: what is read of such a text. What is there still, behind calls. skolemref.SameInts. Bytes held against themselves. Clauses held against clauses; what the readers tell. skolemlaw4.first. Literals. skolemworld.Number. Literals out of numbers. skolemmake.Clauses, skolemmake.CNF; skolemref1.Of. skolemmake.Clauses, skolemmake.CNF, as values. DimacsBytes. skolemref.Bytes: a slice of its own. DimacsBlanks.
-/
import Derived.Test.YtdkckkhghghhdaaDoorTDimacsBlanks1
import Derived.Test.YtdkckkhghghhdaaDoorE
import Derived.Test.YtdkckkhghghhdaaDoorBm31
namespace Go.Proofs.YtdkckkhghghhdaaDoor
open Go.RowKit

def begE : List Wd → Bool
  | [] => false
  | w :: _ => w.first && w.text == [101]
def begI : List Wd → Bool
  | [] => false
  | w :: _ => isBk w
/-- what all blocks hand back -/
def BsPost (W : List Wd) (e vars : Int) (R m : Nat) (L : List Chunk) (h0 : AHeap) : BsR → AVal → AHeap → Prop
  | .bad p, v, h' => ∃ r, v = .tup [.slice .nil, .iface T_p_api_At (.ptr (.mk ⟨r, 0, 0⟩ 2))] ∧ Sep0 h0 h' (.own 1 r 0 2 [.int .i64 p, err_api_ErrText] :: L)
  | .ok l ws, v, h' => ∃ s' k' seen, v = .tup [.slice s', .nilif] ∧ Sep0 h0 h' (.own 1 R 0 5 (rdrC W k' e vars m) :: .mp h0.maps.length m (seenM seen) :: .grown 2 s' (blksC l) :: L) ∧ ws = W.drop k' ∧ k' ≤ W.length
end Go.Proofs.YtdkckkhghghhdaaDoor

namespace Go.Proofs.YtdkckkhghghhdaaDoor
open Go.RowKit

/-- variables, blocks, clauses, what is amiss -/
abbrev FR := Int × List Blk × List (List Int) × Option (Int × Int)
def rdF (b : List UInt8) : FR := match headT (b.length : Int) (splitOf b true) with
  | .bad c p => (0, [], [], some (c, p))
  | .ok v m => match blocksT (b.length : Int) v ((splitOf b true).length + 1) ((splitOf b true).drop 4) [] [] with
    | .bad p => (0, [], [], some (101, p))
    | .ok bs ws => match clT (b.length : Int) v m ws [] [] with
      | .bad p => (0, [], [], some (101, p))
      | .ok l => (v, bs, l, none)
def formulaC (bs : List Blk) (v : Int) (l : List (List Int)) : List AVal := [.slice (lstBk bs), .int .i64 v, .slice (lstLL l)]
def frA (r : FR) : AVal := .tup [.agg (formulaC r.2.1 r.1 r.2.2.1), errO r.2.2.2]
abbrev zero3 : List AVal := [(AVal.slice Sl.nil), (.int .i64 (0 : Int)), (.slice Sl.nil)]
end Go.Proofs.YtdkckkhghghhdaaDoor

namespace Go.Proofs.YtdkckkhghghhdaaDoor
open Go.RowKit

/-- a line's numbers -/
def LnOk (l : List Int) : Prop := l.length < 1000 ∧ ∀ x ∈ l, Num64 x
theorem numsT_num : ∀ {l : List Int}, (∀ x ∈ l, Num64 x) → (numsT l).length ≤ 21 * l.length
  | [], _ => by simp [numsT]
  | x :: l, hx => by
    have h1 := numsT_num (l := l) fun y hy => hx y (List.mem_cons_of_mem _ hy)
    have h2 := decT_len (hx x (List.mem_cons_self ..))
    have e : numsT (x :: l) = decT x ++ [32] ++ numsT l := by simp [numsT]
    rw [e, List.length_append, List.length_append, List.length_cons]
    simp
    omega
theorem LnOk.len {l : List Int} (h : LnOk l) : (lineT l).length ≤ 30000 := by
  have := numsT_num h.2
  have := h.1
  simp only [lineT, List.length_append, List.length_cons, List.length_nil]
  omega
def linesT (l : List (List Int)) : List UInt8 := l.flatMap lineT
theorem linesT_cons (c : List Int) (l : List (List Int)) : linesT (c :: l) = lineT c ++ linesT l := by simp [linesT]
def blkT (b : Blk) : List UInt8 := (if b.1 = true then [101, 32] else [97, 32]) ++ lineT b.2
def blksT (l : List Blk) : List UInt8 := l.flatMap blkT
def cnfTx (v : Int) (l : List (List Int)) : List UInt8 := headTx v (l.length : Int) ++ linesT l
def formTx (bs : List Blk) (v : Int) (l : List (List Int)) : List UInt8 := headTx v (l.length : Int) ++ blksT bs ++ linesT l

theorem ln_run (fuel d : Nat) (hf : 1000 ≤ fuel) {l : List Int} (hl : LnOk l) {h0 h : AHeap} {s : Sl} {t : List UInt8} (ht : t.length < 700000000) (hs : Sep0 h0 h [.grown 1 s (bytesC t)]) :
    ∃ s' h', run fuel (d + 6) F_dimacs_Line [.slice s, .slice (lstI l)] h = some (.slice s', h') ∧ Sep0 h0 h' [.grown 1 s' (bytesC (t ++ lineT l))] := by
  have h1 := hl.1
  exact lineP_run fuel (d + 5) (by omega) (by omega) (fun x hx => (hl.2 x hx).app fuel d (by omega)) (by omega) hs
theorem dB_loop (fuel d : Nat) (hf : 1000 ≤ fuel) {l : List (List Int)} (hl : l.length < 10000) (hok : ∀ c ∈ l, LnOk c) {h0 : AHeap} : ∀ (n k : Nat) (s : Sl) (t : List UInt8) (h : AHeap), l.length < n + k → k ≤ l.length → t.length + 30000 * (l.length - k) < 600000000 → Sep0 h0 h [.grown 1 s (bytesC t)] →
    ∃ s' h', (l_dimacs_Bytes_0 fuel (d + 6) n [(3, .slice s), (9, .slice (lstLL l)), (10, .int .i64 (l.length : Int)), (11, .int .i64 (k : Int))] h).bind (fun p => k_dimacs_Bytes_0 fuel (d + 6) p.1 p.2.1 p.2.2) = some (.slice s', h') ∧ Sep0 h0 h' [.grown 1 s' (bytesC (t ++ linesT (l.drop k)))] := by
  intro n
  induction n with
  | zero => intro k s t h h1 h2; omega
  | succ n ih =>
    intro k s t h h1 h2 ht hs
    rw [l_dimacs_Bytes_0_eq]
    by_cases hk : k < l.length
    · have hd : l.drop k = l.getD k [] :: l.drop (k + 1) := by rw [List.drop_eq_getElem_cons hk]; simp [List.getD, hk]
      have hx := hok (l.getD k []) (by simp [List.getD, hk])
      rw [bif_pos (by omega), addr_lstM _ (by omega) (by omega) [], hd, Int.toNat_natCast]
      generalize l.getD k [] = c at hx
      have := hx.len
      simp only [Option.bind_some, cell_fp, slice_slice]
      obtain ⟨s1, h1', e1, q1⟩ := ln_run fuel d hf hx (by omega) hs
      rw [e1]
      simp only [Option.bind_some, slice_slice]
      rw [sucU (by omega)]
      obtain ⟨s2, h2', e2, q2⟩ := ih (k + 1) s1 _ h1' (by omega) (by omega) (by simp; omega) q1
      refine ⟨s2, h2', e2, ?_⟩
      rw [linesT_cons, ← List.append_assoc]
      exact q2
    · have : k = l.length := by omega
      subst this
      rw [bif_neg (by omega), List.drop_length]
      simp only [Option.bind_some, k_dimacs_Bytes_0_x0]
      exact ⟨s, h, rfl, by simpa [linesT] using hs⟩
theorem Sep0.keepCell {g h0 h : AHeap} {L K : List Chunk} (hs : Sep0 h0 h L) (hb : Sep0 g h0 K) {i sz id gen n o l : Nat} {cs : List AVal} (hi : K[i]? = some (.own sz id gen n cs)) {v : AVal} (hl : o < l) (hv : cs[o]? = some v) : h.cell (.mk ⟨id, gen, o⟩ l) = some v :=
  cell_keep hs.ext (fun h => h) (hb.part hi hl hv)
theorem canon_cnf (v : Int) (l : List (List Int)) : canonV 8 (.agg (cnfC v l)) = some (.agg (cnfC v l)) := by
  unfold cnfC
  rw [canon_agg, canonM_cons (u := .int .i64 v) rfl (canonM_cons (u := .slice (lstLL l)) (canon_lstLL _ _) (canonM_nil _))]
  rfl
theorem bytes_fr {h0 h : AHeap} {s : Sl} {t : List UInt8} (hs : Sep0 h0 h [.grown 1 s (bytesC t)]) : freezeV h 8 (.slice s) = some (.slice (lstU t)) := by
  have hl := hs.len (i := 0) rfl
  simp only [List.length_map, Nat.mul_one] at hl
  rw [(hs.sep.grown (i := 0) rfl).freeze (n := 7) (by omega) (freeze_bytesC 6 _), ← hl]
theorem dB_run (fuel d : Nat) (hf : 1000 ≤ fuel) {v : Int} {l : List (List Int)} (hv : Num64 v) (hl : l.length < 10000) (hlf : l.length < fuel) (hok : ∀ c ∈ l, LnOk c) (h : AHeap) : run fuel (d + 7) F_dimacs_Bytes [.agg (cnfC v l)] h = some (.slice (lstU (cnfTx v l)), h) := by
  have hlen := headTx_len hv (show Num64 (l.length : Int) from ⟨by omega, by omega⟩)
  have s1 := (Sep0.start AHeap.none).push 1 2 (cs := cnfC v l) rfl
  obtain ⟨s2, h2, e2, q2⟩ := headB_run fuel d (by omega) (l := l) hv (by omega) (AHeap.none.push 1 (cnfC v l))
  obtain ⟨s3, h3, e3, q3⟩ := dB_loop fuel d hf hl hok fuel 0 s2 _ h2 (by omega) (by omega) (by omega) q2
  refine pure_of rfl rfl (cc1 (canon_cnf v l)) (r := .slice s3) (h' := h3) ?_ ?_
  · rw [e_dimacs_Bytes, show List.all (cnfC v l) AVal.isCell = true from rfl, cond_true, show (cnfC v l).length = 2 from rfl, s1.getAll (i := 0) rfl rfl, Option.bind_some, e2]
    simp only [Option.bind_some, slice_slice, field_mk]
    rw [q2.keepCell s1 (i := 0) (o := 0 + 1) (l := 2) rfl (by omega) rfl]
    simp only [Option.bind_some, slice_slice, len_lst]
    exact e3
  · rw [List.drop_zero] at q3
    exact bytes_fr q3
/-! formulas -/
/-! the reference's -/
end Go.Proofs.YtdkckkhghghhdaaDoor

namespace Go.Proofs.YtdkckkhghghhdaaDoor
open Go.RowKit

/-- words of numbers -/
def numWs : List Int → Nat → Bool → List Wd
  | [], _, _ => []
  | x :: l, p, f => ⟨decT x, p, f⟩ :: numWs l (p + (decT x).length + 1) false
theorem W_nums : ∀ (l : List Int) (r : List UInt8) (p : Nat) (f : Bool), wordsOf (numsT l ++ r) p f false = numWs l p f ++ wordsOf r (p + (numsT l).length) (f && l.isEmpty) false
  | [], r, p, f => by simp [numsT, numWs]
  | x :: l, r, p, f => by
    obtain ⟨w1, w2, w3, _⟩ := decT_word x
    have e : numsT (x :: l) = decT x ++ 32 :: numsT l := by simp [numsT]
    rw [e, List.append_assoc, List.cons_append, W_one w1 w2 (Stops.sp _) p (fun _ => w3), W_sp, W_nums l]
    simp only [numWs, List.cons_append, List.length_append, List.length_cons, List.isEmpty_cons, Bool.and_false, Bool.false_and]
    rw [show p + (decT x).length + 1 + (numsT l).length = p + ((decT x).length + ((numsT l).length + 1)) by omega]
theorem W_line (l : List Int) (r : List UInt8) (p : Nat) (f : Bool) : ∃ q, wordsOf (lineT l ++ r) p f false = numWs l p f ++ ⟨[48], p + (numsT l).length, f && l.isEmpty⟩ :: wordsOf r q true false ∧ q = p + (lineT l).length := by
  refine ⟨p + (lineT l).length, ?_, rfl⟩
  have e : lineT l ++ r = numsT l ++ ([48] ++ 10 :: r) := by simp [lineT]
  rw [e, W_nums, W_one (by simp) (by decide) (Stops.nl r) _ (fun _ => by simp), W_nl]
  simp [lineT, Nat.add_assoc]
/-- a literal that is read as it is -/
def LitOk (v x : Int) : Prop := x ≠ 0 ∧ isI x v = true ∧ -1000000000 < x ∧ x < 1000000000
theorem LitOk.text {v x : Int} (h : LitOk v x) : noLitV (decT x) v = false ∧ numW (decT x) = x := by
  obtain ⟨a1, a2, _⟩ := decT_num h.2.2.1 h.2.2.2
  refine ⟨?_, a2⟩
  unfold noLitV
  rw [a1, a2, decide_eq_false h.1, h.2.1]; rfl
theorem clT_nums (e v m : Int) : ∀ (l : List Int) (p : Nat) (f : Bool) (ws : List Wd) (out : List (List Int)) (c : List Int), (out.length : Int) < m → (∀ x ∈ l, LitOk v x) → clT e v m (numWs l p f ++ ws) out c = clT e v m ws out (c ++ l)
  | [], p, f, ws, out, c, h, hl => by simp [numWs]
  | x :: l, p, f, ws, out, c, h, hl => by
    have hx := hl x (List.mem_cons_self ..)
    obtain ⟨t1, t2⟩ := hx.text
    simp only [numWs, List.cons_append, clT, t1, t2]
    rw [if_neg (by simp; omega), if_neg hx.1, clT_nums e v m l _ _ _ _ _ h fun y hy => hl y (List.mem_cons_of_mem _ hy)]
    simp
theorem zero_text {v : Int} : noLitV [48] v = false ∧ numW [48] = 0 := by
  have : okNum [48] = true ∧ numW [48] = 0 := by decide
  refine ⟨?_, this.2⟩
  unfold noLitV
  rw [this.1, this.2]; rfl
theorem clT_lines (e v m : Int) : ∀ (L : List (List Int)) (p : Nat) (f : Bool) (out : List (List Int)), ((out.length + L.length : Nat) : Int) = m → (∀ c ∈ L, ∀ x ∈ c, LitOk v x) → clT e v m (wordsOf (linesT L) p f false) out [] = .ok (out ++ L)
  | [], p, f, out, h, hl => by
    simp only [linesT, List.flatMap_nil, W_nil, clT]
    simp only [List.length_nil, Nat.add_zero] at h
    rw [if_neg (by simp; omega), List.append_nil]
  | c :: L, p, f, out, h, hl => by
    simp only [List.length_cons] at h
    obtain ⟨q, e1, _⟩ := W_line c (linesT L) p f
    obtain ⟨z1, z2⟩ := zero_text (v := v)
    rw [linesT_cons, e1, clT_nums e v m c _ _ _ _ _ (by omega) (hl c (List.mem_cons_self ..)), List.nil_append]
    simp only [clT, z1, z2]
    rw [if_neg (by simp; omega), if_pos trivial, clT_lines e v m L q true (out ++ [c]) (by simp; omega) fun d hd => hl d (List.mem_cons_of_mem _ hd)]
    simp
theorem W_head (v n : Int) (r : List UInt8) : ∃ p q, wordsOf (headTx v n ++ r) 0 true false = ⟨[112], 0, true⟩ :: ⟨[99, 110, 102], 2, false⟩ :: ⟨decT v, 6, false⟩ :: ⟨decT n, p, false⟩ :: wordsOf r q true false := by
  obtain ⟨a1, a2, a3, _⟩ := decT_word v
  obtain ⟨b1, b2, b3, _⟩ := decT_word n
  have e : headTx v n ++ r = [112] ++ 32 :: ([99, 110, 102] ++ 32 :: (decT v ++ 32 :: (decT n ++ 10 :: r))) := by simp [headTx]
  refine ⟨6 + (decT v).length + 1, 6 + (decT v).length + 1 + (decT n).length + 1, ?_⟩
  rw [e, W_one (by simp) (by decide) (Stops.sp _) _ (fun _ => by simp), W_sp, W_one (by simp) (by decide) (Stops.sp _) _ (fun h => by cases h), W_sp, W_one a1 a2 (Stops.sp _) _ (fun h => by cases h), W_sp, W_one b1 b2 (Stops.nl _) _ (fun h => by cases h), W_nl]
  rfl
theorem cnt_ok {x most : Int} (h0 : 0 ≤ x) (h1 : x < 1000000000) (hm : x ≤ most) (p : Nat) : cntC ⟨decT x, p, false⟩ most = none := by
  obtain ⟨a1, a2, a3⟩ := decT_num (x := x) (by omega) h1
  unfold cntC plainW
  simp only [a1, a2, a3 h0]
  rw [if_neg (by simp), if_neg (by omega)]
/-- how long such a text is -/
theorem linesT_len {B : Nat} : ∀ {L : List (List Int)}, (∀ c ∈ L, LnOk c) → totalI L ≤ B → (linesT L).length ≤ 21 * B + 2 * L.length
  | [], _, h => by simp [linesT]
  | c :: L, hc, h => by
    simp only [totalI, List.map_cons, List.sum_cons] at h
    have h1 := linesT_len (B := B - c.length) (L := L) (fun d hd => hc d (List.mem_cons_of_mem _ hd)) (by simp only [totalI]; omega)
    have h2 := numsT_num (hc c (List.mem_cons_self ..)).2
    rw [linesT_cons, List.length_append, lineT, List.length_append]
    simp only [List.length_cons, List.length_nil]
    omega
end Go.Proofs.YtdkckkhghghhdaaDoor

namespace Go.Proofs.YtdkckkhghghhdaaDoor
open Go.RowKit

def gap5 : Nat → List UInt8
  | 0 => [32]
  | 1 => [10]
  | 2 => [9, 32]
  | 3 => [10, 99, 32, 97, 110, 121, 32, 119, 111, 114, 100, 32, 48, 10]
  | _ => [13, 10]
def gapK (gaps : List Int) (i : Nat) : Nat := (Int.tmod (Int.tmod (gaps.getD (i % gaps.length) 0) 5 + 5) 5).toNat
def preT (gaps : List Int) (i : Nat) : List UInt8 := (if 0 < i ∧ i < 4 then [32] else gap5 (gapK gaps i)) ++ (if i = 4 then [10] else [])
def blT (gaps : List Int) : List Wd → Nat → List UInt8
  | [], _ => []
  | w :: ws, i => preT gaps i ++ w.text ++ blT gaps ws (i + 1)
theorem blT_app (gaps : List Int) : ∀ (a b : List Wd) (i : Nat), blT gaps (a ++ b) i = blT gaps a i ++ blT gaps b (i + a.length)
  | [], b, i => rfl
  | w :: a, b, i => by
    rw [List.cons_append, blT, blT, blT_app gaps a b (i + 1), List.length_cons, show i + 1 + a.length = i + (a.length + 1) by omega]
    simp
/-- blanks tell no words -/
def Blanks (g : List UInt8) : Prop := ∀ (r : List UInt8) (p : Nat) (f : Bool), ∃ f', wordsOf (g ++ r) p f false = wordsOf r (p + g.length) f' false
theorem Blanks.app {a b : List UInt8} (ha : Blanks a) (hb : Blanks b) : Blanks (a ++ b) := fun r p f => by
  obtain ⟨f1, e1⟩ := ha (b ++ r) p f
  obtain ⟨f2, e2⟩ := hb r (p + a.length) f1
  exact ⟨f2, by rw [List.append_assoc, e1, e2, List.length_append, Nat.add_assoc]⟩
theorem Blanks.nil : Blanks [] := fun r p f => ⟨f, rfl⟩
theorem gap5_blank (k : Nat) : Blanks (gap5 k) := by
  intro r p f
  match k with
  | 0 => exact ⟨f, W_sp r p f false⟩
  | 1 => exact ⟨true, W_nl r p f false⟩
  | 2 =>
    refine ⟨f, ?_⟩
    rw [show gap5 2 ++ r = 9 :: 32 :: r from rfl, W_blank (by decide) (by decide), W_sp]
    rfl
  | 3 =>
    refine ⟨true, ?_⟩
    rw [show gap5 3 ++ r = 10 :: ([99] ++ 32 :: ([97, 110, 121] ++ 32 :: ([119, 111, 114, 100] ++ 32 :: ([48] ++ 10 :: r)))) from rfl, W_nl, W_word (by simp) (by decide) (Stops.sp _)]
    rw [show (false || (true && ([99] : List UInt8).getD 0 0 == 99)) = true from rfl, if_pos rfl, List.nil_append, W_sp, W_word (by simp) (by decide) (Stops.sp _), Bool.true_or, if_pos rfl, List.nil_append, W_sp, W_word (by simp) (by decide) (Stops.sp _), Bool.true_or, if_pos rfl, List.nil_append, W_sp, W_word (by simp) (by decide) (Stops.nl _), Bool.true_or, if_pos rfl, List.nil_append, W_nl]
    rfl
  | k + 4 =>
    refine ⟨true, ?_⟩
    rw [show gap5 (k + 4) ++ r = 13 :: 10 :: r from rfl, W_blank (by decide) (by decide), W_nl]
    rfl
theorem preT_blank (gaps : List Int) (i : Nat) : Blanks (preT gaps i) := by
  unfold preT
  refine Blanks.app ?_ ?_
  · split
    · exact fun r p f => ⟨f, W_sp r p f false⟩
    · exact gap5_blank _
  · split
    · exact fun r p f => ⟨true, W_nl r p f false⟩
    · exact Blanks.nil
theorem preT_head (gaps : List Int) (i : Nat) (r : List UInt8) : Stops (preT gaps i ++ r) := by
  intro c r' h
  have key : ∀ k, ∀ (c : UInt8) (r r' : List UInt8), gap5 k ++ r = c :: r' → isW c = false := by
    intro k c r r' h
    match k with
    | 0 => cases h; decide
    | 1 => cases h; decide
    | 2 => cases h; decide
    | 3 => cases h; decide
    | k + 4 => cases h; decide
  unfold preT at h
  rw [List.append_assoc] at h
  split at h
  · cases h; decide
  · exact key _ _ _ _ h
/-- a word that is one wherever it stands -/
def GoodW (t : List UInt8) : Prop := t ≠ [] ∧ t.all isW = true ∧ t.getD 0 0 ≠ 99
theorem blT_stops (gaps : List Int) (ws : List Wd) (i : Nat) {r : List UInt8} (hr : Stops r) : Stops (blT gaps ws i ++ r) := by
  cases ws with
  | nil => exact hr
  | cons w ws =>
    rw [blT, List.append_assoc, List.append_assoc]
    exact preT_head _ _ _
theorem W_bl (gaps : List Int) : ∀ (ws : List Wd) (i p : Nat) (f : Bool) (r : List UInt8), (∀ w ∈ ws, GoodW w.text) → Stops r → ∃ C q f', wordsOf (blT gaps ws i ++ r) p f false = C ++ wordsOf r q f' false ∧ C.map Wd.text = ws.map Wd.text
  | [], i, p, f, r, h, hr => ⟨[], p, f, rfl, rfl⟩
  | w :: ws, i, p, f, r, h, hr => by
    obtain ⟨g1, g2, g3⟩ := h w (List.mem_cons_self ..)
    obtain ⟨f1, e1⟩ := preT_blank gaps i (w.text ++ (blT gaps ws (i + 1) ++ r)) p f
    obtain ⟨C, q, f', e2, e3⟩ := W_bl gaps ws (i + 1) (p + (preT gaps i).length + w.text.length) false r (fun v hv => h v (List.mem_cons_of_mem _ hv)) hr
    refine ⟨⟨w.text, p + (preT gaps i).length, f1⟩ :: C, q, f', ?_, by simp [e3]⟩
    rw [blT, List.append_assoc, List.append_assoc, e1, W_one g1 g2 (blT_stops gaps ws _ hr) _ (fun _ => g3), e2]
    rfl

/-! what is read hangs on the words' texts alone -/
theorem clT_texts (e e' v m : Int) (l : List (List Int)) : ∀ (ws ws' : List Wd) (out : List (List Int)) (c : List Int), ws.map Wd.text = ws'.map Wd.text → clT e v m ws out c = .ok l → clT e' v m ws' out c = .ok l
  | [], [], out, c, _, h => by
    unfold clT at h ⊢
    split at h
    · cases h
    · rename_i h1; rw [if_neg h1]; exact h
  | [], _ :: _, _, _, ht, _ => by simp at ht
  | _ :: _, [], _, _, ht, _ => by simp at ht
  | w :: ws, w' :: ws', out, c, ht, h => by
    simp only [List.map_cons, List.cons.injEq] at ht
    obtain ⟨h1, h2⟩ := ht
    unfold clT at h ⊢
    rw [← h1]
    split at h
    · cases h
    · rename_i h3
      rw [if_neg h3]
      split at h
      · rename_i h4; rw [if_pos h4]; exact clT_texts e e' v m l ws ws' _ _ h2 h
      · rename_i h4; rw [if_neg h4]; exact clT_texts e e' v m l ws ws' _ _ h2 h
theorem clT_more (e e' v m : Int) (l : List (List Int)) (w : Wd) (X : List Wd) : ∀ (ws : List Wd) (out : List (List Int)) (c : List Int), clT e v m ws out c = .ok l → clT e' v m (ws ++ w :: X) out c = .bad (w.pos : Int)
  | [], out, c, h => by
    unfold clT at h
    split at h
    · cases h
    · rename_i h1
      rw [List.nil_append]
      unfold clT
      rw [if_pos (.inl (by omega))]
  | u :: ws, out, c, h => by
    rw [List.cons_append]
    unfold clT at h ⊢
    split at h
    · cases h
    · rename_i h3
      rw [if_neg h3]
      split at h
      · rename_i h4; rw [if_pos h4]; exact clT_more e e' v m l w X ws _ _ h
      · rename_i h4; rw [if_neg h4]; exact clT_more e e' v m l w X ws _ _ h
theorem clT_less (e e' v m : Int) (l : List (List Int)) (D : List Wd) (z : Wd) (out : List (List Int)) (c : List Int) (h : clT e v m (D ++ [z]) out c = .ok l) : ∃ p, clT e' v m D out c = .bad p := by
  cases hd : clT e' v m D out c with
  | bad p => exact ⟨p, rfl⟩
  | ok l' =>
    have := clT_more e' e v m l' z [] D out c hd
    rw [h] at this
    cases this
theorem numWs_good : ∀ (l : List Int) (p : Nat) (f : Bool), ∀ w ∈ numWs l p f, GoodW w.text
  | [], _, _, w, hw => by cases hw
  | x :: l, p, f, w, hw => by
    rcases List.mem_cons.1 hw with rfl | hw
    · obtain ⟨a1, a2, a3, _⟩ := decT_word x
      exact ⟨a1, a2, a3⟩
    · exact numWs_good l _ _ w hw
theorem good48 : GoodW [48] := ⟨by simp, by decide, by decide⟩
theorem lines_good : ∀ (L : List (List Int)) (p : Nat) (f : Bool), (∀ w ∈ wordsOf (linesT L) p f false, GoodW w.text) ∧ (L ≠ [] → ∃ D q g, wordsOf (linesT L) p f false = D ++ [⟨[48], q, g⟩])
  | [], p, f => by
    rw [show linesT [] = [] from rfl, W_nil]
    exact ⟨fun w hw => (by cases hw), fun h => absurd rfl h⟩
  | c :: L, p, f => by
    obtain ⟨q, e1, _⟩ := W_line c (linesT L) p f
    obtain ⟨g1, g2⟩ := lines_good L q true
    rw [linesT_cons, e1]
    refine ⟨fun w hw => ?_, fun _ => ?_⟩
    · rcases List.mem_append.1 hw with hw | hw
      · exact numWs_good _ _ _ w hw
      · rcases List.mem_cons.1 hw with rfl | hw
        · exact good48
        · exact g1 w hw
    · by_cases hL : L = []
      · subst hL
        rw [show linesT [] = [] from rfl, W_nil]
        exact ⟨numWs c p f, _, _, rfl⟩
      · obtain ⟨D, q2, g, e2⟩ := g2 hL
        rw [e2]
        exact ⟨numWs c p f ++ ⟨[48], p + (numsT c).length, f && c.isEmpty⟩ :: D, q2, g, by simp⟩
end Go.Proofs.YtdkckkhghghhdaaDoor

namespace Go.Proofs.YtdkckkhghghhdaaDoor
open Go.RowKit

/-- a text's words, where it begins like clauses do -/
theorem bl_words (gaps : List Int) {v n : Int} (hv : 0 ≤ v) (hn : 0 ≤ n) (C : List Wd) (p q : Nat) (hC : ∀ w ∈ C, GoodW w.text) (r : List UInt8) (hr : Stops r) :
    ∃ a b c e C' z f, wordsOf (blT gaps (⟨[112], 0, true⟩ :: ⟨[99, 110, 102], 2, false⟩ :: ⟨decT v, p, false⟩ :: ⟨decT n, q, false⟩ :: C) 0 ++ r) 0 true false = ⟨[112], a, true⟩ :: ⟨[99, 110, 102], b, false⟩ :: ⟨decT v, c, false⟩ :: ⟨decT n, e, false⟩ :: (C' ++ wordsOf r z f false) ∧ C'.map Wd.text = C.map Wd.text := by
  obtain ⟨a1, a2, a3, _⟩ := decT_word v
  obtain ⟨b1, b2, b3, _⟩ := decT_word n
  have pre0 : preT gaps 0 = gap5 (gapK gaps 0) := by unfold preT; rw [if_neg (by omega), if_neg (by omega), List.append_nil]
  have pres : ∀ i, 0 < i → i < 4 → preT gaps i = [32] := fun i h1 h2 => by unfold preT; rw [if_pos ⟨h1, h2⟩, if_neg (by omega), List.append_nil]
  have e0 : blT gaps (⟨[112], 0, true⟩ :: ⟨[99, 110, 102], 2, false⟩ :: ⟨decT v, p, false⟩ :: ⟨decT n, q, false⟩ :: C) 0 ++ r = gap5 (gapK gaps 0) ++ ([112] ++ 32 :: ([99, 110, 102] ++ 32 :: (decT v ++ 32 :: (decT n ++ (blT gaps C 4 ++ r))))) := by
    simp only [blT, pre0, pres 1 (by omega) (by omega), pres 2 (by omega) (by omega), pres 3 (by omega) (by omega)]
    simp
  have hg : wordsOf (gap5 (gapK gaps 0) ++ ([112] ++ 32 :: ([99, 110, 102] ++ 32 :: (decT v ++ 32 :: (decT n ++ (blT gaps C 4 ++ r)))))) 0 true false = wordsOf ([112] ++ 32 :: ([99, 110, 102] ++ 32 :: (decT v ++ 32 :: (decT n ++ (blT gaps C 4 ++ r))))) (gap5 (gapK gaps 0)).length true false := by
    generalize [112] ++ 32 :: ([99, 110, 102] ++ 32 :: (decT v ++ 32 :: (decT n ++ (blT gaps C 4 ++ r)))) = R
    match gapK gaps 0 with
    | 0 => rw [show gap5 0 ++ R = 32 :: R from rfl, W_sp]; rfl
    | 1 => rw [show gap5 1 ++ R = 10 :: R from rfl, W_nl]; rfl
    | 2 => rw [show gap5 2 ++ R = 9 :: 32 :: R from rfl, W_blank (by decide) (by decide), W_sp]; rfl
    | 3 =>
      rw [show gap5 3 ++ R = 10 :: ([99] ++ 32 :: ([97, 110, 121] ++ 32 :: ([119, 111, 114, 100] ++ 32 :: ([48] ++ 10 :: R)))) from rfl, W_nl, W_word (by simp) (by decide) (Stops.sp _)]
      rw [show (false || (true && ([99] : List UInt8).getD 0 0 == 99)) = true from rfl, if_pos rfl, List.nil_append, W_sp, W_word (by simp) (by decide) (Stops.sp _), Bool.true_or, if_pos rfl, List.nil_append, W_sp, W_word (by simp) (by decide) (Stops.sp _), Bool.true_or, if_pos rfl, List.nil_append, W_sp, W_word (by simp) (by decide) (Stops.nl _), Bool.true_or, if_pos rfl, List.nil_append, W_nl]
      rfl
    | k + 4 => rw [show gap5 (k + 4) ++ R = 13 :: 10 :: R from rfl, W_blank (by decide) (by decide), W_nl]; rfl
  have hs4 : Stops (blT gaps C 4 ++ r) := blT_stops gaps C 4 hr
  rw [e0, hg, W_one (by simp) (by decide) (Stops.sp _) _ (fun _ => by simp), W_sp, W_one (by simp) (by decide) (Stops.sp _) _ (fun h => by cases h), W_sp, W_one a1 a2 (Stops.sp _) _ (fun h => by cases h), W_sp, W_one b1 b2 hs4 _ (fun h => by cases h)]
  obtain ⟨C', z, f, e2, e3⟩ := W_bl gaps C 4 ((gap5 (gapK gaps 0)).length + ([112] : List UInt8).length + 1 + ([99, 110, 102] : List UInt8).length + 1 + (decT v).length + 1 + (decT n).length) false r hC hr
  rw [e2]
  exact ⟨_, _, _, _, C', z, f, rfl, e3⟩
theorem headT_any {e v n : Int} (hv : 0 ≤ v) (hv1 : v ≤ 4000) (hn : 0 ≤ n) (hn1 : n ≤ 20000) (a b c q : Nat) (W : List Wd) : headT e (⟨[112], a, true⟩ :: ⟨[99, 110, 102], b, false⟩ :: ⟨decT v, c, false⟩ :: ⟨decT n, q, false⟩ :: W) = .ok v n := by
  unfold headT
  simp only [cnt_ok hv (by omega) hv1, cnt_ok hn (by omega) hn1]
  rw [if_neg (by simp), if_neg (by simp), (decT_num (x := v) (by omega) (by omega)).2.1, (decT_num (x := n) (by omega) (by omega)).2.1]
/-- the words of clauses' text -/
theorem split_cnf {v : Int} (L : List (List Int)) : ∃ p q, splitOf (cnfTx v L) true = ⟨[112], 0, true⟩ :: ⟨[99, 110, 102], 2, false⟩ :: ⟨decT v, 6, false⟩ :: ⟨decT (L.length : Int), p, false⟩ :: wordsOf (linesT L) q true false := by
  obtain ⟨p, q, e⟩ := W_head v (L.length : Int) (linesT L)
  exact ⟨p, q, by rw [splitOf_words]; exact e⟩
theorem bl_read (gaps : List Int) {v : Int} {L : List (List Int)} (hv : 0 ≤ v) (hv1 : v ≤ 4000) (hL : L.length ≤ 20000) (hl : ∀ c ∈ L, ∀ x ∈ c, LitOk v x) :
    rdC (blT gaps (splitOf (cnfTx v L) true) 0) = (v, L, none) ∧ (∃ c p, rdC (blT gaps (splitOf (cnfTx v L) true) 0 ++ [32, 49, 32, 48]) = (0, [], some (c, p))) ∧
    (L ≠ [] → ∃ c p, rdC ((blT gaps (splitOf (cnfTx v L) true) 0).take ((blT gaps (splitOf (cnfTx v L) true) 0).length - 1)) = (0, [], some (c, p))) := by
  obtain ⟨p, q, e⟩ := split_cnf (v := v) L
  obtain ⟨g1, g2⟩ := lines_good L q true
  have hcl := fun e => clT_lines e v (L.length : Int) L q true [] (by simp) hl
  rw [e]
  generalize wordsOf (linesT L) q true false = C at g1 g2 hcl
  refine ⟨?_, ?_, fun hLn => ?_⟩
  · obtain ⟨a, b, c, d, C', z, f, e1, e2⟩ := bl_words gaps hv (show (0 : Int) ≤ (L.length : Int) by omega) C 6 p g1 [] Stops.nil
    rw [List.append_nil, W_nil, List.append_nil] at e1
    unfold rdC
    rw [splitOf_words, e1, headT_any hv hv1 (by omega) (by omega)]
    simp only [List.drop_succ_cons, List.drop_zero]
    rw [clT_texts 0 _ v _ _ C C' [] [] e2.symm (hcl 0)]
    simp
  · obtain ⟨a, b, c, d, C', z, f, e1, e2⟩ := bl_words gaps hv (show (0 : Int) ≤ (L.length : Int) by omega) C 6 p g1 [32, 49, 32, 48] (Stops.sp _)
    have e3 : wordsOf [32, 49, 32, 48] z f false = ⟨[49], z + 1, f⟩ :: wordsOf [32, 48] (z + 1 + 1) false false := by
      rw [show ([32, 49, 32, 48] : List UInt8) = 32 :: ([49] ++ 32 :: [48]) from rfl, W_sp, W_one (by simp) (by decide) (Stops.sp _) _ (fun _ => by simp)]
      rfl
    unfold rdC
    rw [splitOf_words, e1, headT_any hv hv1 (by omega) (by omega)]
    simp only [List.drop_succ_cons, List.drop_zero]
    rw [e3, clT_more 0 _ v _ _ _ _ C' [] [] (clT_texts 0 0 v _ _ C C' [] [] e2.symm (hcl 0))]
    exact ⟨_, _, rfl⟩
  · obtain ⟨D, q2, g, rfl⟩ := g2 hLn
    have hsp : blT gaps (⟨[112], 0, true⟩ :: ⟨[99, 110, 102], 2, false⟩ :: ⟨decT v, 6, false⟩ :: ⟨decT (L.length : Int), p, false⟩ :: (D ++ [⟨[48], q2, g⟩])) 0 = blT gaps (⟨[112], 0, true⟩ :: ⟨[99, 110, 102], 2, false⟩ :: ⟨decT v, 6, false⟩ :: ⟨decT (L.length : Int), p, false⟩ :: D) 0 ++ preT gaps (4 + D.length) ++ [48] := by
      have := blT_app gaps (⟨[112], 0, true⟩ :: ⟨[99, 110, 102], 2, false⟩ :: ⟨decT v, 6, false⟩ :: ⟨decT (L.length : Int), p, false⟩ :: D) [⟨[48], q2, g⟩] 0
      simp only [List.cons_append] at this
      rw [this]
      simp only [blT, List.length_cons, List.append_nil, List.append_assoc]
      rw [show 0 + (D.length + 1 + 1 + 1 + 1) = 4 + D.length by omega]
    rw [hsp, List.length_append, List.length_singleton, Nat.add_sub_cancel, List.take_left' rfl]
    obtain ⟨a, b, c, d, C', z, f, e1, e2⟩ := bl_words gaps hv (show (0 : Int) ≤ (L.length : Int) by omega) D 6 p (fun w hw => g1 w (List.mem_append_left _ hw)) (preT gaps (4 + D.length)) (by have := preT_head gaps (4 + D.length) []; rwa [List.append_nil] at this)
    obtain ⟨f', e3⟩ := preT_blank gaps (4 + D.length) [] z f
    rw [List.append_nil, W_nil] at e3
    rw [e3, List.append_nil] at e1
    have hok := clT_texts 0 0 v (L.length : Int) ([] ++ L) (D ++ [⟨[48], q2, g⟩]) (C' ++ [⟨[48], q2, g⟩]) [] [] (by simp [e2]) (hcl 0)
    unfold rdC
    rw [splitOf_words, e1, headT_any hv hv1 (by omega) (by omega)]
    simp only [List.drop_succ_cons, List.drop_zero]
    obtain ⟨pp, e4⟩ := clT_less 0 (((blT gaps (⟨[112], 0, true⟩ :: ⟨[99, 110, 102], 2, false⟩ :: ⟨decT v, 6, false⟩ :: ⟨decT (L.length : Int), p, false⟩ :: D) 0 ++ preT gaps (4 + D.length)).length : Nat) : Int) v (L.length : Int) ([] ++ L) C' _ [] [] hok
    rw [e4]
    exact ⟨_, _, rfl⟩
/-- how long it is -/
theorem preT_len (gaps : List Int) (i : Nat) : (preT gaps i).length ≤ 15 := by
  have key : ∀ k, (gap5 k).length ≤ 14 := fun k => by
    match k with
    | 0 => simp [gap5]
    | 1 => simp [gap5]
    | 2 => simp [gap5]
    | 3 => simp [gap5]
    | k + 4 => simp [gap5]
  have := key (gapK gaps i)
  unfold preT
  rw [List.length_append]
  split <;> split <;> simp <;> omega
end Go.Proofs.YtdkckkhghghhdaaDoor

namespace Go.Proofs.YtdkckkhghghhdaaDoor
open Go.RowKit

structure Still (h h' : AHeap) : Prop where
  at_ : ∀ (n : Nat) (p : Pt) (cs : List AVal), h.cellsAt n p = some cs → h'.cellsAt n p = some cs
  cell : ∀ (p : Pt) (v : AVal), h.cell p = some v → h'.cell p = some v
  cells : ∀ (sz : Nat) (s : Sl) (cs : List AVal), h.sliceCells sz s = some cs → h'.sliceCells sz s = some cs
theorem Still.refl (h : AHeap) : Still h h := ⟨fun _ _ _ h => h, fun _ _ h => h, fun _ _ _ h => h⟩
theorem Still.trans {a b c : AHeap} (h : Still a b) (k : Still b c) : Still a c := ⟨fun n p cs q => k.1 n p cs (h.1 n p cs q), fun p v q => k.2 p v (h.2 p v q), fun sz s cs q => k.3 sz s cs (h.3 sz s cs q)⟩
theorem Still.ext {h h' : AHeap} (hk : Keeps h h' fun _ => False) : Still h h' :=
  ⟨fun n p cs q => by
    cases p with
    | nil => exact q
    | fp => exact q
    | mk r l => exact cellsAt_keep hk (fun h => h) q,
   fun p v q => by
    cases p with
    | nil => exact q
    | fp => exact q
    | mk r l => exact cell_keep hk (fun h => h) q,
   fun sz s cs q => sliceCells_ext hk q⟩
theorem Still.mark (h : AHeap) (ids : List Nat) : Still h (h.markRo ids) := ⟨fun n p cs q => by rw [cellsAt_mark]; exact q, fun p v q => by rw [cell_mark]; exact q, fun sz s cs q => by rw [sliceCells_mark]; exact q⟩
theorem Sep0.still {h0 h : AHeap} {L : List Chunk} (hs : Sep0 h0 h L) : Still h0 h := Still.ext hs.ext
/-- the front of a slice of bytes, as a value -/
theorem cutU {h : AHeap} {s : Sl} {b : List UInt8} (hs : h.sliceCells 1 s = some (bytesC b)) {hi : Nat} (h2 : hi ≤ b.length) : freezeV h 8 (.slice (s.cut 1 0 hi false)) = some (.slice (lstU (b.take hi))) := by
  have hl := sliceCells_len hs
  simp only [List.length_map, Nat.mul_one] at hl
  have hlen : (b.take hi).length = hi := by simp; omega
  cases s with
  | nil =>
    simp only [Sl.len] at hl
    have e0 : hi = 0 := by omega
    subst e0
    rfl
  | lst n c cs =>
    obtain ⟨rfl, hl2⟩ := lst_cells hs
    simp only [Sl.len] at hl
    have e : Sl.cut (.lst n c (bytesC b)) 1 0 hi false = .lst hi (false || (c && Nat.beq hi n)) (bytesC (b.take hi)) := by
      simp only [Sl.cut, Nat.sub_zero, Nat.mul_one, Nat.zero_mul, List.drop_zero]
      simp
    rw [e, freeze_lst 7 _ _ (closedL_map (fun _ => rfl) _)]
    show some (AVal.slice (.lst hi false _)) = some (AVal.slice (.lst (b.take hi).length false _))
    rw [hlen]
  | mk r n c =>
    simp only [Sl.len] at hl
    have e : Sl.cut (.mk r n c) 1 0 hi false = .mk ⟨r.id, r.gen, r.off + 0⟩ hi (false || (c && Nat.beq hi n)) := rfl
    rw [e]
    by_cases h0 : hi = 0
    · subst h0
      rw [freeze_cells (cs := []) (us := []) rfl rfl]
      rfl
    · obtain ⟨row, q1, q2, q3, q4, q5, q6⟩ := sliceCells_row hs (by omega)
      have hc : h.sliceCells 1 (.mk ⟨r.id, r.gen, r.off + 0⟩ hi (false || (c && Nat.beq hi n))) = some (bytesC (b.take hi)) := by
        have := sliceCells_of (r := ⟨r.id, r.gen, r.off + 0⟩) (n := hi) (c := (false || (c && Nat.beq hi n))) q1 q2 q3 q4 (by simp only; omega)
        rw [this]
        simp only [Nat.mul_one, Nat.add_zero]
        have h9 : (bytesC b).take hi = bytesC (b.take hi) := by simp
        rw [← h9, q6, List.take_take, Nat.mul_one, Nat.min_eq_left (by omega)]
      rw [freeze_cells hc (freeze_bytesC 6 _)]
      show some (AVal.slice (.lst hi false _)) = some (AVal.slice (.lst (b.take hi).length false _))
      rw [hlen]
theorem hasSzU {h : AHeap} {s : Sl} {sz : Nat} {cs : List AVal} (hs : h.sliceCells sz s = some cs) (hn : s.len ≠ 0) : h.hasSz sz s = true := by
  cases s with
  | nil => rfl
  | lst n c ds =>
    obtain ⟨rfl, hl2⟩ := lst_cells hs
    simp only [AHeap.hasSz]
    exact nbeq.2 hl2
  | mk r n c =>
    obtain ⟨row, q1, q2, _⟩ := sliceCells_row hs hn
    simp [AHeap.hasSz, q1, q2]
end Go.Proofs.YtdkckkhghghhdaaDoor

namespace Go.Proofs.YtdkckkhghghhdaaDoor
open Go.RowKit

theorem sucS {m : Nat} (h : m < 9000000000000000000) : IntKind.wrap .i64 ((m : Int) + 1) = ((m + 1 : Nat) : Int) := by rw [wrap64 (by omega) (by omega)]; omega
theorem sameI_loop (fuel d : Nat) {a b : List Int} (hl : a.length = b.length) (hn : a.length < 1000000000) {h : AHeap} : ∀ (n k : Nat), a.length < n + k → k ≤ a.length → a.take k = b.take k →
    (l_skolemref_SameInts_0 fuel d n [(0, .slice (lstI a)), (1, .slice (lstI b)), (5, .int .i64 (k : Int))] h).bind (fun p => k_skolemref_SameInts_0 fuel d p.1 p.2.1 p.2.2) = some (.bool (decide (a = b)), h) := by
  intro n
  induction n with
  | zero => intro k h1 h2; omega
  | succ n ih =>
    intro k h1 h2 h3
    rw [l_skolemref_SameInts_0_eq, len_lst]
    by_cases hk : k < a.length
    · rw [bif_pos (by omega), addr_lstM _ (by omega) (by omega) 0, addr_lstM _ (by omega) (by omega) 0]
      simp only [Option.bind_some, cell_fp, int_int, Int.toNat_natCast]
      by_cases he : a.getD k 0 = b.getD k 0
      · rw [bif_npos he, sucS (by omega), ih (k + 1) (by omega) (by omega) (by rw [take_get hk 0, take_get (by omega) 0, h3, he])]
      · rw [bif_nneg he]
        simp only [Option.bind_some, k_skolemref_SameInts_0_r]
        rw [decide_eq_false (fun h => he (by rw [h]))]
    · have : k = a.length := by omega
      subst this
      rw [bif_neg (by omega)]
      have : a = b := by rw [List.take_length, hl, List.take_length] at h3; exact h3
      simp only [Option.bind_some, k_skolemref_SameInts_0_x0]
      rw [decide_eq_true this]
theorem sameI_run (fuel d : Nat) {a b : List Int} {s t : Sl} {h : AHeap} (hs : freezeV h 8 (.slice s) = some (.slice (lstI a))) (ht : freezeV h 8 (.slice t) = some (.slice (lstI b))) (hn : a.length < 1000000000) (hf : a.length < fuel) :
    run fuel (d + 1) F_skolemref_SameInts [.slice s, .slice t] h = some (.bool (decide (a = b)), h) := by
  refine run_val rfl rfl (mm2 hs ht) (r := .bool (decide (a = b))) (h' := AHeap.none) ?_ rfl rfl
  rw [e_skolemref_SameInts, len_lst, len_lst]
  by_cases hl : a.length = b.length
  · rw [bif_npos (by omega)]
    have := sameI_loop fuel d hl hn (h := AHeap.none) fuel 0 (by omega) (by omega) rfl
    exact this
  · rw [bif_nneg (by omega), decide_eq_false (fun h => hl (by rw [h]))]

end Go.Proofs.YtdkckkhghghhdaaDoor

namespace Go.Proofs.YtdkckkhghghhdaaDoor
open Go.RowKit

end Go.Proofs.YtdkckkhghghhdaaDoor

namespace Go.Proofs.YtdkckkhghghhdaaDoor
open Go.RowKit

theorem sameCl_loop (fuel d : Nat) {l : List (List Int)} (hl : l.length < 1000000000) (hs : ∀ s ∈ l, s.length < 1000000000 ∧ s.length < fuel) (h : AHeap) : ∀ (n k : Nat), l.length < n + k → k ≤ l.length →
    l_skolemref_SameClauses_0 fuel (d + 1) n [(0, .slice (lstLL l)), (1, .slice (lstLL l)), (5, .int .i64 (k : Int))] h = some (.exit 0, [(4, .bot)], h) := by
  intro n
  induction n with
  | zero => intro k h1 h2; omega
  | succ n ih =>
    intro k h1 h2
    rw [l_skolemref_SameClauses_0_eq, len_lst]
    by_cases hk : k < l.length
    · obtain ⟨q1, q2⟩ := hs (l.getD k []) (by simp [List.getD, hk])
      rw [bif_pos (by omega), addr_lstM _ (by omega) (by omega) [], Int.toNat_natCast]
      generalize l.getD k [] = s at q1 q2
      simp only [Option.bind_some, cell_fp, slice_slice]
      rw [sameI_run fuel d (freeze_lstI 7 _) (freeze_lstI 7 _) q1 q2]
      simp only [Option.bind_some, bool_bool, decide_true, Bool.not_true, cond_false]
      rw [sucS (by omega)]
      exact ih (k + 1) (by omega) (by omega)
    · rw [bif_neg (by omega)]
theorem sameCl_run (fuel d : Nat) {l : List (List Int)} (hl : l.length < 1000000000) (hlf : l.length < fuel) (hs : ∀ s ∈ l, s.length < 1000000000 ∧ s.length < fuel) (h : AHeap) : run fuel (d + 2) F_skolemref_SameClauses [.slice (lstLL l), .slice (lstLL l)] h = some (.bool true, h) := by
  refine pure_of rfl rfl (cc2 (canon_lstLL 7 l) (canon_lstLL 7 l)) (r := .bool true) (h' := AHeap.none) ?_ rfl
  rw [e_skolemref_SameClauses, len_lst, bif_npos rfl]
  have := sameCl_loop fuel d hl hs AHeap.none fuel 0 (by omega) (by omega)
  rw [show ((0 : Nat) : Int) = 0 from rfl] at this
  rw [this]
  simp only [Option.bind_some, k_skolemref_SameClauses_0_x0]
theorem sameCNF_run (fuel d : Nat) (v : Int) {l : List (List Int)} (hl : l.length < 1000000000) (hlf : l.length < fuel) (hs : ∀ s ∈ l, s.length < 1000000000 ∧ s.length < fuel) (h : AHeap) : run fuel (d + 3) F_skolemref_SameCNF [.agg (cnfC v l), .agg (cnfC v l)] h = some (.bool true, h) := by
  have hc : canonV 8 (.agg (cnfC v l)) = some (.agg (cnfC v l)) := by
    unfold cnfC
    rw [canon_agg, canonM_cons (u := .int .i64 v) rfl (canonM_cons (u := .slice (lstLL l)) (canon_lstLL _ _) (canonM_nil _))]
    rfl
  refine pure_of rfl rfl (cc2 hc hc) (r := .bool true) ?_ rfl (h' := (AHeap.none.push 1 (cnfC v l)).push 1 (cnfC v l))
  rw [e_skolemref_SameCNF, show List.all (cnfC v l) AVal.isCell = true from rfl, cond_true, cond_true, show (cnfC v l).length = 2 from rfl]
  have s1 := ((Sep0.start AHeap.none).push 1 2 (cs := cnfC v l) rfl).push 1 2 (cs := cnfC v l) rfl
  have a0 : ((AHeap.none.push 1 (cnfC v l)).push 1 (cnfC v l)).cell (.mk ⟨AHeap.none.next, 0, 0 + 0⟩ 2) = some (.int .i64 v) := s1.part (i := 0) rfl (by omega) rfl
  have a1 : ((AHeap.none.push 1 (cnfC v l)).push 1 (cnfC v l)).cell (.mk ⟨AHeap.none.next, 0, 0 + 1⟩ 2) = some (.slice (lstLL l)) := s1.part (i := 0) rfl (by omega) rfl
  have b0 : ((AHeap.none.push 1 (cnfC v l)).push 1 (cnfC v l)).cell (.mk ⟨(AHeap.none.push 1 (cnfC v l)).next, 0, 0 + 0⟩ 2) = some (.int .i64 v) := s1.part (i := 1) rfl (by omega) rfl
  have b1 : ((AHeap.none.push 1 (cnfC v l)).push 1 (cnfC v l)).cell (.mk ⟨(AHeap.none.push 1 (cnfC v l)).next, 0, 0 + 1⟩ 2) = some (.slice (lstLL l)) := s1.part (i := 1) rfl (by omega) rfl
  simp only [field_mk, Option.bind_some, a0, a1, b0, b1, int_int, slice_slice, decide_true, beq_self_eq_true, cond_true]
  rw [sameCl_run fuel d hl hlf hs]
  simp only [Option.bind_some, bool_bool]

theorem okC (v : Int) (l : List (List Int)) : (!false && Nat.beq (List.length (cnfC v l)) 2 && List.all (cnfC v l) AVal.isCell) = true := rfl
end Go.Proofs.YtdkckkhghghhdaaDoor

namespace Go.Proofs.YtdkckkhghghhdaaDoor
open Go.RowKit

theorem first4_run (fuel : Nat) {e : Nat} (he : 9 ≤ e) (hf : 40 ≤ fuel) (h : AHeap) : run fuel e F_skolemlaw4_first [] h = some (.bool true, h) := by
  obtain ⟨d, rfl⟩ : ∃ d, e = d + 9 := ⟨e - 9, by omega⟩
  refine pure_ex rfl rfl canonL_nil (r := .bool true) ?_ (fun _ => rfl)
  rw [e_skolemlaw4_first, dread_nil fuel d hf, show crA (rdC []) = .tup [.agg (cnfC 0 []), atV 0 err_api_ErrText] from rfl]
  simp only [Option.bind_some, isTup_tup, List.length_cons, List.length_nil, Nat.beq, cond_true, comp_tup, List.getElem?_cons_zero, List.getElem?_cons_succ, agg_agg]
  rw [cond_pos _ _ (show (!false && Nat.beq (List.length (cnfC 0 [])) 2 && List.all (cnfC 0 []) AVal.isCell) = true from rfl)]
  have s1 := (Sep0.start AHeap.none).push 1 2 (cs := [(AVal.int .i64 (0 : Int)), (.slice Sl.nil)]) rfl
  obtain ⟨h5, e5, _⟩ := s1.put (i := 0) (o := 0) (l := 2) (vs := cnfC 0 []) rfl (by simp [cnfC]) (by simp [cnfC])
  rw [e5]
  simp only [Option.bind_some]
  rw [Placed_run fuel (d + 7) (show (101 : Int) ≠ 0 by omega)]
  simp only [Option.bind_some, agg_agg]
  rw [Same_run fuel (d + 4) (e := atV 0 err_api_ErrText) (c := 101) (p := true) (x := 0) (IsFault.at (j := 0) (by omega) 0) (by omega) 101 true 0]
  exact ⟨_, rfl⟩
end Go.Proofs.YtdkckkhghghhdaaDoor

namespace Go.Proofs.YtdkckkhghghhdaaDoor
open Go.RowKit

theorem succI {n : Nat} (h : n < 9000000000000000000) : IntKind.wrap .i64 ((n : Int) + 1) = ((n + 1 : Nat) : Int) := by rw [wrap64 (by omega) (by omega)]; omega

/-! lits.Var -/
def varI (l : Int) : Int := bif decide (l < IntKind.wrap .i64 (0 - l)) then IntKind.wrap .i64 (0 - l) else l
def okInt (l : Int) : Prop := -9223372036854775808 < l ∧ l ≤ 9223372036854775807
end Go.Proofs.YtdkckkhghghhdaaDoor

namespace Go.Proofs.YtdkckkhghghhdaaDoor
open Go.RowKit

/-! skolemworld.Number -/
def numI (n b : Int) : Int := bif decide (Int.tmod n b < 0) then IntKind.wrap .i64 (Int.tmod n b + b) else Int.tmod n b
theorem Number_run (fuel d : Nat) {n b : Int} (hb : b ≠ 0) (h : AHeap) : run fuel (d + 1) F_skolemworld_Number [.int .i64 n, .int .i64 b] h = some (.int .i64 (numI n b), h) :=
  pure_of rfl rfl (cc2 rfl rfl) (by
    rw [e_skolemworld_Number, bif_neg hb]
    show _ = some (AVal.int .i64 (numI n b), AHeap.none)
    unfold numI
    cases decide (Int.tmod n b < 0) <;> rfl) rfl
theorem numI_range {n b : Int} (hb : 0 < b) (hb2 : b ≤ 9223372036854775807) : 0 ≤ numI n b ∧ numI n b < b := by
  have h1 := Int.tmod_lt_of_pos n hb
  have h2 : -b < Int.tmod n b := by
    have := Int.neg_lt_of_neg_lt (a := Int.tmod n b) (b := b)
    have h3 := Int.tmod_lt_of_pos (-n) hb
    rw [Int.neg_tmod] at h3
    omega
  unfold numI
  by_cases h0 : Int.tmod n b < 0
  · rw [decide_eq_true h0, cond_true, wrap64 (by omega) (by omega)]; omega
  · rw [decide_eq_false h0, cond_false]; omega

end Go.Proofs.YtdkckkhghghhdaaDoor

namespace Go.Proofs.YtdkckkhghghhdaaDoor
open Go.RowKit

/-! skolemmake.Lit -/
def litI (n vars : Int) : Int := bif decide (numI n (2 * vars) < vars) then numI n (2 * vars) + 1 else vars - numI n (2 * vars) - 1
theorem Lit_run (fuel d : Nat) {n vars : Int} (h1 : 0 < vars) (h2 : vars ≤ 1000000) (h : AHeap) : run fuel (d + 2) F_skolemmake_Lit [.int .i64 n, .int .i64 vars] h = some (.int .i64 (litI n vars), h) := by
  have hr := numI_range (n := n) (b := 2 * vars) (by omega) (by omega)
  refine pure_of rfl rfl (cc2 rfl rfl) (r := .int .i64 (litI n vars)) (h' := AHeap.none) ?_ rfl
  rw [e_skolemmake_Lit, wrap64 (n := 2 * vars) (by omega) (by omega), Number_run fuel d (by omega)]
  simp only [Option.bind_some, int_int]
  unfold litI
  by_cases h0 : numI n (2 * vars) < vars
  · rw [decide_eq_true h0, cond_true, cond_true, wrap64 (by omega) (by omega)]
  · rw [decide_eq_false h0, cond_false, cond_false, wrap64 (n := vars - numI n (2 * vars)) (by omega) (by omega), wrap64 (by omega) (by omega)]
theorem litI_range {n vars : Int} (h1 : 0 < vars) (h2 : vars ≤ 1000000) : litI n vars ≠ 0 ∧ -vars ≤ litI n vars ∧ litI n vars ≤ vars := by
  have hr := numI_range (n := n) (b := 2 * vars) (by omega) (by omega)
  unfold litI
  by_cases h0 : numI n (2 * vars) < vars
  · rw [decide_eq_true h0, cond_true]; omega
  · rw [decide_eq_false h0, cond_false]; omega

end Go.Proofs.YtdkckkhghghhdaaDoor

namespace Go.Proofs.YtdkckkhghghhdaaDoor
open Go.RowKit

/-! skolemmake.Clauses -/
def clLit (n vars : Int) : Int := litI (IntKind.wrap .i64 (Int.tdiv (numI n 1099511627776) 7)) vars
def clCut (n : Int) (c : List Int) : Bool := (decide (numI n 7 = 0) && decide (0 < c.length)) || decide (5 ≤ c.length)
def clGo (vars : Int) : List Int → List (List Int) → List Int → List (List Int)
  | [], cc, c => if c = [] then cc else cc ++ [c]
  | n :: l, cc, c => if clCut n c = true then clGo vars l (cc ++ [c]) [clLit n vars] else clGo vars l cc (c ++ [clLit n vars])
def clausesI (l : List Int) (vars : Int) : List (List Int) := if vars < 1 then [] else clGo vars l [] []

theorem clauses_loop (fuel d : Nat) {l : List Int} {vars : Int} (hv : 0 < vars) (hv' : vars ≤ 1000000) (hl : l.length < 1000000) {h0 : AHeap} : ∀ (n k : Nat) (cc : List (List Int)) (c : List Int) (s5 s6 : Sl) (h : AHeap), l.length < n + k → k ≤ l.length → cc.length ≤ k → c.length ≤ k →
    Sep0 h0 h [.grown 1 s5 (gridC cc), .grown 1 s6 (intsC c)] →
    ∃ s' h', (l_skolemmake_Clauses_0 fuel (d + 2) n [(0, .slice (lstI l)), (1, .int .i64 vars), (5, .slice s5), (6, .slice s6), (7, .int .i64 (k : Int))] h).bind (fun p => k_skolemmake_Clauses_0 fuel (d + 2) p.1 p.2.1 p.2.2) = some (.slice s', h') ∧
      New h0 h' (.grown 1 s' (gridC (clGo vars (l.drop k) cc c))) := by
  intro n
  induction n with
  | zero => intro k cc c s5 s6 h h1 h2; omega
  | succ n ih =>
    intro k cc c s5 s6 h h1 h2 h3 h4 hs
    have l5 := hs.len (i := 0) rfl
    have l6 := hs.len (i := 1) rfl
    simp only [List.length_map, Nat.mul_one] at l5 l6
    rw [l_skolemmake_Clauses_0_eq, len_lst]
    by_cases hk : k < l.length
    · rw [bif_pos (by omega), drop_get hk 0, addr_lstM _ (by omega) (by omega) 0]
      simp only [Option.bind_some, cell_fp, int_int, Int.toNat_natCast, Number_run fuel (d + 1) (show (7 : Int) ≠ 0 by decide), ← l6]
      have hcut : (bif (bif decide (numI (l.getD k 0) 7 = 0) then decide ((0 : Int) < (c.length : Int)) else false) then true else decide ((5 : Int) ≤ (c.length : Int))) = clCut (l.getD k 0) c := by
        unfold clCut
        have e1 : decide ((0 : Int) < (c.length : Int)) = decide (0 < c.length) := by congr 1; simp
        have e2 : decide ((5 : Int) ≤ (c.length : Int)) = decide (5 ≤ c.length) := by congr 1; simp; omega
        rw [e1, e2]
        cases decide (numI (l.getD k 0) 7 = 0) <;> cases decide (0 < c.length) <;> cases decide (5 ≤ c.length) <;> rfl
      rw [hcut]
      simp only [clGo]
      have step : ∀ (cc : List (List Int)) (c : List Int) (s5 s6 : Sl) (h : AHeap), cc.length ≤ k + 1 → c.length ≤ k → Sep0 h0 h [.grown 1 s5 (gridC cc), .grown 1 s6 (intsC c)] →
          ∃ s' h', (k_skolemmake_Clauses_1 fuel (d + 2) n .normal [(0, .slice (lstI l)), (1, .int .i64 vars), (5, .slice s5), (6, .slice s6), (7, .int .i64 (k : Int))] h).bind (fun p => k_skolemmake_Clauses_0 fuel (d + 2) p.1 p.2.1 p.2.2) = some (.slice s', h') ∧
            New h0 h' (.grown 1 s' (gridC (clGo vars (l.drop (k + 1)) cc (c ++ [clLit (l.getD k 0) vars])))) := by
        intro cc c s5 s6 h h3 h4 hs
        have l6 := hs.len (i := 1) rfl
        simp only [List.length_map, Nat.mul_one] at l6
        obtain ⟨s', h', e1, e2, e3⟩ := hs.grow (i := 1) (bytes := 8) (m := 1) (vs := [.int .i64 (clLit (l.getD k 0) vars)]) rfl rfl (by omega) (by omega)
        rw [k_skolemmake_Clauses_1_n, addr_lstM _ (by omega) (by omega) 0]
        simp only [Option.bind_some, cell_fp, int_int, Int.toNat_natCast, Number_run fuel (d + 1) (show (1099511627776 : Int) ≠ 0 by decide)]
        rw [Lit_run fuel d hv hv']
        have e1' : AHeap.append h false 1 8 s6 1 [.int .i64 (litI (IntKind.wrap .i64 (Int.tdiv (numI (l.getD k 0) 1099511627776) 7)) vars)] = some (s', h') := e1
        simp only [Option.bind_some, int_int, e1']
        rw [succI (by omega)]
        refine ih (k + 1) cc (c ++ [clLit (l.getD k 0) vars]) s5 s' h' (by omega) (by omega) (by omega) (by simp; omega) ?_
        rw [intsC_append]
        exact e2
      cases hc : clCut (l.getD k 0) c with
      | true =>
        obtain ⟨h5, f1, f2⟩ := hs.fix (i := 1) (sz := 1) (s := s6) (cs := intsC c) rfl (closedL_map (fun _ => rfl) c) 1
        obtain ⟨s', h', e1, e2, e3⟩ := f2.grow (i := 0) (sz := 1) (s := s5) (cs := gridC cc) (bytes := 24) (m := 1) (vs := [.slice (lstI c)]) rfl rfl (by omega) (by omega)
        have hfx : h.fixL [.slice s6] = ([.slice (lstI c)], h5) := by rw [fixL_one, f1, ← l6]
        simp only [cond_true, hfx, e1, Option.bind_some, if_true]
        exact step (cc ++ [c]) [] s' .nil h' (by simp; omega) (by simp) (by rw [gridC_append]; exact e2)
      | false =>
        simp only [cond_false, Option.bind_some, Bool.false_eq_true, if_false]
        exact step cc c s5 s6 h (by omega) h4 hs
    · have : k = l.length := by omega
      subst this
      rw [bif_neg (by omega), List.drop_eq_nil_of_le (by omega)]
      simp only [Option.bind_some, k_skolemmake_Clauses_0_x0, clGo, ← l6]
      by_cases h0 : c = []
      · subst h0
        rw [bif_neg (by simp)]
        exact ⟨s5, h, rfl, hs.get (i := 0) rfl⟩
      · have : 0 < c.length := List.length_pos_iff.2 h0
        rw [bif_pos (by omega), if_neg h0]
        obtain ⟨h5, f1, f2⟩ := hs.fix (i := 1) (sz := 1) (s := s6) (cs := intsC c) rfl (closedL_map (fun _ => rfl) c) 1
        obtain ⟨s', h', e1, e2, e3⟩ := f2.grow (i := 0) (sz := 1) (s := s5) (cs := gridC cc) (bytes := 24) (m := 1) (vs := [.slice (lstI c)]) rfl rfl (by omega) (by omega)
        have hfx : h.fixL [.slice s6] = ([.slice (lstI c)], h5) := by rw [fixL_one, f1, ← l6]
        simp only [hfx, e1, Option.bind_some]
        refine ⟨s', h', rfl, ?_⟩
        rw [gridC_append]
        exact e2.get (i := 0) rfl

theorem Clauses_body (fuel d : Nat) {l : List Int} {vars : Int} (hv' : vars ≤ 1000000) (hl : l.length < 1000000) (hf : l.length < fuel) (h : AHeap) :
    ∃ s h', (bif (decide (vars < (1 : Int))) then (some ((AVal.slice Sl.nil), h)) else ((l_skolemmake_Clauses_0 fuel (d + 2) fuel [(0, (AVal.slice (lstI l))), (1, (AVal.int .i64 vars)), (5, (AVal.slice Sl.nil)), (6, (AVal.slice Sl.nil)), (7, (AVal.int .i64 (0 : Int)))] h).bind fun p1 => k_skolemmake_Clauses_0 fuel (d + 2) p1.1 p1.2.1 p1.2.2)) = some (.slice s, h') ∧ New h h' (.grown 1 s (gridC (clausesI l vars))) := by
  unfold clausesI
  by_cases hv : vars < 1
  · rw [bif_pos hv, if_pos hv]
    exact ⟨_, _, rfl, Keeps.refl _ _, .nil, fun r hr => by cases hr⟩
  · rw [bif_neg hv, if_neg hv]
    obtain ⟨s', h', e1, e2⟩ := clauses_loop fuel d (l := l) (vars := vars) (by omega) hv' hl (h0 := h) fuel 0 [] [] .nil .nil h (by omega) (by omega) (by simp) (by simp) ((((Sep0.start h).addNil 1).addNil 1))
    rw [show ((0 : Nat) : Int) = 0 from rfl] at e1
    rw [List.drop_zero] at e2
    exact ⟨s', h', e1, e2⟩

/-! The clauses are right; how long they are. -/
theorem clGo_lits {vars : Int} (hv : 0 < vars) (hv' : vars ≤ 1000000) : ∀ (l : List Int) (cc : List (List Int)) (c : List Int), (∀ b ∈ cc, ∀ x ∈ b, x ≠ 0 ∧ -vars ≤ x ∧ x ≤ vars) → (∀ x ∈ c, x ≠ 0 ∧ -vars ≤ x ∧ x ≤ vars) → ∀ b ∈ clGo vars l cc c, ∀ x ∈ b, x ≠ 0 ∧ -vars ≤ x ∧ x ≤ vars
  | [], cc, c, h1, h2 => by
    unfold clGo
    split
    · exact h1
    · intro b hb
      rcases List.mem_append.1 hb with hb | hb
      · exact h1 b hb
      · rw [List.mem_singleton.1 hb]; exact h2
  | n :: l, cc, c, h1, h2 => by
    have hl : clLit n vars ≠ 0 ∧ -vars ≤ clLit n vars ∧ clLit n vars ≤ vars := litI_range hv hv'
    unfold clGo
    split
    · refine clGo_lits hv hv' l _ _ (fun b hb => ?_) fun x hx => by rw [List.mem_singleton.1 hx]; exact hl
      rcases List.mem_append.1 hb with hb | hb
      · exact h1 b hb
      · rw [List.mem_singleton.1 hb]; exact h2
    · refine clGo_lits hv hv' l _ _ h1 fun x hx => ?_
      rcases List.mem_append.1 hx with hx | hx
      · exact h2 x hx
      · rw [List.mem_singleton.1 hx]; exact hl
theorem clausesI_lits {vars : Int} (hv' : vars ≤ 1000000) (l : List Int) : ∀ b ∈ clausesI l vars, ∀ x ∈ b, x ≠ 0 ∧ -vars ≤ x ∧ x ≤ vars := by
  unfold clausesI
  split
  · intro b hb; cases hb
  · exact clGo_lits (by omega) hv' l [] [] (fun b h => by cases h) fun x h => by cases h
theorem clGo_total {vars : Int} : ∀ (l : List Int) (cc : List (List Int)) (c : List Int), totalI (clGo vars l cc c) = totalI cc + c.length + l.length
  | [], cc, c => by
    unfold clGo totalI
    split
    · rename_i h; subst h; simp
    · simp
  | n :: l, cc, c => by
    unfold clGo
    split
    · rw [clGo_total l]; simp [totalI]; omega
    · rw [clGo_total l]; simp; omega
theorem clGo_full {vars : Int} : ∀ (l : List Int) (cc : List (List Int)) (c : List Int), (∀ b ∈ cc, b ≠ []) → ∀ b ∈ clGo vars l cc c, b ≠ []
  | [], cc, c, h => by
    unfold clGo
    split
    · exact h
    · rename_i h0
      intro b hb
      rcases List.mem_append.1 hb with hb | hb
      · exact h b hb
      · rw [List.mem_singleton.1 hb]; exact h0
  | n :: l, cc, c, h => by
    unfold clGo
    split
    · rename_i hc
      refine clGo_full l _ _ fun b hb => ?_
      rcases List.mem_append.1 hb with hb | hb
      · exact h b hb
      · rw [List.mem_singleton.1 hb]
        rintro rfl
        simp [clCut] at hc
    · exact clGo_full l _ _ h
theorem total_bound : ∀ {cc : List (List Int)}, (∀ b ∈ cc, b ≠ []) → cc.length ≤ totalI cc ∧ ∀ b ∈ cc, b.length ≤ totalI cc
  | [], _ => ⟨Nat.le_refl _, fun b h => by cases h⟩
  | c :: cc, h => by
    obtain ⟨h1, h2⟩ := total_bound (cc := cc) fun b hb => h b (List.mem_cons_of_mem _ hb)
    have h0 := List.length_pos_iff.2 (h c (List.mem_cons_self ..))
    have e : totalI (c :: cc) = c.length + totalI cc := by simp [totalI]
    refine ⟨by rw [e, List.length_cons]; omega, fun b hb => ?_⟩
    rcases List.mem_cons.1 hb with rfl | hb
    · omega
    · have := h2 b hb; omega
theorem clausesI_size (l : List Int) (vars : Int) : (clausesI l vars).length ≤ l.length ∧ totalI (clausesI l vars) ≤ l.length ∧ ∀ b ∈ clausesI l vars, b.length ≤ l.length := by
  unfold clausesI
  split
  · exact ⟨by simp, by simp [totalI], fun b h => by cases h⟩
  · have e := clGo_total (vars := vars) l [] []
    simp only [totalI, List.map_nil, List.sum_nil, List.length_nil, Nat.zero_add] at e
    obtain ⟨h1, h2⟩ := total_bound (clGo_full (vars := vars) l [] [] fun b h => by cases h)
    unfold totalI at h1 h2
    exact ⟨by omega, by unfold totalI; omega, fun b hb => by have := h2 b hb; omega⟩

end Go.Proofs.YtdkckkhghghhdaaDoor

namespace Go.Proofs.YtdkckkhghghhdaaDoor
open Go.RowKit

theorem Clauses_run (fuel d : Nat) {l : List Int} {vars : Int} (hv' : vars ≤ 1000000) (hl : l.length < 1000000) (hf : l.length < fuel) (h : AHeap) :
    run fuel (d + 3) F_skolemmake_Clauses [.slice (lstI l), .int .i64 vars] h = some (.slice (lstLL (clausesI l vars)), h) := by
  obtain ⟨s, h', e1, e2⟩ := Clauses_body fuel d hv' hl hf AHeap.none
  refine pure_of rfl rfl (cc2 (canon_lstI 7 l) rfl) (by rw [e_skolemmake_Clauses]; exact e1) ?_
  have hg : Grown h' 1 s (gridC (clausesI l vars)) := e2.holds
  have hl2 := hg.len
  simp only [List.length_map, Nat.mul_one] at hl2
  rw [hg.freeze (n := 7) (by omega) (freeze_gridC 6 _), ← hl2]

theorem CNF_run (fuel d : Nat) {l : List Int} {vars : Int} (hv' : vars ≤ 1000000) (hl : l.length < 1000000) (hf : l.length < fuel) (h : AHeap) :
    run fuel (d + 4) F_skolemmake_CNF [.slice (lstI l), .int .i64 vars] h = some (.agg (cnfC vars (clausesI l vars)), h) := by
  refine pure_of rfl rfl (cc2 (canon_lstI 7 l) rfl) (r := .agg (cnfC vars (clausesI l vars))) (h' := ?_) ?_ (freeze_cnf 6 _ _)
  rotate_left
  · rw [e_skolemmake_CNF, Clauses_run fuel d hv' hl hf]
    rfl

end Go.Proofs.YtdkckkhghghhdaaDoor

namespace Go.Proofs.YtdkckkhghghhdaaDoor
open Go.RowKit

theorem isI_of {x v : Int} (h0 : x ≠ 0) (h1 : -v ≤ x) (h2 : x ≤ v) (hv : v ≤ 4000) : isI x v = true := by
  unfold isI
  rw [wrap64 (by omega) (by omega), decide_eq_false h0, decide_eq_true (show 0 - v ≤ x by omega), decide_eq_true h2]; rfl
theorem clauses_ok (l : List Int) {v : Int} (hv : 0 ≤ v) (hv1 : v ≤ 4000) (hl : l.length ≤ 100) : (clausesI l v).length ≤ 100 ∧ (∀ c ∈ clausesI l v, LnOk c ∧ ∀ x ∈ c, LitOk v x) ∧ totalI (clausesI l v) ≤ 100 := by
  obtain ⟨a1, a2, a3⟩ := clausesI_size l v
  refine ⟨by omega, fun c hc => ?_, by omega⟩
  have h1 := a3 c hc
  have h2 := clausesI_lits (vars := v) (by omega) l c hc
  exact ⟨⟨by omega, fun x hx => by have := h2 x hx; exact ⟨by omega, by omega⟩⟩, fun x hx => by
    obtain ⟨q1, q2, q3⟩ := h2 x hx
    exact ⟨q1, isI_of q1 q2 q3 hv1, by omega, by omega⟩⟩
end Go.Proofs.YtdkckkhghghhdaaDoor

namespace Go.Proofs.YtdkckkhghghhdaaDoor
open Go.RowKit

theorem keep0S {h h' : AHeap} (hk : Keeps h h' fun _ => False) {s : Sl} {sz : Nat} {cs : List AVal} (hs : h.sliceCells sz s = some cs) : h'.sliceCells sz s = some cs := sliceCells_keep hk hs fun _ _ _ h => h
theorem takeU {b : List UInt8} {m : Nat} (h : m < b.length) : b.take (m + 1) = b.take m ++ [b.getD m 0] := by
  rw [List.take_succ_eq_append_getElem h, List.getD_eq_getElem?_getD, List.getElem?_eq_getElem h, Option.getD_some]
theorem readU8 {h : AHeap} {t : Sl} {a : List UInt8} (hs : h.sliceCells 1 t = some (bytesC a)) {k : Nat} (hk : k < a.length) : h.addr 1 t (k : Int) = some (t.at 1 (k : Int)) ∧ h.cell (t.at 1 (k : Int)) = some (.int .u8 ((a.getD k 0).toNat : Int)) := by
  have hl := sliceCells_len hs
  simp only [List.length_map, Nat.mul_one] at hl
  refine ⟨addr_at hs (by omega) (by omega), cell_at hs (by omega) ?_⟩
  rw [Int.toNat_natCast, List.getElem?_map, List.getElem?_eq_getElem hk, List.getD_eq_getElem?_getD, List.getElem?_eq_getElem hk]; rfl
theorem byr_loop (fuel d : Nat) {a : List UInt8} {t : Sl} (hn : a.length < 1000000000) (ht : t.len = a.length) {h0 : AHeap} (hs0 : h0.sliceCells 1 t = some (bytesC a)) : ∀ (n k : Nat) (s : Sl) (h : AHeap), a.length < n + k → k ≤ a.length → Sep0 h0 h [.grown 1 s (bytesC (a.take k))] →
    ∃ s' h', l_skolemref_Bytes_0 fuel d n [(0, .slice t), (3, .slice s), (4, .int .i64 (k : Int))] h = some (.exit 0, [(3, .slice s')], h') ∧ Sep0 h0 h' [.grown 1 s' (bytesC a)] := by
  intro n
  induction n with
  | zero => intro k s h h1 h2; omega
  | succ n ih =>
    intro k s h h1 h2 hg
    have hl := hg.len (i := 0) rfl
    simp only [List.length_map, List.length_take, Nat.mul_one] at hl
    rw [l_skolemref_Bytes_0_eq, ht]
    by_cases hk : k < a.length
    · have hr := readU8 (keep0S hg.ext hs0) hk
      rw [bif_pos (by omega), hr.1, Option.bind_some, hr.2]
      simp only [Option.bind_some, int_int]
      obtain ⟨s', h', e1, e2, e3⟩ := hg.grow (i := 0) (bytes := 1) (m := 1) (vs := [.int .u8 ((a.getD k 0).toNat : Int)]) rfl rfl (by omega) (by omega)
      rw [e1]
      simp only [Option.bind_some]
      rw [sucU (by omega)]
      refine ih (k + 1) s' h' (by omega) (by omega) ?_
      rw [takeU hk]
      simpa using e2
    · have : k = a.length := by omega
      subst this
      rw [bif_neg (by omega)]
      rw [List.take_length] at hg
      exact ⟨s, h, rfl, hg⟩
theorem byr_run (fuel d : Nat) {a : List UInt8} {t : Sl} {h : AHeap} (hs : h.sliceCells 1 t = some (bytesC a)) (hn : a.length < 1000000000) (hf : a.length < fuel) :
    ∃ s' h', run fuel (d + 1) F_skolemref_Bytes [.slice t] h = some (.slice s', h') ∧ New h h' (.grown 1 s' (bytesC a)) := by
  have ht : t.len = a.length := by have := sliceCells_len hs; simp at this; omega
  have s0 := (Sep0.start h).addMake 1 (eqI (0 : Int) ((a.length : Nat) : Int))
  obtain ⟨s', h', e1, e2⟩ := byr_loop fuel d hn ht hs fuel 0 _ _ (by omega) (by omega) s0
  refine ⟨s', h', ?_, e2.get (i := 0) rfl⟩
  rw [e_skolemref_Bytes, ht, cond_pos _ _ (by simp; omega)]
  rw [show ((0 : Nat) : Int) = 0 from rfl] at e1
  rw [e1]
  simp only [Option.bind_some, k_skolemref_Bytes_0_x0]
end Go.Proofs.YtdkckkhghghhdaaDoor

namespace Go.Proofs.YtdkckkhghghhdaaDoor
open Go.RowKit

theorem dread_any (fuel d : Nat) {b : List UInt8} (hf : b.length + 40 ≤ fuel) (hb : b.length < 60000) {h : AHeap} {s : Sl} (hs : freezeV h 8 (.slice s) = some (.slice (lstU b))) : ∃ ids, run fuel (d + 8) F_dimacs_Read [.slice s] h = some (crA (rdC b), h.markRo ids) := by
  obtain ⟨v, h', e1, e2⟩ := dread_body fuel d hf hb
  exact run_any rfl rfl (mm1 hs) e1 e2
theorem errO_nil2 (o : Option (Int × Int)) : nilTest .iface (errO o) = some o.isNone := by
  cases o with
  | none => rfl
  | some cp => obtain ⟨c, p⟩ := cp; rfl
theorem gap_addr (h : AHeap) {m : Nat} (hm : m < 5) : h.addr 1 (Sl.lst 5 true [(.str (⟨#[32]⟩ : ByteArray)), (.str (⟨#[10]⟩ : ByteArray)), (.str (⟨#[9, 32]⟩ : ByteArray)), (.str (⟨#[10, 99, 32, 97, 110, 121, 32, 119, 111, 114, 100, 32, 48, 10]⟩ : ByteArray)), (.str (⟨#[13, 10]⟩ : ByteArray))]) (m : Int) = some (.fp 0 [.str (tx (gap5 m))]) := by
  match m, hm with
  | 0, _ => rfl
  | 1, _ => rfl
  | 2, _ => rfl
  | 3, _ => rfl
  | 4, _ => rfl
theorem gap_len (k : Nat) : (gap5 k).length ≤ 14 := by
  match k with
  | 0 => simp [gap5]
  | 1 => simp [gap5]
  | 2 => simp [gap5]
  | 3 => simp [gap5]
  | k + 4 => simp [gap5]
theorem tmod5 (g : Int) : ∃ m : Nat, Int.tmod (IntKind.wrap .i64 (Int.tmod g 5 + 5)) 5 = (m : Int) ∧ m < 5 ∧ (Int.tmod (Int.tmod g 5 + 5) 5).toNat = m := by
  have h1 : -5 < Int.tmod g 5 ∧ Int.tmod g 5 < 5 := ⟨Int.lt_tmod_of_pos g (by omega), Int.tmod_lt_of_pos g (by omega)⟩
  rw [wrap64 (by omega) (by omega)]
  have h2 : 0 ≤ Int.tmod (Int.tmod g 5 + 5) 5 := Int.tmod_nonneg 5 (by omega)
  have h3 : Int.tmod (Int.tmod g 5 + 5) 5 < 5 := Int.tmod_lt_of_pos _ (by omega)
  exact ⟨(Int.tmod (Int.tmod g 5 + 5) 5).toNat, by omega, by omega, rfl⟩
theorem blk_step (fuel d : Nat) {gaps : List Int} {W : List Wd} {x6 : Pt} (hg : 0 < gaps.length) (hg2 : gaps.length ≤ 100) (hW : W.length < 100000) (hw : ∀ w ∈ W, w.text.length ≤ 20) {h0 : AHeap} : ∀ (n k : Nat) (s : Sl) (t : List UInt8) (h : AHeap), W.length < n + k → k ≤ W.length → t.length + 40 * (W.length - k) < 600000000 → Sep0 h0 h [.grown 1 s (bytesC t)] →
    ∃ s' h', l_skolemlaw4_DimacsBlanks_0 fuel d n [(1, .slice (lstI gaps)), (5, .bool true), (6, .ptr x6), (7, .slice (lstW W)), (8, .slice s), (9, .int .i64 (k : Int))] h = some (.exit 0, [(5, .bool true), (6, .ptr x6), (8, .slice s')], h') ∧ Sep0 h0 h' [.grown 1 s' (bytesC (t ++ blT gaps (W.drop k) k))] := by
  intro n
  induction n with
  | zero => intro k s t h h1 h2; omega
  | succ n ih =>
    intro k s t h h1 h2 ht hs
    rw [l_skolemlaw4_DimacsBlanks_0_eq, len_lst]
    by_cases hk : k < W.length
    · have hd : W.drop k = W.getD k ⟨[], 0, false⟩ :: W.drop (k + 1) := by rw [List.drop_eq_getElem_cons hk]; simp [List.getD, hk]
      have hwl := hw (W.getD k ⟨[], 0, false⟩) (by simp [List.getD, hk])
      have a1 : ∀ h : AHeap, h.addr 3 (lstW W) (k : Int) = some (.fp 0 (wdC (W.getD k ⟨[], 0, false⟩))) := fun h => addr_lstN (sz := 3) (f := wdC) wdC_len (l := W) (j := (k : Int)) (by omega) (by omega) ⟨[], 0, false⟩ false
      rw [bif_pos (by omega), hd]
      generalize W.getD k ⟨[], 0, false⟩ = w at hwl a1
      -- the word
      have word : ∀ (u : List UInt8) (a : Sl) (g : AHeap), u.length ≤ 15 → u = preT gaps k → Sep0 h0 g [.grown 1 a (bytesC (t ++ u))] →
          ∃ s' h', k_skolemlaw4_DimacsBlanks_2 fuel d n .normal [(1, .slice (lstI gaps)), (5, .bool true), (6, .ptr x6), (7, .slice (lstW W)), (8, .slice a), (9, .int .i64 (k : Int))] g = some (.exit 0, [(5, .bool true), (6, .ptr x6), (8, .slice s')], h') ∧ Sep0 h0 h' [.grown 1 s' (bytesC (t ++ blT gaps (w :: W.drop (k + 1)) k))] := by
        intro u a g hu hup sg
        rw [k_skolemlaw4_DimacsBlanks_2_n, a1]
        simp only [Option.bind_some, wdC, field_fp, List.drop_zero, cell_fp, str_str]
        rw [tx_size, bytesOf_tx]
        obtain ⟨a2, g2, e2, s2⟩ := lit_append sg w.text (m := w.text.length) rfl (by simp; omega)
        rw [e2, Option.bind_some, sucU (by omega)]
        obtain ⟨s', h', e3, s3⟩ := ih (k + 1) a2 _ g2 (by omega) (by omega) (by simp; omega) s2
        refine ⟨s', h', e3, ?_⟩
        rw [blT, ← hup]
        simpa using s3
      -- the line's end behind the head
      have line : ∀ (u : List UInt8) (a : Sl) (g : AHeap), u.length ≤ 14 → u ++ (if k = 4 then [10] else []) = preT gaps k → Sep0 h0 g [.grown 1 a (bytesC (t ++ u))] →
          ∃ s' h', k_skolemlaw4_DimacsBlanks_1 fuel d n .normal [(1, .slice (lstI gaps)), (5, .bool true), (6, .ptr x6), (7, .slice (lstW W)), (8, .slice a), (9, .int .i64 (k : Int))] g = some (.exit 0, [(5, .bool true), (6, .ptr x6), (8, .slice s')], h') ∧ Sep0 h0 h' [.grown 1 s' (bytesC (t ++ blT gaps (w :: W.drop (k + 1)) k))] := by
        intro u a g hu hup sg
        rw [k_skolemlaw4_DimacsBlanks_1_n]
        by_cases h4 : k = 4
        · rw [if_pos h4] at hup
          rw [bif_pos (by omega), show [(AVal.int .u8 (10 : Int))] = bytesC [10] from rfl, lit_cells g [10] (n := 1) rfl, Option.bind_some, Sl.len]
          obtain ⟨a2, g2, e2, s2⟩ := lit_append (sg.junk (cs := bytesC [10])) [10] (m := 1) rfl (by simp; omega)
          rw [e2, Option.bind_some]
          exact word (u ++ [10]) a2 g2 (by simp; omega) hup (by rw [← List.append_assoc]; exact s2)
        · rw [if_neg h4, List.append_nil] at hup
          rw [bif_neg (by omega)]
          exact word u a g (by omega) hup sg
      by_cases h14 : 0 < k ∧ k < 4
      · have hc : (bif (decide ((0 : Int) < (k : Int))) then (decide ((k : Int) < (4 : Int))) else false) = true := by
          rw [decide_eq_true (show (0 : Int) < (k : Int) by omega), decide_eq_true (show (k : Int) < 4 by omega)]; rfl
        rw [hc, cond_true, show [(AVal.int .u8 (32 : Int))] = bytesC [32] from rfl, lit_cells h [32] (n := 1) rfl, Option.bind_some, Sl.len]
        obtain ⟨a2, g2, e2, s2⟩ := lit_append (hs.junk (cs := bytesC [32])) [32] (m := 1) rfl (by simp; omega)
        rw [e2]
        simp only [Option.bind_some]
        exact line [32] a2 g2 (by simp) (by unfold preT; rw [if_pos h14]) s2
      · have hc : (bif (decide ((0 : Int) < (k : Int))) then (decide ((k : Int) < (4 : Int))) else false) = false := by
          by_cases hk0 : 0 < k
          · rw [decide_eq_true (show (0 : Int) < (k : Int) by omega), cond_true, decide_eq_false (show ¬ (k : Int) < 4 by omega)]
          · rw [decide_eq_false (show ¬ (0 : Int) < (k : Int) by omega)]; rfl
        have hmod : Int.tmod (k : Int) (gaps.length : Int) = ((k % gaps.length : Nat) : Int) := tmodL k gaps.length
        have hlt : k % gaps.length < gaps.length := Nat.mod_lt _ hg
        obtain ⟨m, m1, m2, m3⟩ := tmod5 (gaps.getD (k % gaps.length) 0)
        rw [hc, cond_false, len_lst, bif_neg (by omega), hmod, addr_lstM _ (by omega) (by omega) 0, Int.toNat_natCast]
        simp only [Option.bind_some, cell_fp, int_int]
        rw [m1, gap_addr h m2]
        simp only [Option.bind_some, cell_fp, str_str]
        rw [tx_size, bytesOf_tx]
        obtain ⟨a2, g2, e2, s2⟩ := lit_append hs (gap5 m) (m := (gap5 m).length) rfl (by have := gap_len m; omega)
        rw [e2]
        simp only [Option.bind_some]
        exact line (gap5 m) a2 g2 (gap_len m) (by unfold preT gapK; rw [if_neg h14, m3]) s2
    · have : k = W.length := by omega
      subst this
      rw [bif_neg (by omega), List.drop_length]
      exact ⟨s, h, rfl, by simpa [blT] using hs⟩
theorem lines_len : ∀ (L : List (List Int)) (p : Nat) (f : Bool), (∀ c ∈ L, ∀ x ∈ c, Num64 x) → ∀ w ∈ wordsOf (linesT L) p f false, w.text.length ≤ 20
  | [], p, f, h, w, hw => by
    rw [show linesT [] = [] from rfl, W_nil] at hw
    cases hw
  | c :: L, p, f, h, w, hw => by
    obtain ⟨q, e1, _⟩ := W_line c (linesT L) p f
    rw [linesT_cons, e1] at hw
    rcases List.mem_append.1 hw with hw | hw
    · have key : ∀ (l : List Int) (p : Nat) (f : Bool), (∀ x ∈ l, Num64 x) → ∀ w ∈ numWs l p f, w.text.length ≤ 20 := by
        intro l
        induction l with
        | nil => intro p f _ w hw; cases hw
        | cons x l ih =>
          intro p f hx w hw
          rcases List.mem_cons.1 hw with rfl | hw
          · exact decT_len (hx x (List.mem_cons_self ..))
          · exact ih _ _ (fun y hy => hx y (List.mem_cons_of_mem _ hy)) w hw
      exact key c p f (h c (List.mem_cons_self ..)) w hw
    · rcases List.mem_cons.1 hw with rfl | hw
      · simp
      · exact lines_len L q true (fun d hd => h d (List.mem_cons_of_mem _ hd)) w hw
theorem lines_count : ∀ (L : List (List Int)) (p : Nat) (f : Bool), (wordsOf (linesT L) p f false).length = totalI L + L.length
  | [], p, f => by rw [show linesT [] = [] from rfl, W_nil]; rfl
  | c :: L, p, f => by
    obtain ⟨q, e1, _⟩ := W_line c (linesT L) p f
    have key : ∀ (l : List Int) (p : Nat) (f : Bool), (numWs l p f).length = l.length := by
      intro l
      induction l with
      | nil => intro p f; rfl
      | cons x l ih => intro p f; simp only [numWs, List.length_cons, ih]
    rw [linesT_cons, e1, List.length_append, List.length_cons, key, lines_count L q true]
    simp only [totalI, List.map_cons, List.sum_cons, List.length_cons]
    omega
theorem blT_len (gaps : List Int) : ∀ (ws : List Wd) (i : Nat), (∀ w ∈ ws, w.text.length ≤ 20) → (blT gaps ws i).length ≤ 35 * ws.length
  | [], _, _ => by simp [blT]
  | w :: ws, i, h => by
    have h1 := blT_len gaps ws (i + 1) fun v hv => h v (List.mem_cons_of_mem _ hv)
    have h2 := h w (List.mem_cons_self ..)
    have h3 := preT_len gaps i
    rw [blT, List.length_append, List.length_append, List.length_cons]
    omega
theorem dimacsBlanks_run (F d : Nat) (hF : 2 ^ 21 ≤ F) (l gaps : List Int) (h : AHeap) : ∃ h', run F (d + 60) F_skolemlaw4_DimacsBlanks [.slice (lstI l), .slice (lstI gaps)] h = some (.bool true, h') := by
  rw [e_skolemlaw4_DimacsBlanks, first4_run F (by omega) (by omega), len_lst, len_lst]
  simp only [Option.bind_some, bool_bool, Bool.not_true, cond_false]
  by_cases hg : 60 < l.length ∨ gaps.length = 0 ∨ 100 < gaps.length
  · have hc : (bif (bif (decide ((60 : Int) < (l.length : Int))) then true else (decide ((gaps.length : Int) = (0 : Int)))) then true else (decide ((100 : Int) < (gaps.length : Int)))) = true := by
      rcases hg with hg | hg | hg
      · rw [decide_eq_true (show (60 : Int) < (l.length : Int) by omega)]; rfl
      · rw [decide_eq_true (show (gaps.length : Int) = 0 by omega)]; cases decide ((60 : Int) < (l.length : Int)) <;> rfl
      · rw [decide_eq_true (show (100 : Int) < (gaps.length : Int) by omega)]; cases decide ((60 : Int) < (l.length : Int)) <;> cases decide ((gaps.length : Int) = (0 : Int)) <;> rfl
    rw [hc]
    exact ⟨h, rfl⟩
  have hc : (bif (bif (decide ((60 : Int) < (l.length : Int))) then true else (decide ((gaps.length : Int) = (0 : Int)))) then true else (decide ((100 : Int) < (gaps.length : Int)))) = false := by
    rw [decide_eq_false (show ¬ (60 : Int) < (l.length : Int) by omega), decide_eq_false (show ¬ (gaps.length : Int) = (0 : Int) by omega), decide_eq_false (show ¬ (100 : Int) < (gaps.length : Int) by omega)]; rfl
  have hn : Num64 9 := ⟨by omega, by omega⟩
  obtain ⟨q1, q2, q3⟩ := clauses_ok l (v := 9) (by omega) (by omega) (by omega)
  generalize hL : clausesI l 9 = L at q1 q2 q3
  have hln := linesT_len (L := L) (fun c hc => (q2 c hc).1) q3
  have hhl := headTx_len hn (show Num64 (L.length : Int) from ⟨by omega, by omega⟩)
  have hlen : (cnfTx 9 L).length ≤ 3000 := by
    unfold cnfTx
    rw [List.length_append]
    omega
  rw [hc, cond_false, CNF_run F (d + 55) (by omega) (by omega) (by omega), hL]
  simp only [Option.bind_some, agg_agg]
  rw [cond_pos _ _ (okC 9 L)]
  have s1 := (Sep0.start h).push 1 2 (cs := [(AVal.int .i64 (0 : Int)), (.slice Sl.nil)]) rfl
  obtain ⟨h5, e5, s5⟩ := s1.putAll (i := 0) (vs := cnfC 9 L) rfl rfl rfl
  rw [e5, Option.bind_some, s5.getAll (i := 0) rfl rfl, Option.bind_some, dB_run F (d + 52) (by omega) hn (by omega) (by omega) (fun c hc => (q2 c hc).1)]
  simp only [Option.bind_some, slice_slice]
  rw [split_run F (d + 56) (by omega) (by omega)]
  simp only [Option.bind_some, slice_slice]
  obtain ⟨r1, r2, r3⟩ := bl_read gaps (v := 9) (L := L) (by omega) (by omega) (by omega) (fun c hc => (q2 c hc).2)
  obtain ⟨p, q, eW⟩ := split_cnf (v := 9) L
  have hWl : ∀ w ∈ splitOf (cnfTx 9 L) true, w.text.length ≤ 20 := by
    rw [eW]
    intro w hw
    simp only [List.mem_cons] at hw
    rcases hw with rfl | rfl | rfl | rfl | hw
    · simp
    · simp
    · exact decT_len hn
    · exact decT_len (show Num64 (L.length : Int) from ⟨by omega, by omega⟩)
    · exact lines_len L q true (fun c hc x hx => ((q2 c hc).1.2 x hx)) w hw
  have hWn : (splitOf (cnfTx 9 L) true).length = 4 + (totalI L + L.length) := by
    rw [eW]
    simp only [List.length_cons, lines_count]
    omega
  generalize splitOf (cnfTx 9 L) true = W at r1 r2 r3 hWl hWn
  have hbl := blT_len gaps W 0 hWl
  rw [len_lst, bif_neg (by omega)]
  obtain ⟨t1, g1, f1, u1⟩ := blk_step F (d + 59) (x6 := .mk ⟨AHeap.next h, 0, 0⟩ 2) (gaps := gaps) (W := W) (by omega) (by omega) (by omega) hWl F 0 .nil [] h5 (by omega) (by omega) (by simp; omega) ((Sep0.start h5).addNil 1)
  rw [List.drop_zero, List.nil_append] at u1
  rw [show ((0 : Nat) : Int) = 0 from rfl] at f1
  rw [f1]
  simp only [Option.bind_some]
  generalize blT gaps W 0 = b at r1 r2 r3 hbl u1
  have k6 := u1.still.at_ _ _ _ (s5.getAll (i := 0) rfl rfl)
  have kb := (u1.sep.grown (i := 0) rfl).cells
  have tl := u1.len (i := 0) rfl
  simp only [List.length_map, Nat.mul_one] at tl
  have hb1 : 1 ≤ b.length := by
    rcases Nat.eq_zero_or_pos b.length with h0 | h0
    · have : b = [] := List.eq_nil_of_length_eq_zero h0
      rw [this] at r1
      have : (rdC []).2.2 = some (101, 0) := rfl
      rw [r1] at this
      cases this
    · exact h0
  rw [k_skolemlaw4_DimacsBlanks_0_x0]
  -- read once
  obtain ⟨ids1, f2⟩ := dread_any F (d + 51) (b := b) (by omega) (by omega) (bytes_fr u1)
  rw [f2, r1]
  simp only [crA, errO, Option.bind_some, tup2, comp0, comp1, cond_true, agg_agg]
  rw [cond_pos _ _ (okC 9 L)]
  have sA := (Sep0.start (g1.markRo ids1)).push 1 2 (cs := [(AVal.int .i64 (0 : Int)), (.slice Sl.nil)]) rfl
  obtain ⟨g2, f3, sB⟩ := sA.putAll (i := 0) (vs := cnfC 9 L) rfl rfl rfl
  rw [f3, Option.bind_some]
  have st1 : Still g1 g2 := (Still.mark g1 ids1).trans sB.still
  -- with more behind it
  obtain ⟨t2, g3, f4, n4⟩ := byr_run F (d + 58) (st1.cells _ _ _ kb) (by omega) (by omega)
  rw [f4]
  simp only [Option.bind_some, slice_slice]
  have sC := (Sep0.start g2).add n4
  obtain ⟨t3, g4, f5, sD⟩ := lit_append sC [32, 49, 32, 48] (m := 4) rfl (by simp; omega)
  have f5' : AHeap.append g3 false 1 1 t2 (ByteArray.size (⟨#[32, 49, 32, 48]⟩ : ByteArray)) (bytesOf (⟨#[32, 49, 32, 48]⟩ : ByteArray)) = some (t3, g4) := f5
  rw [f5', Option.bind_some]
  obtain ⟨ids2, f6⟩ := dread_any F (d + 51) (b := b ++ [32, 49, 32, 48]) (by simp; omega) (by simp; omega) (bytes_fr sD)
  obtain ⟨c2, p2, r2⟩ := r2
  rw [f6, r2]
  simp only [crA, Option.bind_some, tup2, comp0, comp1, cond_true, agg_agg]
  rw [cond_pos _ _ (okC 0 [])]
  have sE := (Sep0.start (g4.markRo ids2)).push 1 2 (cs := [(AVal.int .i64 (0 : Int)), (.slice Sl.nil)]) rfl
  obtain ⟨g5, f7, sF⟩ := sE.putAll (i := 0) (vs := cnfC 0 []) rfl rfl rfl
  rw [f7, Option.bind_some]
  have st2 : Still g2 g5 := (sD.still).trans ((Still.mark g4 ids2).trans sF.still)
  -- with less
  have hsub : IntKind.wrap .i64 ((t1.len : Int) - 1) = ((b.length - 1 : Nat) : Int) := by rw [wrap64 (by omega) (by omega)]; omega
  rw [hsub, aHi_some (by omega) (by omega), Option.bind_some, aLo_none, Option.bind_some, aMx_none, Option.bind_some, hasSzU ((st1.trans st2).cells _ _ _ kb) (by omega), cond_true, Int.toNat_natCast]
  obtain ⟨ids3, f8⟩ := dread_any F (d + 51) (b := b.take (b.length - 1)) (by simp; omega) (by simp; omega) (cutU ((st1.trans st2).cells _ _ _ kb) (Nat.sub_le _ _))
  have hr3 : ∃ v3 l3 o3, rdC (b.take (b.length - 1)) = (v3, l3, o3) ∧ (L ≠ [] → o3 ≠ none) := by
    by_cases hLn : L = []
    · exact ⟨_, _, _, rfl, fun h => absurd hLn h⟩
    · obtain ⟨c3, p3, e⟩ := r3 hLn
      exact ⟨_, _, _, e, fun _ h => by cases h⟩
  obtain ⟨v3, l3, o3, e3, ho3⟩ := hr3
  rw [f8, e3]
  simp only [crA, Option.bind_some, tup2, comp0, comp1, cond_true, agg_agg]
  rw [cond_pos _ _ (okC v3 l3)]
  have sG := (Sep0.start (g5.markRo ids3)).push 1 2 (cs := [(AVal.int .i64 (0 : Int)), (.slice Sl.nil)]) rfl
  obtain ⟨g6, f9, sH⟩ := sG.putAll (i := 0) (vs := cnfC v3 l3) rfl rfl rfl
  have st3 : Still g5 g6 := (Still.mark g5 ids3).trans sH.still
  rw [f9, Option.bind_some]
  have j1 := (st2.trans st3).at_ _ _ _ (sB.getAll (i := 0) rfl rfl)
  have j6 := ((st1.trans st2).trans st3).at_ _ _ _ k6
  simp only [beq_self_eq_true, cond_true, nilTest_nilif, Option.bind_some, bool_bool, j1, j6]
  rw [sameCNF_run F (d + 56) 9 (by omega) (by omega) (fun s hs => by have := (q2 s hs).1.1; omega)]
  have c6 : g6.cell (.mk ⟨AHeap.next h, 0, 0 + 1⟩ 2) = some (.slice (lstLL L)) := ((st1.trans st2).trans st3).cell _ _ (u1.still.cell _ _ (s5.part (i := 0) rfl (by omega) rfl))
  simp only [Option.bind_some, bool_bool, beq_self_eq_true, cond_true, errO_nil2, Option.isNone_some, Bool.not_false, field_mk, c6, slice_slice]
  rw [len_lst]
  cases o3 with
  | none =>
    have hLn : L = [] := Classical.byContradiction fun h => ho3 h rfl
    subst hLn
    exact ⟨_, rfl⟩
  | some z => exact ⟨_, rfl⟩
end Go.Proofs.YtdkckkhghghhdaaDoor
