/-
  Places of the words of a text.
-/
import Derived.Test.YthccobceodgmlaaW4
namespace Go.Proofs.Ythccobceodgmlaa
open Go.RowKit

/-- A new row of cells, all written over. -/
theorem fill_new (h : AHeap) {n : Nat} {cs vs : List AVal} (hc : cs.length = n) (hv : vs.length = n) :
    ∃ h', (h.push 1 cs).storeAt vs (.mk ⟨h.rows.length, 0, 0⟩ n) = some h' ∧ Own h' 1 h.rows.length 0 n vs ∧ Ext h h' := by
  have ho : AHeap.overlay cs 0 vs = vs := by
    unfold AHeap.overlay
    rw [List.take_zero, List.nil_append, List.drop_eq_nil_of_le (by omega), List.append_nil]
  refine ⟨(h.push 1 cs).setRow h.rows.length { cells := vs, sz := 1 }, ?_, ⟨⟨{ cells := vs, sz := 1 }, ?_, rfl, rfl, Nat.le_refl _, rfl, rfl⟩, by omega⟩, ?_⟩
  · have h1 : (h.push 1 cs).rows[h.rows.length]? = some { cells := cs, sz := 1 } := by simp [AHeap.push]
    have hle : 0 + vs.length ≤ n := by omega
    have hle2 : 0 + vs.length ≤ cs.length := by omega
    simp only [AHeap.storeAt, ble_eq, hle, decide_true, cond_true, AHeap.store, h1, Bool.not_false, beq_eq, Bool.and_self, hle2, ho]
  · simp [AHeap.setRow, AHeap.push]
  · exact Keeps.toNew (Keeps.push h 1 cs _) (Keeps.setRow _ _ _) fun i hi => by subst hi; exact Nat.le_refl _

theorem Own.cellAt {h : AHeap} {id gen n : Nat} {cs : List AVal} (ho : Own h 1 id gen n cs) {o l : Nat} (hl : o < l) : h.cell (.mk ⟨id, gen, o⟩ l) = cs[o]? := by
  obtain ⟨⟨row, h1, rfl, rfl, h4, _⟩, _⟩ := ho
  exact cell_row h1 h4 (Nat.le_refl _) hl

theorem wdsC_take : ∀ {l : List Wd} {m : Nat} {p : Wd}, l[m]? = some p → ((wdsC l).drop (m * 3)).take 3 = wdC p
  | [], m, p, h => by simp at h
  | q :: l, 0, p, h => by
    simp at h
    subst h
    rfl
  | q :: l, m + 1, p, h => by
    have ec : wdsC (q :: l) = .str ⟨q.text.toArray⟩ :: .int .i64 (q.pos : Int) :: .bool q.first :: wdsC l := rfl
    rw [ec, show (m + 1) * 3 = m * 3 + 1 + 1 + 1 by omega]
    simp only [List.drop_succ_cons]
    exact wdsC_take (by simpa using h)

theorem isW_false {x : UInt8} (h : isW x = false) : (x.toNat : Int) = 32 ∨ (x.toNat : Int) = 9 ∨ (x.toNat : Int) = 13 ∨ (x.toNat : Int) = 10 := by
  unfold isW kindI at h
  by_cases h1 : (x.toNat : Int) = 32 ∨ (x.toNat : Int) = 9 ∨ (x.toNat : Int) = 13
  · omega
  · rw [if_neg h1] at h
    by_cases h2 : (x.toNat : Int) = 10
    · omega
    · rw [if_neg h2] at h
      simp at h
theorem isW_true {x : UInt8} (h : isW x = true) : ¬ (x.toNat : Int) = 32 ∧ ¬ (x.toNat : Int) = 9 ∧ ¬ (x.toNat : Int) = 13 ∧ ¬ (x.toNat : Int) = 10 := by
  unfold isW kindI at h
  by_cases h1 : (x.toNat : Int) = 32 ∨ (x.toNat : Int) = 9 ∨ (x.toNat : Int) = 13
  · rw [if_pos h1] at h; simp at h
  · rw [if_neg h1] at h
    by_cases h2 : (x.toNat : Int) = 10
    · rw [if_pos h2] at h; simp at h
    · omega

theorem ft : (false == true) = false := rfl
theorem tf : (true == false) = false := rfl

theorem u8_int (x c : UInt8) (n : Int) (hc : (c.toNat : Int) = n) : decide ((x.toNat : Int) = n) = (x == c) := by
  rw [Bool.eq_iff_iff, beq_iff_eq, decide_eq_true_eq, ← hc, ← UInt8.toNat_inj]
  omega

theorem gap_loop (fuel d : Nat) {h : AHeap} {s s4 : Sl} {b : List UInt8} {x6 x7 : Int} {p p1 : Pt} {pos : Nat} (hs : h.sliceCells 1 s = some (bytesC b)) (hb : b.length ≤ 300) (hp : pos ≤ b.length) (e1 : Pt.field 1 p = some p1) (e2 : h.cell p1 = some (.int .i64 (pos : Int))) : ∀ (n k : Nat) (f : Bool), pos < n + k → k ≤ pos → (∀ x ∈ part b k pos, isW x = false) →
    l7_2 fuel d n [(0, .slice s), (3, .bool true), (4, .slice s4), (6, .int .i64 x6), (7, .int .i64 x7), (8, .ptr p), (9, .bool f), (10, .int .i64 (k : Int))] h =
      some (.exit 2, [(0, .slice s), (2, .bot), (3, .bool true), (4, .slice s4), (6, .int .i64 x6), (7, .int .i64 x7), (8, .ptr p), (9, .bool (f || (part b k pos).any (· == 10)))], h) := by
  intro n
  induction n with
  | zero => intro k f h1 h2; omega
  | succ n ih =>
    intro k f h1 h2 hall
    rw [l7_2_eq]
    simp only [e1, Option.bind_some, e2, int_int]
    by_cases hk : k < pos
    · obtain ⟨r1, r2⟩ := readU hs (show k < b.length by omega)
      rw [part_cons hk hp] at hall ⊢
      have hw := hall _ (List.mem_cons_self ..)
      have hi := ih (k + 1) (f || (b.getD k 0 == 10)) (by omega) (by omega) fun x hx => hall x (List.mem_cons_of_mem _ hx)
      have h10 : decide (((b.getD k 0).toNat : Int) = 10) = (b.getD k 0 == 10) := u8_int _ 10 10 rfl
      rw [List.any_cons, ← Bool.or_assoc, ← hi, ← h10]
      rw [bif_pos (by omega), succU (by omega)]
      rcases isW_false hw with hh | hh | hh | hh <;> cases f <;>
        simp only [r1, r2, Option.bind_some, int_int, bool_bool, hh, decide_true, decide_false, Bool.not_true, Bool.not_false, beq_self_eq_true, ft, tf, cond_true, cond_false, Bool.false_or, Bool.true_or, show ¬ (32 : Int) = 9 by omega, show ¬ (32 : Int) = 13 by omega, show ¬ (32 : Int) = 10 by omega, show ¬ (9 : Int) = 32 by omega, show ¬ (9 : Int) = 13 by omega, show ¬ (9 : Int) = 10 by omega, show ¬ (13 : Int) = 32 by omega, show ¬ (13 : Int) = 9 by omega, show ¬ (13 : Int) = 10 by omega, show ¬ (10 : Int) = 32 by omega, show ¬ (10 : Int) = 9 by omega, show ¬ (10 : Int) = 13 by omega]
    · have : k = pos := by omega
      subst this
      rw [bif_neg (by omega), part_self]
      simp

theorem count_loop (fuel d : Nat) {h : AHeap} {s : Sl} {b : List UInt8} (hs : h.sliceCells 1 s = some (bytesC b)) (hb : b.length ≤ 300) : ∀ (n k : Nat), b.length < n + k → k ≤ b.length →
    l7_1 fuel d n [(0, .slice s), (3, .bool true), (6, .int .i64 (((b.drop k).countP isW : Nat) : Int)), (11, .int .i64 (k : Int))] h = some (.exit 4, [(3, .bool true), (6, .int .i64 0)], h) := by
  have hsl : s.len = b.length := by have := sliceCells_len hs; simp at this; omega
  intro n
  induction n with
  | zero => intro k h1 h2; omega
  | succ n ih =>
    intro k h1 h2
    rw [l7_1_eq, hsl]
    by_cases hk : k < b.length
    · obtain ⟨r1, r2⟩ := readU hs hk
      have hi := ih (k + 1) (by omega) (by omega)
      have hcl : (b.drop (k + 1)).countP isW ≤ 300 := Nat.le_trans (List.countP_le_length) (by simp; omega)
      rw [bif_pos (by omega), drop_cons hk, List.countP_cons]
      generalize (b.drop (k + 1)).countP isW = c at hcl hi ⊢
      by_cases hw : isW (b.getD k 0) = true
      · obtain ⟨g1, g2, g3, g4⟩ := isW_true hw
        rw [if_pos hw, show ((c + 1 : Nat) : Int) - 1 = (c : Int) by omega, wrap64 (n := (c : Int)) (by omega) (by omega), succU (by omega)]
        simp only [r1, r2, Option.bind_some, int_int, bool_bool, g1, g2, g3, g4, decide_false, Bool.not_false, beq_self_eq_true, cond_true]
        exact hi
      · rw [if_neg hw, succU (by omega)]
        rw [Bool.not_eq_true] at hw
        rw [Nat.add_zero]
        rcases isW_false hw with hh | hh | hh | hh <;>
          simp only [r1, r2, Option.bind_some, int_int, bool_bool, hh, decide_true, decide_false, Bool.not_true, Bool.not_false, beq_self_eq_true, ft, tf, cond_true, cond_false, hi, show ¬ (9 : Int) = 32 by omega, show ¬ (13 : Int) = 32 by omega, show ¬ (13 : Int) = 9 by omega, show ¬ (10 : Int) = 32 by omega, show ¬ (10 : Int) = 9 by omega, show ¬ (10 : Int) = 13 by omega]
    · have : k = b.length := by omega
      subst this
      rw [bif_neg (by omega), List.drop_length]
      rfl

theorem sz_mk (l : List UInt8) : ByteArray.size ⟨l.toArray⟩ = l.length := by simp [ByteArray.size]

theorem cnt_to {b : List UInt8} {w : Wd} {k : Nat} (h1 : k ≤ w.pos) (_ : w.pos + w.text.length ≤ b.length) (h3 : part b w.pos (w.pos + w.text.length) = w.text) (h4 : ∀ x ∈ w.text, isW x = true) (h5 : ∀ x ∈ part b k w.pos, isW x = false) :
    (part b 0 (w.pos + w.text.length)).countP isW = (part b 0 k).countP isW + w.text.length := by
  rw [part_app (k := 0) (e := k) (by omega) (by omega), part_app (k := k) (e := w.pos) (by omega) (by omega), h3, List.countP_append, List.countP_append]
  have z : (part b k w.pos).countP isW = 0 := List.countP_eq_zero.2 fun x hx => by simp [h5 x hx]
  rw [List.countP_eq_length.2 h4, z]
  omega

theorem words_loop (fuel d : Nat) {s s4 : Sl} {b : List UInt8} {ws : List Wd} {f' : Bool} (hb : b.length ≤ 300) (hf : 400 ≤ fuel) (hwl : ws.length ≤ 300) : ∀ (l : List Wd) (n m k : Nat) (h : AHeap), ws.drop m = l → l.length < n → m ≤ ws.length →
    h.sliceCells 1 s = some (bytesC b) → h.sliceCells 3 s4 = some (wdsC ws) → Seg b k (decide (m = 0)) l b.length f' →
    ∃ h', l7_0 fuel d n [(0, .slice s), (3, .bool true), (4, .slice s4), (5, .int .i64 (k : Int)), (6, .int .i64 (((part b 0 k).countP isW : Nat) : Int)), (7, .int .i64 (m : Int))] h =
      some (.exit 0, [(0, .slice s), (2, .bot), (3, .bool true), (6, .int .i64 ((b.countP isW : Nat) : Int))], h') ∧ h'.sliceCells 1 s = some (bytesC b) := by
  intro l
  induction l with
  | nil =>
    intro n m k h hd hn hm hs h4 hseg
    obtain ⟨n, rfl⟩ : ∃ m, n = m + 1 := ⟨n - 1, by simp at hn; omega⟩
    have h4l : s4.len = ws.length := by have := sliceCells_len h4; rw [wdsC_len] at this; omega
    have hmw : m = ws.length := by
      have := congrArg List.length hd
      simp at this; omega
    obtain ⟨g1, g2, g3, g4⟩ := hseg
    have hc : b.countP isW = (part b 0 k).countP isW := by
      conv => lhs; rw [← part_all b]
      have z : (part b k b.length).countP isW = 0 := List.countP_eq_zero.2 fun x hx => by simp [g3 x hx]
      rw [part_app (k := 0) (e := k) (by omega) g1, List.countP_append, z]
      omega
    refine ⟨h, ?_, hs⟩
    rw [l7_0_eq, h4l, bif_neg (by omega), hc]
  | cons w l ih =>
    intro n m k h hd hn hm hs h4 hseg
    obtain ⟨n, rfl⟩ : ∃ m, n = m + 1 := ⟨n - 1, by simp at hn; omega⟩
    have h4l : s4.len = ws.length := by have := sliceCells_len h4; rw [wdsC_len] at this; omega
    have hsl : s.len = b.length := by have := sliceCells_len hs; simp at this; omega
    have hmlt : m < ws.length := by
      have := congrArg List.length hd
      simp at this; omega
    have hget : ws[m]? = some w := by
      have := congrArg (fun x => x[0]?) hd
      simp only [List.getElem?_drop, Nat.add_zero, List.getElem?_cons_zero] at this
      exact this
    have hd2 : ws.drop (m + 1) = l := by
      have := congrArg (List.drop 1) hd
      simpa [List.drop_drop] using this
    obtain ⟨g1, g2, g3, g4, g5, g6, g7, g8⟩ := hseg
    have hpos : 0 < w.text.length := List.length_pos_iff.2 g1
    have hca := cellsAt_at h4 (j := (m : Int)) (by omega) (by omega)
    rw [Int.toNat_natCast, wdsC_take hget] at hca
    have had := addr_at h4 (j := (m : Int)) (by omega) (by omega)
    obtain ⟨h3, f1, f2, f3⟩ := fill_new h (n := 3) (cs := [(AVal.str (⟨#[]⟩ : ByteArray)), (AVal.int .i64 (0 : Int)), (AVal.bool false)]) (vs := wdC w) rfl rfl
    have c0 : h3.cell (.mk ⟨h.rows.length, 0, 0⟩ 3) = some (.str ⟨w.text.toArray⟩) := f2.cellAt (by omega)
    have c1 : h3.cell (.mk ⟨h.rows.length, 0, 1⟩ 3) = some (.int .i64 (w.pos : Int)) := f2.cellAt (by omega)
    have c2 : h3.cell (.mk ⟨h.rows.length, 0, 2⟩ 3) = some (.bool w.first) := f2.cellAt (by omega)
    have hs3 := sliceCells_ext f3 hs
    have h43 := sliceCells_ext f3 h4
    have hhas : h3.hasSz 1 s = true := hasSz_of hs3 (by omega)
    obtain ⟨cc, _⟩ := cut_bytes hs3 (lb := w.pos) (hb := w.pos + w.text.length) (by omega) g3 false
    have cc : h3.sliceCells 1 (s.cut 1 w.pos (w.pos + w.text.length) false) = some (bytesC w.text) := by rw [cc]; exact congrArg (fun x => some (bytesC x)) g4
    have a1 : aHi (some (.int .i64 ((w.pos + w.text.length : Nat) : Int))) b.length = some (w.pos + w.text.length) := by rw [aHi_some (by omega) (by omega), Int.toNat_natCast]
    have a2 : aLo (some (.int .i64 (w.pos : Int))) (w.pos + w.text.length) = some w.pos := by rw [aLo_some (by omega) (by omega), Int.toNat_natCast]
    have w1 : IntKind.wrap .i64 ((w.pos : Int) + ((w.text.length : Nat) : Int)) = ((w.pos + w.text.length : Nat) : Int) := by rw [wrap64 (by omega) (by omega)]; omega
    have w2 : IntKind.wrap .i64 ((b.length : Int) - (w.pos : Int)) = (b.length : Int) - (w.pos : Int) := wrap64 (by omega) (by omega)
    have hgap := gap_loop fuel d (s4 := s4) (x6 := (((part b 0 k).countP isW : Nat) : Int)) (x7 := (m : Int)) (p := .mk ⟨h.rows.length, 0, 0⟩ 3) (p1 := .mk ⟨h.rows.length, 0, 1⟩ 3) (pos := w.pos) hs3 hb (by omega) rfl c1 fuel k (decide (m = 0)) (by omega) g2 g6
    have hcnt := cnt_to g2 g3 g4 g5 g6
    have hcl : (part b 0 (w.pos + w.text.length)).countP isW ≤ 300 := Nat.le_trans (List.countP_le_length) (by rw [part_len (by omega) g3]; omega)
    have w3 : IntKind.wrap .i64 ((((part b 0 k).countP isW : Nat) : Int) + ((w.text.length : Nat) : Int)) = (((part b 0 (w.pos + w.text.length)).countP isW : Nat) : Int) := by rw [wrap64 (by omega) (by omega), hcnt]; omega
    obtain ⟨h', q1, q2⟩ := ih n (m + 1) (w.pos + w.text.length) h3 hd2 (by simp at hn; omega) (by omega) hs3 h43 (by rw [decide_eq_false (by omega)]; exact g8)
    refine ⟨h', ?_, q2⟩
    have hdm : decide ((m : Int) = 0) = decide (m = 0) := by
      by_cases h0 : m = 0
      · subst h0; rfl
      · rw [decide_eq_false h0, decide_eq_false (by omega)]
    have htup : (!false && Nat.beq (List.length (wdC w)) 3 && List.all (wdC w) AVal.isCell) = true := rfl
    rw [l7_0_eq, h4l, hsl, bif_pos (by omega), had]
    simp only [Option.bind_some, hca]
    rw [htup]
    simp only [cond_true, next_len, f1, Option.bind_some, field_mk, Nat.zero_add, c0, c1, str_str, int_int]
    rw [sz_mk, bif_neg (by omega), bif_neg (by omega), bif_neg (by omega), w2, bif_neg (by omega), w1, a1]
    simp only [Option.bind_some, a2, aMx_none, hhas, cond_true, cc, bytesFrom_bytesC]
    simp only [decide_true, Bool.not_true, k7_1_n, cond_false, hdm, hgap, Option.bind_some, k7_3_x2, field_mk, Nat.zero_add, c2, bool_bool, ← g7, beq_self_eq_true, c1, int_int, c0, str_str]
    rw [sz_mk, w1, w3, succU (by omega)]
    exact q1

theorem splitGo_len {b : List UInt8} {c : Bool} : ∀ (n k : Nat), (splitGo b c n k).length ≤ b.length - k
  | 0, k => by simp [splitGo]
  | n + 1, k => by
    simp only [splitGo]
    split
    · have h1 := splitGo_len (b := b) (c := c) n (k + nlOf b k + 1)
      have hnl := nlOf_le (b := b) (at_ := k) (by omega)
      have h2 : (lineOf ((b.drop k).take (nlOf b k)) k).length ≤ nlOf b k := by
        have := lineGo_len (b := (b.drop k).take (nlOf b k)) (at_ := k) (((b.drop k).take (nlOf b k)).length + 1) 0 true
        have hll : ((b.drop k).take (nlOf b k)).length ≤ nlOf b k := List.length_take_le _ _
        unfold lineOf
        omega
      rw [List.length_append]
      split
      · omega
      · simp only [List.length_nil]; omega
    · simp

theorem law7 (fuel d : Nat) {h : AHeap} {s : Sl} {b : List UInt8} (hs : h.sliceCells 1 s = some (bytesC b)) (hf : 400 ≤ fuel) :
    ∃ h', run fuel (d + 5) 7 [.slice s] h = some (.bool true, h') := by
  have hsl : s.len = b.length := by have := sliceCells_len hs; simp at this; omega
  obtain ⟨h1, e1, x1⟩ := first36 fuel d h (by omega)
  rw [e7]
  simp only [e1, Option.bind_some, bool_bool, Bool.not_true, cond_false]
  rw [hsl]
  by_cases hl : b.length ≤ 300
  · rw [bif_neg (by omega)]
    obtain ⟨t, h2, e2, x2, f2, g2⟩ := split37 fuel (d + 1) false (sliceCells_ext x1 hs) (by omega) (by omega)
    have hwl : (splitOf b false).length ≤ 300 := by
      have := splitGo_len (b := b) (c := false) (b.length + 1) 0
      unfold splitOf
      omega
    obtain ⟨f', hseg⟩ := splitOf_seg b
    obtain ⟨h3, e3, s3⟩ := words_loop fuel (d + 4) (s := s) (s4 := t) (ws := splitOf b false) hl hf hwl (splitOf b false) fuel 0 0 h2 rfl (by omega) (by omega) (sliceCells_ext x2 (sliceCells_ext x1 hs)) g2.cells hseg
    rw [show ((0 : Nat) : Int) = 0 from rfl, show (part b 0 0).countP isW = 0 from by rw [part_self]; rfl, show ((0 : Nat) : Int) = 0 from rfl] at e3
    have e4 := count_loop fuel (d + 4) s3 hl fuel 0 (by omega) (by omega)
    rw [show ((0 : Nat) : Int) = 0 from rfl, List.drop_zero] at e4
    simp only [e2, Option.bind_some, slice_slice, e3, k7_0_x0, e4, k7_2_x4]
    exact ⟨h3, rfl⟩
  · rw [bif_pos (by omega)]
    exact ⟨_, rfl⟩

end Go.Proofs.Ythccobceodgmlaa
