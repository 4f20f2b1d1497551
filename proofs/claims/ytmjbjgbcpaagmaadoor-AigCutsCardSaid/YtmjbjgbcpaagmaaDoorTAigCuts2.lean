/-
  Parts of the proof of AigCuts: Circuits in few bytes: what is read, what is written (no program in sight). Numbers in bytes: aig.number, skolemref8.small. aag.Bytes. slices.Concat of bytes; aig.Bytes. A number is put behind bytes. Numbers as text: AppendInt, Itoa. skolemref8.numbers, AagBytes. skolemref8.AagBytes. aig.Bytes whole; skolemref8.AigBytes. The lines of a text: word.Line. What is there still, behind calls. aig's reader: line, number. aig's reader: gates, head. aig.Read. skolemlaw12.first. skolemworld.Number. skolemmake.Circuit. Bytes held against themselves. Bytes held against bytes. AigCuts.
-/
import Derived.Test.YtmjbjgbcpaagmaaDoorTAigCuts1
import Derived.Test.YtmjbjgbcpaagmaaDoorE
namespace Go.Proofs.YtmjbjgbcpaagmaaDoor
open Go.RowKit

/-! numbers in bytes -/
def smallB : Nat → Nat → List UInt8
  | 0, _ => []
  | f + 1, n => if n < 128 then [UInt8.ofNat n] else UInt8.ofNat (n % 128 + 128) :: smallB f (n / 128)
def smB (n : Nat) : List UInt8 := smallB 10 n
def numT : Nat → Nat → Nat → List UInt8 → Option (Nat × Nat)
  | 0, _, _, _ => none
  | _ + 1, _, _, [] => none
  | f + 1, i, m, c :: r => if 128 ≤ c.toNat then numT f (i + 1) (m + c.toNat % 128 * 128 ^ i) r else some (m + c.toNat % 128 * 128 ^ i, i + 1)
theorem numT_small : ∀ (f g i m n : Nat) (r : List UInt8), n < 128 ^ f → n < 128 ^ g → 0 < f → 0 < g → numT f i m (smallB g n ++ r) = some (m + n * 128 ^ i, i + (smallB g n).length)
  | 0, g, i, m, n, r, h1, h2, h3, h4 => by omega
  | f + 1, 0, i, m, n, r, h1, h2, h3, h4 => by omega
  | f + 1, g + 1, i, m, n, r, h1, h2, h3, h4 => by
    unfold smallB
    by_cases hn : n < 128
    · rw [if_pos hn]
      have hc : (UInt8.ofNat n).toNat = n := by rw [UInt8.toNat_ofNat']; omega
      simp only [List.cons_append, List.nil_append, numT, hc]
      rw [if_neg (by omega), Nat.mod_eq_of_lt hn]
      rfl
    · rw [if_neg hn]
      have hc : (UInt8.ofNat (n % 128 + 128)).toNat = n % 128 + 128 := by rw [UInt8.toNat_ofNat']; omega
      have hm : (n % 128 + 128) % 128 = n % 128 := by omega
      rw [Nat.pow_succ] at h1 h2
      have f0 : 0 < f := by
        rcases Nat.eq_zero_or_pos f with h | h
        · subst h; simp at h1; omega
        · exact h
      have g0 : 0 < g := by
        rcases Nat.eq_zero_or_pos g with h | h
        · subst h; simp at h2; omega
        · exact h
      simp only [List.cons_append, numT, hc, hm, List.length_cons]
      rw [if_pos (by omega), numT_small f g (i + 1) _ (n / 128) r (by omega) (by omega) f0 g0, Nat.pow_succ]
      have : n % 128 * 128 ^ i + n / 128 * (128 ^ i * 128) = n * 128 ^ i := by
        rw [Nat.mul_comm (128 ^ i) 128, ← Nat.mul_assoc, ← Nat.add_mul]
        congr 1
        omega
      rw [Nat.add_assoc, this, Nat.add_assoc, Nat.add_comm 1]
theorem numT_cut : ∀ (f g i m n j : Nat), j < (smallB g n).length → numT f i m ((smallB g n).take j) = none
  | 0, g, i, m, n, j, h => rfl
  | f + 1, 0, i, m, n, j, h => by simp [smallB] at h
  | f + 1, g + 1, i, m, n, 0, h => by rw [List.take_zero]; rfl
  | f + 1, g + 1, i, m, n, j + 1, h => by
    unfold smallB at h ⊢
    by_cases hn : n < 128
    · rw [if_pos hn] at h; simp at h
    · rw [if_neg hn] at h ⊢
      have hc : (UInt8.ofNat (n % 128 + 128)).toNat = n % 128 + 128 := by rw [UInt8.toNat_ofNat']; omega
      simp only [List.take_succ_cons, numT, hc]
      rw [if_pos (by omega)]
      exact numT_cut f g (i + 1) _ (n / 128) j (by simpa using h)
theorem smallB_len : ∀ (f n : Nat), (smallB f n).length ≤ f
  | 0, n => by simp [smallB]
  | f + 1, n => by
    unfold smallB
    have := smallB_len f (n / 128)
    split <;> simp <;> omega
/-- a number from a least to a greatest one, and its length -/
def delG (r : List UInt8) (lo hi : Int) : Option (Int × Nat) := (numT 5 0 0 r).bind fun p => if lo ≤ (p.1 : Int) ∧ (p.1 : Int) ≤ hi then some ((p.1 : Int), p.2) else none
theorem delG_small {n : Nat} {lo hi : Int} (h : n < 34359738368) (h0 : lo ≤ n) (h1 : (n : Int) ≤ hi) (r : List UInt8) : delG (smB n ++ r) lo hi = some ((n : Int), (smB n).length) := by
  unfold delG smB
  rw [numT_small 5 10 0 0 n r (by omega) (by omega) (by omega) (by omega)]
  simp only [Option.bind_some, Nat.zero_add, Nat.pow_zero, Nat.mul_one]
  rw [if_pos ⟨h0, h1⟩]
theorem delG_cut {n j : Nat} (lo hi : Int) (h : j < (smB n).length) : delG ((smB n).take j) lo hi = none := by
  unfold delG smB
  rw [numT_cut 5 10 0 0 n j h]
  rfl

/-! lines -/
/-- the words of the line that begins here, if it has so many, and its length with its end -/
def lnT (r : List UInt8) (many : Nat) : Option (List (List UInt8) × Nat) :=
  if Lib.indexByte r 10 < 0 then none else
    let w := (splitOf (r.take (Lib.indexByte r 10).toNat) false).map (·.text)
    if w.length = many then some (w, (Lib.indexByte r 10).toNat + 1) else none
theorem idx_at : ∀ {w : List UInt8} (r : List UInt8), (∀ c ∈ w, c ≠ 10) → Lib.indexByte (w ++ 10 :: r) 10 = (w.length : Int)
  | [], r, _ => rfl
  | c :: w, r, h => by
    have ih := idx_at (w := w) r fun x hx => h x (List.mem_cons_of_mem _ hx)
    rw [List.cons_append, Lib.indexByte, if_neg (by simpa using h c List.mem_cons_self), ih, if_neg (by rw [beq_iff_eq]; omega)]
    simp
theorem idx_none : ∀ {w : List UInt8}, (∀ c ∈ w, c ≠ 10) → Lib.indexByte w 10 < 0
  | [], _ => by simp [Lib.indexByte]
  | c :: w, h => by
    have ih := idx_none (w := w) fun x hx => h x (List.mem_cons_of_mem _ hx)
    have := Lib.indexByte_ge w 10
    rw [Lib.indexByte, if_neg (by simpa using h c List.mem_cons_self), if_pos (by rw [beq_iff_eq]; omega)]
    omega
theorem lnT_at {w : List UInt8} (r : List UInt8) (hw : ∀ c ∈ w, c ≠ 10) (many : Nat) : lnT (w ++ 10 :: r) many = if ((wordsN w 0 true).map (·.text)).length = many then some ((wordsN w 0 true).map (·.text), w.length + 1) else none := by
  unfold lnT
  rw [idx_at r hw, if_neg (by omega), Int.toNat_natCast, List.take_left, splitOf_wordsN]
theorem lnT_none {w : List UInt8} (hw : ∀ c ∈ w, c ≠ 10) (many : Nat) : lnT w many = none := by
  unfold lnT
  rw [if_pos (idx_none hw)]
theorem decT_no10 (x : Int) : ∀ c ∈ decT x, c ≠ 10 := by
  intro c hc
  have := List.all_eq_true.1 (decT_word x).2.1 c hc
  rintro rfl
  rw [isW_ten] at this
  cases this
theorem restB_no10 : ∀ (l : List Int) (f : Bool), ∀ c ∈ restB f l, c ≠ 10
  | [], f, c, h => by cases h
  | x :: l, f, c, h => by
    unfold restB at h
    rcases List.mem_append.1 h with h | h
    · cases f
      · simp at h; subst h; decide
      · simp at h
    · rcases List.mem_append.1 h with h | h
      · exact decT_no10 x c h
      · exact restB_no10 l false c h
theorem Stops.rest (l : List Int) : Stops (restB false l) := by
  cases l with
  | nil => exact Stops.nil
  | cons x l => exact Stops.sp _
theorem N_rest : ∀ (l : List Int) (p : Nat) (f : Bool), wordsN (restB false l) p f = lnW l (p + 1) f
  | [], p, f => N_nil p f
  | x :: l, p, f => by
    obtain ⟨w1, w2, _⟩ := decT_word x
    unfold restB
    simp only [Bool.false_eq_true, if_false, List.cons_append, List.nil_append]
    rw [N_sp, N_word w1 w2 (Stops.rest l), N_rest l]
    rfl
theorem N_rest1 (x : Int) (l : List Int) (p : Nat) (f : Bool) : wordsN (restB true (x :: l)) p f = lnW (x :: l) p f := by
  obtain ⟨w1, w2, _⟩ := decT_word x
  unfold restB
  simp only [if_true, List.nil_append]
  rw [N_word w1 w2 (Stops.rest l), N_rest l]
  rfl
theorem lnW_text : ∀ (l : List Int) (p : Nat) (f : Bool), (lnW l p f).map (·.text) = l.map decT
  | [], p, f => rfl
  | x :: l, p, f => by simp [lnW, lnW_text l]
theorem lnT_line (x : Int) (l : List Int) (r : List UInt8) : lnT (lineB (x :: l) ++ r) (l.length + 1) = some ((x :: l).map decT, (lineB (x :: l)).length) := by
  rw [lineB_rest, List.append_assoc, show ([10] ++ r : List UInt8) = 10 :: r from rfl, lnT_at r (restB_no10 _ _), N_rest1, lnW_text, if_pos (by simp)]
  simp
theorem lnT_cut (l : List Int) (many j : Nat) (h : j < (lineB l).length) : lnT ((lineB l).take j) many = none := by
  rw [lineB_rest] at h ⊢
  simp only [List.length_append, List.length_cons, List.length_nil] at h
  rw [List.take_append_of_le_length (by omega)]
  exact lnT_none (fun c hc => restB_no10 _ _ c (List.mem_of_mem_take hc)) many

/-! what is read -/
def outsG (b : List UInt8) (m : Int) : Nat → Nat → List Int → Except Int (List Int × Nat)
  | 0, k, acc => .ok (acc, k)
  | n + 1, k, acc => match lnT (b.drop k) 1 with
    | none => .error (k : Int)
    | some (ws, j) => if (plainW (ws.getD 0 []) && decide (numW (ws.getD 0 []) ≤ 2 * m + 1)) = true then outsG b m n (k + j) (acc ++ [numW (ws.getD 0 [])]) else .error (k : Int)
def andsG (b : List UInt8) (i : Int) : Nat → Nat → Nat → List (Int × Int) → Except Int (List (Int × Int) × Nat)
  | _, 0, p, acc => .ok (acc, p)
  | k, n + 1, p, acc => match delG (b.drop p) 1 (2 * (i + k + 1)) with
    | none => .error (p : Int)
    | some (x, j) => match delG (b.drop (p + j)) 0 (2 * (i + k + 1) - x) with
      | none => .error ((p + j : Nat) : Int)
      | some (y, j') => andsG b i (k + 1) n (p + j + j') (acc ++ [(2 * (i + k + 1) - x, 2 * (i + k + 1) - x - y)])
/-- what is behind is right -/
def endG : List UInt8 → Bool
  | [] => true
  | [_] => false
  | c :: e :: _ => c == 99 && e == 10
def headG (b : List UInt8) : Except Int (List Int × Nat) := match lnT b 6 with
  | none => .error 101
  | some (ws, k) => if (ws.getD 0 [] == [97, 105, 103] && (ws.drop 1).all plainW) = true then (match limT (numW (ws.getD 1 [])) (numW (ws.getD 2 [])) (numW (ws.getD 3 [])) (numW (ws.getD 4 [])) (numW (ws.getD 5 [])) with
      | some (_, c) => .error c
      | none => .ok ((ws.drop 1).map numW, k)) else .error 101
def readG (b : List UInt8) : Except (Int × Int) Ci := match headG b with
  | .error c => .error (c, 0)
  | .ok (N, k) => match outsG b (N.getD 0 0) (N.getD 3 0).toNat k [] with
    | .error p => .error (101, p)
    | .ok (O, k1) => match andsG b (N.getD 1 0) 0 (N.getD 4 0).toNat k1 [] with
      | .error p => .error (101, p)
      | .ok (A, k2) => if endG (b.drop k2) = true then .ok (N.getD 1 0, A, O) else .error (101, (k2 : Int))

/-! what is written -/
def andsB (i : Nat) : Nat → List (Int × Int) → List UInt8
  | _, [] => []
  | k, p :: l => smB (2 * ((i : Int) + k + 1) - p.1).toNat ++ (smB (p.1 - p.2).toNat ++ andsB i (k + 1) l)
def aigTx (i : Nat) (A : List (Int × Int)) (O : List Int) : List UInt8 := [97, 105, 103, 32] ++ lineB (headL i A O) ++ outsTx O ++ andsB i 0 A
theorem headG_any (x : Int) (l : List Int) (r : List UInt8) (hl : l.length = 4) (hx : ∀ y ∈ x :: l, 0 ≤ y ∧ y < 1000000000) : headG ([97, 105, 103, 32] ++ lineB (x :: l) ++ r) = match limT x (l.getD 0 0) (l.getD 1 0) (l.getD 2 0) (l.getD 3 0) with
    | some (_, c) => .error c
    | none => .ok (x :: l, 4 + (lineB (x :: l)).length) := by
  have e : lnT ([97, 105, 103, 32] ++ lineB (x :: l) ++ r) 6 = some ([97, 105, 103] :: (x :: l).map decT, 4 + (lineB (x :: l)).length) := by
    rw [lineB_rest, show ([97, 105, 103, 32] ++ (restB true (x :: l) ++ [10]) ++ r : List UInt8) = ([97, 105, 103] ++ 32 :: restB true (x :: l)) ++ 10 :: r by simp]
    rw [lnT_at r (fun c hc => by
      rcases List.mem_append.1 hc with hc | hc
      · simp at hc; rcases hc with rfl | rfl | rfl <;> decide
      · rcases List.mem_cons.1 hc with rfl | hc
        · decide
        · exact restB_no10 _ _ c hc), N_word (by simp) (by decide) (Stops.sp _), N_sp, N_rest1, List.map_cons, lnW_text, if_pos (by simp [hl])]
    simp
    omega
  have hd : ∀ y ∈ x :: l, plainW (decT y) = true ∧ numW (decT y) = y := by
    intro y hy
    obtain ⟨h0, h1⟩ := hx y hy
    obtain ⟨a1, a2, a3⟩ := decT_num (x := y) (by omega) h1
    exact ⟨by unfold plainW; rw [a1, a3 h0]; rfl, a2⟩
  unfold headG
  rw [e]
  match l, hl with
  | [a, b, c, d'], _ =>
    have q0 := hd x (by simp)
    have q1 := hd a (by simp)
    have q2 := hd b (by simp)
    have q3 := hd c (by simp)
    have q4 := hd d' (by simp)
    simp only [List.map_cons, List.map_nil, List.getD_cons_zero, List.getD_cons_succ, List.drop_succ_cons, List.drop_zero, List.all_cons, List.all_nil, q0.1, q1.1, q2.1, q3.1, q4.1, q0.2, q1.2, q2.2, q3.2, q4.2, beq_self_eq_true, Bool.and_self, if_true]
theorem drop_at (a r : List UInt8) : (a ++ r).drop a.length = r := List.drop_left
theorem outsG_text {m : Int} : ∀ (O : List Int) (b pre r : List UInt8) (acc : List Int), b = pre ++ outsTx O ++ r → (∀ x ∈ O, 0 ≤ x ∧ x ≤ 2 * m + 1 ∧ x < 1000000000) → outsG b m O.length pre.length acc = .ok (acc ++ O, (pre ++ outsTx O).length)
  | [], b, pre, r, acc, _, _ => by simp [outsG, outsTx]
  | x :: O, b, pre, r, acc, hb, h => by
    obtain ⟨h1, h2, h3⟩ := h x List.mem_cons_self
    have hx : outsTx (x :: O) = lineB [x] ++ outsTx O := by simp [outsTx]
    have hd : b.drop pre.length = lineB [x] ++ (outsTx O ++ r) := by rw [hb, hx, List.append_assoc, drop_at, List.append_assoc]
    obtain ⟨a1, a2, a3⟩ := decT_num (x := x) (by omega) h3
    have ih := outsG_text O b (pre ++ lineB [x]) r (acc ++ [x]) (by rw [hb, hx]; simp) fun y hy => h y (List.mem_cons_of_mem _ hy)
    rw [List.length_cons, outsG, hd, show (1 : Nat) = ([] : List Int).length + 1 from rfl, lnT_line x []]
    simp only [List.map_cons, List.map_nil, List.getD_cons_zero]
    rw [show plainW (decT x) = true by unfold plainW; rw [a1, a3 h1]; rfl, a2, decide_eq_true h2, Bool.and_self, if_pos rfl]
    rw [List.length_append] at ih
    rw [ih, hx]
    simp
theorem andsG_text {i : Nat} : ∀ (A : List (Int × Int)) (k : Nat) (b pre r : List UInt8) (acc : List (Int × Int)), b = pre ++ andsB i k A ++ r → 2 * (i + k + A.length) < 1000000000 → AndsOk i k A → andsG b i k A.length pre.length acc = .ok (acc ++ A, (pre ++ andsB i k A).length)
  | [], k, b, pre, r, acc, _, _, _ => by simp [andsG, andsB]
  | p :: A, k, b, pre, r, acc, hb, hn, h => by
    obtain ⟨⟨h1, h2, h3⟩, h4⟩ := h
    simp only [List.length_cons] at hn
    have hd : b.drop pre.length = smB (2 * ((i : Int) + k + 1) - p.1).toNat ++ (smB (p.1 - p.2).toNat ++ andsB i (k + 1) A ++ r) := by
      rw [hb, List.append_assoc, drop_at, andsB]; simp
    have hd2 : b.drop (pre.length + (smB (2 * ((i : Int) + k + 1) - p.1).toNat).length) = smB (p.1 - p.2).toNat ++ (andsB i (k + 1) A ++ r) := by
      rw [← List.drop_drop, hd, drop_at]; simp
    have ih := andsG_text (i := i) A (k + 1) b (pre ++ (smB (2 * ((i : Int) + k + 1) - p.1).toNat ++ smB (p.1 - p.2).toNat)) r (acc ++ [p]) (by rw [hb, andsB]; simp) (by omega) (by rw [show ((k + 1 : Nat) : Int) = (k : Int) + 1 by omega]; exact h4)
    rw [List.length_cons, andsG, hd, delG_small (by omega) (by omega) (by omega)]
    simp only
    rw [hd2, delG_small (by omega) (by omega) (by omega)]
    simp only
    have e1 : 2 * ((i : Int) + k + 1) - (((2 * ((i : Int) + k + 1) - p.1).toNat : Nat) : Int) = p.1 := by omega
    have e2 : p.1 - (((p.1 - p.2).toNat : Nat) : Int) = p.2 := by omega
    rw [e1, e2]
    simp only [List.length_append] at ih
    rw [Nat.add_assoc, ih, andsB]
    simp [Nat.add_assoc]
theorem readG_text {i : Nat} {A : List (Int × Int)} {O : List Int} (h : CiR i A O) (r : List UInt8) : readG (aigTx i A O ++ r) = if endG r = true then .ok ((i : Int), A, O) else .error (101, ((aigTx i A O).length : Int)) := by
  obtain ⟨hn, hO, hA, hx⟩ := h
  have hh := headG_any ((i : Int) + A.length) [(i : Int), 0, (O.length : Int), (A.length : Int)] (outsTx O ++ (andsB i 0 A ++ r)) rfl (fun y hy => by simp at hy; rcases hy with rfl | rfl | rfl | rfl | rfl <;> omega)
  have hl : limT ((i : Int) + A.length) i 0 O.length A.length = none := by
    unfold limT
    rw [if_neg (by omega), if_neg (by omega), if_neg (by omega), if_neg (by simp), if_neg (by simp)]
  simp only [List.getD_cons_zero, List.getD_cons_succ] at hh
  rw [hl] at hh
  simp only at hh
  have ht : aigTx i A O ++ r = [97, 105, 103, 32] ++ lineB (headL i A O) ++ (outsTx O ++ (andsB i 0 A ++ r)) := by simp [aigTx]
  unfold readG
  rw [ht]
  unfold headL
  rw [hh]
  simp only [List.getD_cons_zero, List.getD_cons_succ, Int.toNat_natCast]
  generalize hL : lineB [(i : Int) + A.length, (i : Int), 0, (O.length : Int), (A.length : Int)] = L
  have o1 := outsG_text (m := (i : Int) + A.length) O ([97, 105, 103, 32] ++ L ++ (outsTx O ++ (andsB i 0 A ++ r))) ([97, 105, 103, 32] ++ L) (andsB i 0 A ++ r) [] (by simp) (fun x hxm => by have := hx x hxm; omega)
  rw [show ([97, 105, 103, 32] ++ L : List UInt8).length = 4 + L.length by simp; omega] at o1
  rw [o1]
  simp only
  have a1 := andsG_text (i := i) A 0 ([97, 105, 103, 32] ++ L ++ (outsTx O ++ (andsB i 0 A ++ r))) ([97, 105, 103, 32] ++ L ++ outsTx O) r [] (by simp) (by omega) hA
  rw [a1]
  simp only [List.nil_append]
  have hd : ([97, 105, 103, 32] ++ L ++ (outsTx O ++ (andsB i 0 A ++ r))).drop ([97, 105, 103, 32] ++ L ++ outsTx O ++ andsB i 0 A).length = r := by
    rw [show ([97, 105, 103, 32] ++ L ++ (outsTx O ++ (andsB i 0 A ++ r)) : List UInt8) = ([97, 105, 103, 32] ++ L ++ outsTx O ++ andsB i 0 A) ++ r by simp, drop_at]
  rw [hd]
  have hlen : ([97, 105, 103, 32] ++ L ++ outsTx O ++ andsB i 0 A).length = (aigTx i A O).length := by simp [aigTx, headL, hL]
  rw [hlen]
theorem readG_back {i : Nat} {A : List (Int × Int)} {O : List Int} (h : CiR i A O) : readG (aigTx i A O) = .ok ((i : Int), A, O) := by
  have := readG_text h []
  rw [List.append_nil] at this
  rw [this]
  rfl
end Go.Proofs.YtmjbjgbcpaagmaaDoor

namespace Go.Proofs.YtmjbjgbcpaagmaaDoor
open Go.RowKit

theorem ofInt64 (m : Nat) : (BitVec.ofInt (IntKind.bits .i64) (m : Int)).toNat = m % 2 ^ 64 := by
  rw [BitVec.toNat_ofInt]
  show ((m : Int) % ((2 ^ 64 : Nat) : Int)).toNat = _
  omega
theorem ofInt8 (m : Nat) : (BitVec.ofInt (IntKind.bits .u8) (m : Int)).toNat = m % 2 ^ 8 := by
  rw [BitVec.toNat_ofInt]
  show ((m : Int) % ((2 ^ 8 : Nat) : Int)).toNat = _
  omega
theorem and127 (m : Nat) (hm : m < 9223372036854775808) : bitsOp .and .i64 (m : Int) 127 = ((m % 128 : Nat) : Int) := by
  unfold bitsOp
  have e1 : (BitVec.ofInt (IntKind.bits .i64) (m : Int) &&& BitVec.ofInt (IntKind.bits .i64) 127).toNat = m % 128 := by
    rw [BitVec.toNat_and, ofInt64, show (BitVec.ofInt (IntKind.bits .i64) (127 : Int)).toNat = 2 ^ 7 - 1 from rfl, Nat.and_two_pow_sub_one_eq_mod]
    omega
  simp only [e1]
  rw [wrap64 (by omega) (by omega)]
theorem and127u (m : Nat) (hm : m < 256) : bitsOp .and .u8 (m : Int) 127 = ((m % 128 : Nat) : Int) := by
  unfold bitsOp
  have e1 : (BitVec.ofInt (IntKind.bits .u8) (m : Int) &&& BitVec.ofInt (IntKind.bits .u8) 127).toNat = m % 128 := by
    rw [BitVec.toNat_and, ofInt8, show (BitVec.ofInt (IntKind.bits .u8) (127 : Int)).toNat = 2 ^ 7 - 1 from rfl, Nat.and_two_pow_sub_one_eq_mod]
    omega
  simp only [e1]
  show ((m % 128 : Nat) : Int) % 256 = _
  omega
theorem or_add {a b k : Nat} (ha : a < 2 ^ k) : a ||| (b * 2 ^ k) = a + b * 2 ^ k := by
  rw [Nat.mul_comm b, Nat.add_comm, Nat.two_pow_add_eq_or_of_lt ha, Nat.or_comm]
theorem or128 (m : Nat) (hm : m < 128) : bitsOp .or .u8 (m : Int) 128 = ((m + 128 : Nat) : Int) := by
  unfold bitsOp
  have e1 : (BitVec.ofInt (IntKind.bits .u8) (m : Int) ||| BitVec.ofInt (IntKind.bits .u8) 128).toNat = m + 128 := by
    rw [BitVec.toNat_or, ofInt8, show (BitVec.ofInt (IntKind.bits .u8) (128 : Int)).toNat = 1 * 2 ^ 7 from rfl, Nat.mod_eq_of_lt (by omega), or_add (by omega)]
  simp only [e1]
  show ((m + 128 : Nat) : Int) % 256 = _
  omega
theorem orsh {a b k : Nat} (ha : a < 2 ^ k) (hb : a + b * 2 ^ k < 9223372036854775808) : bitsOp .or .i64 (a : Int) ((b * 2 ^ k : Nat) : Int) = ((a + b * 2 ^ k : Nat) : Int) := by
  unfold bitsOp
  have e1 : (BitVec.ofInt (IntKind.bits .i64) (a : Int) ||| BitVec.ofInt (IntKind.bits .i64) ((b * 2 ^ k : Nat) : Int)).toNat = a + b * 2 ^ k := by
    rw [BitVec.toNat_or, ofInt64, ofInt64, Nat.mod_eq_of_lt (by omega), Nat.mod_eq_of_lt (by omega), or_add ha]
  simp only [e1]
  rw [wrap64 (by omega) (by omega)]
theorem shr7 (m : Nat) : Int.fdiv (m : Int) (2 ^ min (Int.toNat (7 : Int)) (IntKind.bits .i64)) = ((m / 128 : Nat) : Int) := by
  rw [show (2 : Int) ^ min (Int.toNat (7 : Int)) (IntKind.bits .i64) = 128 from rfl, Int.fdiv_eq_ediv_of_nonneg _ (by omega)]
  omega
theorem wrapU8n (m : Nat) (hm : m < 256) : IntKind.wrap .u8 (m : Int) = (m : Int) := by
  show ((m : Nat) : Int) % 256 = _
  omega
theorem ofNat_u8 {m : Nat} (hm : m < 256) : ((UInt8.ofNat m).toNat : Int) = (m : Int) := by rw [UInt8.toNat_ofNat']; omega

section
variable (fuel d : Nat) {h0 : AHeap} {R : List Chunk}
theorem app1 {h : AHeap} {s : Sl} {t : List UInt8} (hs : Sep0 h0 h (.grown 1 s (bytesC t) :: R)) (ht : t.length < 1000000000) {m : Nat} (hm : m < 256) :
    ∃ s' h', AHeap.append h false 1 1 s 1 [.int .u8 (m : Int)] = some (s', h') ∧ Sep0 h0 h' (.grown 1 s' (bytesC (t ++ [UInt8.ofNat m])) :: R) := by
  have hl := hs.len (i := 0) rfl
  simp only [List.length_map, Nat.mul_one] at hl
  obtain ⟨s', h', e1, s1, _⟩ := hs.grow (i := 0) (bytes := 1) (m := 1) (vs := [.int .u8 (m : Int)]) rfl rfl (by omega) (by omega)
  refine ⟨s', h', e1, ?_⟩
  rw [set0] at s1
  rw [show bytesC (t ++ [UInt8.ofNat m]) = bytesC t ++ [AVal.int .u8 (m : Int)] by rw [bytesC_app, show bytesC [UInt8.ofNat m] = [AVal.int .u8 ((UInt8.ofNat m).toNat : Int)] from rfl, ofNat_u8 hm]]
  exact s1
theorem gnum_loop : ∀ (f n x : Nat) (s : Sl) (t : List UInt8) (h : AHeap), f < n → x < 128 ^ f → 0 < f → f ≤ 9 → t.length + f < 900000010 → Sep0 h0 h (.grown 1 s (bytesC t) :: R) →
    ∃ s' h', (l_aig_number_0 fuel d n [(0, .slice s), (1, .int .i64 (x : Int))] h).bind (fun p => k_aig_number_0 fuel d p.1 p.2.1 p.2.2) = some (.slice s', h') ∧ Sep0 h0 h' (.grown 1 s' (bytesC (t ++ smallB f x)) :: R) := by
  intro f
  induction f with
  | zero => intro n x s t h _ _ h3; omega
  | succ f ih =>
    intro n x s t h h1 h2 h3 h4 ht hs
    obtain ⟨n, rfl⟩ : ∃ q, n = q + 1 := ⟨n - 1, by omega⟩
    have hx9 : x < 9223372036854775808 := Nat.lt_of_lt_of_le h2 (Nat.le_trans (Nat.pow_le_pow_right (by omega) (show f + 1 ≤ 9 by omega)) (by omega))
    rw [l_aig_number_0_eq]
    unfold smallB
    by_cases hx : x < 128
    · rw [bif_neg (by omega), if_pos hx, Option.bind_some, k_aig_number_0_x0, wrapU8n x (by omega)]
      obtain ⟨s', h', e1, s1⟩ := app1 hs (by omega) (m := x) (by omega)
      rw [e1]
      exact ⟨s', h', rfl, s1⟩
    · rw [bif_pos (by omega), if_neg hx, and127 x hx9, wrapU8n _ (by omega), or128 _ (by omega), shr7]
      obtain ⟨s', h', e1, s1⟩ := app1 hs (by omega) (m := x % 128 + 128) (by omega)
      rw [e1]
      simp only [Option.bind_some]
      rw [Nat.pow_succ] at h2
      have f0 : 0 < f := by
        rcases Nat.eq_zero_or_pos f with h | h
        · subst h; simp at h2; omega
        · exact h
      obtain ⟨s2, h2', e2, s2'⟩ := ih n (x / 128) s' (t ++ [UInt8.ofNat (x % 128 + 128)]) h' (by omega) (by omega) f0 (by omega) (by simp; omega) s1
      refine ⟨s2, h2', e2, ?_⟩
      rw [List.append_assoc] at s2'
      exact s2'
theorem smallB_up : ∀ (f g n : Nat), n < 128 ^ f → n < 128 ^ g → 0 < f → 0 < g → smallB f n = smallB g n
  | 0, g, n, _, _, h, _ => by omega
  | f + 1, 0, n, _, _, _, h => by omega
  | f + 1, g + 1, n, h1, h2, _, _ => by
    unfold smallB
    by_cases hn : n < 128
    · rw [if_pos hn, if_pos hn]
    · rw [if_neg hn, if_neg hn]
      rw [Nat.pow_succ] at h1 h2
      have f0 : 0 < f := by
        rcases Nat.eq_zero_or_pos f with h | h
        · subst h; simp at h1; omega
        · exact h
      have g0 : 0 < g := by
        rcases Nat.eq_zero_or_pos g with h | h
        · subst h; simp at h2; omega
        · exact h
      rw [smallB_up f g (n / 128) (by omega) (by omega) f0 g0]
theorem gnumber_run (hf : 30 < fuel) {x : Nat} (hx : x < 34359738368) {s : Sl} {t : List UInt8} {h : AHeap} (ht : t.length < 900000000) (hs : Sep0 h0 h (.grown 1 s (bytesC t) :: R)) :
    ∃ s' h', run fuel (d + 1) F_aig_number [.slice s, .int .i64 (x : Int)] h = some (.slice s', h') ∧ Sep0 h0 h' (.grown 1 s' (bytesC (t ++ smB x)) :: R) := by
  obtain ⟨s', h', e1, s1⟩ := gnum_loop fuel d 5 fuel x s t h (by omega) (by omega) (by omega) (by omega) (by omega) hs
  rw [smallB_up 5 10 x (by omega) (by omega) (by omega) (by omega)] at s1
  exact ⟨s', h', by rw [e_aig_number]; exact e1, s1⟩
end
end Go.Proofs.YtmjbjgbcpaagmaaDoor

namespace Go.Proofs.YtmjbjgbcpaagmaaDoor
open Go.RowKit

section
variable (fuel d : Nat) (hf : 30 < fuel) {h0 : AHeap} {C b : Nat} {R : List Chunk}
include hf
end
theorem canon_circ0 (i : Int) : canonV 8 (.agg [.int .i64 i, .slice .nil, .slice .nil]) = some (.agg (circC i [] [])) := rfl
end Go.Proofs.YtmjbjgbcpaagmaaDoor

namespace Go.Proofs.YtmjbjgbcpaagmaaDoor
open Go.RowKit

theorem GrowU_run (fuel d : Nat) {n : Nat} (hn : n < 1000000000) (h : AHeap) :
    ∃ s' h', run fuel (d + 1) F_slices_Grow_s_byte_byte [.slice .nil, .int .i64 (n : Int)] h = some (.slice s', h') ∧ Grown h' 1 s' (bytesC []) ∧ Keeps h h' (fun _ => False) ∧ s'.len = 0 ∧ (∀ r, s'.row = some r → h.rows.length ≤ r) := by
  rw [e_slices_Grow_s_byte_byte, bif_neg (by omega)]
  have hc : Sl.capOf .nil = some 0 := rfl
  simp only [Option.bind_some, k_slices_Grow_s_byte_byte_0_n, hc]
  have hw : IntKind.wrap .i64 ((n : Int) - IntKind.wrap .i64 (((0 : Nat) : Int) - ((Sl.nil.len : Nat) : Int))) = (n : Int) := by
    rw [show IntKind.wrap .i64 (((0 : Nat) : Int) - ((Sl.nil.len : Nat) : Int)) = 0 from rfl, Int.sub_zero, wrap64 (by omega) (by omega)]
  rw [hw]
  by_cases h0 : n = 0
  · subst h0
    exact ⟨.nil, h, rfl, .nil, Keeps.refl _ _, rfl, fun r h => by cases h⟩
  · rw [bif_pos (by omega), aHi_some (by omega) (by simp)]
    simp only [Option.bind_some]
    rw [show (((0 : Nat) : Int)).toNat = 0 from rfl, aLo_none]
    simp only [Option.bind_some, aMx_none]
    rw [cond_pos _ _ (show AHeap.hasSz h 1 .nil = true from rfl), cond_pos]
    · obtain ⟨s2, h2, e1, e2, e3, e4, e5⟩ := (Grown.nil (h := h) (sz := 1)).more (bytes := 1) (m := n) (vs := List.replicate n (.int .u8 0)) (by simp) (by simp [Sl.len]; omega) (by simp [Sl.len]; omega)
      have hap : AHeap.append h false 1 1 (Sl.cut .nil 1 0 0 false) (Int.toNat (n : Int)) (repeatCells [(AVal.int .u8 (0 : Int))] (Int.toNat (n : Int))) = some (s2, h2) := by
        rw [Int.toNat_natCast, repeat_one]; exact e1
      rw [hap]
      simp only [Option.bind_some]
      rw [aHi_some (x := ((Sl.nil.len : Nat) : Int)) (by simp [Sl.len]) (by simp [Sl.len])]
      simp only [Option.bind_some]
      rw [show ((Sl.nil.len : Nat) : Int).toNat = 0 from rfl, aLo_none]
      simp only [Option.bind_some, aMx_none]
      rw [cond_pos _ _ e2.hasSz]
      simp only [Sl.len, Nat.zero_add] at e3
      have hk : Keeps h h2 (fun _ => False) := e4.mono fun i _ e => by cases e
      generalize ([] : List AVal) ++ List.replicate n (AVal.int .u8 0) = cs at e2
      cases e2 with
      | nil => simp [Sl.len] at e3; omega
      | none => simp [Sl.len] at e3; omega
      | room => simp [Sl.len] at e3; omega
      | row h1 hc hn hg hv hr hs =>
        refine ⟨_, _, rfl, ?_, hk, rfl, fun r hr => ?_⟩
        · simpa [Sl.cut] using Grown.room h1 hg hv hr hs
        · rcases e5 with e5 | e5
          · cases e5
          · simp [Sl.cut, Sl.row] at hr e5
            omega
      | full h0 h1 hc hn hg hv hr hs =>
        refine ⟨_, _, rfl, ?_, hk, rfl, fun r hr => ?_⟩
        · have := Grown.room h1 hg hv hr hs
          simp only [Sl.cut, Nat.zero_mul, Nat.add_zero, Nat.sub_zero, nbeq_false.2 (Ne.symm h0), Bool.and_false]
          simpa using this
        · rw [Sl.row_mk h0] at e5
          rcases e5 with e5 | e5
          · cases e5
          · simp [Sl.cut, Sl.row, nbeq_false.2 (Ne.symm h0)] at hr e5
            omega
    · simp only [Bool.and_eq_true, decide_eq_true_eq]
      omega
/-- two pieces of bytes -/
theorem concat2_run (fuel d : Nat) (hf : 30 < fuel) {x y : Sl} {a b : List UInt8} {h : AHeap} (c : Bool) (hx : h.sliceCells 1 x = some (bytesC a)) (hy : h.sliceCells 1 y = some (bytesC b)) (ha : a.length + b.length < 900000000) (hb0 : b ≠ []) (ha0 : a ≠ []) :
    ∃ s' h', run fuel (d + 2) F_slices_Concat_s_byte_byte [.slice (.lst 2 c [.slice x, .slice y])] h = some (.slice s', h') ∧ New h h' (.grown 1 s' (bytesC (a ++ b))) := by
  obtain ⟨n, rfl⟩ : ∃ n, fuel = n + 3 := ⟨fuel - 3, by omega⟩
  have lx : x.len = a.length := by have := sliceCells_len hx; simp at this; omega
  have ly : y.len = b.length := by have := sliceCells_len hy; simp at this; omega
  have a0 : ∀ h : AHeap, h.addr 1 (.lst 2 c [AVal.slice x, .slice y]) 0 = some (.fp 0 [.slice x]) := fun _ => rfl
  have a1 : ∀ h : AHeap, h.addr 1 (.lst 2 c [AVal.slice x, .slice y]) 1 = some (.fp 0 [.slice y]) := fun _ => rfl
  have w1 : IntKind.wrap .i64 ((0 : Int) + 1) = 1 := rfl
  have w2 : IntKind.wrap .i64 ((1 : Int) + 1) = 2 := rfl
  have l2 : (Sl.lst 2 c [AVal.slice x, .slice y]).len = 2 := rfl
  have v1 : IntKind.wrap .i64 ((0 : Int) + ((a.length : Nat) : Int)) = ((a.length : Nat) : Int) := by rw [wrap64 (by omega) (by omega)]; omega
  have v2 : IntKind.wrap .i64 (((a.length : Nat) : Int) + ((b.length : Nat) : Int)) = ((a.length + b.length : Nat) : Int) := by rw [wrap64 (by omega) (by omega)]; omega
  rw [e_slices_Concat_s_byte_byte, l2]
  rw [l_slices_Concat_s_byte_byte_0_eq, bif_pos (by omega), a0, Option.bind_some, cell_fp, Option.bind_some, slice_slice, Option.bind_some, lx, v1, bif_neg (by omega), w1]
  rw [l_slices_Concat_s_byte_byte_0_eq, bif_pos (by omega), a1, Option.bind_some, cell_fp, Option.bind_some, slice_slice, Option.bind_some, ly, v2, bif_neg (by omega), w2]
  rw [l_slices_Concat_s_byte_byte_0_eq, bif_neg (by omega), Option.bind_some, k_slices_Concat_s_byte_byte_0_x0]
  obtain ⟨s2, h2, e2, g2, k2, l2', f2⟩ := GrowU_run (n + 3) d (n := a.length + b.length) (by omega) h
  rw [e2, Option.bind_some, slice_slice, Option.bind_some, l2]
  have s3 := (Sep0.start h).add (c := .grown 1 s2 (bytesC [])) ⟨k2, g2, f2⟩
  obtain ⟨t1, h3, e3, s4, m3⟩ := s3.grow (i := 0) (bytes := 1) (m := a.length) (vs := bytesC a) rfl (by simp) (by omega) (by omega)
  obtain ⟨t2, h4, e4, s5, _⟩ := s4.grow (i := 0) (bytes := 1) (m := b.length) (vs := bytesC b) rfl (by simp) (by omega) (by omega)
  have hx2 := sliceCells_ext s3.ext hx
  have hy3 := sliceCells_ext s4.ext hy
  rw [l_slices_Concat_s_byte_byte_1_eq, bif_pos (by omega), a0, Option.bind_some, cell_fp, Option.bind_some, slice_slice, Option.bind_some, hx2, Option.bind_some, lx, e3, Option.bind_some, w1]
  simp only
  rw [l_slices_Concat_s_byte_byte_1_eq, bif_pos (by omega), a1, Option.bind_some, cell_fp, Option.bind_some, slice_slice, Option.bind_some, hy3, Option.bind_some, ly, e4, Option.bind_some, w2]
  simp only
  rw [l_slices_Concat_s_byte_byte_1_eq, bif_neg (by omega), Option.bind_some, k_slices_Concat_s_byte_byte_1_x2]
  refine ⟨t2, h4, rfl, ?_⟩
  have := s5.get (i := 0) rfl
  rw [show bytesC [] ++ bytesC a ++ bytesC b = bytesC (a ++ b) by simp] at this
  exact this
section
variable (fuel d : Nat) (hf : 20000 < fuel) {h0 : AHeap} {C : Nat} {i : Nat} {A : List (Int × Int)} {o : List Int}
include hf
theorem gbytes0 (hx : ∀ x ∈ o, In64 x) (ho : o.length ≤ 10000) : ∀ (n k : Nat) (s : Sl) (t : List UInt8) (h : AHeap), o.length < n + k → k ≤ o.length → t ≠ [] → t.length + 60 * (o.length - k) < 100000000 → Sep0 h0 h [.grown 1 s (bytesC t)] →
    ∃ s' h', l_aig_Bytes_0 fuel (d + 6) n [(1, .ptr (rdP C)), (3, .slice s), (12, .slice (lstI o)), (13, .int .i64 (o.length : Int)), (14, .int .i64 (k : Int))] h = some (.exit 0, [(1, .ptr (rdP C)), (3, .slice s')], h') ∧ Sep0 h0 h' [.grown 1 s' (bytesC (t ++ outsTx (o.drop k)))] := by
  intro n
  induction n with
  | zero => intro k s t h h1 h2; omega
  | succ n ih =>
    intro k s t h h1 h2 ht0 ht hs
    rw [l_aig_Bytes_0_eq]
    by_cases hk : k < o.length
    · have hm : o.getD k 0 ∈ o := by rw [List.getD_eq_getElem?_getD, List.getElem?_eq_getElem hk]; exact List.getElem_mem hk
      have hxk := hx _ hm
      rw [bif_pos (by omega), addr_lstM _ (by omega) (by omega) 0, Int.toNat_natCast, drop_get hk 0]
      generalize o.getD k 0 = x at hxk
      have hl := lineB_len (l := [x]) (fun y hm => by rw [List.mem_singleton.1 hm]; exact hxk)
      simp only [List.length_cons, List.length_nil] at hl
      have hne : lineB [x] ≠ [] := by rw [lineB_one]; simp
      simp only [Option.bind_some, cell_fp, int_int]
      rw [aline1 fuel d (by omega) _ _ hxk]
      simp only [Option.bind_some, str_str]
      rw [tx_size, bytesOf_tx]
      have s1 := hs.push 1 (lineB [x]).length (cs := bytesC (lineB [x])) (by simp)
      have c1 := (s1.sep.grown (i := 0) rfl).cells
      have c2 := (s1.sep.own (i := 1) rfl).cells false
      obtain ⟨s', h', e1, n1⟩ := concat2_run fuel (d + 4) (by omega) true c1 c2 (by omega) hne ht0
      rw [e1]
      simp only [Option.bind_some, slice_slice]
      have s2 := (s1.add n1).sub (L' := [.grown 1 s' (bytesC (t ++ lineB [x]))]) ((List.Sublist.refl _).cons _ |>.cons _)
      rw [sucU (by omega)]
      obtain ⟨s3, h3, e3, q3⟩ := ih (k + 1) s' (t ++ lineB [x]) h' (by omega) (by omega) (by simp [ht0]) (by simp; omega) s2
      refine ⟨s3, h3, e3, ?_⟩
      rw [List.append_assoc] at q3
      exact q3
    · obtain rfl : k = o.length := by omega
      rw [bif_neg (by omega)]
      refine ⟨s, h, rfl, ?_⟩
      rw [List.drop_length, show outsTx [] = [] from rfl, List.append_nil]
      exact hs
theorem gbytes1 (hi : i ≤ 10000) (hA : A.length ≤ 10000) (c0 : h0.cell (.mk ⟨C, 0, 0 + 0⟩ 3) = some (.int .i64 (i : Int))) : ∀ (n k : Nat) (s : Sl) (t : List UInt8) (h : AHeap), A.length < n + k → k ≤ A.length → AndsOk i k (A.drop k) → t.length + 60 * (A.length - k) < 100000000 → Sep0 h0 h [.grown 1 s (bytesC t)] →
    ∃ s' h', l_aig_Bytes_1 fuel (d + 1) n [(1, .ptr (rdP C)), (3, .slice s), (27, .slice (lstP A)), (28, .int .i64 (A.length : Int)), (29, .int .i64 (k : Int))] h = some (.exit 2, [(3, .slice s')], h') ∧ Sep0 h0 h' [.grown 1 s' (bytesC (t ++ andsB i k (A.drop k)))] := by
  intro n
  induction n with
  | zero => intro k s t h h1 h2; omega
  | succ n ih =>
    intro k s t h h1 h2 hok ht hs
    rw [l_aig_Bytes_1_eq]
    by_cases hk : k < A.length
    · rw [bif_pos (by omega), addr_lstN (sz := 2) (f := pairC) (fun _ => rfl) (l := A) (j := (k : Int)) (by omega) (by omega) (0, 0), Int.toNat_natCast]
      rw [drop_get hk (0, 0)] at hok ⊢
      generalize A.getD k (0, 0) = p at hok
      obtain ⟨⟨p1, p2, p3⟩, hok2⟩ := hok
      have s1 := hs.push 1 2 (cs := pairC (0, 0)) rfl
      obtain ⟨h3, e3, s3⟩ := s1.putAll (i := 1) (vs := pairC p) rfl rfl rfl
      have s3' : Sep0 h0 h3 [.grown 1 s (bytesC t), .own 1 h.next 0 2 (pairC p)] := s3
      have d0 := cell_keep s3'.ext (fun h => h) c0
      have b0 : h3.cell (.mk ⟨h.next, 0, 0⟩ 2) = some (.int .i64 p.1) := s3'.part (i := 1) rfl (by omega) rfl
      have b1 : h3.cell (.mk ⟨h.next, 0, 1⟩ 2) = some (.int .i64 p.2) := s3'.part (i := 1) rfl (by omega) rfl
      have e0 : Pt.elem 1 2 (0 : Int) (.mk ⟨h.next, 0, 0⟩ 2) = some (.mk ⟨h.next, 0, 0⟩ 2) := rfl
      have e1' : Pt.elem 1 2 (1 : Int) (.mk ⟨h.next, 0, 0⟩ 2) = some (.mk ⟨h.next, 0, 1⟩ 2) := rfl
      obtain ⟨x, hx⟩ : ∃ x : Nat, 2 * ((i : Int) + k + 1) - p.1 = (x : Int) := ⟨(2 * ((i : Int) + k + 1) - p.1).toNat, by omega⟩
      obtain ⟨y, hy⟩ : ∃ y : Nat, p.1 - p.2 = (y : Int) := ⟨(p.1 - p.2).toNat, by omega⟩
      have sx := smallB_len 10 x
      have sy := smallB_len 10 y
      obtain ⟨sa, ha, ea, qa⟩ := gnumber_run fuel d (by omega) (x := x) (by omega) (by omega) s3'
      have f0 : ha.cell (.mk ⟨h.next, 0, 0⟩ 2) = some (.int .i64 p.1) := qa.part (i := 1) rfl (by omega) rfl
      have f1 : ha.cell (.mk ⟨h.next, 0, 1⟩ 2) = some (.int .i64 p.2) := qa.part (i := 1) rfl (by omega) rfl
      obtain ⟨sb, hb, eb, qb⟩ := gnumber_run fuel d (by omega) (x := y) (by omega) (t := t ++ smB x) (by unfold smB; simp; omega) qa
      rw [Option.bind_some, cellsAt_fp (n := 2) (cs := pairC p) rfl, Option.bind_some, show (!false && Nat.beq (List.length (pairC p)) 2 && List.all (pairC p) AVal.isCell) = true from rfl, cond_true, e3]
      simp only [Option.bind_some, field_mk, d0, int_int, e0, e1', b0]
      rw [wrap64 (n := (i : Int) + (k : Int)) (by omega) (by omega), wrap64 (n := (i : Int) + (k : Int) + 1) (by omega) (by omega), wrap64 (n := 2 * ((i : Int) + (k : Int) + 1)) (by omega) (by omega), hx, wrap64 (n := (x : Int)) (by omega) (by omega), ea]
      simp only [Option.bind_some, slice_slice, same_self, f0, b0, f1, b1, int_int]
      rw [hy, wrap64 (n := (y : Int)) (by omega) (by omega), eb]
      simp only [Option.bind_some, slice_slice]
      rw [sucU (by omega)]
      obtain ⟨s4, h4, e4, q4⟩ := ih (k + 1) sb (t ++ smB x ++ smB y) hb (by omega) (by omega) (by rw [show ((k + 1 : Nat) : Int) = (k : Int) + 1 by omega]; exact hok2) (by unfold smB; simp; omega) (qb.sub (List.Sublist.cons_cons _ (List.nil_sublist _)))
      refine ⟨s4, h4, e4, ?_⟩
      rw [andsB, hx, hy, Int.toNat_natCast, Int.toNat_natCast]
      rw [List.append_assoc, List.append_assoc] at q4
      exact q4
    · obtain rfl : k = A.length := by omega
      rw [bif_neg (by omega)]
      refine ⟨s, h, rfl, ?_⟩
      rw [List.drop_length, andsB, List.append_nil]
      exact hs
end
end Go.Proofs.YtmjbjgbcpaagmaaDoor

namespace Go.Proofs.YtmjbjgbcpaagmaaDoor
open Go.RowKit

/-- a number is put behind as its text -/
def AppOk (fuel d : Nat) (x : Int) : Prop := ∀ (h0 h : AHeap) (s : Sl) (t : List UInt8), t.length < 900000000 → Sep0 h0 h [.grown 1 s (bytesC t)] →
  ∃ s' h', run fuel d F_strconv_AppendInt [.slice s, .int .i64 x, .int .i64 10] h = some (.slice s', h') ∧ Sep0 h0 h' [.grown 1 s' (bytesC (t ++ decT x))] ∧ (decT x).length ≤ 20
end Go.Proofs.YtmjbjgbcpaagmaaDoor

namespace Go.Proofs.YtmjbjgbcpaagmaaDoor
open Go.RowKit

/-! Itoa -/
end Go.Proofs.YtmjbjgbcpaagmaaDoor

namespace Go.Proofs.YtmjbjgbcpaagmaaDoor
open Go.RowKit

section
variable (fuel d : Nat) (hf : 30 < fuel) {h0 : AHeap}
include hf
end

section
variable (fuel d : Nat) (hf : 20000 < fuel) {h0 : AHeap} {C : Nat} {i : Nat} {A : List (Int × Int)} {o : List Int} (hc : CiOk i A o)
include hf hc
end
end Go.Proofs.YtmjbjgbcpaagmaaDoor

namespace Go.Proofs.YtmjbjgbcpaagmaaDoor
open Go.RowKit

theorem Grown.freezeU {h : AHeap} {s : Sl} {t : List UInt8} (hg : Grown h 1 s (bytesC t)) (n : Nat) : freezeV h (n + 2) (.slice s) = some (.slice (lstU t)) := by
  have hl := hg.len
  rw [List.length_map, Nat.mul_one] at hl
  rw [hg.freeze (n := n + 1) (by omega) (mapM_freeze (g := fun b : UInt8 => AVal.int .u8 (b.toNat : Int)) (fun _ => rfl) _), ← hl]
end Go.Proofs.YtmjbjgbcpaagmaaDoor

namespace Go.Proofs.YtmjbjgbcpaagmaaDoor
open Go.RowKit

theorem andsB_len {i : Nat} : ∀ (A : List (Int × Int)) (k : Nat), (andsB i k A).length ≤ 20 * A.length
  | [], k => by simp [andsB]
  | p :: A, k => by
    have h1 := andsB_len (i := i) A (k + 1)
    have h2 := smallB_len 10 (2 * ((i : Int) + k + 1) - p.1).toNat
    have h3 := smallB_len 10 (p.1 - p.2).toNat
    simp only [andsB, smB, List.length_append, List.length_cons]
    omega
theorem outsTx_len : ∀ {o : List Int}, (∀ x ∈ o, In64 x) → (outsTx o).length ≤ 30 * o.length
  | [], _ => by simp [outsTx]
  | x :: l, hx => by
    have h1 := outsTx_len (o := l) fun y hy => hx y (List.mem_cons_of_mem _ hy)
    have h2 := lineB_len (l := [x]) (fun y hy => by rw [List.mem_singleton.1 hy]; exact hx x List.mem_cons_self)
    simp only [outsTx, List.flatMap_cons, List.length_append, List.length_cons, List.length_nil] at h1 h2 ⊢
    omega
theorem headL_in {i : Nat} {A : List (Int × Int)} {o : List Int} (hi : i ≤ 10000) (hA : A.length ≤ 10000) (ho : o.length ≤ 10000) : ∀ x ∈ headL i A o, In64 x := fun x hx => by
  simp [headL] at hx; rcases hx with rfl | rfl | rfl | rfl | rfl <;> exact in64 (by omega) (by omega)
theorem aigTx_len {i : Nat} {A : List (Int × Int)} {o : List Int} (hc : CiOk i A o) : (aigTx i A o).length ≤ 110 + 30 * o.length + 20 * A.length ∧ 4 ≤ (aigTx i A o).length := by
  have hl := lineB_len (headL_in hc.ni hc.nA hc.no)
  have h1 := outsTx_len hc.xo
  have h2 := andsB_len (i := i) A 0
  rw [show (headL i A o).length = 5 from rfl] at hl
  simp only [aigTx, List.length_append, List.length_cons, List.length_nil]
  omega
theorem gbytes_body (fuel d : Nat) (hf : 20000 < fuel) {i : Nat} {A : List (Int × Int)} {o : List Int} (hR : CiR i A o) : ∃ v h', brun fuel (d + 8) F_aig_Bytes [.agg (circC i A o)] AHeap.none = some (v, h') ∧ freezeV h' 8 v = some (.slice (lstU (aigTx i A o))) := by
  have hc := hR.ok
  have hi := hc.ni
  have hA := hc.nA
  have ho := hc.no
  have s1 := (Sep0.start AHeap.none).push 1 3 (cs := circC i A o) rfl
  have hl := lineB_len (headL_in hi hA ho)
  rw [show (headL i A o).length = 5 from rfl] at hl
  have hT := aigTx_len hc
  simp only [aigTx, List.length_append, List.length_cons, List.length_nil] at hT
  rw [e_aig_Bytes, show List.all (circC i A o) AVal.isCell = true from rfl, cond_true, show (circC i A o).length = 3 from rfl]
  generalize AHeap.none.next = C at s1
  generalize AHeap.none.push 1 (circC i A o) = H at s1
  have cc : H.cellsAt 3 (.mk ⟨C, 0, 0⟩ 3) = some (circC i A o) := s1.getAll (i := 0) rfl rfl
  have c0 : H.cell (.mk ⟨C, 0, 0 + 0⟩ 3) = some (.int .i64 (i : Int)) := s1.part (i := 0) rfl (by omega) rfl
  have c1 : H.cell (.mk ⟨C, 0, 0 + 1⟩ 3) = some (.slice (lstP A)) := s1.part (i := 0) rfl (by omega) rfl
  have c2 : H.cell (.mk ⟨C, 0, 0 + 2⟩ 3) = some (.slice (lstI o)) := s1.part (i := 0) rfl (by omega) rfl
  rw [cc, Option.bind_some, show (⟨#[97, 105, 103]⟩ : ByteArray) = tx [97, 105, 103] from rfl, ahead_run fuel d (by omega) hi hA ho [97, 105, 103] (by simp)]
  simp only [Option.bind_some, str_str, field_mk]
  have ht0 : ([97, 105, 103] ++ 32 :: lineB (headL i A o) : List UInt8) = [97, 105, 103, 32] ++ lineB (headL i A o) := by simp
  rw [ht0, bytesOf_tx, tx_size]
  have s2 := (Sep0.start H).push 1 ([97, 105, 103, 32] ++ lineB (headL i A o)).length (cs := bytesC ([97, 105, 103, 32] ++ lineB (headL i A o))) (by simp)
  have s3 := s2.toGrown (L := []) false (by simp)
  rw [cell_keep s3.ext (fun h => h) c2, Option.bind_some, slice_slice, Option.bind_some, len_lst]
  obtain ⟨sa, ha, ea, qa⟩ := gbytes0 fuel (d + 1) hf (C := C) hc.xo ho fuel 0 _ _ _ (by omega) (by omega) (by simp) (by simp; omega) s3
  rw [show ((0 : Nat) : Int) = 0 from rfl] at ea
  rw [ea, Option.bind_some, k_aig_Bytes_0_x0]
  simp only [field_mk, Option.bind_some]
  rw [cell_keep qa.ext (fun h => h) c1, Option.bind_some, slice_slice, Option.bind_some, len_lst]
  obtain ⟨sb, hb, eb, qb⟩ := gbytes1 fuel (d + 6) hf (C := C) hi hA c0 fuel 0 sa _ ha (by omega) (by omega) hR.hA (by simp; omega) qa
  rw [show ((0 : Nat) : Int) = 0 from rfl] at eb
  rw [eb, Option.bind_some, k_aig_Bytes_1_x2]
  refine ⟨_, hb, rfl, ?_⟩
  have ht : [97, 105, 103, 32] ++ lineB (headL i A o) ++ outsTx (o.drop 0) ++ andsB i 0 (A.drop 0) = aigTx i A o := by simp [aigTx]
  rw [ht] at qb
  exact (qb.sep.grown (i := 0) rfl).freezeU 6
theorem gbytes_run (fuel d : Nat) (hf : 20000 < fuel) {i : Nat} {A : List (Int × Int)} {o : List Int} (hR : CiR i A o) (h : AHeap) : run fuel (d + 8) F_aig_Bytes [.agg (circC i A o)] h = some (.slice (lstU (aigTx i A o)), h) := by
  obtain ⟨v, h', e1, e2⟩ := gbytes_body fuel d hf hR
  exact pure_of rfl rfl (cc1 (canon_circ _ _ _)) e1 e2
theorem ciR_nil : CiR 0 [] [] := ⟨by simp, by simp, trivial, fun x hx => by cases hx⟩
theorem gbytes_nil (fuel d : Nat) (hf : 20000 < fuel) (h : AHeap) : run fuel (d + 8) F_aig_Bytes [.agg [.int .i64 0, .slice .nil, .slice .nil]] h = some (.slice (lstU (aigTx 0 [] [])), h) := by
  obtain ⟨v, h', e1, e2⟩ := gbytes_body fuel d hf ciR_nil
  exact pure_of rfl rfl (cc1 (canon_circ0 0)) e1 e2

/-! the reference's -/
section
variable (fuel d : Nat) (hf : 20000 < fuel) {h0 : AHeap} {C : Nat} {i : Nat} {A : List (Int × Int)} {o : List Int}
include hf
end
end Go.Proofs.YtmjbjgbcpaagmaaDoor

namespace Go.Proofs.YtmjbjgbcpaagmaaDoor
open Go.RowKit

/-! lines -/
/-- the line that begins at a place, and the place behind it -/
def lineI (b : List UInt8) (x : Int) : List UInt8 × Int × Bool :=
  if x < 0 ∨ (b.length : Int) ≤ x then ([], 0, false) else
  if Lib.indexByte (b.drop x.toNat) 10 < 0 then ([], 0, false) else ((b.drop x.toNat).take (Lib.indexByte (b.drop x.toNat) 10).toNat, x + Lib.indexByte (b.drop x.toNat) 10 + 1, true)
def tupL (p : List UInt8 × Int × Bool) : AVal := .tup [.str ⟨p.1.toArray⟩, .int .i64 p.2.1, .bool p.2.2]
theorem tLine_run (fuel d : Nat) {b : List UInt8} (hb : b.length < 1000000) (x : Int) (h : AHeap) : run fuel (d + 3) F_word_Line [.slice (lstU b), .int .i64 x] h = some (tupL (lineI b x), h) := by
  refine pure_of rfl rfl (cc2 (canon_lstU 7 b) rfl) (r := tupL (lineI b x)) (h' := AHeap.none) ?_ rfl
  rw [e_word_Line, len_lst, or2]
  unfold lineI
  by_cases h0 : x < 0 ∨ (b.length : Int) ≤ x
  · rw [decide_eq_true h0, if_pos h0]; rfl
  · rw [decide_eq_false h0, if_neg h0, cond_false]
    obtain ⟨k, rfl⟩ : ∃ k : Nat, x = (k : Int) := ⟨x.toNat, by omega⟩
    rw [Int.toNat_natCast, aHi_none, Option.bind_some, aLo_some (by omega) (by omega), Option.bind_some, Int.toNat_natCast, aMx_none, Option.bind_some, hasSz_lstM, cond_true, cut_lstU b (by omega), show (b.drop k).take (b.length - k) = b.drop k from List.take_of_length_le (by simp), index_run]
    simp only [Option.bind_some, int_int]
    rcases idx_line (l := b.drop k) (c := 10) with ⟨h3, _⟩ | ⟨m, h3, h4, _⟩
    · rw [bif_pos h3, if_pos h3]; rfl
    · rw [List.length_drop] at h4
      rw [h3, bif_neg (by omega), if_neg (by omega), wrap64 (n := (k : Int) + (m : Int)) (by omega) (by omega), aHi_some (by omega) (by omega), Option.bind_some, show ((k : Int) + (m : Int)).toNat = k + m by omega, aLo_some (by omega) (by omega), Option.bind_some, Int.toNat_natCast, aMx_none, Option.bind_some, hasSz_lstM, cond_true, cut_lstU b (by omega), cells_lstM]
      simp only [Option.bind_some, bytesFrom_bytesC]
      rw [show k + m - k = m by omega, wrap64 (by omega) (by omega), Int.toNat_natCast]
      rfl
end Go.Proofs.YtmjbjgbcpaagmaaDoor

namespace Go.Proofs.YtmjbjgbcpaagmaaDoor
open Go.RowKit

structure Still (h h' : AHeap) : Prop where
  at_ : ∀ (n : Nat) (p : Pt) (cs : List AVal), h.cellsAt n p = some cs → h'.cellsAt n p = some cs
  cell : ∀ (p : Pt) (v : AVal), h.cell p = some v → h'.cell p = some v
  cells : ∀ (sz : Nat) (s : Sl) (cs : List AVal), h.sliceCells sz s = some cs → h'.sliceCells sz s = some cs
theorem Still.refl (h : AHeap) : Still h h := ⟨fun _ _ _ h => h, fun _ _ h => h, fun _ _ _ h => h⟩
theorem Still.trans {a b c : AHeap} (h : Still a b) (k : Still b c) : Still a c := ⟨fun n p cs q => k.1 n p cs (h.1 n p cs q), fun p v q => k.2 p v (h.2 p v q), fun sz s cs q => k.3 sz s cs (h.3 sz s cs q)⟩
theorem Still.ext {h h' : AHeap} (hk : Keeps h h' fun _ => False) : Still h h' :=
  ⟨fun n p cs q => by
    cases p with
    | nil => exact q
    | fp => exact q
    | mk r l => exact cellsAt_keep hk (fun h => h) q,
   fun p v q => by
    cases p with
    | nil => exact q
    | fp => exact q
    | mk r l => exact cell_keep hk (fun h => h) q,
   fun sz s cs q => sliceCells_ext hk q⟩
theorem Still.mark (h : AHeap) (ids : List Nat) : Still h (h.markRo ids) := ⟨fun n p cs q => by rw [cellsAt_mark]; exact q, fun p v q => by rw [cell_mark]; exact q, fun sz s cs q => by rw [sliceCells_mark]; exact q⟩
theorem Sep0.still {h0 h : AHeap} {L : List Chunk} (hs : Sep0 h0 h L) : Still h0 h := Still.ext hs.ext
end Go.Proofs.YtmjbjgbcpaagmaaDoor

namespace Go.Proofs.YtmjbjgbcpaagmaaDoor
open Go.RowKit

theorem gat_run (fuel d : Nat) {j : Nat} (hj : j < 7) (p : Int) (h : AHeap) : run fuel (d + 1) F_aig_at [.int .i64 p, errN j] h = some (atV p (errN j), h) := by
  have key : ∃ h', brun fuel (d + 1) F_aig_at [.int .i64 p, errN j] AHeap.none = some (.iface T_p_api_At (.ptr (.mk ⟨AHeap.none.next, 0, 0⟩ 2)), h') ∧ h' = AHeap.none.push 1 [.int .i64 p, errN j] := by
    refine ⟨_, ?_, rfl⟩
    rw [e_aig_at]
    rcases seven hj with rfl | rfl | rfl | rfl | rfl | rfl | rfl <;> rfl
  obtain ⟨h', e, rfl⟩ := key
  refine pure_of rfl rfl (cc2 rfl (errN_canon hj 4)) e ?_
  rcases seven hj with rfl | rfl | rfl | rfl | rfl | rfl | rfl <;> rfl
theorem gat0 (fuel d : Nat) (p : Int) (h : AHeap) : run fuel (d + 1) F_aig_at [.int .i64 p, err_api_ErrText] h = some (atV p err_api_ErrText, h) := gat_run fuel d (j := 0) (by omega) p h
theorem gatC (fuel d : Nat) {c : Int} (hc : c = 101 ∨ c = 102) (p : Int) (h : AHeap) : run fuel (d + 1) F_aig_at [.int .i64 p, errC c] h = some (atV p (errC c), h) := by
  rcases hc with rfl | rfl
  · exact gat_run fuel d (j := 0) (by omega) p h
  · exact gat_run fuel d (j := 1) (by omega) p h

/-! a row that is seen by a call -/
theorem reachU_mk (h : AHeap) (m : Nat) (r : Ref) (n : Nat) (c : Bool) : reachV h (m + 1) (.slice (.mk r n c)) = (bif Nat.beq n 0 then [] else
      match h.rows[r.id]? with
        | some row => r.id :: (match h.sliceCells row.sz (.mk r n false) with | some cs => cs.flatMap (reachV h m) | .none => [])
        | .none => []) := rfl
theorem reachU_int (h : AHeap) (m : Nat) (k : IntKind) (x : Int) : reachV h (m + 1) (.int k x) = [] := rfl
theorem reachU_bool (h : AHeap) (m : Nat) (b : Bool) : reachV h (m + 1) (.bool b) = [] := rfl
theorem reach_bytes {h : AHeap} {r : Ref} {n : Nat} {c : Bool} {l : List UInt8} (hs : h.sliceCells 1 (.mk r n c) = some (bytesC l)) (q : Bool) : ∀ i ∈ [AVal.slice (.mk r n c), .bool q].flatMap (reachV h 8), i = r.id := by
  intro i hi
  rw [List.flatMap_cons, List.flatMap_cons, List.flatMap_nil, List.append_nil, reachU_mk, reachU_bool, List.append_nil] at hi
  by_cases h0 : n = 0
  · rw [show Nat.beq n 0 = true from by rw [h0]; rfl] at hi
    cases hi
  · obtain ⟨row, q1, q2, q3, q4, q5, q6⟩ := sliceCells_row hs h0
    rw [nbeq_false.2 h0, cond_false, q1] at hi
    simp only [q2] at hi
    have hs2 : h.sliceCells 1 (.mk r n false) = some (bytesC l) := hs
    simp only [hs2] at hi
    rcases List.mem_cons.1 hi with rfl | hi
    · rfl
    · obtain ⟨v, hv, hi⟩ := List.mem_flatMap.1 hi
      obtain ⟨x, _, rfl⟩ := List.mem_map.1 hv
      rw [reachU_int] at hi
      cases hi
theorem split_row (fuel d : Nat) {b : List UInt8} {c : Bool} (hb : b.length < 1000000) (hf : b.length + 2 ≤ fuel) {h : AHeap} {r : Ref} {n : Nat} {q : Bool} (hs : h.sliceCells 1 (.mk r n q) = some (bytesC b)) :
    ∃ h', run fuel (d + 3) F_word_Split [.slice (.mk r n q), .bool c] h = some (.slice (lstW (splitOf b c)), h') ∧ Keeps h h' (· = r.id) := by
  obtain ⟨s', h1, e1, e2⟩ := split_body fuel d hb hf (c := c)
  have hl := sliceCells_len hs
  simp only [List.length_map, Sl.len, Nat.mul_one] at hl
  have hfz : freezeV h 8 (.slice (.mk r n q)) = some (.slice (lstU b)) := by
    rw [freeze_cells hs (m := 7) (us := bytesC b) (mapM_freeze (g := fun b : UInt8 => AVal.int .u8 (b.toNat : Int)) (fun _ => rfl) _), ← hl]
  refine ⟨_, run_fix rfl rfl (canonL_none (i := 0) rfl rfl) (mm2 hfz rfl) e1 e2 rfl, (keeps_mark _).mono fun i _ hi => reach_bytes hs c i hi⟩
theorem Sep0.off {h0 h h' : AHeap} {L : List Chunk} {id n : Nat} {cs : List AVal} (hs : Sep0 h0 h (L ++ [.own 1 id 0 n cs])) (hk : Keeps h h' (· = id)) : Sep0 h0 h' L := by
  have hf : h0.rows.length ≤ id := hs.fresh (.own 1 id 0 n cs) (by simp) id rfl
  refine ⟨hs.init.sep.keep hk fun c hc r hr e => ?_, keeps_new hs.ext hk fun i hi => by subst hi; exact hf, hs.init.fresh⟩
  subst e
  have := (List.pairwise_append.1 hs.sep.far).2.2 c hc (.own 1 r 0 n cs) (by simp)
  exact this.1 r hr rfl

abbrev grCh (r : Nat) (b : List UInt8) (k : Nat) : Chunk := .own 1 r 0 2 [.slice (lstU b), .int .i64 (k : Int)]
abbrev gP (r : Nat) : Pt := .mk ⟨r, 0, 0⟩ 2
section
variable (fuel d : Nat) {h0 : AHeap} {r : Nat} {b : List UInt8}
theorem gr_c0 {h : AHeap} {L : List Chunk} {j k : Nat} (hs : Sep0 h0 h L) (hj : L[j]? = some (grCh r b k)) : h.cell (.mk ⟨r, 0, 0 + 0⟩ 2) = some (.slice (lstU b)) := hs.part hj (by omega) rfl
theorem gr_c1 {h : AHeap} {L : List Chunk} {j k : Nat} (hs : Sep0 h0 h L) (hj : L[j]? = some (grCh r b k)) : h.cell (.mk ⟨r, 0, 0 + 1⟩ 2) = some (.int .i64 (k : Int)) := hs.part hj (by omega) rfl
theorem gline_loop {W : List Wd} (hW : W.length < 1000000) {R : List Chunk} : ∀ (n k : Nat) (s : Sl) (h : AHeap), W.length < n + k → k ≤ W.length → Sep0 h0 h (.grown 1 s (strsC ((W.take k).map (·.text))) :: R) →
    ∃ s' h', l_aig_reader_line_0 fuel d n [(10, .slice s), (47, .slice (lstW W)), (48, .int .i64 (W.length : Int)), (49, .int .i64 (k : Int))] h = some (.exit 0, [(10, .slice s')], h') ∧ Sep0 h0 h' (.grown 1 s' (strsC (W.map (·.text))) :: R) := by
  intro n
  induction n with
  | zero => intro k s h h1 h2; omega
  | succ n ih =>
    intro k s h h1 h2 hs
    have hsl := hs.len (i := 0) rfl
    simp only [List.length_map, List.length_take, Nat.mul_one] at hsl
    rw [l_aig_reader_line_0_eq]
    by_cases hk : k < W.length
    · rw [bif_pos (by omega), waddr h hk, Option.bind_some, cellsAt_fp (wdC_len _), Option.bind_some, cond_pos _ _ (show (!false && Nat.beq (List.length (wdC (W.getD k ⟨[], 0, false⟩))) 3 && List.all (wdC (W.getD k ⟨[], 0, false⟩)) AVal.isCell) = true from rfl)]
      have s1 := (hs.push 1 3 (cs := [(.str (⟨#[]⟩ : ByteArray)), (.int .i64 (0 : Int)), (.bool false)]) rfl).cons
      obtain ⟨h3, e3, s3⟩ := s1.putAll (i := 0) (vs := wdC (W.getD k ⟨[], 0, false⟩)) rfl rfl rfl
      have c0 : h3.cell (.mk ⟨h.next, 0, 0 + 0⟩ 3) = some (.str (tx (W.getD k ⟨[], 0, false⟩).text)) := s3.part (i := 0) rfl (by omega) rfl
      have s4 : Sep0 h0 h3 (.grown 1 s (strsC ((W.take k).map (·.text))) :: R) := s3.tail
      obtain ⟨s', h', e1, s5, _⟩ := s4.grow (i := 0) (bytes := 16) (m := 1) (vs := [.str (tx (W.getD k ⟨[], 0, false⟩).text)]) rfl rfl (by omega) (by omega)
      rw [set0] at s5
      rw [e3, Option.bind_some, field_mk, Option.bind_some, c0, Option.bind_some, str_str, Option.bind_some, e1, Option.bind_some, sucU (by omega)]
      refine ih (k + 1) s' h' (by omega) (by omega) ?_
      rw [take_get hk ⟨[], 0, false⟩, List.map_append, strsC, List.map_append]
      exact s5
    · obtain rfl : k = W.length := by omega
      rw [bif_neg (by omega)]
      rw [List.take_length] at hs
      exact ⟨s, h, rfl, hs⟩
theorem gline_run (hf : b.length + 30 < fuel) (hb : b.length < 1000000) {L : List Chunk} {j k : Nat} {h : AHeap} (many : Nat) (hs : Sep0 h0 h L) (hj : L[j]? = some (grCh r b k)) :
    match lnT (b.drop k) many with
    | none => ∃ h', run fuel (d + 4) F_aig_reader_line [.ptr (gP r), .int .i64 (many : Int)] h = some (.tup [.slice .nil, atV (k : Int) err_api_ErrText], h') ∧ Sep0 h0 h' L
    | some (ws, m) => ∃ h' s, run fuel (d + 4) F_aig_reader_line [.ptr (gP r), .int .i64 (many : Int)] h = some (.tup [.slice s, .nilif], h') ∧ Sep0 h0 h' (.grown 1 s (strsC ws) :: L.set j (grCh r b (k + m))) ∧ ws.length = many := by
  rw [e_aig_reader_line]
  simp only [chk_mk, field_mk, Option.bind_some, gr_c0 hs hj, gr_c1 hs hj, slice_slice, int_int]
  rw [tLine_run fuel d hb]
  have bad : ∀ (t : List UInt8) (x : Int) (is : Bool), t.length ≤ b.length → (is = false ∨ (splitOf t false).length ≠ many) →
      ∃ h', ((some (tupL (t, x, is), h)).bind fun r9 =>
    (bif AVal.isTup 3 r9.1 then ((AVal.comp 0 r9.1).bind fun u10 =>
    (AVal.str? u10).bind fun s11 =>
    (AVal.comp 1 r9.1).bind fun u12 =>
    (AVal.int? .i64 u12).bind fun n13 =>
    (AVal.comp 2 r9.1).bind fun u14 =>
    (AVal.bool? u14).bind fun b15 =>
    (run fuel (d + 3) F_word_Split [(.slice (Sl.mk ⟨AHeap.next r9.2, 0, 0⟩ (ByteArray.size s11) false)), (.bool false)] (AHeap.push r9.2 1 (bytesOf s11))).bind fun r16 =>
    (AVal.slice? r16.1).bind fun s17 =>
    (bif (bif (!b15) then true else (!decide (((s17.len : Nat) : Int) = (many : Int)))) then ((AHeap.cell r16.2 (.mk ⟨r, 0, 0 + 1⟩ 2)).bind fun u20 =>
    (AVal.int? .i64 u20).bind fun n21 =>
    (run fuel (d + 3) F_aig_at [(.int .i64 n21), err_api_ErrText] r16.2).bind fun r22 =>
    some ((AVal.tup [(.slice Sl.nil), r22.1]), r22.2)) else ((AHeap.storeAt r16.2 [(.int .i64 n13)] (.mk ⟨r, 0, 0 + 1⟩ 2)).bind fun h25 =>
    (l_aig_reader_line_0 fuel (d + 3) fuel [(10, (.slice Sl.nil)), (47, (.slice s17)), (48, (.int .i64 ((s17.len : Nat) : Int))), (49, (.int .i64 (0 : Int)))] h25).bind fun p26 =>
    k_aig_reader_line_0 fuel (d + 3) p26.1 p26.2.1 p26.2.2))) else none)) = some (.tup [.slice .nil, atV (k : Int) err_api_ErrText], h') ∧ Sep0 h0 h' L := by
    intro t x is ht hbad
    have s1 := hs.push 1 t.length (cs := bytesC t) (by simp)
    have hcl := (s1.sep.own (i := L.length) List.getElem?_concat_length).cells false
    obtain ⟨h2, e2, k2⟩ := split_row fuel d (b := t) (c := false) (by omega) (by omega) hcl
    have s2 := s1.off k2
    refine ⟨h2, ?_, s2⟩
    rw [Option.bind_some]
    simp only [tupL, tup3, cond_true, comp0, comp1, comp2, Option.bind_some, str_str, int_int, bool_bool]
    rw [show (⟨t.toArray⟩ : ByteArray) = tx t from rfl, tx_size, bytesOf_tx, e2]
    simp only [Option.bind_some, slice_slice]
    rw [len_lst, cond_pos _ _ (by
      rcases hbad with rfl | hbad
      · rfl
      · cases is
        · rfl
        · rw [Bool.not_true, cond_false, decide_eq_false (by omega)]; rfl), gr_c1 s2 hj]
    simp only [Option.bind_some, int_int]
    rw [gat0 fuel (d + 2)]
    rfl
  unfold lineI lnT
  by_cases hk : (k : Int) < 0 ∨ (b.length : Int) ≤ (k : Int)
  · rw [if_pos hk, if_pos (by rw [List.drop_eq_nil_of_le (by omega)]; simp [Lib.indexByte])]
    exact bad [] 0 false (by simp) (.inl rfl)
  rw [if_neg hk, Int.toNat_natCast]
  by_cases hi : Lib.indexByte (b.drop k) 10 < 0
  · rw [if_pos hi, if_pos hi]
    exact bad [] 0 false (by simp) (.inl rfl)
  rw [if_neg hi, if_neg hi]
  obtain ⟨m, hm⟩ : ∃ m : Nat, Lib.indexByte (b.drop k) 10 = (m : Int) := ⟨(Lib.indexByte (b.drop k) 10).toNat, by omega⟩
  rw [hm, Int.toNat_natCast]
  have hmb : m < (b.drop k).length := by
    rcases index_lt (b.drop k) 10 with h | ⟨h, h2⟩
    · omega
    · rw [h2] at hm; omega
  rw [List.length_drop] at hmb
  have htl : ((b.drop k).take m).length = m := by simp; omega
  generalize (b.drop k).take m = t at htl
  simp only [List.length_map]
  by_cases hw : (splitOf t false).length = many
  · rw [if_pos hw]
    have s1 := hs.push 1 t.length (cs := bytesC t) (by simp)
    have hcl := (s1.sep.own (i := L.length) List.getElem?_concat_length).cells false
    obtain ⟨h2, e2, k2⟩ := split_row fuel d (b := t) (c := false) (by omega) (by omega) hcl
    have s2 := s1.off k2
    obtain ⟨h3, e3, s3⟩ := s2.put (i := j) (o := 1) (l := 2) (vs := [.int .i64 ((k + (m + 1) : Nat) : Int)]) hj (by simp) (by simp)
    have s3' : Sep0 h0 h3 (L.set j (grCh r b (k + (m + 1)))) := s3
    have hl := split_len t false
    obtain ⟨s', h4, e4, s4⟩ := gline_loop fuel (d + 3) (W := splitOf t false) (by omega) fuel 0 .nil h3 (by omega) (by omega) (s3'.addNil 1).cons
    refine ⟨h4, s', ?_, s4, by simpa using hw⟩
    rw [Option.bind_some]
    simp only [tupL, tup3, cond_true, comp0, comp1, comp2, Option.bind_some, str_str, int_int, bool_bool]
    rw [show (⟨t.toArray⟩ : ByteArray) = tx t from rfl, tx_size, bytesOf_tx, e2]
    simp only [Option.bind_some, slice_slice]
    rw [len_lst, Bool.not_true, cond_false, bif_npos (by omega), show (k : Int) + (m : Int) + 1 = ((k + (m + 1) : Nat) : Int) by omega, show (0 + 1 : Nat) = 1 from rfl, e3]
    simp only [Option.bind_some]
    rw [show ((0 : Nat) : Int) = 0 from rfl] at e4
    rw [e4, Option.bind_some, k_aig_reader_line_0_x0]
  · rw [if_neg hw]
    exact bad t _ true (by omega) (.inr hw)

theorem shl_or {i acc m : Nat} (hi : i ≤ 4) (ha : acc < 128 ^ i) (hm : m < 128) : bitsOp .or .i64 (acc : Int) (IntKind.wrap .i64 ((IntKind.wrap .i64 (m : Int)) * 2 ^ min (Int.toNat (IntKind.wrap .i64 ((7 : Int) * (i : Int)))) (IntKind.bits .i64))) = ((acc + m * 128 ^ i : Nat) : Int) := by
  have hp : (128 : Nat) ^ i = 2 ^ (7 * i) := by rw [Nat.pow_mul]
  have hb : (128 : Nat) ^ i ≤ 268435456 := Nat.le_trans (Nat.pow_le_pow_right (by omega) hi) (by omega)
  have hmul : m * 128 ^ i ≤ 127 * 268435456 := Nat.mul_le_mul (by omega) hb
  rw [wrap64 (n := (m : Int)) (by omega) (by omega), wrap64 (n := (7 : Int) * (i : Int)) (by omega) (by omega), show ((7 : Int) * (i : Int)).toNat = 7 * i by omega, show IntKind.bits .i64 = 64 from rfl, Nat.min_eq_left (by omega)]
  have e : (m : Int) * 2 ^ (7 * i) = ((m * 2 ^ (7 * i) : Nat) : Int) := by simp
  rw [hp] at ha hmul ⊢
  rw [e, wrap64 (by omega) (by omega), orsh ha (by omega)]
theorem gnumR_loop {L : List Chunk} {j k : Nat} {h : AHeap} (hb : b.length < 1000000) (hk9 : k < 1000000000) (lo hi : Int) (hs : Sep0 h0 h L) (hj : L[j]? = some (grCh r b k)) : ∀ (n i acc : Nat), 5 < n + i → i ≤ 5 → acc < 128 ^ i →
    match (numT (5 - i) i acc (b.drop (k + i))).bind (fun p => if lo ≤ (p.1 : Int) ∧ (p.1 : Int) ≤ hi then some ((p.1 : Int), p.2) else none) with
    | none => l_aig_reader_number_0 fuel d n [(0, .ptr (gP r)), (1, .int .i64 lo), (2, .int .i64 hi), (8, .int .i64 (acc : Int)), (11, .int .i64 (i : Int))] h = some (.exit 0, [(0, .ptr (gP r)), (6, .bot), (7, .bot)], h)
    | some (v, m) => ∃ h', l_aig_reader_number_0 fuel d n [(0, .ptr (gP r)), (1, .int .i64 lo), (2, .int .i64 hi), (8, .int .i64 (acc : Int)), (11, .int .i64 (i : Int))] h = some (.ret, [(0, .ptr (gP r)), (6, .int .i64 v), (7, .nilif)], h') ∧ Sep0 h0 h' (L.set j (grCh r b (k + m))) := by
  intro n
  induction n with
  | zero => intro i acc h1 h2; omega
  | succ n ih =>
    intro i acc h1 h2 ha
    rw [l_aig_reader_number_0_eq]
    by_cases hi5 : i < 5
    · rw [bif_pos (by omega), show 5 - i = (5 - (i + 1)) + 1 by omega]
      simp only [chk_mk, field_mk, Option.bind_some, gr_c0 hs hj, gr_c1 hs hj, slice_slice, int_int]
      rw [len_lst, show IntKind.wrap .i64 ((k : Int) + (i : Int)) = ((k + i : Nat) : Int) by rw [wrap64 (by omega) (by omega)]; omega]
      by_cases hk : k + i < b.length
      · rw [bif_neg (by omega), addr_lstM _ (by omega) (by omega) 0, Int.toNat_natCast, drop_cons hk]
        generalize b.getD (k + i) 0 = c
        simp only [Option.bind_some, cell_fp, int_int]
        have hc := c.toNat_lt
        rw [bif_neg (show ¬ IntKind.wrap .i64 ((7 : Int) * (i : Int)) < 0 by rw [wrap64 (by omega) (by omega)]; omega), and127u c.toNat (by omega), shl_or (by omega) ha (Nat.mod_lt _ (by omega))]
        unfold numT
        have hp : 128 ^ (i + 1) = 128 * 128 ^ i := by rw [Nat.pow_succ, Nat.mul_comm]
        have hml : c.toNat % 128 * 128 ^ i ≤ 127 * 128 ^ i := Nat.mul_le_mul_right _ (by omega)
        have hlt : acc + c.toNat % 128 * 128 ^ i < 128 ^ (i + 1) := by omega
        generalize acc + c.toNat % 128 * 128 ^ i = v at hlt
        by_cases hge : 128 ≤ c.toNat
        · rw [bif_pos (by omega), if_pos hge, sucU (by omega)]
          have := ih (i + 1) v (by omega) (by omega) hlt
          rw [← Nat.add_assoc] at this
          exact this
        · rw [bif_neg (by omega), if_neg hge, Option.bind_some]
          simp only
          by_cases hr : lo ≤ (v : Int) ∧ (v : Int) ≤ hi
          · rw [if_pos hr, decide_eq_false (by omega), decide_eq_false (by omega)]
            obtain ⟨h', e1, s1⟩ := hs.put (i := j) (o := 1) (l := 2) (vs := [.int .i64 ((k + (i + 1) : Nat) : Int)]) hj (by simp) (by simp)
            refine ⟨h', ?_, s1⟩
            simp only [cond_false]
            rw [show IntKind.wrap .i64 ((k : Int) + IntKind.wrap .i64 ((i : Int) + 1)) = ((k + (i + 1) : Nat) : Int) by rw [sucU (by omega), wrap64 (by omega) (by omega)]; omega, show (0 + 1 : Nat) = 1 from rfl, e1]
            rfl
          · rw [if_neg hr, cond_pos]
            by_cases hlo : (v : Int) < lo
            · rw [decide_eq_true hlo]; rfl
            · rw [decide_eq_false hlo, decide_eq_true (by omega)]; rfl
      · rw [bif_pos (by omega), List.drop_eq_nil_of_le (by omega)]
        rfl
    · obtain rfl : i = 5 := by omega
      rw [bif_neg (by omega)]
      rfl
theorem gnumR_run (hf : 30 < fuel) {L : List Chunk} {j k : Nat} {h : AHeap} (hb : b.length < 1000000) (hk9 : k < 1000000000) (lo hi : Int) (hs : Sep0 h0 h L) (hj : L[j]? = some (grCh r b k)) :
    match delG (b.drop k) lo hi with
    | none => run fuel (d + 2) F_aig_reader_number [.ptr (gP r), .int .i64 lo, .int .i64 hi] h = some (.tup [.int .i64 0, atV (k : Int) err_api_ErrText], h)
    | some (v, m) => ∃ h', run fuel (d + 2) F_aig_reader_number [.ptr (gP r), .int .i64 lo, .int .i64 hi] h = some (.tup [.int .i64 v, .nilif], h') ∧ Sep0 h0 h' (L.set j (grCh r b (k + m))) := by
  have hl := gnumR_loop fuel (d + 1) hb hk9 lo hi hs hj fuel 0 0 (by omega) (by omega) (by simp)
  rw [show ((0 : Nat) : Int) = 0 from rfl, Nat.add_zero, Nat.sub_zero] at hl
  rw [e_aig_reader_number]
  unfold delG
  cases hq : (numT 5 0 0 (b.drop k)).bind (fun p => if lo ≤ (p.1 : Int) ∧ (p.1 : Int) ≤ hi then some ((p.1 : Int), p.2) else none) with
  | none =>
    rw [hq] at hl
    simp only at hl ⊢
    rw [hl, Option.bind_some, k_aig_reader_number_0_x0]
    simp only [chk_mk, field_mk, Option.bind_some, gr_c1 hs hj, int_int]
    rw [gat0 fuel d]
    rfl
  | some vm =>
    obtain ⟨v, m⟩ := vm
    rw [hq] at hl
    obtain ⟨h', e1, s1⟩ := hl
    refine ⟨h', ?_, s1⟩
    rw [e1, Option.bind_some, k_aig_reader_number_0_r]
end
end Go.Proofs.YtmjbjgbcpaagmaaDoor

namespace Go.Proofs.YtmjbjgbcpaagmaaDoor
open Go.RowKit

theorem delG_len {r : List UInt8} {lo hi : Int} {v : Int} {m : Nat} (h : delG r lo hi = some (v, m)) : lo ≤ v ∧ v ≤ hi ∧ m ≤ 5 := by
  have key : ∀ (f i a : Nat) (r : List UInt8) (p : Nat × Nat), numT f i a r = some p → p.2 ≤ i + f := by
    intro f
    induction f with
    | zero => intro i a r p h; cases h
    | succ f ih =>
      intro i a r p h
      cases r with
      | nil => cases h
      | cons c r =>
        unfold numT at h
        split at h
        · have := ih _ _ _ _ h
          omega
        · cases h
          simp only
          omega
  unfold delG at h
  cases hn : numT 5 0 0 r with
  | none => rw [hn] at h; cases h
  | some p =>
    rw [hn, Option.bind_some] at h
    have := key 5 0 0 r p hn
    split at h
    · rename_i hp
      cases h
      exact ⟨hp.1, hp.2, by omega⟩
    · cases h
section
variable (fuel d : Nat) (hf : 30 < fuel) {h0 : AHeap} {r : Nat} {b : List UInt8} (hb : b.length < 1000000)
include hf hb
theorem gands_loop {I : Nat} {i : Int} (hI : I ≤ 10000) (hi : 0 ≤ i ∧ i ≤ 10000) {j : Nat} : ∀ (n m p : Nat) (A : List (Int × Int)) (s : Sl) (L : List Chunk) (h : AHeap), I < n + m → m ≤ I → p + 20 * (I - m) < 900000000 → A.length = m → Sep0 h0 h (.grown 2 s (pairsC A) :: L) → L[j]? = some (grCh r b p) →
    match andsG b i m (I - m) p A with
    | .error q => ∃ h' s' p', l_aig_reader_ands_0 fuel (d + 2) n [(0, .ptr (gP r)), (1, .int .i64 i), (8, .slice s), (15, .int .i64 (I : Int)), (16, .int .i64 (m : Int))] h = some (.ret, [(6, .slice .nil), (7, atV q err_api_ErrText), (8, .slice s')], h') ∧ Sep0 h0 h' (L.set j (grCh r b p'))
    | .ok (A', p') => ∃ h' s', l_aig_reader_ands_0 fuel (d + 2) n [(0, .ptr (gP r)), (1, .int .i64 i), (8, .slice s), (15, .int .i64 (I : Int)), (16, .int .i64 (m : Int))] h = some (.exit 0, [(6, .bot), (7, .bot), (8, .slice s')], h') ∧ Sep0 h0 h' (.grown 2 s' (pairsC A') :: L.set j (grCh r b p')) ∧ p' ≤ p + 10 * (I - m) := by
  intro n
  induction n with
  | zero => intro m p A s L h h1 h2; omega
  | succ n ih =>
    intro m p A s L h h1 h2 hp9 hA hs hj
    have hsl := hs.len (i := 0) rfl
    rw [pairsC_len] at hsl
    rw [l_aig_reader_ands_0_eq]
    by_cases hm : m < I
    · rw [bif_pos (by omega), wrap64 (n := i + (m : Int)) (by omega) (by omega), wrap64 (n := i + (m : Int) + 1) (by omega) (by omega), wrap64 (n := 2 * (i + (m : Int) + 1)) (by omega) (by omega), show I - m = (I - (m + 1)) + 1 by omega]
      have hj1 : (Chunk.grown 2 s (pairsC A) :: L)[j + 1]? = some (grCh r b p) := hj
      have n1 := gnumR_run fuel d hf hb (by omega) 1 (2 * (i + (m : Int) + 1)) hs hj1
      unfold andsG
      cases q1 : delG (b.drop p) 1 (2 * (i + (m : Int) + 1)) with
      | none =>
        rw [q1] at n1
        refine ⟨h, s, p, ?_, ?_⟩
        · simp only at n1
          rw [n1]
          rfl
        · rw [set_self hj]
          exact hs.tail
      | some xm =>
        obtain ⟨x, k1⟩ := xm
        obtain ⟨x0, x1, x2⟩ := delG_len q1
        rw [q1] at n1
        obtain ⟨h1', e1, s1⟩ := n1
        have s1' : Sep0 h0 h1' (.grown 2 s (pairsC A) :: L.set j (grCh r b (p + k1))) := s1
        rw [e1]
        simp only [Option.bind_some, tup2, cond_true, comp0, comp1, int_int, nilTest_nilif, Bool.not_true, cond_false]
        rw [wrap64 (n := 2 * (i + (m : Int) + 1) - x) (by omega) (by omega)]
        have hj2 : (Chunk.grown 2 s (pairsC A) :: L.set j (grCh r b (p + k1)))[j + 1]? = some (grCh r b (p + k1)) := get_set hj _
        have n2 := gnumR_run fuel d hf hb (by omega) 0 (2 * (i + (m : Int) + 1) - x) s1' hj2
        cases q2 : delG (b.drop (p + k1)) 0 (2 * (i + (m : Int) + 1) - x) with
        | none =>
          rw [q2] at n2
          refine ⟨h1', s, p + k1, ?_, s1'.tail⟩
          simp only at n2
          rw [n2]
          rfl
        | some ym =>
          obtain ⟨y, k2⟩ := ym
          obtain ⟨y0, y1, y2⟩ := delG_len q2
          rw [q2] at n2
          obtain ⟨h2', e2, s2⟩ := n2
          have s2' : Sep0 h0 h2' (.grown 2 s (pairsC A) :: L.set j (grCh r b (p + k1 + k2))) := by
            have : Sep0 h0 h2' (.grown 2 s (pairsC A) :: (L.set j (grCh r b (p + k1))).set j (grCh r b (p + k1 + k2))) := s2
            rw [List.set_set] at this
            exact this
          obtain ⟨s', h3', e3, s3, _⟩ := s2'.grow (i := 0) (bytes := 16) (m := 1) (vs := pairC (2 * (i + (m : Int) + 1) - x, 2 * (i + (m : Int) + 1) - x - y)) rfl rfl (by omega) (by omega)
          rw [set0, show pairsC A ++ pairC (2 * (i + (m : Int) + 1) - x, 2 * (i + (m : Int) + 1) - x - y) = pairsC (A ++ [(2 * (i + (m : Int) + 1) - x, 2 * (i + (m : Int) + 1) - x - y)]) by simp [pairsC]] at s3
          have := ih (m + 1) (p + k1 + k2) (A ++ [(2 * (i + (m : Int) + 1) - x, 2 * (i + (m : Int) + 1) - x - y)]) s' (L.set j (grCh r b (p + k1 + k2))) h3' (by omega) (by omega) (by omega) (by simp; omega) s3 (get_set hj _)
          rw [e2]
          simp only [Option.bind_some, tup2, cond_true, comp0, comp1, int_int, nilTest_nilif, Bool.not_true, cond_false]
          rw [wrap64 (n := 2 * (i + (m : Int) + 1) - x - y) (by omega) (by omega), e3]
          simp only [Option.bind_some]
          rw [sucU (by omega)]
          simp only [List.set_set] at this
          cases hg : andsG b i (m + 1) (I - (m + 1)) (p + k1 + k2) (A ++ [(2 * (i + (m : Int) + 1) - x, 2 * (i + (m : Int) + 1) - x - y)]) with
          | error q =>
            rw [hg] at this
            exact this
          | ok Ap =>
            obtain ⟨A', p'⟩ := Ap
            rw [hg] at this
            obtain ⟨h4, s4, t1, t2, t3⟩ := this
            exact ⟨h4, s4, t1, t2, by omega⟩
    · obtain rfl : m = I := by omega
      rw [bif_neg (by omega), Nat.sub_self]
      unfold andsG
      refine ⟨h, s, rfl, ?_, by omega⟩
      rw [set_self hj]
      exact hs
theorem gands_run {I : Nat} {i : Int} (hI : I ≤ 10000) (hi : 0 ≤ i ∧ i ≤ 10000) (hfI : 10000 < fuel) {j p : Nat} {L : List Chunk} {h : AHeap} (hp : p < 10000000) (hs : Sep0 h0 h L) (hj : L[j]? = some (grCh r b p)) :
    match andsG b i 0 I p [] with
    | .error q => ∃ h' p', run fuel (d + 3) F_aig_reader_ands [.ptr (gP r), .int .i64 i, .int .i64 (I : Int)] h = some (.tup [.slice .nil, atV q err_api_ErrText], h') ∧ Sep0 h0 h' (L.set j (grCh r b p'))
    | .ok (A', p') => ∃ h' s', run fuel (d + 3) F_aig_reader_ands [.ptr (gP r), .int .i64 i, .int .i64 (I : Int)] h = some (.tup [.slice s', .nilif], h') ∧ Sep0 h0 h' (.grown 2 s' (pairsC A') :: L.set j (grCh r b p')) ∧ p' ≤ p + 10 * I := by
  have hl := gands_loop fuel d hf hb (h0 := h0) (r := r) hI hi (j := j) fuel 0 p [] .nil L h (by omega) (by omega) (by omega) rfl (hs.addNil 2).cons hj
  rw [Nat.sub_zero, show ((0 : Nat) : Int) = 0 from rfl] at hl
  rw [e_aig_reader_ands]
  cases hq : andsG b i 0 I p [] with
  | error q =>
    rw [hq] at hl
    obtain ⟨h', s', p', e1, s1⟩ := hl
    refine ⟨h', p', ?_, s1⟩
    rw [e1, Option.bind_some, k_aig_reader_ands_0_r]
  | ok Ap =>
    obtain ⟨A', p'⟩ := Ap
    rw [hq] at hl
    obtain ⟨h', s', e1, s1, hp'⟩ := hl
    refine ⟨h', s', ?_, s1, hp'⟩
    rw [e1, Option.bind_some, k_aig_reader_ands_0_x0]
end
theorem strsC_get {h : AHeap} {s : Sl} {ws : List (List UInt8)} (hg : Grown h 1 s (strsC ws)) (q : Int) (p : Nat) (hq : q = p) (hp : p < ws.length) : h.addr 1 s q = some (s.at 1 q) ∧ h.cell (s.at 1 q) = some (.str (tx (ws.getD p []))) := by
  have hl := hg.len
  rw [List.length_map, Nat.mul_one] at hl
  subst hq
  refine ⟨addr_at hg.cells (by omega) (by omega), cell_at hg.cells (by omega) ?_⟩
  rw [Int.toNat_natCast, List.getElem?_map, List.getElem?_eq_getElem hp, List.getD_eq_getElem?_getD, List.getElem?_eq_getElem hp]; rfl
section
variable (fuel d : Nat) (hf : 30 < fuel) {h0 : AHeap} {N R : Nat} {ws : List (List UInt8)} {s : Sl}
include hf
theorem ghead_loop (hw : ws.length = 6) {X : List Chunk} : ∀ (n k : Nat) (is : Bool) (nn : List Int) (h : AHeap), 6 < n + k → 1 ≤ k → k ≤ 6 → nn.length = 6 → (is = true → nn.take k = 0 :: ((ws.take k).drop 1).map numW) → Sep0 h0 h (.grown 1 s (strsC ws) :: .own 1 N 0 6 (intsC nn) :: X) →
    ∃ h' nn', l_aig_reader_head_0 fuel (d + 4) n [(2, .ptr (nP R)), (4, .ptr (nP N)), (5, .slice s), (7, .bool is), (8, .int .i64 (k : Int))] h = some (.exit 0, [(2, .ptr (nP R)), (4, .ptr (nP N)), (7, .bool (is && (ws.drop k).all plainW))], h') ∧ nn'.length = 6 ∧ ((is && (ws.drop k).all plainW) = true → nn' = 0 :: (ws.drop 1).map numW) ∧ Sep0 h0 h' (.grown 1 s (strsC ws) :: .own 1 N 0 6 (intsC nn') :: X) := by
  intro n
  induction n with
  | zero => intro k is nn h h1 h2; omega
  | succ n ih =>
    intro k is nn h h1 h2 h3 hn htk hs
    rw [l_aig_reader_head_0_eq]
    cases is with
    | false =>
      rw [cond_neg _ _ (show (bif decide ((k : Int) < 6) then false else false) = false by cases decide ((k : Int) < 6) <;> rfl)]
      exact ⟨h, nn, rfl, hn, (fun h => by cases h), hs⟩
    | true =>
      by_cases hk : k < 6
      · obtain ⟨g1, g2⟩ := strsC_get (hs.sep.grown (i := 0) rfl) (k : Int) k rfl (by omega)
        rw [decide_eq_true (show (k : Int) < 6 by omega), cond_true, cond_true, g1, Option.bind_some, g2, Option.bind_some, str_str, Option.bind_some, plain_run fuel d (by omega)]
        simp only [Option.bind_some, tup2, cond_true, comp0, comp1, int_int, bool_bool]
        rw [elem6 hk, Option.bind_some]
        have hd : ws.drop k = ws.getD k [] :: ws.drop (k + 1) := drop_get (by omega) []
        obtain ⟨h1', e1, s1⟩ := hs.put (i := 1) (o := k) (l := 6) (vs := [.int .i64 (if plainW (ws.getD k []) = true then numW (ws.getD k []) else 0)]) rfl (by simp; omega) (by simp; omega)
        rw [set1, show [AVal.int .i64 (if plainW (ws.getD k []) = true then numW (ws.getD k []) else 0)].length = 1 from rfl, intsC_set (by omega)] at s1
        rw [e1, Option.bind_some, sucU (by omega), hd]
        have := ih (k + 1) (plainW (ws.getD k [])) (nn.set k (if plainW (ws.getD k []) = true then numW (ws.getD k []) else 0)) h1' (by omega) (by omega) (by omega) (by rw [List.length_set]; exact hn) (fun hp => by
          rw [take_get (by rw [List.length_set]; omega) 0, List.take_set_of_le (Nat.le_refl _), htk rfl, if_pos hp, take_get (l := ws) (by omega) [], List.drop_append_of_le_length (by simp; omega), List.map_append]
          simp [List.getD_eq_getElem?_getD, show k < nn.length by omega]) s1
        simp only [List.all_cons, Bool.true_and]
        exact this
      · obtain rfl : k = 6 := by omega
        rw [decide_eq_false (by omega), cond_false, cond_false, List.drop_eq_nil_of_le (by omega)]
        refine ⟨h, nn, rfl, hn, fun _ => ?_, hs⟩
        have := htk rfl
        rw [List.take_of_length_le (by omega), List.take_of_length_le (by omega)] at this
        exact this
end
section
variable (fuel d : Nat) {h0 : AHeap} {r : Nat} {b : List UInt8}
theorem plain_range {ws : List (List UInt8)} (h : (ws.drop 1).all plainW = true) {k : Nat} (hk : 1 ≤ k) (hl : k < ws.length) : 0 ≤ numW (ws.getD k []) ∧ numW (ws.getD k []) ≤ 999999999 := by
  refine plainW_range (List.all_eq_true.1 h _ ?_)
  have : (ws.drop 1)[k - 1]? = some (ws.getD k []) := by
    rw [List.getElem?_drop, show 1 + (k - 1) = k by omega, List.getD_eq_getElem?_getD, List.getElem?_eq_getElem hl]; rfl
  exact List.mem_of_getElem? this
theorem ghead_run (hf : b.length + 30 < fuel) (hb : b.length < 1000000) {L : List Chunk} {j : Nat} {h : AHeap} (hs : Sep0 h0 h L) (hj : L[j]? = some (grCh r b 0)) :
    match headG b with
    | .error c => ∃ h' k' nn, run fuel (d + 6) F_aig_reader_head [.ptr (gP r)] h = some (.tup [.agg (intsC nn), atV 0 (errC c)], h') ∧ nn.length = 6 ∧ Sep0 h0 h' (L.set j (grCh r b k'))
    | .ok (N, k) => ∃ h', run fuel (d + 6) F_aig_reader_head [.ptr (gP r)] h = some (.tup [.agg (intsC (0 :: N)), .nilif], h') ∧ Sep0 h0 h' (L.set j (grCh r b k)) ∧ N.length = 5 ∧ (∀ x ∈ N, 0 ≤ x ∧ x ≤ 999999999) ∧ limT (N.getD 0 0) (N.getD 1 0) (N.getD 2 0) (N.getD 3 0) (N.getD 4 0) = none ∧ k ≤ b.length := by
  rw [e_aig_reader_head]
  rw [show [(AVal.int .i64 (0 : Int)), (.int .i64 (0 : Int)), (.int .i64 (0 : Int)), (.int .i64 (0 : Int)), (.int .i64 (0 : Int)), (.int .i64 (0 : Int))] = intsC [0, 0, 0, 0, 0, 0] from rfl]
  have s1 := ((hs.push 1 6 (cs := intsC [0, 0, 0, 0, 0, 0]) rfl).cons.push 1 6 (cs := intsC [0, 0, 0, 0, 0, 0]) rfl).cons
  generalize h.next = R at s1
  generalize (h.push 1 (intsC [0, 0, 0, 0, 0, 0])).next = N at s1
  generalize (h.push 1 (intsC [0, 0, 0, 0, 0, 0])).push 1 (intsC [0, 0, 0, 0, 0, 0]) = H at s1
  have hj2 : (Chunk.own 1 N 0 6 (intsC [0, 0, 0, 0, 0, 0]) :: .own 1 R 0 6 (intsC [0, 0, 0, 0, 0, 0]) :: L)[j + 2]? = some (grCh r b 0) := hj
  have hln := gline_run fuel (d + 1) hf hb 6 s1 hj2
  rw [List.drop_zero, show ((6 : Nat) : Int) = 6 from rfl, show ((0 : Nat) : Int) = 0 from rfl] at hln
  unfold headG
  cases hq : lnT b 6 with
  | none =>
    rw [hq] at hln
    obtain ⟨h1, e1, s2⟩ := hln
    have cN : h1.cellsAt 6 (nP N) = some (intsC [0, 0, 0, 0, 0, 0]) := s2.getAll (i := 0) rfl rfl
    obtain ⟨h', e2, s3⟩ := s2.putAll (i := 1) (vs := intsC [0, 0, 0, 0, 0, 0]) rfl rfl rfl
    have cR : h'.cellsAt 6 (nP R) = some (intsC [0, 0, 0, 0, 0, 0]) := s3.getAll (i := 1) rfl rfl
    refine ⟨h', 0, [0, 0, 0, 0, 0, 0], ?_, rfl, ?_⟩
    · rw [e1]
      simp only [Option.bind_some, tup2, cond_true, comp0, comp1, slice_slice, nilTest_if, Bool.not_false]
      rw [cN, Option.bind_some, all6t rfl, cond_true, e2, Option.bind_some, cR]
      rfl
    · rw [set_self hj]
      exact s3.tail.tail
  | some wk =>
    obtain ⟨ws, k⟩ := wk
    have hkb : k ≤ b.length := by
      unfold lnT at hq
      split at hq
      · cases hq
      · rename_i hi
        simp only at hq
        split at hq
        · cases hq
          rcases index_lt b 10 with h | ⟨_, h⟩ <;> omega
        · cases hq
    rw [hq] at hln
    obtain ⟨h1, s, e1, s2, hw6⟩ := hln
    have s2' : Sep0 h0 h1 (.grown 1 s (strsC ws) :: .own 1 N 0 6 (intsC [0, 0, 0, 0, 0, 0]) :: .own 1 R 0 6 (intsC [0, 0, 0, 0, 0, 0]) :: L.set j (grCh r b (0 + k))) := s2
    rw [Nat.zero_add] at s2'
    obtain ⟨g1, g2⟩ := strsC_get (s2'.sep.grown (i := 0) rfl) (0 : Int) 0 rfl (by omega)
    have hcmp : decide (tx (ws.getD 0 []) = (⟨#[97, 105, 103]⟩ : ByteArray)) = (ws.getD 0 [] == [97, 105, 103]) := by
      have := txt_ne (ws.getD 0 []) [97, 105, 103]
      rw [show tx [97, 105, 103] = (⟨#[97, 105, 103]⟩ : ByteArray) from rfl] at this
      exact Bool.not_inj this
    have hws0 : ws.take 1 = [ws.getD 0 []] := by rw [take_get (by omega) []]; rfl
    obtain ⟨h2, nn, e2, hn6, hnn, s3⟩ := ghead_loop fuel (d + 1) (by omega) (R := R) hw6 fuel 1 (ws.getD 0 [] == [97, 105, 103]) [0, 0, 0, 0, 0, 0] h1 (by omega) (by omega) (by omega) rfl (fun _ => by rw [hws0]; rfl) s2'
    rw [e1]
    simp only [Option.bind_some, tup2, cond_true, comp0, comp1, slice_slice, nilTest_nilif, Bool.not_true, cond_false]
    rw [g1, Option.bind_some, g2, Option.bind_some, str_str, Option.bind_some, hcmp]
    rw [show ((1 : Nat) : Int) = 1 from rfl] at e2
    rw [e2, Option.bind_some, k_aig_reader_head_0_x0]
    have cN : h2.cellsAt 6 (nP N) = some (intsC nn) := s3.getAll (i := 1) rfl (by rw [List.length_map, hn6])
    obtain ⟨h', e3, s4⟩ := s3.putAll (i := 2) (vs := intsC nn) rfl rfl (by rw [List.length_map, hn6])
    have cR : h'.cellsAt 6 (nP R) = some (intsC nn) := s4.getAll (i := 2) rfl (by rw [List.length_map, hn6])
    have s4' : Sep0 h0 h' (L.set j (grCh r b k)) := s4.tail.tail.tail
    cases his : (ws.getD 0 [] == [97, 105, 103] && (ws.drop 1).all plainW) with
    | false =>
      simp only [Bool.false_eq_true, if_false]
      refine ⟨h', k, nn, ?_, hn6, s4'⟩
      rw [Bool.not_false, cond_true, cN, Option.bind_some, gat0 fuel (d + 4), Option.bind_some]
      simp only
      rw [cN, Option.bind_some, same_self, all6t hn6, cond_true, e3, Option.bind_some, cR]
      rfl
    | true =>
      simp only [if_true]
      rw [hnn his] at cN e3 cR hn6
      rw [Bool.and_eq_true] at his
      have p2 := plain_range his.2 (k := 2) (by omega) (by omega)
      have p5 := plain_range his.2 (k := 5) (by omega) (by omega)
      have hws : (ws.drop 1).map numW = [numW (ws.getD 1 []), numW (ws.getD 2 []), numW (ws.getD 3 []), numW (ws.getD 4 []), numW (ws.getD 5 [])] := by
        match ws, hw6 with
        | [a, b, c, d, e, f], _ => rfl
      rw [hws] at cN e3 cR hn6
      have hlim := limits_run fuel (d + 4) (x := 0) (m := numW (ws.getD 1 [])) (i := numW (ws.getD 2 [])) (l := numW (ws.getD 3 [])) (o := numW (ws.getD 4 [])) (a := numW (ws.getD 5 [])) p2 p5 h2
      rw [Bool.not_true, cond_false, cN, Option.bind_some, hlim]
      cases ht : limT (numW (ws.getD 1 [])) (numW (ws.getD 2 [])) (numW (ws.getD 3 [])) (numW (ws.getD 4 [])) (numW (ws.getD 5 [])) with
      | none =>
        refine ⟨h', ?_, s4', by rw [hws]; rfl, fun x hx => ?_, by rw [hws]; exact ht, hkb⟩
        · simp only [limA, Option.bind_some, tup2, cond_true, comp0, comp1, int_int, nilTest_nilif, Bool.not_true, cond_false]
          rw [cN, Option.bind_some, all6 hn6, cond_true, e3, Option.bind_some, cR, hws]
          rfl
        · obtain ⟨t, ht', rfl⟩ := List.mem_map.1 hx
          exact plainW_range (List.all_eq_true.1 his.2 t ht')
      | some kc =>
        obtain ⟨k9, c⟩ := kc
        obtain ⟨hc1, _⟩ := limT_code ht
        refine ⟨h', k, _, ?_, hn6, s4'⟩
        have hnt : nilTest .iface (errC c) = some false := by rcases hc1 with rfl | rfl <;> rfl
        simp only [limA, Option.bind_some, tup2, cond_true, comp0, comp1, int_int, hnt, Bool.not_false, cN]
        rw [gatC fuel (d + 4) hc1, Option.bind_some]
        simp only
        rw [cN, Option.bind_some, same_self, all6t hn6, cond_true, e3, Option.bind_some, cR]
        rfl
end
end Go.Proofs.YtmjbjgbcpaagmaaDoor

namespace Go.Proofs.YtmjbjgbcpaagmaaDoor
open Go.RowKit

theorem lnT_len {r : List UInt8} {many m : Nat} {ws : List (List UInt8)} (h : lnT r many = some (ws, m)) : m ≤ r.length ∧ ws.length = many := by
  unfold lnT at h
  split at h
  · cases h
  · rename_i hi
    simp only at h
    split at h
    · rename_i hw
      cases h
      rcases index_lt r 10 with h | ⟨_, h⟩
      · exact ⟨by omega, hw⟩
      · omega
    · cases h
theorem outsG_len {b : List UInt8} {m : Int} : ∀ {n k : Nat} {acc O : List Int} {k' : Nat}, outsG b m n k acc = .ok (O, k') → k ≤ b.length → O.length = acc.length + n ∧ k' ≤ b.length
  | 0, k, acc, O, k', h, hk => by cases h; exact ⟨rfl, hk⟩
  | n + 1, k, acc, O, k', h, hk => by
    unfold outsG at h
    split at h
    · cases h
    · rename_i ws j hj
      have := (lnT_len hj).1
      rw [List.length_drop] at this
      split at h
      · obtain ⟨h1, h2⟩ := outsG_len h (by omega)
        simp at h1
        exact ⟨by omega, h2⟩
      · cases h
section
variable (fuel d : Nat) {r : Nat} {b : List UInt8}
abbrev grL (R C N : Nat) (i : Int) (nn O : List Int) (sO : Sl) (r : Nat) (b : List UInt8) (k : Nat) : List Chunk :=
  [.grown 1 sO (intsC O), .own 1 C 0 3 [.int .i64 i, .slice .nil, .slice sO], .own 1 N 0 6 (intsC nn), grCh r b k, .own 1 R 0 3 zero3]
variable {R C N : Nat} {nn : List Int} {i : Int}
theorem gread0 (hf : b.length + 30 < fuel) (hb : b.length < 1000000) {I : Nat} (hI : I ≤ 10000) {M : Int} (hM : nn[1]? = some M) (hM0 : 0 ≤ M) (hM9 : M < 1000000) : ∀ (n m k : Nat) (O : List Int) (sO : Sl) (h : AHeap), I < n + m → m ≤ I → k ≤ b.length → O.length = m → Sep0 AHeap.none h (grL R C N i nn O sO r b k) →
    match outsG b M (I - m) k O with
    | .error p => ∃ h' x0 x7, l_aig_Read_0 fuel (d + 6) n [(0, .slice (lstU b)), (2, .ptr (rdP R)), (4, .ptr (gP r)), (5, .ptr (nP N)), (7, .ptr (rdP C)), (36, .int .i64 (I : Int)), (37, .int .i64 (m : Int))] h = some (.ret, [(0, x0), (2, .ptr (rdP R)), (3, atV p err_api_ErrText), (4, .ptr (gP r)), (5, .ptr (nP N)), (7, x7)], h') ∧ h'.cellsAt 3 (rdP R) = some zero3
    | .ok (O', k') => ∃ h' sO', l_aig_Read_0 fuel (d + 6) n [(0, .slice (lstU b)), (2, .ptr (rdP R)), (4, .ptr (gP r)), (5, .ptr (nP N)), (7, .ptr (rdP C)), (36, .int .i64 (I : Int)), (37, .int .i64 (m : Int))] h = some (.exit 0, [(0, .slice (lstU b)), (2, .ptr (rdP R)), (3, .bot), (4, .ptr (gP r)), (5, .ptr (nP N)), (7, .ptr (rdP C))], h') ∧ Sep0 AHeap.none h' (grL R C N i nn O' sO' r b k') := by
  intro n
  induction n with
  | zero => intro m k O sO h h1 h2; omega
  | succ n ih =>
    intro m k O sO h h1 h2 hk9 hO hs
    rw [l_aig_Read_0_eq]
    by_cases hm : m < I
    · have n1 := gline_run fuel (d + 2) hf hb (j := 3) 1 hs rfl
      rw [bif_pos (by omega), show I - m = (I - (m + 1)) + 1 by omega]
      simp only [chk_mk, field_mk, Option.bind_some, gr_c1 (j := 3) hs rfl, int_int]
      rw [show ((1 : Nat) : Int) = 1 from rfl] at n1
      unfold outsG
      have fin : ∀ {h1 : AHeap} {L : List Chunk}, Sep0 AHeap.none h1 (.own 1 R 0 3 zero3 :: L) → ∃ h', h1.storeAt [(.int .i64 (0 : Int)), (.slice Sl.nil), (.slice Sl.nil)] (rdP R) = some h' ∧ h'.cellsAt 3 (rdP R) = some zero3 := by
        intro h1 L s
        obtain ⟨h', e1, e2, _⟩ := ret_put s rfl (vs := zero3) rfl
        exact ⟨h', e1, e2⟩
      cases q1 : lnT (b.drop k) 1 with
      | none =>
        rw [q1] at n1
        obtain ⟨h1', e1, s1⟩ := n1
        obtain ⟨h', e2, e3⟩ := fin (L := []) s1.tail.tail.tail.tail
        refine ⟨h', .slice (lstU b), .ptr (rdP C), ?_, e3⟩
        rw [e1]
        simp only [Option.bind_some, tup2, cond_true, comp0, comp1, slice_slice, nilTest_if, Bool.not_false]
        rw [e2]
        rfl
      | some wj =>
        obtain ⟨ws, j⟩ := wj
        have hjl := (lnT_len q1).1
        rw [List.length_drop] at hjl
        rw [q1] at n1
        obtain ⟨h1', s, e1, s1, hw1⟩ := n1
        have s1' : Sep0 AHeap.none h1' (.grown 1 s (strsC ws) :: grL R C N i nn O sO r b (k + j)) := s1
        obtain ⟨g1, g2⟩ := strsC_get (s1'.sep.grown (i := 0) rfl) (0 : Int) 0 rfl (by omega)
        have c1 : h1'.cell (.mk ⟨N, 0, 1⟩ 6) = some (.int .i64 M) := s1'.part (i := 3) rfl (by omega) (by rw [List.getElem?_map, hM]; rfl)
        have s2 : Sep0 AHeap.none h1' (grL R C N i nn O sO r b (k + j)) := s1'.tail
        have hsl := s2.len (i := 0) rfl
        rw [List.length_map, Nat.mul_one] at hsl
        have cO : h1'.cell (.mk ⟨C, 0, 0 + 2⟩ 3) = some (.slice sO) := s2.part (i := 1) rfl (by omega) rfl
        rw [e1]
        simp only [Option.bind_some, tup2, cond_true, comp0, comp1, slice_slice, nilTest_nilif, Bool.not_true, cond_false]
        rw [g1, Option.bind_some, g2, Option.bind_some, str_str, Option.bind_some, plain_run fuel (d + 2) (by omega)]
        simp only [Option.bind_some, tup2, cond_true, comp0, comp1, int_int, bool_bool]
        have hel : Pt.elem 1 6 (1 : Int) (nP N) = some (.mk ⟨N, 0, 1⟩ 6) := rfl
        obtain ⟨h', e2, e3⟩ := fin (L := []) s2.tail.tail.tail.tail
        cases hp : plainW (ws.getD 0 []) with
        | false =>
          simp only [Bool.not_false, show ((true == false) : Bool) = false from rfl, cond_false, Option.bind_some, bool_bool, cond_true, Bool.false_and, Bool.false_eq_true, if_false]
          refine ⟨h', .slice (lstU b), .ptr (rdP C), ?_, e3⟩
          rw [gat0 fuel (d + 5)]
          simp only [Option.bind_some]
          rw [e2]
          rfl
        | true =>
          have hr := plainW_range hp
          simp only [Bool.not_true, beq_self_eq_true, cond_true, hel, c1, Option.bind_some, int_int, bool_bool, if_true, Bool.true_and]
          rw [wrap64 (n := 2 * M) (by omega) (by omega), wrap64 (n := 2 * M + 1) (by omega) (by omega)]
          by_cases hx : numW (ws.getD 0 []) ≤ 2 * M + 1
          · rw [bif_neg (by omega), decide_eq_true hx, if_pos rfl]
            obtain ⟨sO', h2', e4, s4, _⟩ := s2.grow (i := 0) (bytes := 8) (m := 1) (vs := [.int .i64 (numW (ws.getD 0 []))]) rfl rfl (by omega) (by omega)
            rw [set0, show intsC O ++ [AVal.int .i64 (numW (ws.getD 0 []))] = intsC (O ++ [numW (ws.getD 0 [])]) by simp] at s4
            obtain ⟨h3', e5, s5⟩ := s4.put (i := 1) (o := 2) (l := 3) (vs := [.slice sO']) rfl (by simp) (by simp)
            have s5' : Sep0 AHeap.none h3' (grL R C N i nn (O ++ [numW (ws.getD 0 [])]) sO' r b (k + j)) := s5
            have := ih (m + 1) (k + j) (O ++ [numW (ws.getD 0 [])]) sO' h3' (by omega) (by omega) (by omega) (by simp; omega) s5'
            rw [cO, Option.bind_some, slice_slice, Option.bind_some, e4]
            simp only [Option.bind_some]
            rw [show (0 + 2 : Nat) = 2 from rfl, e5, Option.bind_some, sucU (by omega)]
            exact this
          · rw [bif_pos (by omega), decide_eq_false hx, if_neg (by simp)]
            refine ⟨h', .slice (lstU b), .ptr (rdP C), ?_, e3⟩
            rw [gat0 fuel (d + 5)]
            simp only [Option.bind_some]
            rw [e2]
            rfl
    · obtain rfl : m = I := by omega
      rw [bif_neg (by omega), Nat.sub_self]
      unfold outsG
      exact ⟨h, sO, rfl, hs⟩
theorem headG_code {b : List UInt8} {c : Int} (h : headG b = .error c) : c = 101 ∨ c = 102 := by
  unfold headG at h
  split at h
  · cases h; exact .inl rfl
  · split at h
    · split at h
      · rename_i hl
        cases h
        exact (limT_code hl).1
      · cases h
    · cases h; exact .inl rfl
theorem gread_body (hf : b.length + 20000 < fuel) (hb : b.length < 1000000) : ∃ v h', brun fuel (d + 8) F_aig_Read [.slice (lstU b)] AHeap.none = some (v, h') ∧ freezeV h' 8 v = some (ciA (readG b)) := by
  have s0 := (Sep0.start AHeap.none).push 1 3 (cs := zero3) rfl
  rw [e_aig_Read, len_lst, bif_neg (by omega)]
  generalize AHeap.none.next = R at s0
  generalize AHeap.push AHeap.none 1 [(AVal.int .i64 (0 : Int)), (.slice Sl.nil), (.slice Sl.nil)] = H at s0
  have s1 := (s0.push 1 2 (cs := [.slice (lstU b), .int .i64 (0 : Int)]) rfl).cons
  have s1' : Sep0 AHeap.none (H.push 1 [.slice (lstU b), .int .i64 (0 : Int)]) [grCh H.next b 0, .own 1 R 0 3 zero3] := s1
  have hd := ghead_run fuel (d + 1) (h0 := AHeap.none) (j := 0) (by omega) hb s1' rfl
  generalize H.next = r at s1' hd
  generalize (H.push 1 [.slice (lstU b), .int .i64 (0 : Int)]) = H2 at s1' hd
  have zero : ∀ {h1 : AHeap} {L : List Chunk} {c p : Int} {zs : List AVal}, (c = 101 ∨ c = 102) → zs.length = 3 → Sep0 AHeap.none h1 (.own 1 R 0 3 zs :: L) → ∃ v h', ((AHeap.storeAt h1 [(.int .i64 (0 : Int)), (.slice Sl.nil), (.slice Sl.nil)] (Pt.mk ⟨R, 0, 0⟩ 3)).bind fun h13 =>
    (((((AHeap.cellsAt h13 3 (Pt.mk ⟨R, 0, 0⟩ 3)).bind fun c15 =>
    some ((AVal.agg c15)) : Option AVal).bind fun v14 =>
    some [v14, atV p (errC c)]) : Option (List AVal)).map AVal.tup).map fun v => (v, h13)) = some (v, h') ∧ freezeV h' 8 v = some (ciA (.error (c, p))) := by
    intro h1 L c p zs hc hz s
    obtain ⟨h', e1, e2, _⟩ := ret_put s hz (vs := zero3) rfl
    rw [e1, Option.bind_some, e2]
    exact ⟨_, h', rfl, zero3_fr hc p h'⟩
  unfold readG
  cases hh : headG b with
  | error c =>
    rw [hh] at hd
    have hc := headG_code hh
    obtain ⟨h1, k', nn, e1, e2, s2⟩ := hd
    rw [set0] at s2
    have s3 := (s2.push 1 6 (cs := intsC [0, 0, 0, 0, 0, 0]) rfl).cons
    obtain ⟨h2, e3, s4⟩ := s3.putAll (i := 0) (vs := intsC nn) rfl rfl (by rw [List.length_map, e2])
    rw [e1]
    simp only [Option.bind_some, tup2, cond_true, comp0, comp1, agg_agg]
    rw [all6 e2, cond_true]
    rw [show [(AVal.int .i64 (0 : Int)), (.int .i64 (0 : Int)), (.int .i64 (0 : Int)), (.int .i64 (0 : Int)), (.int .i64 (0 : Int)), (.int .i64 (0 : Int))] = intsC [0, 0, 0, 0, 0, 0] from rfl, e3, Option.bind_some, errC_no, Option.bind_some, Bool.not_false, cond_true]
    exact zero (L := []) hc rfl (s4.tail.tail)
  | ok Nk =>
    obtain ⟨M, k⟩ := Nk
    rw [hh] at hd
    obtain ⟨h1, e1, s2, hM5, hMr, hlim, hkb⟩ := hd
    rw [set0] at s2
    obtain ⟨l1, l2, l3, l4, l5⟩ := limT_none hlim
    have h5 := five hM5
    have hN6 : (0 :: M).length = 6 := by simp [hM5]
    have q1 := hMr (M.getD 1 0) (by rw [h5]; simp)
    have q3 := hMr (M.getD 3 0) (by rw [h5]; simp)
    have q4 := hMr (M.getD 4 0) (by rw [h5]; simp)
    have s3 := (s2.push 1 6 (cs := intsC [0, 0, 0, 0, 0, 0]) rfl).cons
    obtain ⟨h2, e3, e4, s4⟩ := ret_put s3 rfl (vs := intsC (0 :: M)) (by rw [List.length_map, hN6])
    rw [e1]
    simp only [Option.bind_some, tup2, cond_true, comp0, comp1, agg_agg]
    rw [all6 hN6, cond_true]
    rw [show [(AVal.int .i64 (0 : Int)), (.int .i64 (0 : Int)), (.int .i64 (0 : Int)), (.int .i64 (0 : Int)), (.int .i64 (0 : Int)), (.int .i64 (0 : Int))] = intsC [0, 0, 0, 0, 0, 0] from rfl, e3, Option.bind_some, nilTest_nilif, Option.bind_some, Bool.not_true, cond_false]
    generalize h1.next = N at e4 s4 ⊢
    have g2 : ∀ p : Nat, p < 5 → (0 :: M)[p + 1]? = some (M.getD p 0) := fun p hp => by rw [List.getElem?_cons_succ]; exact getD_get (by omega) 0
    have cI : h2.cell (.mk ⟨N, 0, 2⟩ 6) = some (.int .i64 (M.getD 1 0)) := s4.part (i := 0) rfl (by omega) (by rw [List.getElem?_map, g2 1 (by omega)]; rfl)
    have s5 := (s4.push 1 3 (cs := zero3) rfl).cons
    obtain ⟨h3, e5, _, s6⟩ := ret_put s5 rfl (vs := [.int .i64 (M.getD 1 0), .slice .nil, .slice .nil]) rfl
    rw [show Pt.elem 1 6 (2 : Int) (.mk ⟨N, 0, 0⟩ 6) = some (.mk ⟨N, 0, 2⟩ 6) from rfl, Option.bind_some, cI, Option.bind_some, int_int, Option.bind_some, e5, Option.bind_some]
    generalize h2.next = C at s6 ⊢
    have s7 : Sep0 AHeap.none h3 (grL R C N (M.getD 1 0) (0 :: M) [] .nil r b k) := (s6.addNil 1).cons
    have cO : h3.cell (.mk ⟨N, 0, 4⟩ 6) = some (.int .i64 (M.getD 3 0)) := s7.part (i := 2) rfl (by omega) (by rw [List.getElem?_map, g2 3 (by omega)]; rfl)
    rw [show Pt.elem 1 6 (4 : Int) (.mk ⟨N, 0, 0⟩ 6) = some (.mk ⟨N, 0, 4⟩ 6) from rfl, Option.bind_some, cO, Option.bind_some, int_int, Option.bind_some]
    obtain ⟨O, hO⟩ := Int.eq_ofNat_of_zero_le q3.1
    obtain ⟨A, hA⟩ := Int.eq_ofNat_of_zero_le q4.1
    have l0 := gread0 fuel (d + 1) (by omega) hb (R := R) (C := C) (N := N) (r := r) (b := b) (i := M.getD 1 0) (nn := 0 :: M) (I := O) (by omega) (g2 0 (by omega)) (by omega) (by omega) fuel 0 k [] .nil h3 (by omega) (by omega) hkb rfl s7
    rw [Nat.sub_zero, show ((0 : Nat) : Int) = 0 from rfl] at l0
    rw [hO, hA, Int.toNat_natCast, Int.toNat_natCast]
    cases ho : outsG b (M.getD 0 0) O k [] with
    | error p =>
      rw [ho] at l0
      obtain ⟨h4, x0, x7, e6, e7⟩ := l0
      rw [e6, Option.bind_some, k_aig_Read_0_r, e7]
      exact ⟨_, h4, rfl, zero3_fr (c := 101) (.inl rfl) p h4⟩
    | ok Ok =>
      obtain ⟨Ol, k1⟩ := Ok
      obtain ⟨_, hk1⟩ := outsG_len ho hkb
      rw [ho] at l0
      obtain ⟨h4, sO, e6, s8⟩ := l0
      have cI4 : h4.cell (.mk ⟨N, 0, 2⟩ 6) = some (.int .i64 (M.getD 1 0)) := s8.part (i := 2) rfl (by omega) (by rw [List.getElem?_map, g2 1 (by omega)]; rfl)
      have cA4 : h4.cell (.mk ⟨N, 0, 5⟩ 6) = some (.int .i64 (A : Int)) := s8.part (i := 2) rfl (by omega) (by rw [List.getElem?_map, g2 4 (by omega), hA]; rfl)
      rw [e6, Option.bind_some, k_aig_Read_0_x0, show Pt.elem 1 6 (2 : Int) (nP N) = some (.mk ⟨N, 0, 2⟩ 6) from rfl, Option.bind_some, cI4, Option.bind_some, int_int, Option.bind_some, show Pt.elem 1 6 (5 : Int) (nP N) = some (.mk ⟨N, 0, 5⟩ 6) from rfl, Option.bind_some, cA4, Option.bind_some, int_int, Option.bind_some]
      have ga := gands_run fuel (d + 4) (by omega) hb (h0 := AHeap.none) (r := r) (b := b) (I := A) (i := M.getD 1 0) (by omega) (by omega) (by omega) (j := 3) (p := k1) (by omega) s8 rfl
      simp only
      cases hg : andsG b (M.getD 1 0) 0 A k1 [] with
      | error p =>
        rw [hg] at ga
        obtain ⟨h5, p', e8, s9⟩ := ga
        have s9' : Sep0 AHeap.none h5 (grL R C N (M.getD 1 0) (0 :: M) Ol sO r b p') := s9
        obtain ⟨h6, e9, s10⟩ := s9'.put (i := 1) (o := 1) (l := 3) (vs := [.slice .nil]) rfl (by simp) (by simp)
        have s10' : Sep0 AHeap.none h6 (grL R C N (M.getD 1 0) (0 :: M) Ol sO r b p') := s10
        rw [e8]
        simp only [Option.bind_some, tup2, cond_true, comp0, comp1, slice_slice, field_mk]
        rw [show (0 + 1 : Nat) = 1 from rfl, e9]
        simp only [Option.bind_some, nilTest_if, Bool.not_false, cond_true]
        exact zero (c := 101) (L := []) (.inl rfl) rfl s10'.tail.tail.tail.tail
      | ok Ap =>
        obtain ⟨Al, p⟩ := Ap
        rw [hg] at ga
        obtain ⟨h5, sA, e8, s9, hp9⟩ := ga
        have s9' : Sep0 AHeap.none h5 (.grown 2 sA (pairsC Al) :: grL R C N (M.getD 1 0) (0 :: M) Ol sO r b p) := s9
        obtain ⟨h6, e9, s10⟩ := s9'.put (i := 2) (o := 1) (l := 3) (vs := [.slice sA]) rfl (by simp) (by simp)
        have s10' : Sep0 AHeap.none h6 [.grown 2 sA (pairsC Al), .grown 1 sO (intsC Ol), .own 1 C 0 3 [.int .i64 (M.getD 1 0), .slice sA, .slice sO], .own 1 N 0 6 (intsC (0 :: M)), grCh r b p, .own 1 R 0 3 zero3] := s10
        have cr : h6.cell (.mk ⟨r, 0, 0 + 1⟩ 2) = some (.int .i64 (p : Int)) := s10'.part (i := 4) rfl (by omega) rfl
        rw [e8]
        simp only [Option.bind_some, tup2, cond_true, comp0, comp1, slice_slice, field_mk, chk_mk]
        rw [show (0 + 1 : Nat) = 1 from rfl, e9]
        rw [show (0 + 1 : Nat) = 1 from rfl] at cr
        simp only [Option.bind_some, nilTest_nilif, Bool.not_true, cond_false, cr, int_int]
        have hpb : p ≤ b.length := by
          have hdl : ∀ (f i a : Nat) (r : List UInt8) (q : Nat × Nat), numT f i a r = some q → q.2 ≤ i + r.length := by
            intro f
            induction f with
            | zero => intro i a r q h; cases h
            | succ f ih =>
              intro i a r q h
              cases r with
              | nil => cases h
              | cons c r =>
                unfold numT at h
                split at h
                · have := ih _ _ _ _ h
                  simp only [List.length_cons]; omega
                · cases h
                  simp
          have hdG : ∀ {r : List UInt8} {lo hi v : Int} {m : Nat}, delG r lo hi = some (v, m) → m ≤ r.length := by
            intro r lo hi v m h
            unfold delG at h
            cases hn : numT 5 0 0 r with
            | none => rw [hn] at h; cases h
            | some q =>
              rw [hn, Option.bind_some] at h
              have := hdl 5 0 0 r q hn
              split at h
              · cases h; omega
              · cases h
          have : ∀ (n kk p0 : Nat) (acc Al : List (Int × Int)) (p : Nat), andsG b (M.getD 1 0) kk n p0 acc = .ok (Al, p) → p0 ≤ b.length → p ≤ b.length := by
            intro n
            induction n with
            | zero => intro kk p0 acc Al p h hp; cases h; exact hp
            | succ n ih =>
              intro kk p0 acc Al p h hp
              unfold andsG at h
              split at h
              · cases h
              · rename_i x j hj
                have h1 := hdG hj
                rw [List.length_drop] at h1
                split at h
                · cases h
                · rename_i y j' hj'
                  have h2 := hdG hj'
                  rw [List.length_drop] at h2
                  exact ih _ _ _ _ _ h (by omega)
          exact this _ _ _ _ _ _ hg hk1
        rw [aHi_none, Option.bind_some, aLo_some (by omega) (by rw [len_lst]; omega), Option.bind_some, aMx_none, Option.bind_some, hasSz_lstM, cond_true, Int.toNat_natCast]
        rw [len_lst, cut_lstU b (Nat.le_refl _), show (b.drop p).take (b.length - p) = b.drop p from List.take_of_length_le (by simp)]
        have bad : ∃ v h', ((run fuel (d + 7) F_aig_at [(.int .i64 (p : Int)), err_api_ErrText] h6).bind fun r40 =>
            (AHeap.storeAt r40.2 [(.int .i64 (0 : Int)), (.slice Sl.nil), (.slice Sl.nil)] (rdP R)).bind fun h41 =>
            (((((AHeap.cellsAt h41 3 (rdP R)).bind fun c43 =>
            some ((AVal.agg c43)) : Option AVal).bind fun v42 =>
            some [v42, r40.1]) : Option (List AVal)).map AVal.tup).map fun v => (v, h41)) = some (v, h') ∧ freezeV h' 8 v = some (ciA (.error (101, (p : Int)))) := by
          rw [gat0 fuel (d + 6), Option.bind_some]
          exact zero (c := 101) (L := []) (.inl rfl) rfl s10'.tail.tail.tail.tail.tail
        have good : ∃ v h', ((AHeap.cellsAt h6 3 (rdP C)).bind fun c44 =>
            (bif (!false && Nat.beq (List.length c44) 3 && List.all c44 AVal.isCell) then ((AHeap.storeAt h6 c44 (rdP R)).bind fun h45 =>
            (((((AHeap.cellsAt h45 3 (rdP R)).bind fun c47 =>
            some ((AVal.agg c47)) : Option AVal).bind fun v46 =>
            some [v46, .nilif]) : Option (List AVal)).map AVal.tup).map fun v => (v, h45)) else (none))) = some (v, h') ∧ freezeV h' 8 v = some (ciA (.ok (M.getD 1 0, Al, Ol))) := by
          have cC : h6.cellsAt 3 (rdP C) = some [.int .i64 (M.getD 1 0), .slice sA, .slice sO] := s10'.getAll (i := 2) rfl rfl
          obtain ⟨h7, e11, s11⟩ := s10'.putAll (i := 5) (vs := [.int .i64 (M.getD 1 0), .slice sA, .slice sO]) rfl rfl rfl
          have cR : h7.cellsAt 3 (rdP R) = some [.int .i64 (M.getD 1 0), .slice sA, .slice sO] := s11.getAll (i := 5) rfl rfl
          rw [cC, Option.bind_some, show (!false && Nat.beq (List.length [AVal.int .i64 (M.getD 1 0), .slice sA, .slice sO]) 3 && List.all [AVal.int .i64 (M.getD 1 0), .slice sA, .slice sO] AVal.isCell) = true from rfl, cond_true, e11, Option.bind_some, cR]
          refine ⟨_, h7, rfl, ?_⟩
          have gA := s11.sep.grown (i := 0) rfl
          have gO := s11.sep.grown (i := 1) rfl
          have lO := gO.len
          have lA := gA.len
          rw [pairsC_len] at lA
          rw [List.length_map, Nat.mul_one] at lO
          refine freeze_tup2 _ (freeze_agg 6 (mm3 rfl ?_ ?_)) rfl
          · rw [gA.freeze (n := 5) (by omega) (freeze_pairs 4 Al), show sA.len = Al.length by omega]
          · rw [gO.freeze (n := 5) (by omega) (freeze_intsC 4 Ol), show sO.len = Ol.length by omega]
        match hdp : b.drop p with
        | [] =>
          rw [len_lst, decide_eq_false (show ¬ (0 : Int) < ((([] : List UInt8).length : Nat) : Int) by simp)]
          simp only [show ((false == true) : Bool) = false from rfl, cond_false, Option.bind_some, bool_bool]
          exact good
        | [x] =>
          rw [len_lst, decide_eq_true (show (0 : Int) < ((([x] : List UInt8).length : Nat) : Int) by simp), decide_eq_true (show ((([x] : List UInt8).length : Nat) : Int) < 2 by simp)]
          simp only [beq_self_eq_true, cond_true, show ((true == false) : Bool) = false from rfl, cond_false, Option.bind_some, bool_bool, cr, int_int]
          exact bad
        | x :: y :: z =>
          rw [len_lst, decide_eq_true (show (0 : Int) < (((x :: y :: z).length : Nat) : Int) by simp; omega), decide_eq_false (show ¬ (((x :: y :: z).length : Nat) : Int) < 2 by simp; omega)]
          have a0 : h6.addr 1 (lstU (x :: y :: z)) (0 : Int) = some (.fp 0 [.int .u8 (x.toNat : Int)]) := addr_lstM (h := h6) (fun b : UInt8 => AVal.int .u8 (b.toNat : Int)) (l := x :: y :: z) (j := 0) (by omega) (by simp) 0 false
          have a1 : h6.addr 1 (lstU (x :: y :: z)) (1 : Int) = some (.fp 0 [.int .u8 (y.toNat : Int)]) := addr_lstM (h := h6) (fun b : UInt8 => AVal.int .u8 (b.toNat : Int)) (l := x :: y :: z) (j := 1) (by omega) (by simp) 0 false
          have e99 := u8_dec x 99
          rw [show (((99 : UInt8).toNat : Nat) : Int) = 99 from rfl] at e99
          have e10 := u8_dec y 10
          rw [show (((10 : UInt8).toNat : Nat) : Int) = 10 from rfl] at e10
          simp only [beq_self_eq_true, cond_true, a0, Option.bind_some, cell_fp, int_int, bool_bool]
          rw [e99]
          have hE : endG (x :: y :: z) = (x == 99 && y == 10) := rfl
          cases hx : x == 99 with
          | false =>
            rw [hx, Bool.false_and] at hE
            rw [hE, if_neg (by simp)]
            simp only [Bool.not_false, show ((true == false) : Bool) = false from rfl, cond_false, Option.bind_some, bool_bool, cond_true, cr, int_int]
            exact bad
          | true =>
            rw [hx, Bool.true_and] at hE
            simp only [Bool.not_true, beq_self_eq_true, cond_true, a1, Option.bind_some, cell_fp, int_int, bool_bool]
            rw [e10]
            cases hy : y == 10 with
            | false =>
              rw [hy] at hE
              rw [hE, if_neg (by simp)]
              simp only [Bool.not_false, cond_true, cr, Option.bind_some, int_int]
              exact bad
            | true =>
              rw [hy] at hE
              rw [hE, if_pos rfl]
              simp only [Bool.not_true, cond_false]
              exact good
theorem gread_run (hf : b.length + 20000 < fuel) (hb : b.length < 1000000) (h : AHeap) : run fuel (d + 8) F_aig_Read [.slice (lstU b)] h = some (ciA (readG b), h) := by
  obtain ⟨v, h', e1, e2⟩ := gread_body fuel d hf hb
  exact pure_of rfl rfl (cc1 (canon_lstU 7 b)) e1 e2
theorem gread_nil (hf : 20000 < fuel) (h : AHeap) : run fuel (d + 8) F_aig_Read [.slice .nil] h = some (ciA (readG []), h) := by
  obtain ⟨v, h', e1, e2⟩ := gread_body fuel d (b := []) (by simp; omega) (by simp)
  exact pure_of rfl rfl (cc1 (canon_nil 7)) e1 e2
end
end Go.Proofs.YtmjbjgbcpaagmaaDoor

namespace Go.Proofs.YtmjbjgbcpaagmaaDoor
open Go.RowKit

theorem readG_nil : readG [] = .error (101, 0) := rfl
theorem aigTx_nil : aigTx 0 [] [] = [97, 105, 103, 32, 48, 32, 48, 32, 48, 32, 48, 32, 48, 10] := by decide
theorem first12_run (fuel : Nat) {e : Nat} (he : 12 ≤ e) (hf : 20000 < fuel) (h : AHeap) : run fuel e F_skolemlaw12_first [] h = some (.bool true, h) := by
  obtain ⟨d, rfl⟩ : ∃ d, e = d + 12 := ⟨e - 12, by omega⟩
  refine pure_ex rfl rfl canonL_nil (r := .bool true) ?_ (fun _ => rfl)
  rw [e_skolemlaw12_first, gread_nil fuel (d + 3) hf, readG_nil, show ciA (.error (101, 0)) = .tup [.agg (circC 0 [] []), atV 0 err_api_ErrText] from rfl]
  simp only [Option.bind_some, tup2, cond_true, comp0, comp1, agg_agg]
  rw [cond_pos _ _ (okCi 0 [] [])]
  have s1 := ((Sep0.start AHeap.none).push 1 3 (cs := zero3) rfl).cons
  obtain ⟨h5, e5, _⟩ := ret_put s1 rfl (vs := circC 0 [] []) rfl
  rw [e5]
  simp only [Option.bind_some]
  rw [Placed_run fuel (d + 10) (show (101 : Int) ≠ 0 by omega)]
  simp only [Option.bind_some, agg_agg]
  rw [Same_run fuel (d + 7) (e := atV 0 err_api_ErrText) (c := 101) (p := true) (x := 0) (IsFault.at (j := 0) (by omega) 0) (by omega) 101 true 0]
  simp only [Option.bind_some, bool_bool, decide_true, Bool.true_and, beq_self_eq_true, cond_true]
  rw [gbytes_nil fuel (d + 3) hf]
  simp only [Option.bind_some, slice_slice]
  rw [cells_lstM, Option.bind_some, bytesFrom_bytesC, Option.bind_some, aigTx_nil]
  exact ⟨_, rfl⟩
end Go.Proofs.YtmjbjgbcpaagmaaDoor

namespace Go.Proofs.YtmjbjgbcpaagmaaDoor
open Go.RowKit

/-! skolemworld.Number -/
def numI (n b : Int) : Int := bif decide (Int.tmod n b < 0) then IntKind.wrap .i64 (Int.tmod n b + b) else Int.tmod n b
theorem Number_run (fuel d : Nat) {n b : Int} (hb : b ≠ 0) (h : AHeap) : run fuel (d + 1) F_skolemworld_Number [.int .i64 n, .int .i64 b] h = some (.int .i64 (numI n b), h) :=
  pure_of rfl rfl (cc2 rfl rfl) (by
    rw [e_skolemworld_Number, bif_neg hb]
    show _ = some (AVal.int .i64 (numI n b), AHeap.none)
    unfold numI
    cases decide (Int.tmod n b < 0) <;> rfl) rfl
theorem numI_range {n b : Int} (hb : 0 < b) (hb2 : b ≤ 9223372036854775807) : 0 ≤ numI n b ∧ numI n b < b := by
  have h1 := Int.tmod_lt_of_pos n hb
  have h2 : -b < Int.tmod n b := by
    have := Int.neg_lt_of_neg_lt (a := Int.tmod n b) (b := b)
    have h3 := Int.tmod_lt_of_pos (-n) hb
    rw [Int.neg_tmod] at h3
    omega
  unfold numI
  by_cases h0 : Int.tmod n b < 0
  · rw [decide_eq_true h0, cond_true, wrap64 (by omega) (by omega)]; omega
  · rw [decide_eq_false h0, cond_false]; omega

end Go.Proofs.YtmjbjgbcpaagmaaDoor

namespace Go.Proofs.YtmjbjgbcpaagmaaDoor
open Go.RowKit

/-- gates out of numbers -/
def mkA (i : Int) : Nat → List Int → List (Int × Int) → List (Int × Int)
  | 0, _, acc => acc
  | n + 1, l, acc => match l with
    | x :: y :: l' => mkA i n l' (acc ++ [((bif decide (numI x (2 * (i + acc.length + 1)) < numI y (2 * (i + acc.length + 1))) then numI y (2 * (i + acc.length + 1)) else numI x (2 * (i + acc.length + 1))), (bif decide (numI y (2 * (i + acc.length + 1)) < numI x (2 * (i + acc.length + 1))) then numI y (2 * (i + acc.length + 1)) else numI x (2 * (i + acc.length + 1))))])
    | _ => acc
def mkO (n : Int) (o : List Int) : List Int := o.map fun x => numI x (2 * (n + 1))
def mkAnds (i : Int) (l : List Int) : List (Int × Int) := mkA i (l.length + 1) l []
theorem mkA_ok {i : Int} (hi : 0 ≤ i) : ∀ (n : Nat) (l : List Int) (acc : List (Int × Int)), AndsOk i 0 acc → i + acc.length + l.length ≤ 8000 → AndsOk i 0 (mkA i n l acc) ∧ (mkA i n l acc).length ≤ acc.length + l.length
  | 0, l, acc, h, hb => ⟨h, by unfold mkA; omega⟩
  | n + 1, [], acc, h, hb => ⟨h, by unfold mkA; simp⟩
  | n + 1, [x], acc, h, hb => ⟨h, by unfold mkA; simp⟩
  | n + 1, x :: y :: l, acc, h, hb => by
    simp only [List.length_cons] at hb
    unfold mkA
    simp only
    have hx := numI_range (n := x) (b := 2 * (i + acc.length + 1)) (by omega) (by omega)
    have hy := numI_range (n := y) (b := 2 * (i + acc.length + 1)) (by omega) (by omega)
    generalize numI x (2 * (i + acc.length + 1)) = u at hx
    generalize numI y (2 * (i + acc.length + 1)) = v at hy
    have app : ∀ (B : List (Int × Int)) (k : Int) (p : Int × Int), AndsOk i k B → (0 ≤ p.2 ∧ p.2 ≤ p.1 ∧ p.1 < 2 * (i + (k + B.length) + 1)) → AndsOk i k (B ++ [p]) := by
      intro B
      induction B with
      | nil => intro k p _ hp; exact ⟨by simpa using hp, trivial⟩
      | cons q B ih =>
        intro k p hB hp
        refine ⟨hB.1, ih (k + 1) p hB.2 ?_⟩
        rw [List.length_cons] at hp
        refine ⟨hp.1, hp.2.1, ?_⟩
        have := hp.2.2
        omega
    have hacc := app acc 0 ((bif decide (u < v) then v else u), (bif decide (v < u) then v else u)) h (by
      simp only [Int.zero_add]
      by_cases h1 : u < v
      · rw [decide_eq_true h1, decide_eq_false (by omega), cond_true, cond_false]; omega
      · rw [decide_eq_false h1, cond_false]
        by_cases h2 : v < u
        · rw [decide_eq_true h2, cond_true]; omega
        · rw [decide_eq_false h2, cond_false]; omega)
    obtain ⟨r1, r2⟩ := mkA_ok hi n l _ hacc (by simp; omega)
    refine ⟨r1, ?_⟩
    simp at r2
    simp only [List.length_cons]
    omega
theorem mk_right {i : Nat} {l o : List Int} (h : (i : Int) + l.length ≤ 8000) (ho : o.length ≤ 8000) : CiR i (mkAnds i l) (mkO ((i : Int) + (mkAnds i l).length) o) := by
  obtain ⟨r1, r2⟩ := mkA_ok (i := (i : Int)) (by omega) (l.length + 1) l [] trivial (by simp; omega)
  unfold mkAnds
  simp only [List.length_nil, Nat.zero_add] at r2
  refine ⟨by omega, by rw [mkO, List.length_map]; exact ho, r1, fun x hx => ?_⟩
  obtain ⟨y, _, rfl⟩ := List.mem_map.1 hx
  have := numI_range (n := y) (b := 2 * ((i : Int) + (mkA i (l.length + 1) l []).length + 1)) (by omega) (by omega)
  omega
section
variable (fuel d : Nat) {h0 : AHeap} {X C : Nat} {i : Int} {l o : List Int}
theorem mkc_loop0 (hi : 0 ≤ i ∧ i ≤ 1000) (hl : l.length ≤ 1000) {R : List Chunk} : ∀ (n k : Nat) (A : List (Int × Int)) (sA : Sl) (h : AHeap), l.length < n + k → k ≤ l.length → A.length ≤ k → Sep0 h0 h (.own 1 C 0 3 [.int .i64 i, .slice sA, .slice .nil] :: .grown 2 sA (pairsC A) :: R) →
    ∃ h' sA', l_skolemmake_Circuit_0 fuel (d + 1) n [(0, .int .i64 i), (1, .slice (lstI l)), (2, .slice (lstI o)), (6, .ptr (rdP X)), (7, .ptr (rdP C)), (8, .int .i64 (k : Int))] h = some (.exit 0, [(0, .int .i64 i), (2, .slice (lstI o)), (6, .ptr (rdP X)), (7, .ptr (rdP C))], h') ∧ Sep0 h0 h' (.own 1 C 0 3 [.int .i64 i, .slice sA', .slice .nil] :: .grown 2 sA' (pairsC (mkA i n (l.drop k) A)) :: R) := by
  intro n
  induction n with
  | zero => intro k A sA h h1 h2; omega
  | succ n ih =>
    intro k A sA h h1 h2 hA hs
    have hsl := hs.len (i := 1) rfl
    rw [pairsC_len] at hsl
    have hAl : sA.len = A.length := by omega
    have cA : ∀ q, Sep0 h0 q (.own 1 C 0 3 [.int .i64 i, .slice sA, .slice .nil] :: .grown 2 sA (pairsC A) :: R) → q.cell (.mk ⟨C, 0, 0 + 1⟩ 3) = some (.slice sA) := fun q hq => hq.part (i := 0) rfl (by omega) rfl
    rw [l_skolemmake_Circuit_0_eq, len_lst, sucU (by omega)]
    by_cases hk : k + 1 < l.length
    · have hd : l.drop k = l.getD k 0 :: l.getD (k + 1) 0 :: l.drop (k + 2) := by rw [drop_get (by omega) 0, drop_get hk 0]
      rw [bif_pos (by omega), hd]
      unfold mkA
      simp only [field_mk, Option.bind_some, cA h hs, slice_slice]
      rw [addr_lstM _ (by omega) (by omega) 0, Int.toNat_natCast]
      simp only [Option.bind_some, cell_fp, int_int]
      rw [hAl, wrap64 (n := i + (A.length : Int)) (by omega) (by omega), wrap64 (n := i + (A.length : Int) + 1) (by omega) (by omega), wrap64 (n := 2 * (i + (A.length : Int) + 1)) (by omega) (by omega), Number_run fuel d (by omega)]
      simp only [Option.bind_some, int_int]
      rw [addr_lstM _ (by omega) (by rw [Int.toNat_natCast]; exact hk) 0, Int.toNat_natCast]
      simp only [Option.bind_some, cell_fp, int_int]
      rw [Number_run fuel d (by omega)]
      simp only [Option.bind_some, int_int, cA h hs, slice_slice]
      generalize numI (l.getD k 0) (2 * (i + A.length + 1)) = u
      generalize numI (l.getD (k + 1) 0) (2 * (i + A.length + 1)) = v
      obtain ⟨sA', h2, e2, s2, _⟩ := hs.grow (i := 1) (bytes := 16) (m := 1) (vs := pairC ((bif decide (u < v) then v else u), (bif decide (v < u) then v else u))) rfl rfl (by omega) (by omega)
      rw [set1] at s2
      obtain ⟨h3, e3, s3⟩ := s2.put (i := 0) (o := 1) (l := 3) (vs := [.slice sA']) rfl (by simp) (by simp)
      rw [e2]
      simp only [Option.bind_some]
      rw [show (0 + 1 : Nat) = 1 from rfl, e3, Option.bind_some, show IntKind.wrap .i64 ((k : Int) + 2) = ((k + 2 : Nat) : Int) by rw [wrap64 (by omega) (by omega)]; omega]
      rw [show pairsC A ++ pairC ((bif decide (u < v) then v else u), (bif decide (v < u) then v else u)) = pairsC (A ++ [((bif decide (u < v) then v else u), (bif decide (v < u) then v else u))]) by simp [pairsC]] at s3
      exact ih (k + 2) _ sA' h3 (by omega) (by omega) (by simp; omega) s3
    · rw [bif_neg (by omega)]
      refine ⟨h, sA, rfl, ?_⟩
      have : mkA i (n + 1) (l.drop k) A = A := by
        have hlen : (l.drop k).length ≤ 1 := by rw [List.length_drop]; omega
        unfold mkA
        match hq : l.drop k with
        | [] => rfl
        | [x] => rfl
        | x :: y :: z => rw [hq] at hlen; simp at hlen
      rw [this]
      exact hs
theorem mkc_loop1 (hi : 0 ≤ i ∧ i ≤ 1000) (ho : o.length ≤ 1000) {A : List (Int × Int)} (hA : A.length ≤ 1000) {sA : Sl} (hAl : sA.len = A.length) {R : List Chunk} : ∀ (n k : Nat) (O : List Int) (sO : Sl) (h : AHeap), o.length < n + k → k ≤ o.length → O = (o.take k).map (fun x => numI x (2 * (i + A.length + 1))) → Sep0 h0 h (.own 1 C 0 3 [.int .i64 i, .slice sA, .slice sO] :: .grown 1 sO (intsC O) :: R) →
    ∃ h' sO', l_skolemmake_Circuit_1 fuel (d + 1) n [(0, .int .i64 i), (2, .slice (lstI o)), (6, .ptr (rdP X)), (7, .ptr (rdP C)), (12, .int .i64 (k : Int))] h = some (.exit 2, [(6, .ptr (rdP X)), (7, .ptr (rdP C))], h') ∧ Sep0 h0 h' (.own 1 C 0 3 [.int .i64 i, .slice sA, .slice sO'] :: .grown 1 sO' (intsC (mkO (i + A.length) o)) :: R) := by
  intro n
  induction n with
  | zero => intro k O sO h h1 h2; omega
  | succ n ih =>
    intro k O sO h h1 h2 hO hs
    have hsl := hs.len (i := 1) rfl
    rw [List.length_map, Nat.mul_one] at hsl
    have hOl : O.length = k := by rw [hO]; simp; omega
    have cA : h.cell (.mk ⟨C, 0, 0 + 1⟩ 3) = some (.slice sA) := hs.part (i := 0) rfl (by omega) rfl
    have cO : h.cell (.mk ⟨C, 0, 0 + 2⟩ 3) = some (.slice sO) := hs.part (i := 0) rfl (by omega) rfl
    rw [l_skolemmake_Circuit_1_eq, len_lst]
    by_cases hk : k < o.length
    · rw [bif_pos (by omega)]
      simp only [field_mk, Option.bind_some, cO, cA, slice_slice]
      rw [addr_lstM _ (by omega) (by omega) 0, Int.toNat_natCast]
      simp only [Option.bind_some, cell_fp, int_int]
      rw [hAl, wrap64 (n := i + (A.length : Int)) (by omega) (by omega), wrap64 (n := i + (A.length : Int) + 1) (by omega) (by omega), wrap64 (n := 2 * (i + (A.length : Int) + 1)) (by omega) (by omega), Number_run fuel d (by omega)]
      simp only [Option.bind_some, int_int, cO, slice_slice, same_self]
      obtain ⟨sO', h2, e2, s2, _⟩ := hs.grow (i := 1) (bytes := 8) (m := 1) (vs := [.int .i64 (numI (o.getD k 0) (2 * (i + A.length + 1)))]) rfl rfl (by omega) (by omega)
      rw [set1] at s2
      obtain ⟨h3, e3, s3⟩ := s2.put (i := 0) (o := 2) (l := 3) (vs := [.slice sO']) rfl (by simp) (by simp)
      rw [e2]
      simp only [Option.bind_some]
      rw [show (0 + 2 : Nat) = 2 from rfl, e3, Option.bind_some, sucU (by omega)]
      rw [show intsC O ++ [AVal.int .i64 (numI (o.getD k 0) (2 * (i + A.length + 1)))] = intsC (O ++ [numI (o.getD k 0) (2 * (i + A.length + 1))]) by simp] at s3
      exact ih (k + 1) _ sO' h3 (by omega) (by omega) (by rw [take_get hk 0, List.map_append, hO]; rfl) s3
    · obtain rfl : k = o.length := by omega
      rw [bif_neg (by omega)]
      rw [List.take_length] at hO
      subst hO
      exact ⟨h, sO, rfl, hs⟩
theorem mkc_run (hf : 2000 < fuel) (hi : 0 ≤ i ∧ i ≤ 1000) (hl : l.length ≤ 1000) (ho : o.length ≤ 1000) {u v : AVal} (hu : canonV 8 u = some (.slice (lstI l))) (hv : canonV 8 v = some (.slice (lstI o))) (h : AHeap) :
    run fuel (d + 2) F_skolemmake_Circuit [.int .i64 i, u, v] h = some (.agg (circC i (mkAnds i l) (mkO (i + (mkAnds i l).length) o)), h) := by
  have key : ∃ v h', brun fuel (d + 2) F_skolemmake_Circuit [.int .i64 i, .slice (lstI l), .slice (lstI o)] AHeap.none = some (v, h') ∧ freezeV h' 8 v = some (.agg (circC i (mkAnds i l) (mkO (i + (mkAnds i l).length) o))) := by
    have s1 := (((Sep0.start AHeap.none).push 1 3 (cs := zero3) rfl).push 1 3 (cs := zero3) rfl).cons
    obtain ⟨h1, e1, s2⟩ := s1.putAll (i := 0) (vs := [.int .i64 i, .slice .nil, .slice .nil]) rfl rfl rfl
    rw [e_skolemmake_Circuit, e1, Option.bind_some]
    generalize (AHeap.none.push 1 zero3).next = C at s2
    generalize AHeap.none.next = X at s2
    have s3 : Sep0 AHeap.none h1 [.own 1 C 0 3 [.int .i64 i, .slice .nil, .slice .nil], .grown 2 .nil (pairsC []), .own 1 X 0 3 zero3] := (s2.addNil 2).perm ((List.Perm.swap _ _ _).cons _)
    obtain ⟨h2, sA, e2, s4⟩ := mkc_loop0 fuel d (X := X) (o := o) hi hl fuel 0 [] .nil h1 (by omega) (by omega) (by simp) s3
    rw [show ((0 : Nat) : Int) = 0 from rfl] at e2
    rw [e2, Option.bind_some, k_skolemmake_Circuit_0_x0]
    have hmk : mkA i fuel (l.drop 0) [] = mkAnds i l := by
      have : ∀ (n m : Nat) (l : List Int) (acc : List (Int × Int)), l.length < n → l.length < m → mkA i n l acc = mkA i m l acc := by
        intro n
        induction n with
        | zero => intro m l acc h1; omega
        | succ n ih =>
          intro m l acc h1 h2
          obtain ⟨m, rfl⟩ : ∃ q, m = q + 1 := ⟨m - 1, by omega⟩
          match l with
          | [] => rfl
          | [x] => rfl
          | x :: y :: l =>
            unfold mkA
            simp only
            simp only [List.length_cons] at h1 h2
            exact ih m l _ (by omega) (by omega)
      exact this _ _ _ _ (by simp; omega) (by simp)
    rw [hmk] at s4
    have hAlen : (mkAnds i l).length ≤ 1000 := by
      have : ∀ (n : Nat) (l : List Int) (acc : List (Int × Int)), (mkA i n l acc).length ≤ acc.length + l.length := by
        intro n
        induction n with
        | zero => intro l acc; unfold mkA; omega
        | succ n ih =>
          intro l acc
          match l with
          | [] => unfold mkA; simp
          | [x] => unfold mkA; simp
          | x :: y :: l =>
            unfold mkA
            simp only
            refine Nat.le_trans (ih l _) ?_
            simp
            omega
      have := this (l.length + 1) l []
      unfold mkAnds
      simp only [List.length_nil] at this
      omega
    have hgA := s4.sep.grown (i := 1) rfl
    have hAl := hgA.len
    rw [pairsC_len] at hAl
    have s5 : Sep0 AHeap.none h2 [.own 1 C 0 3 [.int .i64 i, .slice sA, .slice .nil], .grown 1 .nil (intsC []), .grown 2 sA (pairsC (mkAnds i l)), .own 1 X 0 3 zero3] := (s4.addNil 1).perm (by
      refine List.Perm.cons _ ?_
      exact List.perm_append_comm (l₁ := [_, _]) (l₂ := [_]))
    obtain ⟨h3, sO, e3, s6⟩ := mkc_loop1 fuel d (X := X) hi ho hAlen (by omega) fuel 0 [] .nil h2 (by omega) (by omega) (by simp) s5
    rw [show ((0 : Nat) : Int) = 0 from rfl] at e3
    rw [e3, Option.bind_some, k_skolemmake_Circuit_1_x2]
    have cC : h3.cellsAt 3 (rdP C) = some [.int .i64 i, .slice sA, .slice sO] := s6.getAll (i := 0) rfl rfl
    obtain ⟨h4, e4, s7⟩ := s6.putAll (i := 3) (vs := [.int .i64 i, .slice sA, .slice sO]) rfl rfl rfl
    have cX : h4.cellsAt 3 (rdP X) = some [.int .i64 i, .slice sA, .slice sO] := s7.getAll (i := 3) rfl rfl
    rw [cC, Option.bind_some, show (!false && Nat.beq (List.length [AVal.int .i64 i, .slice sA, .slice sO]) 3 && List.all [AVal.int .i64 i, .slice sA, .slice sO] AVal.isCell) = true from rfl, cond_true, e4, Option.bind_some, cX]
    refine ⟨_, h4, rfl, ?_⟩
    have gO := s7.sep.grown (i := 1) rfl
    have gA := s7.sep.grown (i := 2) rfl
    have lO := gO.len
    rw [List.length_map, Nat.mul_one] at lO
    refine freeze_agg 7 (mm3 rfl ?_ ?_)
    · rw [gA.freeze (n := 6) (by omega) (freeze_pairs 5 _), show sA.len = (mkAnds i l).length by omega]
    · rw [gO.freeze (n := 6) (by omega) (freeze_intsC 5 _), ← lO]
  obtain ⟨v, h', e1, e2⟩ := key
  exact pure_of rfl rfl (cc3 rfl hu hv) e1 e2
end
end Go.Proofs.YtmjbjgbcpaagmaaDoor

namespace Go.Proofs.YtmjbjgbcpaagmaaDoor
open Go.RowKit

end Go.Proofs.YtmjbjgbcpaagmaaDoor

namespace Go.Proofs.YtmjbjgbcpaagmaaDoor
open Go.RowKit

theorem u8_inj {a b : UInt8} (h : (a.toNat : Int) = (b.toNat : Int)) : a = b := UInt8.toNat_inj.1 (by omega)
theorem sameUU_loop (fuel d : Nat) {a b : List UInt8} (hl : a.length = b.length) (hn : a.length < 1000000000) {h : AHeap} : ∀ (n k : Nat), a.length < n + k → k ≤ a.length → a.take k = b.take k →
    (l_skolemref_SameBytes_0 fuel d n [(0, .slice (lstU a)), (1, .slice (lstU b)), (5, .int .i64 (k : Int))] h).bind (fun p => k_skolemref_SameBytes_0 fuel d p.1 p.2.1 p.2.2) = some (.bool (decide (a = b)), h) := by
  intro n
  induction n with
  | zero => intro k h1 h2; omega
  | succ n ih =>
    intro k h1 h2 h3
    rw [l_skolemref_SameBytes_0_eq, len_lst]
    by_cases hk : k < a.length
    · rw [bif_pos (by omega), addr_lstM _ (by omega) (by omega) 0, addr_lstM _ (by omega) (by omega) 0]
      simp only [Option.bind_some, cell_fp, int_int, Int.toNat_natCast]
      by_cases he : a.getD k 0 = b.getD k 0
      · rw [he, bif_npos rfl, sucS (by omega), ih (k + 1) (by omega) (by omega) (by rw [take_get hk 0, take_get (by omega) 0, h3, he])]
      · rw [bif_nneg (fun h => he (u8_inj h))]
        simp only [Option.bind_some, k_skolemref_SameBytes_0_r]
        rw [decide_eq_false (fun h => he (by rw [h]))]
    · have : k = a.length := by omega
      subst this
      rw [bif_neg (by omega)]
      have : a = b := by rw [List.take_length, hl, List.take_length] at h3; exact h3
      simp only [Option.bind_some, k_skolemref_SameBytes_0_x0]
      rw [decide_eq_true this]
theorem sameUU_run (fuel d : Nat) {a b : List UInt8} (hn : a.length < 1000000000) (hf : a.length < fuel) (h : AHeap) : run fuel (d + 1) F_skolemref_SameBytes [.slice (lstU a), .slice (lstU b)] h = some (.bool (decide (a = b)), h) := by
  refine pure_of rfl rfl (cc2 (canon_lstU 7 a) (canon_lstU 7 b)) (r := .bool (decide (a = b))) (h' := AHeap.none) ?_ rfl
  rw [e_skolemref_SameBytes, len_lst, len_lst]
  by_cases hl : a.length = b.length
  · rw [bif_npos (by omega)]
    have := sameUU_loop fuel d hl hn (h := AHeap.none) fuel 0 (by omega) (by omega) rfl
    exact this
  · rw [bif_nneg (by omega), decide_eq_false (fun h => hl (by rw [h]))]
end Go.Proofs.YtmjbjgbcpaagmaaDoor

namespace Go.Proofs.YtmjbjgbcpaagmaaDoor
open Go.RowKit

theorem ciR_lens {i : Nat} {A : List (Int × Int)} {O : List Int} (h : CiR i A O) : A.length ≤ 8000 ∧ O.length ≤ 8000 := ⟨by have := h.hn; omega, h.hO⟩
theorem outsG_cut {M : Int} : ∀ (O : List Int) (b pre : List UInt8) (m : Nat) (acc : List Int), b = pre ++ (outsTx O).take m → m < (outsTx O).length → (∀ x ∈ O, 0 ≤ x ∧ x ≤ 2 * M + 1 ∧ x < 1000000000) → ∃ p, outsG b M O.length pre.length acc = .error p
  | [], b, pre, m, acc, _, h, _ => by simp [outsTx] at h
  | x :: O, b, pre, m, acc, hb, hm, h => by
    obtain ⟨h1, h2, h3⟩ := h x List.mem_cons_self
    have hx : outsTx (x :: O) = lineB [x] ++ outsTx O := by simp [outsTx]
    rw [hx] at hb hm
    rw [List.length_append] at hm
    by_cases hc : m < (lineB [x]).length
    · have hd : b.drop pre.length = (lineB [x]).take m := by rw [hb, drop_at, List.take_append_of_le_length (by omega)]
      rw [List.length_cons, outsG, hd, lnT_cut [x] 1 m hc]
      exact ⟨_, rfl⟩
    · have ht : (lineB [x] ++ outsTx O).take m = lineB [x] ++ (outsTx O).take (m - (lineB [x]).length) := by
        rw [List.take_append, List.take_of_length_le (by omega)]
      rw [ht] at hb
      have hd : b.drop pre.length = lineB [x] ++ (outsTx O).take (m - (lineB [x]).length) := by rw [hb, drop_at]
      obtain ⟨a1, a2, a3⟩ := decT_num (x := x) (by omega) h3
      obtain ⟨p, ih⟩ := outsG_cut O b (pre ++ lineB [x]) (m - (lineB [x]).length) (acc ++ [x]) (by rw [hb]; simp) (by omega) fun y hy => h y (List.mem_cons_of_mem _ hy)
      rw [List.length_cons, outsG, hd, show (1 : Nat) = ([] : List Int).length + 1 from rfl, lnT_line x []]
      simp only [List.map_cons, List.map_nil, List.getD_cons_zero]
      rw [show plainW (decT x) = true by unfold plainW; rw [a1, a3 h1]; rfl, a2, decide_eq_true h2, Bool.and_self, if_pos rfl]
      rw [List.length_append] at ih
      exact ⟨p, ih⟩
theorem andsG_cut {i : Nat} : ∀ (A : List (Int × Int)) (k : Nat) (b pre : List UInt8) (m : Nat) (acc : List (Int × Int)), b = pre ++ (andsB i k A).take m → m < (andsB i k A).length → 2 * (i + k + A.length) < 1000000000 → AndsOk i k A → ∃ p, andsG b i k A.length pre.length acc = .error p
  | [], k, b, pre, m, acc, _, h, _, _ => by simp [andsB] at h
  | p :: A, k, b, pre, m, acc, hb, hm, hn, h => by
    obtain ⟨⟨h1, h2, h3⟩, h4⟩ := h
    simp only [List.length_cons] at hn
    rw [andsB] at hb hm
    generalize hX : smB (2 * ((i : Int) + k + 1) - p.1).toNat = X at hb hm
    generalize hY : smB (p.1 - p.2).toNat = Y at hb hm
    simp only [List.length_append] at hm
    by_cases c1 : m < X.length
    · have hd : b.drop pre.length = X.take m := by rw [hb, drop_at, List.take_append_of_le_length (by omega)]
      rw [List.length_cons, andsG, hd, ← hX, delG_cut _ _ (by rw [hX]; exact c1)]
      exact ⟨_, rfl⟩
    · have ht : (X ++ (Y ++ andsB i (k + 1) A)).take m = X ++ (Y ++ andsB i (k + 1) A).take (m - X.length) := by
        rw [List.take_append, List.take_of_length_le (by omega)]
      rw [ht] at hb
      have hd : b.drop pre.length = X ++ (Y ++ andsB i (k + 1) A).take (m - X.length) := by rw [hb, drop_at]
      have hd2 : b.drop (pre.length + X.length) = (Y ++ andsB i (k + 1) A).take (m - X.length) := by rw [← List.drop_drop, hd, drop_at]
      rw [List.length_cons, andsG, hd, ← hX, delG_small (by omega) (by omega) (by omega)]
      simp only
      rw [hX, hd2]
      by_cases c2 : m - X.length < Y.length
      · rw [List.take_append_of_le_length (by omega), ← hY, delG_cut _ _ (by rw [hY]; exact c2)]
        exact ⟨_, rfl⟩
      · have ht2 : (Y ++ andsB i (k + 1) A).take (m - X.length) = Y ++ (andsB i (k + 1) A).take (m - X.length - Y.length) := by
          rw [List.take_append, List.take_of_length_le (by omega)]
        rw [ht2, ← hY, delG_small (by omega) (by omega) (by omega)]
        simp only
        rw [ht2] at hb
        obtain ⟨q, ih⟩ := andsG_cut (i := i) A (k + 1) b (pre ++ (X ++ Y)) (m - X.length - Y.length) (acc ++ [(2 * ((i : Int) + k + 1) - (((2 * ((i : Int) + k + 1) - p.1).toNat : Nat) : Int), 2 * ((i : Int) + k + 1) - (((2 * ((i : Int) + k + 1) - p.1).toNat : Nat) : Int) - (((p.1 - p.2).toNat : Nat) : Int))]) (by rw [hb]; simp) (by omega) (by omega) (by rw [show ((k + 1 : Nat) : Int) = (k : Int) + 1 by omega]; exact h4)
        simp only [List.length_append] at ih
        rw [hY, Nat.add_assoc]
        exact ⟨q, ih⟩
theorem readG_cut {i : Nat} {A : List (Int × Int)} {O : List Int} (h : CiR i A O) {j : Nat} (hj : j < (aigTx i A O).length) : ∃ c p, readG ((aigTx i A O).take j) = .error (c, p) := by
  obtain ⟨hn, hO, hA, hx⟩ := h
  unfold aigTx at hj ⊢
  simp only [List.length_append] at hj
  generalize hL : lineB (headL i A O) = L at hj
  by_cases c1 : j < 4 + L.length
  · have hw : ∀ c ∈ ([97, 105, 103] ++ 32 :: restB true (headL i A O)), c ≠ 10 := fun c hc => by
      rcases List.mem_append.1 hc with hc | hc
      · simp at hc; rcases hc with rfl | rfl | rfl <;> decide
      · rcases List.mem_cons.1 hc with rfl | hc
        · decide
        · exact restB_no10 _ _ c hc
    have hH : [97, 105, 103, 32] ++ L ++ outsTx O ++ andsB i 0 A = ([97, 105, 103] ++ 32 :: restB true (headL i A O)) ++ 10 :: (outsTx O ++ andsB i 0 A) := by
      rw [← hL, lineB_rest]; simp
    have hlen : j ≤ ([97, 105, 103] ++ 32 :: restB true (headL i A O)).length := by
      have : L.length = (restB true (headL i A O)).length + 1 := by rw [← hL, lineB_rest]; simp
      simp; omega
    rw [hH, List.take_append_of_le_length hlen]
    refine ⟨101, 0, ?_⟩
    unfold readG headG
    rw [lnT_none (fun c hc => hw c (List.mem_of_mem_take hc))]
  · have ht : ([97, 105, 103, 32] ++ L ++ outsTx O ++ andsB i 0 A).take j = [97, 105, 103, 32] ++ L ++ (outsTx O ++ andsB i 0 A).take (j - (4 + L.length)) := by
      rw [show ([97, 105, 103, 32] ++ L ++ outsTx O ++ andsB i 0 A : List UInt8) = ([97, 105, 103, 32] ++ L) ++ (outsTx O ++ andsB i 0 A) by simp, List.take_append, List.take_of_length_le (by simp; omega), show ([97, 105, 103, 32] ++ L : List UInt8).length = 4 + L.length by simp; omega]
    rw [ht]
    have hh := headG_any ((i : Int) + A.length) [(i : Int), 0, (O.length : Int), (A.length : Int)] ((outsTx O ++ andsB i 0 A).take (j - (4 + L.length))) rfl (fun y hy => by simp at hy; rcases hy with rfl | rfl | rfl | rfl | rfl <;> omega)
    have hl : limT ((i : Int) + A.length) i 0 O.length A.length = none := by
      unfold limT
      rw [if_neg (by omega), if_neg (by omega), if_neg (by omega), if_neg (by simp), if_neg (by simp)]
    simp only [List.getD_cons_zero, List.getD_cons_succ] at hh
    rw [hl] at hh
    simp only at hh
    unfold headL at hL
    rw [hL] at hh
    unfold readG
    rw [hh]
    simp only [List.getD_cons_zero, List.getD_cons_succ, Int.toNat_natCast]
    have hj' : j < 4 + L.length + (outsTx O).length + (andsB i 0 A).length := by simpa [Nat.add_assoc] using hj
    have hpre : ([97, 105, 103, 32] ++ L : List UInt8).length = 4 + L.length := by simp; omega
    have hxs : ∀ x ∈ O, 0 ≤ x ∧ x ≤ 2 * ((i : Int) + A.length) + 1 ∧ x < 1000000000 := fun x hxm => by have := hx x hxm; omega
    by_cases c2 : j - (4 + L.length) < (outsTx O).length
    · obtain ⟨p, e⟩ := outsG_cut (M := (i : Int) + A.length) O ([97, 105, 103, 32] ++ L ++ (outsTx O ++ andsB i 0 A).take (j - (4 + L.length))) ([97, 105, 103, 32] ++ L) (j - (4 + L.length)) [] (by rw [List.take_append_of_le_length (by omega)]) c2 hxs
      rw [hpre] at e
      rw [e]
      exact ⟨_, _, rfl⟩
    · have ht2 : (outsTx O ++ andsB i 0 A).take (j - (4 + L.length)) = outsTx O ++ (andsB i 0 A).take (j - (4 + L.length) - (outsTx O).length) := by
        rw [List.take_append, List.take_of_length_le (by omega)]
      have o1 := outsG_text (m := (i : Int) + A.length) O ([97, 105, 103, 32] ++ L ++ (outsTx O ++ andsB i 0 A).take (j - (4 + L.length))) ([97, 105, 103, 32] ++ L) ((andsB i 0 A).take (j - (4 + L.length) - (outsTx O).length)) [] (by rw [ht2]; simp) hxs
      rw [hpre] at o1
      rw [o1]
      simp only
      obtain ⟨p, e⟩ := andsG_cut (i := i) A 0 ([97, 105, 103, 32] ++ L ++ (outsTx O ++ andsB i 0 A).take (j - (4 + L.length))) ([97, 105, 103, 32] ++ L ++ outsTx O) (j - (4 + L.length) - (outsTx O).length) [] (by rw [ht2]; simp) (by omega) (by omega) hA
      rw [e]
      exact ⟨_, _, rfl⟩
theorem aigTx_inj {i : Nat} {A B : List (Int × Int)} {O Q : List Int} (h : CiR i A O) (k : CiR i B Q) : decide (aigTx i A O = aigTx i B Q) = (decide ((i : Int) = (i : Int)) && decide (A = B) && decide (O = Q)) := by
  rw [decide_eq_true (rfl : (i : Int) = (i : Int)), Bool.true_and]
  by_cases he : aigTx i A O = aigTx i B Q
  · have e1 := readG_back h
    rw [he, readG_back k] at e1
    cases e1
    rw [decide_eq_true rfl, decide_eq_true rfl, decide_eq_true rfl]; rfl
  · rw [decide_eq_false he]
    by_cases h1 : A = B
    · by_cases h2 : O = Q
      · exact absurd (by rw [h1, h2]) he
      · rw [decide_eq_false h2, Bool.and_false]
    · rw [decide_eq_false h1, Bool.false_and]
theorem aigCuts_run (F d : Nat) (hF : 2 ^ 21 ≤ F) (i : Int) (l m o : List Int) (k : Int) (hk : -9223372036854775808 ≤ k ∧ k ≤ 9223372036854775807) (h : AHeap) : ∃ h', run F (d + 60) F_skolemlaw12_AigCuts [.int .i64 i, .slice (lstI l), .slice (lstI m), .slice (lstI o), .int .i64 k] h = some (.bool true, h') := by
  rw [e_skolemlaw12_AigCuts, first12_run F (by omega) (by omega)]
  simp only [Option.bind_some, bool_bool, Bool.not_true, cond_false]
  rw [len_lst, len_lst, len_lst]
  by_cases hg : (60 < l.length ∨ 60 < m.length) ∨ 9 < o.length ∨ i < 0 ∨ 30 < i
  · rw [cond_pos _ _ (by
      rcases hg with (hg | hg) | hg | hg | hg
      · rw [decide_eq_true (show (60 : Int) < (l.length : Int) by omega)]; simp
      · rw [decide_eq_true (show (60 : Int) < (m.length : Int) by omega)]; simp
      · rw [decide_eq_true (show (9 : Int) < (o.length : Int) by omega)]; simp
      · rw [decide_eq_true hg]; simp
      · rw [decide_eq_true hg]; simp)]
    exact ⟨h, rfl⟩
  rw [cond_neg _ _ (by
    rw [decide_eq_false (show ¬ (60 : Int) < (l.length : Int) by omega), decide_eq_false (show ¬ (60 : Int) < (m.length : Int) by omega), decide_eq_false (show ¬ (9 : Int) < (o.length : Int) by omega), decide_eq_false (show ¬ i < 0 by omega), decide_eq_false (show ¬ 30 < i by omega)]
    rfl)]
  obtain ⟨I, rfl⟩ := Int.eq_ofNat_of_zero_le (show 0 ≤ i by omega)
  have hR := mk_right (i := I) (l := l) (o := o) (by omega) (by omega)
  have hS := mk_right (i := I) (l := m) (o := o) (by omega) (by omega)
  rw [mkc_run F (d + 57) (by omega) (by omega) (by omega) (by omega) (canon_lstI 7 l) (canon_lstI 7 o)]
  generalize mkO ((I : Int) + (mkAnds I l).length) o = O at hR
  generalize mkAnds (I : Int) l = A at hR
  simp only [Option.bind_some, agg_agg]
  rw [cond_pos _ _ (okCi I A O)]
  have s1 := (Sep0.start h).push 1 3 (cs := zero3) rfl
  obtain ⟨h5, e5, s5⟩ := s1.putAll (i := 0) (vs := circC I A O) rfl rfl rfl
  rw [e5, Option.bind_some, mkc_run F (d + 57) (by omega) (by omega) (by omega) (by omega) (canon_lstI 7 m) (canon_lstI 7 o)]
  generalize mkO ((I : Int) + (mkAnds I m).length) o = Q at hS
  generalize mkAnds (I : Int) m = B at hS
  obtain ⟨hA8, hO8⟩ := ciR_lens hR
  obtain ⟨hB8, hQ8⟩ := ciR_lens hS
  obtain ⟨hlen, hne⟩ := aigTx_len hR.ok
  simp only [Option.bind_some, agg_agg]
  rw [cond_pos _ _ (okCi I B Q)]
  obtain ⟨h8, e8, s8⟩ := (s5.push 1 3 (cs := zero3) rfl).putAll (i := 1) (vs := circC I B Q) rfl rfl rfl
  have c0 : h8.cellsAt 3 (.mk ⟨h.next, 0, 0⟩ 3) = some (circC I A O) := s8.getAll (i := 0) rfl rfl
  have c1 : h8.cellsAt 3 (.mk ⟨h5.next, 0, 0⟩ 3) = some (circC I B Q) := s8.getAll (i := 1) rfl rfl
  rw [e8, Option.bind_some, c0, Option.bind_some, gbytes_run F (d + 51) (by omega) hR]
  simp only [Option.bind_some, slice_slice]
  rw [len_lst, bif_neg (by omega)]
  have tail : ∀ (x : Int), 0 ≤ x → ∃ h', k_skolemlaw12_AigCuts_0 F (d + 59) .normal [(4, .int .i64 x), (11, .bool true), (12, .ptr (.mk ⟨h.next, 0, 0⟩ 3)), (13, .ptr (.mk ⟨h5.next, 0, 0⟩ 3)), (14, .slice (lstU (aigTx I A O)))] h8 = some (.bool true, h') := by
    intro x hx
    obtain ⟨j, hj⟩ : ∃ j : Nat, Int.tmod x ((aigTx I A O).length : Int) = (j : Int) := ⟨(Int.tmod x ((aigTx I A O).length : Int)).toNat, by have := Int.tmod_nonneg ((aigTx I A O).length : Int) hx; omega⟩
    have hjl : j < (aigTx I A O).length := by
      have := Int.tmod_lt_of_pos x (show (0 : Int) < ((aigTx I A O).length : Int) by omega)
      omega
    obtain ⟨c, p, hcut⟩ := readG_cut hR hjl
    rw [k_skolemlaw12_AigCuts_0_n, len_lst, bif_neg (by omega), hj, aHi_some (by omega) (by first | omega | (rw [len_lst]; omega)), Option.bind_some, aLo_none, Option.bind_some, aMx_none, Option.bind_some, hasSz_lstM, cond_true, Int.toNat_natCast, cut_lstU _ (by omega), List.drop_zero, Nat.sub_zero]
    rw [gread_run F (d + 51) (by simp; omega) (by simp; omega), hcut]
    simp only [ciA, Option.bind_some, tup2, cond_true, comp0, comp1, agg_agg]
    rw [cond_pos _ _ (okCi 0 [] [])]
    obtain ⟨h9, e9, s9⟩ := (s8.push 1 3 (cs := zero3) rfl).putAll (i := 2) (vs := circC 0 [] []) rfl rfl rfl
    have k0 : h9.cellsAt 3 (.mk ⟨h.next, 0, 0⟩ 3) = some (circC I A O) := s9.getAll (i := 0) rfl rfl
    have k1 : h9.cellsAt 3 (.mk ⟨h5.next, 0, 0⟩ 3) = some (circC I B Q) := s9.getAll (i := 1) rfl rfl
    rw [e9]
    simp only [Option.bind_some, errC_no, Bool.not_false, cond_true, k1]
    rw [gbytes_run F (d + 51) (by omega) hS]
    simp only [Option.bind_some, slice_slice]
    rw [sameUU_run F (d + 58) (by omega) (by omega)]
    simp only [Option.bind_some, bool_bool, k0, k1, same_self]
    rw [sameCi_run F (d + 57) (by omega) (by omega) (by omega) (by omega)]
    simp only [Option.bind_some, bool_bool, k_skolemlaw12_AigCuts_1_n]
    rw [aigTx_inj hR hS]
    simp
  by_cases hneg : k < 0
  · rw [bif_pos hneg, Option.bind_some, wrap64 (n := k + 1) (by omega) (by omega), wrap64 (by omega) (by omega)]
    exact tail _ (by omega)
  · rw [bif_neg hneg, Option.bind_some]
    exact tail _ (by omega)
end Go.Proofs.YtmjbjgbcpaagmaaDoor
