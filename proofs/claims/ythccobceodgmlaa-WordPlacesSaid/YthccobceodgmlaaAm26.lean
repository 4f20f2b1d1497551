/-
  Slices of bytes, parts of slices, strings.
-/
import Derived.Test.YthccobceodgmlaaAm25
import Derived.Test.YthccobceodgmlaaAm23
namespace Go.Proofs.Ythccobceodgmlaa
open Go.RowKit

/-- The cells of bytes. -/
abbrev bytesC (b : List UInt8) : List AVal := b.map fun x => .int .u8 (x.toNat : Int)

theorem ofNat_toNat (x : UInt8) : UInt8.ofNat ((x.toNat : Int)).toNat = x := by
  rw [Int.toNat_natCast]
  exact UInt8.ofNat_toNat

theorem bytesFrom_bytesC : ∀ b : List UInt8, bytesFrom (bytesC b) = some b
  | [] => rfl
  | x :: b => by
    have e : bytesC (x :: b) = .int .u8 (x.toNat : Int) :: bytesC b := rfl
    rw [e, bytesFrom, bytesFrom_bytesC b, Option.map_some, ofNat_toNat]

theorem bytesOf_eq (s : ByteArray) : bytesOf s = bytesC s.data.toList := rfl

theorem bytesC_of {zs : List Int} (h : ∀ n ∈ zs, 0 ≤ n ∧ n ≤ 255) : zs.map (AVal.int .u8) = bytesC (zs.map fun n => UInt8.ofNat n.toNat) := by
  show _ = List.map _ (List.map _ zs)
  rw [List.map_map]
  refine List.map_congr_left fun n hn => ?_
  have := h n hn
  have e : (UInt8.ofNat n.toNat).toNat = n.toNat := by
    rw [UInt8.toNat_ofNat']
    omega
  simp only [Function.comp, e]
  congr 1
  omega

theorem readU {h : AHeap} {s : Sl} {b : List UInt8} (hs : h.sliceCells 1 s = some (bytesC b)) {j : Nat} (hj : j < b.length) :
    h.addr 1 s (j : Int) = some (s.at 1 (j : Int)) ∧ h.cell (s.at 1 (j : Int)) = some (.int .u8 ((b.getD j 0).toNat : Int)) := by
  have hl := sliceCells_len hs
  simp only [List.length_map, Nat.mul_one] at hl
  exact ⟨addr_at hs (by omega) (by omega), cell_at hs (by omega) (by rw [Int.toNat_natCast]; simp [List.getElem?_eq_getElem hj])⟩

theorem aHi_none (n : Nat) : aHi none n = some n := rfl
theorem aHi_some {x : Int} {n : Nat} (h0 : 0 ≤ x) (h1 : x ≤ n) (k : IntKind) : aHi (some (.int k x)) n = some x.toNat := by
  simp [aHi, abound, h0, h1]
theorem aLo_none (n : Nat) : aLo none n = some 0 := rfl
theorem aLo_some {x : Int} {n : Nat} (h0 : 0 ≤ x) (h1 : x ≤ n) (k : IntKind) : aLo (some (.int k x)) n = some x.toNat := by
  simp [aLo, abound, h0, h1]
theorem aMx_none (n : Nat) : aMx none n = some false := rfl

theorem hasSz_of {h : AHeap} {sz : Nat} {s : Sl} {cs : List AVal} (hs : h.sliceCells sz s = some cs) (hn : s.len ≠ 0) : h.hasSz sz s = true := by
  cases s with
  | nil => rfl
  | mk r n c =>
    obtain ⟨row, h1, h2, _⟩ := sliceCells_row hs hn
    simp [AHeap.hasSz, h1, h2]

theorem hasSz_ext {h h' : AHeap} (hk : Ext h h') {sz : Nat} {s : Sl} (hs : h.hasSz sz s = true) : h'.hasSz sz s = true := by
  cases s with
  | nil => rfl
  | mk r n c =>
    simp only [AHeap.hasSz, Bool.or_eq_true] at hs ⊢
    rcases hs with hs | hs
    · exact .inl hs
    · right
      split at hs
      · rename_i row hrow
        rw [hk.2 _ row hrow id]
        exact hs
      · cases hs

theorem Grown.hasSz {h : AHeap} {sz : Nat} {s : Sl} {cs : List AVal} (hg : Grown h sz s cs) : h.hasSz sz s = true := by
  cases hg with
  | nil => rfl
  | row h1 hc hn hgen hv hr hs => simp [AHeap.hasSz, h1, hs]
theorem Own.hasSz {h : AHeap} {sz id gen n : Nat} {cs : List AVal} (ho : Own h sz id gen n cs) (c : Bool) : h.hasSz sz (.mk ⟨id, gen, 0⟩ n c) = true := by
  obtain ⟨⟨row, h1, _, _, _, _, h6⟩, _⟩ := ho
  simp [AHeap.hasSz, h1, h6]
theorem Own.ownAt {h : AHeap} {sz id gen n : Nat} {cs : List AVal} (ho : Own h sz id gen n cs) : h.ownAt id = true := by
  obtain ⟨⟨row, h1, _, _, _, h5, _⟩, _⟩ := ho
  simp [AHeap.ownAt, h1, h5]

/-- A part of a slice. -/
theorem cut_cells {h : AHeap} {sz : Nat} {s : Sl} {cs : List AVal} (hs : h.sliceCells sz s = some cs) {lb hb : Nat} (h1 : lb ≤ hb) (h2 : hb ≤ s.len) (c : Bool) :
    h.sliceCells sz (s.cut sz lb hb c) = some ((cs.drop (lb * sz)).take ((hb - lb) * sz)) ∧ (s.cut sz lb hb c).len = hb - lb := by
  cases s with
  | nil =>
    simp only [Sl.len] at h2
    have : hb = 0 := by omega
    subst this
    have : lb = 0 := by omega
    subst this
    simp [Sl.cut, AHeap.sliceCells, Sl.len]
  | mk r n cl =>
    simp only [Sl.len] at h2
    refine ⟨?_, rfl⟩
    by_cases hz : hb - lb = 0
    · simp [Sl.cut, AHeap.sliceCells, hz]
    · obtain ⟨row, g1, g2, g3, g4, g5, rfl⟩ := sliceCells_row hs (by omega)
      have m1 : lb * sz + (hb - lb) * sz = hb * sz := by rw [← Nat.add_mul]; congr 1; omega
      have m2 : hb * sz ≤ n * sz := Nat.mul_le_mul_right _ h2
      simp only [Sl.cut]
      rw [sliceCells_of (r := ⟨r.id, r.gen, r.off + lb * sz⟩) g1 g2 g3 g4 (by simp only; omega)]
      simp only
      rw [← List.drop_drop, List.drop_take, List.take_take, Nat.min_eq_left (by omega)]

theorem cut_bytes {h : AHeap} {s : Sl} {b : List UInt8} (hs : h.sliceCells 1 s = some (bytesC b)) {lb hb : Nat} (h1 : lb ≤ hb) (h2 : hb ≤ b.length) (c : Bool) :
    h.sliceCells 1 (s.cut 1 lb hb c) = some (bytesC ((b.drop lb).take (hb - lb))) ∧ (s.cut 1 lb hb c).len = hb - lb := by
  have hl := sliceCells_len hs
  simp only [List.length_map, Nat.mul_one] at hl
  have := cut_cells hs h1 (by omega) c
  rwa [Nat.mul_one, Nat.mul_one, ← List.map_drop, ← List.map_take] at this

section
variable {B : Nat} {μ : Mu} {h : AHeap} {w : World}

theorem Given.hasSz {sz : Nat} {s : Sl} {cs : List AVal} (hg : Given h sz s cs) : h.hasSz sz s = true := by
  cases hg with
  | nil => rfl
  | none => simp [AHeap.hasSz]
  | row h1 h2 h3 h4 h5 hl => simp [AHeap.hasSz, h1, h3]

/-- A slice of bytes that came in. -/
theorem byteArg (hr : HRel μ B h w) (hro : h.allRo) {a : Option Addr} {len cap : Nat} {zs : List Int} (w0 : IsRow .u8 w a len cap zs) :
    ∃ μ' h' s b, μ.le μ' ∧ HRel μ' B h' w ∧ h'.allRo ∧ VRel μ' (.slice s) (.slice a len cap) ∧ h'.sliceCells 1 s = some (bytesC b) ∧ h'.hasSz 1 s = true ∧ Ext h h' := by
  have hwf : ∀ n ∈ zs.take len, 0 ≤ n ∧ n ≤ 255 := by
    rcases w0 with ⟨rfl, rfl, rfl, rfl⟩ | ⟨x, rfl, hl, hm, hz, hcell, hwz⟩
    · intro n hn; simp at hn
    · intro n hn
      exact (Lit.wf_int_iff .u8 n).1 (hwz n (List.mem_of_mem_take hn))
  rcases w0 with ⟨rfl, rfl, rfl, rfl⟩ | ⟨x, rfl, hl, hm, hz, hcell, hwz⟩
  · exact ⟨μ, h, .nil, [], μ.le_refl, hr, hro, .nilslice, rfl, rfl, Keeps.refl _ _⟩
  · have hc : CRel1 μ (zs.map (AVal.int .u8)) (zs.map (Value.int .u8)) := by
      refine ⟨⟨by simp, fun i c d hc hd => ?_⟩, fun d hd => ?_⟩
      · rw [List.getElem?_map] at hc hd
        cases hi : zs[i]? with
        | none => rw [hi] at hc; cases hc
        | some z =>
          rw [hi] at hc hd
          cases hc; cases hd
          exact .int
      · obtain ⟨z, _, rfl⟩ := List.mem_map.1 hd
        rfl
    obtain ⟨μ', h', s, h1, h2, h3, h4, h5, h6, h7⟩ := hr.givenSlice hro 1 hc hl (by simpa using hz.symm) (by omega) (a := x) fun i y hy => by
      rw [List.getElem?_map] at hy
      cases hi : zs[i]? with
      | none => rw [hi] at hy; cases hy
      | some z =>
        rw [hi] at hy
        cases hy
        have hlt := (List.getElem?_eq_some_iff.1 hi).1
        rw [hcell i hlt]
        simp [hi]
    refine ⟨μ', h', s, (zs.take len).map fun n => UInt8.ofNat n.toNat, h1, h2, h3, h4, ?_, h6.hasSz, ext_of h7⟩
    have := h6.cells
    rwa [Nat.mul_one, ← List.map_take, bytesC_of hwf] at this

end
end Go.Proofs.Ythccobceodgmlaa
