/-
  Parts of the proof of AigForms: aig.Read. skolemlaw12.first. skolemworld.Number. skolemmake.Circuit. Bytes held against themselves. AigForms.
-/
import Derived.Test.YtmjbjgbcpaagmaaDoorTAigForms2
import Derived.Test.YtmjbjgbcpaagmaaDoorE
namespace Go.Proofs.YtmjbjgbcpaagmaaDoor
open Go.RowKit

theorem lnT_len {r : List UInt8} {many m : Nat} {ws : List (List UInt8)} (h : lnT r many = some (ws, m)) : m ≤ r.length ∧ ws.length = many := by
  unfold lnT at h
  split at h
  · cases h
  · rename_i hi
    simp only at h
    split at h
    · rename_i hw
      cases h
      rcases index_lt r 10 with h | ⟨_, h⟩
      · exact ⟨by omega, hw⟩
      · omega
    · cases h
theorem outsG_len {b : List UInt8} {m : Int} : ∀ {n k : Nat} {acc O : List Int} {k' : Nat}, outsG b m n k acc = .ok (O, k') → k ≤ b.length → O.length = acc.length + n ∧ k' ≤ b.length
  | 0, k, acc, O, k', h, hk => by cases h; exact ⟨rfl, hk⟩
  | n + 1, k, acc, O, k', h, hk => by
    unfold outsG at h
    split at h
    · cases h
    · rename_i ws j hj
      have := (lnT_len hj).1
      rw [List.length_drop] at this
      split at h
      · obtain ⟨h1, h2⟩ := outsG_len h (by omega)
        simp at h1
        exact ⟨by omega, h2⟩
      · cases h
section
variable (fuel d : Nat) {r : Nat} {b : List UInt8}
abbrev grL (R C N : Nat) (i : Int) (nn O : List Int) (sO : Sl) (r : Nat) (b : List UInt8) (k : Nat) : List Chunk :=
  [.grown 1 sO (intsC O), .own 1 C 0 3 [.int .i64 i, .slice .nil, .slice sO], .own 1 N 0 6 (intsC nn), grCh r b k, .own 1 R 0 3 zero3]
variable {R C N : Nat} {nn : List Int} {i : Int}
theorem gread0 (hf : b.length + 30 < fuel) (hb : b.length < 1000000) {I : Nat} (hI : I ≤ 10000) {M : Int} (hM : nn[1]? = some M) (hM0 : 0 ≤ M) (hM9 : M < 1000000) : ∀ (n m k : Nat) (O : List Int) (sO : Sl) (h : AHeap), I < n + m → m ≤ I → k ≤ b.length → O.length = m → Sep0 AHeap.none h (grL R C N i nn O sO r b k) →
    match outsG b M (I - m) k O with
    | .error p => ∃ h' x0 x7, l_aig_Read_0 fuel (d + 6) n [(0, .slice (lstU b)), (2, .ptr (rdP R)), (4, .ptr (gP r)), (5, .ptr (nP N)), (7, .ptr (rdP C)), (36, .int .i64 (I : Int)), (37, .int .i64 (m : Int))] h = some (.ret, [(0, x0), (2, .ptr (rdP R)), (3, atV p err_api_ErrText), (4, .ptr (gP r)), (5, .ptr (nP N)), (7, x7)], h') ∧ h'.cellsAt 3 (rdP R) = some zero3
    | .ok (O', k') => ∃ h' sO', l_aig_Read_0 fuel (d + 6) n [(0, .slice (lstU b)), (2, .ptr (rdP R)), (4, .ptr (gP r)), (5, .ptr (nP N)), (7, .ptr (rdP C)), (36, .int .i64 (I : Int)), (37, .int .i64 (m : Int))] h = some (.exit 0, [(0, .slice (lstU b)), (2, .ptr (rdP R)), (3, .bot), (4, .ptr (gP r)), (5, .ptr (nP N)), (7, .ptr (rdP C))], h') ∧ Sep0 AHeap.none h' (grL R C N i nn O' sO' r b k') := by
  intro n
  induction n with
  | zero => intro m k O sO h h1 h2; omega
  | succ n ih =>
    intro m k O sO h h1 h2 hk9 hO hs
    rw [l_aig_Read_0_eq]
    by_cases hm : m < I
    · have n1 := gline_run fuel (d + 2) hf hb (j := 3) 1 hs rfl
      rw [bif_pos (by omega), show I - m = (I - (m + 1)) + 1 by omega]
      simp only [chk_mk, field_mk, Option.bind_some, gr_c1 (j := 3) hs rfl, int_int]
      rw [show ((1 : Nat) : Int) = 1 from rfl] at n1
      unfold outsG
      have fin : ∀ {h1 : AHeap} {L : List Chunk}, Sep0 AHeap.none h1 (.own 1 R 0 3 zero3 :: L) → ∃ h', h1.storeAt [(.int .i64 (0 : Int)), (.slice Sl.nil), (.slice Sl.nil)] (rdP R) = some h' ∧ h'.cellsAt 3 (rdP R) = some zero3 := by
        intro h1 L s
        obtain ⟨h', e1, e2, _⟩ := ret_put s rfl (vs := zero3) rfl
        exact ⟨h', e1, e2⟩
      cases q1 : lnT (b.drop k) 1 with
      | none =>
        rw [q1] at n1
        obtain ⟨h1', e1, s1⟩ := n1
        obtain ⟨h', e2, e3⟩ := fin (L := []) s1.tail.tail.tail.tail
        refine ⟨h', .slice (lstU b), .ptr (rdP C), ?_, e3⟩
        rw [e1]
        simp only [Option.bind_some, tup2, cond_true, comp0, comp1, slice_slice, nilTest_if, Bool.not_false]
        rw [e2]
        rfl
      | some wj =>
        obtain ⟨ws, j⟩ := wj
        have hjl := (lnT_len q1).1
        rw [List.length_drop] at hjl
        rw [q1] at n1
        obtain ⟨h1', s, e1, s1, hw1⟩ := n1
        have s1' : Sep0 AHeap.none h1' (.grown 1 s (strsC ws) :: grL R C N i nn O sO r b (k + j)) := s1
        obtain ⟨g1, g2⟩ := strsC_get (s1'.sep.grown (i := 0) rfl) (0 : Int) 0 rfl (by omega)
        have c1 : h1'.cell (.mk ⟨N, 0, 1⟩ 6) = some (.int .i64 M) := s1'.part (i := 3) rfl (by omega) (by rw [List.getElem?_map, hM]; rfl)
        have s2 : Sep0 AHeap.none h1' (grL R C N i nn O sO r b (k + j)) := s1'.tail
        have hsl := s2.len (i := 0) rfl
        rw [List.length_map, Nat.mul_one] at hsl
        have cO : h1'.cell (.mk ⟨C, 0, 0 + 2⟩ 3) = some (.slice sO) := s2.part (i := 1) rfl (by omega) rfl
        rw [e1]
        simp only [Option.bind_some, tup2, cond_true, comp0, comp1, slice_slice, nilTest_nilif, Bool.not_true, cond_false]
        rw [g1, Option.bind_some, g2, Option.bind_some, str_str, Option.bind_some, plain_run fuel (d + 2) (by omega)]
        simp only [Option.bind_some, tup2, cond_true, comp0, comp1, int_int, bool_bool]
        have hel : Pt.elem 1 6 (1 : Int) (nP N) = some (.mk ⟨N, 0, 1⟩ 6) := rfl
        obtain ⟨h', e2, e3⟩ := fin (L := []) s2.tail.tail.tail.tail
        cases hp : plainW (ws.getD 0 []) with
        | false =>
          simp only [Bool.not_false, show ((true == false) : Bool) = false from rfl, cond_false, Option.bind_some, bool_bool, cond_true, Bool.false_and, Bool.false_eq_true, if_false]
          refine ⟨h', .slice (lstU b), .ptr (rdP C), ?_, e3⟩
          rw [gat0 fuel (d + 5)]
          simp only [Option.bind_some]
          rw [e2]
          rfl
        | true =>
          have hr := plainW_range hp
          simp only [Bool.not_true, beq_self_eq_true, cond_true, hel, c1, Option.bind_some, int_int, bool_bool, if_true, Bool.true_and]
          rw [wrap64 (n := 2 * M) (by omega) (by omega), wrap64 (n := 2 * M + 1) (by omega) (by omega)]
          by_cases hx : numW (ws.getD 0 []) ≤ 2 * M + 1
          · rw [bif_neg (by omega), decide_eq_true hx, if_pos rfl]
            obtain ⟨sO', h2', e4, s4, _⟩ := s2.grow (i := 0) (bytes := 8) (m := 1) (vs := [.int .i64 (numW (ws.getD 0 []))]) rfl rfl (by omega) (by omega)
            rw [set0, show intsC O ++ [AVal.int .i64 (numW (ws.getD 0 []))] = intsC (O ++ [numW (ws.getD 0 [])]) by simp] at s4
            obtain ⟨h3', e5, s5⟩ := s4.put (i := 1) (o := 2) (l := 3) (vs := [.slice sO']) rfl (by simp) (by simp)
            have s5' : Sep0 AHeap.none h3' (grL R C N i nn (O ++ [numW (ws.getD 0 [])]) sO' r b (k + j)) := s5
            have := ih (m + 1) (k + j) (O ++ [numW (ws.getD 0 [])]) sO' h3' (by omega) (by omega) (by omega) (by simp; omega) s5'
            rw [cO, Option.bind_some, slice_slice, Option.bind_some, e4]
            simp only [Option.bind_some]
            rw [show (0 + 2 : Nat) = 2 from rfl, e5, Option.bind_some, sucU (by omega)]
            exact this
          · rw [bif_pos (by omega), decide_eq_false hx, if_neg (by simp)]
            refine ⟨h', .slice (lstU b), .ptr (rdP C), ?_, e3⟩
            rw [gat0 fuel (d + 5)]
            simp only [Option.bind_some]
            rw [e2]
            rfl
    · obtain rfl : m = I := by omega
      rw [bif_neg (by omega), Nat.sub_self]
      unfold outsG
      exact ⟨h, sO, rfl, hs⟩
theorem headG_code {b : List UInt8} {c : Int} (h : headG b = .error c) : c = 101 ∨ c = 102 := by
  unfold headG at h
  split at h
  · cases h; exact .inl rfl
  · split at h
    · split at h
      · rename_i hl
        cases h
        exact (limT_code hl).1
      · cases h
    · cases h; exact .inl rfl
theorem gread_body (hf : b.length + 20000 < fuel) (hb : b.length < 1000000) : ∃ v h', brun fuel (d + 8) F_aig_Read [.slice (lstU b)] AHeap.none = some (v, h') ∧ freezeV h' 8 v = some (ciA (readG b)) := by
  have s0 := (Sep0.start AHeap.none).push 1 3 (cs := zero3) rfl
  rw [e_aig_Read, len_lst, bif_neg (by omega)]
  generalize AHeap.none.next = R at s0
  generalize AHeap.push AHeap.none 1 [(AVal.int .i64 (0 : Int)), (.slice Sl.nil), (.slice Sl.nil)] = H at s0
  have s1 := (s0.push 1 2 (cs := [.slice (lstU b), .int .i64 (0 : Int)]) rfl).cons
  have s1' : Sep0 AHeap.none (H.push 1 [.slice (lstU b), .int .i64 (0 : Int)]) [grCh H.next b 0, .own 1 R 0 3 zero3] := s1
  have hd := ghead_run fuel (d + 1) (h0 := AHeap.none) (j := 0) (by omega) hb s1' rfl
  generalize H.next = r at s1' hd
  generalize (H.push 1 [.slice (lstU b), .int .i64 (0 : Int)]) = H2 at s1' hd
  have zero : ∀ {h1 : AHeap} {L : List Chunk} {c p : Int} {zs : List AVal}, (c = 101 ∨ c = 102) → zs.length = 3 → Sep0 AHeap.none h1 (.own 1 R 0 3 zs :: L) → ∃ v h', ((AHeap.storeAt h1 [(.int .i64 (0 : Int)), (.slice Sl.nil), (.slice Sl.nil)] (Pt.mk ⟨R, 0, 0⟩ 3)).bind fun h13 =>
    (((((AHeap.cellsAt h13 3 (Pt.mk ⟨R, 0, 0⟩ 3)).bind fun c15 =>
    some ((AVal.agg c15)) : Option AVal).bind fun v14 =>
    some [v14, atV p (errC c)]) : Option (List AVal)).map AVal.tup).map fun v => (v, h13)) = some (v, h') ∧ freezeV h' 8 v = some (ciA (.error (c, p))) := by
    intro h1 L c p zs hc hz s
    obtain ⟨h', e1, e2, _⟩ := ret_put s hz (vs := zero3) rfl
    rw [e1, Option.bind_some, e2]
    exact ⟨_, h', rfl, zero3_fr hc p h'⟩
  unfold readG
  cases hh : headG b with
  | error c =>
    rw [hh] at hd
    have hc := headG_code hh
    obtain ⟨h1, k', nn, e1, e2, s2⟩ := hd
    rw [set0] at s2
    have s3 := (s2.push 1 6 (cs := intsC [0, 0, 0, 0, 0, 0]) rfl).cons
    obtain ⟨h2, e3, s4⟩ := s3.putAll (i := 0) (vs := intsC nn) rfl rfl (by rw [List.length_map, e2])
    rw [e1]
    simp only [Option.bind_some, tup2, cond_true, comp0, comp1, agg_agg]
    rw [all6 e2, cond_true]
    rw [show [(AVal.int .i64 (0 : Int)), (.int .i64 (0 : Int)), (.int .i64 (0 : Int)), (.int .i64 (0 : Int)), (.int .i64 (0 : Int)), (.int .i64 (0 : Int))] = intsC [0, 0, 0, 0, 0, 0] from rfl, e3, Option.bind_some, errC_no, Option.bind_some, Bool.not_false, cond_true]
    exact zero (L := []) hc rfl (s4.tail.tail)
  | ok Nk =>
    obtain ⟨M, k⟩ := Nk
    rw [hh] at hd
    obtain ⟨h1, e1, s2, hM5, hMr, hlim, hkb⟩ := hd
    rw [set0] at s2
    obtain ⟨l1, l2, l3, l4, l5⟩ := limT_none hlim
    have h5 := five hM5
    have hN6 : (0 :: M).length = 6 := by simp [hM5]
    have q1 := hMr (M.getD 1 0) (by rw [h5]; simp)
    have q3 := hMr (M.getD 3 0) (by rw [h5]; simp)
    have q4 := hMr (M.getD 4 0) (by rw [h5]; simp)
    have s3 := (s2.push 1 6 (cs := intsC [0, 0, 0, 0, 0, 0]) rfl).cons
    obtain ⟨h2, e3, e4, s4⟩ := ret_put s3 rfl (vs := intsC (0 :: M)) (by rw [List.length_map, hN6])
    rw [e1]
    simp only [Option.bind_some, tup2, cond_true, comp0, comp1, agg_agg]
    rw [all6 hN6, cond_true]
    rw [show [(AVal.int .i64 (0 : Int)), (.int .i64 (0 : Int)), (.int .i64 (0 : Int)), (.int .i64 (0 : Int)), (.int .i64 (0 : Int)), (.int .i64 (0 : Int))] = intsC [0, 0, 0, 0, 0, 0] from rfl, e3, Option.bind_some, nilTest_nilif, Option.bind_some, Bool.not_true, cond_false]
    generalize h1.next = N at e4 s4 ⊢
    have g2 : ∀ p : Nat, p < 5 → (0 :: M)[p + 1]? = some (M.getD p 0) := fun p hp => by rw [List.getElem?_cons_succ]; exact getD_get (by omega) 0
    have cI : h2.cell (.mk ⟨N, 0, 2⟩ 6) = some (.int .i64 (M.getD 1 0)) := s4.part (i := 0) rfl (by omega) (by rw [List.getElem?_map, g2 1 (by omega)]; rfl)
    have s5 := (s4.push 1 3 (cs := zero3) rfl).cons
    obtain ⟨h3, e5, _, s6⟩ := ret_put s5 rfl (vs := [.int .i64 (M.getD 1 0), .slice .nil, .slice .nil]) rfl
    rw [show Pt.elem 1 6 (2 : Int) (.mk ⟨N, 0, 0⟩ 6) = some (.mk ⟨N, 0, 2⟩ 6) from rfl, Option.bind_some, cI, Option.bind_some, int_int, Option.bind_some, e5, Option.bind_some]
    generalize h2.next = C at s6 ⊢
    have s7 : Sep0 AHeap.none h3 (grL R C N (M.getD 1 0) (0 :: M) [] .nil r b k) := (s6.addNil 1).cons
    have cO : h3.cell (.mk ⟨N, 0, 4⟩ 6) = some (.int .i64 (M.getD 3 0)) := s7.part (i := 2) rfl (by omega) (by rw [List.getElem?_map, g2 3 (by omega)]; rfl)
    rw [show Pt.elem 1 6 (4 : Int) (.mk ⟨N, 0, 0⟩ 6) = some (.mk ⟨N, 0, 4⟩ 6) from rfl, Option.bind_some, cO, Option.bind_some, int_int, Option.bind_some]
    obtain ⟨O, hO⟩ := Int.eq_ofNat_of_zero_le q3.1
    obtain ⟨A, hA⟩ := Int.eq_ofNat_of_zero_le q4.1
    have l0 := gread0 fuel (d + 1) (by omega) hb (R := R) (C := C) (N := N) (r := r) (b := b) (i := M.getD 1 0) (nn := 0 :: M) (I := O) (by omega) (g2 0 (by omega)) (by omega) (by omega) fuel 0 k [] .nil h3 (by omega) (by omega) hkb rfl s7
    rw [Nat.sub_zero, show ((0 : Nat) : Int) = 0 from rfl] at l0
    rw [hO, hA, Int.toNat_natCast, Int.toNat_natCast]
    cases ho : outsG b (M.getD 0 0) O k [] with
    | error p =>
      rw [ho] at l0
      obtain ⟨h4, x0, x7, e6, e7⟩ := l0
      rw [e6, Option.bind_some, k_aig_Read_0_r, e7]
      exact ⟨_, h4, rfl, zero3_fr (c := 101) (.inl rfl) p h4⟩
    | ok Ok =>
      obtain ⟨Ol, k1⟩ := Ok
      obtain ⟨_, hk1⟩ := outsG_len ho hkb
      rw [ho] at l0
      obtain ⟨h4, sO, e6, s8⟩ := l0
      have cI4 : h4.cell (.mk ⟨N, 0, 2⟩ 6) = some (.int .i64 (M.getD 1 0)) := s8.part (i := 2) rfl (by omega) (by rw [List.getElem?_map, g2 1 (by omega)]; rfl)
      have cA4 : h4.cell (.mk ⟨N, 0, 5⟩ 6) = some (.int .i64 (A : Int)) := s8.part (i := 2) rfl (by omega) (by rw [List.getElem?_map, g2 4 (by omega), hA]; rfl)
      rw [e6, Option.bind_some, k_aig_Read_0_x0, show Pt.elem 1 6 (2 : Int) (nP N) = some (.mk ⟨N, 0, 2⟩ 6) from rfl, Option.bind_some, cI4, Option.bind_some, int_int, Option.bind_some, show Pt.elem 1 6 (5 : Int) (nP N) = some (.mk ⟨N, 0, 5⟩ 6) from rfl, Option.bind_some, cA4, Option.bind_some, int_int, Option.bind_some]
      have ga := gands_run fuel (d + 4) (by omega) hb (h0 := AHeap.none) (r := r) (b := b) (I := A) (i := M.getD 1 0) (by omega) (by omega) (by omega) (j := 3) (p := k1) (by omega) s8 rfl
      simp only
      cases hg : andsG b (M.getD 1 0) 0 A k1 [] with
      | error p =>
        rw [hg] at ga
        obtain ⟨h5, p', e8, s9⟩ := ga
        have s9' : Sep0 AHeap.none h5 (grL R C N (M.getD 1 0) (0 :: M) Ol sO r b p') := s9
        obtain ⟨h6, e9, s10⟩ := s9'.put (i := 1) (o := 1) (l := 3) (vs := [.slice .nil]) rfl (by simp) (by simp)
        have s10' : Sep0 AHeap.none h6 (grL R C N (M.getD 1 0) (0 :: M) Ol sO r b p') := s10
        rw [e8]
        simp only [Option.bind_some, tup2, cond_true, comp0, comp1, slice_slice, field_mk]
        rw [show (0 + 1 : Nat) = 1 from rfl, e9]
        simp only [Option.bind_some, nilTest_if, Bool.not_false, cond_true]
        exact zero (c := 101) (L := []) (.inl rfl) rfl s10'.tail.tail.tail.tail
      | ok Ap =>
        obtain ⟨Al, p⟩ := Ap
        rw [hg] at ga
        obtain ⟨h5, sA, e8, s9, hp9⟩ := ga
        have s9' : Sep0 AHeap.none h5 (.grown 2 sA (pairsC Al) :: grL R C N (M.getD 1 0) (0 :: M) Ol sO r b p) := s9
        obtain ⟨h6, e9, s10⟩ := s9'.put (i := 2) (o := 1) (l := 3) (vs := [.slice sA]) rfl (by simp) (by simp)
        have s10' : Sep0 AHeap.none h6 [.grown 2 sA (pairsC Al), .grown 1 sO (intsC Ol), .own 1 C 0 3 [.int .i64 (M.getD 1 0), .slice sA, .slice sO], .own 1 N 0 6 (intsC (0 :: M)), grCh r b p, .own 1 R 0 3 zero3] := s10
        have cr : h6.cell (.mk ⟨r, 0, 0 + 1⟩ 2) = some (.int .i64 (p : Int)) := s10'.part (i := 4) rfl (by omega) rfl
        rw [e8]
        simp only [Option.bind_some, tup2, cond_true, comp0, comp1, slice_slice, field_mk, chk_mk]
        rw [show (0 + 1 : Nat) = 1 from rfl, e9]
        rw [show (0 + 1 : Nat) = 1 from rfl] at cr
        simp only [Option.bind_some, nilTest_nilif, Bool.not_true, cond_false, cr, int_int]
        have hpb : p ≤ b.length := by
          have hdl : ∀ (f i a : Nat) (r : List UInt8) (q : Nat × Nat), numT f i a r = some q → q.2 ≤ i + r.length := by
            intro f
            induction f with
            | zero => intro i a r q h; cases h
            | succ f ih =>
              intro i a r q h
              cases r with
              | nil => cases h
              | cons c r =>
                unfold numT at h
                split at h
                · have := ih _ _ _ _ h
                  simp only [List.length_cons]; omega
                · cases h
                  simp
          have hdG : ∀ {r : List UInt8} {lo hi v : Int} {m : Nat}, delG r lo hi = some (v, m) → m ≤ r.length := by
            intro r lo hi v m h
            unfold delG at h
            cases hn : numT 5 0 0 r with
            | none => rw [hn] at h; cases h
            | some q =>
              rw [hn, Option.bind_some] at h
              have := hdl 5 0 0 r q hn
              split at h
              · cases h; omega
              · cases h
          have : ∀ (n kk p0 : Nat) (acc Al : List (Int × Int)) (p : Nat), andsG b (M.getD 1 0) kk n p0 acc = .ok (Al, p) → p0 ≤ b.length → p ≤ b.length := by
            intro n
            induction n with
            | zero => intro kk p0 acc Al p h hp; cases h; exact hp
            | succ n ih =>
              intro kk p0 acc Al p h hp
              unfold andsG at h
              split at h
              · cases h
              · rename_i x j hj
                have h1 := hdG hj
                rw [List.length_drop] at h1
                split at h
                · cases h
                · rename_i y j' hj'
                  have h2 := hdG hj'
                  rw [List.length_drop] at h2
                  exact ih _ _ _ _ _ h (by omega)
          exact this _ _ _ _ _ _ hg hk1
        rw [aHi_none, Option.bind_some, aLo_some (by omega) (by rw [len_lst]; omega), Option.bind_some, aMx_none, Option.bind_some, hasSz_lstM, cond_true, Int.toNat_natCast]
        rw [len_lst, cut_lstU b (Nat.le_refl _), show (b.drop p).take (b.length - p) = b.drop p from List.take_of_length_le (by simp)]
        have bad : ∃ v h', ((run fuel (d + 7) F_aig_at [(.int .i64 (p : Int)), err_api_ErrText] h6).bind fun r40 =>
            (AHeap.storeAt r40.2 [(.int .i64 (0 : Int)), (.slice Sl.nil), (.slice Sl.nil)] (rdP R)).bind fun h41 =>
            (((((AHeap.cellsAt h41 3 (rdP R)).bind fun c43 =>
            some ((AVal.agg c43)) : Option AVal).bind fun v42 =>
            some [v42, r40.1]) : Option (List AVal)).map AVal.tup).map fun v => (v, h41)) = some (v, h') ∧ freezeV h' 8 v = some (ciA (.error (101, (p : Int)))) := by
          rw [gat0 fuel (d + 6), Option.bind_some]
          exact zero (c := 101) (L := []) (.inl rfl) rfl s10'.tail.tail.tail.tail.tail
        have good : ∃ v h', ((AHeap.cellsAt h6 3 (rdP C)).bind fun c44 =>
            (bif (!false && Nat.beq (List.length c44) 3 && List.all c44 AVal.isCell) then ((AHeap.storeAt h6 c44 (rdP R)).bind fun h45 =>
            (((((AHeap.cellsAt h45 3 (rdP R)).bind fun c47 =>
            some ((AVal.agg c47)) : Option AVal).bind fun v46 =>
            some [v46, .nilif]) : Option (List AVal)).map AVal.tup).map fun v => (v, h45)) else (none))) = some (v, h') ∧ freezeV h' 8 v = some (ciA (.ok (M.getD 1 0, Al, Ol))) := by
          have cC : h6.cellsAt 3 (rdP C) = some [.int .i64 (M.getD 1 0), .slice sA, .slice sO] := s10'.getAll (i := 2) rfl rfl
          obtain ⟨h7, e11, s11⟩ := s10'.putAll (i := 5) (vs := [.int .i64 (M.getD 1 0), .slice sA, .slice sO]) rfl rfl rfl
          have cR : h7.cellsAt 3 (rdP R) = some [.int .i64 (M.getD 1 0), .slice sA, .slice sO] := s11.getAll (i := 5) rfl rfl
          rw [cC, Option.bind_some, show (!false && Nat.beq (List.length [AVal.int .i64 (M.getD 1 0), .slice sA, .slice sO]) 3 && List.all [AVal.int .i64 (M.getD 1 0), .slice sA, .slice sO] AVal.isCell) = true from rfl, cond_true, e11, Option.bind_some, cR]
          refine ⟨_, h7, rfl, ?_⟩
          have gA := s11.sep.grown (i := 0) rfl
          have gO := s11.sep.grown (i := 1) rfl
          have lO := gO.len
          have lA := gA.len
          rw [pairsC_len] at lA
          rw [List.length_map, Nat.mul_one] at lO
          refine freeze_tup2 _ (freeze_agg 6 (mm3 rfl ?_ ?_)) rfl
          · rw [gA.freeze (n := 5) (by omega) (freeze_pairs 4 Al), show sA.len = Al.length by omega]
          · rw [gO.freeze (n := 5) (by omega) (freeze_intsC 4 Ol), show sO.len = Ol.length by omega]
        match hdp : b.drop p with
        | [] =>
          rw [len_lst, decide_eq_false (show ¬ (0 : Int) < ((([] : List UInt8).length : Nat) : Int) by simp)]
          simp only [show ((false == true) : Bool) = false from rfl, cond_false, Option.bind_some, bool_bool]
          exact good
        | [x] =>
          rw [len_lst, decide_eq_true (show (0 : Int) < ((([x] : List UInt8).length : Nat) : Int) by simp), decide_eq_true (show ((([x] : List UInt8).length : Nat) : Int) < 2 by simp)]
          simp only [beq_self_eq_true, cond_true, show ((true == false) : Bool) = false from rfl, cond_false, Option.bind_some, bool_bool, cr, int_int]
          exact bad
        | x :: y :: z =>
          rw [len_lst, decide_eq_true (show (0 : Int) < (((x :: y :: z).length : Nat) : Int) by simp; omega), decide_eq_false (show ¬ (((x :: y :: z).length : Nat) : Int) < 2 by simp; omega)]
          have a0 : h6.addr 1 (lstU (x :: y :: z)) (0 : Int) = some (.fp 0 [.int .u8 (x.toNat : Int)]) := addr_lstM (h := h6) (fun b : UInt8 => AVal.int .u8 (b.toNat : Int)) (l := x :: y :: z) (j := 0) (by omega) (by simp) 0 false
          have a1 : h6.addr 1 (lstU (x :: y :: z)) (1 : Int) = some (.fp 0 [.int .u8 (y.toNat : Int)]) := addr_lstM (h := h6) (fun b : UInt8 => AVal.int .u8 (b.toNat : Int)) (l := x :: y :: z) (j := 1) (by omega) (by simp) 0 false
          have e99 := u8_dec x 99
          rw [show (((99 : UInt8).toNat : Nat) : Int) = 99 from rfl] at e99
          have e10 := u8_dec y 10
          rw [show (((10 : UInt8).toNat : Nat) : Int) = 10 from rfl] at e10
          simp only [beq_self_eq_true, cond_true, a0, Option.bind_some, cell_fp, int_int, bool_bool]
          rw [e99]
          have hE : endG (x :: y :: z) = (x == 99 && y == 10) := rfl
          cases hx : x == 99 with
          | false =>
            rw [hx, Bool.false_and] at hE
            rw [hE, if_neg (by simp)]
            simp only [Bool.not_false, show ((true == false) : Bool) = false from rfl, cond_false, Option.bind_some, bool_bool, cond_true, cr, int_int]
            exact bad
          | true =>
            rw [hx, Bool.true_and] at hE
            simp only [Bool.not_true, beq_self_eq_true, cond_true, a1, Option.bind_some, cell_fp, int_int, bool_bool]
            rw [e10]
            cases hy : y == 10 with
            | false =>
              rw [hy] at hE
              rw [hE, if_neg (by simp)]
              simp only [Bool.not_false, cond_true, cr, Option.bind_some, int_int]
              exact bad
            | true =>
              rw [hy] at hE
              rw [hE, if_pos rfl]
              simp only [Bool.not_true, cond_false]
              exact good
theorem gread_run (hf : b.length + 20000 < fuel) (hb : b.length < 1000000) (h : AHeap) : run fuel (d + 8) F_aig_Read [.slice (lstU b)] h = some (ciA (readG b), h) := by
  obtain ⟨v, h', e1, e2⟩ := gread_body fuel d hf hb
  exact pure_of rfl rfl (cc1 (canon_lstU 7 b)) e1 e2
theorem gread_nil (hf : 20000 < fuel) (h : AHeap) : run fuel (d + 8) F_aig_Read [.slice .nil] h = some (ciA (readG []), h) := by
  obtain ⟨v, h', e1, e2⟩ := gread_body fuel d (b := []) (by simp; omega) (by simp)
  exact pure_of rfl rfl (cc1 (canon_nil 7)) e1 e2
end
end Go.Proofs.YtmjbjgbcpaagmaaDoor

namespace Go.Proofs.YtmjbjgbcpaagmaaDoor
open Go.RowKit

theorem readG_nil : readG [] = .error (101, 0) := rfl
theorem aigTx_nil : aigTx 0 [] [] = [97, 105, 103, 32, 48, 32, 48, 32, 48, 32, 48, 32, 48, 10] := by decide
theorem first12_run (fuel : Nat) {e : Nat} (he : 12 ≤ e) (hf : 20000 < fuel) (h : AHeap) : run fuel e F_skolemlaw12_first [] h = some (.bool true, h) := by
  obtain ⟨d, rfl⟩ : ∃ d, e = d + 12 := ⟨e - 12, by omega⟩
  refine pure_ex rfl rfl canonL_nil (r := .bool true) ?_ (fun _ => rfl)
  rw [e_skolemlaw12_first, gread_nil fuel (d + 3) hf, readG_nil, show ciA (.error (101, 0)) = .tup [.agg (circC 0 [] []), atV 0 err_api_ErrText] from rfl]
  simp only [Option.bind_some, tup2, cond_true, comp0, comp1, agg_agg]
  rw [cond_pos _ _ (okCi 0 [] [])]
  have s1 := ((Sep0.start AHeap.none).push 1 3 (cs := zero3) rfl).cons
  obtain ⟨h5, e5, _⟩ := ret_put s1 rfl (vs := circC 0 [] []) rfl
  rw [e5]
  simp only [Option.bind_some]
  rw [Placed_run fuel (d + 10) (show (101 : Int) ≠ 0 by omega)]
  simp only [Option.bind_some, agg_agg]
  rw [Same_run fuel (d + 7) (e := atV 0 err_api_ErrText) (c := 101) (p := true) (x := 0) (IsFault.at (j := 0) (by omega) 0) (by omega) 101 true 0]
  simp only [Option.bind_some, bool_bool, decide_true, Bool.true_and, beq_self_eq_true, cond_true]
  rw [gbytes_nil fuel (d + 3) hf]
  simp only [Option.bind_some, slice_slice]
  rw [cells_lstM, Option.bind_some, bytesFrom_bytesC, Option.bind_some, aigTx_nil]
  exact ⟨_, rfl⟩
end Go.Proofs.YtmjbjgbcpaagmaaDoor

namespace Go.Proofs.YtmjbjgbcpaagmaaDoor
open Go.RowKit

/-! skolemworld.Number -/
def numI (n b : Int) : Int := bif decide (Int.tmod n b < 0) then IntKind.wrap .i64 (Int.tmod n b + b) else Int.tmod n b
theorem Number_run (fuel d : Nat) {n b : Int} (hb : b ≠ 0) (h : AHeap) : run fuel (d + 1) F_skolemworld_Number [.int .i64 n, .int .i64 b] h = some (.int .i64 (numI n b), h) :=
  pure_of rfl rfl (cc2 rfl rfl) (by
    rw [e_skolemworld_Number, bif_neg hb]
    show _ = some (AVal.int .i64 (numI n b), AHeap.none)
    unfold numI
    cases decide (Int.tmod n b < 0) <;> rfl) rfl
theorem numI_range {n b : Int} (hb : 0 < b) (hb2 : b ≤ 9223372036854775807) : 0 ≤ numI n b ∧ numI n b < b := by
  have h1 := Int.tmod_lt_of_pos n hb
  have h2 : -b < Int.tmod n b := by
    have := Int.neg_lt_of_neg_lt (a := Int.tmod n b) (b := b)
    have h3 := Int.tmod_lt_of_pos (-n) hb
    rw [Int.neg_tmod] at h3
    omega
  unfold numI
  by_cases h0 : Int.tmod n b < 0
  · rw [decide_eq_true h0, cond_true, wrap64 (by omega) (by omega)]; omega
  · rw [decide_eq_false h0, cond_false]; omega

end Go.Proofs.YtmjbjgbcpaagmaaDoor

namespace Go.Proofs.YtmjbjgbcpaagmaaDoor
open Go.RowKit

/-- gates out of numbers -/
def mkA (i : Int) : Nat → List Int → List (Int × Int) → List (Int × Int)
  | 0, _, acc => acc
  | n + 1, l, acc => match l with
    | x :: y :: l' => mkA i n l' (acc ++ [((bif decide (numI x (2 * (i + acc.length + 1)) < numI y (2 * (i + acc.length + 1))) then numI y (2 * (i + acc.length + 1)) else numI x (2 * (i + acc.length + 1))), (bif decide (numI y (2 * (i + acc.length + 1)) < numI x (2 * (i + acc.length + 1))) then numI y (2 * (i + acc.length + 1)) else numI x (2 * (i + acc.length + 1))))])
    | _ => acc
def mkO (n : Int) (o : List Int) : List Int := o.map fun x => numI x (2 * (n + 1))
def mkAnds (i : Int) (l : List Int) : List (Int × Int) := mkA i (l.length + 1) l []
theorem mkA_ok {i : Int} (hi : 0 ≤ i) : ∀ (n : Nat) (l : List Int) (acc : List (Int × Int)), AndsOk i 0 acc → i + acc.length + l.length ≤ 8000 → AndsOk i 0 (mkA i n l acc) ∧ (mkA i n l acc).length ≤ acc.length + l.length
  | 0, l, acc, h, hb => ⟨h, by unfold mkA; omega⟩
  | n + 1, [], acc, h, hb => ⟨h, by unfold mkA; simp⟩
  | n + 1, [x], acc, h, hb => ⟨h, by unfold mkA; simp⟩
  | n + 1, x :: y :: l, acc, h, hb => by
    simp only [List.length_cons] at hb
    unfold mkA
    simp only
    have hx := numI_range (n := x) (b := 2 * (i + acc.length + 1)) (by omega) (by omega)
    have hy := numI_range (n := y) (b := 2 * (i + acc.length + 1)) (by omega) (by omega)
    generalize numI x (2 * (i + acc.length + 1)) = u at hx
    generalize numI y (2 * (i + acc.length + 1)) = v at hy
    have app : ∀ (B : List (Int × Int)) (k : Int) (p : Int × Int), AndsOk i k B → (0 ≤ p.2 ∧ p.2 ≤ p.1 ∧ p.1 < 2 * (i + (k + B.length) + 1)) → AndsOk i k (B ++ [p]) := by
      intro B
      induction B with
      | nil => intro k p _ hp; exact ⟨by simpa using hp, trivial⟩
      | cons q B ih =>
        intro k p hB hp
        refine ⟨hB.1, ih (k + 1) p hB.2 ?_⟩
        rw [List.length_cons] at hp
        refine ⟨hp.1, hp.2.1, ?_⟩
        have := hp.2.2
        omega
    have hacc := app acc 0 ((bif decide (u < v) then v else u), (bif decide (v < u) then v else u)) h (by
      simp only [Int.zero_add]
      by_cases h1 : u < v
      · rw [decide_eq_true h1, decide_eq_false (by omega), cond_true, cond_false]; omega
      · rw [decide_eq_false h1, cond_false]
        by_cases h2 : v < u
        · rw [decide_eq_true h2, cond_true]; omega
        · rw [decide_eq_false h2, cond_false]; omega)
    obtain ⟨r1, r2⟩ := mkA_ok hi n l _ hacc (by simp; omega)
    refine ⟨r1, ?_⟩
    simp at r2
    simp only [List.length_cons]
    omega
theorem mk_right {i : Nat} {l o : List Int} (h : (i : Int) + l.length ≤ 8000) (ho : o.length ≤ 8000) : CiR i (mkAnds i l) (mkO ((i : Int) + (mkAnds i l).length) o) := by
  obtain ⟨r1, r2⟩ := mkA_ok (i := (i : Int)) (by omega) (l.length + 1) l [] trivial (by simp; omega)
  unfold mkAnds
  simp only [List.length_nil, Nat.zero_add] at r2
  refine ⟨by omega, by rw [mkO, List.length_map]; exact ho, r1, fun x hx => ?_⟩
  obtain ⟨y, _, rfl⟩ := List.mem_map.1 hx
  have := numI_range (n := y) (b := 2 * ((i : Int) + (mkA i (l.length + 1) l []).length + 1)) (by omega) (by omega)
  omega
section
variable (fuel d : Nat) {h0 : AHeap} {X C : Nat} {i : Int} {l o : List Int}
theorem mkc_loop0 (hi : 0 ≤ i ∧ i ≤ 1000) (hl : l.length ≤ 1000) {R : List Chunk} : ∀ (n k : Nat) (A : List (Int × Int)) (sA : Sl) (h : AHeap), l.length < n + k → k ≤ l.length → A.length ≤ k → Sep0 h0 h (.own 1 C 0 3 [.int .i64 i, .slice sA, .slice .nil] :: .grown 2 sA (pairsC A) :: R) →
    ∃ h' sA', l_skolemmake_Circuit_0 fuel (d + 1) n [(0, .int .i64 i), (1, .slice (lstI l)), (2, .slice (lstI o)), (6, .ptr (rdP X)), (7, .ptr (rdP C)), (8, .int .i64 (k : Int))] h = some (.exit 0, [(0, .int .i64 i), (2, .slice (lstI o)), (6, .ptr (rdP X)), (7, .ptr (rdP C))], h') ∧ Sep0 h0 h' (.own 1 C 0 3 [.int .i64 i, .slice sA', .slice .nil] :: .grown 2 sA' (pairsC (mkA i n (l.drop k) A)) :: R) := by
  intro n
  induction n with
  | zero => intro k A sA h h1 h2; omega
  | succ n ih =>
    intro k A sA h h1 h2 hA hs
    have hsl := hs.len (i := 1) rfl
    rw [pairsC_len] at hsl
    have hAl : sA.len = A.length := by omega
    have cA : ∀ q, Sep0 h0 q (.own 1 C 0 3 [.int .i64 i, .slice sA, .slice .nil] :: .grown 2 sA (pairsC A) :: R) → q.cell (.mk ⟨C, 0, 0 + 1⟩ 3) = some (.slice sA) := fun q hq => hq.part (i := 0) rfl (by omega) rfl
    rw [l_skolemmake_Circuit_0_eq, len_lst, sucU (by omega)]
    by_cases hk : k + 1 < l.length
    · have hd : l.drop k = l.getD k 0 :: l.getD (k + 1) 0 :: l.drop (k + 2) := by rw [drop_get (by omega) 0, drop_get hk 0]
      rw [bif_pos (by omega), hd]
      unfold mkA
      simp only [field_mk, Option.bind_some, cA h hs, slice_slice]
      rw [addr_lstM _ (by omega) (by omega) 0, Int.toNat_natCast]
      simp only [Option.bind_some, cell_fp, int_int]
      rw [hAl, wrap64 (n := i + (A.length : Int)) (by omega) (by omega), wrap64 (n := i + (A.length : Int) + 1) (by omega) (by omega), wrap64 (n := 2 * (i + (A.length : Int) + 1)) (by omega) (by omega), Number_run fuel d (by omega)]
      simp only [Option.bind_some, int_int]
      rw [addr_lstM _ (by omega) (by rw [Int.toNat_natCast]; exact hk) 0, Int.toNat_natCast]
      simp only [Option.bind_some, cell_fp, int_int]
      rw [Number_run fuel d (by omega)]
      simp only [Option.bind_some, int_int, cA h hs, slice_slice]
      generalize numI (l.getD k 0) (2 * (i + A.length + 1)) = u
      generalize numI (l.getD (k + 1) 0) (2 * (i + A.length + 1)) = v
      obtain ⟨sA', h2, e2, s2, _⟩ := hs.grow (i := 1) (bytes := 16) (m := 1) (vs := pairC ((bif decide (u < v) then v else u), (bif decide (v < u) then v else u))) rfl rfl (by omega) (by omega)
      rw [set1] at s2
      obtain ⟨h3, e3, s3⟩ := s2.put (i := 0) (o := 1) (l := 3) (vs := [.slice sA']) rfl (by simp) (by simp)
      rw [e2]
      simp only [Option.bind_some]
      rw [show (0 + 1 : Nat) = 1 from rfl, e3, Option.bind_some, show IntKind.wrap .i64 ((k : Int) + 2) = ((k + 2 : Nat) : Int) by rw [wrap64 (by omega) (by omega)]; omega]
      rw [show pairsC A ++ pairC ((bif decide (u < v) then v else u), (bif decide (v < u) then v else u)) = pairsC (A ++ [((bif decide (u < v) then v else u), (bif decide (v < u) then v else u))]) by simp [pairsC]] at s3
      exact ih (k + 2) _ sA' h3 (by omega) (by omega) (by simp; omega) s3
    · rw [bif_neg (by omega)]
      refine ⟨h, sA, rfl, ?_⟩
      have : mkA i (n + 1) (l.drop k) A = A := by
        have hlen : (l.drop k).length ≤ 1 := by rw [List.length_drop]; omega
        unfold mkA
        match hq : l.drop k with
        | [] => rfl
        | [x] => rfl
        | x :: y :: z => rw [hq] at hlen; simp at hlen
      rw [this]
      exact hs
theorem mkc_loop1 (hi : 0 ≤ i ∧ i ≤ 1000) (ho : o.length ≤ 1000) {A : List (Int × Int)} (hA : A.length ≤ 1000) {sA : Sl} (hAl : sA.len = A.length) {R : List Chunk} : ∀ (n k : Nat) (O : List Int) (sO : Sl) (h : AHeap), o.length < n + k → k ≤ o.length → O = (o.take k).map (fun x => numI x (2 * (i + A.length + 1))) → Sep0 h0 h (.own 1 C 0 3 [.int .i64 i, .slice sA, .slice sO] :: .grown 1 sO (intsC O) :: R) →
    ∃ h' sO', l_skolemmake_Circuit_1 fuel (d + 1) n [(0, .int .i64 i), (2, .slice (lstI o)), (6, .ptr (rdP X)), (7, .ptr (rdP C)), (12, .int .i64 (k : Int))] h = some (.exit 2, [(6, .ptr (rdP X)), (7, .ptr (rdP C))], h') ∧ Sep0 h0 h' (.own 1 C 0 3 [.int .i64 i, .slice sA, .slice sO'] :: .grown 1 sO' (intsC (mkO (i + A.length) o)) :: R) := by
  intro n
  induction n with
  | zero => intro k O sO h h1 h2; omega
  | succ n ih =>
    intro k O sO h h1 h2 hO hs
    have hsl := hs.len (i := 1) rfl
    rw [List.length_map, Nat.mul_one] at hsl
    have hOl : O.length = k := by rw [hO]; simp; omega
    have cA : h.cell (.mk ⟨C, 0, 0 + 1⟩ 3) = some (.slice sA) := hs.part (i := 0) rfl (by omega) rfl
    have cO : h.cell (.mk ⟨C, 0, 0 + 2⟩ 3) = some (.slice sO) := hs.part (i := 0) rfl (by omega) rfl
    rw [l_skolemmake_Circuit_1_eq, len_lst]
    by_cases hk : k < o.length
    · rw [bif_pos (by omega)]
      simp only [field_mk, Option.bind_some, cO, cA, slice_slice]
      rw [addr_lstM _ (by omega) (by omega) 0, Int.toNat_natCast]
      simp only [Option.bind_some, cell_fp, int_int]
      rw [hAl, wrap64 (n := i + (A.length : Int)) (by omega) (by omega), wrap64 (n := i + (A.length : Int) + 1) (by omega) (by omega), wrap64 (n := 2 * (i + (A.length : Int) + 1)) (by omega) (by omega), Number_run fuel d (by omega)]
      simp only [Option.bind_some, int_int, cO, slice_slice, same_self]
      obtain ⟨sO', h2, e2, s2, _⟩ := hs.grow (i := 1) (bytes := 8) (m := 1) (vs := [.int .i64 (numI (o.getD k 0) (2 * (i + A.length + 1)))]) rfl rfl (by omega) (by omega)
      rw [set1] at s2
      obtain ⟨h3, e3, s3⟩ := s2.put (i := 0) (o := 2) (l := 3) (vs := [.slice sO']) rfl (by simp) (by simp)
      rw [e2]
      simp only [Option.bind_some]
      rw [show (0 + 2 : Nat) = 2 from rfl, e3, Option.bind_some, sucU (by omega)]
      rw [show intsC O ++ [AVal.int .i64 (numI (o.getD k 0) (2 * (i + A.length + 1)))] = intsC (O ++ [numI (o.getD k 0) (2 * (i + A.length + 1))]) by simp] at s3
      exact ih (k + 1) _ sO' h3 (by omega) (by omega) (by rw [take_get hk 0, List.map_append, hO]; rfl) s3
    · obtain rfl : k = o.length := by omega
      rw [bif_neg (by omega)]
      rw [List.take_length] at hO
      subst hO
      exact ⟨h, sO, rfl, hs⟩
theorem mkc_run (hf : 2000 < fuel) (hi : 0 ≤ i ∧ i ≤ 1000) (hl : l.length ≤ 1000) (ho : o.length ≤ 1000) {u v : AVal} (hu : canonV 8 u = some (.slice (lstI l))) (hv : canonV 8 v = some (.slice (lstI o))) (h : AHeap) :
    run fuel (d + 2) F_skolemmake_Circuit [.int .i64 i, u, v] h = some (.agg (circC i (mkAnds i l) (mkO (i + (mkAnds i l).length) o)), h) := by
  have key : ∃ v h', brun fuel (d + 2) F_skolemmake_Circuit [.int .i64 i, .slice (lstI l), .slice (lstI o)] AHeap.none = some (v, h') ∧ freezeV h' 8 v = some (.agg (circC i (mkAnds i l) (mkO (i + (mkAnds i l).length) o))) := by
    have s1 := (((Sep0.start AHeap.none).push 1 3 (cs := zero3) rfl).push 1 3 (cs := zero3) rfl).cons
    obtain ⟨h1, e1, s2⟩ := s1.putAll (i := 0) (vs := [.int .i64 i, .slice .nil, .slice .nil]) rfl rfl rfl
    rw [e_skolemmake_Circuit, e1, Option.bind_some]
    generalize (AHeap.none.push 1 zero3).next = C at s2
    generalize AHeap.none.next = X at s2
    have s3 : Sep0 AHeap.none h1 [.own 1 C 0 3 [.int .i64 i, .slice .nil, .slice .nil], .grown 2 .nil (pairsC []), .own 1 X 0 3 zero3] := (s2.addNil 2).perm ((List.Perm.swap _ _ _).cons _)
    obtain ⟨h2, sA, e2, s4⟩ := mkc_loop0 fuel d (X := X) (o := o) hi hl fuel 0 [] .nil h1 (by omega) (by omega) (by simp) s3
    rw [show ((0 : Nat) : Int) = 0 from rfl] at e2
    rw [e2, Option.bind_some, k_skolemmake_Circuit_0_x0]
    have hmk : mkA i fuel (l.drop 0) [] = mkAnds i l := by
      have : ∀ (n m : Nat) (l : List Int) (acc : List (Int × Int)), l.length < n → l.length < m → mkA i n l acc = mkA i m l acc := by
        intro n
        induction n with
        | zero => intro m l acc h1; omega
        | succ n ih =>
          intro m l acc h1 h2
          obtain ⟨m, rfl⟩ : ∃ q, m = q + 1 := ⟨m - 1, by omega⟩
          match l with
          | [] => rfl
          | [x] => rfl
          | x :: y :: l =>
            unfold mkA
            simp only
            simp only [List.length_cons] at h1 h2
            exact ih m l _ (by omega) (by omega)
      exact this _ _ _ _ (by simp; omega) (by simp)
    rw [hmk] at s4
    have hAlen : (mkAnds i l).length ≤ 1000 := by
      have : ∀ (n : Nat) (l : List Int) (acc : List (Int × Int)), (mkA i n l acc).length ≤ acc.length + l.length := by
        intro n
        induction n with
        | zero => intro l acc; unfold mkA; omega
        | succ n ih =>
          intro l acc
          match l with
          | [] => unfold mkA; simp
          | [x] => unfold mkA; simp
          | x :: y :: l =>
            unfold mkA
            simp only
            refine Nat.le_trans (ih l _) ?_
            simp
            omega
      have := this (l.length + 1) l []
      unfold mkAnds
      simp only [List.length_nil] at this
      omega
    have hgA := s4.sep.grown (i := 1) rfl
    have hAl := hgA.len
    rw [pairsC_len] at hAl
    have s5 : Sep0 AHeap.none h2 [.own 1 C 0 3 [.int .i64 i, .slice sA, .slice .nil], .grown 1 .nil (intsC []), .grown 2 sA (pairsC (mkAnds i l)), .own 1 X 0 3 zero3] := (s4.addNil 1).perm (by
      refine List.Perm.cons _ ?_
      exact List.perm_append_comm (l₁ := [_, _]) (l₂ := [_]))
    obtain ⟨h3, sO, e3, s6⟩ := mkc_loop1 fuel d (X := X) hi ho hAlen (by omega) fuel 0 [] .nil h2 (by omega) (by omega) (by simp) s5
    rw [show ((0 : Nat) : Int) = 0 from rfl] at e3
    rw [e3, Option.bind_some, k_skolemmake_Circuit_1_x2]
    have cC : h3.cellsAt 3 (rdP C) = some [.int .i64 i, .slice sA, .slice sO] := s6.getAll (i := 0) rfl rfl
    obtain ⟨h4, e4, s7⟩ := s6.putAll (i := 3) (vs := [.int .i64 i, .slice sA, .slice sO]) rfl rfl rfl
    have cX : h4.cellsAt 3 (rdP X) = some [.int .i64 i, .slice sA, .slice sO] := s7.getAll (i := 3) rfl rfl
    rw [cC, Option.bind_some, show (!false && Nat.beq (List.length [AVal.int .i64 i, .slice sA, .slice sO]) 3 && List.all [AVal.int .i64 i, .slice sA, .slice sO] AVal.isCell) = true from rfl, cond_true, e4, Option.bind_some, cX]
    refine ⟨_, h4, rfl, ?_⟩
    have gO := s7.sep.grown (i := 1) rfl
    have gA := s7.sep.grown (i := 2) rfl
    have lO := gO.len
    rw [List.length_map, Nat.mul_one] at lO
    refine freeze_agg 7 (mm3 rfl ?_ ?_)
    · rw [gA.freeze (n := 6) (by omega) (freeze_pairs 5 _), show sA.len = (mkAnds i l).length by omega]
    · rw [gO.freeze (n := 6) (by omega) (freeze_intsC 5 _), ← lO]
  obtain ⟨v, h', e1, e2⟩ := key
  exact pure_of rfl rfl (cc3 rfl hu hv) e1 e2
end
end Go.Proofs.YtmjbjgbcpaagmaaDoor

namespace Go.Proofs.YtmjbjgbcpaagmaaDoor
open Go.RowKit

theorem sameU_loop (fuel d : Nat) {b : List UInt8} (hn : b.length < 1000000000) {h : AHeap} : ∀ (n k : Nat), b.length < n + k → k ≤ b.length →
    l_skolemref_SameBytes_0 fuel d n [(0, .slice (lstU b)), (1, .slice (lstU b)), (5, .int .i64 (k : Int))] h = some (.exit 0, [(4, .bot)], h) := by
  intro n
  induction n with
  | zero => intro k h1 h2; omega
  | succ n ih =>
    intro k h1 h2
    rw [l_skolemref_SameBytes_0_eq, len_lst]
    by_cases hk : k < b.length
    · rw [bif_pos (by omega), addr_lstM _ (by omega) (by omega) 0]
      simp only [Option.bind_some, cell_fp, int_int, decide_true, Bool.not_true, cond_false]
      rw [sucS (by omega)]
      exact ih (k + 1) (by omega) (by omega)
    · rw [bif_neg (by omega)]
theorem sameU_run (fuel d : Nat) {b : List UInt8} (hn : b.length < 1000000000) (hf : b.length < fuel) (h : AHeap) : run fuel (d + 1) F_skolemref_SameBytes [.slice (lstU b), .slice (lstU b)] h = some (.bool true, h) := by
  refine pure_of rfl rfl (cc2 (canon_lstU 7 b) (canon_lstU 7 b)) (r := .bool true) (h' := AHeap.none) ?_ rfl
  rw [e_skolemref_SameBytes, len_lst, bif_npos rfl]
  have := sameU_loop fuel d hn (h := AHeap.none) fuel 0 (by omega) (by omega)
  rw [show ((0 : Nat) : Int) = 0 from rfl] at this
  rw [this]
  simp only [Option.bind_some, k_skolemref_SameBytes_0_x0]
end Go.Proofs.YtmjbjgbcpaagmaaDoor

namespace Go.Proofs.YtmjbjgbcpaagmaaDoor
open Go.RowKit

theorem ciR_lens {i : Nat} {A : List (Int × Int)} {O : List Int} (h : CiR i A O) : A.length ≤ 8000 ∧ O.length ≤ 8000 := ⟨by have := h.hn; omega, h.hO⟩
theorem readC_aig (i : Nat) (A : List (Int × Int)) (O : List Int) : readC (aigTx i A O) = .error (101, 0) := by
  unfold readC
  rw [splitOf_wordsN, show aigTx i A O = [97, 105, 103] ++ 32 :: (lineB (headL i A O) ++ outsTx O ++ andsB i 0 A) by simp [aigTx], N_word (by simp) (by decide) (Stops.sp _), headA_ne rfl]
  rfl
theorem readG_aag {i : Nat} {A : List (Int × Int)} {O : List Int} : readG (aagTx i A O) = .error (101, 0) := by
  have e : headG (aagTx i A O) = .error 101 := by
    unfold headG
    have ht : aagTx i A O = ([97, 97, 103] ++ 32 :: restB true (headL i A O)) ++ 10 :: (insTx 0 i ++ outsTx O ++ andsTx i 0 A) := by
      unfold aagTx
      rw [lineB_rest]
      simp
    rw [ht, lnT_at _ (fun c hc => by
      rcases List.mem_append.1 hc with hc | hc
      · simp at hc; rcases hc with rfl | rfl <;> decide
      · rcases List.mem_cons.1 hc with rfl | hc
        · decide
        · exact restB_no10 _ _ c hc), N_word (by simp) (by decide) (Stops.sp _)]
    simp only [List.map_cons]
    split
    · rfl
    · rename_i ws k hw
      split at hw
      · cases hw
        rfl
      · cases hw
  unfold readG
  rw [e]
theorem aigForms_run (F d : Nat) (hF : 2 ^ 21 ≤ F) (i : Int) (l o : List Int) (h : AHeap) : ∃ h', run F (d + 60) F_skolemlaw12_AigForms [.int .i64 i, .slice (lstI l), .slice (lstI o)] h = some (.bool true, h') := by
  rw [e_skolemlaw12_AigForms, first12_run F (by omega) (by omega)]
  simp only [Option.bind_some, bool_bool, Bool.not_true, cond_false]
  rw [len_lst, len_lst]
  by_cases hg : (120 < l.length ∨ 30 < o.length) ∨ i < 0 ∨ 40 < i
  · rw [cond_pos _ _ (by
      rcases hg with (hg | hg) | hg | hg
      · rw [decide_eq_true (show (120 : Int) < (l.length : Int) by omega)]; simp
      · rw [decide_eq_true (show (30 : Int) < (o.length : Int) by omega)]; simp
      · rw [decide_eq_true hg]; simp
      · rw [decide_eq_true hg]; simp)]
    exact ⟨h, rfl⟩
  rw [cond_neg _ _ (by
    rw [decide_eq_false (show ¬ (120 : Int) < (l.length : Int) by omega), decide_eq_false (show ¬ (30 : Int) < (o.length : Int) by omega), decide_eq_false (show ¬ i < 0 by omega), decide_eq_false (show ¬ 40 < i by omega)]
    rfl)]
  obtain ⟨I, rfl⟩ := Int.eq_ofNat_of_zero_le (show 0 ≤ i by omega)
  have hR := mk_right (i := I) (l := l) (o := o) (by omega) (by omega)
  rw [mkc_run F (d + 57) (by omega) (by omega) (by omega) (by omega) (canon_lstI 7 l) (canon_lstI 7 o)]
  generalize mkO ((I : Int) + (mkAnds I l).length) o = O at hR
  generalize mkAnds (I : Int) l = A at hR
  obtain ⟨hA8, hO8⟩ := ciR_lens hR
  have hn := hR.hn
  obtain ⟨hlenG, _⟩ := aigTx_len hR.ok
  have hlenA := aagTx_len hR.ok
  simp only [Option.bind_some, agg_agg]
  rw [cond_pos _ _ (okCi I A O)]
  have ab : ∀ h : AHeap, run F (d + 59) F_aag_Bytes [.agg (circC I A O)] h = some (.slice (lstU (aagTx I A O)), h) := fun h => abytes_run F (d + 51) (by omega) hR.ok h
  have gb : ∀ h : AHeap, run F (d + 59) F_aig_Bytes [.agg (circC I A O)] h = some (.slice (lstU (aigTx I A O)), h) := fun h => gbytes_run F (d + 51) (by omega) hR h
  have r1 : ∀ h : AHeap, run F (d + 59) F_aag_Read [.slice (lstU (aagTx I A O))] h = some (.tup [.agg (circC I A O), .nilif], h) := fun h => by
    rw [aread_run F (d + 50) (by omega) (by omega), readC_back hR]; rfl
  have r2 : ∀ h : AHeap, run F (d + 59) F_aig_Read [.slice (lstU (aigTx I A O))] h = some (.tup [.agg (circC I A O), .nilif], h) := fun h => by
    rw [gread_run F (d + 51) (by omega) (by omega), readG_back hR]; rfl
  have r3 : ∀ h : AHeap, run F (d + 59) F_aag_Read [.slice (lstU (aigTx I A O))] h = some (.tup [.agg (circC 0 [] []), atV 0 (errC 101)], h) := fun h => by
    rw [aread_run F (d + 50) (by omega) (by omega), readC_aig]; rfl
  have r4 : ∀ h : AHeap, run F (d + 59) F_aig_Read [.slice (lstU (aagTx I A O))] h = some (.tup [.agg (circC 0 [] []), atV 0 (errC 101)], h) := fun h => by
    rw [gread_run F (d + 51) (by omega) (by omega), readG_aag]; rfl
  have s1 := (Sep0.start h).push 1 3 (cs := zero3) rfl
  obtain ⟨h5, e5, s5⟩ := s1.putAll (i := 0) (vs := circC I A O) rfl rfl rfl
  have s5' : Sep0 h h5 [.own 1 h.next 0 3 (circC I A O)] := s5
  have c5 : h5.cellsAt 3 (.mk ⟨h.next, 0, 0⟩ 3) = some (circC I A O) := s5'.getAll (i := 0) rfl rfl
  rw [e5, Option.bind_some, c5, Option.bind_some, ab]
  simp only [Option.bind_some, slice_slice]
  rw [r1]
  simp only [Option.bind_some, tup2, cond_true, comp0, comp1, agg_agg]
  rw [cond_pos _ _ (okCi I A O)]
  obtain ⟨h13, e13, s13⟩ := (s5'.push 1 3 (cs := zero3) rfl).putAll (i := 1) (vs := circC I A O) rfl rfl rfl
  have s13' : Sep0 h h13 [.own 1 h.next 0 3 (circC I A O), .own 1 h5.next 0 3 (circC I A O)] := s13
  have c13 : h13.cellsAt 3 (.mk ⟨h.next, 0, 0⟩ 3) = some (circC I A O) := s13'.getAll (i := 0) rfl rfl
  rw [e13, Option.bind_some, c13, Option.bind_some, gb]
  simp only [Option.bind_some, slice_slice]
  rw [r2]
  simp only [Option.bind_some, tup2, cond_true, comp0, comp1, agg_agg]
  rw [cond_pos _ _ (okCi I A O)]
  obtain ⟨h21, e21, s21⟩ := (s13'.push 1 3 (cs := zero3) rfl).putAll (i := 2) (vs := circC I A O) rfl rfl rfl
  have s21' : Sep0 h h21 [.own 1 h.next 0 3 (circC I A O), .own 1 h5.next 0 3 (circC I A O), .own 1 h13.next 0 3 (circC I A O)] := s21
  have c21 : h21.cellsAt 3 (.mk ⟨h.next, 0, 0⟩ 3) = some (circC I A O) := s21'.getAll (i := 0) rfl rfl
  rw [e21, Option.bind_some, c21, Option.bind_some, gb]
  simp only [Option.bind_some, slice_slice]
  rw [r3]
  simp only [Option.bind_some, tup2, cond_true, comp0, comp1, agg_agg]
  rw [cond_pos _ _ (okCi 0 [] [])]
  obtain ⟨h29, e29, s29⟩ := (s21'.push 1 3 (cs := zero3) rfl).putAll (i := 3) (vs := circC 0 [] []) rfl rfl rfl
  have s29' : Sep0 h h29 [.own 1 h.next 0 3 (circC I A O), .own 1 h5.next 0 3 (circC I A O), .own 1 h13.next 0 3 (circC I A O), .own 1 h21.next 0 3 (circC 0 [] [])] := s29
  have c29 : h29.cellsAt 3 (.mk ⟨h.next, 0, 0⟩ 3) = some (circC I A O) := s29'.getAll (i := 0) rfl rfl
  rw [e29, Option.bind_some, c29, Option.bind_some, ab]
  simp only [Option.bind_some, slice_slice]
  rw [r4]
  simp only [Option.bind_some, tup2, cond_true, comp0, comp1, agg_agg]
  rw [cond_pos _ _ (okCi 0 [] [])]
  obtain ⟨h37, e37, s37⟩ := (s29'.push 1 3 (cs := zero3) rfl).putAll (i := 4) (vs := circC 0 [] []) rfl rfl rfl
  have s37' : Sep0 h h37 [.own 1 h.next 0 3 (circC I A O), .own 1 h5.next 0 3 (circC I A O), .own 1 h13.next 0 3 (circC I A O), .own 1 h21.next 0 3 (circC 0 [] []), .own 1 h29.next 0 3 (circC 0 [] [])] := s37
  have k0 : h37.cellsAt 3 (.mk ⟨h.next, 0, 0⟩ 3) = some (circC I A O) := s37'.getAll (i := 0) rfl rfl
  have k1 : h37.cellsAt 3 (.mk ⟨h5.next, 0, 0⟩ 3) = some (circC I A O) := s37'.getAll (i := 1) rfl rfl
  have k2 : h37.cellsAt 3 (.mk ⟨h13.next, 0, 0⟩ 3) = some (circC I A O) := s37'.getAll (i := 2) rfl rfl
  rw [e37, Option.bind_some]
  simp only [nilTest_nilif, Option.bind_some, cond_true, errC_no, Bool.not_false, k1, k2]
  rw [sameCi_self F (d + 57) (by omega) (by omega) (by omega) (by omega)]
  simp only [Option.bind_some, bool_bool, cond_true, k0, k1, k2]
  rw [ab]
  simp only [Option.bind_some, slice_slice, k0, same_self]
  rw [ab]
  simp only [Option.bind_some, slice_slice]
  rw [sameU_run F (d + 58) (by omega) (by omega)]
  simp only [Option.bind_some, bool_bool, cond_true, k1]
  rw [gb]
  simp only [Option.bind_some, slice_slice, k0, same_self]
  rw [gb]
  simp only [Option.bind_some, slice_slice]
  rw [sameU_run F (d + 58) (by omega) (by omega)]
  simp only [Option.bind_some, bool_bool, k_skolemlaw12_AigForms_0_n]
  exact ⟨_, rfl⟩
end Go.Proofs.YtmjbjgbcpaagmaaDoor
