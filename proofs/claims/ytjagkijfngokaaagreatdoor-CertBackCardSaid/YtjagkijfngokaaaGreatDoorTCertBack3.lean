/-
 Parts of the proof of CertBack: aig's reader: gates, head. aig.Read. The document's reader of circuits' texts: count, text, limits. The document's reader of circuits' texts: its loops. The document's reader of circuits' texts: its other loops. skolemref8.ReadAag. skolemref.SameInts. Circuits held against circuits; what the readers tell. cert.Read of a certificate's text. skolemref.SameSteps. Bytes held against themselves. skolemref23.CertBytes, skolemref.SameCert. CertBack.
-/
import Derived.Test.YtjagkijfngokaaaGreatDoorTCertBack2
import Derived.Test.YtjagkijfngokaaaGreatDoorE2
import Derived.Test.YtjagkijfngokaaaGreatDoorBm31
namespace Go.Proofs.YtjagkijfngokaaaGreatDoor
open Go.RowKit
theorem delG_len {r : List UInt8} {lo hi : Int} {v : Int} {m : Nat} (h : delG r lo hi = some (v, m)) : lo ≤ v ∧ v ≤ hi ∧ m ≤ 5 := by
 have key : ∀ (f i a : Nat) (r : List UInt8) (p : Nat × Nat), numT f i a r = some p → p.2 ≤ i + f := by
   intro f
   induction f with
   | zero => intro i a r p h; cases h
   | succ f ih =>
     intro i a r p h
     cases r with
     | nil => cases h
     | cons c r =>
       unfold numT at h
       split at h
       · have := ih _ _ _ _ h
         omega
       · cases h
         simp only
         omega
 unfold delG at h
 cases hn : numT 5 0 0 r with
 | none => rw [hn] at h; cases h
 | some p =>
   rw [hn, o_bd] at h
   have := key 5 0 0 r p hn
   split at h
   · rename_i hp
     cases h
     exact ⟨hp.1, hp.2, by omega⟩
   · cases h
section
variable (fuel d : Nat) (hf : 30 < fuel) {h0 : AH} {r : Nat} {b : List UInt8} (hb : b.length < 1000000)
include hf hb
theorem gands_loop {I : Nat} {i : Int} (hI : I ≤ 10000) (hi : 0 ≤ i ∧ i ≤ 10000) {j : Nat} : ∀ (n m p : Nat) (A : List (Int × Int)) (s : Sl) (L : List Chunk) (h : AH), I < n + m → m ≤ I → p + 20 * (I - m) < 900000000 → A.length = m → Sep0 h0 h (.grown 2 s (pairsC A) :: L) → L[j]? = some (grCh r b p) →
   match andsG b i m (I - m) p A with
   | .error q => ∃ h' s' p', l_aig_reader_ands_0 fuel (d + 2) n [(0, .ptr (gP r)), (1, .int .i64 i), (8, .slice s), (15, .int .i64 (I : Int)), (16, .int .i64 (m : Int))] h = some (.ret, [(6, .slice .nil), (7, atV q err_api_ErrText), (8, .slice s')], h') ∧ Sep0 h0 h' (L.set j (grCh r b p'))
   | .ok (A', p') => ∃ h' s', l_aig_reader_ands_0 fuel (d + 2) n [(0, .ptr (gP r)), (1, .int .i64 i), (8, .slice s), (15, .int .i64 (I : Int)), (16, .int .i64 (m : Int))] h = some (.exit 0, [(6, .bot), (7, .bot), (8, .slice s')], h') ∧ Sep0 h0 h' (.grown 2 s' (pairsC A') :: L.set j (grCh r b p')) ∧ p' ≤ p + 10 * (I - m) := by
 intro n
 induction n with
 | zero => intro m p A s L h h1 h2; omega
 | succ n ih =>
   intro m p A s L h h1 h2 hp9 hA hs hj
   have hsl := hs.len (i := 0) rfl
   rw [pairsC_len] at hsl
   rw [l_aig_reader_ands_0_eq]
   by_cases hm : m < I
   · rw [bif_pos (by omega), wrap64 (n := i + (m : Int)) (by omega) (by omega), wrap64 (n := i + (m : Int) + 1) (by omega) (by omega), wrap64 (n := 2 * (i + (m : Int) + 1)) (by omega) (by omega), show I - m = (I - (m + 1)) + 1 by omega]
     have hj1 : (Chunk.grown 2 s (pairsC A) :: L)[j + 1]? = some (grCh r b p) := hj
     have n1 := gnumR_run fuel d hf hb (by omega) 1 (2 * (i + (m : Int) + 1)) hs hj1
     unfold andsG
     cases q1 : delG (b.drop p) 1 (2 * (i + (m : Int) + 1)) with
     | none =>
       rw [q1] at n1
       refine ⟨h, s, p, ?_, ?_⟩
       · simp only at n1
         rw [n1]
         rfl
       · rw [set_self hj]
         exact hs.tail
     | some xm =>
       obtain ⟨x, k1⟩ := xm
       obtain ⟨x0, x1, x2⟩ := delG_len q1
       rw [q1] at n1
       obtain ⟨h1', e1, s1⟩ := n1
       have s1' : Sep0 h0 h1' (.grown 2 s (pairsC A) :: L.set j (grCh r b (p + k1))) := s1
       rw [e1]
       simp only [o_bd, tup2, cond_true, comp0, comp1, int_int, nilTest_nilif, Bool.not_true, cond_false]
       rw [wrap64 (n := 2 * (i + (m : Int) + 1) - x) (by omega) (by omega)]
       have hj2 : (Chunk.grown 2 s (pairsC A) :: L.set j (grCh r b (p + k1)))[j + 1]? = some (grCh r b (p + k1)) := get_set hj _
       have n2 := gnumR_run fuel d hf hb (by omega) 0 (2 * (i + (m : Int) + 1) - x) s1' hj2
       cases q2 : delG (b.drop (p + k1)) 0 (2 * (i + (m : Int) + 1) - x) with
       | none =>
         rw [q2] at n2
         refine ⟨h1', s, p + k1, ?_, s1'.tail⟩
         simp only at n2
         rw [n2]
         rfl
       | some ym =>
         obtain ⟨y, k2⟩ := ym
         obtain ⟨y0, y1, y2⟩ := delG_len q2
         rw [q2] at n2
         obtain ⟨h2', e2, s2⟩ := n2
         have s2' : Sep0 h0 h2' (.grown 2 s (pairsC A) :: L.set j (grCh r b (p + k1 + k2))) := by
           have : Sep0 h0 h2' (.grown 2 s (pairsC A) :: (L.set j (grCh r b (p + k1))).set j (grCh r b (p + k1 + k2))) := s2
           rw [List.set_set] at this
           exact this
         obtain ⟨s', h3', e3, s3, _⟩ := s2'.grow (i := 0) (bytes := 16) (m := 1) (vs := pairC (2 * (i + (m : Int) + 1) - x, 2 * (i + (m : Int) + 1) - x - y)) rfl rfl (by omega) (by omega)
         rw [set0, show pairsC A ++ pairC (2 * (i + (m : Int) + 1) - x, 2 * (i + (m : Int) + 1) - x - y) = pairsC (A ++ [(2 * (i + (m : Int) + 1) - x, 2 * (i + (m : Int) + 1) - x - y)]) by simp [pairsC]] at s3
         have := ih (m + 1) (p + k1 + k2) (A ++ [(2 * (i + (m : Int) + 1) - x, 2 * (i + (m : Int) + 1) - x - y)]) s' (L.set j (grCh r b (p + k1 + k2))) h3' (by omega) (by omega) (by omega) (by simp; omega) s3 (get_set hj _)
         rw [e2]
         simp only [o_bd, tup2, cond_true, comp0, comp1, int_int, nilTest_nilif, Bool.not_true, cond_false]
         rw [wrap64 (n := 2 * (i + (m : Int) + 1) - x - y) (by omega) (by omega), e3]
         simp only [o_bd]
         rw [sucU (by omega)]
         simp only [List.set_set] at this
         cases hg : andsG b i (m + 1) (I - (m + 1)) (p + k1 + k2) (A ++ [(2 * (i + (m : Int) + 1) - x, 2 * (i + (m : Int) + 1) - x - y)]) with
         | error q =>
           rw [hg] at this
           exact this
         | ok Ap =>
           obtain ⟨A', p'⟩ := Ap
           rw [hg] at this
           obtain ⟨h4, s4, t1, t2, t3⟩ := this
           exact ⟨h4, s4, t1, t2, by omega⟩
   · obtain rfl : m = I := by omega
     rw [bif_neg (by omega), Nat.sub_self]
     unfold andsG
     refine ⟨h, s, rfl, ?_, by omega⟩
     rw [set_self hj]
     exact hs
theorem gands_run {I : Nat} {i : Int} (hI : I ≤ 10000) (hi : 0 ≤ i ∧ i ≤ 10000) (hfI : 10000 < fuel) {j p : Nat} {L : List Chunk} {h : AH} (hp : p < 10000000) (hs : Sep0 h0 h L) (hj : L[j]? = some (grCh r b p)) :
   match andsG b i 0 I p [] with
   | .error q => ∃ h' p', run fuel (d + 3) F_aig_reader_ands [.ptr (gP r), .int .i64 i, .int .i64 (I : Int)] h = some (.tup [.slice .nil, atV q err_api_ErrText], h') ∧ Sep0 h0 h' (L.set j (grCh r b p'))
   | .ok (A', p') => ∃ h' s', run fuel (d + 3) F_aig_reader_ands [.ptr (gP r), .int .i64 i, .int .i64 (I : Int)] h = some (.tup [.slice s', .nilif], h') ∧ Sep0 h0 h' (.grown 2 s' (pairsC A') :: L.set j (grCh r b p')) ∧ p' ≤ p + 10 * I := by
 have hl := gands_loop fuel d hf hb (h0 := h0) (r := r) hI hi (j := j) fuel 0 p [] .nil L h (by omega) (by omega) (by omega) rfl (hs.addNil 2).cons hj
 rw [Nat.sub_zero, show ((0 : Nat) : Int) = 0 from rfl] at hl
 rw [e_aig_reader_ands]
 cases hq : andsG b i 0 I p [] with
 | error q =>
   rw [hq] at hl
   obtain ⟨h', s', p', e1, s1⟩ := hl
   refine ⟨h', p', ?_, s1⟩
   rw [e1, o_bd, k_aig_reader_ands_0_r]
 | ok Ap =>
   obtain ⟨A', p'⟩ := Ap
   rw [hq] at hl
   obtain ⟨h', s', e1, s1, hp'⟩ := hl
   refine ⟨h', s', ?_, s1, hp'⟩
   rw [e1, o_bd, k_aig_reader_ands_0_x0]
end
theorem strsC_get {h : AH} {s : Sl} {ws : List (List UInt8)} (hg : Grown h 1 s (strsC ws)) (q : Int) (p : Nat) (hq : q = p) (hp : p < ws.length) : h.addr 1 s q = some (s.at 1 q) ∧ h.cell (s.at 1 q) = some (.str (tx (ws.getD p []))) := by
 have hl := hg.len
 rw [List.length_map, Nat.mul_one] at hl
 subst hq
 refine ⟨addr_at hg.cells (by omega) (by omega), cell_at hg.cells (by omega) ?_⟩
 rw [Int.toNat_natCast, List.getElem?_map, List.getElem?_eq_getElem hp, List.getD_eq_getElem?_getD, List.getElem?_eq_getElem hp]; rfl
section
variable (fuel d : Nat) (hf : 30 < fuel) {h0 : AH} {N R : Nat} {ws : List (List UInt8)} {s : Sl}
include hf
theorem ghead_loop (hw : ws.length = 6) {X : List Chunk} : ∀ (n k : Nat) (is : Bool) (nn : List Int) (h : AH), 6 < n + k → 1 ≤ k → k ≤ 6 → nn.length = 6 → (is = true → nn.take k = 0 :: ((ws.take k).drop 1).map numW) → Sep0 h0 h (.grown 1 s (strsC ws) :: .own 1 N 0 6 (intsC nn) :: X) →
   ∃ h' nn', l_aig_reader_head_0 fuel (d + 4) n [(2, .ptr (nP R)), (4, .ptr (nP N)), (5, .slice s), (7, .bool is), (8, .int .i64 (k : Int))] h = some (.exit 0, [(2, .ptr (nP R)), (4, .ptr (nP N)), (7, .bool (is && (ws.drop k).all plainW))], h') ∧ nn'.length = 6 ∧ ((is && (ws.drop k).all plainW) = true → nn' = 0 :: (ws.drop 1).map numW) ∧ Sep0 h0 h' (.grown 1 s (strsC ws) :: .own 1 N 0 6 (intsC nn') :: X) := by
 intro n
 induction n with
 | zero => intro k is nn h h1 h2; omega
 | succ n ih =>
   intro k is nn h h1 h2 h3 hn htk hs
   rw [l_aig_reader_head_0_eq]
   cases is with
   | false =>
     rw [cond_neg _ _ (show (bif decide ((k : Int) < 6) then false else false) = false by cases decide ((k : Int) < 6) <;> rfl)]
     exact ⟨h, nn, rfl, hn, (fun h => by cases h), hs⟩
   | true =>
     by_cases hk : k < 6
     · obtain ⟨g1, g2⟩ := strsC_get (hs.sep.grown (i := 0) rfl) (k : Int) k rfl (by omega)
       rw [decide_eq_true (show (k : Int) < 6 by omega), cond_true, cond_true, g1, o_bd, g2, o_bd, str_str, o_bd, plain_run fuel d (by omega)]
       simp only [o_bd, tup2, cond_true, comp0, comp1, int_int, bool_bool]
       rw [elem6 hk, o_bd]
       have hd : ws.drop k = ws.getD k [] :: ws.drop (k + 1) := drop_get (by omega) []
       obtain ⟨h1', e1, s1⟩ := hs.put (i := 1) (o := k) (l := 6) (vs := [.int .i64 (if plainW (ws.getD k []) = true then numW (ws.getD k []) else 0)]) rfl (by simp; omega) (by simp; omega)
       rw [set1, show [AV.int .i64 (if plainW (ws.getD k []) = true then numW (ws.getD k []) else 0)].length = 1 from rfl, intsC_set (by omega)] at s1
       rw [e1, o_bd, sucU (by omega), hd]
       have := ih (k + 1) (plainW (ws.getD k [])) (nn.set k (if plainW (ws.getD k []) = true then numW (ws.getD k []) else 0)) h1' (by omega) (by omega) (by omega) (by rw [List.length_set]; exact hn) (fun hp => by
         rw [take_get (by rw [List.length_set]; omega) 0, List.take_set_of_le (Nat.le_refl _), htk rfl, if_pos hp, take_get (l := ws) (by omega) [], List.drop_append_of_le_length (by simp; omega), List.map_append]
         simp [List.getD_eq_getElem?_getD, show k < nn.length by omega]) s1
       simp only [List.all_cons, Bool.true_and]
       exact this
     · obtain rfl : k = 6 := by omega
       rw [decide_eq_false (by omega), cond_false, cond_false, List.drop_eq_nil_of_le (by omega)]
       refine ⟨h, nn, rfl, hn, fun _ => ?_, hs⟩
       have := htk rfl
       rw [List.take_of_length_le (by omega), List.take_of_length_le (by omega)] at this
       exact this
end
section
variable (fuel d : Nat) {h0 : AH} {r : Nat} {b : List UInt8}
theorem plain_range {ws : List (List UInt8)} (h : (ws.drop 1).all plainW = true) {k : Nat} (hk : 1 ≤ k) (hl : k < ws.length) : 0 ≤ numW (ws.getD k []) ∧ numW (ws.getD k []) ≤ 999999999 := by
 refine plainW_range (List.all_eq_true.1 h _ ?_)
 have : (ws.drop 1)[k - 1]? = some (ws.getD k []) := by
   rw [List.getElem?_drop, show 1 + (k - 1) = k by omega, List.getD_eq_getElem?_getD, List.getElem?_eq_getElem hl]; rfl
 exact List.mem_of_getElem? this
theorem ghead_run (hf : b.length + 30 < fuel) (hb : b.length < 1000000) {L : List Chunk} {j : Nat} {h : AH} (hs : Sep0 h0 h L) (hj : L[j]? = some (grCh r b 0)) :
   match headG b with
   | .error c => ∃ h' k' nn, run fuel (d + 6) F_aig_reader_head [.ptr (gP r)] h = some (.tup [.agg (intsC nn), atV 0 (errC c)], h') ∧ nn.length = 6 ∧ Sep0 h0 h' (L.set j (grCh r b k'))
   | .ok (N, k) => ∃ h', run fuel (d + 6) F_aig_reader_head [.ptr (gP r)] h = some (.tup [.agg (intsC (0 :: N)), .nilif], h') ∧ Sep0 h0 h' (L.set j (grCh r b k)) ∧ N.length = 5 ∧ (∀ x ∈ N, 0 ≤ x ∧ x ≤ 999999999) ∧ limT (N.getD 0 0) (N.getD 1 0) (N.getD 2 0) (N.getD 3 0) (N.getD 4 0) = none ∧ k ≤ b.length := by
 rw [e_aig_reader_head]
 rw [show [(AV.int .i64 (0 : Int)), (.int .i64 (0 : Int)), (.int .i64 (0 : Int)), (.int .i64 (0 : Int)), (.int .i64 (0 : Int)), (.int .i64 (0 : Int))] = intsC [0, 0, 0, 0, 0, 0] from rfl]
 have s1 := ((hs.push 1 6 (cs := intsC [0, 0, 0, 0, 0, 0]) rfl).cons.push 1 6 (cs := intsC [0, 0, 0, 0, 0, 0]) rfl).cons
 generalize h.next = R at s1
 generalize (h.push 1 (intsC [0, 0, 0, 0, 0, 0])).next = N at s1
 generalize (h.push 1 (intsC [0, 0, 0, 0, 0, 0])).push 1 (intsC [0, 0, 0, 0, 0, 0]) = H at s1
 have hj2 : (Chunk.own 1 N 0 6 (intsC [0, 0, 0, 0, 0, 0]) :: .own 1 R 0 6 (intsC [0, 0, 0, 0, 0, 0]) :: L)[j + 2]? = some (grCh r b 0) := hj
 have hln := gline_run fuel (d + 1) hf hb 6 s1 hj2
 rw [List.drop_zero, show ((6 : Nat) : Int) = 6 from rfl, show ((0 : Nat) : Int) = 0 from rfl] at hln
 unfold headG
 cases hq : lnT b 6 with
 | none =>
   rw [hq] at hln
   obtain ⟨h1, e1, s2⟩ := hln
   have cN : h1.cellsAt 6 (nP N) = some (intsC [0, 0, 0, 0, 0, 0]) := s2.getAll (i := 0) rfl rfl
   obtain ⟨h', e2, s3⟩ := s2.putAll (i := 1) (vs := intsC [0, 0, 0, 0, 0, 0]) rfl rfl rfl
   have cR : h'.cellsAt 6 (nP R) = some (intsC [0, 0, 0, 0, 0, 0]) := s3.getAll (i := 1) rfl rfl
   refine ⟨h', 0, [0, 0, 0, 0, 0, 0], ?_, rfl, ?_⟩
   · rw [e1]
     simp only [o_bd, tup2, cond_true, comp0, comp1, slice_slice, nilTest_if, Bool.not_false]
     rw [cN, o_bd, all6t rfl, cond_true, e2, o_bd, cR]
     rfl
   · rw [set_self hj]
     exact s3.tail.tail
 | some wk =>
   obtain ⟨ws, k⟩ := wk
   have hkb : k ≤ b.length := by
     unfold lnT at hq
     split at hq
     · cases hq
     · rename_i hi
       simp only at hq
       split at hq
       · cases hq
         rcases index_lt b 10 with h | ⟨_, h⟩ <;> omega
       · cases hq
   rw [hq] at hln
   obtain ⟨h1, s, e1, s2, hw6⟩ := hln
   have s2' : Sep0 h0 h1 (.grown 1 s (strsC ws) :: .own 1 N 0 6 (intsC [0, 0, 0, 0, 0, 0]) :: .own 1 R 0 6 (intsC [0, 0, 0, 0, 0, 0]) :: L.set j (grCh r b (0 + k))) := s2
   rw [Nat.zero_add] at s2'
   obtain ⟨g1, g2⟩ := strsC_get (s2'.sep.grown (i := 0) rfl) (0 : Int) 0 rfl (by omega)
   have hcmp : decide (tx (ws.getD 0 []) = (⟨#[97, 105, 103]⟩ : ByteArray)) = (ws.getD 0 [] == [97, 105, 103]) := by
     have := txt_ne (ws.getD 0 []) [97, 105, 103]
     rw [show tx [97, 105, 103] = (⟨#[97, 105, 103]⟩ : ByteArray) from rfl] at this
     exact Bool.not_inj this
   have hws0 : ws.take 1 = [ws.getD 0 []] := by rw [take_get (by omega) []]; rfl
   obtain ⟨h2, nn, e2, hn6, hnn, s3⟩ := ghead_loop fuel (d + 1) (by omega) (R := R) hw6 fuel 1 (ws.getD 0 [] == [97, 105, 103]) [0, 0, 0, 0, 0, 0] h1 (by omega) (by omega) (by omega) rfl (fun _ => by rw [hws0]; rfl) s2'
   rw [e1]
   simp only [o_bd, tup2, cond_true, comp0, comp1, slice_slice, nilTest_nilif, Bool.not_true, cond_false]
   rw [g1, o_bd, g2, o_bd, str_str, o_bd, hcmp]
   rw [show ((1 : Nat) : Int) = 1 from rfl] at e2
   rw [e2, o_bd, k_aig_reader_head_0_x0]
   have cN : h2.cellsAt 6 (nP N) = some (intsC nn) := s3.getAll (i := 1) rfl (by rw [List.length_map, hn6])
   obtain ⟨h', e3, s4⟩ := s3.putAll (i := 2) (vs := intsC nn) rfl rfl (by rw [List.length_map, hn6])
   have cR : h'.cellsAt 6 (nP R) = some (intsC nn) := s4.getAll (i := 2) rfl (by rw [List.length_map, hn6])
   have s4' : Sep0 h0 h' (L.set j (grCh r b k)) := s4.tail.tail.tail
   cases his : (ws.getD 0 [] == [97, 105, 103] && (ws.drop 1).all plainW) with
   | false =>
     simp only [Bool.false_eq_true, if_false]
     refine ⟨h', k, nn, ?_, hn6, s4'⟩
     rw [Bool.not_false, cond_true, cN, o_bd, gat0 fuel (d + 4), o_bd]
     simp only
     rw [cN, o_bd, same_self, all6t hn6, cond_true, e3, o_bd, cR]
     rfl
   | true =>
     simp only [if_true]
     rw [hnn his] at cN e3 cR hn6
     rw [Bool.and_eq_true] at his
     have p2 := plain_range his.2 (k := 2) (by omega) (by omega)
     have p5 := plain_range his.2 (k := 5) (by omega) (by omega)
     have hws : (ws.drop 1).map numW = [numW (ws.getD 1 []), numW (ws.getD 2 []), numW (ws.getD 3 []), numW (ws.getD 4 []), numW (ws.getD 5 [])] := by
       match ws, hw6 with
       | [a, b, c, d, e, f], _ => rfl
     rw [hws] at cN e3 cR hn6
     have hlim := limits_run fuel (d + 4) (x := 0) (m := numW (ws.getD 1 [])) (i := numW (ws.getD 2 [])) (l := numW (ws.getD 3 [])) (o := numW (ws.getD 4 [])) (a := numW (ws.getD 5 [])) p2 p5 h2
     rw [Bool.not_true, cond_false, cN, o_bd, hlim]
     cases ht : limT (numW (ws.getD 1 [])) (numW (ws.getD 2 [])) (numW (ws.getD 3 [])) (numW (ws.getD 4 [])) (numW (ws.getD 5 [])) with
     | none =>
       refine ⟨h', ?_, s4', by rw [hws]; rfl, fun x hx => ?_, by rw [hws]; exact ht, hkb⟩
       · simp only [limA, o_bd, tup2, cond_true, comp0, comp1, int_int, nilTest_nilif, Bool.not_true, cond_false]
         rw [cN, o_bd, all6 hn6, cond_true, e3, o_bd, cR, hws]
         rfl
       · obtain ⟨t, ht', rfl⟩ := List.mem_map.1 hx
         exact plainW_range (List.all_eq_true.1 his.2 t ht')
     | some kc =>
       obtain ⟨k9, c⟩ := kc
       obtain ⟨hc1, _⟩ := limT_code ht
       refine ⟨h', k, _, ?_, hn6, s4'⟩
       have hnt : nilTest .iface (errC c) = some false := by rcases hc1 with rfl | rfl <;> rfl
       simp only [limA, o_bd, tup2, cond_true, comp0, comp1, int_int, hnt, Bool.not_false, cN]
       rw [gatC fuel (d + 4) hc1, o_bd]
       simp only
       rw [cN, o_bd, same_self, all6t hn6, cond_true, e3, o_bd, cR]
       rfl
end
end Go.Proofs.YtjagkijfngokaaaGreatDoor
namespace Go.Proofs.YtjagkijfngokaaaGreatDoor
open Go.RowKit
theorem lnT_len {r : List UInt8} {many m : Nat} {ws : List (List UInt8)} (h : lnT r many = some (ws, m)) : m ≤ r.length ∧ ws.length = many := by
 unfold lnT at h
 split at h
 · cases h
 · rename_i hi
   simp only at h
   split at h
   · rename_i hw
     cases h
     rcases index_lt r 10 with h | ⟨_, h⟩
     · exact ⟨by omega, hw⟩
     · omega
   · cases h
theorem outsG_len {b : List UInt8} {m : Int} : ∀ {n k : Nat} {acc O : List Int} {k' : Nat}, outsG b m n k acc = .ok (O, k') → k ≤ b.length → O.length = acc.length + n ∧ k' ≤ b.length
 | 0, k, acc, O, k', h, hk => by cases h; exact ⟨rfl, hk⟩
 | n + 1, k, acc, O, k', h, hk => by
   unfold outsG at h
   split at h
   · cases h
   · rename_i ws j hj
     have := (lnT_len hj).1
     rw [List.length_drop] at this
     split at h
     · obtain ⟨h1, h2⟩ := outsG_len h (by omega)
       simp at h1
       exact ⟨by omega, h2⟩
     · cases h
section
variable (fuel d : Nat) {r : Nat} {b : List UInt8}
abbrev grL (R C N : Nat) (i : Int) (nn O : List Int) (sO : Sl) (r : Nat) (b : List UInt8) (k : Nat) : List Chunk :=
 [.grown 1 sO (intsC O), .own 1 C 0 3 [.int .i64 i, .slice .nil, .slice sO], .own 1 N 0 6 (intsC nn), grCh r b k, .own 1 R 0 3 zeroC]
variable {R C N : Nat} {nn : List Int} {i : Int}
theorem gread0 (hf : b.length + 30 < fuel) (hb : b.length < 1000000) {I : Nat} (hI : I ≤ 10000) {M : Int} (hM : nn[1]? = some M) (hM0 : 0 ≤ M) (hM9 : M < 1000000) : ∀ (n m k : Nat) (O : List Int) (sO : Sl) (h : AH), I < n + m → m ≤ I → k ≤ b.length → O.length = m → Sep0 AH.none h (grL R C N i nn O sO r b k) →
   match outsG b M (I - m) k O with
   | .error p => ∃ h' x0 x7, l_aig_Read_0 fuel (d + 6) n [(0, .slice (lstU b)), (2, .ptr (rdP R)), (4, .ptr (gP r)), (5, .ptr (nP N)), (7, .ptr (rdP C)), (36, .int .i64 (I : Int)), (37, .int .i64 (m : Int))] h = some (.ret, [(0, x0), (2, .ptr (rdP R)), (3, atV p err_api_ErrText), (4, .ptr (gP r)), (5, .ptr (nP N)), (7, x7)], h') ∧ h'.cellsAt 3 (rdP R) = some zeroC
   | .ok (O', k') => ∃ h' sO', l_aig_Read_0 fuel (d + 6) n [(0, .slice (lstU b)), (2, .ptr (rdP R)), (4, .ptr (gP r)), (5, .ptr (nP N)), (7, .ptr (rdP C)), (36, .int .i64 (I : Int)), (37, .int .i64 (m : Int))] h = some (.exit 0, [(0, .slice (lstU b)), (2, .ptr (rdP R)), (3, .bot), (4, .ptr (gP r)), (5, .ptr (nP N)), (7, .ptr (rdP C))], h') ∧ Sep0 AH.none h' (grL R C N i nn O' sO' r b k') := by
 intro n
 induction n with
 | zero => intro m k O sO h h1 h2; omega
 | succ n ih =>
   intro m k O sO h h1 h2 hk9 hO hs
   rw [l_aig_Read_0_eq]
   by_cases hm : m < I
   · have n1 := gline_run fuel (d + 2) hf hb (j := 3) 1 hs rfl
     rw [bif_pos (by omega), show I - m = (I - (m + 1)) + 1 by omega]
     simp only [chk_mk, field_mk, o_bd, gr_c1 (j := 3) hs rfl, int_int]
     rw [show ((1 : Nat) : Int) = 1 from rfl] at n1
     unfold outsG
     have fin : ∀ {h1 : AH} {L : List Chunk}, Sep0 AH.none h1 (.own 1 R 0 3 zeroC :: L) → ∃ h', h1.storeAt [(.int .i64 (0 : Int)), (.slice Sl.nil), (.slice Sl.nil)] (rdP R) = some h' ∧ h'.cellsAt 3 (rdP R) = some zeroC := by
       intro h1 L s
       obtain ⟨h', e1, e2, _⟩ := ret_put s rfl (vs := zeroC) rfl
       exact ⟨h', e1, e2⟩
     cases q1 : lnT (b.drop k) 1 with
     | none =>
       rw [q1] at n1
       obtain ⟨h1', e1, s1⟩ := n1
       obtain ⟨h', e2, e3⟩ := fin (L := []) s1.tail.tail.tail.tail
       refine ⟨h', .slice (lstU b), .ptr (rdP C), ?_, e3⟩
       rw [e1]
       simp only [o_bd, tup2, cond_true, comp0, comp1, slice_slice, nilTest_if, Bool.not_false]
       rw [e2]
       rfl
     | some wj =>
       obtain ⟨ws, j⟩ := wj
       have hjl := (lnT_len q1).1
       rw [List.length_drop] at hjl
       rw [q1] at n1
       obtain ⟨h1', s, e1, s1, hw1⟩ := n1
       have s1' : Sep0 AH.none h1' (.grown 1 s (strsC ws) :: grL R C N i nn O sO r b (k + j)) := s1
       obtain ⟨g1, g2⟩ := strsC_get (s1'.sep.grown (i := 0) rfl) (0 : Int) 0 rfl (by omega)
       have c1 : h1'.cell (.mk ⟨N, 0, 1⟩ 6) = some (.int .i64 M) := s1'.part (i := 3) rfl (by omega) (by rw [List.getElem?_map, hM]; rfl)
       have s2 : Sep0 AH.none h1' (grL R C N i nn O sO r b (k + j)) := s1'.tail
       have hsl := s2.len (i := 0) rfl
       rw [List.length_map, Nat.mul_one] at hsl
       have cO : h1'.cell (.mk ⟨C, 0, 0 + 2⟩ 3) = some (.slice sO) := s2.part (i := 1) rfl (by omega) rfl
       rw [e1]
       simp only [o_bd, tup2, cond_true, comp0, comp1, slice_slice, nilTest_nilif, Bool.not_true, cond_false]
       rw [g1, o_bd, g2, o_bd, str_str, o_bd, plain_run fuel (d + 2) (by omega)]
       simp only [o_bd, tup2, cond_true, comp0, comp1, int_int, bool_bool]
       have hel : Pt.elem 1 6 (1 : Int) (nP N) = some (.mk ⟨N, 0, 1⟩ 6) := rfl
       obtain ⟨h', e2, e3⟩ := fin (L := []) s2.tail.tail.tail.tail
       cases hp : plainW (ws.getD 0 []) with
       | false =>
         simp only [Bool.not_false, show ((true == false) : Bool) = false from rfl, cond_false, o_bd, bool_bool, cond_true, Bool.false_and, Bool.false_eq_true, if_false]
         refine ⟨h', .slice (lstU b), .ptr (rdP C), ?_, e3⟩
         rw [gat0 fuel (d + 5)]
         simp only [o_bd]
         rw [e2]
         rfl
       | true =>
         have hr := plainW_range hp
         simp only [Bool.not_true, beq_self_eq_true, cond_true, hel, c1, o_bd, int_int, bool_bool, if_true, Bool.true_and]
         rw [wrap64 (n := 2 * M) (by omega) (by omega), wrap64 (n := 2 * M + 1) (by omega) (by omega)]
         by_cases hx : numW (ws.getD 0 []) ≤ 2 * M + 1
         · rw [bif_neg (by omega), decide_eq_true hx, if_pos rfl]
           obtain ⟨sO', h2', e4, s4, _⟩ := s2.grow (i := 0) (bytes := 8) (m := 1) (vs := [.int .i64 (numW (ws.getD 0 []))]) rfl rfl (by omega) (by omega)
           rw [set0, show intsC O ++ [AV.int .i64 (numW (ws.getD 0 []))] = intsC (O ++ [numW (ws.getD 0 [])]) by simp] at s4
           obtain ⟨h3', e5, s5⟩ := s4.put (i := 1) (o := 2) (l := 3) (vs := [.slice sO']) rfl (by simp) (by simp)
           have s5' : Sep0 AH.none h3' (grL R C N i nn (O ++ [numW (ws.getD 0 [])]) sO' r b (k + j)) := s5
           have := ih (m + 1) (k + j) (O ++ [numW (ws.getD 0 [])]) sO' h3' (by omega) (by omega) (by omega) (by simp; omega) s5'
           rw [cO, o_bd, slice_slice, o_bd, e4]
           simp only [o_bd]
           rw [show (0 + 2 : Nat) = 2 from rfl, e5, o_bd, sucU (by omega)]
           exact this
         · rw [bif_pos (by omega), decide_eq_false hx, if_neg (by simp)]
           refine ⟨h', .slice (lstU b), .ptr (rdP C), ?_, e3⟩
           rw [gat0 fuel (d + 5)]
           simp only [o_bd]
           rw [e2]
           rfl
   · obtain rfl : m = I := by omega
     rw [bif_neg (by omega), Nat.sub_self]
     unfold outsG
     exact ⟨h, sO, rfl, hs⟩
theorem headG_code {b : List UInt8} {c : Int} (h : headG b = .error c) : c = 101 ∨ c = 102 := by
 unfold headG at h
 split at h
 · cases h; exact .inl rfl
 · split at h
   · split at h
     · rename_i hl
       cases h
       exact (limT_code hl).1
     · cases h
   · cases h; exact .inl rfl
theorem gread_body (hf : b.length + 20000 < fuel) (hb : b.length < 1000000) : ∃ v h', brun fuel (d + 8) F_aig_Read [.slice (lstU b)] AH.none = some (v, h') ∧ freezeV h' 8 v = some (ciA (readG b)) := by
 have s0 := (Sep0.start AH.none).push 1 3 (cs := zeroC) rfl
 rw [e_aig_Read, len_lst, bif_neg (by omega)]
 generalize AH.none.next = R at s0
 generalize AH.push AH.none 1 [(AV.int .i64 (0 : Int)), (.slice Sl.nil), (.slice Sl.nil)] = H at s0
 have s1 := (s0.push 1 2 (cs := [.slice (lstU b), .int .i64 (0 : Int)]) rfl).cons
 have s1' : Sep0 AH.none (H.push 1 [.slice (lstU b), .int .i64 (0 : Int)]) [grCh H.next b 0, .own 1 R 0 3 zeroC] := s1
 have hd := ghead_run fuel (d + 1) (h0 := AH.none) (j := 0) (by omega) hb s1' rfl
 generalize H.next = r at s1' hd
 generalize (H.push 1 [.slice (lstU b), .int .i64 (0 : Int)]) = H2 at s1' hd
 have zero : ∀ {h1 : AH} {L : List Chunk} {c p : Int} {zs : List AV}, (c = 101 ∨ c = 102) → zs.length = 3 → Sep0 AH.none h1 (.own 1 R 0 3 zs :: L) → ∃ v h', ((AH.storeAt h1 [(.int .i64 (0 : Int)), (.slice Sl.nil), (.slice Sl.nil)] (Pt.mk ⟨R, 0, 0⟩ 3)).bind fun h13 =>
   (((((AH.cellsAt h13 3 (Pt.mk ⟨R, 0, 0⟩ 3)).bind fun c15 =>
   some ((AV.agg c15)) : Option AV).bind fun v14 =>
   some [v14, atV p (errC c)]) : Option (List AV)).map AV.tup).map fun v => (v, h13)) = some (v, h') ∧ freezeV h' 8 v = some (ciA (.error (c, p))) := by
   intro h1 L c p zs hc hz s
   obtain ⟨h', e1, e2, _⟩ := ret_put s hz (vs := zeroC) rfl
   rw [e1, o_bd, e2]
   exact ⟨_, h', rfl, zero3_fr hc p h'⟩
 unfold readG
 cases hh : headG b with
 | error c =>
   rw [hh] at hd
   have hc := headG_code hh
   obtain ⟨h1, k', nn, e1, e2, s2⟩ := hd
   rw [set0] at s2
   have s3 := (s2.push 1 6 (cs := intsC [0, 0, 0, 0, 0, 0]) rfl).cons
   obtain ⟨h2, e3, s4⟩ := s3.putAll (i := 0) (vs := intsC nn) rfl rfl (by rw [List.length_map, e2])
   rw [e1]
   simp only [o_bd, tup2, cond_true, comp0, comp1, agg_agg]
   rw [all6 e2, cond_true]
   rw [show [(AV.int .i64 (0 : Int)), (.int .i64 (0 : Int)), (.int .i64 (0 : Int)), (.int .i64 (0 : Int)), (.int .i64 (0 : Int)), (.int .i64 (0 : Int))] = intsC [0, 0, 0, 0, 0, 0] from rfl, e3, o_bd, errC_no, o_bd, Bool.not_false, cond_true]
   exact zero (L := []) hc rfl (s4.tail.tail)
 | ok Nk =>
   obtain ⟨M, k⟩ := Nk
   rw [hh] at hd
   obtain ⟨h1, e1, s2, hM5, hMr, hlim, hkb⟩ := hd
   rw [set0] at s2
   obtain ⟨l1, l2, l3, l4, l5⟩ := limT_none hlim
   have h5 := five hM5
   have hN6 : (0 :: M).length = 6 := by simp [hM5]
   have q1 := hMr (M.getD 1 0) (by rw [h5]; simp)
   have q3 := hMr (M.getD 3 0) (by rw [h5]; simp)
   have q4 := hMr (M.getD 4 0) (by rw [h5]; simp)
   have s3 := (s2.push 1 6 (cs := intsC [0, 0, 0, 0, 0, 0]) rfl).cons
   obtain ⟨h2, e3, e4, s4⟩ := ret_put s3 rfl (vs := intsC (0 :: M)) (by rw [List.length_map, hN6])
   rw [e1]
   simp only [o_bd, tup2, cond_true, comp0, comp1, agg_agg]
   rw [all6 hN6, cond_true]
   rw [show [(AV.int .i64 (0 : Int)), (.int .i64 (0 : Int)), (.int .i64 (0 : Int)), (.int .i64 (0 : Int)), (.int .i64 (0 : Int)), (.int .i64 (0 : Int))] = intsC [0, 0, 0, 0, 0, 0] from rfl, e3, o_bd, nilTest_nilif, o_bd, Bool.not_true, cond_false]
   generalize h1.next = N at e4 s4 ⊢
   have g2 : ∀ p : Nat, p < 5 → (0 :: M)[p + 1]? = some (M.getD p 0) := fun p hp => by rw [List.getElem?_cons_succ]; exact getD_get (by omega) 0
   have cI : h2.cell (.mk ⟨N, 0, 2⟩ 6) = some (.int .i64 (M.getD 1 0)) := s4.part (i := 0) rfl (by omega) (by rw [List.getElem?_map, g2 1 (by omega)]; rfl)
   have s5 := (s4.push 1 3 (cs := zeroC) rfl).cons
   obtain ⟨h3, e5, _, s6⟩ := ret_put s5 rfl (vs := [.int .i64 (M.getD 1 0), .slice .nil, .slice .nil]) rfl
   rw [show Pt.elem 1 6 (2 : Int) (.mk ⟨N, 0, 0⟩ 6) = some (.mk ⟨N, 0, 2⟩ 6) from rfl, o_bd, cI, o_bd, int_int, o_bd, e5, o_bd]
   generalize h2.next = C at s6 ⊢
   have s7 : Sep0 AH.none h3 (grL R C N (M.getD 1 0) (0 :: M) [] .nil r b k) := (s6.addNil 1).cons
   have cO : h3.cell (.mk ⟨N, 0, 4⟩ 6) = some (.int .i64 (M.getD 3 0)) := s7.part (i := 2) rfl (by omega) (by rw [List.getElem?_map, g2 3 (by omega)]; rfl)
   rw [show Pt.elem 1 6 (4 : Int) (.mk ⟨N, 0, 0⟩ 6) = some (.mk ⟨N, 0, 4⟩ 6) from rfl, o_bd, cO, o_bd, int_int, o_bd]
   obtain ⟨O, hO⟩ := Int.eq_ofNat_of_zero_le q3.1
   obtain ⟨A, hA⟩ := Int.eq_ofNat_of_zero_le q4.1
   have l0 := gread0 fuel (d + 1) (by omega) hb (R := R) (C := C) (N := N) (r := r) (b := b) (i := M.getD 1 0) (nn := 0 :: M) (I := O) (by omega) (g2 0 (by omega)) (by omega) (by omega) fuel 0 k [] .nil h3 (by omega) (by omega) hkb rfl s7
   rw [Nat.sub_zero, show ((0 : Nat) : Int) = 0 from rfl] at l0
   rw [hO, hA, Int.toNat_natCast, Int.toNat_natCast]
   cases ho : outsG b (M.getD 0 0) O k [] with
   | error p =>
     rw [ho] at l0
     obtain ⟨h4, x0, x7, e6, e7⟩ := l0
     rw [e6, o_bd, k_aig_Read_0_r, e7]
     exact ⟨_, h4, rfl, zero3_fr (c := 101) (.inl rfl) p h4⟩
   | ok Ok =>
     obtain ⟨Ol, k1⟩ := Ok
     obtain ⟨_, hk1⟩ := outsG_len ho hkb
     rw [ho] at l0
     obtain ⟨h4, sO, e6, s8⟩ := l0
     have cI4 : h4.cell (.mk ⟨N, 0, 2⟩ 6) = some (.int .i64 (M.getD 1 0)) := s8.part (i := 2) rfl (by omega) (by rw [List.getElem?_map, g2 1 (by omega)]; rfl)
     have cA4 : h4.cell (.mk ⟨N, 0, 5⟩ 6) = some (.int .i64 (A : Int)) := s8.part (i := 2) rfl (by omega) (by rw [List.getElem?_map, g2 4 (by omega), hA]; rfl)
     rw [e6, o_bd, k_aig_Read_0_x0, show Pt.elem 1 6 (2 : Int) (nP N) = some (.mk ⟨N, 0, 2⟩ 6) from rfl, o_bd, cI4, o_bd, int_int, o_bd, show Pt.elem 1 6 (5 : Int) (nP N) = some (.mk ⟨N, 0, 5⟩ 6) from rfl, o_bd, cA4, o_bd, int_int, o_bd]
     have ga := gands_run fuel (d + 4) (by omega) hb (h0 := AH.none) (r := r) (b := b) (I := A) (i := M.getD 1 0) (by omega) (by omega) (by omega) (j := 3) (p := k1) (by omega) s8 rfl
     simp only
     cases hg : andsG b (M.getD 1 0) 0 A k1 [] with
     | error p =>
       rw [hg] at ga
       obtain ⟨h5, p', e8, s9⟩ := ga
       have s9' : Sep0 AH.none h5 (grL R C N (M.getD 1 0) (0 :: M) Ol sO r b p') := s9
       obtain ⟨h6, e9, s10⟩ := s9'.put (i := 1) (o := 1) (l := 3) (vs := [.slice .nil]) rfl (by simp) (by simp)
       have s10' : Sep0 AH.none h6 (grL R C N (M.getD 1 0) (0 :: M) Ol sO r b p') := s10
       rw [e8]
       simp only [o_bd, tup2, cond_true, comp0, comp1, slice_slice, field_mk]
       rw [show (0 + 1 : Nat) = 1 from rfl, e9]
       simp only [o_bd, nilTest_if, Bool.not_false, cond_true]
       exact zero (c := 101) (L := []) (.inl rfl) rfl s10'.tail.tail.tail.tail
     | ok Ap =>
       obtain ⟨Al, p⟩ := Ap
       rw [hg] at ga
       obtain ⟨h5, sA, e8, s9, hp9⟩ := ga
       have s9' : Sep0 AH.none h5 (.grown 2 sA (pairsC Al) :: grL R C N (M.getD 1 0) (0 :: M) Ol sO r b p) := s9
       obtain ⟨h6, e9, s10⟩ := s9'.put (i := 2) (o := 1) (l := 3) (vs := [.slice sA]) rfl (by simp) (by simp)
       have s10' : Sep0 AH.none h6 [.grown 2 sA (pairsC Al), .grown 1 sO (intsC Ol), .own 1 C 0 3 [.int .i64 (M.getD 1 0), .slice sA, .slice sO], .own 1 N 0 6 (intsC (0 :: M)), grCh r b p, .own 1 R 0 3 zeroC] := s10
       have cr : h6.cell (.mk ⟨r, 0, 0 + 1⟩ 2) = some (.int .i64 (p : Int)) := s10'.part (i := 4) rfl (by omega) rfl
       rw [e8]
       simp only [o_bd, tup2, cond_true, comp0, comp1, slice_slice, field_mk, chk_mk]
       rw [show (0 + 1 : Nat) = 1 from rfl, e9]
       rw [show (0 + 1 : Nat) = 1 from rfl] at cr
       simp only [o_bd, nilTest_nilif, Bool.not_true, cond_false, cr, int_int]
       have hpb : p ≤ b.length := by
         have hdl : ∀ (f i a : Nat) (r : List UInt8) (q : Nat × Nat), numT f i a r = some q → q.2 ≤ i + r.length := by
           intro f
           induction f with
           | zero => intro i a r q h; cases h
           | succ f ih =>
             intro i a r q h
             cases r with
             | nil => cases h
             | cons c r =>
               unfold numT at h
               split at h
               · have := ih _ _ _ _ h
                 simp only [List.length_cons]; omega
               · cases h
                 simp
         have hdG : ∀ {r : List UInt8} {lo hi v : Int} {m : Nat}, delG r lo hi = some (v, m) → m ≤ r.length := by
           intro r lo hi v m h
           unfold delG at h
           cases hn : numT 5 0 0 r with
           | none => rw [hn] at h; cases h
           | some q =>
             rw [hn, o_bd] at h
             have := hdl 5 0 0 r q hn
             split at h
             · cases h; omega
             · cases h
         have : ∀ (n kk p0 : Nat) (acc Al : List (Int × Int)) (p : Nat), andsG b (M.getD 1 0) kk n p0 acc = .ok (Al, p) → p0 ≤ b.length → p ≤ b.length := by
           intro n
           induction n with
           | zero => intro kk p0 acc Al p h hp; cases h; exact hp
           | succ n ih =>
             intro kk p0 acc Al p h hp
             unfold andsG at h
             split at h
             · cases h
             · rename_i x j hj
               have h1 := hdG hj
               rw [List.length_drop] at h1
               split at h
               · cases h
               · rename_i y j' hj'
                 have h2 := hdG hj'
                 rw [List.length_drop] at h2
                 exact ih _ _ _ _ _ h (by omega)
         exact this _ _ _ _ _ _ hg hk1
       rw [aHi_none, o_bd, aLo_some (by omega) (by rw [len_lst]; omega), o_bd, aMx_none, o_bd, hasSz_lstM, cond_true, Int.toNat_natCast]
       rw [len_lst, cut_lstU b (Nat.le_refl _), show (b.drop p).take (b.length - p) = b.drop p from List.take_of_length_le (by simp)]
       have bad : ∃ v h', ((run fuel (d + 7) F_aig_at [(.int .i64 (p : Int)), err_api_ErrText] h6).bind fun r40 =>
           (AH.storeAt r40.2 [(.int .i64 (0 : Int)), (.slice Sl.nil), (.slice Sl.nil)] (rdP R)).bind fun h41 =>
           (((((AH.cellsAt h41 3 (rdP R)).bind fun c43 =>
           some ((AV.agg c43)) : Option AV).bind fun v42 =>
           some [v42, r40.1]) : Option (List AV)).map AV.tup).map fun v => (v, h41)) = some (v, h') ∧ freezeV h' 8 v = some (ciA (.error (101, (p : Int)))) := by
         rw [gat0 fuel (d + 6), o_bd]
         exact zero (c := 101) (L := []) (.inl rfl) rfl s10'.tail.tail.tail.tail.tail
       have good : ∃ v h', ((AH.cellsAt h6 3 (rdP C)).bind fun c44 =>
           (bif (!false && Nat.beq (List.length c44) 3 && List.all c44 AV.isCell) then ((AH.storeAt h6 c44 (rdP R)).bind fun h45 =>
           (((((AH.cellsAt h45 3 (rdP R)).bind fun c47 =>
           some ((AV.agg c47)) : Option AV).bind fun v46 =>
           some [v46, .nilif]) : Option (List AV)).map AV.tup).map fun v => (v, h45)) else (none))) = some (v, h') ∧ freezeV h' 8 v = some (ciA (.ok (M.getD 1 0, Al, Ol))) := by
         have cC : h6.cellsAt 3 (rdP C) = some [.int .i64 (M.getD 1 0), .slice sA, .slice sO] := s10'.getAll (i := 2) rfl rfl
         obtain ⟨h7, e11, s11⟩ := s10'.putAll (i := 5) (vs := [.int .i64 (M.getD 1 0), .slice sA, .slice sO]) rfl rfl rfl
         have cR : h7.cellsAt 3 (rdP R) = some [.int .i64 (M.getD 1 0), .slice sA, .slice sO] := s11.getAll (i := 5) rfl rfl
         rw [cC, o_bd, show (!false && Nat.beq (List.length [AV.int .i64 (M.getD 1 0), .slice sA, .slice sO]) 3 && List.all [AV.int .i64 (M.getD 1 0), .slice sA, .slice sO] AV.isCell) = true from rfl, cond_true, e11, o_bd, cR]
         refine ⟨_, h7, rfl, ?_⟩
         have gA := s11.sep.grown (i := 0) rfl
         have gO := s11.sep.grown (i := 1) rfl
         have lO := gO.len
         have lA := gA.len
         rw [pairsC_len] at lA
         rw [List.length_map, Nat.mul_one] at lO
         refine freeze_tup2 _ (freeze_agg 6 (mm3 rfl ?_ ?_)) rfl
         · rw [gA.freeze (n := 5) (by omega) (freeze_pairs 4 Al), show sA.len = Al.length by omega]
         · rw [gO.freeze (n := 5) (by omega) (freeze_intsC 4 Ol), show sO.len = Ol.length by omega]
       match hdp : b.drop p with
       | [] =>
         rw [len_lst, decide_eq_false (show ¬ (0 : Int) < ((([] : List UInt8).length : Nat) : Int) by simp)]
         simp only [show ((false == true) : Bool) = false from rfl, cond_false, o_bd, bool_bool]
         exact good
       | [x] =>
         rw [len_lst, decide_eq_true (show (0 : Int) < ((([x] : List UInt8).length : Nat) : Int) by simp), decide_eq_true (show ((([x] : List UInt8).length : Nat) : Int) < 2 by simp)]
         simp only [beq_self_eq_true, cond_true, show ((true == false) : Bool) = false from rfl, cond_false, o_bd, bool_bool, cr, int_int]
         exact bad
       | x :: y :: z =>
         rw [len_lst, decide_eq_true (show (0 : Int) < (((x :: y :: z).length : Nat) : Int) by simp; omega), decide_eq_false (show ¬ (((x :: y :: z).length : Nat) : Int) < 2 by simp; omega)]
         have a0 : h6.addr 1 (lstU (x :: y :: z)) (0 : Int) = some (.fp 0 [.int .u8 (x.toNat : Int)]) := addr_lstM (h := h6) (fun b : UInt8 => AV.int .u8 (b.toNat : Int)) (l := x :: y :: z) (j := 0) (by omega) (by simp) 0 false
         have a1 : h6.addr 1 (lstU (x :: y :: z)) (1 : Int) = some (.fp 0 [.int .u8 (y.toNat : Int)]) := addr_lstM (h := h6) (fun b : UInt8 => AV.int .u8 (b.toNat : Int)) (l := x :: y :: z) (j := 1) (by omega) (by simp) 0 false
         have e99 := u8_dec x 99
         rw [show (((99 : UInt8).toNat : Nat) : Int) = 99 from rfl] at e99
         have e10 := u8_dec y 10
         rw [show (((10 : UInt8).toNat : Nat) : Int) = 10 from rfl] at e10
         simp only [beq_self_eq_true, cond_true, a0, o_bd, cell_fp, int_int, bool_bool]
         rw [e99]
         have hE : endG (x :: y :: z) = (x == 99 && y == 10) := rfl
         cases hx : x == 99 with
         | false =>
           rw [hx, Bool.false_and] at hE
           rw [hE, if_neg (by simp)]
           simp only [Bool.not_false, show ((true == false) : Bool) = false from rfl, cond_false, o_bd, bool_bool, cond_true, cr, int_int]
           exact bad
         | true =>
           rw [hx, Bool.true_and] at hE
           simp only [Bool.not_true, beq_self_eq_true, cond_true, a1, o_bd, cell_fp, int_int, bool_bool]
           rw [e10]
           cases hy : y == 10 with
           | false =>
             rw [hy] at hE
             rw [hE, if_neg (by simp)]
             simp only [Bool.not_false, cond_true, cr, o_bd, int_int]
             exact bad
           | true =>
             rw [hy] at hE
             rw [hE, if_pos rfl]
             simp only [Bool.not_true, cond_false]
             exact good
theorem gread_run (hf : b.length + 20000 < fuel) (hb : b.length < 1000000) (h : AH) : run fuel (d + 8) F_aig_Read [.slice (lstU b)] h = some (ciA (readG b), h) := by
 obtain ⟨v, h', e1, e2⟩ := gread_body fuel d hf hb
 exact pure_of rfl rfl (cc1 (canon_lstU 7 b)) e1 e2
end
end Go.Proofs.YtjagkijfngokaaaGreatDoor
namespace Go.Proofs.YtjagkijfngokaaaGreatDoor
open Go.RowKit
def numP (f : Bool) (W : List Wd) : Option Int := (wF f W).bind fun w => if plainW w.text = true then some (numW w.text) else none
section
variable (fuel d : Nat) {W : List Wd}
def limR (m i l o a : Int) : Int := if 8000 < i then 2 else if 8000 < a ∨ 8000 < i + a then 5 else if 8000 < o then 4 else -1
end
end Go.Proofs.YtjagkijfngokaaaGreatDoor
namespace Go.Proofs.YtjagkijfngokaaaGreatDoor
open Go.RowKit
theorem isS {α : Type} (x : Option α) : x.isSome = true ↔ ∃ y, x = some y := Option.isSome_iff_exists
section
variable (fuel d : Nat) (hf : 20 < fuel) {h0 : AH} {R F Z C : Nat} {W : List Wd} {b : List UInt8} (hne : ∀ w ∈ W, w.text ≠ [])
include hf hne
abbrev rdS (R F Z C : Nat) (i : Int) (nn : List Int) (sN sO sA : Sl) (O : List Int) (A : List (Int × Int)) : List Chunk :=
 [.own 1 R 0 3 zeroC, .own 1 F 0 3 (faultC 0 false 0), .own 1 Z 0 3 zeroC, .grown 1 sN (intsC nn), .own 1 C 0 3 [.int .i64 i, .slice sA, .slice sO], .grown 1 sO (intsC O), .grown 2 sA (pairsC A)]
variable {i : Int} {nn : List Int} {sN : Sl}
end
end Go.Proofs.YtjagkijfngokaaaGreatDoor
namespace Go.Proofs.YtjagkijfngokaaaGreatDoor
open Go.RowKit
section
variable (fuel d : Nat) (hf : 20 < fuel) {h0 : AH} {R F Z C : Nat} {W : List Wd} {b : List UInt8} (hne : ∀ w ∈ W, w.text ≠ []) {i : Int} {nn : List Int} {sN : Sl}
include hf hne
end
end Go.Proofs.YtjagkijfngokaaaGreatDoor
namespace Go.Proofs.YtjagkijfngokaaaGreatDoor
open Go.RowKit
def rciA : Except (Int × Int) Ci → AV
 | .ok (i, A, O) => .tup [.agg (circC i A O), .agg (faultC 0 false 0)]
 | .error (c, p) => .tup [.agg (circC 0 [] []), .agg (faultC c true p)]
end Go.Proofs.YtjagkijfngokaaaGreatDoor
namespace Go.Proofs.YtjagkijfngokaaaGreatDoor
open Go.RowKit
theorem sucS {m : Nat} (h : m < 9000000000000000000) : IntKind.wrap .i64 ((m : Int) + 1) = ((m + 1 : Nat) : Int) := by rw [wrap64 (by omega) (by omega)]; omega
theorem sameI_loop (fuel d : Nat) {a b : List Int} (hl : a.length = b.length) (hn : a.length < 1000000000) {h : AH} : ∀ (n k : Nat), a.length < n + k → k ≤ a.length → a.take k = b.take k →
   (l_skolemref_SameInts_0 fuel d n [(0, .slice (lstI a)), (1, .slice (lstI b)), (5, .int .i64 (k : Int))] h).bind (fun p => k_skolemref_SameInts_0 fuel d p.1 p.2.1 p.2.2) = some (.bool (decide (a = b)), h) := by
 intro n
 induction n with
 | zero => intro k h1 h2; omega
 | succ n ih =>
   intro k h1 h2 h3
   rw [l_skolemref_SameInts_0_eq, len_lst]
   by_cases hk : k < a.length
   · rw [bif_pos (by omega), addr_lstM _ (by omega) (by omega) 0, addr_lstM _ (by omega) (by omega) 0]
     simp only [o_bd, cell_fp, int_int, Int.toNat_natCast]
     by_cases he : a.getD k 0 = b.getD k 0
     · rw [bif_npos he, sucS (by omega), ih (k + 1) (by omega) (by omega) (by rw [take_get hk 0, take_get (by omega) 0, h3, he])]
     · rw [bif_nneg he]
       simp only [o_bd, k_skolemref_SameInts_0_r]
       rw [decide_eq_false (fun h => he (by rw [h]))]
   · have : k = a.length := by omega
     subst this
     rw [bif_neg (by omega)]
     have : a = b := by rw [List.take_length, hl, List.take_length] at h3; exact h3
     simp only [o_bd, k_skolemref_SameInts_0_x0]
     rw [decide_eq_true this]
theorem sameI_run (fuel d : Nat) {a b : List Int} {s t : Sl} {h : AH} (hs : freezeV h 8 (.slice s) = some (.slice (lstI a))) (ht : freezeV h 8 (.slice t) = some (.slice (lstI b))) (hn : a.length < 1000000000) (hf : a.length < fuel) :
   run fuel (d + 1) F_skolemref_SameInts [.slice s, .slice t] h = some (.bool (decide (a = b)), h) := by
 refine run_val rfl rfl (mm2 hs ht) (r := .bool (decide (a = b))) (h' := AH.none) ?_ rfl rfl
 rw [e_skolemref_SameInts, len_lst, len_lst]
 by_cases hl : a.length = b.length
 · rw [bif_npos (by omega)]
   have := sameI_loop fuel d hl hn (h := AH.none) fuel 0 (by omega) (by omega) rfl
   exact this
 · rw [bif_nneg (by omega), decide_eq_false (fun h => hl (by rw [h]))]
end Go.Proofs.YtjagkijfngokaaaGreatDoor
namespace Go.Proofs.YtjagkijfngokaaaGreatDoor
open Go.RowKit
theorem paddr (h : AH) {A : List (Int × Int)} {k : Nat} (hk : k < A.length) : h.addr 2 (lstP A) (k : Int) = some (.fp 0 (pairC (A.getD k (0, 0)))) := by
 have := addr_lstN (h := h) (sz := 2) (f := pairC) (fun _ => rfl) (l := A) (j := (k : Int)) (by omega) (by omega) (0, 0) false
 rw [Int.toNat_natCast] at this
 exact this
theorem sameP_loop (fuel d : Nat) {a b : List (Int × Int)} (hl : a.length = b.length) (hn : a.length < 1000000000) {h : AH} : ∀ (n k : Nat), a.length < n + k → k ≤ a.length → a.take k = b.take k →
   (l_skolemref_SamePairs_0 fuel d n [(0, .slice (lstP a)), (1, .slice (lstP b)), (5, .int .i64 (k : Int))] h).bind (fun p => k_skolemref_SamePairs_0 fuel d p.1 p.2.1 p.2.2) = some (.bool (decide (a = b)), h) := by
 intro n
 induction n with
 | zero => intro k h1 h2; omega
 | succ n ih =>
   intro k h1 h2 h3
   rw [l_skolemref_SamePairs_0_eq, len_lst]
   by_cases hk : k < a.length
   · have e0 : ∀ x : Int × Int, Pt.elem 1 2 (0 : Int) (.fp 0 (pairC x)) = some (.fp 0 (pairC x)) := fun _ => rfl
     have e1 : ∀ x : Int × Int, Pt.elem 1 2 (1 : Int) (.fp 0 (pairC x)) = some (.fp 0 [.int .i64 x.2]) := fun _ => rfl
     have c0 : ∀ x : Int × Int, h.cell (.fp 0 (pairC x)) = some (.int .i64 x.1) := fun _ => rfl
     rw [bif_pos (by omega), paddr h hk, paddr h (A := b) (by omega)]
     simp only [o_bd, e0, e1, c0, cell_fp, int_int]
     have ne : ∀ {p : Bool}, a.getD k (0, 0) ≠ b.getD k (0, 0) → p = false → (k_skolemref_SamePairs_1 fuel d n .normal [(0, .slice (lstP a)), (1, .slice (lstP b)), (5, .int .i64 (k : Int)), (6, .bool p)] h).bind (fun p => k_skolemref_SamePairs_0 fuel d p.1 p.2.1 p.2.2) = some (.bool (decide (a = b)), h) := by
       intro p hne hp
       subst hp
       rw [k_skolemref_SamePairs_1_n, Bool.not_false, cond_true]
       simp only [o_bd, k_skolemref_SamePairs_0_r]
       rw [decide_eq_false (fun h => hne (by rw [h]))]
     by_cases he : (a.getD k (0, 0)).1 = (b.getD k (0, 0)).1
     · rw [bif_pos he]
       simp only [o_bd]
       by_cases he2 : (a.getD k (0, 0)).2 = (b.getD k (0, 0)).2
       · have heq : a.getD k (0, 0) = b.getD k (0, 0) := Prod.ext he he2
         rw [decide_eq_true he2, k_skolemref_SamePairs_1_n, Bool.not_true, cond_false, sucS (by omega), ih (k + 1) (by omega) (by omega) (by rw [take_get hk (0, 0), take_get (by omega) (0, 0), h3, heq])]
       · exact ne (fun h => he2 (by rw [h])) (decide_eq_false he2)
     · rw [bif_neg he]
       simp only [o_bd]
       exact ne (fun h => he (by rw [h])) rfl
   · have : k = a.length := by omega
     subst this
     rw [bif_neg (by omega)]
     have : a = b := by rw [List.take_length, hl, List.take_length] at h3; exact h3
     simp only [o_bd, k_skolemref_SamePairs_0_x0]
     rw [decide_eq_true this]
theorem sameP_run (fuel d : Nat) {a b : List (Int × Int)} (hn : a.length < 1000000000) (hf : a.length < fuel) (h : AH) : run fuel (d + 1) F_skolemref_SamePairs [.slice (lstP a), .slice (lstP b)] h = some (.bool (decide (a = b)), h) := by
 refine pure_of rfl rfl (cc2 (canon_lstP 7 a) (canon_lstP 7 b)) (r := .bool (decide (a = b))) (h' := AH.none) ?_ rfl
 rw [e_skolemref_SamePairs, len_lst, len_lst]
 by_cases hl : a.length = b.length
 · rw [bif_npos (by omega)]
   have := sameP_loop fuel d hl hn (h := AH.none) fuel 0 (by omega) (by omega) rfl
   exact this
 · rw [bif_nneg (by omega), decide_eq_false (fun h => hl (by rw [h]))]
theorem okCi (i : Int) (A : List (Int × Int)) (O : List Int) : (!false && Nat.beq (List.length (circC i A O)) 3 && List.all (circC i A O) AV.isCell) = true := rfl
theorem sameCi_run (fuel d : Nat) {i j : Int} {A B : List (Int × Int)} {O Q : List Int} (hA : A.length < 1000000000) (hAf : A.length < fuel) (hO : O.length < 1000000000) (hOf : O.length < fuel) (h : AH) :
   run fuel (d + 2) F_skolemref_SameCircuit [.agg (circC i A O), .agg (circC j B Q)] h = some (.bool (decide (i = j) && decide (A = B) && decide (O = Q)), h) := by
 refine pure_of rfl rfl (cc2 (canon_circ _ _ _) (canon_circ _ _ _)) (r := .bool (decide (i = j) && decide (A = B) && decide (O = Q))) ?_ rfl (h' := (AH.none.push 1 (circC i A O)).push 1 (circC j B Q))
 rw [e_skolemref_SameCircuit, show List.all (circC i A O) AV.isCell = true from rfl, show List.all (circC j B Q) AV.isCell = true from rfl, cond_true, cond_true, show (circC i A O).length = 3 from rfl, show (circC j B Q).length = 3 from rfl]
 have s1 := ((Sep0.start AH.none).push 1 3 (cs := circC i A O) rfl).push 1 3 (cs := circC j B Q) rfl
 generalize AH.none.next = P at s1
 generalize (AH.none.push 1 (circC i A O)).next = R at s1
 generalize (AH.none.push 1 (circC i A O)).push 1 (circC j B Q) = H at s1
 have a0 : H.cell (.mk ⟨P, 0, 0 + 0⟩ 3) = some (.int .i64 i) := s1.part (i := 0) rfl (by omega) rfl
 have a1 : H.cell (.mk ⟨P, 0, 0 + 1⟩ 3) = some (.slice (lstP A)) := s1.part (i := 0) rfl (by omega) rfl
 have a2 : H.cell (.mk ⟨P, 0, 0 + 2⟩ 3) = some (.slice (lstI O)) := s1.part (i := 0) rfl (by omega) rfl
 have b0 : H.cell (.mk ⟨R, 0, 0 + 0⟩ 3) = some (.int .i64 j) := s1.part (i := 1) rfl (by omega) rfl
 have b1 : H.cell (.mk ⟨R, 0, 0 + 1⟩ 3) = some (.slice (lstP B)) := s1.part (i := 1) rfl (by omega) rfl
 have b2 : H.cell (.mk ⟨R, 0, 0 + 2⟩ 3) = some (.slice (lstI Q)) := s1.part (i := 1) rfl (by omega) rfl
 simp only [field_mk, o_bd, a0, a1, b0, b1, int_int, slice_slice]
 by_cases h1 : i = j
 · rw [decide_eq_true h1, sameP_run fuel d hA hAf]
   simp only [beq_self_eq_true, cond_true, o_bd, bool_bool, Bool.true_and]
   by_cases h2 : A = B
   · rw [decide_eq_true h2]
     simp only [beq_self_eq_true, cond_true, a2, b2, o_bd, slice_slice, Bool.true_and]
     rw [sameI_run fuel d (freeze_lstI 7 _) (freeze_lstI 7 _) hO hOf]
     simp only [o_bd, bool_bool]
   · rw [decide_eq_false h2]
     rfl
 · rw [decide_eq_false h1]
   rfl
theorem sameCi_self (fuel d : Nat) {i : Int} {A : List (Int × Int)} {O : List Int} (hA : A.length < 1000000000) (hAf : A.length < fuel) (hO : O.length < 1000000000) (hOf : O.length < fuel) (h : AH) :
   run fuel (d + 2) F_skolemref_SameCircuit [.agg (circC i A O), .agg (circC i A O)] h = some (.bool true, h) := by
 rw [sameCi_run fuel d hA hAf hO hOf, decide_eq_true (rfl : i = i), decide_eq_true (rfl : A = A), decide_eq_true (rfl : O = O)]
 rfl
end Go.Proofs.YtjagkijfngokaaaGreatDoor
namespace Go.Proofs.YtjagkijfngokaaaGreatDoor
open Go.RowKit
theorem line_at (p l r : List UInt8) (hl : ∀ c ∈ l, c ≠ 10) : lineI (p ++ (l ++ 10 :: r)) (p.length : Int) = (l, (p.length : Int) + (l.length : Int) + 1, true) := by
 unfold lineI
 rw [if_neg (by simp; omega), Int.toNat_natCast, List.drop_left, idx_at r hl, if_neg (by omega), Int.toNat_natCast, List.take_left]
theorem tx_drop2 (l : List UInt8) : ByteArray.extract (tx l) 2 l.length = tx (l.drop 2) := by
 apply ByteArray.ext
 rw [ByteArray.data_extract]
 apply Array.ext'
 simp
 rw [List.take_of_length_le (by simp)]
theorem headCe_no (v : Bool) : ∀ c ∈ headCe v, c ≠ 10 := fun c hc e => boolT_no v (e ▸ hc)
theorem playCe_no (w : Bool) (B : List Bool) (T : List UInt8) : ∀ c ∈ playCe w B T, c ≠ 10 := by
 intro c hc
 unfold playCe at hc
 split at hc
 · rintro rfl
   rcases List.mem_append.1 hc with hc | hc
   · simp at hc
   · exact bitT_no B hc
 · rcases List.mem_append.1 hc with hc | hc
   · rintro rfl
     simp at hc
   · exact decT_no10 _ c hc
abbrev certW (v : Bool) (B : List Bool) (S : Sl) : List AV := [.bool v, .bool true, .slice (lstB B), .int .i64 0, .slice .nil, .slice .nil, .slice S]
abbrev certF (v : Bool) (i : Int) (A : List (Int × Int)) (O : List Int) (S : Sl) : List AV := [.bool v, .bool false, .slice .nil, .int .i64 i, .slice (lstP A), .slice (lstI O), .slice S]
abbrev certN (v : Bool) : List AV := [.bool v, .bool false, .slice .nil, .int .i64 0, .slice .nil, .slice .nil, .slice .nil]
section
variable (fuel d : Nat) {b : List UInt8} (hf : b.length + 20000 < fuel) (hb : b.length < 1000000) {h0 h : AH} {C : Nat} {v : Bool} {R : List Chunk} {x nx : Int} (hx : 0 ≤ nx ∧ nx ≤ b.length)
 (hs : Sep0 h0 h (.own 1 C 0 7 (certN v) :: R))
include hb hs
theorem player_w {B : List Bool} (hf : B.length < fuel) (hB : B.length < 1000000) (hl : lineI b x = ([119, 32] ++ B.map bitT, nx, true)) :
   ∃ h', run fuel (d + 9) F_cert_player [.slice (lstU b), .int .i64 x, .ptr (.mk ⟨C, 0, 0⟩ 7)] h = some (.tup [.int .i64 nx, .nilif], h') ∧ Sep0 h0 h' (.own 1 C 0 7 (certW v B .nil) :: R) := by
 rw [e_cert_player, tLine_run fuel (d + 5) hb, hl]
 have g1 : strAt (tx ([119, 32] ++ B.map bitT)) (1 : Int) = some (32 : Int) := strAt_mk (l := [119, 32] ++ B.map bitT) (k := 1) (by simp)
 have g0 : strAt (tx ([119, 32] ++ B.map bitT)) (0 : Int) = some (119 : Int) := strAt_mk (l := [119, 32] ++ B.map bitT) (k := 0) (by simp)
 have hlen : ([119, 32] ++ B.map bitT).length = B.length + 2 := by simp
 have hdr : ([119, 32] ++ B.map bitT).drop 2 = B.map bitT := rfl
 have hext := tx_drop2 ([119, 32] ++ B.map bitT)
 rw [hdr] at hext
 generalize [119, 32] ++ B.map bitT = l at g0 g1 hlen hext
 have hsz : ByteArray.size (tx l) = B.length + 2 := by rw [tx_size, hlen]
 have hl2 : ByteArray.extract (tx l) 2 (B.length + 2) = tx (B.map bitT) := by rw [← hlen]; exact hext
 rw [show tupL (l, nx, true) = .tup [.str (tx l), .int .i64 nx, .bool true] from rfl]
 simp only [o_bd, tup3, cond_true, comp0, comp1, comp2, str_str, int_int, bool_bool, Bool.not_true, cond_false, hsz]
 rw [decide_eq_false (show ¬ (((B.length + 2 : Nat) : Int) < 2) by omega)]
 simp only [beq_self_eq_true, cond_true, g1, o_bd, decide_true, Bool.not_true, bool_bool, cond_false, g0, chk_mk, field_mk]
 obtain ⟨h1, e1, s1⟩ := hs.put (i := 0) (o := 1) (l := 7) (vs := [.bool true]) rfl (by simp) (by simp)
 have e1' : h.storeAt [.bool true] (.mk ⟨C, 0, 0 + 1⟩ 7) = some h1 := e1
 have s1' : Sep0 h0 h1 (.own 1 C 0 7 [.bool v, .bool true, .slice .nil, .int .i64 0, .slice .nil, .slice .nil, .slice .nil] :: R) := s1
 rw [e1', o_bd, aHi_none, o_bd, aLo_some (by omega) (by omega), o_bd, show (2 : Int).toNat = 2 from rfl, hl2, wBits_run fuel (d + 7) (by rw [List.length_map]; omega) (by simpa using hf), bitsI_back, bitT_bit]
 obtain ⟨h2, e2, s2⟩ := s1'.put (i := 0) (o := 2) (l := 7) (vs := [.slice (lstB B)]) rfl (by simp) (by simp)
 have e2' : h1.storeAt [.slice (lstB B)] (.mk ⟨C, 0, 0 + 2⟩ 7) = some h2 := e2
 simp only [o_bd, tup2, cond_true, comp0, comp1, slice_slice, bool_bool, e2', Bool.not_true, cond_false]
 exact ⟨h2, rfl, s2⟩
theorem funs_run (hf : b.length + 20000 < fuel) {I : Nat} {A : List (Int × Int)} {O : List Int} (hR : CiR I A O) {r : List UInt8} {k : Nat} (hk : b.drop k = aigTx I A O ++ 10 :: r) :
   ∃ h', run fuel (d + 9) F_cert_functions [.slice (lstU b), .int .i64 (k : Int), .int .i64 ((aigTx I A O).length : Int), .ptr (.mk ⟨C, 0, 0⟩ 7)] h = some (.tup [.int .i64 ((k : Int) + ((aigTx I A O).length : Int) + 1), .nilif], h') ∧ Sep0 h0 h' (.own 1 C 0 7 (certF v I A O .nil) :: R) := by
 have hback := readG_back hR
 generalize aigTx I A O = T at hk hback
 have hlen : b.length - k = T.length + 1 + r.length := by rw [← List.length_drop, hk]; simp; omega
 have hkb : k + T.length < b.length := by omega
 have hget : b.getD (k + T.length) 0 = 10 := by
   have : (b.drop k).getD T.length 0 = 10 := by rw [hk]; simp [List.getD]
   rw [← this]
   simp [List.getD]
 have hcut : (b.drop k).take T.length = T := by rw [hk, List.take_left]
 rw [e_cert_functions, len_lst, wrap64 (n := (k : Int) + (T.length : Int)) (by omega) (by omega), bif_neg (by omega), addr_lstM _ (by omega) (by omega) 0, show ((k : Int) + (T.length : Int)).toNat = k + T.length by omega, hget]
 simp only [o_bd, cell_fp, int_int]
 rw [show (!decide (((10 : UInt8).toNat : Int) = 10)) = false from rfl, cond_false, aHi_some (by omega) (by omega), o_bd, aLo_some (by omega) (by omega), o_bd, aMx_none, o_bd, hasSz_lstM, cond_true,
   show ((k : Int) + (T.length : Int)).toNat = k + T.length by omega, Int.toNat_natCast, cut_lstU b (by omega), show k + T.length - k = T.length by omega, hcut, gread_run fuel d (b := T) (by omega) (by omega), hback]
 obtain ⟨h1, e1, s1⟩ := hs.put (i := 0) (o := 3) (l := 7) (vs := circC I A O) rfl (by simp) (by simp)
 have e1' : h.storeAt (circC I A O) (.mk ⟨C, 0, 0 + 3⟩ 7) = some h1 := e1
 simp only [ciA, o_bd, tup2, cond_true, comp0, comp1, agg_agg, chk_mk, field_mk]
 rw [cond_pos _ _ (okCi I A O), e1']
 simp only [o_bd, nilTest_nilif, Bool.not_true, cond_false]
 rw [wrap64 (by omega) (by omega)]
 exact ⟨h1, rfl, s1⟩
theorem player_f (hf : b.length + 20000 < fuel) {I : Nat} {A : List (Int × Int)} {O : List Int} (hR : CiR I A O) {r : List UInt8} {k : Nat} (hk : b.drop k = aigTx I A O ++ 10 :: r) (hl : lineI b x = ([102, 32] ++ decT ((aigTx I A O).length : Int), (k : Int), true)) (hT : (aigTx I A O).length < 1000000) :
   ∃ h', run fuel (d + 10) F_cert_player [.slice (lstU b), .int .i64 x, .ptr (.mk ⟨C, 0, 0⟩ 7)] h = some (.tup [.int .i64 ((k : Int) + ((aigTx I A O).length : Int) + 1), .nilif], h') ∧ Sep0 h0 h' (.own 1 C 0 7 (certF v I A O .nil) :: R) := by
 obtain ⟨h1, e1, s1⟩ := funs_run fuel d hb hs hf hR hk
 generalize aigTx I A O = T at hl hT e1
 obtain ⟨q1, q2, q3⟩ := decT_num (x := (T.length : Int)) (by omega) (by omega)
 have hpl : plainW (decT (T.length : Int)) = true := by unfold plainW; rw [q1, q3 (by omega)]; rfl
 have hdl := (decT_word (T.length : Int)).1
 generalize decT (T.length : Int) = D at hl q2 hpl hdl
 rw [e_cert_player, tLine_run fuel (d + 6) hb, hl]
 have hD : 0 < D.length := List.length_pos_iff.2 hdl
 have g1 : strAt (tx ([102, 32] ++ D)) (1 : Int) = some (32 : Int) := strAt_mk (l := [102, 32] ++ D) (k := 1) (by simp)
 have g0 : strAt (tx ([102, 32] ++ D)) (0 : Int) = some (102 : Int) := strAt_mk (l := [102, 32] ++ D) (k := 0) (by simp)
 have hlen : ([102, 32] ++ D).length = D.length + 2 := by simp
 have hdr : ([102, 32] ++ D).drop 2 = D := rfl
 have hext := tx_drop2 ([102, 32] ++ D)
 rw [hdr] at hext
 generalize [102, 32] ++ D = l at g0 g1 hlen hext
 have hsz : ByteArray.size (tx l) = D.length + 2 := by rw [tx_size, hlen]
 have hl2 : ByteArray.extract (tx l) 2 (D.length + 2) = tx D := by rw [← hlen]; exact hext
 rw [show tupL (l, (k : Int), true) = .tup [.str (tx l), .int .i64 (k : Int), .bool true] from rfl]
 simp only [o_bd, tup3, cond_true, comp0, comp1, comp2, str_str, int_int, bool_bool, Bool.not_true, cond_false, hsz]
 rw [decide_eq_false (show ¬ (((D.length + 2 : Nat) : Int) < 2) by omega)]
 simp only [beq_self_eq_true, cond_true, g1, o_bd, decide_true, Bool.not_true, bool_bool, cond_false, g0]
 rw [show decide ((102 : Int) = 119) = false from rfl, cond_false, aHi_none, o_bd, aLo_some (by omega) (by omega), o_bd, show (2 : Int).toNat = 2 from rfl, hl2, plain_run fuel (d + 5) (by omega), hpl]
 simp only [o_bd, tup2, cond_true, comp0, comp1, int_int, bool_bool, Bool.not_true, cond_false, if_true, q2]
 rw [e1]
 simp only [o_bd, tup2, cond_true, comp0, comp1, int_int]
 exact ⟨h1, rfl, s1⟩
end
theorem headCe_is (v : Bool) : decide (tx (headCe v) = (⟨#[115, 32, 116, 114, 117, 101]⟩ : ByteArray)) = v ∧ (bif (!decide (tx (headCe v) = (⟨#[115, 32, 116, 114, 117, 101]⟩ : ByteArray))) then (!decide (tx (headCe v) = (⟨#[115, 32, 102, 97, 108, 115, 101]⟩ : ByteArray))) else false) = false := by
 cases v <;> decide
def CeForm (w : Bool) (B : List Bool) (I : Nat) (A : List (Int × Int)) (O : List Int) : Prop := (w = true ∧ I = 0 ∧ A = [] ∧ O = []) ∨ (w = false ∧ B = [])
theorem certTx_len {v w : Bool} {B : List Bool} {I : Nat} {A : List (Int × Int)} {O : List Int} {L : List Stp} (hc : CeOk w B I A O L) : (certTx v w B (aigTx I A O) L).length ≤ 150000 := by
 have h1 := hc.nB
 have h2 := hc.nT
 have h3 := hc.nL
 have h4 := stepsT_len hc.num
 have h5 := boolT_le v
 have h6 := decT_le (x := ((aigTx I A O).length : Int)) (by omega) (by omega)
 simp only [certTx, headCe, playCe, List.length_append, List.length_cons]
 split <;> simp <;> omega
theorem cread_body (fuel d : Nat) (hf : 400000 < fuel) {v w : Bool} {B : List Bool} {I : Nat} {A : List (Int × Int)} {O : List Int} {L : List Stp} (hc : CeOk w B I A O L) (hw : CeForm w B I A O) :
   ∃ r h', brun fuel (d + 12) F_cert_Read [.slice (lstU (certTx v w B (aigTx I A O) L))] AH.none = some (r, h') ∧ freezeV h' 8 r = some (.tup [.agg (certC v w B I A O L), .nilif]) := by
 have hlen := certTx_len (v := v) hc
 have hl1 : lineI (certTx v w B (aigTx I A O) L) 0 = (headCe v, ((headCe v).length : Int) + 1, true) := by
   have := line_at [] (headCe v) (playCe w B (aigTx I A O) ++ 10 :: ((if w = true then [] else aigTx I A O ++ [10]) ++ stepsT L)) (headCe_no v)
   simpa [certTx] using this
 have hl2 : lineI (certTx v w B (aigTx I A O) L) (((headCe v).length : Int) + 1) = (playCe w B (aigTx I A O), ((headCe v).length : Int) + 1 + ((playCe w B (aigTx I A O)).length : Int) + 1, true) := by
   have := line_at (headCe v ++ [10]) (playCe w B (aigTx I A O)) ((if w = true then [] else aigTx I A O ++ [10]) ++ stepsT L) (playCe_no w B (aigTx I A O))
   simpa [certTx] using this
 have hd : ∀ k, k = (headCe v).length + 1 + (playCe w B (aigTx I A O)).length + 1 → (certTx v w B (aigTx I A O) L).drop k = (if w = true then [] else aigTx I A O ++ [10]) ++ stepsT L := by
   rintro k rfl
   have : certTx v w B (aigTx I A O) L = (headCe v ++ [10] ++ playCe w B (aigTx I A O) ++ [10]) ++ ((if w = true then [] else aigTx I A O ++ [10]) ++ stepsT L) := by simp [certTx]
   rw [this, List.drop_left' (by simp; omega)]
 have hT := hc.nT
 generalize hb : certTx v w B (aigTx I A O) L = b at hlen hl1 hl2 hd
 obtain ⟨i1, i2⟩ := headCe_is v
 rw [e_cert_Read, len_lst, bif_neg (by omega)]
 have s1 := (Sep0.start AH.none).push 1 7 (cs := [(AV.bool false), (.bool false), (.slice Sl.nil), (.int .i64 (0 : Int)), (.slice Sl.nil), (.slice Sl.nil), (.slice Sl.nil)]) rfl
 generalize AH.none.next = P at s1
 generalize AH.none.push 1 [(AV.bool false), (.bool false), (.slice Sl.nil), (.int .i64 (0 : Int)), (.slice Sl.nil), (.slice Sl.nil), (.slice Sl.nil)] = H at s1
 rw [tLine_run fuel (d + 8) (by omega), hl1, show tupL (headCe v, ((headCe v).length : Int) + 1, true) = .tup [.str (tx (headCe v)), .int .i64 (((headCe v).length : Int) + 1), .bool true] from rfl]
 simp only [o_bd, tup3, cond_true, comp0, comp1, comp2, str_str, int_int, bool_bool, Bool.not_true, beq_self_eq_true]
 rw [i2]
 simp only [o_bd, bool_bool, cond_false]
 rw [i1]
 have s2 := s1.push 1 7 (cs := [(AV.bool false), (.bool false), (.slice Sl.nil), (.int .i64 (0 : Int)), (.slice Sl.nil), (.slice Sl.nil), (.slice Sl.nil)]) rfl
 generalize H.next = C at s2
 generalize AH.push H 1 [(AV.bool false), (.bool false), (.slice Sl.nil), (.int .i64 (0 : Int)), (.slice Sl.nil), (.slice Sl.nil), (.slice Sl.nil)] = H2 at s2
 obtain ⟨h3, e3, s3⟩ := s2.cons.putAll (i := 0) (vs := certN v) rfl rfl rfl
 have s3' : Sep0 AH.none h3 (.own 1 C 0 7 (certN v) :: [.own 1 P 0 7 (certN false)]) := s3
 rw [e3, o_bd]
 obtain ⟨n, u, h4, e4, s4, g1, g2, g3, g4, g5⟩ : ∃ (n : Nat) (u : List AV) (h4 : AH), run fuel (d + 11) F_cert_player [.slice (lstU b), .int .i64 (((headCe v).length : Int) + 1), .ptr (.mk ⟨C, 0, 0⟩ 7)] h3 = some (.tup [.int .i64 (n : Int), .nilif], h4) ∧
     Sep0 AH.none h4 (.own 1 C 0 7 (u ++ [.slice .nil]) :: [.own 1 P 0 7 (certN false)]) ∧ u.length = 6 ∧ u.all AV.isCell = true ∧ b.drop n = stepsT L ∧ n ≤ b.length ∧ ∀ h : AH, freezeV h 7 (.agg (u ++ [.slice (lstS L)])) = some (.agg (certC v w B I A O L)) := by
   rcases hw with ⟨rfl, rfl, rfl, rfl⟩ | ⟨rfl, rfl⟩
   · have hnB := hc.nB
     have hp : playCe true B (aigTx 0 [] []) = [119, 32] ++ B.map bitT := rfl
     rw [hp] at hl2 hd
     have hk := hd _ rfl
     rw [if_pos rfl, List.nil_append] at hk
     generalize hn : (headCe v).length + 1 + ([119, 32] ++ B.map bitT).length + 1 = n at hk
     have hnb : n ≤ b.length := by rw [← hb]; simp [certTx, playCe] at hn ⊢; omega
     rw [show (((headCe v).length : Int) + 1 + ((([119, 32] ++ B.map bitT : List UInt8).length : Nat) : Int) + 1) = (n : Int) by omega] at hl2
     obtain ⟨h4, e4, s4⟩ := player_w fuel (d + 2) (by omega) s3' (by omega) (by omega) hl2
     exact ⟨n, [.bool v, .bool true, .slice (lstB B), .int .i64 0, .slice .nil, .slice .nil], h4, e4, s4, rfl, rfl, hk, hnb, fun h => freeze_agg 6 (mm7 rfl rfl (freeze_lstB 5 B) rfl rfl rfl (freeze_lstS 5 L))⟩
   · have hp : playCe false [] (aigTx I A O) = [102, 32] ++ decT ((aigTx I A O).length : Int) := rfl
     rw [hp] at hl2 hd
     have hk := hd _ rfl
     rw [if_neg (by simp)] at hk
     generalize hn : (headCe v).length + 1 + ([102, 32] ++ decT ((aigTx I A O).length : Int)).length + 1 = n at hk
     rw [show (((headCe v).length : Int) + 1 + ((([102, 32] ++ decT ((aigTx I A O).length : Int) : List UInt8).length : Nat) : Int) + 1) = (n : Int) by omega] at hl2
     have hk1 : b.drop n = aigTx I A O ++ 10 :: stepsT L := by rw [hk]; simp
     have hnb : n + (aigTx I A O).length + 1 ≤ b.length := by
       have : (b.drop n).length = (aigTx I A O).length + 1 + (stepsT L).length := by rw [hk1]; simp; omega
       rw [List.length_drop] at this
       omega
     obtain ⟨h4, e4, s4⟩ := player_f fuel (d + 1) (by omega) s3' (by omega) hc.ci hk1 hl2 (by omega)
     refine ⟨n + (aigTx I A O).length + 1, [.bool v, .bool false, .slice .nil, .int .i64 I, .slice (lstP A), .slice (lstI O)], h4, ?_, s4, rfl, rfl, ?_, hnb, fun h => freeze_agg 6 (mm7 rfl rfl rfl rfl (freeze_lstP 5 A) (freeze_lstI 5 O) (freeze_lstS 5 L))⟩
     · rw [e4, show ((n + (aigTx I A O).length + 1 : Nat) : Int) = (n : Int) + ((aigTx I A O).length : Int) + 1 by omega]
     · rw [show n + (aigTx I A O).length + 1 = n + ((aigTx I A O).length + 1) by omega, ← List.drop_drop, hk1, show aigTx I A O ++ 10 :: stepsT L = (aigTx I A O ++ [10]) ++ stepsT L by simp, List.drop_left' (by simp)]
 rw [e4]
 have hcut : (b.drop n).take (b.length - n) = stepsT L := by rw [List.take_of_length_le (by simp), g3]
 have hst := stepsT_len hc.num
 have hnL := hc.nL
 simp only [o_bd, tup2, cond_true, comp0, comp1, int_int, nilTest_nilif, Bool.not_true, cond_false]
 rw [aHi_none, o_bd, aLo_some (by omega) (by omega), o_bd, aMx_none, o_bd, hasSz_lstM, cond_true, Int.toNat_natCast, cut_lstU b (by omega), hcut, read_run fuel (d + 7) (by omega) (by omega), readA_text fun s hs => (hc.sL s hs).2]
 obtain ⟨h5, e5, s5⟩ := s4.put (i := 0) (o := 6) (l := 7) (vs := [.slice (lstS L)]) rfl (by simp) (by simp [g1])
 have e5' : h4.storeAt [.slice (lstS L)] (.mk ⟨C, 0, 0 + 6⟩ 7) = some h5 := e5
 have hset : (u ++ [AV.slice .nil]).take 6 ++ [.slice (lstS L)] ++ (u ++ [AV.slice .nil]).drop (6 + [AV.slice (lstS L)].length) = u ++ [.slice (lstS L)] := by
   rw [List.take_left' g1, List.drop_eq_nil_of_le (by simp [g1]), List.append_nil]
 rw [hset] at s5
 have c5 := s5.getAll (i := 0) rfl (by simp [g1])
 simp only [rdA, o_bd, tup2, cond_true, comp0, comp1, slice_slice, field_mk, e5', nilTest_nilif, Bool.not_true, cond_false, c5]
 have ok : (!false && Nat.beq (List.length (u ++ [AV.slice (lstS L)])) 7 && List.all (u ++ [AV.slice (lstS L)]) AV.isCell) = true := by rw [List.length_append, g1, List.all_append, g2]; rfl
 rw [cond_pos _ _ ok]
 obtain ⟨h6, e6, s6⟩ := s5.putAll (i := 1) (vs := u ++ [AV.slice (lstS L)]) rfl rfl (by simp [g1])
 rw [e6]
 have c6 := s6.getAll (i := 1) rfl (by simp [g1])
 simp only [o_bd, c6, Option.map_some]
 exact ⟨_, _, rfl, freeze_tup2 _ (g5 h6) rfl⟩
theorem cread_run (fuel d : Nat) (hf : 400000 < fuel) {v w : Bool} {B : List Bool} {I : Nat} {A : List (Int × Int)} {O : List Int} {L : List Stp} (hc : CeOk w B I A O L) (hw : CeForm w B I A O) (h : AH) :
   run fuel (d + 12) F_cert_Read [.slice (lstU (certTx v w B (aigTx I A O) L))] h = some (.tup [.agg (certC v w B I A O L), .nilif], h) := by
 obtain ⟨r, h', e1, e2⟩ := cread_body fuel d hf (v := v) hc hw
 exact pure_of rfl rfl (cc1 (canon_lstU 7 _)) e1 e2
end Go.Proofs.YtjagkijfngokaaaGreatDoor
namespace Go.Proofs.YtjagkijfngokaaaGreatDoor
open Go.RowKit
theorem sameStep_run (fuel d : Nat) {s : Stp} (hl : s.2.length < 1000000000) (hf : s.2.length < fuel) (h : AH) : run fuel (d + 2) F_skolemref_SameStep [.agg (stepC s), .agg (stepC s)] h = some (.bool true, h) := by
 have hc : canonV 8 (.agg (stepC s)) = some (.agg (stepC s)) := by
   unfold stepC
   rw [canon_agg, canonM_cons (u := .bool s.1) rfl (canonM_cons (u := .slice (lstI s.2)) (canon_lstI _ _) (canonM_nil _))]
   rfl
 refine pure_of rfl rfl (cc2 hc hc) (r := .bool true) ?_ rfl (h' := (AH.none.push 1 (stepC s)).push 1 (stepC s))
 rw [e_skolemref_SameStep, show List.all (stepC s) AV.isCell = true from rfl, cond_true, cond_true, stepC_len]
 have s1 := ((Sep0.start AH.none).push 1 2 (cs := stepC s) rfl).push 1 2 (cs := stepC s) rfl
 have a0 : ((AH.none.push 1 (stepC s)).push 1 (stepC s)).cell (.mk ⟨AH.none.next, 0, 0 + 0⟩ 2) = some (.bool s.1) := s1.part (i := 0) rfl (by omega) rfl
 have a1 : ((AH.none.push 1 (stepC s)).push 1 (stepC s)).cell (.mk ⟨AH.none.next, 0, 0 + 1⟩ 2) = some (.slice (lstI s.2)) := s1.part (i := 0) rfl (by omega) rfl
 have b0 : ((AH.none.push 1 (stepC s)).push 1 (stepC s)).cell (.mk ⟨(AH.none.push 1 (stepC s)).next, 0, 0 + 0⟩ 2) = some (.bool s.1) := s1.part (i := 1) rfl (by omega) rfl
 have b1 : ((AH.none.push 1 (stepC s)).push 1 (stepC s)).cell (.mk ⟨(AH.none.push 1 (stepC s)).next, 0, 0 + 1⟩ 2) = some (.slice (lstI s.2)) := s1.part (i := 1) rfl (by omega) rfl
 simp only [field_mk, o_bd, a0, a1, b0, b1, bool_bool, slice_slice]
 rw [show (s.1 == s.1) = true from by cases s.1 <;> rfl]
 simp only [beq_self_eq_true, cond_true]
 rw [sameI_run fuel d (freeze_lstI 7 _) (freeze_lstI 7 _) hl hf]
 simp only [o_bd, bool_bool, decide_true]
theorem sameSteps_loop (fuel d : Nat) {l : List Stp} (hl : l.length < 1000000000) (hs : ∀ s ∈ l, s.2.length < 1000000000 ∧ s.2.length < fuel) (h : AH) : ∀ (n k : Nat), l.length < n + k → k ≤ l.length →
   l_skolemref_SameSteps_0 fuel (d + 2) n [(0, .slice (lstS l)), (1, .slice (lstS l)), (5, .int .i64 (k : Int))] h = some (.exit 0, [(4, .bot)], h) := by
 intro n
 induction n with
 | zero => intro k h1 h2; omega
 | succ n ih =>
   intro k h1 h2
   rw [l_skolemref_SameSteps_0_eq, len_lst]
   by_cases hk : k < l.length
   · obtain ⟨q1, q2⟩ := hs (l.getD k (false, [])) (by simp [List.getD, hk])
     rw [bif_pos (by omega), addr_lstN (sz := 2) (f := stepC) stepC_len (l := l) (j := (k : Int)) (by omega) (by omega) (false, []), Int.toNat_natCast]
     generalize l.getD k (false, []) = s at q1 q2
     simp only [o_bd]
     rw [cellsAt_fp (stepC_len s)]
     simp only [o_bd]
     rw [sameStep_run fuel d q1 q2]
     simp only [o_bd, bool_bool, Bool.not_true, cond_false]
     rw [sucS (by omega)]
     exact ih (k + 1) (by omega) (by omega)
   · rw [bif_neg (by omega)]
theorem sameSteps_run (fuel d : Nat) {l : List Stp} (hl : l.length < 1000000000) (hlf : l.length < fuel) (hs : ∀ s ∈ l, s.2.length < 1000000000 ∧ s.2.length < fuel) (h : AH) : run fuel (d + 3) F_skolemref_SameSteps [.slice (lstS l), .slice (lstS l)] h = some (.bool true, h) := by
 refine pure_of rfl rfl (cc2 (canon_lstS 7 l) (canon_lstS 7 l)) (r := .bool true) (h' := AH.none) ?_ rfl
 rw [e_skolemref_SameSteps, len_lst, bif_npos rfl]
 have := sameSteps_loop fuel d hl hs AH.none fuel 0 (by omega) (by omega)
 rw [show ((0 : Nat) : Int) = 0 from rfl] at this
 rw [this]
 simp only [o_bd, k_skolemref_SameSteps_0_x0]
end Go.Proofs.YtjagkijfngokaaaGreatDoor
namespace Go.Proofs.YtjagkijfngokaaaGreatDoor
open Go.RowKit
theorem sameU_loop (fuel d : Nat) {b : List UInt8} (hn : b.length < 1000000000) {h : AH} : ∀ (n k : Nat), b.length < n + k → k ≤ b.length →
   l_skolemref_SameBytes_0 fuel d n [(0, .slice (lstU b)), (1, .slice (lstU b)), (5, .int .i64 (k : Int))] h = some (.exit 0, [(4, .bot)], h) := by
 intro n
 induction n with
 | zero => intro k h1 h2; omega
 | succ n ih =>
   intro k h1 h2
   rw [l_skolemref_SameBytes_0_eq, len_lst]
   by_cases hk : k < b.length
   · rw [bif_pos (by omega), addr_lstM _ (by omega) (by omega) 0]
     simp only [o_bd, cell_fp, int_int, decide_true, Bool.not_true, cond_false]
     rw [sucS (by omega)]
     exact ih (k + 1) (by omega) (by omega)
   · rw [bif_neg (by omega)]
theorem sameU_run (fuel d : Nat) {b : List UInt8} (hn : b.length < 1000000000) (hf : b.length < fuel) (h : AH) : run fuel (d + 1) F_skolemref_SameBytes [.slice (lstU b), .slice (lstU b)] h = some (.bool true, h) := by
 refine pure_of rfl rfl (cc2 (canon_lstU 7 b) (canon_lstU 7 b)) (r := .bool true) (h' := AH.none) ?_ rfl
 rw [e_skolemref_SameBytes, len_lst, bif_npos rfl]
 have := sameU_loop fuel d hn (h := AH.none) fuel 0 (by omega) (by omega)
 rw [show ((0 : Nat) : Int) = 0 from rfl] at this
 rw [this]
 simp only [o_bd, k_skolemref_SameBytes_0_x0]
end Go.Proofs.YtjagkijfngokaaaGreatDoor
namespace Go.Proofs.YtjagkijfngokaaaGreatDoor
open Go.RowKit
theorem one_run (fuel d : Nat) (b : Bool) (h : AH) : run fuel (d + 1) F_skolemref23_one [.bool b] h = some (.int .i64 (if b = true then 1 else 0), h) := by
 refine pure_of rfl rfl (cc1 rfl) (r := .int .i64 (if b = true then 1 else 0)) (h' := AH.none) ?_ rfl
 rw [e_skolemref23_one]
 cases b <;> rfl
theorem grow_at {h0 h : AH} {L : List Chunk} {s : Sl} {T u : List UInt8} {j : Nat} (hs : Sep0 h0 h L) (hj : L[j]? = some (.grown 1 s (bytesC T))) (hT : T.length + u.length < 1000000000) {m : Nat} (hm : m = u.length) :
   ∃ s' h', AH.append h false 1 1 s m (bytesC u) = some (s', h') ∧ Sep0 h0 h' (L.set j (.grown 1 s' (bytesC (T ++ u)))) := by
 subst hm
 have hl := hs.len hj
 simp only [List.length_map, Nat.mul_one] at hl
 obtain ⟨s', h', e1, s1, _⟩ := hs.grow (bytes := 1) (m := u.length) (vs := bytesC u) hj (by simp) (by omega) (by omega)
 rw [← bytesC_app] at s1
 exact ⟨s', h', e1, s1⟩
section
variable (fuel d : Nat) {h0 : AH} {X : Nat} {B : List Bool} {L : List Stp}
theorem rcb_loop (k2 : h0.cell (.mk ⟨X, 0, 0 + 2⟩ 7) = some (.slice (lstB B))) (hB : B.length < 1000000) : ∀ (n k : Nat) (t : List UInt8) (s : Sl) (h : AH), B.length < n + k → k ≤ B.length → t.length + (B.length - k) < 2000000 → Sep0 h0 h [.grown 1 s (bytesC t)] →
   ∃ s' h', l_skolemref23_CertBytes_0 fuel (d + 1) n [(1, .ptr (.mk ⟨X, 0, 0⟩ 7)), (3, .slice s), (4, .int .i64 (k : Int))] h = some (.exit 0, [(1, .ptr (.mk ⟨X, 0, 0⟩ 7)), (3, .slice s')], h') ∧ Sep0 h0 h' [.grown 1 s' (bytesC (t ++ (B.drop k).map bitT))] := by
 intro n
 induction n with
 | zero => intro k t s h h1 h2; omega
 | succ n ih =>
   intro k t s h h1 h2 h3 hs
   rw [l_skolemref23_CertBytes_0_eq]
   have c2 : h.cell (.mk ⟨X, 0, 0 + 2⟩ 7) = some (.slice (lstB B)) := hs.still.cell _ _ k2
   simp only [field_mk, o_bd, c2, slice_slice]
   rw [len_lst]
   by_cases hk : k < B.length
   · have hd : B.drop k = B.getD k false :: B.drop (k + 1) := by rw [List.drop_eq_getElem_cons hk]; simp [List.getD, hk]
     rw [bif_pos (by omega), addr_lstM _ (by omega) (by omega) false, hd, List.map_cons, Int.toNat_natCast]
     generalize B.getD k false = x
     simp only [o_bd, cell_fp, bool_bool]
     rw [one_run]
     simp only [o_bd, int_int]
     have hx : (AV.int .u8 (IntKind.wrap .u8 (IntKind.wrap .i64 ((48 : Int) + (if x = true then 1 else 0))))) = .int .u8 ((bitT x).toNat : Int) := by cases x <;> rfl
     obtain ⟨s1, h4, e4, s4⟩ := grow_at hs (j := 0) (u := [bitT x]) rfl (by simp; omega) (m := 1) rfl
     rw [hx, show [AV.int .u8 ((bitT x).toNat : Int)] = bytesC [bitT x] from rfl, e4, o_bd, sucU (by omega)]
     obtain ⟨s2, h5, e5, s5⟩ := ih (k + 1) (t ++ [bitT x]) s1 h4 (by omega) (by omega) (by simp; omega) s4
     refine ⟨s2, h5, e5, ?_⟩
     rw [show t ++ bitT x :: (B.drop (k + 1)).map bitT = t ++ [bitT x] ++ (B.drop (k + 1)).map bitT by simp]
     exact s5
   · have : k = B.length := by omega
     subst this
     rw [bif_neg (by omega), List.drop_length, List.map_nil, List.append_nil]
     exact ⟨s, h, rfl, hs⟩
theorem rcb_tail (k6 : h0.cell (.mk ⟨X, 0, 0 + 6⟩ 7) = some (.slice (lstS L))) (hf : 20000 < fuel) (hL : L.length ≤ 30) (hn : ∀ s ∈ L, s.2.length ≤ 30 ∧ ∀ x ∈ s.2, Num64 x) {t : List UInt8} (ht : t.length < 1000000) {s : Sl} {h : AH} (hs : Sep0 h0 h [.grown 1 s (bytesC t)]) :
   ∃ r h', k_skolemref23_CertBytes_2 fuel (d + 8) .normal [(1, .ptr (.mk ⟨X, 0, 0⟩ 7)), (3, .slice s)] h = some (r, h') ∧ freezeV h' 8 r = some (.slice (lstU (t ++ 10 :: stepsT L))) := by
 have hlen := stepsT_len (L := L) hn
 rw [k_skolemref23_CertBytes_2_n]
 rw [show [(AV.int .u8 (10 : Int))] = bytesC [10] from rfl, lit_cells h [10] (n := 1) rfl, o_bd, Sl.len]
 have sj := hs.junk (cs := bytesC [10])
 obtain ⟨s1, h1, e1, q1⟩ := grow_at sj (j := 0) (u := [10]) rfl (by simp; omega) (m := 1) rfl
 have q1' : Sep0 h0 h1 [.grown 1 s1 (bytesC (t ++ [10]))] := q1
 have c6 : h1.cell (.mk ⟨X, 0, 0 + 6⟩ 7) = some (.slice (lstS L)) := q1'.still.cell _ _ k6
 have c6a : (h.push 1 (bytesC [10])).cell (.mk ⟨X, 0, 0 + 6⟩ 7) = some (.slice (lstS L)) := sj.still.cell _ _ k6
 have c6b : h.cell (.mk ⟨X, 0, 0 + 6⟩ 7) = some (.slice (lstS L)) := hs.still.cell _ _ k6
 rw [e1]
 simp only [field_mk, o_bd, c6, c6a, c6b, slice_slice, same_self]
 rw [rpb_run fuel (d + 7) (by omega) (by omega) (fun s hs => ⟨by have := (hn s hs).1; omega, by have := (hn s hs).1; omega, fun x hx => ((hn s hs).2 x hx).app fuel (d + 2) (by omega)⟩)]
 simp only [o_bd, slice_slice]
 rw [cells_lstM, o_bd]
 obtain ⟨s2, h2, e2, q2⟩ := grow_at q1' (j := 0) (u := stepsT L) rfl (by simp; omega) rfl
 rw [len_lst, show List.map (fun b : UInt8 => AV.int .u8 (b.toNat : Int)) (stepsT L) = bytesC (stepsT L) from rfl, e2]
 simp only [o_bd]
 refine ⟨_, _, rfl, ?_⟩
 have q2' : Sep0 h0 h2 [.grown 1 s2 (bytesC (t ++ [10] ++ stepsT L))] := q2
 have hl := q2'.len (i := 0) rfl
 simp only [List.length_map, Nat.mul_one] at hl
 rw [(q2'.sep.grown (i := 0) rfl).freeze (n := 7) (by omega) (freeze_bytesC 6 _), ← hl]
 rw [show t ++ 10 :: stepsT L = t ++ [10] ++ stepsT L by simp]
end
theorem certHead_run {h0 h : AH} (hs : Sep0 h0 h []) (u : List UInt8) (hu : u.length ≠ 0) (n : Nat) (hn : n = u.length) :
   AH.ownAt (h.push 1 (bytesC u)) h.next = true ∧ Sep0 h0 (h.push 1 (bytesC u)) [.grown 1 (.mk ⟨h.next, 0, 0⟩ n true) (bytesC u)] := by
 subst hn
 refine ⟨?_, ((hs.push 1 u.length (cs := bytesC u) (by simp)).toGrown true hu).cons⟩
 unfold AH.ownAt AH.push AH.next
 simp
theorem rcbytes_body (fuel d : Nat) (hf : 200000 < fuel) {v w : Bool} {B : List Bool} {I : Nat} {A : List (Int × Int)} {O : List Int} {L : List Stp} (hc : CeOk w B I A O L) :
   ∃ r h', brun fuel (d + 9) F_skolemref23_CertBytes [.agg (certC v w B I A O L)] AH.none = some (r, h') ∧ freezeV h' 8 r = some (.slice (lstU (certTx v w B (aigTx I A O) L))) := by
 have hnB := hc.nB
 have hnT := hc.nT
 rw [e_skolemref23_CertBytes, show List.all (certC v w B I A O L) AV.isCell = true from rfl, cond_true, show (certC v w B I A O L).length = 7 from rfl]
 have s1 := (Sep0.start AH.none).push 1 7 (cs := certC v w B I A O L) rfl
 generalize AH.none.next = X at s1
 generalize AH.none.push 1 (certC v w B I A O L) = H1 at s1
 have k0 : H1.cell (.mk ⟨X, 0, 0 + 0⟩ 7) = some (.bool v) := s1.part (i := 0) rfl (by omega) rfl
 have k1 : H1.cell (.mk ⟨X, 0, 0 + 1⟩ 7) = some (.bool w) := s1.part (i := 0) rfl (by omega) rfl
 have k2 : H1.cell (.mk ⟨X, 0, 0 + 2⟩ 7) = some (.slice (lstB B)) := s1.part (i := 0) rfl (by omega) rfl
 have k3 : H1.cellsAt 3 (.mk ⟨X, 0, 0 + 3⟩ 7) = some (circC I A O) := s1.getPart (i := 0) (o := 3) (k := 3) rfl (by omega) (by simp)
 have k6 : H1.cell (.mk ⟨X, 0, 0 + 6⟩ 7) = some (.slice (lstS L)) := s1.part (i := 0) rfl (by omega) rfl
 rw [show [(AV.int .u8 (115 : Int)), (.int .u8 (32 : Int)), (.int .u8 (102 : Int)), (.int .u8 (97 : Int)), (.int .u8 (108 : Int)), (.int .u8 (115 : Int)), (.int .u8 (101 : Int)), (.int .u8 (10 : Int))] = bytesC [115, 32, 102, 97, 108, 115, 101, 10] from rfl,
   show [(AV.int .u8 (115 : Int)), (.int .u8 (32 : Int)), (.int .u8 (116 : Int)), (.int .u8 (114 : Int)), (.int .u8 (117 : Int)), (.int .u8 (101 : Int)), (.int .u8 (10 : Int))] = bytesC [115, 32, 116, 114, 117, 101, 10] from rfl]
 obtain ⟨o2, s2⟩ := certHead_run (Sep0.start H1) [115, 32, 102, 97, 108, 115, 101, 10] (by decide) 8 rfl
 rw [o2, cond_true]
 have c0 : (H1.push 1 (bytesC [115, 32, 102, 97, 108, 115, 101, 10])).cell (.mk ⟨X, 0, 0 + 0⟩ 7) = some (.bool v) := s2.still.cell _ _ k0
 simp only [field_mk, o_bd, c0, bool_bool]
 obtain ⟨s, h3, e3, s3⟩ : ∃ s h3, (bif v then ((bif (AH.ownAt (AH.push (AH.push H1 1 (bytesC [115, 32, 102, 97, 108, 115, 101, 10])) 1 (bytesC [115, 32, 116, 114, 117, 101, 10])) (AH.next (AH.push H1 1 (bytesC [115, 32, 102, 97, 108, 115, 101, 10])))) then (some (AExit.normal, [(1, (AV.ptr (Pt.mk ⟨X, 0, 0⟩ 7))), (3, (AV.slice (Sl.mk ⟨AH.next (AH.push H1 1 (bytesC [115, 32, 102, 97, 108, 115, 101, 10])), 0, 0⟩ 7 true)))], (AH.push (AH.push H1 1 (bytesC [115, 32, 102, 97, 108, 115, 101, 10])) 1 (bytesC [115, 32, 116, 114, 117, 101, 10])))) else (none)))
     else (some (AExit.normal, [(1, (AV.ptr (Pt.mk ⟨X, 0, 0⟩ 7))), (3, (AV.slice (Sl.mk ⟨AH.next H1, 0, 0⟩ 8 true)))], (AH.push H1 1 (bytesC [115, 32, 102, 97, 108, 115, 101, 10]))))) = some (AExit.normal, [(1, (AV.ptr (Pt.mk ⟨X, 0, 0⟩ 7))), (3, (AV.slice s))], h3) ∧ Sep0 H1 h3 [.grown 1 s (bytesC (headCe v ++ [10]))] := by
   cases v with
   | true =>
     obtain ⟨o3, s3⟩ := certHead_run s2.tail [115, 32, 116, 114, 117, 101, 10] (by decide) 7 rfl
     rw [o3]
     exact ⟨_, _, rfl, s3⟩
   | false => exact ⟨_, _, rfl, s2⟩
 rw [e3]
 have hh : (headCe v).length ≤ 7 := by have := boolT_le v; simp [headCe]; omega
 have c1 : h3.cell (.mk ⟨X, 0, 0 + 1⟩ 7) = some (.bool w) := s3.still.cell _ _ k1
 simp only [o_bd, k_skolemref23_CertBytes_0_n, field_mk, c1, bool_bool]
 cases w with
 | true =>
   simp only [cond_true]
   rw [show [(AV.int .u8 (119 : Int)), (.int .u8 (32 : Int))] = bytesC [119, 32] from rfl, lit_cells h3 [119, 32] (n := 2) rfl, o_bd, Sl.len]
   obtain ⟨s4, h4, e4, q4⟩ := grow_at (s3.junk (cs := bytesC [119, 32])) (j := 0) (u := [119, 32]) rfl (by simp; omega) (m := 2) rfl
   rw [e4, o_bd]
   obtain ⟨s5, h5, e5, q5⟩ := rcb_loop fuel (d + 7) (X := X) (B := B) k2 (by omega) fuel 0 _ s4 h4 (by omega) (by omega) (by simp; omega) q4
   rw [List.drop_zero] at q5
   rw [show (0 : Int) = ((0 : Nat) : Int) from rfl, e5]
   simp only [o_bd, k_skolemref23_CertBytes_1_x0]
   obtain ⟨r, h6, e6, f6⟩ := rcb_tail fuel d k6 (by omega) hc.nL hc.num (by simp; omega) q5
   refine ⟨r, h6, e6, ?_⟩
   rw [f6]
   simp [certTx, playCe]
 | false =>
   simp only [cond_false]
   have c3 : h3.cellsAt 3 (.mk ⟨X, 0, 0 + 3⟩ 7) = some (circC I A O) := s3.still.at_ _ _ _ k3
   have hdl := decT_le (x := ((aigTx I A O).length : Int)) (by omega) (by omega)
   simp only [c3, o_bd]
   rw [rgbytes_run fuel (d + 1) (by omega) hc.ci]
   simp only [o_bd, slice_slice]
   generalize aigTx I A O = T at hnT hdl
   rw [show [(AV.int .u8 (102 : Int)), (.int .u8 (32 : Int))] = bytesC [102, 32] from rfl, lit_cells h3 [102, 32] (n := 2) rfl, o_bd, Sl.len]
   obtain ⟨s4, h4, e4, q4⟩ := grow_at (s3.junk (cs := bytesC [102, 32])) (j := 0) (u := [102, 32]) rfl (by simp; omega) (m := 2) rfl
   have q4' : Sep0 H1 h4 [.grown 1 s4 (bytesC (headCe v ++ [10] ++ [102, 32]))] := q4
   rw [e4, o_bd, len_lst]
   obtain ⟨s5, h5, e5, q5, _⟩ := app_ok fuel (d + 3) (by omega) (x := (T.length : Int)) (by omega) (by omega) H1 h4 s4 _ (by simp; omega) q4'
   rw [e5]
   simp only [o_bd, slice_slice]
   rw [show [(AV.int .u8 (10 : Int))] = bytesC [10] from rfl, lit_cells h5 [10] (n := 1) rfl, o_bd, Sl.len]
   obtain ⟨s6, h6, e6, q6⟩ := grow_at (q5.junk (cs := bytesC [10])) (j := 0) (u := [10]) rfl (by simp; omega) (m := 1) rfl
   have q6' : Sep0 H1 h6 [.grown 1 s6 (bytesC (headCe v ++ [10] ++ [102, 32] ++ decT (T.length : Int) ++ [10]))] := q6
   rw [e6, o_bd, cells_lstM, o_bd]
   obtain ⟨s7, h7, e7, q7⟩ := grow_at q6' (j := 0) (u := T) rfl (by simp; omega) rfl
   rw [show List.map (fun b : UInt8 => AV.int .u8 (b.toNat : Int)) T = bytesC T from rfl, e7]
   simp only [o_bd]
   obtain ⟨r, h8, e8, f8⟩ := rcb_tail fuel d k6 (by omega) hc.nL hc.num (by simp; omega) q7
   refine ⟨r, h8, e8, ?_⟩
   rw [f8]
   simp [certTx, playCe]
theorem sameCe_run (fuel d : Nat) (hf : 100000 < fuel) {v w : Bool} {B : List Bool} {I : Int} {A : List (Int × Int)} {O : List Int} {L : List Stp} (hB : B.length ≤ 100) (hA : A.length ≤ 8000) (hO : O.length ≤ 8000) (hL : L.length ≤ 30) (hl : ∀ s ∈ L, s.2.length ≤ 30) {cs : List AV} (hcs : canonV 8 (.agg cs) = some (.agg (certC v w B I A O L))) (h : AH) :
   run fuel (d + 5) F_skolemref_SameCert [.agg (certC v w B I A O L), .agg cs] h = some (.bool true, h) := by
 refine pure_ex rfl rfl (cc2 (canon_cert v w B I A O L) hcs) (r := .bool true) ?_ (fun _ => rfl)
 rw [e_skolemref_SameCert, show List.all (certC v w B I A O L) AV.isCell = true from rfl, cond_true, cond_true, show (certC v w B I A O L).length = 7 from rfl]
 have s1 := ((Sep0.start AH.none).push 1 7 (cs := certC v w B I A O L) rfl).push 1 7 (cs := certC v w B I A O L) rfl
 generalize AH.none.next = P at s1
 generalize (AH.none.push 1 (certC v w B I A O L)).next = R at s1
 generalize (AH.none.push 1 (certC v w B I A O L)).push 1 (certC v w B I A O L) = H at s1
 have a0 : H.cell (.mk ⟨P, 0, 0 + 0⟩ 7) = some (.bool v) := s1.part (i := 0) rfl (by omega) rfl
 have a1 : H.cell (.mk ⟨P, 0, 0 + 1⟩ 7) = some (.bool w) := s1.part (i := 0) rfl (by omega) rfl
 have a2 : H.cell (.mk ⟨P, 0, 0 + 2⟩ 7) = some (.slice (lstB B)) := s1.part (i := 0) rfl (by omega) rfl
 have a3 : H.cellsAt 3 (.mk ⟨P, 0, 0 + 3⟩ 7) = some (circC I A O) := s1.getPart (i := 0) (o := 3) (k := 3) rfl (by omega) (by simp)
 have a6 : H.cell (.mk ⟨P, 0, 0 + 6⟩ 7) = some (.slice (lstS L)) := s1.part (i := 0) rfl (by omega) rfl
 have b0 : H.cell (.mk ⟨R, 0, 0 + 0⟩ 7) = some (.bool v) := s1.part (i := 1) rfl (by omega) rfl
 have b1 : H.cell (.mk ⟨R, 0, 0 + 1⟩ 7) = some (.bool w) := s1.part (i := 1) rfl (by omega) rfl
 have b2 : H.cell (.mk ⟨R, 0, 0 + 2⟩ 7) = some (.slice (lstB B)) := s1.part (i := 1) rfl (by omega) rfl
 have b3 : H.cellsAt 3 (.mk ⟨R, 0, 0 + 3⟩ 7) = some (circC I A O) := s1.getPart (i := 1) (o := 3) (k := 3) rfl (by omega) (by simp)
 have b6 : H.cell (.mk ⟨R, 0, 0 + 6⟩ 7) = some (.slice (lstS L)) := s1.part (i := 1) rfl (by omega) rfl
 simp only [field_mk, o_bd, a0, b0, bool_bool, a1, b1, show (v == v) = true from by simp, show (w == w) = true from by simp, beq_self_eq_true, cond_true, a2, b2, slice_slice]
 rw [sameB_run fuel (d + 3) (by omega) (by omega)]
 simp only [o_bd, bool_bool, beq_self_eq_true, cond_true, a3, b3]
 rw [sameCi_self fuel (d + 2) (by omega) (by omega) (by omega) (by omega)]
 simp only [o_bd, bool_bool, beq_self_eq_true, cond_true, a6, b6, slice_slice]
 rw [sameSteps_run fuel (d + 1) (by omega) (by omega) (fun s hs => by have := hl s hs; omega)]
 exact ⟨_, rfl⟩
end Go.Proofs.YtjagkijfngokaaaGreatDoor
namespace Go.Proofs.YtjagkijfngokaaaGreatDoor
open Go.RowKit
section
variable (fuel d : Nat) {v w : Bool} {B : List Bool} {I : Nat} {A : List (Int × Int)} {O : List Int} {L : List Stp}
theorem cbytes_of (hf : 200000 < fuel) (hc : CeOk w B I A O L) {cs : List AV} (hcs : canonV 8 (.agg cs) = some (.agg (certC v w B I A O L))) (h : AH) : run fuel (d + 9) F_cert_Bytes [.agg cs] h = some (.slice (lstU (certTx v w B (aigTx I A O) L)), h) := by
 obtain ⟨r, h', e1, e2⟩ := cbytes_body fuel d hf (v := v) hc
 exact pure_of rfl rfl (cc1 hcs) e1 e2
theorem rcbytes_of (hf : 200000 < fuel) (hc : CeOk w B I A O L) {cs : List AV} (hcs : canonV 8 (.agg cs) = some (.agg (certC v w B I A O L))) (h : AH) : run fuel (d + 9) F_skolemref23_CertBytes [.agg cs] h = some (.slice (lstU (certTx v w B (aigTx I A O) L)), h) := by
 obtain ⟨r, h', e1, e2⟩ := rcbytes_body fuel d hf (v := v) hc
 exact pure_of rfl rfl (cc1 hcs) e1 e2
end
theorem lit_right {x : Int} (h : (!(decide (x = 0) || decide ((4000 : Int) < x) || decide (x < -4000))) = true) : LitOk 4000 x := by
 simp only [Bool.not_eq_true', Bool.or_eq_false_iff, decide_eq_false_iff_not] at h
 obtain ⟨⟨h0, h1⟩, h2⟩ := h
 have hI : isI x 4000 = true := by
   unfold isI
   rw [wrap64 (by omega) (by omega), decide_eq_false h0, decide_eq_true (show 0 - 4000 ≤ x by omega), decide_eq_true (show x ≤ 4000 by omega)]
   rfl
 exact ⟨h0, hI, by omega, by omega⟩
theorem light_facts {B : List Bool} {i : Int} {P : List (Int × Int)} {O : List Int} {L : List Stp} (h : lightI B i P O L = true) : B.length ≤ 40 ∧ P.length ≤ 60 ∧ O.length ≤ 30 ∧ L.length ≤ 30 ∧ i ≤ 60 ∧ ∀ s ∈ L, s.2.length ≤ 30 ∧ ∀ x ∈ s.2, LitOk 4000 x := by
 unfold lightI at h
 simp only [Bool.and_eq_true, Bool.not_eq_true', Bool.or_eq_false_iff, decide_eq_false_iff_not] at h
 obtain ⟨⟨⟨⟨⟨h1, h2⟩, h3⟩, h4⟩, h5⟩, h6⟩ := h
 refine ⟨by omega, by omega, by omega, by omega, by omega, fun s hs => ?_⟩
 have := List.all_eq_true.1 h6 s hs
 unfold lightS at this
 simp only [Bool.not_eq_true', Bool.or_eq_false_iff, decide_eq_false_iff_not, Bool.not_eq_false'] at this
 exact ⟨by omega, fun x hx => lit_right (List.all_eq_true.1 this.2 x hx)⟩
theorem certBack_tail (F d : Nat) (hF : 2 ^ 21 ≤ F) {v w : Bool} {B : List Bool} {I : Nat} {A : List (Int × Int)} {O : List Int} {L : List Stp} (hc : CeOk w B I A O L) (hw : CeForm w B I A O) (hA : A.length ≤ 8000) (hO : O.length ≤ 8000) {X : Nat} {cs : List AV} (hl : cs.length = 7) (hcs : canonV 8 (.agg cs) = some (.agg (certC v w B I A O L)))
   {h0 h : AH} (hs : Sep0 h0 h [.own 1 X 0 7 cs]) : ∃ h', k_skolemlaw26_CertBack_0 F (d + 59) .normal [(1, .ptr (.mk ⟨X, 0, 0⟩ 7)), (3, .bool true)] h = some (.bool true, h') := by
 have c1 : h.cellsAt 7 (.mk ⟨X, 0, 0⟩ 7) = some cs := hs.getAll (i := 0) rfl hl
 have hlen := certTx_len (v := v) hc
 rw [k_skolemlaw26_CertBack_0_n, c1, o_bd, cbytes_of F (d + 50) (by omega) hc hcs]
 simp only [o_bd, slice_slice]
 rw [cread_run F (d + 47) (by omega) hc hw]
 simp only [o_bd, tup2, cond_true, comp0, comp1, agg_agg]
 rw [cond_pos _ _ (okCert v w B I A O L)]
 obtain ⟨h8, e8, s8⟩ := (hs.push 1 7 (cs := [(AV.bool false), (.bool false), (.slice Sl.nil), (.int .i64 (0 : Int)), (.slice Sl.nil), (.slice Sl.nil), (.slice Sl.nil)]) rfl).putAll (i := 1) (vs := certC v w B I A O L) rfl rfl rfl
 have c8 : h8.cellsAt 7 (.mk ⟨X, 0, 0⟩ 7) = some cs := s8.getAll (i := 0) rfl hl
 have c9 : h8.cellsAt 7 (.mk ⟨h.next, 0, 0⟩ 7) = some (certC v w B I A O L) := s8.getAll (i := 1) rfl rfl
 rw [e8]
 simp only [o_bd, beq_self_eq_true, cond_true, c8]
 rw [rcbytes_of F (d + 50) (by omega) hc hcs]
 simp only [o_bd, slice_slice]
 rw [sameU_run F (d + 58) (by omega) (by omega)]
 simp only [o_bd, bool_bool, beq_self_eq_true, cond_true, nilTest_nilif, c9, c8]
 have := sameCe_run F (d + 54) (by omega) (v := v) (w := w) (B := B) (I := (I : Int)) (A := A) (O := O) (L := L) hc.nB hA hO hc.nL (fun s hs => (hc.sL s hs).1) hcs h8
 rw [this]
 exact ⟨_, rfl⟩
theorem certBack_run (F d : Nat) (hF : 2 ^ 21 ≤ F) (v w : Bool) (B : List Bool) (i : Int) (A : List (Int × Int)) (O : List Int) (L : List Stp) (hi : -9223372036854775808 ≤ i) (h : AH) :
   ∃ h', run F (d + 60) F_skolemlaw26_CertBack [.agg (certC v w B i A O L)] h = some (.bool true, h') := by
 rw [e_skolemlaw26_CertBack, show List.all (certC v w B i A O L) AV.isCell = true from rfl, cond_true, show (certC v w B i A O L).length = 7 from rfl, first26_run F (by omega) (by omega)]
 have s1 := (Sep0.start h).push 1 7 (cs := certC v w B i A O L) rfl
 generalize hX : h.next = X at s1 ⊢
 generalize h.push 1 (certC v w B i A O L) = H at s1 ⊢
 have c7 : H.cellsAt 7 (.mk ⟨X, 0, 0⟩ 7) = some (certC v w B i A O L) := s1.getAll (i := 0) rfl rfl
 simp only [o_bd, bool_bool, Bool.not_true, cond_false, c7]
 rw [light_run F (d + 57) (by omega)]
 simp only [o_bd, bool_bool]
 cases hl : lightI B i A O L with
 | false => exact ⟨_, rfl⟩
 | true =>
   obtain ⟨l1, l2, l3, l4, l5, l6⟩ := light_facts hl
   have c3 : H.cellsAt 3 (.mk ⟨X, 0, 0 + 3⟩ 7) = some (circC i A O) := s1.getPart (i := 0) (o := 3) (k := 3) rfl (by omega) (by simp)
   simp only [Bool.not_true, beq_self_eq_true, cond_true, field_mk, o_bd, c3]
   rw [cc_run F (d + 58) (by omega) (by omega) (by omega) (by omega) (by omega)]
   simp only [o_bd, int_int, bool_bool]
   by_cases h0 : ccB i A O = 0
   · obtain ⟨I, rfl, hR⟩ := ccB_ok h0 (by omega)
     have hTl := (aigTx_len hR.ok).1
     rw [decide_eq_true h0]
     have c1 : H.cell (.mk ⟨X, 0, 0 + 1⟩ 7) = some (.bool w) := s1.part (i := 0) rfl (by omega) rfl
     simp only [Bool.not_true, cond_false, field_mk, o_bd, c1, bool_bool]
     cases w with
     | true =>
       simp only [cond_true]
       obtain ⟨h1, e1, q1⟩ := s1.put (i := 0) (o := 3) (l := 7) (vs := [.int .i64 0, .slice .nil, .slice .nil]) rfl (by simp) (by simp)
       have e1' : H.storeAt [.int .i64 0, .slice .nil, .slice .nil] (.mk ⟨X, 0, 0 + 3⟩ 7) = some h1 := e1
       rw [e1']
       have hc0 : CeOk true B 0 [] [] L := ⟨by omega, ⟨by decide, by decide, trivial, fun x hx => by cases hx⟩, by decide, l4, l6⟩
       exact certBack_tail F d hF (v := v) hc0 (.inl ⟨rfl, rfl, rfl, rfl⟩) (by decide) (by decide) (cs := [.bool v, .bool true, .slice (lstB B), .int .i64 0, .slice .nil, .slice .nil, .slice (lstS L)]) rfl
         (by rw [canon_agg, canonM_cons (u := .bool v) rfl (canonM_cons (u := .bool true) rfl (canonM_cons (canon_lstB 6 B) (canonM_cons (u := .int .i64 0) rfl (canonM_cons (u := .slice (lstP [])) rfl (canonM_cons (u := .slice (lstI [])) rfl (canonM_cons (canon_lstS 6 L) (canonM_nil _)))))))]; rfl) q1
     | false =>
       simp only [cond_false]
       obtain ⟨h1, e1, q1⟩ := s1.put (i := 0) (o := 2) (l := 7) (vs := [.slice .nil]) rfl (by simp) (by simp)
       have e1' : H.storeAt [.slice .nil] (.mk ⟨X, 0, 0 + 2⟩ 7) = some h1 := e1
       rw [e1']
       have hc0 : CeOk false [] I A O L := ⟨by simp, hR, by omega, l4, l6⟩
       exact certBack_tail F d hF (v := v) hc0 (.inr ⟨rfl, rfl⟩) (by omega) (by omega) (cs := [.bool v, .bool false, .slice .nil, .int .i64 I, .slice (lstP A), .slice (lstI O), .slice (lstS L)]) rfl
         (by rw [canon_agg, canonM_cons (u := .bool v) rfl (canonM_cons (u := .bool false) rfl (canonM_cons (u := .slice (lstB [])) rfl (canonM_cons (u := .int .i64 I) rfl (canonM_cons (canon_lstP 6 A) (canonM_cons (canon_lstI 6 O) (canonM_cons (canon_lstS 6 L) (canonM_nil _)))))))]; rfl) q1
   · rw [decide_eq_false h0]
     exact ⟨_, rfl⟩
theorem certBack_x (F d : Nat) (hF : 2 ^ 21 ≤ F) (x : Bool × Bool × List Bool × (Int × List (Int × Int) × List Int) × List (Bool × List Int)) (hi : (Lit.int .i64 x.2.2.2.1.1).wf = true) (h : AH) :
   ∃ h', run F (d + 60) F_skolemlaw26_CertBack [.agg (certC x.1 x.2.1 x.2.2.1 x.2.2.2.1.1 x.2.2.2.1.2.1 x.2.2.2.1.2.2 x.2.2.2.2)] h = some (.bool true, h') :=
 certBack_run F d hF _ _ _ _ _ _ _ (by
   have := wf64 hi
   omega) h
end Go.Proofs.YtjagkijfngokaaaGreatDoor
