/-
 Parts of the proof of RupSays: RupSays.
-/
import Derived.Test.YtdmbfmgebgdfnaaDoorTRupSays3
namespace Go.Proofs.YtdmbfmgebgdfnaaDoor
open Go.RowKit
abbrev Do21 := Int × Int × List Int
abbrev doC (d : Do21) : List AV := [.int .i64 d.1, .int .i64 d.2.1, .slice (lstI d.2.2)]
def XSt (T : List zcJ) (xs : Sl) (XC : List (List Int)) : Prop := (T = [] ∧ xs = zuA XC) ∨ T = [.grown 1 xs (zoo XC)]
theorem XSt.ok {h0 h : AH} {T : List zcJ} {xs : Sl} {XC : List (List Int)} (hT : XSt T xs XC) (hs : Sep0 h0 h T) : h.sliceCells 1 xs = some (zoo XC) ∧ zap h 7 (.slice xs) = some (.slice (zuA XC)) := by
 rcases hT with ⟨rfl, rfl⟩ | rfl
 · exact ⟨ziU _ _ _, zsY 6 _ _ (zi7 ztV XC)⟩
 · have hg := hs.sep.grown (i := 0) rfl
   have hl := hg.len
   simp only [List.length_map, Nat.mul_one] at hl
   refine ⟨hg.cells, ?_⟩
   rw [hg.freeze (n := 6) (by omega) (zsZ 5 _), ← hl]
abbrev rs (X : Nat) (xs q : Sl) (Q : List Int) (T : List zcJ) : List zcJ := oX X 12 xs :: .grown 1 q (zaS Q) :: T
theorem rs_T {h0 h : AH} {lo : Nat} {b : Bs} {cl : zkQ} {X : Nat} {xs q : Sl} {Q : List Int} {T : List zcJ} (hs : Sep0 h0 h (bAll lo b 12 cl (rs X xs q Q T))) : Sep0 h0 h T :=
 hs.sub (((((((List.sublist_append_left T _).cons _).cons _).cons _).cons _).cons _ |>.cons _).cons _)
structure StI (F : Nat) (i : Nat) (b : Bs) (cl : zkQ) (XC : List (List Int)) (T : List zcJ) (xs : Sl) : Prop where
 hb : BOk b 12 cl
 rel : RelB 12 cl XC
 hx : XOk F 12 XC
 cln : cl.length ≤ 100 + i
 xcn : XC.length ≤ 100 + i
 xst : XSt T xs XC
theorem QOk.of12 {F : Nat} (hF : 2000000 < F) {Q : List Int} (hl : Q.length ≤ 200) (h : ∀ x ∈ Q, zqa x) : QOk F Q := ⟨by omega, by omega, h⟩
section
variable {F : Nat} {h0 : AH}
theorem zxL (d : Nat) (hF : 2 ^ 21 ≤ F) {i : Nat} (hi : i ≤ 30) {b : Bs} {cl : zkQ} {XC : List (List Int)} {X : Nat} {xs q : Sl} {Q : List Int} {T : List zcJ} (hI : StI F i b cl XC T xs) (hQl : Q.length ≤ 100) (hQ : zfF 12 Q = true) {ask start : List Int} (hal : ask.length ≤ 100) (hao : ∀ x ∈ ask, zqa x) (hsl : start.length ≤ 100) (hso : ∀ x ∈ start, zqa x)
   {h : AH} (hs : Sep0 h0 h (bAll h0.maps.length b 12 cl (rs X xs q Q T))) {n : Nat} {x1 : Sl} :
   ∃ h', zbh F (d + 69) (n + 1) [(1, .slice x1), (2, .slice (lstI ask)), (3, .slice (lstI start)), (9, .bool true), (11, .ptr (bP b)), (13, .ptr (pX X)), (14, .slice q), (16, .int .i64 (i : Int))] h =
     (bif decide ((i : Int) ≤ ((x1.len : Nat) : Int)) then zdj F (d + 69) n .normal [(1, .slice x1), (2, .slice (lstI ask)), (3, .slice (lstI start)), (9, .bool true), (11, .ptr (bP b)), (13, .ptr (pX X)), (14, .slice q), (16, .int .i64 (i : Int)), (168, .bool false)] h' else some (.exit 2, [(8, .bot), (9, .bool true)], h)) ∧ Sep0 h0 h' (bAll h0.maps.length b 12 cl (rs X xs q Q T)) := by
 obtain ⟨hb, rel, hx, hcln, hxcn, hxst⟩ := hI
 have hXl := hx.len
 have hXe : ∀ c ∈ XC, c.length < 100000 := fun c hc => (hx.each c hc).1.len
 have hQo : ∀ x ∈ Q, zqa x := fun x hx => zwn (n := 12) (by omega) (List.all_eq_true.1 hQ x hx)
 have hQq := QOk.of12 (F := F) (by omega) (by omega : Q.length ≤ 200) hQo
 have hAq := QOk.of12 (F := F) (by omega) (by omega : ask.length ≤ 200) hao
 rw [znL]
 cases decide ((i : Int) ≤ ((x1.len : Nat) : Int)) with
 | false => exact ⟨h, rfl, hs⟩
 | true =>
   simp only [cond_true]
   have c1 : h.cell (.mk ⟨X, 0, 0 + 1⟩ 2) = some (.slice xs) := hs.part (i := 5) rfl (by omega) rfl
   simp only [zjl, zcd, o_bd, c1, zac]
   have hGS : ∀ {Y : List zcJ} {h' : AH}, Sep0 h0 h' (Y ++ bAll h0.maps.length b 12 cl (rs X xs q Q T)) → h'.sliceCells 1 xs = some (zoo XC) := fun {Y h'} hs' => (hxst.ok (rs_T (hs'.sub (List.sublist_append_right Y _)))).1
   obtain ⟨s7, h1, e1, s1⟩ := zCx F (d + 61) (by omega) (by omega) (n := 12) (by omega) hs (s := xs) (cc := XC) (fun h' hs' => zsi (hGS (Y := []) hs')) (by omega) hXe (t := lstI start) (S := start) (fun h _ => ziU _ _ _) (by omega)
   rw [show run F (d + 69) zlW [.int .i64 12, .slice xs, .slice (lstI start)] h = _ from e1]
   have c2 : h1.cell (.mk ⟨X, 0, 0 + 1⟩ 2) = some (.slice xs) := s1.part (i := 6) rfl (by omega) rfl
   simp only [o_bd, tup2, cond_true, zu9, zu8, zac, zaf, zjl, zcd, c2]
   obtain ⟨s16, h2, e2, s2⟩ := zxY F (d + 65) (by omega) (n := 12) (by omega) s1 (x1 := xs) (cc := XC) (fun h' hs' => zsi (hGS (Y := [_]) hs')) (by omega) (fun c hc => by
     obtain ⟨a, g⟩ := hx.each c hc
     exact ⟨by have := a.len; omega, a.fl, g⟩) (s := lstI start) (S := start) (fun h _ => ziU _ _ _) (by omega) (fun l hl => by obtain ⟨a, g⟩ := hso l hl; omega)
   rw [zuN rel.ok] at e2 s2
   rw [show run F (d + 69) za6 [.int .i64 12, .slice xs, .slice (lstI start)] h1 = _ from e2]
   simp only [o_bd, tup2, cond_true, zu9, zu8, zac, zaf]
   have g7 := s2.sep.grown (i := 1) rfl
   have g16 := s2.sep.grown (i := 0) rfl
   have hkl : ((zpX 12 XC start).getD []).length ≤ 100 := by
     cases hr : zpX 12 XC start with
     | none => simp
     | some A =>
       have hS : zfF 12 start = true := by
         unfold zpX at hr
         split at hr
         · rename_i h9; exact h9.2
         · cases hr
       rcases zt9 rel.ok hS with ⟨e, _⟩ | ⟨T, e, _⟩
       · rw [e] at hr; cases hr
       · rw [e] at hr
         cases hr
         unfold zxg
         rw [Option.getD_some, List.length_flatMap]
         have : ∀ l : List Nat, (l.map fun v : Nat => (if T (v : Int) = true then [(v : Int)] else if T (-(v : Int)) = true then [-(v : Int)] else []).length).sum ≤ l.length := fun l => by
           induction l with
           | nil => simp
           | cons v l ih =>
             rw [List.map_cons, List.sum_cons, List.length_cons]
             have : (if T (v : Int) = true then [(v : Int)] else if T (-(v : Int)) = true then [-(v : Int)] else []).length ≤ 1 := by
               split
               · simp
               · split <;> simp
             omega
         have := this (List.range (12 + 1))
         rw [List.length_range] at this
         omega
   rw [zwh F (d + 68) g7.freezeI g16.freezeI (by omega) (by omega)]
   simp only [o_bd, zaf, decide_true, Bool.not_true, cond_false, beq_self_eq_true]
   have s3 := s2.tl.tl
   have hpf : ∀ {h' : AH}, Sep0 h0 h' (bAll h0.maps.length b 12 cl (rs X xs q Q T)) → zap h' 8 (.ptr (pX X)) = some (.ptr (xF 12 XC)) := fun hs' => zuh hs' (i := 5) rfl (hxst.ok (rs_T hs')).2
   have hqf : ∀ {h' : AH}, Sep0 h0 h' (bAll h0.maps.length b 12 cl (rs X xs q Q T)) → zap h' 8 (.slice q) = some (.slice (lstI Q)) := fun hs' => (hs'.sep.grown (i := 6) rfl).freezeI
   obtain ⟨h3, e3, s4⟩ := zmK F (d + 62) hb (by omega) s3 (s := q) (c := Q) (fun h hs => (hs.sep.grown (i := 6) rfl).cells) (by omega)
   rw [show run F (d + 69) za5 [.ptr (bP b), .slice q] h2 = _ from e3]
   rw [o_bd, zaf, o_bd, show run F (d + 69) zay [.ptr (pX X), .slice q] h3 = _ from zor (d + 64) (by omega) hx hQq.ql (hpf s4) (hqf s4), zuf rel (fun l => Iff.rfl)]
   rw [o_bd, zaf, o_bd, beq_self_eq_true, Bool.not_true, cond_false]
   obtain ⟨h4, e4, s5⟩ := zxq F (d + 61) hb (by omega) s4 (s := q) (c := Q) (fun h hs => (hs.sep.grown (i := 6) rfl).cells) (by omega)
   rw [show run F (d + 69) zeE [.ptr (bP b), .slice q] h3 = _ from e4]
   rw [o_bd, zaf, o_bd, show run F (d + 69) zaF [.ptr (pX X), .slice q] h4 = _ from zvv (d + 63) (by omega) hx hQq (hpf s5) (hqf s5), zzX rel]
   rw [o_bd, zaf, o_bd, beq_self_eq_true, Bool.not_true, cond_false]
   obtain ⟨h5, e5, s6, _⟩ := zBo F (d + 66) (by omega) hb (by omega) s5 (s5.sep.grown (i := 6) rfl).cells (by omega)
   rw [zAv rel] at e5
   rw [show run F (d + 69) zmJ [.ptr (bP b), .slice q] h4 = _ from e5]
   rw [o_bd, zaf, o_bd, show run F (d + 69) zdY [.ptr (pX X), .slice q] h5 = _ from zxQ (d + 64) (by omega) hx hQq (hpf s6) (hqf s6)]
   rw [o_bd, zaf, o_bd, beq_self_eq_true, Bool.not_true, cond_false]
   have c6 : h5.cell (.mk ⟨X, 0, 0 + 1⟩ 2) = some (.slice xs) := s6.part (i := 5) rfl (by omega) rfl
   have hxl := za7 (hxst.ok (rs_T s6)).1
   simp only [List.length_map, Nat.mul_one] at hxl
   have hlen : ((zep cl).length : Int) = ((xs.len : Nat) : Int) := by rw [rel.there, List.length_map, hxl]
   rw [show run F (d + 69) zmI [.ptr (bP b)] h5 = _ from zBh F (d + 68) s6]
   simp only [o_bd, zam, zjl, zcd, c6, zac, zls]
   rw [zng hlen]
   obtain ⟨h6, e6, s7'⟩ := zmK F (d + 62) hb (by omega) s6 (s := lstI ask) (c := ask) (fun h _ => ziU _ _ _) (by omega)
   rw [show run F (d + 69) za5 [.ptr (bP b), .slice (lstI ask)] h5 = _ from e6]
   rw [o_bd, zaf, o_bd, show run F (d + 69) zay [.ptr (pX X), .slice (lstI ask)] h6 = _ from zor (d + 64) (by omega) hx hAq.ql (hpf s7') (zdZ 7 ask), zuf rel (fun l => Iff.rfl)]
   rw [o_bd, zaf, o_bd, beq_self_eq_true, Bool.not_true, o_bd]
   exact ⟨h6, rfl, s7'⟩
theorem zzf (d : Nat) (hF : 2 ^ 21 ≤ F) {D : Nat} {z : Do21} (hz : z.2.2.length < 1000000) {x1 x2 x3 x14 : Sl} {ok : Bool} {p11 p13 : Pt} {i : Int} {R : List zcJ} : ∀ (n k : Nat) (s : Sl) (h : AH), z.2.2.length < n + k → k ≤ z.2.2.length → (s = .nil ∨ ∃ r m, s = .mk r m false ∧ m ≠ 0) → Sep0 h0 h (.grown 1 s (zaS ((z.2.2.take k).map fun x => litI x 12)) :: .own 1 D 0 3 (doC z) :: R) →
   ∃ s' h', zb4 F (d + 2) n [(1, .slice x1), (2, .slice x2), (3, .slice x3), (9, .bool ok), (11, .ptr p11), (13, .ptr p13), (14, .slice x14), (16, .int .i64 i), (21, .ptr (.mk ⟨D, 0, 0⟩ 3)), (22, .slice s), (23, .int .i64 (k : Int))] h = some (.exit 4, [(1, .slice x1), (2, .slice x2), (3, .slice x3), (9, .bool ok), (11, .ptr p11), (13, .ptr p13), (14, .slice x14), (16, .int .i64 i), (21, .ptr (.mk ⟨D, 0, 0⟩ 3)), (22, .slice s')], h') ∧
     (s' = .nil ∨ ∃ r m, s' = .mk r m false ∧ m ≠ 0) ∧ Sep0 h0 h' (.grown 1 s' (zaS (z.2.2.map fun x => litI x 12)) :: .own 1 D 0 3 (doC z) :: R) := by
 intro n
 induction n with
 | zero => intro k s h h1 h2; omega
 | succ n ih =>
   intro k s h h1 h2 hop hs
   have hl := hs.len (i := 0) rfl
   simp only [List.length_map, List.length_take, Nat.mul_one] at hl
   have c2 : h.cell (.mk ⟨D, 0, 0 + 2⟩ 3) = some (.slice (lstI z.2.2)) := hs.part (i := 1) rfl (by omega) rfl
   rw [znK]
   simp only [zcd, o_bd, c2, zac]
   rw [zeW]
   by_cases hk : k < z.2.2.length
   · rw [zan (by omega), zcC _ (by omega) (by omega) 0]
     simp only [o_bd, zeG, zam, Int.toNat_natCast]
     rw [zy4 F d (by omega) (by omega)]
     simp only [o_bd, zam]
     obtain ⟨s', h', e1, s1, _⟩ := hs.grow (i := 0) (bytes := 8) (m := 1) (vs := [.int .i64 (litI (z.2.2.getD k 0) 12)]) rfl rfl (by omega) (by omega)
     have hop' : s' = .nil ∨ ∃ r m, s' = .mk r m false ∧ m ≠ 0 := by
       right
       have hb1 : (s.len + 1) * 8 ≤ 140737488355328 := by omega
       have hb2 : s.len + 1 ≤ 140737488355328 := by omega
       rcases hop with rfl | ⟨r, m, rfl, hm⟩
       · simp only [AH.append, zll, ble_eq, show ¬ (1 : Nat) = 0 by omega, decide_false, cond_false, hb1, hb2, decide_true, Bool.and_self, Bool.not_true] at e1
         cases e1
         exact ⟨_, _, rfl, by omega⟩
       · simp only [AH.append, zll, ble_eq, show ¬ (1 : Nat) = 0 by omega, decide_false, cond_false, hb1, hb2, decide_true, Bool.and_self, Bool.not_true] at e1
         split at e1
         · cases e1
         · rename_i row hrow
           generalize hcnd : (!false && !row.ro && decide (row.sz = 1) && decide (row.valid ≤ r.gen) && decide (r.gen ≤ row.gen) && decide (r.off + m * 1 ≤ row.cells.length)) = cnd at e1
           cases cnd with
           | false => cases e1
           | true =>
             rw [cond_true] at e1
             cases e1
             exact ⟨_, _, rfl, by omega⟩
     rw [e1]
     simp only [o_bd]
     rw [zlr (by omega)]
     refine ih (k + 1) s' h' (by omega) (by omega) hop' ?_
     rw [zia hk 0, List.map_append, zhT]
     exact s1
   · have : k = z.2.2.length := by omega
     rw [zah (by omega)]
     rw [this, List.take_length] at hs
     exact ⟨s, h, rfl, hop, hs⟩
section
variable {h : AH} {lo : Nat} {b : Bs} {cl : zkQ} {X : Nat} {xs xs' q : Sl} {Q : List Int} {T : List zcJ} {c : zcJ} {g : List AV}
theorem zDm {α : Type} (o g a b c d e y q : α) : List.Perm [o, g, a, b, c, d, e, y, q] [a, b, c, d, e, y, o, q, g] := by
 have := (by decide : List.Perm [0, 1, 2, 3, 4, 5, 6, 7, 8] [2, 3, 4, 5, 6, 7, 0, 8, 1]).map (fun i : Nat => [o, g, a, b, c, d, e, y, q].getD i o)
 exact this
theorem toX (hs : Sep0 h0 h (bAll lo b 12 cl (c :: rs X xs q Q T))) : Sep0 h0 h (oX X 12 xs :: bAll lo b 12 cl (c :: .grown 1 q (zaS Q) :: T)) :=
 hs.perm (List.perm_middle (l₁ := [_, _, _, _, _, _]))
theorem zDh (hs : Sep0 h0 h (oX X 12 xs :: bAll lo b 12 cl (c :: .grown 1 q (zaS Q) :: T))) : Sep0 h0 h (bAll lo b 12 cl (c :: rs X xs q Q T)) :=
 hs.perm (List.perm_middle (l₁ := [_, _, _, _, _, _])).symm
theorem zBI {R R' : List zcJ} (hr : R'.Sublist R) : (bAll lo b 12 cl R').Sublist (bAll lo b 12 cl R) :=
 ((((((hr.append (List.Sublist.refl _)).cons_cons _).cons_cons _).cons_cons _).cons_cons _).cons_cons _)
theorem zDj (hs : Sep0 h0 h (oX X 12 xs' :: .grown 1 xs' g :: bAll lo b 12 cl (c :: .grown 1 q (zaS Q) :: T))) : Sep0 h0 h (bAll lo b 12 cl (c :: rs X xs' q Q [.grown 1 xs' g])) := by
 have s1 : Sep0 h0 h (oX X 12 xs' :: .grown 1 xs' g :: bAll lo b 12 cl [c, .grown 1 q (zaS Q)]) := hs.sub (((zBI (R' := [c, .grown 1 q (zaS Q)]) (((List.nil_sublist T).cons_cons _).cons_cons _)).cons_cons _).cons_cons _)
 exact s1.perm ((zDm _ _ _ _ _ _ _ _ _).append_right (chK b.ks))
end
theorem StI.next {i : Nat} {b : Bs} {cl : zkQ} {XC : List (List Int)} {T : List zcJ} {xs : Sl} (h : StI F i b cl XC T xs) : StI F (i + 1) b cl XC T xs := ⟨h.hb, h.rel, h.hx, by have := h.cln; omega, by have := h.xcn; omega, h.xst⟩
theorem zB9 (d : Nat) (hF : 2 ^ 21 ≤ F) {i : Nat} (hi : i ≤ 30) {b : Bs} {cl : zkQ} {XC : List (List Int)} {X D : Nat} {xs q y : Sl} {Q Y : List Int} {T : List zcJ} {z : Do21} (hI : StI F i b cl XC T xs) (hYl : Y.length ≤ 10) (hY : zfF 12 Y = true) (hop : y = .nil ∨ ∃ r m, y = .mk r m false ∧ m ≠ 0)
   {h : AH} (hs0 : Sep0 h0 h (.grown 1 y (zaS Y) :: .own 1 D 0 3 (doC z) :: bAll h0.maps.length b 12 cl (rs X xs q Q T))) {n : Nat} {x1 x2 x3 : Sl} :
   ∃ b' cl' XC' xs' T' h', zdi F (d + 69) n (.exit 4) [(1, .slice x1), (2, .slice x2), (3, .slice x3), (9, .bool true), (11, .ptr (bP b)), (13, .ptr (pX X)), (14, .slice q), (16, .int .i64 (i : Int)), (21, .ptr (.mk ⟨D, 0, 0⟩ 3)), (22, .slice y)] h =
     zbh F (d + 69) n [(1, .slice x1), (2, .slice x2), (3, .slice x3), (9, .bool true), (11, .ptr (bP b')), (13, .ptr (pX X)), (14, .slice q), (16, .int .i64 ((i + 1 : Nat) : Int))] h' ∧ StI F (i + 1) b' cl' XC' T' xs' ∧ Sep0 h0 h' (bAll h0.maps.length b' 12 cl' (rs X xs' q Q T')) := by
 have hI0 := hI
 obtain ⟨hb, rel, hx, hcln, hxcn, hxst⟩ := hI
 have c0 : h.cell (.mk ⟨D, 0, 0 + 0⟩ 3) = some (.int .i64 z.1) := hs0.part (i := 1) rfl (by omega) rfl
 have c1 : h.cell (.mk ⟨D, 0, 0 + 1⟩ 3) = some (.int .i64 z.2.1) := hs0.part (i := 1) rfl (by omega) rfl
 have s0 : Sep0 h0 h (.grown 1 y (zaS Y) :: bAll h0.maps.length b 12 cl (rs X xs q Q T)) := hs0.sub ((List.sublist_cons_self _ _).cons_cons _)
 have s1 := zt0 s0
 have hYo : ∀ x ∈ Y, zqa x := fun x hx => zwn (n := 12) (by omega) (List.all_eq_true.1 hY x hx)
 have hYq := QOk.of12 (F := F) (by omega) (by omega : Y.length ≤ 200) hYo
 have hTof : ∀ {h' : AH} {b' : Bs} {cl' : zkQ} {c : zcJ} {xs : Sl} {T : List zcJ}, Sep0 h0 h' (bAll h0.maps.length b' 12 cl' (c :: rs X xs q Q T)) → Sep0 h0 h' T := fun hs' => rs_T (zqE hs').tl
 rw [znQ]
 simp only [zcd, o_bd, c0, zam]
 by_cases hk1 : z.1 = 1
 · rw [zan hk1]
   obtain ⟨b1, h1, e1, B1, p1⟩ := zyY F (d + 63) (by omega) hb (by omega) (by omega) s1 (s1.sep.grown (i := 5) rfl).cells (by omega)
   rw [hY] at e1 p1
   obtain ⟨hb1, s2⟩ := p1
   have P1 : bP b = bP b1 := by unfold bP; rw [B1]
   rw [show run F (d + 69) zdq [.ptr (bP b), .slice y] h = _ from e1, o_bd, zaf, o_bd]
   obtain ⟨h2, e2, p2⟩ := zxZ (d + 63) (by omega) hx (toX s2) (hxst.ok (hTof s2)).1 (hxst.ok (hTof s2)).2 hYq (s2.sep.grown (i := 5) rfl).cells (s2.sep.grown (i := 5) rfl).freezeI
   rw [hY] at e2 p2
   obtain ⟨xs1, s3⟩ := p2
   rw [show run F (d + 69) zdz [.ptr (pX X), .slice y] h1 = _ from e2, o_bd, zaf, o_bd, beq_self_eq_true, beq_self_eq_true, cond_true]
   have s4 := zqE (zDj s3)
   have rel1 := zCL rel hY
   have hx1 : XOk F 12 (XC ++ [Y]) := ⟨by simp; omega, by simp; omega, fun c hc => by
     rcases List.mem_append.1 hc with hc | hc
     · exact hx.each c hc
     · rw [List.mem_singleton.1 hc]; exact ⟨hYq, fun l hl => List.all_eq_true.1 hY l hl⟩, by omega⟩
   have hxst1 : XSt [.grown 1 xs1 (zoo (XC ++ [Y]))] xs1 (XC ++ [Y]) := .inr rfl
   have hI1 : StI F (i + 1) b1 (cl ++ [some (zeF Y)]) (XC ++ [Y]) [.grown 1 xs1 (zoo (XC ++ [Y]))] xs1 := ⟨hb1, rel1, hx1, by simp; omega, by simp; omega, hxst1⟩
   generalize cl ++ [some (zeF Y)] = cl1 at s4 hb1 hI1
   generalize hXC1 : XC ++ [Y] = XC1 at s4 hx1 hxst1 hI1
   have hbad : zfF 12 (Y ++ [13]) = false := by rw [zfF, List.all_append]; simp [zjg]
   have hZq : QOk F (Y ++ [13]) := ⟨by simp; omega, by simp; omega, fun x hx => by
     rcases List.mem_append.1 hx with hx | hx
     · exact hYo x hx
     · rw [List.mem_singleton.1 hx]; exact ⟨by omega, by omega⟩⟩
   obtain ⟨a1, h3, c, e3, s5, tw⟩ := s4.twice hop (by omega) 13
   rw [e3, o_bd]
   have s6 := zt0 s5
   obtain ⟨t1, _⟩ := tw h3 _ s5
   obtain ⟨b2, h4, e4, B2, p4⟩ := zyY F (d + 63) (by omega) hb1 (by have := hI1.cln; omega) (by omega) s6 t1 (by simp; omega)
   rw [hbad] at e4 p4
   obtain ⟨rfl, s7⟩ := p4
   rw [P1, show run F (d + 69) zdq [.ptr (bP b2), .slice a1] h3 = _ from e4, o_bd, zaf, o_bd]
   obtain ⟨_, a2, h5, e5, s8⟩ := tw h4 _ (zqE s7)
   rw [e5, o_bd]
   have s9 := zt0 s8
   obtain ⟨h6, e6, p6⟩ := zxZ (d + 63) (by omega) hx1 (toX s9) (hxst1.ok (hTof s9)).1 (hxst1.ok (hTof s9)).2 hZq (s9.sep.grown (i := 5) rfl).cells (s9.sep.grown (i := 5) rfl).freezeI
   rw [hbad] at e6 p6
   rw [show run F (d + 69) zdz [.ptr (pX X), .slice a2] h5 = _ from e6, o_bd, zaf, o_bd, beq_self_eq_true, o_bd, zaf, o_bd, o_bd]
   dsimp only
   have s10 := (zqE (zDh p6)).tl
   rw [ze7, Bool.not_true, cond_false, zlr (by omega)]
   exact ⟨b2, _, _, _, _, h6, rfl, hI1, s10⟩
 · rw [zah hk1]
   have dropped : ∀ {b1 : Bs} {h1 : AH} {c : zcJ} {w : List Int} {y : Sl}, QOk F w → b1.B = b.B → zy6 h0 b b1 12 cl (c :: rs X xs q Q T) h1 (fstB cl (zeF w)) → zap h1 8 (.slice y) = some (.slice (lstI w)) →
       ∃ h2 b' cl' XC' xs' T', bP b = bP b' ∧ run F (d + 69) zez [.ptr (pX X), .slice y] h1 = some (.bool (fstB cl (zeF w)).isSome, h2) ∧ StI F (i + 1) b' cl' XC' T' xs' ∧ Sep0 h0 h2 (bAll h0.maps.length b' 12 cl' (rs X xs' q Q T')) := by
     intro b1 h1 c w y hw B1 p1 hyf
     have hfr := zAx rel w
     cases hf : fstB cl (zeF w) with
     | none =>
       rw [hf] at p1 hfr
       obtain ⟨rfl, s2⟩ := p1
       obtain ⟨h2, e2, p2⟩ := zwk (d + 63) (by omega) hx (toX s2) (hxst.ok (hTof s2)).1 (hxst.ok (hTof s2)).2 hw hyf
       have hn : fndX XC w = none := by
         cases h9 : fndX XC w with
         | none => rfl
         | some k => rw [h9] at hfr; cases hfr
       rw [hn] at e2 p2
       exact ⟨h2, b1, cl, XC, xs, T, rfl, e2, hI0.next, (zqE (zDh p2)).tl⟩
     | some k0 =>
       rw [hf] at p1 hfr
       obtain ⟨hb1, s2⟩ := p1
       obtain ⟨h2, e2, p2⟩ := zwk (d + 63) (by omega) hx (toX s2) (hxst.ok (hTof s2)).1 (hxst.ok (hTof s2)).2 hw hyf
       obtain ⟨k, hn⟩ : ∃ k, fndX XC w = some k := by
         cases h9 : fndX XC w with
         | none => rw [h9] at hfr; cases hfr
         | some k => exact ⟨k, rfl⟩
       rw [hn] at e2 p2
       obtain ⟨xs1, s3⟩ := p2
       have hl1 : (XC.take k ++ XC.drop (k + 1)).length ≤ XC.length := by simp; omega
       refine ⟨h2, b1, cl.set k0 none, XC.take k ++ XC.drop (k + 1), xs1, [.grown 1 xs1 (zoo (XC.take k ++ XC.drop (k + 1)))], by unfold bP; rw [B1], e2, ⟨hb1, zBt rel hf hn, ⟨by have := hx.len; omega, by have := hx.fl; omega, fun c hc => ?_, by omega⟩, by rw [List.length_set]; omega, by omega, .inr rfl⟩, (zqE (zDj s3)).tl⟩
       rcases List.mem_append.1 hc with hc | hc
       · exact hx.each c (List.mem_of_mem_take hc)
       · exact hx.each c (List.mem_of_mem_drop hc)
   by_cases hk2 : z.1 = 2
   · rw [zan hk2]
     obtain ⟨b1, h1, e1, B1, p1⟩ := zyA F (d + 66) (by omega) hb (by omega) s1 (s1.sep.grown (i := 5) rfl).cells (by omega)
     rw [show run F (d + 69) zeI [.ptr (bP b), .slice y] h = _ from e1, o_bd, zaf, o_bd]
     have hyf : zap h1 8 (.slice y) = some (.slice (lstI Y)) := by
       cases hf : fstB cl (zeF Y) with
       | none => rw [hf] at p1; exact (p1.2.sep.grown (i := 5) rfl).freezeI
       | some k => rw [hf] at p1; exact (p1.2.sep.grown (i := 5) rfl).freezeI
     obtain ⟨h2, b', cl', XC', xs', T', P, e2, hI2, s2⟩ := dropped hYq B1 p1 hyf
     rw [e2, o_bd, zaf, o_bd, beq_self_eq_true, o_bd]
     dsimp only
     rw [zhj, o_bd]
     dsimp only
     rw [ze7, Bool.not_true, cond_false, zlr (by omega), P]
     exact ⟨b', cl', XC', xs', T', h2, rfl, hI2, s2⟩
   · rw [zah hk2]
     have hxs := hxst.ok (hTof s1)
     have hxl := za7 hxs.1
     simp only [List.length_map, Nat.mul_one] at hxl
     have d1 : h.cell (.mk ⟨X, 0, 0 + 1⟩ 2) = some (.slice xs) := s1.part (i := 6) rfl (by omega) rfl
     simp only [zjl, zcd, o_bd, d1, zac]
     rw [← hxl]
     by_cases hX0 : XC.length = 0
     · rw [zah (by omega), o_bd]
       dsimp only
       rw [zj5, o_bd]
       dsimp only
       rw [zhj, o_bd]
       dsimp only
       rw [ze7, Bool.not_true, cond_false, zlr (by omega)]
       exact ⟨b, cl, XC, xs, T, h, rfl, hI0.next, s0.tl⟩
     · rw [zan (by omega)]
       simp only [zjl, zcd, o_bd, d1, c1, zac, zam]
       rw [zah (by omega), zah (by omega)]
       have hm : (0 : Int) < (XC.length : Int) := by omega
       have t1 := Int.tmod_lt_of_pos z.2.1 hm
       have t2 : -(XC.length : Int) < Int.tmod z.2.1 (XC.length : Int) := by
         have h3 := Int.tmod_lt_of_pos (-z.2.1) hm
         rw [Int.neg_tmod] at h3
         omega
       rw [zeo (n := Int.tmod z.2.1 (XC.length : Int) + (XC.length : Int)) (by omega) (by omega)]
       have t3 := Int.tmod_lt_of_pos (Int.tmod z.2.1 (XC.length : Int) + (XC.length : Int)) hm
       have t4 := Int.tmod_nonneg (XC.length : Int) (show 0 ≤ Int.tmod z.2.1 (XC.length : Int) + (XC.length : Int) by omega)
       generalize Int.tmod (Int.tmod z.2.1 (XC.length : Int) + (XC.length : Int)) (XC.length : Int) = w at t3 t4
       obtain ⟨k, rfl⟩ : ∃ k : Nat, w = (k : Int) := ⟨w.toNat, by omega⟩
       have hkl : k < XC.length := by omega
       have hmem : XC.getD k [] ∈ XC := by rw [List.getD_eq_getElem?_getD, List.getElem?_eq_getElem hkl]; exact List.getElem_mem hkl
       rw [zrr hxs.1 (by omega) (v := .slice (lstI (XC.getD k []))) (by simp [hkl])]
       simp only [o_bd, zac]
       obtain ⟨hwq, hwl⟩ := hx.each _ hmem
       generalize XC.getD k [] = w at hmem hwq hwl
       obtain ⟨b1, h1, e1, B1, p1⟩ := zyA F (d + 66) (by omega) hb (by omega) s1 (s := lstI w) (c := w) (ziU _ _ _) hwq.len
       obtain ⟨h2, b', cl', XC', xs', T', P, e2, hI2, s2⟩ := dropped hwq B1 p1 (zdZ 7 w)
       have hsome : (fstB cl (zeF w)).isSome = true := by rw [← zAx rel w]; exact zCo hmem
       rw [hsome] at e1 e2
       rw [show run F (d + 69) zeI [.ptr (bP b), .slice (lstI w)] h = _ from e1, o_bd, zaf, o_bd, beq_self_eq_true, cond_true, e2, o_bd, zaf, o_bd, o_bd, zaf, o_bd, o_bd]
       dsimp only
       rw [zj5, o_bd]
       dsimp only
       rw [zhj, o_bd]
       dsimp only
       rw [ze7, Bool.not_true, cond_false, zlr (by omega), P]
       exact ⟨b', cl', XC', xs', T', h2, rfl, hI2, s2⟩
theorem zuZ (a : List Int) : zfF 12 (a.map fun x => litI x 12) = true := by
 rw [List.all_eq_true]
 intro x hx
 obtain ⟨y, _, rfl⟩ := List.mem_map.1 hx
 have := zu0 (n := y) (vars := 12) (by omega) (by omega)
 rw [zbs]; omega
theorem zDu {h : AH} {L : List zcJ} (hs : Sep0 h0 h L) (z : Do21) : ∃ h3, AH.storeAt (AH.push h 1 [(.int .i64 (0 : Int)), (.int .i64 (0 : Int)), (.slice Sl.nil)]) (doC z) (Pt.mk ⟨AH.next h, 0, 0⟩ 3) = some h3 ∧ Sep0 h0 h3 (.own 1 h.next 0 3 (doC z) :: L) := by
 have s1 := (hs.push 1 3 (cs := [(.int .i64 (0 : Int)), (.int .i64 (0 : Int)), (.slice Sl.nil)]) rfl).cons
 obtain ⟨h3, e1, s2⟩ := s1.put (i := 0) (o := 0) (l := 3) (vs := doC z) rfl (by simp) (by simp)
 exact ⟨h3, e1, s2⟩
theorem zAV (d : Nat) (hF : 2 ^ 21 ≤ F) {h : AH} {L : List zcJ} (hs : Sep0 h0 h L) : ∃ h', zbF F (d + 69) (.exit 2) [(8, .bot), (9, .bool true)] h = some (.bool true, h') := by
 rw [znR]
 have g1 : zsd h0 L (Sl.lst 2 true [.slice (Sl.lst 1 true [.int .i64 1]), .slice (Sl.lst 1 true [.int .i64 4])]) [[1], [4]] := fun h _ =>
   ⟨[Sl.lst 1 true [.int .i64 1], Sl.lst 1 true [.int .i64 4]], rfl, rfl, fun k s' c h1 h2 => by
     match k with
     | 0 => cases h1; cases h2; rfl
     | 1 => cases h1; cases h2; rfl
     | k + 2 => cases h1⟩
 obtain ⟨v, h1, e1, hp⟩ := zuT (n := 3) F (d + 62) (by omega) (by omega) (by omega) hs g1 (by simp) (fun c hc => by
   simp only [List.mem_cons, List.not_mem_nil, or_false] at hc
   rcases hc with rfl | rfl <;> simp)
 rw [show okCC 3 [[1], [4]] = false from by decide] at hp
 obtain ⟨rfl, _⟩ := hp
 rw [show run F (d + 69) ziA [.int .i64 3, .slice (Sl.lst 2 true [.slice (Sl.lst 1 true [.int .i64 1]), .slice (Sl.lst 1 true [.int .i64 4])])] h = _ from e1]
 simp only [o_bd, tup2, cond_true, zu9, zu8, zjV, beq_self_eq_true]
 rw [show run F (d + 69) zmH [zdm, .int .i64 104] h1 = _ from zCP F (d + 64) (.bare (j := 3) (by omega)) (by omega) 104 h1]
 exact ⟨_, rfl⟩
theorem zw0 (d : Nat) (hF : 2 ^ 21 ≤ F) {todo : List Do21} (htl : todo.length ≤ 30) {x1 : Sl} (hx1 : x1 = lstN doC todo) (htb : ∀ z ∈ todo, ∀ x ∈ z.2.2, x ≤ 9223372036854775807) {X : Nat} {q : Sl} {Q : List Int} (hQl : Q.length ≤ 100) (hQ : zfF 12 Q = true) {ask start : List Int} (hal : ask.length ≤ 100) (hao : ∀ x ∈ ask, zqa x) (hsl : start.length ≤ 100) (hso : ∀ x ∈ start, zqa x) : ∀ (n i : Nat) (b : Bs) (cl : zkQ) (XC : List (List Int)) (xs : Sl) (T : List zcJ) (h : AH), todo.length < n + i → i ≤ todo.length → StI F i b cl XC T xs → Sep0 h0 h (bAll h0.maps.length b 12 cl (rs X xs q Q T)) →
   ∃ h', (zbh F (d + 69) n [(1, .slice x1), (2, .slice (lstI ask)), (3, .slice (lstI start)), (9, .bool true), (11, .ptr (bP b)), (13, .ptr (pX X)), (14, .slice q), (16, .int .i64 (i : Int))] h).bind (fun p => zbF F (d + 69) p.1 p.2.1 p.2.2) = some (.bool true, h') := by
 intro n
 induction n with
 | zero => intro i b cl XC xs T h h1 h2; omega
 | succ n ih =>
   intro i b cl XC xs T h h1 h2 hI hs
   have hxl : x1.len = todo.length := by rw [hx1]; exact zeW ..
   obtain ⟨h3, e3, s3⟩ := zxL d hF (i := i) (by omega) hI hQl hQ hal hao hsl hso hs (n := n) (x1 := x1)
   rw [e3, hxl, zan (by omega), zog, cond_false, hxl]
   by_cases hi : i = todo.length
   · rw [zan (by omega), o_bd]
     exact zAV d hF s3
   · rw [zah (by omega), hx1, zz4 (sz := 3) (f := doC) (fun _ => rfl) (l := todo) (j := (i : Int)) (by omega) (by omega) (0, 0, []), Int.toNat_natCast]
     have hzm : todo.getD i (0, 0, []) ∈ todo := by rw [List.getD_eq_getElem?_getD, List.getElem?_eq_getElem (by omega)]; exact List.getElem_mem _
     have htz := htb _ hzm
     generalize todo.getD i (0, 0, []) = z at htz
     obtain ⟨h4, e4, s4⟩ := zDu s3 z
     rw [o_bd, zyI (show (doC z).length = 3 from rfl), o_bd, zta _ _ (show (!false && Nat.beq (List.length (doC z)) 3 && List.all (doC z) AV.isCell) = true from rfl), e4]
     have c2 : h4.cell (.mk ⟨h3.next, 0, 0 + 2⟩ 3) = some (.slice (lstI z.2.2)) := s4.part (i := 0) rfl (by omega) rfl
     simp only [zcd, o_bd, c2, zac]
     rw [zeW]
     by_cases hlen : (10 : Int) < (z.2.2.length : Int)
     · rw [decide_eq_true hlen]
       simp only [Bool.true_eq_false, beq_eq_false_iff_ne, ne_eq, not_false_eq_true, cond_false, o_bd, zaf, cond_true, show (true == false) = false from rfl, zj6]
       exact ⟨_, rfl⟩
     · rw [decide_eq_false hlen]
       simp only [show (false == false) = true from rfl, cond_true]
       rw [show run F (d + 69) zcB [.slice (lstI z.2.2)] h4 = _ from zvx F (d + 68) (zdZ 7 z.2.2) (by omega) (by omega)]
       simp only [o_bd, zaf]
       cases hne : zAm z.2.2 with
       | false =>
         simp only [Bool.not_false, cond_true, o_bd, zj6]
         exact ⟨_, rfl⟩
       | true =>
         simp only [Bool.not_true, cond_false]
         obtain ⟨y, h5, e5, hop, s5⟩ := zzf (x1 := lstN doC todo) (x2 := lstI ask) (x3 := lstI start) (x14 := q) (ok := true) (p11 := bP b) (p13 := pX X) (i := (i : Int)) (d + 67) hF (z := z) (by omega) F 0 .nil h4 (by omega) (by omega) (.inl rfl) (s4.addNil 1).cons
         rw [show zb4 F (d + 69) F [(1, .slice (lstN doC todo)), (2, .slice (lstI ask)), (3, .slice (lstI start)), (9, .bool true), (11, .ptr (bP b)), (13, .ptr (pX X)), (14, .slice q), (16, .int .i64 (i : Int)), (21, .ptr (Pt.mk { id := h3.next, gen := 0, off := 0 } 3)), (22, .slice Sl.nil), (23, .int .i64 0)] h4 = _ from e5, o_bd]
         obtain ⟨b', cl', XC', xs', T', h6, e6, hI', s6⟩ := zB9 d hF (i := i) (by omega) hI (by simp; omega) (zuZ z.2.2) hop s5 (n := n) (x1 := lstN doC todo) (x2 := lstI ask) (x3 := lstI start)
         rw [e6, ← hx1]
         exact ih (i + 1) b' cl' XC' xs' T' h6 (by omega) (by omega) hI' s6
theorem zAW (d : Nat) (hF : 2 ^ 21 ≤ F) {ask : List Int} (hz : ask.length < 1000000) {x1 x3 : Sl} {ok : Bool} {p11 p13 : Pt} {R : List zcJ} : ∀ (n k : Nat) (s : Sl) (h : AH), ask.length < n + k → k ≤ ask.length → Sep0 h0 h (.grown 1 s (zaS ((ask.take k).map fun x => litI x 12)) :: R) →
   ∃ s' h', zb5 F (d + 2) n [(1, .slice x1), (2, .slice (lstI ask)), (3, .slice x3), (9, .bool ok), (11, .ptr p11), (13, .ptr p13), (14, .slice s), (15, .int .i64 (k : Int))] h = some (.exit 0, [(1, .slice x1), (2, .slice (lstI ask)), (3, .slice x3), (9, .bool ok), (11, .ptr p11), (13, .ptr p13), (14, .slice s')], h') ∧
     Sep0 h0 h' (.grown 1 s' (zaS (ask.map fun x => litI x 12)) :: R) := by
 intro n
 induction n with
 | zero => intro k s h h1 h2; omega
 | succ n ih =>
   intro k s h h1 h2 hs
   have hl := hs.len (i := 0) rfl
   simp only [List.length_map, List.length_take, Nat.mul_one] at hl
   rw [znM, zeW]
   by_cases hk : k < ask.length
   · rw [zan (by omega), zcC _ (by omega) (by omega) 0]
     simp only [o_bd, zeG, zam, Int.toNat_natCast]
     rw [zy4 F d (by omega) (by omega)]
     simp only [o_bd, zam]
     obtain ⟨s', h', e1, s1, _⟩ := hs.grow (i := 0) (bytes := 8) (m := 1) (vs := [.int .i64 (litI (ask.getD k 0) 12)]) rfl rfl (by omega) (by omega)
     rw [e1]
     simp only [o_bd]
     rw [zlr (by omega)]
     refine ih (k + 1) s' h' (by omega) (by omega) ?_
     rw [zia hk 0, List.map_append, zhT]
     exact s1
   · have : k = ask.length := by omega
     subst this
     rw [zah (by omega)]
     rw [List.take_length] at hs
     exact ⟨s, h, rfl, hs⟩
end
theorem or4 {a b c d : Bool} (h : (bif (bif (bif a then true else b) then true else c) then true else d) = false) : a = false ∧ b = false ∧ c = false ∧ d = false := by
 cases a <;> cases b <;> cases c <;> cases d <;> simp at h ⊢
theorem zw2 (F d : Nat) (hF : 2 ^ 21 ≤ F) (l : List Int) (todo : List Do21) (ask start : List Int) (htb : ∀ z ∈ todo, ∀ x ∈ z.2.2, x ≤ 9223372036854775807) (hask : ∀ x ∈ ask, x ≤ 9223372036854775807) (hstart : ∀ x ∈ start, x ≤ 9223372036854775807) (h : AH) :
   ∃ h', run F (d + 70) zau [.slice (lstI l), .slice (lstN doC todo), .slice (lstI ask), .slice (lstI start)] h = some (.bool true, h') := by
 rw [zp4, zxl F (by omega) (by omega)]
 simp only [o_bd, zaf, Bool.not_true, cond_false]
 rw [zeW, zeW, zeW, zeW]
 cases hcond : (bif (bif (bif decide ((100 : Int) < (l.length : Int)) then true else decide ((30 : Int) < (todo.length : Int))) then true else decide ((12 : Int) < (ask.length : Int))) then true else decide ((12 : Int) < (start.length : Int))) with
 | true =>
   simp only [show (true == false) = false from rfl, cond_false, o_bd, zaf, cond_true]
   exact ⟨h, rfl⟩
 | false =>
   obtain ⟨c1, c2, c3, c4⟩ := or4 hcond
   have d1 := of_decide_eq_false c1
   have d2 := of_decide_eq_false c2
   have d3 := of_decide_eq_false c3
   have d4 := of_decide_eq_false c4
   simp only [show (false == false) = true from rfl, cond_true]
   rw [show run F (d + 69) zcB [.slice (lstI ask)] h = _ from zvx F (d + 68) (zdZ 7 ask) (by omega) (by omega)]
   simp only [o_bd, zaf]
   cases hna : zAm ask with
   | false =>
     simp only [Bool.not_false, show (true == false) = false from rfl, cond_false, o_bd, zaf, cond_true]
     exact ⟨h, rfl⟩
   | true =>
   simp only [Bool.not_true, show (false == false) = true from rfl, cond_true]
   rw [show run F (d + 69) zcB [.slice (lstI start)] h = _ from zvx F (d + 68) (zdZ 7 start) (by omega) (by omega)]
   simp only [o_bd, zaf]
   cases hns : zAm start with
   | false =>
     simp only [Bool.not_false, cond_true]
     exact ⟨h, rfl⟩
   | true =>
   simp only [Bool.not_true, cond_false]
   rw [show run F (d + 69) zcx [.slice (lstI l), .int .i64 12] h = _ from zxw F (d + 66) (l := l) (vars := 12) (by omega) (by omega) (by omega) h]
   simp only [o_bd, zac]
   obtain ⟨q1, q2, q3⟩ := zvb l 12
   have hlits := zvc (vars := 12) (by omega) l
   generalize znf l 12 = cc at q1 q2 q3 hlits
   have hok : okCC 12 cc = true := by
     rw [List.all_eq_true]
     intro c hc
     rw [List.all_eq_true]
     intro x hx
     have := hlits c hc x hx
     rw [zbs]; omega
   have hcc : ∀ c ∈ cc, c.length < 100000 := fun c hc => by have := q3 c hc; omega
   obtain ⟨v, h1, e1, hp⟩ := zuT F (d + 62) (by omega) (by omega) (n := 12) (by omega) (Sep0.start h) (s := zuA cc) (cc := cc) (fun h _ => zsi (ziU _ _ _)) (by omega) hcc
   rw [hok] at hp
   obtain ⟨b, rfl, hb, s1⟩ := hp
   rw [show run F (d + 69) ziA [.int .i64 12, .slice (zuA cc)] h = _ from e1]
   simp only [o_bd, tup2, cond_true, zu9, zu8, zjV, zos, zpo, beq_self_eq_true, Bool.not_true, zaf, cond_false]
   have s2 := zt0 (s1.push 1 2 (cs := [.int .i64 12, .slice (zuA cc)]) rfl).cons
   obtain ⟨q, h3, e3, s3⟩ := zAW (x1 := lstN doC todo) (x3 := lstI start) (ok := true) (p11 := bP b) (p13 := pX h1.next) (d + 67) hF (ask := ask) (by omega) F 0 .nil _ (by omega) (by omega) (s2.addNil 1).cons
   rw [show zb5 F (d + 69) F [(1, .slice (lstN doC todo)), (2, .slice (lstI ask)), (3, .slice (lstI start)), (9, .bool true), (11, .ptr (bP b)), (13, .ptr (Pt.mk { id := h1.next, gen := 0, off := 0 } 2)), (14, .slice Sl.nil), (15, .int .i64 0)] (h1.push 1 [.int .i64 12, .slice (zuA cc)]) = _ from e3, o_bd]
   have s4 : Sep0 h h3 (bAll h.maps.length b 12 (zrS cc) (rs h1.next (zuA cc) q (ask.map fun x => litI x 12) [])) := by
     have s5 := zt0 s3
     exact s5.perm (((List.Perm.swap _ _ _).append_right _).cons _ |>.cons _ |>.cons _ |>.cons _ |>.cons _)
   rw [znS]
   have hI : StI F 0 b (zrS cc) cc [] (zuA cc) := ⟨hb, ⟨zsx cc, zua hok, hok⟩, ⟨by omega, by omega, fun c hc => ⟨QOk.of12 (by omega) (by have := q3 c hc; omega) (fun x hx => by have := hlits c hc x hx; exact ⟨by omega, by omega⟩), fun x hx => List.all_eq_true.1 (List.all_eq_true.1 hok c hc) x hx⟩, by omega⟩, by simp; omega, by omega, .inl ⟨rfl, rfl⟩⟩
   exact zw0 d hF (todo := todo) (by omega) rfl htb (by simp; omega) (zuZ ask) (by omega) (zAl hna hask) (by omega) (zAl hns hstart) F 0 b (zrS cc) cc (zuA cc) [] h3 (by omega) (by omega) hI s4
end Go.Proofs.YtdmbfmgebgdfnaaDoor
