/-
 What is told of the library's functions by its own laws: strings.Builder's copyCheck and String, strings.Join.
-/
import Derived.Test.YtjagkijfngokaaaGreatDoorBm31
import Derived.Shelf.Strings.Builder1
import Derived.Shelf.Strings.OnBuilder
namespace Go.Proofs.YtjagkijfngokaaaGreatDoor
open Go.RowKit Go.MuLone Go.Shelf
section
variable {P : Program} {C : Ctx} {B : Nat} {q : Bool}
theorem callRes_of_calls {f : FuncId} {fn : Func} {c : Code} (hf : P.funcs[f]? = some fn) (hb : fn.body = some c) (hname : (fn.name == "runtime.NumGoroutine") = false) {xs : Array Value} {w : World} {R : Value → World → Prop}
   (h : Calls P f xs w fun e w' => ∃ x, e = .returned x ∧ R x w') : CallRes P f xs w R := by
 intro o act K Q hK
 rw [run_callFunc_enter hf hname hb]
 refine Calls.mono h fun e w' hx => ?_
 obtain ⟨x, rfl, hr⟩ := hx
 exact hK x w' hr
theorem setCell_setRow {w : World} {b o : Nat} {c : Array Value} {e : TypeId} {fz : Nat × Nat} (hb : w.heap[b]? = some (.cells c e fz)) (ho : o < c.size) (v : Value) :
   w.setCell ⟨b, o, none⟩ v = w.setRow b (c.toList.take o ++ [v] ++ c.toList.drop (o + 1)).toArray := by
 unfold World.setCell World.setRow
 congr 1
 apply Array.ext_getElem?
 intro i
 rw [Array.getElem?_modify, Array.getElem?_modify]
 split
 · rename_i hi
   subst hi
   rw [hb]
   simp only [Option.map_some, Option.isSome_none, Bool.false_eq_true, if_false, Option.some.injEq, Obj.cells.injEq, and_self, and_true]
   apply Array.ext'
   rw [Array.toList_setIfInBounds, List.set_eq_take_append_cons_drop, if_pos (by simpa using ho)]
   simp
 · rfl
def AH.own2 (h : AH) (T : TypeId) (r : Ref) : Option (AV × AV) :=
 match h.rows[r.id]? with
 | some row => bif !row.ro && decide (row.ty = some (T, 2)) && Nat.beq r.off 0 && Nat.beq r.gen row.gen then
     (match row.cells with
     | [a, b] => some (a, b)
     | _ => .none) else .none
 | .none => .none
def copyCheckX (T : TypeId) : List AV → AH → Option (AV × AH)
 | [.ptr (.mk r l)], h => (h.own2 T r).bind fun ab => match ab.1 with
   | .ptr .nil => (h.store r [.ptr (.mk r l)]).map fun h => (.tup [], h)
   | .ptr (.mk r' _) => bif Nat.beq r'.id r.id && Nat.beq r'.gen r.gen && Nat.beq r'.off 0 then some (.tup [], h) else none
   | _ => none
 | _, _ => none
theorem own2_ok {h : AH} {T : TypeId} {r : Ref} {l : Nat} {a b : AV} (ho : h.own2 T r = some (a, b)) {μ : Mu} {w : World} (hr : HRel μ B h w) {x : Value} (hx : VRel μ (.ptr (.mk r l)) x) :
   ∃ ii gi row c, x = .pointer (some ⟨gi.block, 0, none⟩) ∧ μ.rows[r.id]? = some ii ∧ ii.gens[r.gen]? = some gi ∧ h.rows[r.id]? = some row ∧ row.ro = false ∧ r.gen = row.gen ∧ r.off = 0 ∧ row.cells = [a, b] ∧
     gi.off = 0 ∧ gi.lo = 0 ∧ c.size = 2 ∧ (∃ fz, w.heap[gi.block]? = some (.cells c T fz) ∧ FzOk 2 fz) ∧ B ≤ gi.block ∧
     (∃ d, c[0]? = some d ∧ VRel μ a d) ∧ ∃ d, c[1]? = some d ∧ VRel μ b d := by
 unfold AH.own2 at ho
 split at ho
 case h_2 => cases ho
 rename_i row hrow
 rw [Bool.cond_eq_ite] at ho
 split at ho
 case isFalse => cases ho
 rename_i hc
 simp only [Bool.and_eq_true, Bool.not_eq_true', decide_eq_true_eq, nbeq] at hc
 obtain ⟨⟨⟨hro, hty⟩, hoff⟩, hgen⟩ := hc
 split at ho
 case h_2 => cases ho
 rename_i a' b' hcells
 cases ho
 cases hx with
 | @ptr _ _ ii gi k1 k2 k3 k4 =>
   have hR := hr.row _ ii row k1 hrow
   have hG := hR.gen _ gi k2
   obtain ⟨c, e, fz, b1, b2, bt, b3, b4⟩ := hG.block
   obtain ⟨rfl, t2, t3, t4⟩ := bt _ hty
   have hsz : gi.size = 2 := t4 (by simp)
   obtain ⟨hB, hfz⟩ := b3 hro
   have hval : row.valid ≤ r.gen := by rw [hgen]; exact hR.val
   obtain ⟨b5, b6⟩ := b4 hval
   have hext : gi.ext = 2 := by
     have := hR.cur gi (by rw [← hgen]; exact k2)
     rw [hcells] at this
     exact this
   obtain ⟨d0, p1, p2, _⟩ := b6 0 _ (by omega) (by omega) (by rw [hcells]; rfl)
   obtain ⟨d1, p3, p4, _⟩ := b6 1 _ (by omega) (by omega) (by rw [hcells]; rfl)
   refine ⟨ii, gi, row, c, ?_, k1, k2, hrow, hro, hgen, hoff, hcells, t2, t3, by rw [b2, hsz], ⟨fz, b1, by rw [← hsz]; exact hfz⟩, hB, ⟨d0, ?_, p2⟩, d1, ?_, p4⟩
   · simp only [GenInfo.spot, t2, t3, hoff]
   · rw [t2, t3] at p1; exact p1
   · rw [t2, t3] at p3; exact p3
theorem pair_xs {xs : Array Value} (h : 1 = xs.size) : ∃ x, xs = #[x] := by
 obtain ⟨l⟩ := xs
 match l, h with
 | [a], _ => exact ⟨a, rfl⟩
theorem copyCheckX_ok {ρ : Ren} (L : Lays.n240 P ρ) (X : Builder.X72 P ρ) (hq : q = false)
   {args : List AV} {h h' : AH} {v : AV} (hk : copyCheckX (ρ.t 72) args h = some (v, h')) {μ : Mu} {w : World} {xs : Array Value} (hr : HRel μ B h w) (hl : args.length = xs.size) (hxs : ∀ (i : Nat) u x, args[i]? = some u → xs[i]? = some x → VRel μ u x) :
   CallRes P (ρ.f 240) xs w fun x w' => ∃ μ', μ.le μ' ∧ VRel μ' v x ∧ HRel μ' B h' w' ∧ Below B w w' ∧ (q = true → Below w.heap.size w w') := by
 unfold copyCheckX at hk
 split at hk
 case h_2 => cases hk
 rename_i r l
 obtain ⟨x, rfl⟩ := pair_xs hl
 have hv := hxs 0 _ x rfl rfl
 cases ho : h.own2 (ρ.t 72) r with
 | none => rw [ho] at hk; cases hk
 | some ab =>
   obtain ⟨a, b⟩ := ab
   rw [ho, o_bd] at hk
   obtain ⟨ii, gi, row, c, rfl, k1, k2, hrow, hro, hgen, hoff, hcells, t2, t3, hc2, ⟨fz, hb, hfz⟩, hB, ⟨d0, p1, p2⟩, _⟩ := own2_ok ho hr hv
   have hcell : w.cell? ⟨gi.block, 0, none⟩ = some d0 := by rw [Lib.cell_of_heap hb]; exact p1
   have hsh : w.shape? gi.block = some (ρ.t 72, 2) := by simp [World.shape?, hb, hc2]
   have htup : ∀ {μ : Mu}, VRel μ (.tup []) (.tuple #[]) := .tup rfl (by intro i c d h; simp at h)
   split at hk
   · rename_i heq
     simp only at heq
     subst heq
     have hd0 : d0 = .pointer none := by cases p2; rfl
     subst hd0
     have hfrz : w.frozen? ⟨gi.block, 0, none⟩ = false := by
       have := hfz.not (o := 0) (by omega)
       simp [World.frozen?, hb]
       omega
     have hst : h.store r [.ptr (.mk r l)] = some (h.setRow r.id { row with cells := AH.overlay row.cells r.off [.ptr (.mk r l)], valid := row.gen }) := by
       unfold AH.store
       rw [hrow]
       simp only [hro, Bool.not_false, Bool.true_and, hgen, Nat.beq_refl, hoff, hcells, List.length_cons, List.length_nil]
       rfl
     rw [hst] at hk
     simp only [Option.map_some, Option.some.injEq, Prod.mk.injEq] at hk
     obtain ⟨rfl, rfl⟩ := hk
     have hrel := hr.store k1 hrow (by rw [← hgen]; exact k2) hro hb (off := r.off) (vs := [.ptr (.mk r l)]) (ds := [.pointer (some ⟨gi.block, 0, none⟩)]) (by rw [t3]; exact Nat.zero_le _) (by rw [hoff, hcells]; simp) ⟨⟨rfl, fun i u d hu hd => by
       match i with
       | 0 => cases hu; cases hd; exact hv
       | i + 1 => cases hu⟩, fun d hd => by rw [List.mem_singleton.1 hd]; rfl⟩
     have e1 := setCell_setRow hb (o := 0) (by omega) (.pointer (some ⟨gi.block, 0, none⟩))
     rw [show gi.off + (r.off - gi.lo) = 0 by omega] at hrel
     refine callRes_of_calls L.f240 rfl (by kernel_rfl) ((Any.Builder_copyCheck_fresh L X gi.block w hcell hsh hfrz).mono fun e w' he => ?_)
     obtain ⟨rfl, rfl⟩ := he
     rw [e1]
     exact ⟨_, rfl, μ, μ.le_refl, htup, hrel, below_setRow hB _, fun h9 => by rw [hq] at h9; cases h9⟩
   · rename_i r' l' heq
     simp only at heq
     subst heq
     rw [Bool.cond_eq_ite] at hk
     split at hk
     case isFalse => cases hk
     rename_i hc
     simp only [Bool.and_eq_true, nbeq] at hc
     obtain ⟨⟨c1, c2⟩, c3⟩ := hc
     cases hk
     have hd0 : d0 = .pointer (some ⟨gi.block, 0, none⟩) := by
       cases p2 with
       | @ptr _ _ ii' gi' m1 m2 m3 m4 =>
         rw [c1, k1] at m1; cases m1
         rw [c2, k2] at m2; cases m2
         simp only [GenInfo.spot, t2, t3, c3]
     subst hd0
     refine callRes_of_calls L.f240 rfl (by kernel_rfl) ((Any.Builder_copyCheck_used L X gi.block w hcell).mono fun e w' he => ?_)
     obtain ⟨rfl, rfl⟩ := he
     exact ⟨_, rfl, μ, μ.le_refl, htup, hr, Below.refl _ _, fun _ => Below.refl _ _⟩
   · cases hk
def u8s : List AV → Option (List UInt8)
 | [] => some []
 | v :: vs => match v with
   | .int .u8 n => bif decide (0 ≤ n) && decide (n < 256) then (u8s vs).map (UInt8.ofNat n.toNat :: ·) else none
   | _ => none
theorem u8s_get : ∀ {cs : List AV} {bs : List UInt8}, u8s cs = some bs → cs.length = bs.length ∧ ∀ (j : Nat) x, bs[j]? = some x → cs[j]? = some (.int .u8 x.toNat)
 | [], bs, h => by cases h; exact ⟨rfl, fun j x hx => by cases hx⟩
 | v :: vs, bs, h => by
   unfold u8s at h
   split at h
   case h_2 => cases h
   rename_i n
   rw [Bool.cond_eq_ite] at h
   split at h
   case isFalse => cases h
   rename_i hn
   simp only [Bool.and_eq_true, decide_eq_true_eq] at hn
   cases hu : u8s vs with
   | none => rw [hu] at h; cases h
   | some bs' =>
     rw [hu, Option.map_some] at h
     cases h
     obtain ⟨h1, h2⟩ := u8s_get hu
     refine ⟨by simp [h1], fun j x hx => ?_⟩
     match j with
     | 0 =>
       cases hx
       simp only [List.getElem?_cons_zero, Option.some.injEq, AV.int.injEq, true_and]
       have : n.toNat < 256 := by omega
       simp [Nat.mod_eq_of_lt this]
       omega
     | j + 1 => exact h2 j x hx
theorem freeze_heap2 (w : World) (b n : Nat) {c : Array Value} {e : TypeId} {fz : Nat × Nat} (hb : w.heap[b]? = some (.cells c e fz)) : ∃ fz', ∀ k, (w.freeze ⟨b, 0, none⟩ n).heap[k]? = if k = b then some (.cells c e fz') else w.heap[k]? := by
 unfold World.freeze
 split
 · exact ⟨fz, fun k => by split; · rename_i hk; rw [hk, hb]
                          · rfl⟩
 · refine ⟨if fz.1 == fz.2 then (0, 0 + n) else (min fz.1 0, max fz.2 (0 + n)), fun k => ?_⟩
   simp only [Array.getElem?_modify]
   by_cases hk : k = b
   · subst hk
     rw [if_pos rfl, if_pos rfl, hb]
     rfl
   · rw [if_neg (fun e => hk e.symm), if_neg hk]
theorem HRel.freezeRo {μ : Mu} {h : AH} {w : World} (hr : HRel μ B h w) {b n : Nat} {c : Array Value} {e : TypeId} {fz : Nat × Nat} (hb : w.heap[b]? = some (.cells c e fz)) (hB : B ≤ b)
   (hro : ∀ (i : Nat) ii row (g : Nat) gi, μ.rows[i]? = some ii → h.rows[i]? = some row → ii.gens[g]? = some gi → gi.block = b → row.ro = true) (htok : ∀ k a, μ.tok k = some a → a.block ≠ b) :
   HRel μ B h (w.freeze ⟨b, 0, none⟩ n) ∧ Below B w (w.freeze ⟨b, 0, none⟩ n) := by
 obtain ⟨fz', hheap⟩ := freeze_heap2 w b n hb
 have hsize : (w.freeze ⟨b, 0, none⟩ n).heap.size = w.heap.size := by
   unfold World.freeze
   split
   · rfl
   · simp
 refine ⟨⟨by rw [hsize]; exact hr.base, hr.rlen, hr.mlen, fun j jj row' hj hrow' => ?_, hr.sep, fun m b' es hm he => ?_, hr.msep, ⟨by rw [hsize]; exact hr.fz.low, fun b' arr hba => ?_, fun k a hk => ?_, hr.fz.tinj⟩, hr.lb, hr.roz⟩, Lib.below_freeze (Below.refl B w) (p := ⟨b, 0, none⟩) hB n⟩
 · have hR := hr.row j jj row' hj hrow'
   refine ⟨hR.len, hR.val, hR.sz, hR.cur, fun g' gj hgj => ?_, hR.same⟩
   have hG' := hR.gen g' gj hgj
   by_cases hbl : gj.block = b
   · have h9 := hro j jj row' g' gj hj hrow' hgj hbl
     obtain ⟨h1, h2, c1, e1, fz1, k1, k2, kt, k3, k4⟩ := hG'
     rw [hbl, hb] at k1
     cases k1
     exact ⟨h1, h2, c, e, _, by rw [hheap, if_pos hbl], k2, kt, (fun h0 => by rw [h9] at h0; cases h0), k4⟩
   · exact hG'.of_block (by rw [hheap, if_neg hbl])
 · obtain ⟨h1, ds, clock, h2, h3⟩ := hr.map m b' es hm he
   refine ⟨h1, ds, clock, ?_, h3⟩
   rw [hheap, if_neg, h2]
   rintro rfl
   rw [hb] at h2
   cases h2
 · obtain ⟨⟨e1, fz1, h1⟩, h2⟩ := hr.fz.frz b' arr hba
   refine ⟨?_, h2⟩
   rw [hheap]
   split
   · rename_i hk
     subst hk
     rw [hb] at h1
     cases h1
     exact ⟨_, _, rfl⟩
   · exact ⟨_, _, h1⟩
 · obtain ⟨h1, c1, e1, h2⟩ := hr.fz.tok k a hk
   exact ⟨h1, c1, e1, by rw [hheap, if_neg (htok k a hk)]; exact h2⟩
set_option maxHeartbeats 1000000 in
set_option maxRecDepth 100000 in
theorem Builder_String_exact {ρ : Ren} (L : Lays.n169 P ρ) (X : Builder.Extra P ρ) (b g cap cells : Nat) (l : List UInt8) (w : World) (hc : w.cell? ⟨b, 1, none⟩ = some (.slice (some ⟨g, 0, none⟩) l.length cap)) (h0 : l ≠ []) (hcap : cap ≠ 0) (h63 : l.length ≤ 9223372036854775807)
   (hsh : w.shape? g = some (ρ.t 5, cells)) (hn : l.length ≤ cells) (hcell : ∀ j x, l[j]? = some x → w.cell? ((⟨g, 0, none⟩ : Addr).add j) = some (.int .u8 x.toNat)) :
   Calls P (ρ.f 169) #[.pointer (some ⟨b, 0, none⟩)] w fun e w' => e = .returned (.string ⟨l.toArray⟩) ∧ w' = w.drew.freeze ⟨g, 0, none⟩ l.length := by
 have c1 : w.drew.cell? ⟨b, 1, none⟩ = some (.slice (some ⟨g, 0, none⟩) l.length cap) := hc
 have hSD : (Builtin.unsafeSliceData_ #[(ρ.t 37)] (ρ.t 127) #[.slice (some ⟨g, 0, none⟩) l.length cap]).run P w.drew = .ok (.pointer (some ⟨g, 0, none⟩)) w.drew :=
   Lib.run_unsafeSliceData_row _ _ _ _ _ _ hcap
 have hUS : (Builtin.unsafeString_ #[(ρ.t 127), (ρ.t 3)] (ρ.t 9) #[.pointer (some ⟨g, 0, none⟩), .int .i64 l.length]).run P w.drew = .ok (.string ⟨l.toArray⟩) (w.drew.freeze ⟨g, 0, none⟩ l.length) :=
   Lib.run_unsafeString_row w.drew (ρ.t 127) (ρ.t 3) (ρ.t 9) (ρ.t 5) L.t127 X.cellsByte g cells hsh l h0 hn h63 hcell
 clear hc hcap
 have mixed := L.mixed
 have t72 := L.t72; have a72 := L.a72; have z72 := L.z72; have v72 := L.v72; have u72 := run_underlying L.t72
 have t70 := L.t70; have a70 := L.a70; have z70 := L.z70; have v70 := L.v70; have u70 := run_underlying L.t70
 have t37 := L.t37; have a37 := L.a37; have z37 := L.z37; have v37 := L.v37; have u37 := run_underlying L.t37
 have t127 := L.t127; have a127 := L.a127; have z127 := L.z127; have v127 := L.v127; have u127 := run_underlying L.t127
 have t3 := L.t3; have a3 := L.a3; have z3 := L.z3; have v3 := L.v3; have u3 := run_underlying L.t3
 have t9 := L.t9; have a9 := L.a9; have z9 := L.z9; have v9 := L.v9; have u9 := run_underlying L.t9
 have t5 := X.t5; have a5 := X.a5; have z5 := X.z5; have v5 := X.v5; have u5 := run_underlying X.t5
 go_enter L.f169, Body.n169_ntmps ρ
 go_wp2
 go_region_o
 all_goals (go_wp2; go_ret; exact ⟨rfl, rfl⟩)
set_option maxHeartbeats 1000000 in
set_option maxRecDepth 100000 in
theorem Builder_String_none {ρ : Ren} (L : Lays.n169 P ρ) (X : Builder.Extra P ρ) (b : Nat) (w : World) (hc : w.cell? ⟨b, 1, none⟩ = some (.slice none 0 0)) :
   Calls P (ρ.f 169) #[.pointer (some ⟨b, 0, none⟩)] w fun e w' => e = .returned (.string ⟨#[]⟩) ∧ w' = w.drew := by
 have hUS := Any.unsafeString_none L X
 have c1 : w.drew.cell? ⟨b, 1, none⟩ = some (.slice none 0 0) := hc
 have hSD : (Builtin.unsafeSliceData_ #[(ρ.t 37)] (ρ.t 127) #[.slice none 0 0]).run P w.drew = .ok (.pointer none) w.drew := rfl
 clear hc
 have mixed := L.mixed
 have t72 := L.t72; have a72 := L.a72; have z72 := L.z72; have v72 := L.v72; have u72 := run_underlying L.t72
 have t70 := L.t70; have a70 := L.a70; have z70 := L.z70; have v70 := L.v70; have u70 := run_underlying L.t70
 have t37 := L.t37; have a37 := L.a37; have z37 := L.z37; have v37 := L.v37; have u37 := run_underlying L.t37
 have t127 := L.t127; have a127 := L.a127; have z127 := L.z127; have v127 := L.v127; have u127 := run_underlying L.t127
 have t3 := L.t3; have a3 := L.a3; have z3 := L.z3; have v3 := L.v3; have u3 := run_underlying L.t3
 have t9 := L.t9; have a9 := L.a9; have z9 := L.z9; have v9 := L.v9; have u9 := run_underlying L.t9
 have t5 := X.t5; have a5 := X.a5; have z5 := X.z5; have v5 := X.v5; have u5 := run_underlying X.t5
 go_enter L.f169, Body.n169_ntmps ρ
 go_wp2
 go_region_o
 all_goals (go_wp2; go_ret; exact ⟨rfl, rfl⟩)
def stringX (T e : TypeId) : List AV → AH → Option (AV × AH)
 | [.ptr (.mk r _)], h => (h.own2 T r).bind fun ab => match ab.2 with
   | .slice .nil => some (.str ⟨#[]⟩, h)
   | .slice (.mk r' n false) => match h.rows[r'.id]? with
     | some row => bif !row.ro && decide (row.ty = some (e, 0)) && Nat.beq r'.off 0 && !Nat.beq n 0 && Nat.ble n 140737488355328 then
         (h.sliceCells 1 (.mk r' n false)).bind fun cs => (u8s cs).bind fun bs => some (.str ⟨bs.toArray⟩, h.setRow r'.id { row with ro := true })
       else .none
     | .none => .none
   | _ => .none
 | _, _ => .none
theorem stringX_ok {ρ : Ren} (L : Lays.n169 P ρ) (X : Builder.Extra P ρ) (hq : q = false)
   {args : List AV} {h h' : AH} {v : AV} (hk : stringX (ρ.t 72) (ρ.t 5) args h = some (v, h')) {μ : Mu} {w : World} {xs : Array Value} (hr : HRel μ B h w) (hl : args.length = xs.size) (hxs : ∀ (i : Nat) u x, args[i]? = some u → xs[i]? = some x → VRel μ u x) :
   CallRes P (ρ.f 169) xs w fun x w' => ∃ μ', μ.le μ' ∧ VRel μ' v x ∧ HRel μ' B h' w' ∧ Below B w w' ∧ (q = true → Below w.heap.size w w') := by
 unfold stringX at hk
 split at hk
 case h_2 => cases hk
 rename_i r l
 obtain ⟨x, rfl⟩ := pair_xs hl
 have hv := hxs 0 _ x rfl rfl
 have hrd : HRel μ B h w.drew := hr.below (Below.drew' w)
 cases ho : h.own2 (ρ.t 72) r with
 | none => rw [ho] at hk; cases hk
 | some ab =>
   obtain ⟨a, b⟩ := ab
   rw [ho, o_bd] at hk
   obtain ⟨ii, gi, row, c, rfl, k1, k2, hrow, hro, hgen, hoff, hcells, t2, t3, hc2, ⟨fz, hb, hfz⟩, hB, _, d1, p3, p4⟩ := own2_ok ho hr hv
   have hcell : w.cell? ⟨gi.block, 1, none⟩ = some d1 := by rw [Lib.cell_of_heap hb]; exact p3
   split at hk
   · rename_i heq
     simp only at heq
     subst heq
     cases hk
     have hd1 : d1 = .slice none 0 0 := by cases p4; rfl
     subst hd1
     refine callRes_of_calls L.f169 rfl (by kernel_rfl) ((Builder_String_none L X gi.block w hcell).mono fun e w' he => ?_)
     obtain ⟨rfl, rfl⟩ := he
     exact ⟨_, rfl, μ, μ.le_refl, .str, hrd, (Below.drew' w).mono hr.base, fun h9 => by rw [hq] at h9; cases h9⟩
   · rename_i r' n heq
     simp only at heq
     subst heq
     split at hk
     case h_2 => cases hk
     rename_i row' hrow'
     rw [Bool.cond_eq_ite] at hk
     split at hk
     case isFalse => cases hk
     rename_i hc
     simp only [Bool.and_eq_true, Bool.not_eq_true', decide_eq_true_eq, nbeq, nbeq_false, nble] at hc
     obtain ⟨⟨⟨⟨hro', hty⟩, hoff'⟩, hn⟩, hmax⟩ := hc
     cases hsc : h.sliceCells 1 (.mk r' n false) with
     | none => rw [hsc] at hk; cases hk
     | some cs =>
       rw [hsc, o_bd] at hk
       cases hu : u8s cs with
       | none => rw [hu] at hk; cases hk
       | some bs =>
         rw [hu, o_bd] at hk
         cases hk
         obtain ⟨u1, u2⟩ := u8s_get hu
         obtain ⟨sa, sl, sc, rfl⟩ : ∃ a l c, d1 = .slice a l c := by cases p4 <;> exact ⟨_, _, _, rfl⟩
         obtain ⟨rfl, ds, o1, o2, o3, o4⟩ := hr.sliceCells p4 hsc
         cases p4 with
         | @slice _ _ _ ii' gi' _ _ m1 m2 m3 m4 m5 m6 m7 =>
           have hR' := hr.row _ ii' row' m1 hrow'
           have hG' := hR'.gen _ gi' m2
           obtain ⟨c', e', fz', b1, b2, bt, b3, _⟩ := hG'.block
           obtain ⟨rfl, s2, s3, _⟩ := bt _ hty
           obtain ⟨hB', _⟩ := b3 hro'
           rcases m7 with h0 | ⟨rfl, m8⟩
           · have := m4
             omega
           have hspot : gi'.spot r'.off = ⟨gi'.block, 0, none⟩ := by simp only [GenInfo.spot, s2, s3, hoff']
           rw [hspot] at hcell o4
           change ds.length = sl * 1 at o2
           change sl ≤ sc at m4
           have hlen : bs.length = sl := by rw [← u1, o1.1.1, o2, Nat.mul_one]
           have hbytes : ∀ j x, bs[j]? = some x → w.cell? ((⟨gi'.block, 0, none⟩ : Addr).add j) = some (.int .u8 x.toNat) := fun j x hx => by
             obtain ⟨d, e1, e2, _⟩ := o1.get (u2 j x hx)
             have := e2.int_inv
             subst this
             exact o4 _ rfl j _ e1
           have hsize : bs.length ≤ c'.size := by
             have h1 : sl - 1 < bs.length := by omega
             have h2 := hbytes (sl - 1) _ (List.getElem?_eq_getElem h1)
             rw [show (⟨gi'.block, 0, none⟩ : Addr).add (sl - 1) = ⟨gi'.block, sl - 1, none⟩ by simp [Addr.add]; omega, Lib.cell_of_heap b1] at h2
             have := (Array.getElem?_eq_some_iff.1 h2).1
             omega
           obtain ⟨μ', hle, hr', hfrz⟩ := hrd.fix m1 hrow' m2 (show w.drew.heap[gi'.block]? = _ from b1)
           have hro2 : ∀ (i : Nat) ii row (g : Nat) gi, μ'.rows[i]? = some ii → (h.setRow r'.id { row' with ro := true }).rows[i]? = some row → ii.gens[g]? = some gi → gi.block = gi'.block → row.ro = true := by
             intro i ii2 row2 g2 gi2 q1 q2 q3 q4
             cases hq2 : row2.ro with
             | true => rfl
             | false =>
               exfalso
               rcases setRow_get q2 with ⟨_, e2, _⟩ | ⟨hne, _⟩
               · rw [e2] at hq2; cases hq2
               · obtain ⟨ii3, w1, _, w3⟩ := hle.rows _ ii' m1
                 have hlt := (List.getElem?_eq_some_iff.1 hrow').1
                 exact hr'.sep i r'.id ii2 ii3 row2 { row' with ro := true } g2 r'.gen gi2 gi' hne q1 w1 q2 (by simp [AH.setRow, hlt]) (.inl hq2) q3 (w3 _ _ m2) q4
           have htok2 : ∀ k a, μ'.tok k = some a → a.block ≠ gi'.block := fun k a hk => by
             rw [hle.tok] at hk
             obtain ⟨⟨arr, ha⟩, _⟩ := hr.fz.tok k a hk
             exact fun e9 => (hr.fz.frz _ arr ha).2 _ _ _ _ gi' m1 hrow' hro' m2 e9.symm
           obtain ⟨hr2, hb2⟩ := hr'.freezeRo (n := bs.length) (show w.drew.heap[gi'.block]? = _ from b1) hB' hro2 htok2
           refine callRes_of_calls L.f169 rfl (by kernel_rfl) ((Builder_String_exact L X gi.block gi'.block sc c'.size bs w (by rw [hlen]; exact hcell) (fun e9 => by rw [e9] at hlen; exact hn hlen.symm) (by omega) (by omega) (by simp [World.shape?, b1]) hsize hbytes).mono fun e w' he => ?_)
           obtain ⟨rfl, rfl⟩ := he
           exact ⟨_, rfl, μ', hle, .str, hr2, ((Below.drew' w).mono hr.base).trans hb2, fun h9 => by rw [hq] at h9; cases h9⟩
   · cases hk
def strsFrom : List AV → Option (List ByteArray)
 | [] => some []
 | v :: vs => match v with
   | .str s => (strsFrom vs).map (s :: ·)
   | _ => none
theorem strsFrom_eq : ∀ {cs : List AV} {xs : List ByteArray}, strsFrom cs = some xs → cs = xs.map .str
 | [], xs, h => by cases h; rfl
 | v :: vs, xs, h => by
   unfold strsFrom at h
   split at h
   case h_2 => cases h
   rename_i s
   cases hu : strsFrom vs with
   | none => rw [hu] at h; cases h
   | some r =>
     rw [hu] at h
     cases h
     rw [List.map_cons, strsFrom_eq hu]
def joinB (xs : List ByteArray) (sep : ByteArray) : List UInt8 := Lib.join (xs.map (·.data.toList)) sep.data.toList
def joinX : List AV → AH → Option (AV × AH)
 | [.slice s, .str sep], h => (h.sliceCells 1 s).bind fun cs => (strsFrom cs).bind fun xs =>
     bif Nat.ble xs.length 140737488355328 && Nat.ble (joinB xs sep).length 140737488355328 then some (.str ⟨(joinB xs sep).toArray⟩, h) else .none
 | _, _ => .none
theorem joinX_ok {ρ : Ren} (L : Lays.n156 P ρ) (X : Builder.Extra P ρ)
   {args : List AV} {h h' : AH} {v : AV} (hk : joinX args h = some (v, h')) {μ : Mu} {w : World} {xs : Array Value} (hr : HRel μ B h w) (hl : args.length = xs.size) (hxs : ∀ (i : Nat) u x, args[i]? = some u → xs[i]? = some x → VRel μ u x) :
   CallRes P (ρ.f 156) xs w fun x w' => ∃ μ', μ.le μ' ∧ VRel μ' v x ∧ HRel μ' B h' w' ∧ Below B w w' ∧ (q = true → Below w.heap.size w w') := by
 unfold joinX at hk
 split at hk
 case h_2 => cases hk
 rename_i s sep
 obtain ⟨x0, x1, rfl⟩ : ∃ x0 x1, xs = #[x0, x1] := by
   obtain ⟨l⟩ := xs
   match l, hl with
   | [a, b], _ => exact ⟨a, b, rfl⟩
 have v0 := hxs 0 _ x0 rfl rfl
 have v1 := hxs 1 _ x1 rfl rfl
 obtain rfl := v1.str_inv
 cases hc : h.sliceCells 1 s with
 | none => rw [hc] at hk; cases hk
 | some cs =>
   rw [hc, o_bd] at hk
   cases hs : strsFrom cs with
   | none => rw [hs] at hk; cases hk
   | some ys =>
     rw [hs, o_bd, Bool.cond_eq_ite] at hk
     split at hk
     case isFalse => cases hk
     rename_i hb
     simp only [Bool.and_eq_true, nble] at hb
     obtain ⟨hb1, hb2⟩ := hb
     cases hk
     obtain rfl := strsFrom_eq hs
     obtain ⟨a, len, cap, rfl, hcap⟩ : ∃ a l c, x0 = .slice a l c ∧ l ≤ c := by
       cases v0 <;> first | exact ⟨_, _, _, rfl, by assumption⟩ | exact ⟨_, _, _, rfl, Nat.zero_le _⟩
     obtain ⟨_, ds, o1, o2, o3, o4⟩ := hr.sliceCells v0 hc
     rw [Nat.mul_one] at o2
     have hyl : ys.length = len := by have := o1.1.1; simp at this; omega
     have fin : ∀ e w', e = Ending.returned (.string ⟨(joinB ys sep).toArray⟩) ∧ Below w.heap.size w w' → ∃ x, e = .returned x ∧ ∃ μ', μ.le μ' ∧ VRel μ' (.str ⟨(joinB ys sep).toArray⟩) x ∧ HRel μ' B h w' ∧ Below B w w' ∧ (q = true → Below w.heap.size w w') :=
       fun e w' he => ⟨_, he.1, μ, μ.le_refl, .str, hr.below he.2, he.2.mono hr.base, fun _ => he.2⟩
     by_cases h0 : len = 0
     · subst h0
       obtain rfl : ys = [] := by cases ys with
         | nil => rfl
         | cons y r => cases hyl
       refine callRes_of_calls L.f156 rfl (by kernel_rfl) ((Any.strings_Join_none L X a cap sep w).mono fun e w' he => fin e w' ⟨he.1, ?_⟩)
       rw [he.2]
       exact Below.refl _ _
     · cases a with
       | none => exact absurd (o3 rfl) h0
       | some ad =>
         have hcells : ∀ (j : Nat) x, ys[j]? = some x → w.cell? (ad.add j) = some (.string x) := fun j x hx => by
           obtain ⟨d, e1, e2, _⟩ := o1.get (i := j) (v := .str x) (by rw [List.getElem?_map, hx]; rfl)
           obtain rfl := e2.str_inv
           exact o4 _ rfl j _ e1
         obtain ⟨bk, off, spot⟩ := ad
         have h1 := hcells 0 ys[0] (List.getElem?_eq_getElem (by omega))
         have hspot : spot = .none ∧ bk < w.heap.size := by
           have h2 : w.cell? (Addr.mk bk off spot) = .some (.string ys[0]) := by simpa [Addr.add] using h1
           unfold World.cell? at h2
           simp only at h2
           split at h2
           · rename_i c e fz h9
             refine ⟨?_, (Array.getElem?_eq_some_iff.1 h9).1⟩
             cases spot with
             | none => rfl
             | some s => simp at h2
           · cases h2
         obtain ⟨rfl, hbk⟩ := hspot
         rw [← hyl]
         refine callRes_of_calls L.f156 rfl (by kernel_rfl) ((Any.strings_Join L X bk off cap ys sep w (fun j x hx => by
           have h3 := hcells j x hx
           by_cases hj : j = 0
           · subst hj; simpa [Addr.add] using h3
           · simpa [Addr.add, hj] using h3) hbk hb1 (by omega) hb2).mono fun e w' he => fin e w' he)
end
end Go.Proofs.YtjagkijfngokaaaGreatDoor
