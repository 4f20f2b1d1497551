/-
 The other operations that call no Go function; all of them.
-/
import Derived.Test.YtjagkijfngokaaaGreatDoorBm8
namespace Go.Proofs.YtjagkijfngokaaaGreatDoor
open Go.RowKit
section
variable {P : Program} {C : Ctx} {B : Nat} {q : Bool} {h : AH} {μ : Mu} {w : World} {v : AV}
theorem copy_ok (hT : TypesOk P C) {t u ty : TypeId} {i e : TInfo} (hi : C.info t = some i) (hs : i.ty = .slice) (he : C.info i.elem = some e) (hp : (e.ty.isAgg || e.ty.isOne) = true) (hr : HRel μ B h w)
   {s s2 : Sl} {h' : AH} {xs : List AV} {X A : Value} (hx : VRel μ (.slice s2) X) (hxs : h.sliceCells e.size s2 = some xs) (hv : VRel μ (.slice s) A) (ha : h.copy q e.size s (min s2.len s.len) xs = some h') :
   ∃ w', (Builtin.copy_ #[t, u] ty #[A, X]).run P w = .ok (.int .i64 (min s2.len s.len : Nat)) w' ∧ HRel μ B h' w' ∧ Below B w w' ∧ (q = true → Below w.heap.size w w') := by
 have hpl := ATy.one_or_agg hp
 have hu := hT.slice hi hs
 obtain ⟨j, _, z, hj, _, hjs, hjb, hne, _⟩ := hT.get he hpl
 obtain ⟨a2, len2, cap2, rfl⟩ : ∃ a l c, X = .slice a l c := by cases hx <;> exact ⟨_, _, _, rfl⟩
 obtain ⟨rfl, ds, o1, o2, o3, o4⟩ := hr.sliceCells hx hxs
 obtain ⟨a1, len1, cap1, rfl⟩ : ∃ a l c, A = .slice a l c := by cases hv <;> exact ⟨_, _, _, rfl⟩
 have hl1 : len1 = s.len := by cases hv <;> rfl
 subst hl1
 have hmin : ∀ n : Nat, n = Nat.min s2.len s.len → n ≤ s2.len ∧ n ≤ s.len := fun n h => by subst h; exact ⟨Nat.min_le_left _ _, Nat.min_le_right _ _⟩
 generalize hm : min s2.len s.len = m at ha ⊢
 have hm' : Nat.min s2.len s.len = m := hm
 obtain ⟨m1, m2⟩ := hmin m hm'.symm
 have hfc : (Builtin.firstCells e.size m (.slice a2 s2.len cap2)).run P w = .ok (ds.take (m * e.size)).toArray w := by
   cases a2 with
   | none =>
     have h0 := o3 rfl
     have : ds = [] := by rw [h0] at o2; simpa using o2
     subst this
     simp [Builtin.firstCells]
   | some ad =>
     refine run_firstCells_at w (ds := ds.take (m * e.size)) ?_ (fun j x hx => o4 ad rfl j x ?_) w rfl
     · rw [List.length_take, o2]; apply Nat.min_eq_left; exact Nat.mul_le_mul_right _ m1
     · rw [List.getElem?_take] at hx
       split at hx
       · exact hx
       · cases hx
 unfold AH.copy at ha
 rw [Bool.cond_eq_ite] at ha
 have hmul : m * e.size ≤ s2.len * e.size := Nat.mul_le_mul_right _ m1
 split at ha
 · rename_i h0
   rw [nbeq] at h0
   subst h0
   simp at ha
   subst ha
   simp only [Nat.zero_mul, List.take_zero] at hfc
   refine ⟨w, ?_, hr, Below.refl _ _, fun _ => Below.refl _ _⟩
   cases a1 <;> simp [Builtin.copy_, run_underlying hu, Builtin.lenOf, sizeOf, typeInfo, hj, hjs, hm', hfc, storeCells, goInt]
 · rename_i h0
   rw [nbeq] at h0
   cases hv with
   | nilslice => simp at ha
   | noslice => simp only [Sl.len] at m2; omega
   | lst0 => simp at ha
   | lst => simp at ha
   | @slice r len clip ii gi ad cap k1 k2 k3 k4 k5 k6 k7 =>
     simp only at ha
     rw [Bool.cond_eq_ite] at ha
     split at ha
     · cases ha
     rename_i hq
     split at ha
     case h_2 => cases ha
     rename_i row hrow
     rw [Bool.cond_eq_ite] at ha
     split at ha
     case isFalse => cases ha
     simp only [Sl.len] at m2
     rcases k7 with h9 | ⟨rfl, _⟩
     · omega
     · obtain ⟨w', hrun, hr', hb⟩ := hr.storeCells (P := P) k1 k2 k3 (o1.take (m * e.size)) ha
       refine ⟨w', ?_, hr', hb, fun h9 => absurd h9 hq⟩
       simp [Builtin.copy_, run_underlying hu, Builtin.lenOf, sizeOf, typeInfo, hj, hjs, hm', hfc, hrun, goInt]
theorem clear_ok (hT : TypesOk P C) {t ty : TypeId} {i e : TInfo} (hi : C.info t = some i) (hs : i.ty = .slice) (he : C.info i.elem = some e) (hp : (e.ty.isAgg || e.ty.isOne) = true) (hr : HRel μ B h w)
   {s : Sl} {h' : AH} {A : Value} (hv : VRel μ (.slice s) A) (ha : h.clear q e.zero e.size s = some h') :
   ∃ w', (Builtin.clear_ #[t] ty #[A]).run P w = .ok (.tuple #[]) w' ∧ HRel μ B h' w' ∧ Below B w w' ∧ (q = true → Below w.heap.size w w') := by
 have hpl := ATy.one_or_agg hp
 have hu := hT.slice hi hs
 obtain ⟨j, _, z, hj, _, hjs, hjb, hne, hz, hzr, hzs, _⟩ := hT.get he hpl
 unfold AH.clear at ha
 rw [Bool.cond_eq_ite] at ha
 split at ha
 · rename_i h0
   rw [nbeq] at h0
   simp at ha
   subst ha
   refine ⟨w, ?_, hr, Below.refl _ _, fun _ => Below.refl _ _⟩
   cases hv with
   | nilslice => simp [Builtin.clear_, run_underlying hu]
   | noslice => simp [Builtin.clear_, run_underlying hu]
   | @lst0 clip cap a q1 q2 => cases a <;> simp [Builtin.clear_, run_underlying hu]
   | lst => simp only [Sl.len] at h0; subst h0; simp [Builtin.clear_, run_underlying hu]
   | slice => simp only [Sl.len] at h0; subst h0; simp [Builtin.clear_, run_underlying hu]
 · rename_i h0
   rw [nbeq] at h0
   cases hv with
   | nilslice => simp at ha
   | noslice => simp [Sl.len] at h0
   | lst0 => simp at ha
   | lst => simp at ha
   | @slice r len clip ii gi ad cap k1 k2 k3 k4 k5 k6 k7 =>
     simp only at ha
     rw [Bool.cond_eq_ite] at ha
     split at ha
     · cases ha
     rename_i hq
     split at ha
     case h_2 => cases ha
     rename_i row hrow
     rw [Bool.cond_eq_ite] at ha
     split at ha
     case isFalse => cases ha
     simp only [Sl.len] at h0
     rcases k7 with h9 | ⟨rfl, _⟩
     · omega
     · have hcr := repeat_rel (hzr μ) len
       obtain ⟨w', hrun, hr', hb⟩ := hr.storeCells (P := P) k1 k2 k3 hcr ha
       refine ⟨w', ?_, hr', hb, fun h9 => absurd h9 hq⟩
       obtain ⟨m, rfl⟩ : ∃ m, len = m + 1 := ⟨len - 1, by omega⟩
       have hrun' : (storeCells (gi.spot r.off) (Builtin.zeroCells z.cells (m + 1)).toList).run P w = .ok () w' := hrun
       simp [Builtin.clear_, run_underlying hu, zeroValue, typeInfo, hj, hz, hrun']
theorem max_ok {a b v : AV} (hm : amax a b = some v) {x y : Value} (hx : VRel μ a x) (hy : VRel μ b y) (ts : Array TypeId) (ty : TypeId) : ∃ u, (Builtin.max_ ts ty #[x, y]).run P w = .ok u w ∧ VRel μ v u := by
 unfold amax at hm
 split at hm
 · rename_i kd m kd' n
   rw [Bool.cond_decide] at hm
   split at hm
   · rename_i e
     subst e
     simp at hm
     subst hm
     rw [hx.int_inv, hy.int_inv]
     refine ⟨.int kd (if m < n then n else m), by simp [Builtin.max_, Builtin.max2], ?_⟩
     rw [Bool.cond_decide]
     exact .int
   · cases hm
 · cases hm
theorem min_ok {a b v : AV} (hm : amin a b = some v) {x y : Value} (hx : VRel μ a x) (hy : VRel μ b y) (ts : Array TypeId) (ty : TypeId) : ∃ u, (Builtin.min_ ts ty #[x, y]).run P w = .ok u w ∧ VRel μ v u := by
 unfold amin at hm
 split at hm
 · rename_i kd m kd' n
   rw [Bool.cond_decide] at hm
   split at hm
   · rename_i e
     subst e
     simp at hm
     subst hm
     rw [hx.int_inv, hy.int_inv]
     refine ⟨.int kd (if n < m then n else m), by simp [Builtin.min_, Builtin.min2], ?_⟩
     rw [Bool.cond_decide]
     exact .int
   · cases hm
 · cases hm
theorem bytesOf_rel (s : ByteArray) : CRel1 μ (bytesOf s) (s.data.toList.map fun b => Value.int .u8 b.toNat) := by
 refine ⟨⟨by simp [bytesOf], fun i c d hc hd => ?_⟩, fun d hd => ?_⟩
 · unfold bytesOf at hc
   rw [List.getElem?_map] at hc hd
   cases hb : s.data.toList[i]? with
   | none => rw [hb] at hc; cases hc
   | some b => rw [hb] at hc hd; simp at hc hd; subst hc; subst hd; exact .int
 · obtain ⟨b, _, rfl⟩ := List.mem_map.1 hd
   rfl
theorem Src.str {u : TypeId} (el : TypeId) (hu : P.underlying u = some .string) (s : ByteArray) : Src P w u el (.string s) 1 s.size (s.data.toList.map fun b => Value.int .u8 b.toNat) := by
 refine ⟨.inl ⟨.inr hu, rfl, fun w' _ => ?_⟩, by simp⟩
 simp only [Builtin.firstCells]
 have h2 : (s.extract 0 s.size) = s := by
   apply ByteArray.ext
   simp
 rw [h2]
 have h3 : (s.data.map fun b => Value.int .u8 b.toNat) = (s.data.toList.map fun b => Value.int .u8 b.toNat).toArray := by
   apply Array.ext'
   simp
 rw [h3]
 rfl
theorem bytesFrom_ok : ∀ {cs : List AV} {ds : List Value} {bs : List UInt8}, CRel1 μ cs ds → bytesFrom cs = some bs → ∃ ns : List Int, ds = ns.map (Value.int .u8) ∧ bs = ns.map fun n => UInt8.ofNat n.toNat
 | [], [], bs, _, h => by simp [bytesFrom] at h; subst h; exact ⟨[], rfl, rfl⟩
 | [], _ :: _, _, hc, _ => by have := hc.1.1; simp at this
 | _ :: _, [], _, hc, _ => by have := hc.1.1; simp at this
 | c :: cs, d :: ds, bs, hc, h => by
   unfold bytesFrom at h
   split at h
   · rename_i e; cases e
   · rename_i n r e
     cases e
     cases hb : bytesFrom cs with
     | none => rw [hb] at h; cases h
     | some bs' =>
       rw [hb] at h
       simp at h
       subst h
       have h0 := hc.1.2 0 _ _ rfl rfl
       obtain rfl := h0.int_inv
       obtain ⟨ns, h1, h2⟩ := bytesFrom_ok (hc.drop 1) hb
       simp at h1
       exact ⟨n :: ns, by simp [h1], by simp [h2]⟩
   · cases h
theorem foldl_bytes : ∀ (ns : List Int) (s : ByteArray), ns.foldl (fun r n => r.push (UInt8.ofNat n.toNat)) s = ⟨(s.data.toList ++ ns.map fun n => UInt8.ofNat n.toNat).toArray⟩
 | [], s => by simp
 | n :: ns, s => by
   rw [List.foldl_cons, foldl_bytes ns]
   simp [ByteArray.push]
theorem conv_ok (hT : TypesOk P C) {β : Type} {src dst : TypeId} {v : AV} {k : K β} {r : β} (hk : aconv C src dst v h k = some r) :
   ∃ u h', k u h' = some r ∧ ∀ (μ : Mu) (w : World) (x : Value), HRel μ B h w → VRel μ v x →
     ∃ μ' w' y, μ.le μ' ∧ (convert src dst x).run P w = .ok y w' ∧ VRel μ' u y ∧ HRel μ' B h' w' ∧ Below w.heap.size w w' := by
 unfold aconv at hk
 split at hk
 · rename_i kd kd' n hty
   split at hk
   case h_2 => cases hk
   rename_i ks hts
   obtain ⟨i, hi, hiy⟩ := Ctx.ty_info hty (by simp)
   obtain ⟨i2, hi2, hiy2⟩ := Ctx.ty_info hts (by simp)
   refine ⟨_, _, hk, fun μ w x hr hv => ⟨μ, w, .int kd (kd.wrap n), μ.le_refl, ?_, .int, hr, Below.refl _ _⟩⟩
   rw [hv.int_inv]
   simp [convert, run_underlying (hT.int hi2 hiy2), run_underlying (hT.int hi hiy), Conv.intToInt]
 · rename_i s hty
   split at hk
   case h_2 => cases hk
   rename_i hts
   obtain ⟨i, hi, hiy⟩ := Ctx.ty_info hty (by simp)
   obtain ⟨i2, hi2, hiy2⟩ := Ctx.ty_info hts (by simp)
   refine ⟨_, _, hk, fun μ w x hr hv => ⟨μ, w, .string s, μ.le_refl, ?_, .str, hr, Below.refl _ _⟩⟩
   rw [hv.str_inv]
   simp [convert, run_underlying (hT.str hi2 hiy2), run_underlying (hT.str hi hiy)]
 · rename_i s hty
   split at hk
   case h_2 => cases hk
   rename_i i2 hts hi2'
   split at hk
   case h_2 => cases hk
   rename_i hte
   obtain ⟨i, hi, hiy⟩ := Ctx.ty_info hty (by simp)
   obtain ⟨i2', hi2, hiy2⟩ := Ctx.ty_info hts (by simp)
   rw [hi2'] at hi2
   cases hi2
   obtain ⟨i3, hi3, hiy3⟩ := Ctx.ty_info hte (by simp)
   have hs := hT.slice hi2' hiy2
   have he := hT.int hi3 hiy3
   have hd := hT.str hi hiy
   cases hc : h.sliceCells 1 s with
   | none => rw [hc] at hk; cases hk
   | some cs =>
     rw [hc, o_bd] at hk
     cases hb : bytesFrom cs with
     | none => rw [hb] at hk; cases hk
     | some bs =>
       rw [hb, o_bd] at hk
       refine ⟨_, _, hk, fun μ w x hr hv => ⟨μ, w, .string ⟨bs.toArray⟩, μ.le_refl, ?_, .str, hr, Below.refl _ _⟩⟩
       obtain ⟨a, len, cap, rfl⟩ : ∃ a l c, x = .slice a l c := by cases hv <;> exact ⟨_, _, _, rfl⟩
       obtain ⟨rfl, ds, o1, o2, o3, o4⟩ := hr.sliceCells hv hc
       obtain ⟨ns, rfl, rfl⟩ := bytesFrom_ok o1 hb
       cases a with
       | none =>
         have h0 := o3 rfl
         rw [h0] at o2
         have : ns = [] := by simpa using o2
         subst this
         exact run_convert_bytes_nil w src i2.elem hs he _ _ dst hd
       | some ad =>
         have hl := run_loadCells_list (P := P) w ad (ns.map (Value.int .u8)) (o4 ad rfl)
         rw [o2, Nat.mul_one] at hl
         rw [run_convert_bytes_string w src dst i2.elem _ s.len cap hs he hd, run_bytesToString w ad s.len cap ns hl, foldl_bytes]
         simp [ByteArray.empty, ByteArray.emptyWithCapacity]
         rfl
 · rename_i s hty
   split at hk
   case h_2 => cases hk
   rename_i i hts hi'
   split at hk
   case h_2 => cases hk
   rename_i hte
   obtain ⟨i', hi, hiy⟩ := Ctx.ty_info hty (by simp)
   rw [hi'] at hi
   cases hi
   obtain ⟨i2, hi2, hiy2⟩ := Ctx.ty_info hts (by simp)
   obtain ⟨i3, hi3, hiy3⟩ := Ctx.ty_info hte (by simp)
   have hd := hT.slice hi' hiy
   have he := hT.int hi3 hiy3
   have hs := hT.str hi2 hiy2
   refine ⟨_, _, hk, fun μ w x hr hv => ?_⟩
   rw [hv.str_inv]
   have hrun := run_bytes_of_string (P := P) w src dst i.elem s hs hd he
   have hge := grownCap_ge w s.size 0 i.elem
   generalize grownCap w s.size 0 i.elem = cap at hrun hge
   have hb1 : Below w.heap.size w w.drew := Below.drew' w
   have hr1 := hr.below hb1
   have hrow : bytesRow s cap = ((s.data.toList.map fun b : UInt8 => Value.int .u8 b.toNat) ++ List.replicate (cap - s.size) (Value.int .u8 0)).toArray := by
     unfold bytesRow
     apply Array.ext'
     simp
   have hsz : (bytesRow s cap).size = cap := by rw [hrow]; simp; omega
   obtain ⟨μ', hle, hr', _, hsl⟩ := hr1.newRow 1 (List.replicate (cap - s.size) (Value.int .u8 0)) i.elem ((bytesRow s cap).size, (bytesRow s cap).size + 1) (bytesOf_rel s) (.inr (by
     simp only [hsz, List.length_map, List.length_replicate, Array.length_toList]
     have : s.data.size = s.size := rfl
     omega))
   rw [← hrow] at hr'
   refine ⟨μ', _, _, hle, hrun, hsl s.size cap false hge (fun h => by cases h) (by simp [bytesOf]) (by simp; omega), hr', hb1.trans (below_alloc' w.drew _)⟩
 · cases hk
theorem freeze_heap (w : World) (b n : Nat) {c : Array Value} {e : TypeId} {fz : Nat × Nat} (hb : w.heap[b]? = some (.cells c e fz)) (k : Nat) :
   (w.freeze ⟨b, n, none⟩ 1).heap[k]? = if k = b then some (.cells c e (if fz.1 == fz.2 then (n, n + 1) else (min fz.1 n, max fz.2 (n + 1)))) else w.heap[k]? := by
 unfold World.freeze
 rw [if_neg (by decide)]
 simp only [Array.getElem?_modify]
 by_cases hk : k = b
 · subst hk
   rw [if_pos rfl, if_pos rfl, hb]
   rfl
 · rw [if_neg (fun e => hk e.symm), if_neg hk]
theorem HRel.mark (hr : HRel μ B h w) {id g : Nat} {ii : IdInfo} {row : ARow} {gi : GenInfo} (hi : μ.rows[id]? = some ii) (hrow : h.rows[id]? = some row) (hg : ii.gens[g]? = some gi) (hro : row.ro = false) {c : Array Value} {e : TypeId} {fz : Nat × Nat} (hb : w.heap[gi.block]? = some (.cells c e fz)) :
   HRel μ B h (w.freeze ⟨gi.block, c.size, none⟩ 1) ∧ Below B w (w.freeze ⟨gi.block, c.size, none⟩ 1) := by
 have hG := (hr.row id ii row hi hrow).gen g gi hg
 obtain ⟨c0, e0, fz0, b1, b2, _, b3, b4⟩ := hG.block
 rw [hb] at b1
 cases b1
 have hB := (b3 hro).1
 have hfz := (b3 hro).2
 have hheap := freeze_heap w gi.block c.size hb
 have hsize : (w.freeze ⟨gi.block, c.size, none⟩ 1).heap.size = w.heap.size := by
   unfold World.freeze
   rw [if_neg (by decide)]
   simp
 have hnew : ∀ n, FzOk n fz → n ≤ c.size → FzOk n (if fz.1 == fz.2 then (c.size, c.size + 1) else (min fz.1 c.size, max fz.2 (c.size + 1))) := by
   intro n hn hle
   unfold FzOk at hn ⊢
   by_cases he : fz.1 = fz.2
   · simp [he]; omega
   · rcases hn with hn | hn
     · exact absurd hn he
     · right
       rw [if_neg (by simpa using he)]
       simp only
       omega
 have hne : ∀ b arr, μ.frz b = some arr → b ≠ gi.block := fun b arr hba e => (hr.fz.frz b arr hba).2 id ii row g gi hi hrow hro hg e.symm
 refine ⟨⟨by rw [hsize]; exact hr.base, hr.rlen, hr.mlen, fun j jj row' hj hrow' => ?_, hr.sep, fun m b es hm he => ?_, hr.msep,
   hr.fz.keep (by rw [hsize]; exact Nat.le_refl _) (fun b arr hba => by rw [hheap, if_neg (hne b arr hba)]) (fun b arr hba => (hr.fz.frz b arr hba).2) rfl rfl rfl, hr.lb, hr.roz⟩, rfl, rfl, rfl, by rw [hsize]; exact Nat.le_refl _, fun k hk => by rw [hheap, if_neg (by omega)]⟩
 · have hR := hr.row j jj row' hj hrow'
   refine ⟨hR.len, hR.val, hR.sz, hR.cur, fun g' gj hgj => ?_, hR.same⟩
   have hG' := hR.gen g' gj hgj
   by_cases hbl : gj.block = gi.block
   · obtain ⟨h1, h2, c1, e1, fz1, k1, k2, kt, k3, k4⟩ := hG'
     rw [hbl, hb] at k1
     cases k1
     refine ⟨h1, h2, c, e, _, by rw [hheap, if_pos hbl], k2, kt, fun h0 => ⟨(k3 h0).1, ?_⟩, k4⟩
     exact hnew _ (k3 h0).2 (by rw [k2]; exact Nat.le_refl _)
   · exact hG'.of_block (by rw [hheap, if_neg hbl])
 · obtain ⟨h1, ds, clock, h2, h3⟩ := hr.map m b es hm he
   refine ⟨h1, ds, clock, ?_, h3⟩
   rw [hheap, if_neg, h2]
   rintro rfl
   rw [hb] at h2
   cases h2
theorem convS_ok (hT : TypesOk P C) {β : Type} {src dst : TypeId} {v : AV} {k : K β} {r : β} (hts : C.ty src = .slice) (hk : aconvS C q src dst v h k = some r) :
   k v h = some r ∧ q = false ∧ ∀ (μ : Mu) (w : World) (x : Value), HRel μ B h w → VRel μ v x →
     ∃ w', (convert src dst x).run P w = .ok x w' ∧ HRel μ B h w' ∧ Below B w w' := by
 unfold aconvS at hk
 split at hk
 case h_2 => cases hk
 rename_i rf n cl
 rw [Bool.cond_eq_ite] at hk
 split at hk
 case isFalse => cases hk
 rename_i hc
 simp only [Bool.and_eq_true, Bool.not_eq_true', nbeq, nbeq_false] at hc
 obtain ⟨⟨hq, rfl⟩, hn⟩ := hc
 split at hk
 case h_2 => cases hk
 rename_i i hi
 split at hk
 case h_2 => cases hk
 rename_i hty
 rw [Bool.cond_eq_ite] at hk
 split at hk
 case isFalse => cases hk
 rename_i hown
 obtain ⟨row, hrow, hro⟩ : ∃ row, h.rows[rf.id]? = some row ∧ row.ro = false := by
   unfold AH.ownAt at hown
   split at hown
   · rename_i row hrow; exact ⟨row, hrow, by simpa using hown⟩
   · cases hown
 obtain ⟨i', hi', hiy⟩ := Ctx.ty_info hts (by simp)
 rw [hi] at hi'
 cases hi'
 obtain ⟨i2, hi2, hiy2⟩ := Ctx.ty_info hty (by simp)
 have hs := hT.slice hi hiy
 have he := hT.int hi2 hiy2
 refine ⟨hk, hq, fun μ w x hr hv => ?_⟩
 cases hv with
 | noslice => exact absurd rfl hn
 | @slice _ _ _ ii gi a cap hmi hmg hlo hlen hclip hext ha =>
   have ha' := ha.resolve_left (by omega)
   obtain ⟨c, e, fz, b1, _⟩ := ((hr.row rf.id ii row hmi hrow).gen rf.gen gi hmg).block
   obtain ⟨m1, m2⟩ := hr.mark hmi hrow hmg hro b1
   refine ⟨_, ?_, m1, m2⟩
   have hsh : w.shape? gi.block = some (e, c.size) := by unfold World.shape?; rw [b1]
   rw [ha'.1]
   simp [convert, run_underlying hs, run_underlying he, markStringish, GenInfo.spot, hsh]
end
end Go.Proofs.YtjagkijfngokaaaGreatDoor
