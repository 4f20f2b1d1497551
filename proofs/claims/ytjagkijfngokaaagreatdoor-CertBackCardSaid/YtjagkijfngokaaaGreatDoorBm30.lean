/-
 Values that speak of no row; a body that is run without a heap.
-/
import Derived.Test.YtjagkijfngokaaaGreatDoorBm12
namespace Go.Proofs.YtjagkijfngokaaaGreatDoor
open Go.RowKit
theorem closedP_mem : ∀ {l : List Pt}, closedP l = true ↔ ∀ v ∈ l, v.closed = true
 | [] => by simp [closedP]
 | v :: l => by simp [closedP, closedP_mem (l := l)]
theorem VRel.closed {μ μ' : Mu} (hf : ∀ b arr, μ.frz b = some arr → μ'.frz b = some arr) (ht : μ'.tok = μ.tok) {v : AV} {x : Value} (h : VRel μ v x) : v.closed = true → VRel μ' v x := by
 induction h with
 | bot => exact fun _ => .bot
 | bool => exact fun _ => .bool
 | int => exact fun _ => .int
 | str => exact fun _ => .str
 | nilptr => exact fun _ => .nilptr
 | ptr => intro hc; simp [AV.closed, Pt.closed] at hc
 | nilslice => exact fun _ => .nilslice
 | slice => intro hc; simp [AV.closed, Sl.closed] at hc
 | noslice => intro hc; simp [AV.closed, Sl.closed] at hc
 | empty => intro _; exact .empty
 | lst h1 h2 h3 h4 h5 _ h7 ih =>
   intro hc
   simp only [AV.closed, Sl.closed, Bool.and_eq_true, closedL_mem] at hc
   have hc := hc.2
   exact .lst (hf _ _ h1) h2 h3 h4 h5 (fun i c d hi hd => ih i c d hi hd (hc c (List.mem_of_getElem? hi))) h7
 | lst0 h1 h2 => exact fun _ => .lst0 h1 h2
 | fp h1 h2 h3 _ h5 h6 ih =>
   intro hc
   simp only [AV.closed, Pt.closed, closedL_mem] at hc
   exact .fp (hf _ _ h1) h2 h3 (fun i c d hi hd => ih i c d hi hd (hc c (List.mem_of_getElem? hi))) h5 (by rw [ht]; exact h6)
 | nilmap => exact fun _ => .nilmap
 | map => intro hc; simp [AV.closed] at hc
 | func hs _ ih =>
   intro hc
   simp only [AV.closed, closedP_mem] at hc
   exact .func hs fun i p v hp hv => ih i p v hp hv (by simpa [AV.closed] using hc p (List.mem_of_getElem? hp))
 | nilfunc => exact fun _ => .nilfunc
 | iface _ ih => intro hc; exact .iface (ih (by simpa [AV.closed] using hc))
 | nilif => exact fun _ => .nilif
 | agg hs _ ih =>
   intro hc
   simp only [AV.closed, closedL_mem] at hc
   exact .agg hs fun i c d hi hd => ih i c d hi hd (hc c (List.mem_of_getElem? hi))
 | tup hs _ ih =>
   intro hc
   simp only [AV.closed, closedL_mem] at hc
   exact .tup hs fun i c d hi hd => ih i c d hi hd (hc c (List.mem_of_getElem? hi))
theorem mapM_get {α β : Type} {f : α → Option β} : ∀ {l : List α} {us : List β}, l.mapM f = some us → us.length = l.length ∧ ∀ (i : Nat) a u, l[i]? = some a → us[i]? = some u → f a = some u
 | [], us, h => by simp at h; subst h; exact ⟨rfl, fun i a u h => by simp at h⟩
 | a :: l, us, h => by
   rw [List.mapM_cons] at h
   cases h1 : f a with
   | none => rw [h1] at h; cases h
   | some u =>
     cases h2 : l.mapM f with
     | none => rw [h1, h2] at h; cases h
     | some us' =>
       rw [h1, h2] at h
       cases h
       obtain ⟨h3, h4⟩ := mapM_get h2
       refine ⟨by simp [h3], fun i a' u' ha hu => ?_⟩
       cases i with
       | zero => simp at ha hu; subst ha; subst hu; exact h1
       | succ i => exact h4 i a' u' (by simpa using ha) (by simpa using hu)
section
variable {P : Program} {C : Ctx} {B : Nat}
theorem freeze_ok {μ μ' : Mu} {h : AH} {w : World} (hr : HRel μ B h w) (hf : ∀ b arr, μ.frz b = some arr → μ'.frz b = some arr) (ht : μ'.tok = μ.tok)
   {S : Nat → Prop} (hrow : ∀ (i : Nat) ii row (g : Nat) gi c e fz, S i → μ.rows[i]? = some ii → h.rows[i]? = some row → ii.gens[g]? = some gi → w.heap[gi.block]? = some (.cells c e fz) → μ'.frz gi.block = some c) :
   ∀ (n : Nat) {v u : AV} {x : Value}, freezeV h n v = some u → (∀ i ∈ reachV h n v, S i) → VRel μ v x → VRel μ' u x := by
 intro n
 induction n with
 | zero => intro v u x h; simp [freezeV] at h
 | succ n ih =>
   intro v u x hu hS hv
   have part : ∀ {r : Ref} {ii : IdInfo} {gi : GenInfo} {row : ARow} {m : Nat} {cs us : List AV}, μ.rows[r.id]? = some ii → ii.gens[r.gen]? = some gi → h.rows[r.id]? = some row → S r.id → (∀ c ∈ cs, ∀ i ∈ reachV h n c, S i) → gi.lo ≤ r.off → r.off + m ≤ gi.ext →
       h.span r m = some cs → cs.mapM (freezeV h n) = some us → ∃ c, μ'.frz gi.block = some c ∧ (gi.spot r.off).off + us.length ≤ c.size ∧ us.length = m ∧
         ∀ (i : Nat) u d, us[i]? = some u → c[(gi.spot r.off).off + i]? = some d → VRel μ' u d ∧ d.oneCell' = true := by
     intro r ii gi row m cs us h1 h2 h3 h4 hcs h5 h6 hs hm
     unfold AH.span at hs
     cases hlv : h.live r with
     | none => rw [hlv] at hs; cases hs
     | some row0 =>
       rw [hlv, o_bd, Bool.cond_eq_ite] at hs
       split at hs
       case isFalse => cases hs
       rename_i hle
       rw [nble] at hle
       cases hs
       obtain ⟨row', c, e, fz, k1, k2, k3, k4, k5, k6, k7, k8, k9⟩ := hr.live h1 h2 hlv
       obtain ⟨l1, l2⟩ := mapM_get hm
       have hl : us.length = m := by rw [l1]; simp; omega
       refine ⟨c, hrow _ ii row _ gi c e fz h4 h1 h3 h2 k5, ?_, hl, fun i u d hu hd => ?_⟩
       · simp only [GenInfo.spot]
         rw [k6]
         omega
       · have hi : i < m := by have := (List.getElem?_eq_some_iff.1 hu).1; omega
         have hc : ((row0.drop r.off).take m)[i]? = some row0[r.off + i] := by
           rw [List.getElem?_take, if_pos hi, List.getElem?_drop]
           exact List.getElem?_eq_getElem (by omega)
         obtain ⟨y, y1, y2, y3⟩ := k9 (r.off + i) _ (by omega) (by omega) (List.getElem?_eq_getElem (by omega : r.off + i < row0.length))
         simp only [GenInfo.spot] at hd
         have e9 : gi.off + (r.off - gi.lo) + i = gi.off + (r.off + i - gi.lo) := by omega
         rw [e9, y1] at hd
         cases hd
         exact ⟨ih (l2 i _ u hc hu) (hcs _ (List.mem_of_getElem? hc)) y2, y3⟩
   have lists : ∀ {cs us : List AV} {ds : Array Value}, (∀ c ∈ cs, ∀ i ∈ reachV h n c, S i) → cs.length = ds.size → (∀ (i : Nat) c d, cs[i]? = some c → ds[i]? = some d → VRel μ c d) → cs.mapM (freezeV h n) = some us →
       us.length = ds.size ∧ ∀ (i : Nat) c d, us[i]? = some c → ds[i]? = some d → VRel μ' c d := by
     intro cs us ds hcs h1 h2 hm
     obtain ⟨l1, l2⟩ := mapM_get hm
     refine ⟨by omega, fun i u d hu hd => ?_⟩
     have hi : i < cs.length := by have := (List.getElem?_eq_some_iff.1 hu).1; omega
     exact ih (l2 i _ u (List.getElem?_eq_getElem hi) hu) (hcs _ (List.getElem_mem hi)) (h2 i _ d (List.getElem?_eq_getElem hi) hd)
   have still : ∀ {cs us : List AV} {a : Addr} {arr : Array Value}, (∀ c ∈ cs, ∀ i ∈ reachV h n c, S i) → (cs ≠ [] → a.off + cs.length ≤ arr.size) → (∀ (i : Nat) c d, cs[i]? = some c → arr[a.off + i]? = some d → VRel μ c d) → (∀ (i : Nat) d, i < cs.length → arr[a.off + i]? = some d → d.oneCell' = true) → cs.mapM (freezeV h n) = some us →
       us.length = cs.length ∧ (us ≠ [] → a.off + us.length ≤ arr.size) ∧ (∀ (i : Nat) c d, us[i]? = some c → arr[a.off + i]? = some d → VRel μ' c d) ∧ ∀ (i : Nat) d, i < us.length → arr[a.off + i]? = some d → d.oneCell' = true := by
     intro cs us a arr hcs h1 h2 h3 hm
     obtain ⟨l1, l2⟩ := mapM_get hm
     refine ⟨l1, fun hne => ?_, fun i u d hu hd => ?_, fun i d hi hd => h3 i d (by omega) hd⟩
     · have : cs ≠ [] := by rintro rfl; exact hne (List.eq_nil_of_length_eq_zero l1)
       have := h1 this
       omega
     · have hi : i < cs.length := by have := (List.getElem?_eq_some_iff.1 hu).1; omega
       exact ih (l2 i _ u (List.getElem?_eq_getElem hi) hu) (hcs _ (List.getElem_mem hi)) (h2 i _ d (List.getElem?_eq_getElem hi) hd)
   unfold freezeV at hu
   unfold reachV at hS
   split at hu
   · rename_i s
     split at hu
     · cases hu
       cases hv
       exact .lst0 (fun h => by cases h) fun _ => rfl
     · rename_i len c cs
       simp only at hS
       rw [Bool.cond_eq_ite] at hu
       rw [Bool.cond_eq_ite] at hS
       split at hu
       · rename_i hc
         cases hu
         have : VRel μ (.slice (.lst len false cs)) x := by
           cases hv with
           | lst h1 h2 h3 h4 h5 h6 h7 => exact .lst h1 h2 h3 (fun h => by cases h) h5 h6 h7
           | lst0 h1 h2 => exact .lst0 (fun h => by cases h) h2
         exact this.closed hf ht (by simpa [AV.closed, Sl.closed] using hc)
       · rename_i hc
         rw [if_neg hc] at hS
         cases hm : cs.mapM (freezeV h n) with
         | none => rw [hm] at hu; cases hu
         | some us =>
           rw [hm] at hu
           cases hu
           have hcs : ∀ c ∈ cs, ∀ i ∈ reachV h n c, S i := fun c hc i hi => hS i (List.mem_flatMap.2 ⟨c, hc, hi⟩)
           cases hv with
           | lst h1 h2 h3 h4 h5 h6 h7 =>
             obtain ⟨s1, s2, s3, s4⟩ := still hcs h5 h6 h7 hm
             exact .lst (hf _ _ h1) h2 h3 (fun h => by cases h) s2 s3 s4
           | lst0 h1 h2 => exact absurd rfl hc
     · rename_i r len c
       simp only at hS
       rw [Bool.cond_eq_ite] at hu
       rw [Bool.cond_eq_ite] at hS
       split at hu
       · rename_i h0
         rw [nbeq] at h0
         subst h0
         cases hu
         cases hv with
         | slice => exact .lst0 (fun h => by cases h) fun h => by cases h
         | noslice => exact .lst0 (fun h => by cases h) fun h => by cases h
       · rename_i h0
         rw [if_neg h0] at hS
         rw [nbeq] at h0
         split at hu
         case h_2 => cases hu
         rename_i row hrw
         rw [hrw] at hS
         simp only at hS
         cases hs : h.sliceCells row.sz (.mk r len false) with
         | none => rw [hs] at hu; cases hu
         | some cs =>
           rw [hs, o_bd] at hu
           rw [hs] at hS
           simp only [List.mem_cons, List.mem_flatMap] at hS
           cases hm : cs.mapM (freezeV h n) with
           | none => rw [hm] at hu; cases hu
           | some us =>
             rw [hm] at hu
             cases hu
             have hspan : h.span r (len * row.sz) = some cs := by
               simp only [AH.sliceCells, Bool.cond_eq_ite, hrw] at hs
               rw [if_neg (by rw [nbeq]; exact h0), if_pos (Nat.beq_refl _)] at hs
               exact hs
             cases hv with
             | noslice => exact absurd rfl h0
             | @slice _ _ _ ii gi a cap k1 k2 k3 k4 k5 k6 k7 =>
               have hsz := (hr.row _ _ _ k1 hrw).sz
               rw [hsz] at k6
               rcases k7 with h9 | ⟨rfl, _⟩
               · omega
               obtain ⟨c9, q1, q2, q3, q4⟩ := part k1 k2 hrw (hS _ (.inl rfl)) (fun c hc i hi => hS i (.inr ⟨c, hc, hi⟩)) k3 k6 hspan hm
               exact .lst q1 rfl k4 (fun h => by cases h) (fun _ => q2) (fun i u d hu hd => (q4 i u d hu hd).1) fun i d hi hd => (q4 i _ d (List.getElem?_eq_getElem hi) hd).2
   · rename_i p
     split at hu
     · cases hu
       cases hv
       exact .nilptr
     · rename_i k cs
       simp only at hS
       rw [Bool.cond_eq_ite] at hu
       rw [Bool.cond_eq_ite] at hS
       split at hu
       · rename_i hc
         cases hu
         exact hv.closed hf ht (by simpa [AV.closed, Pt.closed] using hc)
       · rename_i hc
         rw [if_neg hc] at hS
         cases hm : cs.mapM (freezeV h n) with
         | none => rw [hm] at hu; cases hu
         | some us =>
           rw [hm] at hu
           cases hu
           have hcs : ∀ c ∈ cs, ∀ i ∈ reachV h n c, S i := fun c hc i hi => hS i (List.mem_flatMap.2 ⟨c, hc, hi⟩)
           cases hv with
           | fp h1 h2 h3 h4 h5 h6 =>
             obtain ⟨s1, s2, s3, s4⟩ := still hcs h3 h4 h5 hm
             exact .fp (hf _ _ h1) h2 s2 s3 s4 (by rw [ht]; exact h6)
     · rename_i r lim
       simp only at hS
       split at hu
       case h_2 => cases hu
       rename_i row hrw
       cases hs : h.span r (lim - r.off) with
       | none => rw [hs] at hu; cases hu
       | some cs =>
         rw [hs, o_bd] at hu
         rw [hs] at hS
         simp only [List.mem_cons, List.mem_flatMap] at hS
         cases hm : cs.mapM (freezeV h n) with
         | none => rw [hm] at hu; cases hu
         | some us =>
           rw [hm] at hu
           cases hu
           cases hv with
           | @ptr _ _ ii gi k1 k2 k3 k4 =>
             by_cases hlo : r.off ≤ lim
             · obtain ⟨c9, q1, q2, q3, q4⟩ := part k1 k2 hrw (hS _ (.inl rfl)) (fun c hc i hi => hS i (.inr ⟨c, hc, hi⟩)) k3 (by omega) hs hm
               exact .fp q1 rfl (fun _ => q2) (fun i u d hu hd => (q4 i u d hu hd).1) (fun i d hi hd => (q4 i _ d (List.getElem?_eq_getElem hi) hd).2) fun h => absurd rfl h
             · obtain ⟨c0, e0, fz0, b1, _⟩ := ((hr.row _ ii row k1 hrw).gen _ gi k2).block
               have h0 : lim - r.off = 0 := by omega
               rw [h0] at hs
               have hcs : cs = [] := by
                 unfold AH.span at hs
                 cases hlv : h.live r with
                 | none => rw [hlv] at hs; cases hs
                 | some row0 =>
                   rw [hlv, o_bd, Bool.cond_eq_ite] at hs
                   split at hs
                   · simpa using hs.symm
                   · cases hs
               subst hcs
               simp at hm
               subst hm
               exact .fp (arr := c0) (hrow _ ii row _ gi c0 e0 fz0 (hS _ (.inl rfl)) k1 hrw k2 b1) rfl (fun h => absurd rfl h) (fun i u d hu _ => by simp at hu) (fun i d hi _ => by simp at hi) fun h => absurd rfl h
   · rename_i t y
     cases hy : freezeV h n y with
     | none => rw [hy] at hu; cases hu
     | some u' =>
       rw [hy] at hu
       cases hu
       cases hv with
       | iface h1 => exact .iface (ih hy hS h1)
   · rename_i cs
     cases hm : cs.mapM (freezeV h n) with
     | none => rw [hm] at hu; cases hu
     | some us =>
       rw [hm] at hu
       cases hu
       cases hv with
       | agg h1 h2 =>
         obtain ⟨g1, g2⟩ := lists (fun c hc i hi => hS i (List.mem_flatMap.2 ⟨c, hc, hi⟩)) h1 h2 hm
         exact .agg g1 g2
   · rename_i cs
     cases hm : cs.mapM (freezeV h n) with
     | none => rw [hm] at hu; cases hu
     | some us =>
       rw [hm] at hu
       cases hu
       cases hv with
       | tup h1 h2 =>
         obtain ⟨g1, g2⟩ := lists (fun c hc i hi => hS i (List.mem_flatMap.2 ⟨c, hc, hi⟩)) h1 h2 hm
         exact .tup g1 g2
   · rw [Bool.cond_eq_ite] at hu
     split at hu
     · rename_i hc
       cases hu
       exact hv.closed hf ht hc
     · cases hu
theorem canon_ok {μ μ' : Mu} (hf : ∀ b arr, μ.frz b = some arr → μ'.frz b = some arr) (ht : μ'.tok = μ.tok) : ∀ (n : Nat) {v u : AV} {x : Value}, canonV n v = some u → VRel μ v x → VRel μ' u x := by
 intro n
 induction n with
 | zero => intro v u x h; simp [canonV] at h
 | succ n ih =>
   intro v u x hu hv
   have lists : ∀ {cs us : List AV} {ds : Array Value}, cs.length = ds.size → (∀ (i : Nat) c d, cs[i]? = some c → ds[i]? = some d → VRel μ c d) → cs.mapM (canonV n) = some us →
       us.length = ds.size ∧ ∀ (i : Nat) c d, us[i]? = some c → ds[i]? = some d → VRel μ' c d := by
     intro cs us ds h1 h2 hm
     obtain ⟨l1, l2⟩ := mapM_get hm
     refine ⟨by omega, fun i u d hu hd => ?_⟩
     have hi : i < cs.length := by have := (List.getElem?_eq_some_iff.1 hu).1; omega
     exact ih (l2 i _ u (List.getElem?_eq_getElem hi) hu) (h2 i _ d (List.getElem?_eq_getElem hi) hd)
   unfold canonV at hu
   split at hu
   · rename_i s
     split at hu
     · cases hu
       cases hv
       exact .lst0 (fun h => by cases h) fun _ => rfl
     · rename_i len c cs
       rw [Bool.cond_eq_ite] at hu
       split at hu
       case isFalse => cases hu
       rename_i hc
       cases hu
       have : VRel μ (.slice (.lst len false cs)) x := by
         cases hv with
         | lst h1 h2 h3 h4 h5 h6 h7 => exact .lst h1 h2 h3 (fun h => by cases h) h5 h6 h7
         | lst0 h1 h2 => exact .lst0 (fun h => by cases h) h2
       exact this.closed hf ht (by simpa [AV.closed, Sl.closed] using hc)
     · cases hu
   · rename_i t y
     cases hy : canonV n y with
     | none => rw [hy] at hu; cases hu
     | some u' =>
       rw [hy] at hu
       cases hu
       cases hv with
       | iface h1 => exact .iface (ih hy h1)
   · rename_i cs
     cases hm : cs.mapM (canonV n) with
     | none => rw [hm] at hu; cases hu
     | some us =>
       rw [hm] at hu
       cases hu
       cases hv with
       | agg h1 h2 =>
         obtain ⟨g1, g2⟩ := lists h1 h2 hm
         exact .agg g1 g2
   · rename_i cs
     cases hm : cs.mapM (canonV n) with
     | none => rw [hm] at hu; cases hu
     | some us =>
       rw [hm] at hu
       cases hu
       cases hv with
       | tup h1 h2 =>
         obtain ⟨g1, g2⟩ := lists h1 h2 hm
         exact .tup g1 g2
   · rw [Bool.cond_eq_ite] at hu
     split at hu
     · rename_i hc
       cases hu
       exact hv.closed hf ht hc
     · cases hu
theorem bare_ok {μ : Mu} {h : AH} {w : World} (hr : HRel μ B h w) :
   HRel { rows := [], maps := [], frz := μ.frz, tok := μ.tok, lim := w.heap.size } w.heap.size AH.none w ∧
   ∀ {μ1 : Mu} {h1 : AH} {w1 : World} {v u : AV} {x : Value}, Mu.le { rows := [], maps := [], frz := μ.frz, tok := μ.tok, lim := w.heap.size } μ1 → HRel μ1 w.heap.size h1 w1 → Below w.heap.size w w1 → VRel μ1 v x → freezeV h1 8 v = some u →
     ∃ μ', μ.le μ' ∧ VRel μ' u x ∧ HRel μ' B h w1 := by
 constructor
 · refine ⟨Nat.le_refl _, rfl, rfl, fun i ii row h => by simp at h, ?_, fun m b es h => by simp at h, fun m n b h => by simp at h, ⟨Nat.le_refl _, fun b arr hb => ⟨(hr.fz.frz b arr hb).1, fun i ii row g gi h => by simp at h⟩, hr.fz.tok, hr.fz.tinj⟩, Nat.le_refl _, fun i ii row g gi h => by simp at h⟩
   intro i j ii jj row row' g g' gi gj _ h
   simp at h
 · intro μ1 h1 w1 v u x hle hr1 hb hv hu
   have hlow : ∀ b, b < w.heap.size → μ1.frz b = μ.frz b := hle.low
   have hb1 := hr.below hb
   let fr : Nat → Option (Array Value) := fun b => if b < w.heap.size then μ.frz b else World.cellsOf w1 b
   have hkeep : ∀ b arr, μ.frz b = some arr → fr b = some arr := fun b arr hba => by
     show (if b < w.heap.size then μ.frz b else _) = _
     rw [if_pos (hr.fz.lt hba)]
     exact hba
   have hle2 : μ.le { rows := μ.rows, maps := μ.maps, frz := fr, tok := μ.tok, lim := μ.lim } := by
     refine ⟨fun i ii hi => ⟨ii, hi, rfl, fun _ _ h => h⟩, fun _ _ h => h, hkeep, fun b hbl => ?_, rfl, rfl⟩
     show (if b < w.heap.size then μ.frz b else _) = _
     rw [if_pos (Nat.lt_of_lt_of_le hbl hr.fz.low)]
   refine ⟨{ rows := μ.rows, maps := μ.maps, frz := fr, tok := μ.tok, lim := μ.lim }, hle2, ?_, ?_⟩
   · have hf1 : ∀ b arr, μ1.frz b = some arr → fr b = some arr := by
       intro b arr hba
       by_cases hlt : b < w.heap.size
       · rw [hlow b hlt] at hba
         exact hkeep b arr hba
       · show (if b < w.heap.size then μ.frz b else _) = _
         rw [if_neg hlt]
         obtain ⟨⟨e, fz, h9⟩, _⟩ := hr1.fz.frz b arr hba
         simp [World.cellsOf, h9]
     refine freeze_ok (μ' := { rows := μ.rows, maps := μ.maps, frz := fr, tok := μ.tok, lim := μ.lim }) hr1 hf1 (show μ.tok = μ1.tok from hle.tok.symm) (S := fun _ => True) (fun i ii row g gi c e fz _ hi hrw hgi hbk => ?_) 8 hu (fun _ _ => trivial) hv
     cases hro : row.ro with
     | true =>
       obtain ⟨arr, ha⟩ := hr1.roz i ii row g gi hi hrw hro hgi
       obtain ⟨⟨e', fz', h9⟩, _⟩ := hr1.fz.frz _ arr ha
       rw [hbk] at h9
       cases h9
       exact hf1 _ _ ha
     | false =>
       have hge : w.heap.size ≤ gi.block := by
         obtain ⟨c0, e0, fz0, _, _, _, h3, _⟩ := ((hr1.row i ii row hi hrw).gen g gi hgi).block
         exact (h3 hro).1
       show (if gi.block < w.heap.size then μ.frz gi.block else _) = _
       rw [if_neg (by omega)]
       simp [World.cellsOf, hbk]
   · refine ⟨hb1.base, hb1.rlen, hb1.mlen, fun i ii row hi hrow => (hb1.row i ii row hi hrow).mono hle2, hb1.sep, fun m b es hm he => ?_, hb1.msep, ⟨hb1.fz.low, fun b arr hba => ?_, fun k a hk => ?_, hb1.fz.tinj⟩, hb1.lb, fun i ii row g gi a1 a2 a3 a4 => by
       obtain ⟨arr, ha⟩ := hb1.roz i ii row g gi a1 a2 a3 a4
       exact ⟨arr, hkeep _ _ ha⟩⟩
     · obtain ⟨g1, ds', clock, g2, g3⟩ := hb1.map m b es hm he
       exact ⟨g1, ds', clock, g2, g3.mono hle2⟩
     · by_cases hlt : b < w.heap.size
       · have hba' : μ.frz b = some arr := by
           have : (if b < w.heap.size then μ.frz b else World.cellsOf w1 b) = some arr := hba
           rwa [if_pos hlt] at this
         exact hb1.fz.frz b arr hba'
       · have hba' : World.cellsOf w1 b = some arr := by
           have : (if b < w.heap.size then μ.frz b else World.cellsOf w1 b) = some arr := hba
           rwa [if_neg hlt] at this
         refine ⟨?_, fun i ii row g gi hi hrow _ hgi => ?_⟩
         · unfold World.cellsOf at hba'
           split at hba'
           · rename_i c e fz h9
             cases hba'
             exact ⟨e, fz, h9⟩
           · cases hba'
         · have := ((hr.row i ii row hi hrow).gen g gi hgi).lt
           omega
     · obtain ⟨⟨arr, k1⟩, k2⟩ := hb1.fz.tok k a hk
       exact ⟨⟨arr, hkeep _ _ k1⟩, k2⟩
def Mu.now (w : World) (tok : Nat → Option Addr) (lim : Nat) : Mu := { rows := [], maps := [], frz := World.cellsOf w, tok := tok, lim := lim }
theorem HRel.now {μ : Mu} {h : AH} {w : World} (hr : HRel μ B h w) : HRel (Mu.now w μ.tok w.heap.size) w.heap.size AH.none w := by
 refine ⟨Nat.le_refl _, rfl, rfl, fun i ii row h => by simp [Mu.now] at h, ?_, fun m b es h => by simp [Mu.now] at h, fun m n b h => by simp [Mu.now] at h, ⟨Nat.le_refl _, fun b arr hb => ⟨?_, fun i ii row g gi h => by simp [Mu.now] at h⟩, fun k a hk => ?_, hr.fz.tinj⟩, Nat.le_refl _, fun i ii row g gi h => by simp [Mu.now] at h⟩
 · intro i j ii jj row row' g g' gi gj _ h
   simp [Mu.now] at h
 · have hb' : World.cellsOf w b = some arr := hb
   unfold World.cellsOf at hb'
   split at hb'
   · rename_i c e fz h9
     cases hb'
     exact ⟨e, fz, h9⟩
   · cases hb'
 · obtain ⟨_, c, e, h2⟩ := hr.fz.tok k a hk
   exact ⟨⟨c, by simp [Mu.now, World.cellsOf, h2]⟩, c, e, h2⟩
theorem view_ok {μ : Mu} {h : AH} {w : World} (hr : HRel μ B h w) (lim n : Nat) {v u : AV} {x : Value} (hu : freezeV h n v = some u) (hv : VRel μ v x) : VRel (Mu.now w μ.tok lim) u x := by
 refine freeze_ok (μ' := Mu.now w μ.tok lim) hr (fun b arr hb => ?_) rfl (S := fun _ => True) (fun i ii row g gi c e fz _ _ _ _ hbk => ?_) n hu (fun _ _ => trivial) hv
 · obtain ⟨⟨e, fz, h9⟩, _⟩ := hr.fz.frz b arr hb
   simp [Mu.now, World.cellsOf, h9]
 · simp [Mu.now, World.cellsOf, hbk]
theorem scal_ok {μ μ' : Mu} {v : AV} {x : Value} (hs : v.scal = true) (h : VRel μ v x) : VRel μ' v x := by
 cases h <;> first | (cases hs; done) | constructor
theorem flat_ok {μ μ' : Mu} (htok : μ'.tok = μ.tok) (hk : ∀ k a, μ.tok k = some a → ∃ arr, μ.frz a.block = some arr ∧ μ'.frz a.block = some arr) {v : AV} {x : Value} (hs : v.flat = true) (h : VRel μ' v x) : VRel μ v x := by
 have one : ∀ {v : AV} {x : Value}, v.flat1 = true → VRel μ' v x → VRel μ v x := by
   intro v x hs h
   unfold AV.flat1 at hs
   split at hs
   · split at hs
     · rename_i k cs
       simp only [Bool.and_eq_true, Bool.not_eq_true', nbeq_false] at hs
       cases h with
       | iface h1 =>
         cases h1 with
         | @fp _ _ a arr f1 f2 f3 f4 f5 f6 =>
           have ha := f6 hs.1
           rw [htok] at ha
           obtain ⟨arr', g1, g2⟩ := hk k a ha
           rw [f1] at g2
           cases g2
           exact .iface (.fp g1 f2 f3 (fun i c d hc hd => scal_ok (List.all_eq_true.1 hs.2 c (List.mem_of_getElem? hc)) (f4 i c d hc hd)) f5 fun _ => ha)
     · cases h with
       | iface h1 => exact .iface (scal_ok hs h1)
   · exact scal_ok hs h
 unfold AV.flat at hs
 split at hs
 · rename_i cs
   cases h with
   | tup h1 h2 => exact .tup h1 fun i c d hc hd => one (List.all_eq_true.1 hs c (List.mem_of_getElem? hc)) (h2 i c d hc hd)
 · exact one hs h
theorem bare_flat {μ : Mu} {h : AH} {w : World} (hr : HRel μ B h w) {μ1 : Mu} {h1 : AH} {w1 : World} {v u : AV} {x : Value} (hle : (Mu.now w μ.tok w.heap.size).le μ1) (hr1 : HRel μ1 w.heap.size h1 w1) (hb : Below w.heap.size w w1) (hv : VRel μ1 v x) (hu : freezeV h1 8 v = some u) (hf : u.flat = true) :
   VRel μ u x ∧ HRel μ B h w1 := by
 refine ⟨?_, hr.below hb⟩
 have := view_ok hr1 0 8 hu hv
 refine flat_ok (μ' := Mu.now w1 μ1.tok 0) (show μ1.tok = μ.tok from hle.tok) (fun k a hk => ?_) hf this
 obtain ⟨⟨arr, g1⟩, _⟩ := hr.fz.tok k a hk
 refine ⟨arr, g1, ?_⟩
 have hlt := hr.fz.lt g1
 obtain ⟨⟨e, fz, h9⟩, _⟩ := hr.fz.frz _ _ g1
 simp [Mu.now, World.cellsOf, hb.block _ hlt, h9]
end
end Go.Proofs.YtjagkijfngokaaaGreatDoor
