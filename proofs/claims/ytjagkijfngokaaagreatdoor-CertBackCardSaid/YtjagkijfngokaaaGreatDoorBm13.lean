/-
 Regions that keep the order of the text: in the model as the abstract machine says.
-/
import Derived.Test.YtjagkijfngokaaaGreatDoorBm12
namespace Go.Proofs.YtjagkijfngokaaaGreatDoor
open Go.RowKit
section
variable {P : Program} {C : Ctx} {B : Nat} {q : Bool} {h : AH} {μ : Mu} {w : World} {v : AV}
theorem apure_ok (hT : TypesOk P C) {ev : Operand → AV} (o : Oper) (hk : apure C ev o.op = some v) : OpWp P C B q ev h o v h := by
 unfold apure at hk
 split at hk
 · rename_i x ho
   simp at hk
   subst hk
   refine OpOk.wp fun μ w a hr hev => OpRes.same (x := a.eval x) hr ?_ (hev x)
   unfold execOp; rw [ho]; rfl
 · rename_i x ho
   simp at hk
   subst hk
   refine OpOk.wp fun μ w a hr hev => OpRes.same (x := a.eval x) hr ?_ (hev x)
   unfold execOp; rw [ho]; rfl
 · rename_i op t x y yt ho
   rw [Bool.cond_eq_ite] at hk
   split at hk
   case isFalse => cases hk
   have hk' : abin C op t x y (ev x) (ev y) some = some v := hk
   obtain ⟨v', h1, h2⟩ := bin_ok (P := P) hT hk'
   cases h1
   refine OpOk.wp (OpOk.val (s := fun a => do eqGuard op t x y (a.eval x) (a.eval y); binOp op t (a.eval x) (a.eval y)) (fun a => ?_) fun μ w a hr hev => h2 μ h w a hr.fz (hev x) (hev y))
   unfold execOp; rw [ho]
 · rename_i op t x ho
   obtain ⟨v', h1, h2⟩ := un_ok hk
   cases h1
   refine OpOk.wp (OpOk.val (s := fun a => Op.unary op (a.eval x)) (fun a => ?_) fun μ w a hr hev => h2 P μ w _ (hev x))
   unfold execOp; rw [ho]
 · rename_i c ho
   split at hk
   · rename_i x t hcal hargs hts
     have key : abuiltin C q ev .len c.args.toList c.argTypes.toList h (fun u h' => some (u, h')) = some (v, h) := by
       rw [hargs, hts]
       unfold abuiltin
       split at hk
       · rename_i s hs hty
         simp at hk
         subst hk
         simp only [hs, hty]
       · rename_i s hs hty
         simp at hk
         subst hk
         simp only [hs, hty]
       · cases hk
     obtain ⟨v', h', h1, h2⟩ := abuiltin_ok (B := B) (q := q) hT o ho hcal key
     simp at h1
     obtain ⟨rfl, rfl⟩ := h1
     exact h2.wp
   · cases hk
 · cases hk
structure Rel (P : Program) (C : Ctx) (B nt : Nat) (μ : Mu) (fr : Fr) (h : AH) (a : Act) (w : World) : Prop where
 heap : HRel μ B h w
 slots : ∀ i, VRel μ (fr.get i) (a.tmps.getD i undef)
 defers : a.defers = []
 size : nt ≤ a.tmps.size
 glob : GlobOk C μ
theorem constCell_rel (c : Value) : VRel μ (constCell c) c := by
 unfold constCell
 split <;> constructor
theorem ofConst_rel (c : Value) : VRel μ (ofConst c) c := by
 unfold ofConst
 split
 · rename_i cs
   refine .agg (by simp) fun i x d hx hd => ?_
   rw [List.getElem?_map, Array.getElem?_toList, hd] at hx
   simp at hx
   subst hx
   exact constCell_rel d
 · exact constCell_rel c
variable {nt : Nat} {fr : Fr} {a : Act}
theorem Rel.ev (hr : Rel P C B nt μ fr h a w) (x : Operand) : VRel μ (aev C fr x) (a.eval x) := by
 cases x with
 | tmp t => exact hr.slots t
 | const v => exact ofConst_rel v
 | global g =>
   simp only [aev]
   split
   · rename_i id hid; exact (hr.glob g id hid).2
   · exact .bot
 | func f => exact .func rfl (by intro i p v h; simp at h)
theorem Rel.put (hr : Rel P C B nt μ fr h a w) {μ' : Mu} {h' : AH} {w' : World} {d : Option Tmp} {v : AV} {x : Value} (hle : μ.le μ') (hv : VRel μ' v x) (hh : HRel μ' B h' w') (hd : ∀ t, d = some t → t < nt) :
   Rel P C B nt μ' (setDst fr d v) h' (a.put d x) w' := by
 cases d with
 | none => exact ⟨hh, fun i => (hr.slots i).mono hle, hr.defers, hr.size, hr.glob.mono hle⟩
 | some t =>
   have ht := hd t rfl
   have hsz := hr.size
   refine ⟨hh, fun i => ?_, hr.defers, by simpa [Act.put] using hr.size, hr.glob.mono hle⟩
   simp only [setDst, Fr.get, Act.put, Bool.cond_eq_ite]
   by_cases hi : t = i
   · subst hi
     rw [if_pos (nbeq.2 rfl)]
     have : (a.tmps.setIfInBounds t x).getD t undef = x := by
       have h9 : t < a.tmps.size := Nat.lt_of_lt_of_le ht hsz
       simp [h9]
     rw [this]
     exact hv
   · rw [if_neg (fun e => hi (nbeq.1 e))]
     have : (a.tmps.setIfInBounds t x).getD i undef = a.tmps.getD i undef := by
       simp [Array.getElem?_setIfInBounds_ne hi]
     rw [this]
     exact (hr.slots i).mono hle
end
end Go.Proofs.YtjagkijfngokaaaGreatDoor
