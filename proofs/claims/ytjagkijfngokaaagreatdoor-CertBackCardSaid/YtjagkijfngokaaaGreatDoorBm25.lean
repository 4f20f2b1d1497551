/-
 What is told of the library's functions without a body: IndexByte.
-/
import Derived.Test.YtjagkijfngokaaaGreatDoorBm20
import Derived.Lib.BytesEntry
import Derived.Laws.Externs
namespace Go.Proofs.YtjagkijfngokaaaGreatDoor
open Go.RowKit
def indexByteX : List AV → AH → Option (AV × AH)
 | [.slice s, .int .u8 c], h => (h.sliceCells 1 s).bind fun cs => (bytesFrom cs).bind fun bs => some (.int .i64 (Lib.indexByte bs c.toNat.toUInt8), h)
 | _, _ => none
theorem run_indexByteAt {P : Program} (w : World) (ad : Addr) (n c : Nat) (xs : List Int) (hx : xs.length = n) (hc : ∀ j x, xs[j]? = some x → w.cell? (ad.add j) = some (.int .u8 x)) (cv : Int) :
   (Extern.BytealgIndexByte.indexByte #[.slice (some ad) n c, .int .u8 cv]).run P w = .ok (.int .i64 (Lib.indexByte (Lib.bytesOf xs) cv.toNat.toUInt8)) w := by
 have hl := Lib.run_loadBytesX (P := P) w xs ad .empty hc
 rw [hx] at hl
 have hs := Lib.run_indexByteString (P := P) ⟨(Lib.bytesOf xs).toArray⟩ cv w
 have he : (⟨ByteArray.empty.data ++ (Lib.bytesOf xs).toArray⟩ : ByteArray) = ⟨(Lib.bytesOf xs).toArray⟩ := by
   apply ByteArray.ext
   show (#[] : Array UInt8) ++ (Lib.bytesOf xs).toArray = (Lib.bytesOf xs).toArray
   simp
 rw [he] at hl
 change Sem.run P (do
   let b ← Extern.Bytes.bytesOf (.slice (some ad) n c)
   let c ← Extern.Bytes.asByte (.int .u8 cv)
   match (List.range b.size).find? fun i => b[i]! == c with
   | some i => pure (goInt i)
   | none => pure (goInt (-1))) w = _
 change Sem.run P (do
   let b ← Extern.Bytes.bytesOf (.string ⟨(Lib.bytesOf xs).toArray⟩)
   let c ← Extern.Bytes.asByte (.int .u8 cv)
   match (List.range b.size).find? fun i => b[i]! == c with
   | some i => pure (goInt i)
   | none => pure (goInt (-1))) w = _ at hs
 simp only [Extern.Bytes.bytesOf, Sem.run_bind, Sem.run_pure, hl, Result.andThen] at hs ⊢
 exact hs
section
variable {P : Program} {C : Ctx} {B : Nat} {q : Bool}
theorem indexByteX_ok {f : FuncId} {fn : Func} (hf : P.funcs[f]? = some fn) (hname : (fn.name == "runtime.NumGoroutine") = false) (hb : fn.body.isNone = true) (hn : Extern.findNext fn = none) (he : Extern.find fn = some Extern.BytealgIndexByte.indexByte)
   {args : List AV} {h h' : AH} {v : AV} (hk : indexByteX args h = some (v, h')) {μ : Mu} {w : World} {xs : Array Value} (hr : HRel μ B h w) (hl : args.length = xs.size) (hxs : ∀ (i : Nat) u x, args[i]? = some u → xs[i]? = some x → VRel μ u x) :
   CallRes P f xs w fun x w' => ∃ μ', μ.le μ' ∧ VRel μ' v x ∧ HRel μ' B h' w' ∧ Below B w w' ∧ (q = true → Below w.heap.size w w') := by
 unfold indexByteX at hk
 split at hk
 case h_2 => cases hk
 rename_i s c
 cases hc : h.sliceCells 1 s with
 | none => rw [hc] at hk; cases hk
 | some cs =>
   rw [hc, o_bd] at hk
   cases hbs : bytesFrom cs with
   | none => rw [hbs] at hk; cases hk
   | some bs =>
     rw [hbs, o_bd] at hk
     cases hk
     obtain ⟨x0, x1, rfl⟩ : ∃ x0 x1, xs = #[x0, x1] := by
       obtain ⟨l⟩ := xs
       match l, hl with
       | [a, b], _ => exact ⟨a, b, rfl⟩
     have v0 := hxs 0 _ x0 rfl rfl
     have v1 := hxs 1 _ x1 rfl rfl
     have e1 := v1.int_inv
     subst e1
     obtain ⟨a, len, cap, rfl⟩ : ∃ a l c, x0 = .slice a l c := by cases v0 <;> exact ⟨_, _, _, rfl⟩
     obtain ⟨rfl, ds, o1, o2, o3, o4⟩ := hr.sliceCells v0 hc
     obtain ⟨ns, rfl, rfl⟩ := bytesFrom_ok o1 hbs
     have hrun : (Extern.BytealgIndexByte.indexByte #[.slice a s.len cap, .int .u8 c]).run P w = .ok (.int .i64 (Lib.indexByte (Lib.bytesOf ns) c.toNat.toUInt8)) w := by
       cases a with
       | none =>
         have h0 := o3 rfl
         rw [h0] at o2
         have : ns = [] := by simpa using o2
         subst this
         exact Lib.run_indexByteNil (P := P) w _ _ c
       | some ad =>
         refine run_indexByteAt w ad s.len cap ns (by simpa using o2) (fun j x hj => o4 ad rfl j _ ?_) c
         rw [List.getElem?_map, hj]; rfl
     intro o act K Q hK
     rw [run_callFunc_extern hf hname hb hn he, hrun]
     exact hK _ w ⟨μ, μ.le_refl, .int, hr, Below.refl _ _, fun _ => Below.refl _ _⟩
end
end Go.Proofs.YtjagkijfngokaaaGreatDoor
