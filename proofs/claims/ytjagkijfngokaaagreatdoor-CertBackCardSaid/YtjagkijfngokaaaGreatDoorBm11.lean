/-
 Regions, code, calls: the abstract machine's own.
-/
import Derived.Test.YtjagkijfngokaaaGreatDoorBm10
namespace Go.Proofs.YtjagkijfngokaaaGreatDoor
open Go.RowKit
def setDst (fr : Fr) (d : Option Nat) (v : AV) : Fr :=
 match d with
 | some d => (d, v) :: fr
 | none => fr
def isPickOf (s : Nat) : Op → Bool
 | .pick (.tmp t) _ _ => Nat.beq t s
 | _ => false
def splitPick (s : Nat) : List Oper → Option (List Oper × Oper × List Oper)
 | [] => none
 | o :: rest =>
   bif isPickOf s o.op then some ([], o, rest)
   else match splitPick s rest with
     | some (a, p, b) => some (o :: a, p, b)
     | none => none
def skipOk (all : List Oper) (s j : Nat) (want : Bool) : List Nat → List Oper → Bool
 | _, [] => true
 | seen, o :: rest =>
   (match o.guard with
     | none => false
     | some (i, w) => (Nat.beq i j && (w == want)) || (match (all[i]?).bind (·.dst) with | some t => seen.elem t | none => false)) &&
   (match o.dst with | some t => !Nat.beq t s | none => true) &&
   skipOk all s j want (match o.dst with | some t => t :: seen | none => seen) rest
def forget (ops : List Oper) (fr : Fr) : Fr := ops.foldl (fun fr o => setDst fr o.dst .bot) fr
def isConst : Operand → Bool
 | .const _ => true
 | _ => false
def holds (cur : List (Nat × Bool)) : Option (Nat × Bool) → Bool
 | none => true
 | some (j, w) => cur.any fun p => Nat.beq p.1 j && (p.2 == w)
def pureBin (op : BinOp) (a b : AV) : Bool :=
 match a, b with
 | .int _ _, .int _ _ => match op with
   | .quo => false
   | .rem => false
   | .shl => false
   | .shr => false
   | _ => true
 | .str _, .str _ => match op with
   | .eql => true
   | .neq => true
   | _ => false
 | .bool _, .bool _ => true
 | _, _ => false
def apure (C : Ctx) (ev : Operand → AV) : Op → Option AV
 | .move x => some (ev x)
 | .assign x => some (ev x)
 | .binOp op t x y _ => bif !(nilOp y || nilOp x) && pureBin op (ev x) (ev y) then abin C op t x y (ev x) (ev y) some else none
 | .unOp op _ x => aun op (ev x) some
 | .call c => match c.callee, c.args.toList, c.argTypes.toList with
   | .builtin .len, [x], [t] => match ev x, C.ty t with
     | .slice s, .slice => some (.int .i64 (s.len : Nat))
     | .str s, .str => some (.int .i64 (s.size : Nat))
     | _, _ => none
   | _, _, _ => none
 | _ => none
abbrev CallF := FuncId → List AV → AH → Option (AV × AH)
def reachV (h : AH) : Nat → AV → List Nat
 | 0, _ => []
 | n + 1, v => match v with
   | .slice s => match s with
     | .nil => []
     | .lst _ _ cs => bif closedL cs then [] else cs.flatMap (reachV h n)
     | .mk r len _ => bif Nat.beq len 0 then [] else
       match h.rows[r.id]? with
       | some row => r.id :: (match h.sliceCells row.sz (.mk r len false) with | some cs => cs.flatMap (reachV h n) | .none => [])
       | .none => []
   | .ptr p => match p with
     | .nil => []
     | .fp _ cs => bif closedL cs then [] else cs.flatMap (reachV h n)
     | .mk r lim => r.id :: (match h.span r (lim - r.off) with | some cs => cs.flatMap (reachV h n) | .none => [])
   | .iface _ u => reachV h n u
   | .agg cs => cs.flatMap (reachV h n)
   | .tup cs => cs.flatMap (reachV h n)
   | _ => []
def AV.scal : AV → Bool
 | .bool _ => true
 | .int _ _ => true
 | .str _ => true
 | .nilif => true
 | .nilfunc => true
 | .bot => true
 | .ptr .nil => true
 | _ => false
def AV.flat1 : AV → Bool
 | .iface _ v => match v with
   | .ptr (.fp k cs) => !Nat.beq k 0 && cs.all AV.scal
   | v => v.scal
 | v => v.scal
def AV.flat : AV → Bool
 | .tup cs => cs.all AV.flat1
 | v => v.flat1
def canonV : Nat → AV → Option AV
 | 0, _ => .none
 | n + 1, v => match v with
   | .slice s => match s with
     | .nil => some (.slice (.lst 0 false []))
     | .lst len _ cs => bif closedL cs then some (.slice (.lst len false cs)) else .none
     | .mk _ _ _ => .none
   | .iface t u => (canonV n u).map (.iface t)
   | .agg cs => (cs.mapM (canonV n)).map .agg
   | .tup cs => (cs.mapM (canonV n)).map .tup
   | v => bif v.closed then some v else .none
def canonL (l : List AV) : Option (List AV) := l.mapM (canonV 8)
def AH.none : AH := ⟨[], []⟩
def freezeV (h : AH) : Nat → AV → Option AV
 | 0, _ => .none
 | n + 1, v => match v with
   | .slice s => match s with
     | .nil => some (.slice (.lst 0 false []))
     | .lst len _ cs => bif closedL cs then some (.slice (.lst len false cs)) else (cs.mapM (freezeV h n)).map fun us => .slice (.lst len false us)
     | .mk r len _ => bif Nat.beq len 0 then some (.slice (.lst 0 false [])) else
       match h.rows[r.id]? with
       | some row => (h.sliceCells row.sz (.mk r len false)).bind fun cs => (cs.mapM (freezeV h n)).map fun us => .slice (.lst len false us)
       | .none => .none
   | .ptr p => match p with
     | .nil => some (.ptr .nil)
     | .fp k cs => bif closedL cs then some (.ptr (.fp k cs)) else (cs.mapM (freezeV h n)).map fun us => .ptr (.fp k us)
     | .mk r lim =>
       match h.rows[r.id]? with
       | some _ => (h.span r (lim - r.off)).bind fun cs => (cs.mapM (freezeV h n)).map fun us => .ptr (.fp 0 us)
       | .none => .none
   | .iface t u => (freezeV h n u).map (.iface t)
   | .agg cs => (cs.mapM (freezeV h n)).map .agg
   | .tup cs => (cs.mapM (freezeV h n)).map .tup
   | v => bif v.closed then some v else .none
def apures (C : Ctx) (cur : List (Nat × Bool)) : List Oper → Fr → Option Fr
 | [], fr => some fr
 | o :: rest, fr => bif holds cur o.guard then
     match apure C (aev C fr) o.op with
     | some v => apures C cur rest (setDst fr o.dst v)
     | none => none
   else none
def aops (C : Ctx) (q : Bool) (call : CallF) (all : List Oper) : Nat → List (Nat × Bool) → List Oper → {β : Type} → Fr → AH → (Fr → AH → Option β) → Option β
 | 0, _, _, _, _, _, _ => none
 | _ + 1, _, [], _, fr, h, k => k fr h
 | n + 1, cur, o :: rest, _, fr, h, k =>
   bif holds cur o.guard then
     match o.op with
     | .pick c a b => match aev C fr c with
       | .bool t => aops C q call all n cur rest (setDst fr o.dst (.sel t (aev C fr a) (aev C fr b))) h k
       | _ => none
     | _ => aoper C q call (aev C fr) o h fun v h => aops C q call all n cur rest (setDst fr o.dst v) h k
   else
     match o.guard with
     | none => none
     | some (j, want) =>
       match (all[j]?).bind (·.dst) with
       | none => none
       | some s => match fr.get s with
         | .bool t => match splitPick s (o :: rest) with
           | none => none
           | some (inner, p, after) => match p.op with
             | .pick _ a b =>
               bif skipOk all s j want [] inner && holds cur p.guard && isConst (bif want then b else a) then
                 match apures C ((j, want) :: cur) inner fr with
                 | some fr' => aops C q call all n cur after (setDst (forget inner fr) p.dst (.sel t (aev C fr' a) (aev C fr' b))) h k
                 | none =>
                   ((bif t == want then aops C q call all n ((j, want) :: cur) inner fr h fun fr' h' => some (aev C fr' (bif want then a else b), h')
                     else some (aev C fr (bif want then b else a), h)) : Option (AV × AH)).bind fun r =>
                     chk1 (C.ty p.type) r.1 fun v => aops C q call all n cur after (setDst (forget inner fr) p.dst v) r.2 k
               else none
             | _ => none
         | _ => none
inductive AExit where
 | normal
 | exit (id : Nat)
 | ret
 deriving DecidableEq, Inhabited
def cutIf (l : Option (List Nat)) (fr : Fr) : Fr :=
 match l with
 | none => fr
 | some l => fr.cut l
abbrev Kx (β : Type) := AExit → Fr → AH → Option β
abbrev Run := {β : Type} → Fr → AH → Kx β → Option β
def aloop (step : Run) (live : Option (List Nat)) : Nat → Run
 | 0, _, _, _, _ => none
 | n + 1, _, fr, h, k => step fr h fun e fr h => match e with
   | .normal => aloop step live n (cutIf live fr) h k
   | e => k e fr h
def joinIf (j : Option (List Nat)) (run : Run) : Run := fun fr h k =>
 match j with
 | none => run fr h k
 | some l => (run fr h fun e fr h => some (e, fr.cut l, h)).bind fun p => k p.1 p.2.1 p.2.2
noncomputable def same {β : Type} (x : Option (AV × AH)) (v : AV × AH) (k : Option β) : Option β :=
 @ite _ (x = some v) (Classical.propDecidable _) k none
def opTmps (o : Op) : List Nat := o.operands.toList.filterMap fun | .tmp t => some t | _ => none
inductive Flt where
 | eff | free | rd
 deriving DecidableEq
def flt (C : Ctx) : Op → Flt
 | .move _ => .free
 | .assign _ => .free
 | .extract _ _ => .free
 | .binOp _ _ _ _ _ => .free
 | .unOp _ _ _ => .free
 | .nilCheck _ => .free
 | .fieldAddr _ _ _ => .free
 | .field _ _ _ => .free
 | .index _ _ _ => .free
 | .pick _ _ _ => .free
 | .build _ _ => .free
 | .makeInterface _ _ => .free
 | .typeAssert _ _ _ _ => .free
 | .buildSlice _ _ parts => bif litBytes parts then .eff else .free
 | .load _ _ => .rd
 | .indexAddr _ _ _ => .rd
 | .slice _ _ _ _ _ => .rd
 | .lookup _ _ _ _ => .rd
 | .convert _ d _ => match C.ty d with
   | .int _ => .free
   | .str => .rd
   | _ => .eff
 | .call c => match c.callee with
   | .builtin .len => .free
   | _ => .eff
 | _ => .eff
def afters (o : Oper) : List Nat := o.after.toList.filterMap fun e => bif Region.binds .any e then some e.on else none
def maskOf (cls : List Nat) : List Nat → Nat
 | [] => 0
 | d :: l => 2 ^ d ||| (cls[d]?).getD 0 ||| maskOf cls l
def clsGo : List Oper → List Nat → List Nat
 | [], acc => acc
 | o :: rest, acc => clsGo rest (acc ++ [maskOf acc (afters o)])
def inCls (cls : List Nat) (i j : Nat) : Bool := Nat.testBit ((cls[i]?).getD 0) j
def isEff (C : Ctx) (ops : List Oper) (i : Nat) : Bool := match ops[i]? with
 | some o => decide (flt C o.op = .eff)
 | none => false
def effsOf (C : Ctx) (ops : List Oper) : List Nat := (List.range ops.length).filter (isEff C ops)
def loOf (cls : List Nat) (i : Nat) : List Nat → Nat
 | [] => 0
 | e :: es => bif Nat.beq (loOf cls i es) 0 then (bif inCls cls i e then 1 else 0) else loOf cls i es + 1
def hiOf (cls : List Nat) (i : Nat) : List Nat → Nat
 | [] => 0
 | e :: es => bif inCls cls e i then 0 else hiOf cls i es + 1
abbrev Pend := List (Nat × Oper × Fr × AV)
noncomputable def recheck (C : Ctx) (q : Bool) (call : CallF) (h : AH) (e : Nat) {β : Type} : Pend → Option β → Option β
 | [], k => k
 | (hi, o, fr, v) :: ps, k => bif Nat.ble e hi then same (aoper C q call (aev C fr) o h fun v h => some (v, h)) (v, h) (recheck C q call h e ps k) else recheck C q call h e ps k
noncomputable def backcheck (C : Ctx) (q : Bool) (call : CallF) (o : Oper) (fr : Fr) (v : AV) {β : Type} : List AH → Option β → Option β
 | [], k => k
 | h :: hs, k => same (aoper C q call (aev C fr) o h fun v h => some (v, h)) (v, h) (backcheck C q call o fr v hs k)
noncomputable def adraw (C : Ctx) (q : Bool) (call : CallF) (all : List Oper) (cls : List Nat) (effs : List Nat) {β : Type} (k : Fr → AH → Option β) : Nat → List Oper → List AH → Pend → Fr → AH → Option β
 | _, [], _, _, fr, h => k fr h
 | i, o :: rest, past, pend, fr, h =>
   let go : Fr → Bool → Option β := fun fr wanted =>
     match flt C o.op with
     | .eff => bif wanted then aoper C q call (aev C (fr.cut (opTmps o.op))) o h fun v h' => recheck C q call h' (past.length + 1) pend (adraw C q call all cls effs k (i + 1) rest (h :: past) pend (setDst fr o.dst v) h')
       else recheck C q call h (past.length + 1) pend (adraw C q call all cls effs k (i + 1) rest (h :: past) pend (setDst fr o.dst (.tup [])) h)
     | .free => bif wanted then
         (match o.op with
         | .pick c a b => match aev C (fr.cut (opTmps o.op)) c with
           | .bool t => adraw C q call all cls effs k (i + 1) rest past pend (setDst fr o.dst (.sel t (aev C (fr.cut (opTmps o.op)) a) (aev C (fr.cut (opTmps o.op)) b))) h
           | _ => none
         | _ => aoper C q call (aev C (fr.cut (opTmps o.op))) o h fun v _ => adraw C q call all cls effs k (i + 1) rest past pend (setDst fr o.dst v) h)
       else adraw C q call all cls effs k (i + 1) rest past pend (setDst fr o.dst (.tup [])) h
     | .rd => bif wanted then aoper C q call (aev C (fr.cut (opTmps o.op))) o h fun v _ =>
         backcheck C q call o (fr.cut (opTmps o.op)) v (past.take (past.length - loOf cls i effs))
           (adraw C q call all cls effs k (i + 1) rest past ((hiOf cls i effs, o, fr.cut (opTmps o.op), v) :: pend) (setDst fr o.dst v) h)
       else adraw C q call all cls effs k (i + 1) rest past pend (setDst fr o.dst (.tup [])) h
   match o.guard with
   | none => go fr true
   | some (j, want) => match (all[j]?).bind (·.dst) with
     | none => none
     | some s => match fr.get s with
       | .bool t => bif t then go ((s, .bool true) :: fr) want else go ((s, .bool false) :: fr) (!want)
       | .tup l => bif l.isEmpty then go fr false else none
       | _ => none
def drawOkAt (all : List Oper) (cls : List Nat) (nt i : Nat) (o : Oper) : Bool :=
 (afters o).all (fun j => Nat.blt j i) &&
 Nat.beq ((cls[i]?).getD 0) (maskOf cls (afters o)) &&
 (match o.dst with
   | none => true
   | some d => Nat.blt d nt && (List.range i).all (fun j => match all[j]? with
     | none => true
     | some o' => match o'.dst with
       | none => true
       | some d' => !Nat.beq d' d)) &&
 (opTmps o.op).all (fun t => (List.range all.length).all fun j => match all[j]? with
   | none => true
   | some o' => match o'.dst with
     | none => true
     | some d => !Nat.beq d t || inCls cls i j || inCls cls j i) &&
 (match o.guard with
   | none => true
   | some (j, _) => inCls cls i j)
def chainOk (cls : List Nat) : List Nat → Bool
 | a :: b :: l => inCls cls b a && chainOk cls (b :: l)
 | _ => true
def drawOk (C : Ctx) (nt : Nat) (all : List Oper) : Bool :=
 (List.range all.length).all (fun i => match all[i]? with
   | none => true
   | some o => drawOkAt all (clsGo all []) nt i o) && chainOk (clsGo all []) (effsOf C all)
def fits (nt : Nat) (ops : List Oper) : Bool := ops.all fun o => match o.dst with
 | some d => Nat.blt d nt
 | none => true
noncomputable def aexec (C : Ctx) (q : Bool) (call callq : CallF) (nt : Nat) : Code → Ann → Run
 | .skip, _, _, fr, h, k => k .normal fr h
 | .region _ ops draw, an, _, fr, h, k =>
   bif draw then (bif drawOk C nt ops.toList then joinIf an.joinTo (fun fr h k => adraw C q call ops.toList (clsGo ops.toList []) (effsOf C ops.toList) (fun fr h => k .normal fr h) 0 ops.toList [] [] fr h) (cutIf an.cutTo fr) h k else none)
   else bif fits nt ops.toList then aops C q call ops.toList (ops.toList.length + 1) [] ops.toList (cutIf an.cutTo fr) h fun fr h => k .normal fr h else none
 | .seq a b, an, _, fr, h, k =>
   joinIf an.joinTo (fun fr h k => aexec C q call callq nt a an.left fr h fun e fr h => match e with
     | .normal => aexec C q call callq nt b an.right fr h k
     | e => k e fr h) (cutIf an.cutTo fr) h k
 | .cond c a b, an, _, fr, h, k =>
   joinIf an.joinTo (fun fr h k => match aev C fr c with
     | .bool t => bif t then aexec C q call callq nt a an.left fr h k else aexec C q call callq nt b an.right fr h k
     | _ => none) (cutIf an.cutTo fr) h k
 | .block id c, an, _, fr, h, k =>
   joinIf an.joinTo (fun fr h k => aexec C q call callq nt c an.left fr h fun e fr h => match e with
     | .exit i => bif Nat.beq i id then k .normal fr h else k (.exit i) fr h
     | e => k e fr h) (cutIf an.cutTo fr) h k
 | .loop c, an, _, fr, h, k =>
   joinIf an.joinTo (fun fr h k => aloop (fun fr h k => aexec C q call callq nt c an.left fr h k) an.cutTo C.fuel fr h k) (cutIf an.cutTo fr) h k
 | .exit id, _, _, fr, h, k => k (.exit id) fr h
 | .ret, _, _, fr, h, k => k .ret fr h
 | _, _, _, _, _, _ => none
def ares (C : Ctx) (h : AH) (fr : Fr) : ResultVar → Option AV
 | .tmp t => some (fr.get t)
 | .cell s t => match fr.get s with
   | .ptr p => aload C t p h fun v _ => some v
   | _ => none
def aresults (C : Ctx) (fr : Fr) (h : AH) : List ResultVar → Option AV
 | [r] => ares C h fr r
 | l => (l.mapM (ares C h fr)).map .tup
def inSlots : List AV → Nat → Fr
 | [], _ => []
 | a :: l, i => (i, a) :: inSlots l (i + 1)
noncomputable def abody (C : Ctx) (q : Bool) (call callq : CallF) : CallF := fun f args h => match C.funs f with
 | none => none
 | some (fn, an) => match fn.body with
   | none => none
   | some c => bif Nat.ble args.length fn.ntmps then
       aexec (C.at f) q call callq fn.ntmps c an (inSlots args 0) h fun e fr h => match e with
         | .exit _ => none
         | _ => (aresults (C.at f) fr h fn.results.toList).map fun v => (v, h)
     else none
def afreeze (r : Option (AV × AH)) : Option AV := r.bind fun p => freezeV p.2 8 p.1
def AV.wk : AV → AV
 | .slice s => match s with
   | .nil => .slice (.lst 0 true [])
   | s => .slice s
 | v => v
def oneEmpty : List AV → Bool
 | [v] => match v with
   | .slice s => match s with
     | .lst n _ cs => Nat.beq n 0 && cs.isEmpty
     | _ => false
   | _ => false
 | _ => false
noncomputable def split2 (x y : Option (AV × AH)) : Option (AV × AH) :=
 x.bind fun p => y.bind fun r => @ite _ (p.1.wk = r.1.wk ∧ p.2 = r.2) (Classical.propDecidable _) (some (p.1.wk, p.2)) .none
noncomputable def acall (C : Ctx) (q : Bool) : Nat → CallF
 | 0, f, args, h => match C.ext f with
   | some g => bif q && C.wr f then none else g args h
   | none => none
 | d + 1, f, args, h => match C.ext f with
   | some g => bif q && C.wr f then none else g args h
   | none => bif C.pure f then
       match canonL args with
       | some as => (afreeze (abody C false (acall C false d) (acall C true d) f as AH.none)).map fun v => (v, h)
       | none => match args.mapM (freezeV h 8) with
         | some us => (afreeze (abody C false (acall C false d) (acall C true d) f us AH.none)).bind fun v =>
             bif v.flat then some (v, h) else bif q then none else some (v, h.markRo (args.flatMap (reachV h 8)))
         | none => abody C q (acall C q d) (acall C true d) f args h
     else bif C.splits f && oneEmpty args then split2 (abody C q (acall C q d) (acall C true d) f [.slice .nil] h) (abody C q (acall C q d) (acall C true d) f [.empty] h)
     else abody C q (acall C q d) (acall C true d) f args h
def cfst : Code → Code
 | .seq a _ => a
 | .cond _ a _ => a
 | .block _ c => c
 | .loop c => c
 | c => c
def csnd : Code → Code
 | .seq _ b => b
 | .cond _ _ b => b
 | c => c
def csub : List Bool → Code → Code
 | [], c => c
 | s :: p, c => csub p (bif s then csnd c else cfst c)
def asub : List Bool → Ann → Ann
 | [], a => a
 | s :: p, a => asub p (bif s then a.right else a.left)
def fbody (f : Func) : Code :=
 match f.body with
 | some c => c
 | none => .skip
noncomputable def kSeq (C : Ctx) (q : Bool) (call callq : CallF) (nt : Nat) (b : Code) (an : Ann) {β : Type} (k : Kx β) : Kx β := fun e fr h => match e with
 | .normal => aexec C q call callq nt b an fr h k
 | e => k e fr h
def kBlock (id : Nat) {β : Type} (k : Kx β) : Kx β := fun e fr h => match e with
 | .exit i => bif Nat.beq i id then k .normal fr h else k (.exit i) fr h
 | e => k e fr h
def kLoop (step : Run) (live : Option (List Nat)) (n : Nat) {β : Type} (k : Kx β) : Kx β := fun e fr h => match e with
 | .normal => aloop step live n (cutIf live fr) h k
 | e => k e fr h
def kOut (l : List Nat) : Kx (AExit × Fr × AH) := fun e fr h => some (e, fr.cut l, h)
def kRet (C : Ctx) (rs : List ResultVar) : Kx (AV × AH) := fun e fr h => match e with
 | .exit _ => none
 | _ => (aresults C fr h rs).map fun v => (v, h)
end Go.Proofs.YtjagkijfngokaaaGreatDoor
