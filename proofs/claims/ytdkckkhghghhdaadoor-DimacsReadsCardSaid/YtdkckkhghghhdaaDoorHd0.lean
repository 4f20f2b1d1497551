/-
  The head of clauses as text: what is read.
-/
import Derived.Test.YtdkckkhghghhdaaDoorDc0
namespace Go.Proofs.YtdkckkhghghhdaaDoor
open Go.RowKit

inductive HdR where
  | ok (vars many : Int) : HdR
  | bad (code p : Int) : HdR
def plainW (t : List UInt8) : Bool := okNum t && !minusI t
/-- what is amiss with a count: 101 the text, 102 the limit -/
def cntC (w : Wd) (most : Int) : Option Int := if (w.first || !plainW w.text) = true then some 101 else if most < numW w.text then some 102 else none
def headT (e : Int) : List Wd → HdR
  | [] => .bad 101 e
  | w0 :: W1 => if (!w0.first || !(w0.text == [112])) = true then .bad 101 (w0.pos : Int) else match W1 with
    | [] => .bad 101 e
    | w1 :: W2 => if (w1.first || !(w1.text == [99, 110, 102])) = true then .bad 101 (w1.pos : Int) else match W2 with
      | [] => .bad 101 e
      | w2 :: W3 => match cntC w2 4000 with
        | some c => .bad c (w2.pos : Int)
        | none => match W3 with
          | [] => .bad 101 e
          | w3 :: _ => match cntC w3 20000 with
            | some c => .bad c (w3.pos : Int)
            | none => .ok (numW w2.text) (numW w3.text)
end Go.Proofs.YtdkckkhghghhdaaDoor
