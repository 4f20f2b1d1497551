/-
 What is told of the library's functions without a body: IndexByte.
-/
import Derived.Test.YtdmbfmgebgdfnaaDoorBm20
import Derived.Lib.BytesEntry
import Derived.Laws.Externs
namespace Go.Proofs.YtdmbfmgebgdfnaaDoor
open Go.RowKit
def zCl : List AV → AH → Option (AV × AH)
 | [.slice s, .int .u8 c], h => (h.sliceCells 1 s).bind fun cs => (zmF cs).bind fun bs => some (.int .i64 (Lib.indexByte bs c.toNat.toUInt8), h)
 | _, _ => none
section
variable {P : Program} {C : Ctx} {B : Nat} {q : Bool}
end
end Go.Proofs.YtdmbfmgebgdfnaaDoor
