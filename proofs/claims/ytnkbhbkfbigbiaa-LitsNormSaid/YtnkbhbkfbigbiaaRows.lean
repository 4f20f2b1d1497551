/-
  No cell of these rows narrows 'for every input' (looked for: loops, veiled, ifaces, maps, wideKeys, modest, calm, conditions, laid).
  DERIVED. THE GIVEN ROWS OF THIS SEAT. 3 by the template 'for every input the law returns true; each argument reads behind the call as it read before'; 0 by the template 'total and deterministic' (their statements: YtnkbhbkfbigbiaaTotals.lean).
  GIVEN WITH THE SEED: the statements are not yours to turn. If you find one false, say at which input.
  Laid BY PROGRAM, IN A SANDBOX (cutbox-rows.mjs): the forced cells as the released guide's own fill.sh prints them over the translation 87ab3be197c94731… (all of the seat's roots in one cut). By AI agents, Wed Nov 11 2026. No macro, syntax, notation, axiom, sorry.
-/
import Derived.Test.YtnkbhbkfbigbiaaChecked
import GoSem.Claim
import GoSem.ClaimJoined
import GoSem.ClaimMapViews
import Derived.JoinedTies
import Derived.KernelRfl
namespace Go.Proofs.Ytnkbhbkfbigbiaa
/- THE CELL 'sum', in the pinned program and in every row, IS THE sha256 OF THE DUMP (.gsa) THAT YtnkbhbkfbigbiaaProg.lean LOADS. Nothing in Lean hashes anything: it is a label: what it is worth is what the hold of that sum in a sandbox is worth. -/
noncomputable def Try.pinned : Pinned := { name := "ytnkbhbkfbigbiaa", sum := "87ab3be197c947318d37bd1584d41ab0d3797a9a5aef7c7dd50538ade671a9a2", checked := Try.checked }
namespace Rows
def none {H : Type} : Left H := { results := [], args := [] }

/-- 'skolemlaw1.LitsRename': WHATEVER THE INPUT: true; the input reads as it did. -/
def litsRenameSpec : ChangeSpec := { name := "litsRename", fn := fun _ => fun
  | [d1, d2] => { results := [.lit (.bool true)], args := [d1, d2] }
  | _ => none }
def litsRenameRow : OpenClaim := { program := "ytnkbhbkfbigbiaa", sum := "87ab3be197c947318d37bd1584d41ab0d3797a9a5aef7c7dd50538ade671a9a2", func := "skolem/skolemlaw1.LitsRename", spec := "litsRename", unfollowed := true, recurses := true, apart := false }
def LitsRenameSaid : Prop := litsRenameRow.holds Try.pinned (OpenSpec.ofChange litsRenameSpec)

/-- ITS FALSE NEIGHBOUR: 'it returns false'. Refute it at one input. -/
def litsRenameWrong : ChangeSpec := { name := "litsRename", fn := fun _ => fun
  | [d1, d2] => { results := [.lit (.bool false)], args := [d1, d2] }
  | _ => none }
def LitsRenameWrongFalsely : Prop := litsRenameRow.holds Try.pinned (OpenSpec.ofChange litsRenameWrong)

/-- 'skolemlaw1.LitsNorm': WHATEVER THE INPUT: true; the input reads as it did. -/
def litsNormSpec : ChangeSpec := { name := "litsNorm", fn := fun _ => fun
  | [d1, d2] => { results := [.lit (.bool true)], args := [d1, d2] }
  | _ => none }
def litsNormRow : OpenClaim := { program := "ytnkbhbkfbigbiaa", sum := "87ab3be197c947318d37bd1584d41ab0d3797a9a5aef7c7dd50538ade671a9a2", func := "skolem/skolemlaw1.LitsNorm", spec := "litsNorm", unfollowed := true, recurses := true, apart := false }
def LitsNormSaid : Prop := litsNormRow.holds Try.pinned (OpenSpec.ofChange litsNormSpec)

/-- ITS FALSE NEIGHBOUR: 'it returns false'. Refute it at one input. -/
def litsNormWrong : ChangeSpec := { name := "litsNorm", fn := fun _ => fun
  | [d1, d2] => { results := [.lit (.bool false)], args := [d1, d2] }
  | _ => none }
def LitsNormWrongFalsely : Prop := litsNormRow.holds Try.pinned (OpenSpec.ofChange litsNormWrong)

/-- 'skolemlaw1.LitsSame': WHATEVER THE INPUT: true; the input reads as it did. -/
def litsSameSpec : ChangeSpec := { name := "litsSame", fn := fun _ => fun
  | [d1, d2, d3] => { results := [.lit (.bool true)], args := [d1, d2, d3] }
  | _ => none }
def litsSameRow : OpenClaim := { program := "ytnkbhbkfbigbiaa", sum := "87ab3be197c947318d37bd1584d41ab0d3797a9a5aef7c7dd50538ade671a9a2", func := "skolem/skolemlaw1.LitsSame", spec := "litsSame", unfollowed := true, recurses := true, apart := false }
def LitsSameSaid : Prop := litsSameRow.holds Try.pinned (OpenSpec.ofChange litsSameSpec)

/-- ITS FALSE NEIGHBOUR: 'it returns false'. Refute it at one input. -/
def litsSameWrong : ChangeSpec := { name := "litsSame", fn := fun _ => fun
  | [d1, d2, d3] => { results := [.lit (.bool false)], args := [d1, d2, d3] }
  | _ => none }
def LitsSameWrongFalsely : Prop := litsSameRow.holds Try.pinned (OpenSpec.ofChange litsSameWrong)

/- THE SECOND FORM. 'bulk': how many values and letters a reading holds, each counted each time it is reached (what is shared counts as often as it is met; a slice's spare places count too). A statement '..UptoSaid' is the law's where the arguments, and the package variables that the reading takes, are together of bulk at most 1048576: NARROWER than '..Said'. Prove '..Said' where nothing that the law and all that it calls make is longer than what came in: it says more and counts as full. Else prove '..UptoSaid'. A law counts once. -/
mutual
def uptoBulk {H : Type} : DataW H → Nat
  | .lit (.string bytes) => bytes.length + 1
  | .lit _ => 1
  | .nil => 1
  | .ptr d => uptoBulk d + 1
  | .slice elems spare => uptoBulkAll elems + uptoBulkAll spare + 1
  | .agg parts => uptoBulkAll parts + 1
  | .iface _ d => uptoBulk d + 1
  | .map entries => uptoBulkEntries entries + 1
  | .held _ => 1
def uptoBulkAll {H : Type} : List (DataW H) → Nat
  | [] => 0
  | d :: r => uptoBulk d + uptoBulkAll r
def uptoBulkEntries {H : Type} : List (Lit × DataW H) → Nat
  | [] => 0
  | x :: r => uptoBulkEntry x + uptoBulkEntries r
def uptoBulkEntry {H : Type} : Lit × DataW H → Nat
  | (.string bytes, d) => bytes.length + uptoBulk d + 1
  | (_, d) => uptoBulk d + 1
 end
def uptoSmall : (H : Type) → List (DataW H) → Bool := fun _ ds => decide (uptoBulkAll ds ≤ 1048576)
def OpenSpec.upto (s : _root_.Go.ChangeSpec) : _root_.Go.OpenSpec := { _root_.Go.OpenSpec.ofChange s with cond := some uptoSmall }

/-- 'skolemlaw1.LitsRename', WHERE WHAT IT READS IS OF BULK AT MOST 1048576: true; the input reads as it did. -/
def litsRenameUptoRow : OpenClaim := { program := "ytnkbhbkfbigbiaa", sum := "87ab3be197c947318d37bd1584d41ab0d3797a9a5aef7c7dd50538ade671a9a2", func := "skolem/skolemlaw1.LitsRename", spec := "litsRename", unfollowed := true, recurses := true, apart := false, narrowed := true }
def LitsRenameUptoSaid : Prop := litsRenameUptoRow.holds Try.pinned (OpenSpec.upto litsRenameSpec)

/-- 'skolemlaw1.LitsNorm', WHERE WHAT IT READS IS OF BULK AT MOST 1048576: true; the input reads as it did. -/
def litsNormUptoRow : OpenClaim := { program := "ytnkbhbkfbigbiaa", sum := "87ab3be197c947318d37bd1584d41ab0d3797a9a5aef7c7dd50538ade671a9a2", func := "skolem/skolemlaw1.LitsNorm", spec := "litsNorm", unfollowed := true, recurses := true, apart := false, narrowed := true }
def LitsNormUptoSaid : Prop := litsNormUptoRow.holds Try.pinned (OpenSpec.upto litsNormSpec)

/-- 'skolemlaw1.LitsSame', WHERE WHAT IT READS IS OF BULK AT MOST 1048576: true; the input reads as it did. -/
def litsSameUptoRow : OpenClaim := { program := "ytnkbhbkfbigbiaa", sum := "87ab3be197c947318d37bd1584d41ab0d3797a9a5aef7c7dd50538ade671a9a2", func := "skolem/skolemlaw1.LitsSame", spec := "litsSame", unfollowed := true, recurses := true, apart := false, narrowed := true }
def LitsSameUptoSaid : Prop := litsSameUptoRow.holds Try.pinned (OpenSpec.upto litsSameSpec)

end Rows
end Go.Proofs.Ytnkbhbkfbigbiaa
