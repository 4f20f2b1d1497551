/-
  No cell of these rows narrows 'for every input' (looked for: loops, veiled, ifaces, maps, wideKeys, modest, calm, conditions, laid).
  DERIVED. THE GIVEN ROWS OF THIS SEAT. 7 by the template 'for every input the law returns true; each argument reads behind the call as it read before'; 0 by the template 'total and deterministic' (their statements: YthccobceodgmlaaTotals.lean).
  GIVEN WITH THE SEED: the statements are not yours to turn. If you find one false, say at which input.
  Laid BY PROGRAM, IN A SANDBOX (cutbox-rows.mjs): the forced cells as the released guide's own fill.sh prints them over the translation aee0f54ab36bd348… (all of the seat's roots in one cut). By AI agents, Wed Nov 11 2026. No macro, syntax, notation, axiom, sorry.
-/
import Derived.Test.YthccobceodgmlaaChecked
import GoSem.Claim
import GoSem.ClaimJoined
import GoSem.ClaimMapViews
import Derived.JoinedTies
import Derived.KernelRfl
namespace Go.Proofs.Ythccobceodgmlaa
/- THE CELL 'sum', in the pinned program and in every row, IS THE sha256 OF THE DUMP (.gsa) THAT YthccobceodgmlaaProg.lean LOADS. Nothing in Lean hashes anything: it is a label: what it is worth is what the hold of that sum in a sandbox is worth. -/
noncomputable def Try.pinned : Pinned := { name := "ythccobceodgmlaa", sum := "aee0f54ab36bd3481e934c946f3b380272377220f2fdd5675d9fe7fcd287984a", checked := Try.checked }
namespace Rows
def none {H : Type} : Left H := { results := [], args := [] }

/-- 'skolemlaw2.AssignOwn': WHATEVER THE INPUT: true; the input reads as it did. -/
def assignOwnSpec : ChangeSpec := { name := "assignOwn", fn := fun _ => fun
  | [d1, d2] => { results := [.lit (.bool true)], args := [d1, d2] }
  | _ => none }
def assignOwnRow : OpenClaim := { program := "ythccobceodgmlaa", sum := "aee0f54ab36bd3481e934c946f3b380272377220f2fdd5675d9fe7fcd287984a", func := "skolem/skolemlaw2.AssignOwn", spec := "assignOwn", apart := false }
def AssignOwnSaid : Prop := assignOwnRow.holds Try.pinned (OpenSpec.ofChange assignOwnSpec)

/-- ITS FALSE NEIGHBOUR: 'it returns false'. Refute it at one input. -/
def assignOwnWrong : ChangeSpec := { name := "assignOwn", fn := fun _ => fun
  | [d1, d2] => { results := [.lit (.bool false)], args := [d1, d2] }
  | _ => none }
def AssignOwnWrongFalsely : Prop := assignOwnRow.holds Try.pinned (OpenSpec.ofChange assignOwnWrong)

/-- 'skolemlaw2.AssignUnits': WHATEVER THE INPUT: true; the input reads as it did. -/
def assignUnitsSpec : ChangeSpec := { name := "assignUnits", fn := fun _ => fun
  | [d1, d2] => { results := [.lit (.bool true)], args := [d1, d2] }
  | _ => none }
def assignUnitsRow : OpenClaim := { program := "ythccobceodgmlaa", sum := "aee0f54ab36bd3481e934c946f3b380272377220f2fdd5675d9fe7fcd287984a", func := "skolem/skolemlaw2.AssignUnits", spec := "assignUnits", apart := false }
def AssignUnitsSaid : Prop := assignUnitsRow.holds Try.pinned (OpenSpec.ofChange assignUnitsSpec)

/-- ITS FALSE NEIGHBOUR: 'it returns false'. Refute it at one input. -/
def assignUnitsWrong : ChangeSpec := { name := "assignUnits", fn := fun _ => fun
  | [d1, d2] => { results := [.lit (.bool false)], args := [d1, d2] }
  | _ => none }
def AssignUnitsWrongFalsely : Prop := assignUnitsRow.holds Try.pinned (OpenSpec.ofChange assignUnitsWrong)

/-- 'skolemlaw2.AssignModels': WHATEVER THE INPUT: true; the input reads as it did. -/
def assignModelsSpec : ChangeSpec := { name := "assignModels", fn := fun _ => fun
  | [d1, d2, d3] => { results := [.lit (.bool true)], args := [d1, d2, d3] }
  | _ => none }
def assignModelsRow : OpenClaim := { program := "ythccobceodgmlaa", sum := "aee0f54ab36bd3481e934c946f3b380272377220f2fdd5675d9fe7fcd287984a", func := "skolem/skolemlaw2.AssignModels", spec := "assignModels", apart := false }
def AssignModelsSaid : Prop := assignModelsRow.holds Try.pinned (OpenSpec.ofChange assignModelsSpec)

/-- ITS FALSE NEIGHBOUR: 'it returns false'. Refute it at one input. -/
def assignModelsWrong : ChangeSpec := { name := "assignModels", fn := fun _ => fun
  | [d1, d2, d3] => { results := [.lit (.bool false)], args := [d1, d2, d3] }
  | _ => none }
def AssignModelsWrongFalsely : Prop := assignModelsRow.holds Try.pinned (OpenSpec.ofChange assignModelsWrong)

/-- 'skolemlaw2.AssignPlays': WHATEVER THE INPUT: true; the input reads as it did. -/
def assignPlaysSpec : ChangeSpec := { name := "assignPlays", fn := fun _ => fun
  | [d1, d2, d3, d4] => { results := [.lit (.bool true)], args := [d1, d2, d3, d4] }
  | _ => none }
def assignPlaysRow : OpenClaim := { program := "ythccobceodgmlaa", sum := "aee0f54ab36bd3481e934c946f3b380272377220f2fdd5675d9fe7fcd287984a", func := "skolem/skolemlaw2.AssignPlays", spec := "assignPlays", apart := false }
def AssignPlaysSaid : Prop := assignPlaysRow.holds Try.pinned (OpenSpec.ofChange assignPlaysSpec)

/-- ITS FALSE NEIGHBOUR: 'it returns false'. Refute it at one input. -/
def assignPlaysWrong : ChangeSpec := { name := "assignPlays", fn := fun _ => fun
  | [d1, d2, d3, d4] => { results := [.lit (.bool false)], args := [d1, d2, d3, d4] }
  | _ => none }
def AssignPlaysWrongFalsely : Prop := assignPlaysRow.holds Try.pinned (OpenSpec.ofChange assignPlaysWrong)

/-- 'skolemlaw3.WordPlaces': WHATEVER THE INPUT: true; the input reads as it did. -/
def wordPlacesSpec : ChangeSpec := { name := "wordPlaces", fn := fun _ => fun
  | [d] => { results := [.lit (.bool true)], args := [d] }
  | _ => none }
def wordPlacesRow : OpenClaim := { program := "ythccobceodgmlaa", sum := "aee0f54ab36bd3481e934c946f3b380272377220f2fdd5675d9fe7fcd287984a", func := "skolem/skolemlaw3.WordPlaces", spec := "wordPlaces", inPlace := ["internal/bytealg.IndexByte"], apart := false }
def WordPlacesSaid : Prop := wordPlacesRow.holds Try.pinned (OpenSpec.ofChange wordPlacesSpec)

/-- ITS FALSE NEIGHBOUR: 'it returns false'. Refute it at one input. -/
def wordPlacesWrong : ChangeSpec := { name := "wordPlaces", fn := fun _ => fun
  | [d] => { results := [.lit (.bool false)], args := [d] }
  | _ => none }
def WordPlacesWrongFalsely : Prop := wordPlacesRow.holds Try.pinned (OpenSpec.ofChange wordPlacesWrong)

/-- 'skolemlaw3.WordLines': WHATEVER THE INPUT: true; the input reads as it did. -/
def wordLinesSpec : ChangeSpec := { name := "wordLines", fn := fun _ => fun
  | [d] => { results := [.lit (.bool true)], args := [d] }
  | _ => none }
def wordLinesRow : OpenClaim := { program := "ythccobceodgmlaa", sum := "aee0f54ab36bd3481e934c946f3b380272377220f2fdd5675d9fe7fcd287984a", func := "skolem/skolemlaw3.WordLines", spec := "wordLines", inPlace := ["internal/bytealg.IndexByte"], apart := false }
def WordLinesSaid : Prop := wordLinesRow.holds Try.pinned (OpenSpec.ofChange wordLinesSpec)

/-- ITS FALSE NEIGHBOUR: 'it returns false'. Refute it at one input. -/
def wordLinesWrong : ChangeSpec := { name := "wordLines", fn := fun _ => fun
  | [d] => { results := [.lit (.bool false)], args := [d] }
  | _ => none }
def WordLinesWrongFalsely : Prop := wordLinesRow.holds Try.pinned (OpenSpec.ofChange wordLinesWrong)

/-- 'skolemlaw3.WordBits': WHATEVER THE INPUT: true; the input reads as it did. -/
def wordBitsSpec : ChangeSpec := { name := "wordBits", fn := fun _ => fun
  | [d1, d2, d3] => { results := [.lit (.bool true)], args := [d1, d2, d3] }
  | _ => none }
def wordBitsRow : OpenClaim := { program := "ythccobceodgmlaa", sum := "aee0f54ab36bd3481e934c946f3b380272377220f2fdd5675d9fe7fcd287984a", func := "skolem/skolemlaw3.WordBits", spec := "wordBits", inPlace := ["internal/bytealg.IndexByte"], apart := false }
def WordBitsSaid : Prop := wordBitsRow.holds Try.pinned (OpenSpec.ofChange wordBitsSpec)

/-- ITS FALSE NEIGHBOUR: 'it returns false'. Refute it at one input. -/
def wordBitsWrong : ChangeSpec := { name := "wordBits", fn := fun _ => fun
  | [d1, d2, d3] => { results := [.lit (.bool false)], args := [d1, d2, d3] }
  | _ => none }
def WordBitsWrongFalsely : Prop := wordBitsRow.holds Try.pinned (OpenSpec.ofChange wordBitsWrong)

/- THE SECOND FORM. 'bulk': how many values and letters a reading holds, each counted each time it is reached (what is shared counts as often as it is met; a slice's spare places count too). A statement '..UptoSaid' is the law's where the arguments, and the package variables that the reading takes, are together of bulk at most 1048576: NARROWER than '..Said'. Prove '..Said' where nothing that the law and all that it calls make is longer than what came in: it says more and counts as full. Else prove '..UptoSaid'. A law counts once. -/
mutual
def uptoBulk {H : Type} : DataW H → Nat
  | .lit (.string bytes) => bytes.length + 1
  | .lit _ => 1
  | .nil => 1
  | .ptr d => uptoBulk d + 1
  | .slice elems spare => uptoBulkAll elems + uptoBulkAll spare + 1
  | .agg parts => uptoBulkAll parts + 1
  | .iface _ d => uptoBulk d + 1
  | .map entries => uptoBulkEntries entries + 1
  | .held _ => 1
def uptoBulkAll {H : Type} : List (DataW H) → Nat
  | [] => 0
  | d :: r => uptoBulk d + uptoBulkAll r
def uptoBulkEntries {H : Type} : List (Lit × DataW H) → Nat
  | [] => 0
  | x :: r => uptoBulkEntry x + uptoBulkEntries r
def uptoBulkEntry {H : Type} : Lit × DataW H → Nat
  | (.string bytes, d) => bytes.length + uptoBulk d + 1
  | (_, d) => uptoBulk d + 1
 end
def uptoSmall : (H : Type) → List (DataW H) → Bool := fun _ ds => decide (uptoBulkAll ds ≤ 1048576)
def OpenSpec.upto (s : _root_.Go.ChangeSpec) : _root_.Go.OpenSpec := { _root_.Go.OpenSpec.ofChange s with cond := some uptoSmall }

/-- 'skolemlaw2.AssignOwn', WHERE WHAT IT READS IS OF BULK AT MOST 1048576: true; the input reads as it did. -/
def assignOwnUptoRow : OpenClaim := { program := "ythccobceodgmlaa", sum := "aee0f54ab36bd3481e934c946f3b380272377220f2fdd5675d9fe7fcd287984a", func := "skolem/skolemlaw2.AssignOwn", spec := "assignOwn", apart := false, narrowed := true }
def AssignOwnUptoSaid : Prop := assignOwnUptoRow.holds Try.pinned (OpenSpec.upto assignOwnSpec)

/-- 'skolemlaw2.AssignUnits', WHERE WHAT IT READS IS OF BULK AT MOST 1048576: true; the input reads as it did. -/
def assignUnitsUptoRow : OpenClaim := { program := "ythccobceodgmlaa", sum := "aee0f54ab36bd3481e934c946f3b380272377220f2fdd5675d9fe7fcd287984a", func := "skolem/skolemlaw2.AssignUnits", spec := "assignUnits", apart := false, narrowed := true }
def AssignUnitsUptoSaid : Prop := assignUnitsUptoRow.holds Try.pinned (OpenSpec.upto assignUnitsSpec)

/-- 'skolemlaw2.AssignModels', WHERE WHAT IT READS IS OF BULK AT MOST 1048576: true; the input reads as it did. -/
def assignModelsUptoRow : OpenClaim := { program := "ythccobceodgmlaa", sum := "aee0f54ab36bd3481e934c946f3b380272377220f2fdd5675d9fe7fcd287984a", func := "skolem/skolemlaw2.AssignModels", spec := "assignModels", apart := false, narrowed := true }
def AssignModelsUptoSaid : Prop := assignModelsUptoRow.holds Try.pinned (OpenSpec.upto assignModelsSpec)

/-- 'skolemlaw2.AssignPlays', WHERE WHAT IT READS IS OF BULK AT MOST 1048576: true; the input reads as it did. -/
def assignPlaysUptoRow : OpenClaim := { program := "ythccobceodgmlaa", sum := "aee0f54ab36bd3481e934c946f3b380272377220f2fdd5675d9fe7fcd287984a", func := "skolem/skolemlaw2.AssignPlays", spec := "assignPlays", apart := false, narrowed := true }
def AssignPlaysUptoSaid : Prop := assignPlaysUptoRow.holds Try.pinned (OpenSpec.upto assignPlaysSpec)

/-- 'skolemlaw3.WordPlaces', WHERE WHAT IT READS IS OF BULK AT MOST 1048576: true; the input reads as it did. -/
def wordPlacesUptoRow : OpenClaim := { program := "ythccobceodgmlaa", sum := "aee0f54ab36bd3481e934c946f3b380272377220f2fdd5675d9fe7fcd287984a", func := "skolem/skolemlaw3.WordPlaces", spec := "wordPlaces", inPlace := ["internal/bytealg.IndexByte"], apart := false, narrowed := true }
def WordPlacesUptoSaid : Prop := wordPlacesUptoRow.holds Try.pinned (OpenSpec.upto wordPlacesSpec)

/-- 'skolemlaw3.WordLines', WHERE WHAT IT READS IS OF BULK AT MOST 1048576: true; the input reads as it did. -/
def wordLinesUptoRow : OpenClaim := { program := "ythccobceodgmlaa", sum := "aee0f54ab36bd3481e934c946f3b380272377220f2fdd5675d9fe7fcd287984a", func := "skolem/skolemlaw3.WordLines", spec := "wordLines", inPlace := ["internal/bytealg.IndexByte"], apart := false, narrowed := true }
def WordLinesUptoSaid : Prop := wordLinesUptoRow.holds Try.pinned (OpenSpec.upto wordLinesSpec)

/-- 'skolemlaw3.WordBits', WHERE WHAT IT READS IS OF BULK AT MOST 1048576: true; the input reads as it did. -/
def wordBitsUptoRow : OpenClaim := { program := "ythccobceodgmlaa", sum := "aee0f54ab36bd3481e934c946f3b380272377220f2fdd5675d9fe7fcd287984a", func := "skolem/skolemlaw3.WordBits", spec := "wordBits", inPlace := ["internal/bytealg.IndexByte"], apart := false, narrowed := true }
def WordBitsUptoSaid : Prop := wordBitsUptoRow.holds Try.pinned (OpenSpec.upto wordBitsSpec)

end Rows
end Go.Proofs.Ythccobceodgmlaa
