/-
  DERIVED. GIVEN WITH THE SEED: THE CARDS: each row of YtdkckkhghghhdaaDoorRows.lean that lists a variable, with what it lists TIED to the program's text (the seventh form; the later family's looks); each row that meets fmt, with fmt's text TOLD by the authors' own Lean function (tested against real Go, not proved from fmt's source: count such statements apart). THE CARD IS WHAT COUNTS. Prove the row's statement (the work); the ties are given (YtdkckkhghghhdaaDoorTie.lean); close each card by the builder's one call (the guide's Derived/Test/ToyasCard.lean, 'card_holds'). Laid BY PROGRAM, IN A SANDBOX (cutbox-door.mjs). By AI agents, Wed Nov 11 2026. No macro, syntax, notation, axiom, sorry.
-/
import Derived.Test.YtdkckkhghghhdaaDoorRows
import GoSem.ClaimSeven
namespace Go.Proofs.YtdkckkhghghhdaaDoor
namespace Rows

/-- THE TIED CARD OF 'skolemlaw20.ProofReads'. -/
def proofReadsCard : Claim7 := { stood := { row := proofReadsRow, standIns := [], harness := (true, "d71d21f6b588d4df9cf570c071fab7124f95725675866f4785bc2dc987278cbb"), looks := true }, kinds := [], alts := [], laidByText := true, laidKinds := [.data, .data, .data, .sentinel, .sentinel, .sentinel, .sentinel, .sentinel, .sentinel, .sentinel, .sentinel, .sentinel], laidTests := true, laidLooks := .later }
def ProofReadsCardSaid : Prop := Claim7.holds Tryd.pinned (.plain (OpenSpec.ofChange proofReadsSpec)) proofReadsCard

/-- THE TIED CARD OF 'skolemlaw20.ProofRows'. -/
def proofRowsCard : Claim7 := { stood := { row := proofRowsRow, standIns := [], harness := (true, "d71d21f6b588d4df9cf570c071fab7124f95725675866f4785bc2dc987278cbb"), looks := true }, kinds := [], alts := [], laidByText := true, laidKinds := [.data, .data, .data, .sentinel, .sentinel, .sentinel, .sentinel, .sentinel, .sentinel, .sentinel, .sentinel, .sentinel], laidTests := true, laidLooks := .later }
def ProofRowsCardSaid : Prop := Claim7.holds Tryd.pinned (.plain (OpenSpec.ofChange proofRowsSpec)) proofRowsCard

/-- THE TIED CARD OF 'skolemlaw20.ProofLimits'. -/
def proofLimitsCard : Claim7 := { stood := { row := proofLimitsRow, standIns := [], harness := (true, "d71d21f6b588d4df9cf570c071fab7124f95725675866f4785bc2dc987278cbb"), looks := true }, kinds := [], alts := [], laidByText := true, laidKinds := [.data, .data, .data, .sentinel, .sentinel, .sentinel, .sentinel, .sentinel, .sentinel, .sentinel, .sentinel, .sentinel], laidTests := true, laidLooks := .later }
def ProofLimitsCardSaid : Prop := Claim7.holds Tryd.pinned (.plain (OpenSpec.ofChange proofLimitsSpec)) proofLimitsCard

/-- THE TIED CARD OF 'skolemlaw20.ProofChecks'. -/
def proofChecksCard : Claim7 := { stood := { row := proofChecksRow, standIns := [], harness := (true, "d71d21f6b588d4df9cf570c071fab7124f95725675866f4785bc2dc987278cbb"), looks := true }, kinds := [], alts := [], laidByText := true, laidKinds := [.data, .data, .data, .sentinel, .sentinel, .sentinel, .sentinel, .sentinel, .sentinel, .sentinel, .sentinel, .sentinel], laidTests := true, laidLooks := .later }
def ProofChecksCardSaid : Prop := Claim7.holds Tryd.pinned (.plain (OpenSpec.ofChange proofChecksSpec)) proofChecksCard

/-- THE TIED CARD OF 'skolemlaw4.DimacsReads'. -/
def dimacsReadsCard : Claim7 := { stood := { row := dimacsReadsRow, standIns := [], harness := (true, "d71d21f6b588d4df9cf570c071fab7124f95725675866f4785bc2dc987278cbb"), looks := true }, kinds := [], alts := [], laidByText := true, laidKinds := [.data, .data, .data, .sentinel, .sentinel, .sentinel, .sentinel, .sentinel, .sentinel, .sentinel, .sentinel, .sentinel], laidTests := true, laidLooks := .later }
def DimacsReadsCardSaid : Prop := Claim7.holds Tryd.pinned (.plain (OpenSpec.ofChange dimacsReadsSpec)) dimacsReadsCard

/-- THE TIED CARD OF 'skolemlaw4.DimacsBytes'. -/
def dimacsBytesCard : Claim7 := { stood := { row := dimacsBytesRow, standIns := [], harness := (true, "d71d21f6b588d4df9cf570c071fab7124f95725675866f4785bc2dc987278cbb"), looks := true }, kinds := [], alts := [], laidByText := true, laidKinds := [.data, .data, .data, .sentinel, .sentinel, .sentinel, .sentinel, .sentinel, .sentinel, .sentinel, .sentinel, .sentinel], laidTests := true, laidLooks := .later }
def DimacsBytesCardSaid : Prop := Claim7.holds Tryd.pinned (.plain (OpenSpec.ofChange dimacsBytesSpec)) dimacsBytesCard

/-- THE TIED CARD OF 'skolemlaw4.DimacsBlanks'. -/
def dimacsBlanksCard : Claim7 := { stood := { row := dimacsBlanksRow, standIns := [], harness := (true, "d71d21f6b588d4df9cf570c071fab7124f95725675866f4785bc2dc987278cbb"), looks := true }, kinds := [], alts := [], laidByText := true, laidKinds := [.data, .data, .data, .sentinel, .sentinel, .sentinel, .sentinel, .sentinel, .sentinel, .sentinel, .sentinel, .sentinel], laidTests := true, laidLooks := .later }
def DimacsBlanksCardSaid : Prop := Claim7.holds Tryd.pinned (.plain (OpenSpec.ofChange dimacsBlanksSpec)) dimacsBlanksCard

/-- THE TIED CARD OF 'skolemlaw5.QdimacsReads'. -/
def qdimacsReadsCard : Claim7 := { stood := { row := qdimacsReadsRow, standIns := [], harness := (true, "d71d21f6b588d4df9cf570c071fab7124f95725675866f4785bc2dc987278cbb"), looks := true }, kinds := [], alts := [], laidByText := true, laidKinds := [.data, .data, .data, .sentinel, .sentinel, .sentinel, .sentinel, .sentinel, .sentinel, .sentinel, .sentinel, .sentinel], laidTests := true, laidLooks := .later }
def QdimacsReadsCardSaid : Prop := Claim7.holds Tryd.pinned (.plain (OpenSpec.ofChange qdimacsReadsSpec)) qdimacsReadsCard

/-- THE TIED CARD OF 'skolemlaw5.QdimacsBlocks'. -/
def qdimacsBlocksCard : Claim7 := { stood := { row := qdimacsBlocksRow, standIns := [], harness := (true, "d71d21f6b588d4df9cf570c071fab7124f95725675866f4785bc2dc987278cbb"), looks := true }, kinds := [], alts := [], laidByText := true, laidKinds := [.data, .data, .data, .sentinel, .sentinel, .sentinel, .sentinel, .sentinel, .sentinel, .sentinel, .sentinel, .sentinel], laidTests := true, laidLooks := .later }
def QdimacsBlocksCardSaid : Prop := Claim7.holds Tryd.pinned (.plain (OpenSpec.ofChange qdimacsBlocksSpec)) qdimacsBlocksCard

/-- THE TIED CARD OF 'skolemlaw5.QdimacsChecks'. -/
def qdimacsChecksCard : Claim7 := { stood := { row := qdimacsChecksRow, standIns := [], harness := (true, "d71d21f6b588d4df9cf570c071fab7124f95725675866f4785bc2dc987278cbb"), looks := true }, kinds := [], alts := [], laidByText := true, laidKinds := [.data, .data, .data, .sentinel, .sentinel, .sentinel, .sentinel, .sentinel, .sentinel, .sentinel, .sentinel, .sentinel], laidTests := true, laidLooks := .later }
def QdimacsChecksCardSaid : Prop := Claim7.holds Tryd.pinned (.plain (OpenSpec.ofChange qdimacsChecksSpec)) qdimacsChecksCard

/-- THE TIED CARD OF 'skolemlaw5.QdimacsPlain'. -/
def qdimacsPlainCard : Claim7 := { stood := { row := qdimacsPlainRow, standIns := [], harness := (true, "d71d21f6b588d4df9cf570c071fab7124f95725675866f4785bc2dc987278cbb"), looks := true }, kinds := [], alts := [], laidByText := true, laidKinds := [.data, .data, .data, .sentinel, .sentinel, .sentinel, .sentinel, .sentinel, .sentinel, .sentinel, .sentinel, .sentinel], laidTests := true, laidLooks := .later }
def QdimacsPlainCardSaid : Prop := Claim7.holds Tryd.pinned (.plain (OpenSpec.ofChange qdimacsPlainSpec)) qdimacsPlainCard

/-- THE SECOND FORM's CARD OF 'skolemlaw20.ProofReads'. -/
def proofReadsUptoCard : Claim7 := { stood := { row := proofReadsUptoRow, standIns := [], harness := (true, "d71d21f6b588d4df9cf570c071fab7124f95725675866f4785bc2dc987278cbb"), looks := true }, kinds := [], alts := [], laidByText := true, laidKinds := [.data, .data, .data, .sentinel, .sentinel, .sentinel, .sentinel, .sentinel, .sentinel, .sentinel, .sentinel, .sentinel], laidTests := true, laidLooks := .later }
def ProofReadsUptoCardSaid : Prop := Claim7.holds Tryd.pinned (.plain (OpenSpec.upto proofReadsSpec)) proofReadsUptoCard

/-- THE SECOND FORM's CARD OF 'skolemlaw20.ProofRows'. -/
def proofRowsUptoCard : Claim7 := { stood := { row := proofRowsUptoRow, standIns := [], harness := (true, "d71d21f6b588d4df9cf570c071fab7124f95725675866f4785bc2dc987278cbb"), looks := true }, kinds := [], alts := [], laidByText := true, laidKinds := [.data, .data, .data, .sentinel, .sentinel, .sentinel, .sentinel, .sentinel, .sentinel, .sentinel, .sentinel, .sentinel], laidTests := true, laidLooks := .later }
def ProofRowsUptoCardSaid : Prop := Claim7.holds Tryd.pinned (.plain (OpenSpec.upto proofRowsSpec)) proofRowsUptoCard

/-- THE SECOND FORM's CARD OF 'skolemlaw20.ProofLimits'. -/
def proofLimitsUptoCard : Claim7 := { stood := { row := proofLimitsUptoRow, standIns := [], harness := (true, "d71d21f6b588d4df9cf570c071fab7124f95725675866f4785bc2dc987278cbb"), looks := true }, kinds := [], alts := [], laidByText := true, laidKinds := [.data, .data, .data, .sentinel, .sentinel, .sentinel, .sentinel, .sentinel, .sentinel, .sentinel, .sentinel, .sentinel], laidTests := true, laidLooks := .later }
def ProofLimitsUptoCardSaid : Prop := Claim7.holds Tryd.pinned (.plain (OpenSpec.upto proofLimitsSpec)) proofLimitsUptoCard

/-- THE SECOND FORM's CARD OF 'skolemlaw20.ProofChecks'. -/
def proofChecksUptoCard : Claim7 := { stood := { row := proofChecksUptoRow, standIns := [], harness := (true, "d71d21f6b588d4df9cf570c071fab7124f95725675866f4785bc2dc987278cbb"), looks := true }, kinds := [], alts := [], laidByText := true, laidKinds := [.data, .data, .data, .sentinel, .sentinel, .sentinel, .sentinel, .sentinel, .sentinel, .sentinel, .sentinel, .sentinel], laidTests := true, laidLooks := .later }
def ProofChecksUptoCardSaid : Prop := Claim7.holds Tryd.pinned (.plain (OpenSpec.upto proofChecksSpec)) proofChecksUptoCard

/-- THE SECOND FORM's CARD OF 'skolemlaw4.DimacsReads'. -/
def dimacsReadsUptoCard : Claim7 := { stood := { row := dimacsReadsUptoRow, standIns := [], harness := (true, "d71d21f6b588d4df9cf570c071fab7124f95725675866f4785bc2dc987278cbb"), looks := true }, kinds := [], alts := [], laidByText := true, laidKinds := [.data, .data, .data, .sentinel, .sentinel, .sentinel, .sentinel, .sentinel, .sentinel, .sentinel, .sentinel, .sentinel], laidTests := true, laidLooks := .later }
def DimacsReadsUptoCardSaid : Prop := Claim7.holds Tryd.pinned (.plain (OpenSpec.upto dimacsReadsSpec)) dimacsReadsUptoCard

/-- THE SECOND FORM's CARD OF 'skolemlaw4.DimacsBytes'. -/
def dimacsBytesUptoCard : Claim7 := { stood := { row := dimacsBytesUptoRow, standIns := [], harness := (true, "d71d21f6b588d4df9cf570c071fab7124f95725675866f4785bc2dc987278cbb"), looks := true }, kinds := [], alts := [], laidByText := true, laidKinds := [.data, .data, .data, .sentinel, .sentinel, .sentinel, .sentinel, .sentinel, .sentinel, .sentinel, .sentinel, .sentinel], laidTests := true, laidLooks := .later }
def DimacsBytesUptoCardSaid : Prop := Claim7.holds Tryd.pinned (.plain (OpenSpec.upto dimacsBytesSpec)) dimacsBytesUptoCard

/-- THE SECOND FORM's CARD OF 'skolemlaw4.DimacsBlanks'. -/
def dimacsBlanksUptoCard : Claim7 := { stood := { row := dimacsBlanksUptoRow, standIns := [], harness := (true, "d71d21f6b588d4df9cf570c071fab7124f95725675866f4785bc2dc987278cbb"), looks := true }, kinds := [], alts := [], laidByText := true, laidKinds := [.data, .data, .data, .sentinel, .sentinel, .sentinel, .sentinel, .sentinel, .sentinel, .sentinel, .sentinel, .sentinel], laidTests := true, laidLooks := .later }
def DimacsBlanksUptoCardSaid : Prop := Claim7.holds Tryd.pinned (.plain (OpenSpec.upto dimacsBlanksSpec)) dimacsBlanksUptoCard

/-- THE SECOND FORM's CARD OF 'skolemlaw5.QdimacsReads'. -/
def qdimacsReadsUptoCard : Claim7 := { stood := { row := qdimacsReadsUptoRow, standIns := [], harness := (true, "d71d21f6b588d4df9cf570c071fab7124f95725675866f4785bc2dc987278cbb"), looks := true }, kinds := [], alts := [], laidByText := true, laidKinds := [.data, .data, .data, .sentinel, .sentinel, .sentinel, .sentinel, .sentinel, .sentinel, .sentinel, .sentinel, .sentinel], laidTests := true, laidLooks := .later }
def QdimacsReadsUptoCardSaid : Prop := Claim7.holds Tryd.pinned (.plain (OpenSpec.upto qdimacsReadsSpec)) qdimacsReadsUptoCard

/-- THE SECOND FORM's CARD OF 'skolemlaw5.QdimacsBlocks'. -/
def qdimacsBlocksUptoCard : Claim7 := { stood := { row := qdimacsBlocksUptoRow, standIns := [], harness := (true, "d71d21f6b588d4df9cf570c071fab7124f95725675866f4785bc2dc987278cbb"), looks := true }, kinds := [], alts := [], laidByText := true, laidKinds := [.data, .data, .data, .sentinel, .sentinel, .sentinel, .sentinel, .sentinel, .sentinel, .sentinel, .sentinel, .sentinel], laidTests := true, laidLooks := .later }
def QdimacsBlocksUptoCardSaid : Prop := Claim7.holds Tryd.pinned (.plain (OpenSpec.upto qdimacsBlocksSpec)) qdimacsBlocksUptoCard

/-- THE SECOND FORM's CARD OF 'skolemlaw5.QdimacsChecks'. -/
def qdimacsChecksUptoCard : Claim7 := { stood := { row := qdimacsChecksUptoRow, standIns := [], harness := (true, "d71d21f6b588d4df9cf570c071fab7124f95725675866f4785bc2dc987278cbb"), looks := true }, kinds := [], alts := [], laidByText := true, laidKinds := [.data, .data, .data, .sentinel, .sentinel, .sentinel, .sentinel, .sentinel, .sentinel, .sentinel, .sentinel, .sentinel], laidTests := true, laidLooks := .later }
def QdimacsChecksUptoCardSaid : Prop := Claim7.holds Tryd.pinned (.plain (OpenSpec.upto qdimacsChecksSpec)) qdimacsChecksUptoCard

/-- THE SECOND FORM's CARD OF 'skolemlaw5.QdimacsPlain'. -/
def qdimacsPlainUptoCard : Claim7 := { stood := { row := qdimacsPlainUptoRow, standIns := [], harness := (true, "d71d21f6b588d4df9cf570c071fab7124f95725675866f4785bc2dc987278cbb"), looks := true }, kinds := [], alts := [], laidByText := true, laidKinds := [.data, .data, .data, .sentinel, .sentinel, .sentinel, .sentinel, .sentinel, .sentinel, .sentinel, .sentinel, .sentinel], laidTests := true, laidLooks := .later }
def QdimacsPlainUptoCardSaid : Prop := Claim7.holds Tryd.pinned (.plain (OpenSpec.upto qdimacsPlainSpec)) qdimacsPlainUptoCard
end Rows
end Go.Proofs.YtdkckkhghghhdaaDoor
