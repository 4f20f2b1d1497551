/-
  DERIVED. GIVEN WITH THE SEED: THE CARDS: each row of YtjagkijfngokaaaGreatDoorRows.lean that lists a variable, with what it lists TIED to the program's text (the seventh form; the later family's looks); each row that meets fmt, with fmt's text TOLD by the authors' own Lean function (tested against real Go, not proved from fmt's source: count such statements apart). THE CARD IS WHAT COUNTS. Prove the row's statement (the work); the ties are given (YtjagkijfngokaaaGreatDoorTie.lean); close each card by the builder's one call (the guide's Derived/Test/ToyasCard.lean, 'card_holds'). Laid BY PROGRAM, IN A SANDBOX (cutbox-door.mjs). By AI agents, Wed Nov 11 2026. No macro, syntax, notation, axiom, sorry.
-/
import Derived.Test.YtjagkijfngokaaaGreatDoorRows
import GoSem.ClaimSeven
namespace Go.Proofs.YtjagkijfngokaaaGreatDoor
namespace Rows

/-- THE TIED CARD OF 'skolemlaw26.CertClaims'. -/
def certClaimsCard : Claim7 := { stood := { row := certClaimsRow, standIns := [], harness := (true, "ecad20c4e469a30599e1a7da63250973b52f8600ddebca036f94ea2a7dddf205"), looks := true }, kinds := [], alts := [], laidByText := true, laidKinds := [.data, .data, .data, .sentinel, .sentinel, .sentinel, .sentinel, .sentinel, .sentinel, .sentinel], laidTests := true, laidLooks := .later }
def CertClaimsCardSaid : Prop := Claim7.holds Tryz.pinned (.plain (OpenSpec.ofChange certClaimsSpec)) certClaimsCard

/-- THE TIED CARD OF 'skolemlaw26.CertReads'. -/
def certReadsCard : Claim7 := { stood := { row := certReadsRow, standIns := [], harness := (true, "ecad20c4e469a30599e1a7da63250973b52f8600ddebca036f94ea2a7dddf205"), looks := true }, kinds := [], alts := [], laidByText := true, laidKinds := [.data, .data, .data, .handle, .sentinel, .sentinel, .sentinel, .sentinel, .sentinel, .sentinel, .sentinel, .sentinel, .sentinel], laidTests := true, laidLooks := .later }
def CertReadsCardSaid : Prop := Claim7.holds Tryz.pinned (.plain (OpenSpec.ofChange certReadsSpec)) certReadsCard

/-- THE TIED CARD OF 'skolemlaw26.CertBack'. -/
def certBackCard : Claim7 := { stood := { row := certBackRow, standIns := [], harness := (true, "ecad20c4e469a30599e1a7da63250973b52f8600ddebca036f94ea2a7dddf205"), looks := true }, kinds := [], alts := [], laidByText := true, laidKinds := [.data, .data, .data, .handle, .sentinel, .sentinel, .sentinel, .sentinel], laidTests := true, laidLooks := .later }
def CertBackCardSaid : Prop := Claim7.holds Tryz.pinned (.plain (OpenSpec.ofChange certBackSpec)) certBackCard

/-- THE TIED CARD OF 'skolemlaw26.CertShapes'. -/
def certShapesCard : Claim7 := { stood := { row := certShapesRow, standIns := [], harness := (true, "ecad20c4e469a30599e1a7da63250973b52f8600ddebca036f94ea2a7dddf205"), looks := true }, kinds := [], alts := [], laidByText := true, laidKinds := [.data, .data, .data, .handle, .sentinel, .sentinel, .sentinel, .sentinel, .sentinel, .sentinel, .sentinel, .sentinel, .sentinel], laidTests := true, laidLooks := .later }
def CertShapesCardSaid : Prop := Claim7.holds Tryz.pinned (.plain (OpenSpec.ofChange certShapesSpec)) certShapesCard

/-- THE SECOND FORM's CARD OF 'skolemlaw26.CertClaims'. -/
def certClaimsUptoCard : Claim7 := { stood := { row := certClaimsUptoRow, standIns := [], harness := (true, "ecad20c4e469a30599e1a7da63250973b52f8600ddebca036f94ea2a7dddf205"), looks := true }, kinds := [], alts := [], laidByText := true, laidKinds := [.data, .data, .data, .sentinel, .sentinel, .sentinel, .sentinel, .sentinel, .sentinel, .sentinel], laidTests := true, laidLooks := .later }
def CertClaimsUptoCardSaid : Prop := Claim7.holds Tryz.pinned (.plain (OpenSpec.upto certClaimsSpec)) certClaimsUptoCard

/-- THE SECOND FORM's CARD OF 'skolemlaw26.CertReads'. -/
def certReadsUptoCard : Claim7 := { stood := { row := certReadsUptoRow, standIns := [], harness := (true, "ecad20c4e469a30599e1a7da63250973b52f8600ddebca036f94ea2a7dddf205"), looks := true }, kinds := [], alts := [], laidByText := true, laidKinds := [.data, .data, .data, .handle, .sentinel, .sentinel, .sentinel, .sentinel, .sentinel, .sentinel, .sentinel, .sentinel, .sentinel], laidTests := true, laidLooks := .later }
def CertReadsUptoCardSaid : Prop := Claim7.holds Tryz.pinned (.plain (OpenSpec.upto certReadsSpec)) certReadsUptoCard

/-- THE SECOND FORM's CARD OF 'skolemlaw26.CertBack'. -/
def certBackUptoCard : Claim7 := { stood := { row := certBackUptoRow, standIns := [], harness := (true, "ecad20c4e469a30599e1a7da63250973b52f8600ddebca036f94ea2a7dddf205"), looks := true }, kinds := [], alts := [], laidByText := true, laidKinds := [.data, .data, .data, .handle, .sentinel, .sentinel, .sentinel, .sentinel], laidTests := true, laidLooks := .later }
def CertBackUptoCardSaid : Prop := Claim7.holds Tryz.pinned (.plain (OpenSpec.upto certBackSpec)) certBackUptoCard

/-- THE SECOND FORM's CARD OF 'skolemlaw26.CertShapes'. -/
def certShapesUptoCard : Claim7 := { stood := { row := certShapesUptoRow, standIns := [], harness := (true, "ecad20c4e469a30599e1a7da63250973b52f8600ddebca036f94ea2a7dddf205"), looks := true }, kinds := [], alts := [], laidByText := true, laidKinds := [.data, .data, .data, .handle, .sentinel, .sentinel, .sentinel, .sentinel, .sentinel, .sentinel, .sentinel, .sentinel, .sentinel], laidTests := true, laidLooks := .later }
def CertShapesUptoCardSaid : Prop := Claim7.holds Tryz.pinned (.plain (OpenSpec.upto certShapesSpec)) certShapesUptoCard
end Rows
end Go.Proofs.YtjagkijfngokaaaGreatDoor
