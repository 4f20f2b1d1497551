/-
  DERIVED. GIVEN WITH THE SEED: THE CARDS: each row of YtmjbjgbcpaagmaaDoorRows.lean that lists a variable, with what it lists TIED to the program's text (the seventh form; the later family's looks); each row that meets fmt, with fmt's text TOLD by the authors' own Lean function (tested against real Go, not proved from fmt's source: count such statements apart). THE CARD IS WHAT COUNTS. Prove the row's statement (the work); the ties are given (YtmjbjgbcpaagmaaDoorTie.lean); close each card by the builder's one call (the guide's Derived/Test/ToyasCard.lean, 'card_holds'). Laid BY PROGRAM, IN A SANDBOX (cutbox-door.mjs). By AI agents, Wed Nov 11 2026. No macro, syntax, notation, axiom, sorry.
-/
import Derived.Test.YtmjbjgbcpaagmaaDoorRows
import GoSem.ClaimSeven
namespace Go.Proofs.YtmjbjgbcpaagmaaDoor
namespace Rows

/-- THE TIED CARD OF 'skolemlaw11.AagReads'. -/
def aagReadsCard : Claim7 := { stood := { row := aagReadsRow, standIns := [], harness := (true, "1511f674d90b51675550702178615f66620963abb946b788a58302e8963ada6d"), looks := true }, kinds := [], alts := [], laidByText := true, laidKinds := [.data, .data, .data, .sentinel, .sentinel, .sentinel, .sentinel, .sentinel, .sentinel, .sentinel, .sentinel, .sentinel], laidTests := true, laidLooks := .later }
def AagReadsCardSaid : Prop := Claim7.holds Tryd.pinned (.plain (OpenSpec.ofChange aagReadsSpec)) aagReadsCard

/-- THE TIED CARD OF 'skolemlaw11.AagTurned'. -/
def aagTurnedCard : Claim7 := { stood := { row := aagTurnedRow, standIns := [], harness := (true, "1511f674d90b51675550702178615f66620963abb946b788a58302e8963ada6d"), looks := true }, kinds := [], alts := [], laidByText := true, laidKinds := [.data, .data, .data, .sentinel, .sentinel, .sentinel, .sentinel, .sentinel, .sentinel, .sentinel, .sentinel, .sentinel], laidTests := true, laidLooks := .later }
def AagTurnedCardSaid : Prop := Claim7.holds Tryd.pinned (.plain (OpenSpec.ofChange aagTurnedSpec)) aagTurnedCard

/-- THE TIED CARD OF 'skolemlaw11.AagBack'. -/
def aagBackCard : Claim7 := { stood := { row := aagBackRow, standIns := [], harness := (true, "1511f674d90b51675550702178615f66620963abb946b788a58302e8963ada6d"), looks := true }, kinds := [], alts := [], laidByText := true, laidKinds := [.data, .data, .data, .sentinel, .sentinel, .sentinel, .sentinel, .sentinel, .sentinel, .sentinel, .sentinel, .sentinel], laidTests := true, laidLooks := .later }
def AagBackCardSaid : Prop := Claim7.holds Tryd.pinned (.plain (OpenSpec.ofChange aagBackSpec)) aagBackCard

/-- THE TIED CARD OF 'skolemlaw12.AigCuts'. -/
def aigCutsCard : Claim7 := { stood := { row := aigCutsRow, standIns := [], harness := (true, "1511f674d90b51675550702178615f66620963abb946b788a58302e8963ada6d"), looks := true }, kinds := [], alts := [], laidByText := true, laidKinds := [.data, .data, .data, .sentinel, .sentinel, .sentinel, .sentinel, .sentinel, .sentinel, .sentinel, .sentinel, .sentinel], laidTests := true, laidLooks := .later }
def AigCutsCardSaid : Prop := Claim7.holds Tryd.pinned (.plain (OpenSpec.ofChange aigCutsSpec)) aigCutsCard

/-- THE TIED CARD OF 'skolemlaw12.AigHeads'. -/
def aigHeadsCard : Claim7 := { stood := { row := aigHeadsRow, standIns := [], harness := (true, "1511f674d90b51675550702178615f66620963abb946b788a58302e8963ada6d"), looks := true }, kinds := [], alts := [], laidByText := true, laidKinds := [.data, .data, .data, .sentinel, .sentinel, .sentinel, .sentinel, .sentinel, .sentinel, .sentinel, .sentinel, .sentinel], laidTests := true, laidLooks := .later }
def AigHeadsCardSaid : Prop := Claim7.holds Tryd.pinned (.plain (OpenSpec.ofChange aigHeadsSpec)) aigHeadsCard

/-- THE TIED CARD OF 'skolemlaw12.AigBack'. -/
def aigBackCard : Claim7 := { stood := { row := aigBackRow, standIns := [], harness := (true, "1511f674d90b51675550702178615f66620963abb946b788a58302e8963ada6d"), looks := true }, kinds := [], alts := [], laidByText := true, laidKinds := [.data, .data, .data, .sentinel, .sentinel, .sentinel, .sentinel, .sentinel, .sentinel, .sentinel, .sentinel, .sentinel], laidTests := true, laidLooks := .later }
def AigBackCardSaid : Prop := Claim7.holds Tryd.pinned (.plain (OpenSpec.ofChange aigBackSpec)) aigBackCard

/-- THE TIED CARD OF 'skolemlaw12.AigForms'. -/
def aigFormsCard : Claim7 := { stood := { row := aigFormsRow, standIns := [], harness := (true, "1511f674d90b51675550702178615f66620963abb946b788a58302e8963ada6d"), looks := true }, kinds := [], alts := [], laidByText := true, laidKinds := [.data, .data, .data, .sentinel, .sentinel, .sentinel, .sentinel, .sentinel, .sentinel, .sentinel, .sentinel, .sentinel], laidTests := true, laidLooks := .later }
def AigFormsCardSaid : Prop := Claim7.holds Tryd.pinned (.plain (OpenSpec.ofChange aigFormsSpec)) aigFormsCard

/-- THE SECOND FORM's CARD OF 'skolemlaw11.AagReads'. -/
def aagReadsUptoCard : Claim7 := { stood := { row := aagReadsUptoRow, standIns := [], harness := (true, "1511f674d90b51675550702178615f66620963abb946b788a58302e8963ada6d"), looks := true }, kinds := [], alts := [], laidByText := true, laidKinds := [.data, .data, .data, .sentinel, .sentinel, .sentinel, .sentinel, .sentinel, .sentinel, .sentinel, .sentinel, .sentinel], laidTests := true, laidLooks := .later }
def AagReadsUptoCardSaid : Prop := Claim7.holds Tryd.pinned (.plain (OpenSpec.upto aagReadsSpec)) aagReadsUptoCard

/-- THE SECOND FORM's CARD OF 'skolemlaw11.AagTurned'. -/
def aagTurnedUptoCard : Claim7 := { stood := { row := aagTurnedUptoRow, standIns := [], harness := (true, "1511f674d90b51675550702178615f66620963abb946b788a58302e8963ada6d"), looks := true }, kinds := [], alts := [], laidByText := true, laidKinds := [.data, .data, .data, .sentinel, .sentinel, .sentinel, .sentinel, .sentinel, .sentinel, .sentinel, .sentinel, .sentinel], laidTests := true, laidLooks := .later }
def AagTurnedUptoCardSaid : Prop := Claim7.holds Tryd.pinned (.plain (OpenSpec.upto aagTurnedSpec)) aagTurnedUptoCard

/-- THE SECOND FORM's CARD OF 'skolemlaw11.AagBack'. -/
def aagBackUptoCard : Claim7 := { stood := { row := aagBackUptoRow, standIns := [], harness := (true, "1511f674d90b51675550702178615f66620963abb946b788a58302e8963ada6d"), looks := true }, kinds := [], alts := [], laidByText := true, laidKinds := [.data, .data, .data, .sentinel, .sentinel, .sentinel, .sentinel, .sentinel, .sentinel, .sentinel, .sentinel, .sentinel], laidTests := true, laidLooks := .later }
def AagBackUptoCardSaid : Prop := Claim7.holds Tryd.pinned (.plain (OpenSpec.upto aagBackSpec)) aagBackUptoCard

/-- THE SECOND FORM's CARD OF 'skolemlaw12.AigCuts'. -/
def aigCutsUptoCard : Claim7 := { stood := { row := aigCutsUptoRow, standIns := [], harness := (true, "1511f674d90b51675550702178615f66620963abb946b788a58302e8963ada6d"), looks := true }, kinds := [], alts := [], laidByText := true, laidKinds := [.data, .data, .data, .sentinel, .sentinel, .sentinel, .sentinel, .sentinel, .sentinel, .sentinel, .sentinel, .sentinel], laidTests := true, laidLooks := .later }
def AigCutsUptoCardSaid : Prop := Claim7.holds Tryd.pinned (.plain (OpenSpec.upto aigCutsSpec)) aigCutsUptoCard

/-- THE SECOND FORM's CARD OF 'skolemlaw12.AigHeads'. -/
def aigHeadsUptoCard : Claim7 := { stood := { row := aigHeadsUptoRow, standIns := [], harness := (true, "1511f674d90b51675550702178615f66620963abb946b788a58302e8963ada6d"), looks := true }, kinds := [], alts := [], laidByText := true, laidKinds := [.data, .data, .data, .sentinel, .sentinel, .sentinel, .sentinel, .sentinel, .sentinel, .sentinel, .sentinel, .sentinel], laidTests := true, laidLooks := .later }
def AigHeadsUptoCardSaid : Prop := Claim7.holds Tryd.pinned (.plain (OpenSpec.upto aigHeadsSpec)) aigHeadsUptoCard

/-- THE SECOND FORM's CARD OF 'skolemlaw12.AigBack'. -/
def aigBackUptoCard : Claim7 := { stood := { row := aigBackUptoRow, standIns := [], harness := (true, "1511f674d90b51675550702178615f66620963abb946b788a58302e8963ada6d"), looks := true }, kinds := [], alts := [], laidByText := true, laidKinds := [.data, .data, .data, .sentinel, .sentinel, .sentinel, .sentinel, .sentinel, .sentinel, .sentinel, .sentinel, .sentinel], laidTests := true, laidLooks := .later }
def AigBackUptoCardSaid : Prop := Claim7.holds Tryd.pinned (.plain (OpenSpec.upto aigBackSpec)) aigBackUptoCard

/-- THE SECOND FORM's CARD OF 'skolemlaw12.AigForms'. -/
def aigFormsUptoCard : Claim7 := { stood := { row := aigFormsUptoRow, standIns := [], harness := (true, "1511f674d90b51675550702178615f66620963abb946b788a58302e8963ada6d"), looks := true }, kinds := [], alts := [], laidByText := true, laidKinds := [.data, .data, .data, .sentinel, .sentinel, .sentinel, .sentinel, .sentinel, .sentinel, .sentinel, .sentinel, .sentinel], laidTests := true, laidLooks := .later }
def AigFormsUptoCardSaid : Prop := Claim7.holds Tryd.pinned (.plain (OpenSpec.upto aigFormsSpec)) aigFormsUptoCard
end Rows
end Go.Proofs.YtmjbjgbcpaagmaaDoor
