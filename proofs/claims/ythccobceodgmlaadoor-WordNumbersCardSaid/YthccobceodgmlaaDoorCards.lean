/-
  DERIVED. GIVEN WITH THE SEED: THE CARDS: each row of YthccobceodgmlaaDoorRows.lean that lists a variable, with what it lists TIED to the program's text (the seventh form; the later family's looks); each row that meets fmt, with fmt's text TOLD by the authors' own Lean function (tested against real Go, not proved from fmt's source: count such statements apart). THE CARD IS WHAT COUNTS. Prove the row's statement (the work); the ties are given (YthccobceodgmlaaDoorTie.lean); close each card by the builder's one call (the guide's Derived/Test/ToyasCard.lean, 'card_holds'). Laid BY PROGRAM, IN A SANDBOX (cutbox-door.mjs). By AI agents, Wed Nov 11 2026. No macro, syntax, notation, axiom, sorry.
-/
import Derived.Test.YthccobceodgmlaaDoorRows
import GoSem.ClaimSeven
namespace Go.Proofs.YthccobceodgmlaaDoor
namespace Rows

/-- THE TIED CARD OF 'skolemlaw7.SlowTurns'. -/
def slowTurnsCard : Claim7 := { stood := { row := slowTurnsRow, standIns := [], harness := (true, "7bb692338e0dbcddc6231d106e484ab83847d5e1c08f176e824850c776c23dd2"), looks := true }, kinds := [], alts := [], laidByText := true, laidKinds := [.sentinel, .sentinel], laidTests := true, laidLooks := .later }
def SlowTurnsCardSaid : Prop := Claim7.holds Tryd.pinned (.plain (OpenSpec.ofChange slowTurnsSpec)) slowTurnsCard

/-- THE TIED CARD OF 'skolemlaw7.SlowSats'. -/
def slowSatsCard : Claim7 := { stood := { row := slowSatsRow, standIns := [], harness := (true, "7bb692338e0dbcddc6231d106e484ab83847d5e1c08f176e824850c776c23dd2"), looks := true }, kinds := [], alts := [], laidByText := true, laidKinds := [.sentinel, .sentinel], laidTests := true, laidLooks := .later }
def SlowSatsCardSaid : Prop := Claim7.holds Tryd.pinned (.plain (OpenSpec.ofChange slowSatsSpec)) slowSatsCard

/-- THE TIED CARD OF 'skolemlaw7.SlowSays'. -/
def slowSaysCard : Claim7 := { stood := { row := slowSaysRow, standIns := [], harness := (true, "7bb692338e0dbcddc6231d106e484ab83847d5e1c08f176e824850c776c23dd2"), looks := true }, kinds := [], alts := [], laidByText := true, laidKinds := [.sentinel, .sentinel], laidTests := true, laidLooks := .later }
def SlowSaysCardSaid : Prop := Claim7.holds Tryd.pinned (.plain (OpenSpec.ofChange slowSaysSpec)) slowSaysCard

/-- THE TIED CARD OF 'skolemlaw7.SlowLimits'. -/
def slowLimitsCard : Claim7 := { stood := { row := slowLimitsRow, standIns := [], harness := (true, "7bb692338e0dbcddc6231d106e484ab83847d5e1c08f176e824850c776c23dd2"), looks := true }, kinds := [], alts := [], laidByText := true, laidKinds := [.sentinel, .sentinel, .sentinel, .sentinel, .sentinel, .sentinel, .sentinel], laidTests := true, laidLooks := .later }
def SlowLimitsCardSaid : Prop := Claim7.holds Tryd.pinned (.plain (OpenSpec.ofChange slowLimitsSpec)) slowLimitsCard

/-- THE TIED CARD OF 'skolemlaw3.WordNumbers'. -/
def wordNumbersCard : Claim7 := { stood := { row := wordNumbersRow, standIns := [], harness := (true, "7bb692338e0dbcddc6231d106e484ab83847d5e1c08f176e824850c776c23dd2"), looks := true }, kinds := [], alts := [], laidByText := true, laidKinds := [.data, .data, .data, .sentinel, .sentinel], laidTests := true, laidLooks := .later }
def WordNumbersCardSaid : Prop := Claim7.holds Tryd.pinned (.plain (OpenSpec.ofChange wordNumbersSpec)) wordNumbersCard

/-- THE SECOND FORM's CARD OF 'skolemlaw7.SlowTurns'. -/
def slowTurnsUptoCard : Claim7 := { stood := { row := slowTurnsUptoRow, standIns := [], harness := (true, "7bb692338e0dbcddc6231d106e484ab83847d5e1c08f176e824850c776c23dd2"), looks := true }, kinds := [], alts := [], laidByText := true, laidKinds := [.sentinel, .sentinel], laidTests := true, laidLooks := .later }
def SlowTurnsUptoCardSaid : Prop := Claim7.holds Tryd.pinned (.plain (OpenSpec.upto slowTurnsSpec)) slowTurnsUptoCard

/-- THE SECOND FORM's CARD OF 'skolemlaw7.SlowSats'. -/
def slowSatsUptoCard : Claim7 := { stood := { row := slowSatsUptoRow, standIns := [], harness := (true, "7bb692338e0dbcddc6231d106e484ab83847d5e1c08f176e824850c776c23dd2"), looks := true }, kinds := [], alts := [], laidByText := true, laidKinds := [.sentinel, .sentinel], laidTests := true, laidLooks := .later }
def SlowSatsUptoCardSaid : Prop := Claim7.holds Tryd.pinned (.plain (OpenSpec.upto slowSatsSpec)) slowSatsUptoCard

/-- THE SECOND FORM's CARD OF 'skolemlaw7.SlowSays'. -/
def slowSaysUptoCard : Claim7 := { stood := { row := slowSaysUptoRow, standIns := [], harness := (true, "7bb692338e0dbcddc6231d106e484ab83847d5e1c08f176e824850c776c23dd2"), looks := true }, kinds := [], alts := [], laidByText := true, laidKinds := [.sentinel, .sentinel], laidTests := true, laidLooks := .later }
def SlowSaysUptoCardSaid : Prop := Claim7.holds Tryd.pinned (.plain (OpenSpec.upto slowSaysSpec)) slowSaysUptoCard

/-- THE SECOND FORM's CARD OF 'skolemlaw7.SlowLimits'. -/
def slowLimitsUptoCard : Claim7 := { stood := { row := slowLimitsUptoRow, standIns := [], harness := (true, "7bb692338e0dbcddc6231d106e484ab83847d5e1c08f176e824850c776c23dd2"), looks := true }, kinds := [], alts := [], laidByText := true, laidKinds := [.sentinel, .sentinel, .sentinel, .sentinel, .sentinel, .sentinel, .sentinel], laidTests := true, laidLooks := .later }
def SlowLimitsUptoCardSaid : Prop := Claim7.holds Tryd.pinned (.plain (OpenSpec.upto slowLimitsSpec)) slowLimitsUptoCard

/-- THE SECOND FORM's CARD OF 'skolemlaw3.WordNumbers'. -/
def wordNumbersUptoCard : Claim7 := { stood := { row := wordNumbersUptoRow, standIns := [], harness := (true, "7bb692338e0dbcddc6231d106e484ab83847d5e1c08f176e824850c776c23dd2"), looks := true }, kinds := [], alts := [], laidByText := true, laidKinds := [.data, .data, .data, .sentinel, .sentinel], laidTests := true, laidLooks := .later }
def WordNumbersUptoCardSaid : Prop := Claim7.holds Tryd.pinned (.plain (OpenSpec.upto wordNumbersSpec)) wordNumbersUptoCard
end Rows
end Go.Proofs.YthccobceodgmlaaDoor
