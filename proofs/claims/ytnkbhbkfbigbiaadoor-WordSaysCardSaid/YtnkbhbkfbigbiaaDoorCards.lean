/-
  DERIVED. GIVEN WITH THE SEED: THE CARDS: each row of YtnkbhbkfbigbiaaDoorRows.lean that lists a variable, with what it lists TIED to the program's text (the seventh form; the later family's looks); each row that meets fmt, with fmt's text TOLD by the authors' own Lean function (tested against real Go, not proved from fmt's source: count such statements apart). THE CARD IS WHAT COUNTS. Prove the row's statement (the work); the ties are given (YtnkbhbkfbigbiaaDoorTie.lean); close each card by the builder's one call (the guide's Derived/Test/ToyasCard.lean, 'card_holds'). Laid BY PROGRAM, IN A SANDBOX (cutbox-door.mjs). By AI agents, Wed Nov 11 2026. No macro, syntax, notation, axiom, sorry.
-/
import Derived.Test.YtnkbhbkfbigbiaaDoorRows
import GoSem.ClaimSeven
namespace Go.Proofs.YtnkbhbkfbigbiaaDoor
namespace Rows

/-- THE TIED CARD OF 'skolemlaw1.LitsLimits'. -/
def litsLimitsCard : Claim7 := { stood := { row := litsLimitsRow, standIns := [], harness := (true, "4226c9386408969377892076c151917cb9714d80af821e4a0ef159bb73fa3c39"), looks := true }, kinds := [], alts := [], laidByText := true, laidKinds := [.sentinel, .sentinel, .sentinel, .sentinel, .sentinel, .sentinel, .sentinel], laidTests := true, laidLooks := .later }
def LitsLimitsCardSaid : Prop := Claim7.holds Tryd.pinned (.plain (OpenSpec.ofChange litsLimitsSpec)) litsLimitsCard

/-- THE TIED CARD OF 'skolemlaw1.LitsSay'. -/
def litsSayCard : Claim7 := { stood := { row := litsSayRow, standIns := [], harness := (true, "4226c9386408969377892076c151917cb9714d80af821e4a0ef159bb73fa3c39"), looks := true }, kinds := [], alts := [], laidByText := true, laidKinds := [.sentinel, .sentinel, .sentinel, .sentinel, .sentinel, .sentinel, .sentinel], laidTests := true, laidLooks := .later }
def LitsSayCardSaid : Prop := Claim7.holds Tryd.pinned (.plain (OpenSpec.ofChange litsSaySpec)) litsSayCard

/-- THE TIED CARD OF 'skolemlaw21.RupSound'. -/
def rupSoundCard : Claim7 := { stood := { row := rupSoundRow, standIns := [], harness := (true, "4226c9386408969377892076c151917cb9714d80af821e4a0ef159bb73fa3c39"), looks := true }, kinds := [], alts := [], laidByText := true, laidKinds := [.sentinel], laidTests := true, laidLooks := .later }
def RupSoundCardSaid : Prop := Claim7.holds Tryd.pinned (.plain (OpenSpec.ofChange rupSoundSpec)) rupSoundCard

/-- THE TIED CARD OF 'skolemlaw21.RupOrder'. -/
def rupOrderCard : Claim7 := { stood := { row := rupOrderRow, standIns := [], harness := (true, "4226c9386408969377892076c151917cb9714d80af821e4a0ef159bb73fa3c39"), looks := true }, kinds := [], alts := [], laidByText := true, laidKinds := [.sentinel], laidTests := true, laidLooks := .later }
def RupOrderCardSaid : Prop := Claim7.holds Tryd.pinned (.plain (OpenSpec.ofChange rupOrderSpec)) rupOrderCard

/-- THE TIED CARD OF 'skolemlaw21.RupChain'. -/
def rupChainCard : Claim7 := { stood := { row := rupChainRow, standIns := [], harness := (true, "4226c9386408969377892076c151917cb9714d80af821e4a0ef159bb73fa3c39"), looks := true }, kinds := [], alts := [], laidByText := true, laidKinds := [.sentinel], laidTests := true, laidLooks := .later }
def RupChainCardSaid : Prop := Claim7.holds Tryd.pinned (.plain (OpenSpec.ofChange rupChainSpec)) rupChainCard

/-- THE TIED CARD OF 'skolemlaw21.RupTwice'. -/
def rupTwiceCard : Claim7 := { stood := { row := rupTwiceRow, standIns := [], harness := (true, "4226c9386408969377892076c151917cb9714d80af821e4a0ef159bb73fa3c39"), looks := true }, kinds := [], alts := [], laidByText := true, laidKinds := [.sentinel], laidTests := true, laidLooks := .later }
def RupTwiceCardSaid : Prop := Claim7.holds Tryd.pinned (.plain (OpenSpec.ofChange rupTwiceSpec)) rupTwiceCard

/-- THE TIED CARD OF 'skolemlaw21.RupBlocks'. -/
def rupBlocksCard : Claim7 := { stood := { row := rupBlocksRow, standIns := [], harness := (true, "4226c9386408969377892076c151917cb9714d80af821e4a0ef159bb73fa3c39"), looks := true }, kinds := [], alts := [], laidByText := true, laidKinds := [.sentinel], laidTests := true, laidLooks := .later }
def RupBlocksCardSaid : Prop := Claim7.holds Tryd.pinned (.plain (OpenSpec.ofChange rupBlocksSpec)) rupBlocksCard

/-- THE TIED CARD OF 'skolemlaw21.RupSays'. -/
def rupSaysCard : Claim7 := { stood := { row := rupSaysRow, standIns := [], harness := (true, "4226c9386408969377892076c151917cb9714d80af821e4a0ef159bb73fa3c39"), looks := true }, kinds := [], alts := [], laidByText := true, laidKinds := [.sentinel, .sentinel, .sentinel, .sentinel, .sentinel, .sentinel, .sentinel], laidTests := true, laidLooks := .later }
def RupSaysCardSaid : Prop := Claim7.holds Tryd.pinned (.plain (OpenSpec.ofChange rupSaysSpec)) rupSaysCard

/-- THE TIED CARD OF 'skolemlaw3.WordSays'. -/
def wordSaysCard : Claim7 := { stood := { row := wordSaysRow, standIns := [], harness := (true, "4226c9386408969377892076c151917cb9714d80af821e4a0ef159bb73fa3c39"), looks := true }, kinds := [], alts := [], laidByText := true, laidKinds := [.data, .data, .data, .sentinel, .sentinel], laidTests := true, laidLooks := .later }
def WordSaysCardSaid : Prop := Claim7.holds Tryd.pinned (.plain (OpenSpec.ofChange wordSaysSpec)) wordSaysCard

/-- THE SECOND FORM's CARD OF 'skolemlaw1.LitsLimits'. -/
def litsLimitsUptoCard : Claim7 := { stood := { row := litsLimitsUptoRow, standIns := [], harness := (true, "4226c9386408969377892076c151917cb9714d80af821e4a0ef159bb73fa3c39"), looks := true }, kinds := [], alts := [], laidByText := true, laidKinds := [.sentinel, .sentinel, .sentinel, .sentinel, .sentinel, .sentinel, .sentinel], laidTests := true, laidLooks := .later }
def LitsLimitsUptoCardSaid : Prop := Claim7.holds Tryd.pinned (.plain (OpenSpec.upto litsLimitsSpec)) litsLimitsUptoCard

/-- THE SECOND FORM's CARD OF 'skolemlaw1.LitsSay'. -/
def litsSayUptoCard : Claim7 := { stood := { row := litsSayUptoRow, standIns := [], harness := (true, "4226c9386408969377892076c151917cb9714d80af821e4a0ef159bb73fa3c39"), looks := true }, kinds := [], alts := [], laidByText := true, laidKinds := [.sentinel, .sentinel, .sentinel, .sentinel, .sentinel, .sentinel, .sentinel], laidTests := true, laidLooks := .later }
def LitsSayUptoCardSaid : Prop := Claim7.holds Tryd.pinned (.plain (OpenSpec.upto litsSaySpec)) litsSayUptoCard

/-- THE SECOND FORM's CARD OF 'skolemlaw21.RupSound'. -/
def rupSoundUptoCard : Claim7 := { stood := { row := rupSoundUptoRow, standIns := [], harness := (true, "4226c9386408969377892076c151917cb9714d80af821e4a0ef159bb73fa3c39"), looks := true }, kinds := [], alts := [], laidByText := true, laidKinds := [.sentinel], laidTests := true, laidLooks := .later }
def RupSoundUptoCardSaid : Prop := Claim7.holds Tryd.pinned (.plain (OpenSpec.upto rupSoundSpec)) rupSoundUptoCard

/-- THE SECOND FORM's CARD OF 'skolemlaw21.RupOrder'. -/
def rupOrderUptoCard : Claim7 := { stood := { row := rupOrderUptoRow, standIns := [], harness := (true, "4226c9386408969377892076c151917cb9714d80af821e4a0ef159bb73fa3c39"), looks := true }, kinds := [], alts := [], laidByText := true, laidKinds := [.sentinel], laidTests := true, laidLooks := .later }
def RupOrderUptoCardSaid : Prop := Claim7.holds Tryd.pinned (.plain (OpenSpec.upto rupOrderSpec)) rupOrderUptoCard

/-- THE SECOND FORM's CARD OF 'skolemlaw21.RupChain'. -/
def rupChainUptoCard : Claim7 := { stood := { row := rupChainUptoRow, standIns := [], harness := (true, "4226c9386408969377892076c151917cb9714d80af821e4a0ef159bb73fa3c39"), looks := true }, kinds := [], alts := [], laidByText := true, laidKinds := [.sentinel], laidTests := true, laidLooks := .later }
def RupChainUptoCardSaid : Prop := Claim7.holds Tryd.pinned (.plain (OpenSpec.upto rupChainSpec)) rupChainUptoCard

/-- THE SECOND FORM's CARD OF 'skolemlaw21.RupTwice'. -/
def rupTwiceUptoCard : Claim7 := { stood := { row := rupTwiceUptoRow, standIns := [], harness := (true, "4226c9386408969377892076c151917cb9714d80af821e4a0ef159bb73fa3c39"), looks := true }, kinds := [], alts := [], laidByText := true, laidKinds := [.sentinel], laidTests := true, laidLooks := .later }
def RupTwiceUptoCardSaid : Prop := Claim7.holds Tryd.pinned (.plain (OpenSpec.upto rupTwiceSpec)) rupTwiceUptoCard

/-- THE SECOND FORM's CARD OF 'skolemlaw21.RupBlocks'. -/
def rupBlocksUptoCard : Claim7 := { stood := { row := rupBlocksUptoRow, standIns := [], harness := (true, "4226c9386408969377892076c151917cb9714d80af821e4a0ef159bb73fa3c39"), looks := true }, kinds := [], alts := [], laidByText := true, laidKinds := [.sentinel], laidTests := true, laidLooks := .later }
def RupBlocksUptoCardSaid : Prop := Claim7.holds Tryd.pinned (.plain (OpenSpec.upto rupBlocksSpec)) rupBlocksUptoCard

/-- THE SECOND FORM's CARD OF 'skolemlaw21.RupSays'. -/
def rupSaysUptoCard : Claim7 := { stood := { row := rupSaysUptoRow, standIns := [], harness := (true, "4226c9386408969377892076c151917cb9714d80af821e4a0ef159bb73fa3c39"), looks := true }, kinds := [], alts := [], laidByText := true, laidKinds := [.sentinel, .sentinel, .sentinel, .sentinel, .sentinel, .sentinel, .sentinel], laidTests := true, laidLooks := .later }
def RupSaysUptoCardSaid : Prop := Claim7.holds Tryd.pinned (.plain (OpenSpec.upto rupSaysSpec)) rupSaysUptoCard

/-- THE SECOND FORM's CARD OF 'skolemlaw3.WordSays'. -/
def wordSaysUptoCard : Claim7 := { stood := { row := wordSaysUptoRow, standIns := [], harness := (true, "4226c9386408969377892076c151917cb9714d80af821e4a0ef159bb73fa3c39"), looks := true }, kinds := [], alts := [], laidByText := true, laidKinds := [.data, .data, .data, .sentinel, .sentinel], laidTests := true, laidLooks := .later }
def WordSaysUptoCardSaid : Prop := Claim7.holds Tryd.pinned (.plain (OpenSpec.upto wordSaysSpec)) wordSaysUptoCard
end Rows
end Go.Proofs.YtnkbhbkfbigbiaaDoor
