/-
  DERIVED. GIVEN WITH THE SEED: THE CARDS: each row of YtdmbfmgebgdfnaaDoorRows.lean that lists a variable, with what it lists TIED to the program's text (the seventh form; the later family's looks); each row that meets fmt, with fmt's text TOLD by the authors' own Lean function (tested against real Go, not proved from fmt's source: count such statements apart). THE CARD IS WHAT COUNTS. Prove the row's statement (the work); the ties are given (YtdmbfmgebgdfnaaDoorTie.lean); close each card by the builder's one call (the guide's Derived/Test/ToyasCard.lean, 'card_holds'). Laid BY PROGRAM, IN A SANDBOX (cutbox-door.mjs). By AI agents, Wed Nov 11 2026. No macro, syntax, notation, axiom, sorry.
-/
import Derived.Test.YtdmbfmgebgdfnaaDoorRows
import GoSem.ClaimSeven
namespace Go.Proofs.YtdmbfmgebgdfnaaDoor
namespace Rows

/-- THE TIED CARD OF 'skolemlaw21.RupSound'. -/
def rupSoundCard : Claim7 := { stood := { row := rupSoundRow, standIns := [], harness := (true, "b4ab98f574e143c94af4a089597f72ad7b0c7d1fae4c311a6e4198dc8c836017"), looks := true }, kinds := [], alts := [], laidByText := true, laidKinds := [.sentinel], laidTests := true, laidLooks := .later }
def RupSoundCardSaid : Prop := Claim7.holds Tryd.pinned (.plain (OpenSpec.ofChange rupSoundSpec)) rupSoundCard

/-- THE TIED CARD OF 'skolemlaw21.RupOrder'. -/
def rupOrderCard : Claim7 := { stood := { row := rupOrderRow, standIns := [], harness := (true, "b4ab98f574e143c94af4a089597f72ad7b0c7d1fae4c311a6e4198dc8c836017"), looks := true }, kinds := [], alts := [], laidByText := true, laidKinds := [.sentinel], laidTests := true, laidLooks := .later }
def RupOrderCardSaid : Prop := Claim7.holds Tryd.pinned (.plain (OpenSpec.ofChange rupOrderSpec)) rupOrderCard

/-- THE TIED CARD OF 'skolemlaw21.RupChain'. -/
def rupChainCard : Claim7 := { stood := { row := rupChainRow, standIns := [], harness := (true, "b4ab98f574e143c94af4a089597f72ad7b0c7d1fae4c311a6e4198dc8c836017"), looks := true }, kinds := [], alts := [], laidByText := true, laidKinds := [.sentinel], laidTests := true, laidLooks := .later }
def RupChainCardSaid : Prop := Claim7.holds Tryd.pinned (.plain (OpenSpec.ofChange rupChainSpec)) rupChainCard

/-- THE TIED CARD OF 'skolemlaw21.RupTwice'. -/
def rupTwiceCard : Claim7 := { stood := { row := rupTwiceRow, standIns := [], harness := (true, "b4ab98f574e143c94af4a089597f72ad7b0c7d1fae4c311a6e4198dc8c836017"), looks := true }, kinds := [], alts := [], laidByText := true, laidKinds := [.sentinel], laidTests := true, laidLooks := .later }
def RupTwiceCardSaid : Prop := Claim7.holds Tryd.pinned (.plain (OpenSpec.ofChange rupTwiceSpec)) rupTwiceCard

/-- THE TIED CARD OF 'skolemlaw21.RupBlocks'. -/
def rupBlocksCard : Claim7 := { stood := { row := rupBlocksRow, standIns := [], harness := (true, "b4ab98f574e143c94af4a089597f72ad7b0c7d1fae4c311a6e4198dc8c836017"), looks := true }, kinds := [], alts := [], laidByText := true, laidKinds := [.sentinel], laidTests := true, laidLooks := .later }
def RupBlocksCardSaid : Prop := Claim7.holds Tryd.pinned (.plain (OpenSpec.ofChange rupBlocksSpec)) rupBlocksCard

/-- THE TIED CARD OF 'skolemlaw21.RupSays'. -/
def rupSaysCard : Claim7 := { stood := { row := rupSaysRow, standIns := [], harness := (true, "b4ab98f574e143c94af4a089597f72ad7b0c7d1fae4c311a6e4198dc8c836017"), looks := true }, kinds := [], alts := [], laidByText := true, laidKinds := [.sentinel, .sentinel, .sentinel, .sentinel, .sentinel, .sentinel, .sentinel], laidTests := true, laidLooks := .later }
def RupSaysCardSaid : Prop := Claim7.holds Tryd.pinned (.plain (OpenSpec.ofChange rupSaysSpec)) rupSaysCard

/-- THE SECOND FORM's CARD OF 'skolemlaw21.RupSound'. -/
def rupSoundUptoCard : Claim7 := { stood := { row := rupSoundUptoRow, standIns := [], harness := (true, "b4ab98f574e143c94af4a089597f72ad7b0c7d1fae4c311a6e4198dc8c836017"), looks := true }, kinds := [], alts := [], laidByText := true, laidKinds := [.sentinel], laidTests := true, laidLooks := .later }
def RupSoundUptoCardSaid : Prop := Claim7.holds Tryd.pinned (.plain (OpenSpec.upto rupSoundSpec)) rupSoundUptoCard

/-- THE SECOND FORM's CARD OF 'skolemlaw21.RupOrder'. -/
def rupOrderUptoCard : Claim7 := { stood := { row := rupOrderUptoRow, standIns := [], harness := (true, "b4ab98f574e143c94af4a089597f72ad7b0c7d1fae4c311a6e4198dc8c836017"), looks := true }, kinds := [], alts := [], laidByText := true, laidKinds := [.sentinel], laidTests := true, laidLooks := .later }
def RupOrderUptoCardSaid : Prop := Claim7.holds Tryd.pinned (.plain (OpenSpec.upto rupOrderSpec)) rupOrderUptoCard

/-- THE SECOND FORM's CARD OF 'skolemlaw21.RupChain'. -/
def rupChainUptoCard : Claim7 := { stood := { row := rupChainUptoRow, standIns := [], harness := (true, "b4ab98f574e143c94af4a089597f72ad7b0c7d1fae4c311a6e4198dc8c836017"), looks := true }, kinds := [], alts := [], laidByText := true, laidKinds := [.sentinel], laidTests := true, laidLooks := .later }
def RupChainUptoCardSaid : Prop := Claim7.holds Tryd.pinned (.plain (OpenSpec.upto rupChainSpec)) rupChainUptoCard

/-- THE SECOND FORM's CARD OF 'skolemlaw21.RupTwice'. -/
def rupTwiceUptoCard : Claim7 := { stood := { row := rupTwiceUptoRow, standIns := [], harness := (true, "b4ab98f574e143c94af4a089597f72ad7b0c7d1fae4c311a6e4198dc8c836017"), looks := true }, kinds := [], alts := [], laidByText := true, laidKinds := [.sentinel], laidTests := true, laidLooks := .later }
def RupTwiceUptoCardSaid : Prop := Claim7.holds Tryd.pinned (.plain (OpenSpec.upto rupTwiceSpec)) rupTwiceUptoCard

/-- THE SECOND FORM's CARD OF 'skolemlaw21.RupBlocks'. -/
def rupBlocksUptoCard : Claim7 := { stood := { row := rupBlocksUptoRow, standIns := [], harness := (true, "b4ab98f574e143c94af4a089597f72ad7b0c7d1fae4c311a6e4198dc8c836017"), looks := true }, kinds := [], alts := [], laidByText := true, laidKinds := [.sentinel], laidTests := true, laidLooks := .later }
def RupBlocksUptoCardSaid : Prop := Claim7.holds Tryd.pinned (.plain (OpenSpec.upto rupBlocksSpec)) rupBlocksUptoCard

/-- THE SECOND FORM's CARD OF 'skolemlaw21.RupSays'. -/
def rupSaysUptoCard : Claim7 := { stood := { row := rupSaysUptoRow, standIns := [], harness := (true, "b4ab98f574e143c94af4a089597f72ad7b0c7d1fae4c311a6e4198dc8c836017"), looks := true }, kinds := [], alts := [], laidByText := true, laidKinds := [.sentinel, .sentinel, .sentinel, .sentinel, .sentinel, .sentinel, .sentinel], laidTests := true, laidLooks := .later }
def RupSaysUptoCardSaid : Prop := Claim7.holds Tryd.pinned (.plain (OpenSpec.upto rupSaysSpec)) rupSaysUptoCard
end Rows
end Go.Proofs.YtdmbfmgebgdfnaaDoor
