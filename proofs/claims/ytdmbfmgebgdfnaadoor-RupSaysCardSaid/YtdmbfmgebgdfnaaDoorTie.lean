/-
  DERIVED. GIVEN WITH THE SEED: THE PROGRAM's TIES (one call each: nine closed facts by the kernel) AND EACH ROW's TIE, after the 31st guide's Derived/Test/Toyas{Tie, Card}.lean. No idea stands in it: it is a product of the set-up. Laid BY PROGRAM, IN A SANDBOX (cutbox-door.mjs). By AI agents, Wed Nov 11 2026. No macro, syntax, notation, axiom, sorry.
-/
import Derived.Test.YtdmbfmgebgdfnaaDoorRows
import Derived.LaidByTextLater
import Derived.SevenTiedAt
import Derived.LaidSub
import Derived.LaidOnce
namespace Go.Proofs.YtdmbfmgebgdfnaaDoor
open Go
set_option maxRecDepth 100000
theorem seatTie1 : Tryd.prog.laidByTextLater [("skolem/api.ErrText", Rows.laid_skolem_api_ErrText), ("skolem/api.ErrLimit", Rows.laid_skolem_api_ErrLimit), ("skolem/api.ErrBudget", Rows.laid_skolem_api_ErrBudget), ("skolem/api.ErrRange", Rows.laid_skolem_api_ErrRange), ("skolem/api.ErrBlocks", Rows.laid_skolem_api_ErrBlocks), ("skolem/api.ErrProof", Rows.laid_skolem_api_ErrProof), ("skolem/api.ErrCert", Rows.laid_skolem_api_ErrCert)] [.sentinel, .sentinel, .sentinel, .sentinel, .sentinel, .sentinel, .sentinel] true :=
  Program.laidByTextLater_by_one 142 8 2 (by kernel_rfl) (by kernel_rfl) (by kernel_rfl) (by kernel_rfl) (by kernel_rfl) (by kernel_rfl) (fun _ _ => by kernel_rfl)
theorem noOwnUnsafe : Tryd.pinned.checked.prog.headLifts.contains "ownunsafe" = false := by kernel_rfl
theorem tie : Tryd.prog.laidByTextLater [("skolem/api.ErrRange", Rows.laid_skolem_api_ErrRange)] [.sentinel] true :=
  Program.laidByTextLater.sub seatTie1 ["skolem/api.ErrRange"] (by kernel_rfl) (by kernel_rfl)
theorem rupSound_row_tie : Rows.rupSoundRow.laidByTextAt .later Tryd.pinned [.sentinel] true :=
  OpenClaim.laidByTextAt_later rfl rfl tie noOwnUnsafe
theorem rupOrder_row_tie : Rows.rupOrderRow.laidByTextAt .later Tryd.pinned [.sentinel] true :=
  OpenClaim.laidByTextAt_later rfl rfl tie noOwnUnsafe
theorem rupChain_row_tie : Rows.rupChainRow.laidByTextAt .later Tryd.pinned [.sentinel] true :=
  OpenClaim.laidByTextAt_later rfl rfl tie noOwnUnsafe
theorem rupTwice_row_tie : Rows.rupTwiceRow.laidByTextAt .later Tryd.pinned [.sentinel] true :=
  OpenClaim.laidByTextAt_later rfl rfl tie noOwnUnsafe
theorem rupBlocks_row_tie : Rows.rupBlocksRow.laidByTextAt .later Tryd.pinned [.sentinel] true :=
  OpenClaim.laidByTextAt_later rfl rfl tie noOwnUnsafe
theorem tie2 : Tryd.prog.laidByTextLater [("skolem/api.ErrText", Rows.laid_skolem_api_ErrText), ("skolem/api.ErrLimit", Rows.laid_skolem_api_ErrLimit), ("skolem/api.ErrBudget", Rows.laid_skolem_api_ErrBudget), ("skolem/api.ErrRange", Rows.laid_skolem_api_ErrRange), ("skolem/api.ErrBlocks", Rows.laid_skolem_api_ErrBlocks), ("skolem/api.ErrProof", Rows.laid_skolem_api_ErrProof), ("skolem/api.ErrCert", Rows.laid_skolem_api_ErrCert)] [.sentinel, .sentinel, .sentinel, .sentinel, .sentinel, .sentinel, .sentinel] true :=
  Program.laidByTextLater.sub seatTie1 ["skolem/api.ErrText", "skolem/api.ErrLimit", "skolem/api.ErrBudget", "skolem/api.ErrRange", "skolem/api.ErrBlocks", "skolem/api.ErrProof", "skolem/api.ErrCert"] (by kernel_rfl) (by kernel_rfl)
theorem rupSays_row_tie : Rows.rupSaysRow.laidByTextAt .later Tryd.pinned [.sentinel, .sentinel, .sentinel, .sentinel, .sentinel, .sentinel, .sentinel] true :=
  OpenClaim.laidByTextAt_later rfl rfl tie2 noOwnUnsafe
theorem rupSoundUpto_row_tie : Rows.rupSoundUptoRow.laidByTextAt .later Tryd.pinned [.sentinel] true :=
  OpenClaim.laidByTextAt_later rfl rfl tie noOwnUnsafe
theorem rupOrderUpto_row_tie : Rows.rupOrderUptoRow.laidByTextAt .later Tryd.pinned [.sentinel] true :=
  OpenClaim.laidByTextAt_later rfl rfl tie noOwnUnsafe
theorem rupChainUpto_row_tie : Rows.rupChainUptoRow.laidByTextAt .later Tryd.pinned [.sentinel] true :=
  OpenClaim.laidByTextAt_later rfl rfl tie noOwnUnsafe
theorem rupTwiceUpto_row_tie : Rows.rupTwiceUptoRow.laidByTextAt .later Tryd.pinned [.sentinel] true :=
  OpenClaim.laidByTextAt_later rfl rfl tie noOwnUnsafe
theorem rupBlocksUpto_row_tie : Rows.rupBlocksUptoRow.laidByTextAt .later Tryd.pinned [.sentinel] true :=
  OpenClaim.laidByTextAt_later rfl rfl tie noOwnUnsafe
theorem rupSaysUpto_row_tie : Rows.rupSaysUptoRow.laidByTextAt .later Tryd.pinned [.sentinel, .sentinel, .sentinel, .sentinel, .sentinel, .sentinel, .sentinel] true :=
  OpenClaim.laidByTextAt_later rfl rfl tie2 noOwnUnsafe
end Go.Proofs.YtdmbfmgebgdfnaaDoor
