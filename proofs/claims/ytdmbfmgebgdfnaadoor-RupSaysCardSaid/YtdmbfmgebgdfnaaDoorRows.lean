/-
  NARROWER THAN 'FOR EVERY INPUT', by the rows' own cells (each row's printed sentence says how): RupSound: laid · RupOrder: laid · RupChain: laid · RupTwice: laid · RupBlocks: laid · RupSays: laid.
  DERIVED. THE GIVEN ROWS OF THIS SEAT. 6 by the template 'for every input the law returns true; each argument reads behind the call as it read before'; 0 by the template 'total and deterministic' (their statements: YtdmbfmgebgdfnaaDoorTotals.lean).
  GIVEN WITH THE SEED: the statements are not yours to turn. If you find one false, say at which input.
  Laid BY PROGRAM, IN A SANDBOX (cutbox-rows.mjs): the forced cells as the released guide's own fill.sh prints them over the translation d44159bf983e30b8… (all of the seat's roots in one cut). By AI agents, Wed Nov 11 2026. No macro, syntax, notation, axiom, sorry.
-/
import Derived.Test.YtdmbfmgebgdfnaaDoorChecked
import GoSem.Claim
import GoSem.ClaimJoined
import GoSem.ClaimMapViews
import Derived.JoinedTies
import Derived.KernelRfl
namespace Go.Proofs.YtdmbfmgebgdfnaaDoor
/- THE CELL 'sum', in the pinned program and in every row, IS THE sha256 OF THE DUMP (.gsa) THAT YtdmbfmgebgdfnaaDoorProg.lean LOADS. Nothing in Lean hashes anything: it is a label: what it is worth is what the hold of that sum in a sandbox is worth. -/
noncomputable def Tryd.pinned : Pinned := { name := "ytdmbfmgebgdfnaadoor", sum := "d44159bf983e30b864d8a4620a2f46a7ff321341a2b18f7f48cf75d652b7e23e", checked := Tryd.checked }
namespace Rows
def none {H : Type} : Left H := { results := [], args := [] }

/- WHAT THE LISTED PACKAGE-LEVEL VARIABLES READ AS WHEN THE CALL BEGINS. Each datum BY PROGRAM (the guide's laid-datum.mjs) off the statement by which the dump's own 'gosem.cut.vars' lays the variable. In a bare row this is a premise. The card (YtdmbfmgebgdfnaaDoorCards.lean) ties it to the program's text. -/
def laid_skolem_api_ErrRange {H : Type} : DataW H := .iface "*errors.errorString" (.ptr (.agg [.lit (.string [97, 32, 110, 117, 109, 98, 101, 114, 32, 111, 117, 116, 32, 111, 102, 32, 105, 116, 115, 32, 114, 97, 110, 103, 101])]))
def laid_skolem_api_ErrText {H : Type} : DataW H := .iface "*errors.errorString" (.ptr (.agg [.lit (.string [110, 111, 116, 32, 97, 115, 32, 105, 116, 32, 105, 115, 32, 119, 114, 105, 116, 116, 101, 110])]))
def laid_skolem_api_ErrLimit {H : Type} : DataW H := .iface "*errors.errorString" (.ptr (.agg [.lit (.string [109, 111, 114, 101, 32, 116, 104, 97, 110, 32, 109, 97, 121, 32, 98, 101])]))
def laid_skolem_api_ErrBudget {H : Type} : DataW H := .iface "*errors.errorString" (.ptr (.agg [.lit (.string [116, 104, 101, 32, 98, 117, 100, 103, 101, 116, 32, 105, 115, 32, 117, 115, 101, 100, 32, 117, 112])]))
def laid_skolem_api_ErrBlocks {H : Type} : DataW H := .iface "*errors.errorString" (.ptr (.agg [.lit (.string [109, 111, 114, 101, 32, 116, 104, 97, 110, 32, 116, 119, 111, 32, 98, 108, 111, 99, 107, 115])]))
def laid_skolem_api_ErrProof {H : Type} : DataW H := .iface "*errors.errorString" (.ptr (.agg [.lit (.string [97, 32, 115, 116, 101, 112, 32, 116, 104, 97, 116, 32, 100, 111, 101, 115, 32, 110, 111, 116, 32, 102, 111, 108, 108, 111, 119])]))
def laid_skolem_api_ErrCert {H : Type} : DataW H := .iface "*errors.errorString" (.ptr (.agg [.lit (.string [110, 111, 32, 99, 101, 114, 116, 105, 102, 105, 99, 97, 116, 101, 32, 111, 102, 32, 105, 116])]))

/-- 'skolemlaw21.RupSound': WHATEVER THE INPUT: true; the input reads as it did. -/
def rupSoundSpec : ChangeSpec := { name := "rupSound", fn := fun _ => fun
  | [d1, d2, d3] => { results := [.lit (.bool true)], args := [d1, d2, d3] }
  | _ => none }
def rupSoundRow : OpenClaim := { program := "ytdmbfmgebgdfnaadoor", sum := "d44159bf983e30b864d8a4620a2f46a7ff321341a2b18f7f48cf75d652b7e23e", func := "skolem/skolemlaw21.RupSound", spec := "rupSound", unfollowed := true, recurses := true, named := ["skolem/api.ErrRange"], apart := false, laid := [("skolem/api.ErrRange", laid_skolem_api_ErrRange)] }
def RupSoundSaid : Prop := rupSoundRow.holds Tryd.pinned (OpenSpec.ofChange rupSoundSpec)

/-- ITS FALSE NEIGHBOUR: 'it returns false'. Refute it at one input. -/
def rupSoundWrong : ChangeSpec := { name := "rupSound", fn := fun _ => fun
  | [d1, d2, d3] => { results := [.lit (.bool false)], args := [d1, d2, d3] }
  | _ => none }
def RupSoundWrongFalsely : Prop := rupSoundRow.holds Tryd.pinned (OpenSpec.ofChange rupSoundWrong)

/-- 'skolemlaw21.RupOrder': WHATEVER THE INPUT: true; the input reads as it did. -/
def rupOrderSpec : ChangeSpec := { name := "rupOrder", fn := fun _ => fun
  | [d1, d2, d3, d4] => { results := [.lit (.bool true)], args := [d1, d2, d3, d4] }
  | _ => none }
def rupOrderRow : OpenClaim := { program := "ytdmbfmgebgdfnaadoor", sum := "d44159bf983e30b864d8a4620a2f46a7ff321341a2b18f7f48cf75d652b7e23e", func := "skolem/skolemlaw21.RupOrder", spec := "rupOrder", unfollowed := true, recurses := true, named := ["skolem/api.ErrRange"], apart := false, laid := [("skolem/api.ErrRange", laid_skolem_api_ErrRange)] }
def RupOrderSaid : Prop := rupOrderRow.holds Tryd.pinned (OpenSpec.ofChange rupOrderSpec)

/-- ITS FALSE NEIGHBOUR: 'it returns false'. Refute it at one input. -/
def rupOrderWrong : ChangeSpec := { name := "rupOrder", fn := fun _ => fun
  | [d1, d2, d3, d4] => { results := [.lit (.bool false)], args := [d1, d2, d3, d4] }
  | _ => none }
def RupOrderWrongFalsely : Prop := rupOrderRow.holds Tryd.pinned (OpenSpec.ofChange rupOrderWrong)

/-- 'skolemlaw21.RupChain': WHATEVER THE INPUT: true; the input reads as it did. -/
def rupChainSpec : ChangeSpec := { name := "rupChain", fn := fun _ => fun
  | [d1, d2] => { results := [.lit (.bool true)], args := [d1, d2] }
  | _ => none }
def rupChainRow : OpenClaim := { program := "ytdmbfmgebgdfnaadoor", sum := "d44159bf983e30b864d8a4620a2f46a7ff321341a2b18f7f48cf75d652b7e23e", func := "skolem/skolemlaw21.RupChain", spec := "rupChain", unfollowed := true, recurses := true, named := ["skolem/api.ErrRange"], apart := false, laid := [("skolem/api.ErrRange", laid_skolem_api_ErrRange)] }
def RupChainSaid : Prop := rupChainRow.holds Tryd.pinned (OpenSpec.ofChange rupChainSpec)

/-- ITS FALSE NEIGHBOUR: 'it returns false'. Refute it at one input. -/
def rupChainWrong : ChangeSpec := { name := "rupChain", fn := fun _ => fun
  | [d1, d2] => { results := [.lit (.bool false)], args := [d1, d2] }
  | _ => none }
def RupChainWrongFalsely : Prop := rupChainRow.holds Tryd.pinned (OpenSpec.ofChange rupChainWrong)

/-- 'skolemlaw21.RupTwice': WHATEVER THE INPUT: true; the input reads as it did. -/
def rupTwiceSpec : ChangeSpec := { name := "rupTwice", fn := fun _ => fun
  | [d1, d2, d3] => { results := [.lit (.bool true)], args := [d1, d2, d3] }
  | _ => none }
def rupTwiceRow : OpenClaim := { program := "ytdmbfmgebgdfnaadoor", sum := "d44159bf983e30b864d8a4620a2f46a7ff321341a2b18f7f48cf75d652b7e23e", func := "skolem/skolemlaw21.RupTwice", spec := "rupTwice", unfollowed := true, recurses := true, named := ["skolem/api.ErrRange"], apart := false, laid := [("skolem/api.ErrRange", laid_skolem_api_ErrRange)] }
def RupTwiceSaid : Prop := rupTwiceRow.holds Tryd.pinned (OpenSpec.ofChange rupTwiceSpec)

/-- ITS FALSE NEIGHBOUR: 'it returns false'. Refute it at one input. -/
def rupTwiceWrong : ChangeSpec := { name := "rupTwice", fn := fun _ => fun
  | [d1, d2, d3] => { results := [.lit (.bool false)], args := [d1, d2, d3] }
  | _ => none }
def RupTwiceWrongFalsely : Prop := rupTwiceRow.holds Tryd.pinned (OpenSpec.ofChange rupTwiceWrong)

/-- 'skolemlaw21.RupBlocks': WHATEVER THE INPUT: true; the input reads as it did. -/
def rupBlocksSpec : ChangeSpec := { name := "rupBlocks", fn := fun _ => fun
  | [d1, d2, d3] => { results := [.lit (.bool true)], args := [d1, d2, d3] }
  | _ => none }
def rupBlocksRow : OpenClaim := { program := "ytdmbfmgebgdfnaadoor", sum := "d44159bf983e30b864d8a4620a2f46a7ff321341a2b18f7f48cf75d652b7e23e", func := "skolem/skolemlaw21.RupBlocks", spec := "rupBlocks", unfollowed := true, recurses := true, named := ["skolem/api.ErrRange"], apart := false, laid := [("skolem/api.ErrRange", laid_skolem_api_ErrRange)] }
def RupBlocksSaid : Prop := rupBlocksRow.holds Tryd.pinned (OpenSpec.ofChange rupBlocksSpec)

/-- ITS FALSE NEIGHBOUR: 'it returns false'. Refute it at one input. -/
def rupBlocksWrong : ChangeSpec := { name := "rupBlocks", fn := fun _ => fun
  | [d1, d2, d3] => { results := [.lit (.bool false)], args := [d1, d2, d3] }
  | _ => none }
def RupBlocksWrongFalsely : Prop := rupBlocksRow.holds Tryd.pinned (OpenSpec.ofChange rupBlocksWrong)

/-- 'skolemlaw21.RupSays': WHATEVER THE INPUT: true; the input reads as it did. -/
def rupSaysSpec : ChangeSpec := { name := "rupSays", fn := fun _ => fun
  | [d1, d2, d3, d4] => { results := [.lit (.bool true)], args := [d1, d2, d3, d4] }
  | _ => none }
def rupSaysRow : OpenClaim := { program := "ytdmbfmgebgdfnaadoor", sum := "d44159bf983e30b864d8a4620a2f46a7ff321341a2b18f7f48cf75d652b7e23e", func := "skolem/skolemlaw21.RupSays", spec := "rupSays", unfollowed := true, recurses := true, named := ["skolem/api.ErrRange", "skolem/api.ErrText", "skolem/api.ErrLimit", "skolem/api.ErrBudget", "skolem/api.ErrBlocks", "skolem/api.ErrProof", "skolem/api.ErrCert"], apart := false, laid := [("skolem/api.ErrText", laid_skolem_api_ErrText), ("skolem/api.ErrLimit", laid_skolem_api_ErrLimit), ("skolem/api.ErrBudget", laid_skolem_api_ErrBudget), ("skolem/api.ErrRange", laid_skolem_api_ErrRange), ("skolem/api.ErrBlocks", laid_skolem_api_ErrBlocks), ("skolem/api.ErrProof", laid_skolem_api_ErrProof), ("skolem/api.ErrCert", laid_skolem_api_ErrCert)] }
def RupSaysSaid : Prop := rupSaysRow.holds Tryd.pinned (OpenSpec.ofChange rupSaysSpec)

/-- ITS FALSE NEIGHBOUR: 'it returns false'. Refute it at one input. -/
def rupSaysWrong : ChangeSpec := { name := "rupSays", fn := fun _ => fun
  | [d1, d2, d3, d4] => { results := [.lit (.bool false)], args := [d1, d2, d3, d4] }
  | _ => none }
def RupSaysWrongFalsely : Prop := rupSaysRow.holds Tryd.pinned (OpenSpec.ofChange rupSaysWrong)

/- THE SECOND FORM. 'bulk': how many values and letters a reading holds, each counted each time it is reached (what is shared counts as often as it is met; a slice's spare places count too). A statement '..UptoSaid' is the law's where the arguments, and the package variables that the reading takes, are together of bulk at most 1048576: NARROWER than '..Said'. Prove '..Said' where nothing that the law and all that it calls make is longer than what came in: it says more and counts as full. Else prove '..UptoSaid'. A law counts once. -/
mutual
def uptoBulk {H : Type} : DataW H → Nat
  | .lit (.string bytes) => bytes.length + 1
  | .lit _ => 1
  | .nil => 1
  | .ptr d => uptoBulk d + 1
  | .slice elems spare => uptoBulkAll elems + uptoBulkAll spare + 1
  | .agg parts => uptoBulkAll parts + 1
  | .iface _ d => uptoBulk d + 1
  | .map entries => uptoBulkEntries entries + 1
  | .held _ => 1
def uptoBulkAll {H : Type} : List (DataW H) → Nat
  | [] => 0
  | d :: r => uptoBulk d + uptoBulkAll r
def uptoBulkEntries {H : Type} : List (Lit × DataW H) → Nat
  | [] => 0
  | x :: r => uptoBulkEntry x + uptoBulkEntries r
def uptoBulkEntry {H : Type} : Lit × DataW H → Nat
  | (.string bytes, d) => bytes.length + uptoBulk d + 1
  | (_, d) => uptoBulk d + 1
 end
def uptoSmall : (H : Type) → List (DataW H) → Bool := fun _ ds => decide (uptoBulkAll ds ≤ 1048576)
def OpenSpec.upto (s : _root_.Go.ChangeSpec) : _root_.Go.OpenSpec := { _root_.Go.OpenSpec.ofChange s with cond := some uptoSmall }

/-- 'skolemlaw21.RupSound', WHERE WHAT IT READS IS OF BULK AT MOST 1048576: true; the input reads as it did. -/
def rupSoundUptoRow : OpenClaim := { program := "ytdmbfmgebgdfnaadoor", sum := "d44159bf983e30b864d8a4620a2f46a7ff321341a2b18f7f48cf75d652b7e23e", func := "skolem/skolemlaw21.RupSound", spec := "rupSound", unfollowed := true, recurses := true, named := ["skolem/api.ErrRange"], apart := false, laid := [("skolem/api.ErrRange", laid_skolem_api_ErrRange)], narrowed := true }
def RupSoundUptoSaid : Prop := rupSoundUptoRow.holds Tryd.pinned (OpenSpec.upto rupSoundSpec)

/-- 'skolemlaw21.RupOrder', WHERE WHAT IT READS IS OF BULK AT MOST 1048576: true; the input reads as it did. -/
def rupOrderUptoRow : OpenClaim := { program := "ytdmbfmgebgdfnaadoor", sum := "d44159bf983e30b864d8a4620a2f46a7ff321341a2b18f7f48cf75d652b7e23e", func := "skolem/skolemlaw21.RupOrder", spec := "rupOrder", unfollowed := true, recurses := true, named := ["skolem/api.ErrRange"], apart := false, laid := [("skolem/api.ErrRange", laid_skolem_api_ErrRange)], narrowed := true }
def RupOrderUptoSaid : Prop := rupOrderUptoRow.holds Tryd.pinned (OpenSpec.upto rupOrderSpec)

/-- 'skolemlaw21.RupChain', WHERE WHAT IT READS IS OF BULK AT MOST 1048576: true; the input reads as it did. -/
def rupChainUptoRow : OpenClaim := { program := "ytdmbfmgebgdfnaadoor", sum := "d44159bf983e30b864d8a4620a2f46a7ff321341a2b18f7f48cf75d652b7e23e", func := "skolem/skolemlaw21.RupChain", spec := "rupChain", unfollowed := true, recurses := true, named := ["skolem/api.ErrRange"], apart := false, laid := [("skolem/api.ErrRange", laid_skolem_api_ErrRange)], narrowed := true }
def RupChainUptoSaid : Prop := rupChainUptoRow.holds Tryd.pinned (OpenSpec.upto rupChainSpec)

/-- 'skolemlaw21.RupTwice', WHERE WHAT IT READS IS OF BULK AT MOST 1048576: true; the input reads as it did. -/
def rupTwiceUptoRow : OpenClaim := { program := "ytdmbfmgebgdfnaadoor", sum := "d44159bf983e30b864d8a4620a2f46a7ff321341a2b18f7f48cf75d652b7e23e", func := "skolem/skolemlaw21.RupTwice", spec := "rupTwice", unfollowed := true, recurses := true, named := ["skolem/api.ErrRange"], apart := false, laid := [("skolem/api.ErrRange", laid_skolem_api_ErrRange)], narrowed := true }
def RupTwiceUptoSaid : Prop := rupTwiceUptoRow.holds Tryd.pinned (OpenSpec.upto rupTwiceSpec)

/-- 'skolemlaw21.RupBlocks', WHERE WHAT IT READS IS OF BULK AT MOST 1048576: true; the input reads as it did. -/
def rupBlocksUptoRow : OpenClaim := { program := "ytdmbfmgebgdfnaadoor", sum := "d44159bf983e30b864d8a4620a2f46a7ff321341a2b18f7f48cf75d652b7e23e", func := "skolem/skolemlaw21.RupBlocks", spec := "rupBlocks", unfollowed := true, recurses := true, named := ["skolem/api.ErrRange"], apart := false, laid := [("skolem/api.ErrRange", laid_skolem_api_ErrRange)], narrowed := true }
def RupBlocksUptoSaid : Prop := rupBlocksUptoRow.holds Tryd.pinned (OpenSpec.upto rupBlocksSpec)

/-- 'skolemlaw21.RupSays', WHERE WHAT IT READS IS OF BULK AT MOST 1048576: true; the input reads as it did. -/
def rupSaysUptoRow : OpenClaim := { program := "ytdmbfmgebgdfnaadoor", sum := "d44159bf983e30b864d8a4620a2f46a7ff321341a2b18f7f48cf75d652b7e23e", func := "skolem/skolemlaw21.RupSays", spec := "rupSays", unfollowed := true, recurses := true, named := ["skolem/api.ErrRange", "skolem/api.ErrText", "skolem/api.ErrLimit", "skolem/api.ErrBudget", "skolem/api.ErrBlocks", "skolem/api.ErrProof", "skolem/api.ErrCert"], apart := false, laid := [("skolem/api.ErrText", laid_skolem_api_ErrText), ("skolem/api.ErrLimit", laid_skolem_api_ErrLimit), ("skolem/api.ErrBudget", laid_skolem_api_ErrBudget), ("skolem/api.ErrRange", laid_skolem_api_ErrRange), ("skolem/api.ErrBlocks", laid_skolem_api_ErrBlocks), ("skolem/api.ErrProof", laid_skolem_api_ErrProof), ("skolem/api.ErrCert", laid_skolem_api_ErrCert)], narrowed := true }
def RupSaysUptoSaid : Prop := rupSaysUptoRow.holds Tryd.pinned (OpenSpec.upto rupSaysSpec)

end Rows
end Go.Proofs.YtdmbfmgebgdfnaaDoor
