/-
  NARROWER THAN 'FOR EVERY INPUT', by the rows' own cells (each row's printed sentence says how): AagReads: laid · AagTurned: laid · AagBack: laid · AigCuts: laid · AigHeads: laid · AigBack: laid · AigForms: laid.
  DERIVED. THE GIVEN ROWS OF THIS SEAT. 7 by the template 'for every input the law returns true; each argument reads behind the call as it read before'; 0 by the template 'total and deterministic' (their statements: YtmjbjgbcpaagmaaDoorTotals.lean).
  GIVEN WITH THE SEED: the statements are not yours to turn. If you find one false, say at which input.
  Laid BY PROGRAM, IN A SANDBOX (cutbox-rows.mjs): the forced cells as the released guide's own fill.sh prints them over the translation de97a674b73a71e0… (all of the seat's roots in one cut). By AI agents, Wed Nov 11 2026. No macro, syntax, notation, axiom, sorry.
-/
import Derived.Test.YtmjbjgbcpaagmaaDoorChecked
import GoSem.Claim
import GoSem.ClaimJoined
import GoSem.ClaimMapViews
import Derived.JoinedTies
import Derived.KernelRfl
namespace Go.Proofs.YtmjbjgbcpaagmaaDoor
/- THE CELL 'sum', in the pinned program and in every row, IS THE sha256 OF THE DUMP (.gsa) THAT YtmjbjgbcpaagmaaDoorProg.lean LOADS. Nothing in Lean hashes anything: it is a label: what it is worth is what the hold of that sum in a sandbox is worth. -/
noncomputable def Tryd.pinned : Pinned := { name := "ytmjbjgbcpaagmaadoor", sum := "de97a674b73a71e0ed2ae05e622a5a2deffd80a1b5aebe89b76bcb76de9b416b", checked := Tryd.checked }
namespace Rows
def none {H : Type} : Left H := { results := [], args := [] }

/- WHAT THE LISTED PACKAGE-LEVEL VARIABLES READ AS WHEN THE CALL BEGINS. Each datum BY PROGRAM (the guide's laid-datum.mjs) off the statement by which the dump's own 'gosem.cut.vars' lays the variable. In a bare row this is a premise. The card (YtmjbjgbcpaagmaaDoorCards.lean) ties it to the program's text. -/
def laid_math_bits_deBruijn32tab {H : Type} : DataW H := .agg [.lit (.int .u8 0), .lit (.int .u8 1), .lit (.int .u8 28), .lit (.int .u8 2), .lit (.int .u8 29), .lit (.int .u8 14), .lit (.int .u8 24), .lit (.int .u8 3), .lit (.int .u8 30), .lit (.int .u8 22), .lit (.int .u8 20), .lit (.int .u8 15), .lit (.int .u8 25), .lit (.int .u8 17), .lit (.int .u8 4), .lit (.int .u8 8), .lit (.int .u8 31), .lit (.int .u8 27), .lit (.int .u8 13), .lit (.int .u8 23), .lit (.int .u8 21), .lit (.int .u8 19), .lit (.int .u8 16), .lit (.int .u8 7), .lit (.int .u8 26), .lit (.int .u8 12), .lit (.int .u8 18), .lit (.int .u8 6), .lit (.int .u8 11), .lit (.int .u8 5), .lit (.int .u8 10), .lit (.int .u8 9)]
def laid_math_bits_deBruijn64tab {H : Type} : DataW H := .agg [.lit (.int .u8 0), .lit (.int .u8 1), .lit (.int .u8 56), .lit (.int .u8 2), .lit (.int .u8 57), .lit (.int .u8 49), .lit (.int .u8 28), .lit (.int .u8 3), .lit (.int .u8 61), .lit (.int .u8 58), .lit (.int .u8 42), .lit (.int .u8 50), .lit (.int .u8 38), .lit (.int .u8 29), .lit (.int .u8 17), .lit (.int .u8 4), .lit (.int .u8 62), .lit (.int .u8 47), .lit (.int .u8 59), .lit (.int .u8 36), .lit (.int .u8 45), .lit (.int .u8 43), .lit (.int .u8 51), .lit (.int .u8 22), .lit (.int .u8 53), .lit (.int .u8 39), .lit (.int .u8 33), .lit (.int .u8 30), .lit (.int .u8 24), .lit (.int .u8 18), .lit (.int .u8 12), .lit (.int .u8 5), .lit (.int .u8 63), .lit (.int .u8 55), .lit (.int .u8 48), .lit (.int .u8 27), .lit (.int .u8 60), .lit (.int .u8 41), .lit (.int .u8 37), .lit (.int .u8 16), .lit (.int .u8 46), .lit (.int .u8 35), .lit (.int .u8 44), .lit (.int .u8 21), .lit (.int .u8 52), .lit (.int .u8 32), .lit (.int .u8 23), .lit (.int .u8 11), .lit (.int .u8 54), .lit (.int .u8 26), .lit (.int .u8 40), .lit (.int .u8 15), .lit (.int .u8 34), .lit (.int .u8 20), .lit (.int .u8 31), .lit (.int .u8 10), .lit (.int .u8 25), .lit (.int .u8 14), .lit (.int .u8 19), .lit (.int .u8 9), .lit (.int .u8 13), .lit (.int .u8 8), .lit (.int .u8 7), .lit (.int .u8 6)]
def laid_internal_strconv_uint64pow10 {H : Type} : DataW H := .agg [.lit (.int .u64 1), .lit (.int .u64 10), .lit (.int .u64 100), .lit (.int .u64 1000), .lit (.int .u64 10000), .lit (.int .u64 100000), .lit (.int .u64 1000000), .lit (.int .u64 10000000), .lit (.int .u64 100000000), .lit (.int .u64 1000000000), .lit (.int .u64 10000000000), .lit (.int .u64 100000000000), .lit (.int .u64 1000000000000), .lit (.int .u64 10000000000000), .lit (.int .u64 100000000000000), .lit (.int .u64 1000000000000000), .lit (.int .u64 10000000000000000), .lit (.int .u64 100000000000000000), .lit (.int .u64 1000000000000000000), .lit (.int .u64 10000000000000000000)]
def laid_strconv_ErrRange {H : Type} : DataW H := .iface "*errors.errorString" (.ptr (.agg [.lit (.string [118, 97, 108, 117, 101, 32, 111, 117, 116, 32, 111, 102, 32, 114, 97, 110, 103, 101])]))
def laid_strconv_ErrSyntax {H : Type} : DataW H := .iface "*errors.errorString" (.ptr (.agg [.lit (.string [105, 110, 118, 97, 108, 105, 100, 32, 115, 121, 110, 116, 97, 120])]))
def laid_skolem_api_ErrText {H : Type} : DataW H := .iface "*errors.errorString" (.ptr (.agg [.lit (.string [110, 111, 116, 32, 97, 115, 32, 105, 116, 32, 105, 115, 32, 119, 114, 105, 116, 116, 101, 110])]))
def laid_skolem_api_ErrLimit {H : Type} : DataW H := .iface "*errors.errorString" (.ptr (.agg [.lit (.string [109, 111, 114, 101, 32, 116, 104, 97, 110, 32, 109, 97, 121, 32, 98, 101])]))
def laid_skolem_api_ErrBudget {H : Type} : DataW H := .iface "*errors.errorString" (.ptr (.agg [.lit (.string [116, 104, 101, 32, 98, 117, 100, 103, 101, 116, 32, 105, 115, 32, 117, 115, 101, 100, 32, 117, 112])]))
def laid_skolem_api_ErrRange {H : Type} : DataW H := .iface "*errors.errorString" (.ptr (.agg [.lit (.string [97, 32, 110, 117, 109, 98, 101, 114, 32, 111, 117, 116, 32, 111, 102, 32, 105, 116, 115, 32, 114, 97, 110, 103, 101])]))
def laid_skolem_api_ErrBlocks {H : Type} : DataW H := .iface "*errors.errorString" (.ptr (.agg [.lit (.string [109, 111, 114, 101, 32, 116, 104, 97, 110, 32, 116, 119, 111, 32, 98, 108, 111, 99, 107, 115])]))
def laid_skolem_api_ErrProof {H : Type} : DataW H := .iface "*errors.errorString" (.ptr (.agg [.lit (.string [97, 32, 115, 116, 101, 112, 32, 116, 104, 97, 116, 32, 100, 111, 101, 115, 32, 110, 111, 116, 32, 102, 111, 108, 108, 111, 119])]))
def laid_skolem_api_ErrCert {H : Type} : DataW H := .iface "*errors.errorString" (.ptr (.agg [.lit (.string [110, 111, 32, 99, 101, 114, 116, 105, 102, 105, 99, 97, 116, 101, 32, 111, 102, 32, 105, 116])]))

/-- 'skolemlaw11.AagReads': WHATEVER THE INPUT: true; the input reads as it did. -/
def aagReadsSpec : ChangeSpec := { name := "aagReads", fn := fun _ => fun
  | [d] => { results := [.lit (.bool true)], args := [d] }
  | _ => none }
def aagReadsRow : OpenClaim := { program := "ytmjbjgbcpaagmaadoor", sum := "de97a674b73a71e0ed2ae05e622a5a2deffd80a1b5aebe89b76bcb76de9b416b", func := "skolem/skolemlaw11.AagReads", spec := "aagReads", inPlace := ["internal/bytealg.IndexByte", "internal/abi.NoEscape", "internal/bytealg.MakeNoZero"], named := ["skolem/api.ErrLimit", "skolem/api.ErrText", "strconv.ErrSyntax", "strconv.ErrRange", "internal/strconv.uint64pow10", "math/bits.deBruijn32tab", "math/bits.deBruijn64tab", "skolem/api.ErrBudget", "skolem/api.ErrRange", "skolem/api.ErrBlocks", "skolem/api.ErrProof", "skolem/api.ErrCert"], apart := false, laid := [("math/bits.deBruijn32tab", laid_math_bits_deBruijn32tab), ("math/bits.deBruijn64tab", laid_math_bits_deBruijn64tab), ("internal/strconv.uint64pow10", laid_internal_strconv_uint64pow10), ("strconv.ErrRange", laid_strconv_ErrRange), ("strconv.ErrSyntax", laid_strconv_ErrSyntax), ("skolem/api.ErrText", laid_skolem_api_ErrText), ("skolem/api.ErrLimit", laid_skolem_api_ErrLimit), ("skolem/api.ErrBudget", laid_skolem_api_ErrBudget), ("skolem/api.ErrRange", laid_skolem_api_ErrRange), ("skolem/api.ErrBlocks", laid_skolem_api_ErrBlocks), ("skolem/api.ErrProof", laid_skolem_api_ErrProof), ("skolem/api.ErrCert", laid_skolem_api_ErrCert)] }
def AagReadsSaid : Prop := aagReadsRow.holds Tryd.pinned (OpenSpec.ofChange aagReadsSpec)

/-- ITS FALSE NEIGHBOUR: 'it returns false'. Refute it at one input. -/
def aagReadsWrong : ChangeSpec := { name := "aagReads", fn := fun _ => fun
  | [d] => { results := [.lit (.bool false)], args := [d] }
  | _ => none }
def AagReadsWrongFalsely : Prop := aagReadsRow.holds Tryd.pinned (OpenSpec.ofChange aagReadsWrong)

/-- 'skolemlaw11.AagTurned': WHATEVER THE INPUT: true; the input reads as it did. -/
def aagTurnedSpec : ChangeSpec := { name := "aagTurned", fn := fun _ => fun
  | [d1, d2, d3] => { results := [.lit (.bool true)], args := [d1, d2, d3] }
  | _ => none }
def aagTurnedRow : OpenClaim := { program := "ytmjbjgbcpaagmaadoor", sum := "de97a674b73a71e0ed2ae05e622a5a2deffd80a1b5aebe89b76bcb76de9b416b", func := "skolem/skolemlaw11.AagTurned", spec := "aagTurned", inPlace := ["internal/bytealg.IndexByte", "internal/abi.NoEscape", "internal/bytealg.MakeNoZero"], named := ["skolem/api.ErrLimit", "skolem/api.ErrText", "strconv.ErrSyntax", "strconv.ErrRange", "internal/strconv.uint64pow10", "math/bits.deBruijn32tab", "math/bits.deBruijn64tab", "skolem/api.ErrBudget", "skolem/api.ErrRange", "skolem/api.ErrBlocks", "skolem/api.ErrProof", "skolem/api.ErrCert"], apart := false, laid := [("math/bits.deBruijn32tab", laid_math_bits_deBruijn32tab), ("math/bits.deBruijn64tab", laid_math_bits_deBruijn64tab), ("internal/strconv.uint64pow10", laid_internal_strconv_uint64pow10), ("strconv.ErrRange", laid_strconv_ErrRange), ("strconv.ErrSyntax", laid_strconv_ErrSyntax), ("skolem/api.ErrText", laid_skolem_api_ErrText), ("skolem/api.ErrLimit", laid_skolem_api_ErrLimit), ("skolem/api.ErrBudget", laid_skolem_api_ErrBudget), ("skolem/api.ErrRange", laid_skolem_api_ErrRange), ("skolem/api.ErrBlocks", laid_skolem_api_ErrBlocks), ("skolem/api.ErrProof", laid_skolem_api_ErrProof), ("skolem/api.ErrCert", laid_skolem_api_ErrCert)] }
def AagTurnedSaid : Prop := aagTurnedRow.holds Tryd.pinned (OpenSpec.ofChange aagTurnedSpec)

/-- ITS FALSE NEIGHBOUR: 'it returns false'. Refute it at one input. -/
def aagTurnedWrong : ChangeSpec := { name := "aagTurned", fn := fun _ => fun
  | [d1, d2, d3] => { results := [.lit (.bool false)], args := [d1, d2, d3] }
  | _ => none }
def AagTurnedWrongFalsely : Prop := aagTurnedRow.holds Tryd.pinned (OpenSpec.ofChange aagTurnedWrong)

/-- 'skolemlaw11.AagBack': WHATEVER THE INPUT: true; the input reads as it did. -/
def aagBackSpec : ChangeSpec := { name := "aagBack", fn := fun _ => fun
  | [d1, d2, d3, d4] => { results := [.lit (.bool true)], args := [d1, d2, d3, d4] }
  | _ => none }
def aagBackRow : OpenClaim := { program := "ytmjbjgbcpaagmaadoor", sum := "de97a674b73a71e0ed2ae05e622a5a2deffd80a1b5aebe89b76bcb76de9b416b", func := "skolem/skolemlaw11.AagBack", spec := "aagBack", inPlace := ["internal/bytealg.IndexByte", "internal/abi.NoEscape", "internal/bytealg.MakeNoZero"], named := ["skolem/api.ErrLimit", "skolem/api.ErrText", "strconv.ErrSyntax", "strconv.ErrRange", "internal/strconv.uint64pow10", "math/bits.deBruijn32tab", "math/bits.deBruijn64tab", "skolem/api.ErrBudget", "skolem/api.ErrRange", "skolem/api.ErrBlocks", "skolem/api.ErrProof", "skolem/api.ErrCert"], apart := false, laid := [("math/bits.deBruijn32tab", laid_math_bits_deBruijn32tab), ("math/bits.deBruijn64tab", laid_math_bits_deBruijn64tab), ("internal/strconv.uint64pow10", laid_internal_strconv_uint64pow10), ("strconv.ErrRange", laid_strconv_ErrRange), ("strconv.ErrSyntax", laid_strconv_ErrSyntax), ("skolem/api.ErrText", laid_skolem_api_ErrText), ("skolem/api.ErrLimit", laid_skolem_api_ErrLimit), ("skolem/api.ErrBudget", laid_skolem_api_ErrBudget), ("skolem/api.ErrRange", laid_skolem_api_ErrRange), ("skolem/api.ErrBlocks", laid_skolem_api_ErrBlocks), ("skolem/api.ErrProof", laid_skolem_api_ErrProof), ("skolem/api.ErrCert", laid_skolem_api_ErrCert)] }
def AagBackSaid : Prop := aagBackRow.holds Tryd.pinned (OpenSpec.ofChange aagBackSpec)

/-- ITS FALSE NEIGHBOUR: 'it returns false'. Refute it at one input. -/
def aagBackWrong : ChangeSpec := { name := "aagBack", fn := fun _ => fun
  | [d1, d2, d3, d4] => { results := [.lit (.bool false)], args := [d1, d2, d3, d4] }
  | _ => none }
def AagBackWrongFalsely : Prop := aagBackRow.holds Tryd.pinned (OpenSpec.ofChange aagBackWrong)

/-- 'skolemlaw12.AigCuts': WHATEVER THE INPUT: true; the input reads as it did. -/
def aigCutsSpec : ChangeSpec := { name := "aigCuts", fn := fun _ => fun
  | [d1, d2, d3, d4, d5] => { results := [.lit (.bool true)], args := [d1, d2, d3, d4, d5] }
  | _ => none }
def aigCutsRow : OpenClaim := { program := "ytmjbjgbcpaagmaadoor", sum := "de97a674b73a71e0ed2ae05e622a5a2deffd80a1b5aebe89b76bcb76de9b416b", func := "skolem/skolemlaw12.AigCuts", spec := "aigCuts", inPlace := ["internal/bytealg.IndexByte", "internal/abi.NoEscape", "internal/bytealg.MakeNoZero"], named := ["skolem/api.ErrLimit", "skolem/api.ErrText", "strconv.ErrSyntax", "strconv.ErrRange", "internal/strconv.uint64pow10", "math/bits.deBruijn32tab", "math/bits.deBruijn64tab", "skolem/api.ErrBudget", "skolem/api.ErrRange", "skolem/api.ErrBlocks", "skolem/api.ErrProof", "skolem/api.ErrCert"], apart := false, laid := [("math/bits.deBruijn32tab", laid_math_bits_deBruijn32tab), ("math/bits.deBruijn64tab", laid_math_bits_deBruijn64tab), ("internal/strconv.uint64pow10", laid_internal_strconv_uint64pow10), ("strconv.ErrRange", laid_strconv_ErrRange), ("strconv.ErrSyntax", laid_strconv_ErrSyntax), ("skolem/api.ErrText", laid_skolem_api_ErrText), ("skolem/api.ErrLimit", laid_skolem_api_ErrLimit), ("skolem/api.ErrBudget", laid_skolem_api_ErrBudget), ("skolem/api.ErrRange", laid_skolem_api_ErrRange), ("skolem/api.ErrBlocks", laid_skolem_api_ErrBlocks), ("skolem/api.ErrProof", laid_skolem_api_ErrProof), ("skolem/api.ErrCert", laid_skolem_api_ErrCert)] }
def AigCutsSaid : Prop := aigCutsRow.holds Tryd.pinned (OpenSpec.ofChange aigCutsSpec)

/-- ITS FALSE NEIGHBOUR: 'it returns false'. Refute it at one input. -/
def aigCutsWrong : ChangeSpec := { name := "aigCuts", fn := fun _ => fun
  | [d1, d2, d3, d4, d5] => { results := [.lit (.bool false)], args := [d1, d2, d3, d4, d5] }
  | _ => none }
def AigCutsWrongFalsely : Prop := aigCutsRow.holds Tryd.pinned (OpenSpec.ofChange aigCutsWrong)

/-- 'skolemlaw12.AigHeads': WHATEVER THE INPUT: true; the input reads as it did. -/
def aigHeadsSpec : ChangeSpec := { name := "aigHeads", fn := fun _ => fun
  | [d1, d2, d3, d4, d5] => { results := [.lit (.bool true)], args := [d1, d2, d3, d4, d5] }
  | _ => none }
def aigHeadsRow : OpenClaim := { program := "ytmjbjgbcpaagmaadoor", sum := "de97a674b73a71e0ed2ae05e622a5a2deffd80a1b5aebe89b76bcb76de9b416b", func := "skolem/skolemlaw12.AigHeads", spec := "aigHeads", inPlace := ["internal/bytealg.IndexByte", "internal/abi.NoEscape", "internal/bytealg.MakeNoZero"], named := ["skolem/api.ErrLimit", "skolem/api.ErrText", "strconv.ErrSyntax", "strconv.ErrRange", "internal/strconv.uint64pow10", "math/bits.deBruijn32tab", "math/bits.deBruijn64tab", "skolem/api.ErrBudget", "skolem/api.ErrRange", "skolem/api.ErrBlocks", "skolem/api.ErrProof", "skolem/api.ErrCert"], apart := false, laid := [("math/bits.deBruijn32tab", laid_math_bits_deBruijn32tab), ("math/bits.deBruijn64tab", laid_math_bits_deBruijn64tab), ("internal/strconv.uint64pow10", laid_internal_strconv_uint64pow10), ("strconv.ErrRange", laid_strconv_ErrRange), ("strconv.ErrSyntax", laid_strconv_ErrSyntax), ("skolem/api.ErrText", laid_skolem_api_ErrText), ("skolem/api.ErrLimit", laid_skolem_api_ErrLimit), ("skolem/api.ErrBudget", laid_skolem_api_ErrBudget), ("skolem/api.ErrRange", laid_skolem_api_ErrRange), ("skolem/api.ErrBlocks", laid_skolem_api_ErrBlocks), ("skolem/api.ErrProof", laid_skolem_api_ErrProof), ("skolem/api.ErrCert", laid_skolem_api_ErrCert)] }
def AigHeadsSaid : Prop := aigHeadsRow.holds Tryd.pinned (OpenSpec.ofChange aigHeadsSpec)

/-- ITS FALSE NEIGHBOUR: 'it returns false'. Refute it at one input. -/
def aigHeadsWrong : ChangeSpec := { name := "aigHeads", fn := fun _ => fun
  | [d1, d2, d3, d4, d5] => { results := [.lit (.bool false)], args := [d1, d2, d3, d4, d5] }
  | _ => none }
def AigHeadsWrongFalsely : Prop := aigHeadsRow.holds Tryd.pinned (OpenSpec.ofChange aigHeadsWrong)

/-- 'skolemlaw12.AigBack': WHATEVER THE INPUT: true; the input reads as it did. -/
def aigBackSpec : ChangeSpec := { name := "aigBack", fn := fun _ => fun
  | [d1, d2, d3, d4] => { results := [.lit (.bool true)], args := [d1, d2, d3, d4] }
  | _ => none }
def aigBackRow : OpenClaim := { program := "ytmjbjgbcpaagmaadoor", sum := "de97a674b73a71e0ed2ae05e622a5a2deffd80a1b5aebe89b76bcb76de9b416b", func := "skolem/skolemlaw12.AigBack", spec := "aigBack", inPlace := ["internal/bytealg.IndexByte", "internal/abi.NoEscape", "internal/bytealg.MakeNoZero"], named := ["skolem/api.ErrLimit", "skolem/api.ErrText", "strconv.ErrSyntax", "strconv.ErrRange", "internal/strconv.uint64pow10", "math/bits.deBruijn32tab", "math/bits.deBruijn64tab", "skolem/api.ErrBudget", "skolem/api.ErrRange", "skolem/api.ErrBlocks", "skolem/api.ErrProof", "skolem/api.ErrCert"], apart := false, laid := [("math/bits.deBruijn32tab", laid_math_bits_deBruijn32tab), ("math/bits.deBruijn64tab", laid_math_bits_deBruijn64tab), ("internal/strconv.uint64pow10", laid_internal_strconv_uint64pow10), ("strconv.ErrRange", laid_strconv_ErrRange), ("strconv.ErrSyntax", laid_strconv_ErrSyntax), ("skolem/api.ErrText", laid_skolem_api_ErrText), ("skolem/api.ErrLimit", laid_skolem_api_ErrLimit), ("skolem/api.ErrBudget", laid_skolem_api_ErrBudget), ("skolem/api.ErrRange", laid_skolem_api_ErrRange), ("skolem/api.ErrBlocks", laid_skolem_api_ErrBlocks), ("skolem/api.ErrProof", laid_skolem_api_ErrProof), ("skolem/api.ErrCert", laid_skolem_api_ErrCert)] }
def AigBackSaid : Prop := aigBackRow.holds Tryd.pinned (OpenSpec.ofChange aigBackSpec)

/-- ITS FALSE NEIGHBOUR: 'it returns false'. Refute it at one input. -/
def aigBackWrong : ChangeSpec := { name := "aigBack", fn := fun _ => fun
  | [d1, d2, d3, d4] => { results := [.lit (.bool false)], args := [d1, d2, d3, d4] }
  | _ => none }
def AigBackWrongFalsely : Prop := aigBackRow.holds Tryd.pinned (OpenSpec.ofChange aigBackWrong)

/-- 'skolemlaw12.AigForms': WHATEVER THE INPUT: true; the input reads as it did. -/
def aigFormsSpec : ChangeSpec := { name := "aigForms", fn := fun _ => fun
  | [d1, d2, d3] => { results := [.lit (.bool true)], args := [d1, d2, d3] }
  | _ => none }
def aigFormsRow : OpenClaim := { program := "ytmjbjgbcpaagmaadoor", sum := "de97a674b73a71e0ed2ae05e622a5a2deffd80a1b5aebe89b76bcb76de9b416b", func := "skolem/skolemlaw12.AigForms", spec := "aigForms", inPlace := ["internal/bytealg.IndexByte", "internal/abi.NoEscape", "internal/bytealg.MakeNoZero"], named := ["skolem/api.ErrLimit", "skolem/api.ErrText", "strconv.ErrSyntax", "strconv.ErrRange", "internal/strconv.uint64pow10", "math/bits.deBruijn32tab", "math/bits.deBruijn64tab", "skolem/api.ErrBudget", "skolem/api.ErrRange", "skolem/api.ErrBlocks", "skolem/api.ErrProof", "skolem/api.ErrCert"], apart := false, laid := [("math/bits.deBruijn32tab", laid_math_bits_deBruijn32tab), ("math/bits.deBruijn64tab", laid_math_bits_deBruijn64tab), ("internal/strconv.uint64pow10", laid_internal_strconv_uint64pow10), ("strconv.ErrRange", laid_strconv_ErrRange), ("strconv.ErrSyntax", laid_strconv_ErrSyntax), ("skolem/api.ErrText", laid_skolem_api_ErrText), ("skolem/api.ErrLimit", laid_skolem_api_ErrLimit), ("skolem/api.ErrBudget", laid_skolem_api_ErrBudget), ("skolem/api.ErrRange", laid_skolem_api_ErrRange), ("skolem/api.ErrBlocks", laid_skolem_api_ErrBlocks), ("skolem/api.ErrProof", laid_skolem_api_ErrProof), ("skolem/api.ErrCert", laid_skolem_api_ErrCert)] }
def AigFormsSaid : Prop := aigFormsRow.holds Tryd.pinned (OpenSpec.ofChange aigFormsSpec)

/-- ITS FALSE NEIGHBOUR: 'it returns false'. Refute it at one input. -/
def aigFormsWrong : ChangeSpec := { name := "aigForms", fn := fun _ => fun
  | [d1, d2, d3] => { results := [.lit (.bool false)], args := [d1, d2, d3] }
  | _ => none }
def AigFormsWrongFalsely : Prop := aigFormsRow.holds Tryd.pinned (OpenSpec.ofChange aigFormsWrong)

/- THE SECOND FORM. 'bulk': how many values and letters a reading holds, each counted each time it is reached (what is shared counts as often as it is met; a slice's spare places count too). A statement '..UptoSaid' is the law's where the arguments, and the package variables that the reading takes, are together of bulk at most 1048576: NARROWER than '..Said'. Prove '..Said' where nothing that the law and all that it calls make is longer than what came in: it says more and counts as full. Else prove '..UptoSaid'. A law counts once. -/
mutual
def uptoBulk {H : Type} : DataW H → Nat
  | .lit (.string bytes) => bytes.length + 1
  | .lit _ => 1
  | .nil => 1
  | .ptr d => uptoBulk d + 1
  | .slice elems spare => uptoBulkAll elems + uptoBulkAll spare + 1
  | .agg parts => uptoBulkAll parts + 1
  | .iface _ d => uptoBulk d + 1
  | .map entries => uptoBulkEntries entries + 1
  | .held _ => 1
def uptoBulkAll {H : Type} : List (DataW H) → Nat
  | [] => 0
  | d :: r => uptoBulk d + uptoBulkAll r
def uptoBulkEntries {H : Type} : List (Lit × DataW H) → Nat
  | [] => 0
  | x :: r => uptoBulkEntry x + uptoBulkEntries r
def uptoBulkEntry {H : Type} : Lit × DataW H → Nat
  | (.string bytes, d) => bytes.length + uptoBulk d + 1
  | (_, d) => uptoBulk d + 1
 end
def uptoSmall : (H : Type) → List (DataW H) → Bool := fun _ ds => decide (uptoBulkAll ds ≤ 1048576)
def OpenSpec.upto (s : _root_.Go.ChangeSpec) : _root_.Go.OpenSpec := { _root_.Go.OpenSpec.ofChange s with cond := some uptoSmall }

/-- 'skolemlaw11.AagReads', WHERE WHAT IT READS IS OF BULK AT MOST 1048576: true; the input reads as it did. -/
def aagReadsUptoRow : OpenClaim := { program := "ytmjbjgbcpaagmaadoor", sum := "de97a674b73a71e0ed2ae05e622a5a2deffd80a1b5aebe89b76bcb76de9b416b", func := "skolem/skolemlaw11.AagReads", spec := "aagReads", inPlace := ["internal/bytealg.IndexByte", "internal/abi.NoEscape", "internal/bytealg.MakeNoZero"], named := ["skolem/api.ErrLimit", "skolem/api.ErrText", "strconv.ErrSyntax", "strconv.ErrRange", "internal/strconv.uint64pow10", "math/bits.deBruijn32tab", "math/bits.deBruijn64tab", "skolem/api.ErrBudget", "skolem/api.ErrRange", "skolem/api.ErrBlocks", "skolem/api.ErrProof", "skolem/api.ErrCert"], apart := false, laid := [("math/bits.deBruijn32tab", laid_math_bits_deBruijn32tab), ("math/bits.deBruijn64tab", laid_math_bits_deBruijn64tab), ("internal/strconv.uint64pow10", laid_internal_strconv_uint64pow10), ("strconv.ErrRange", laid_strconv_ErrRange), ("strconv.ErrSyntax", laid_strconv_ErrSyntax), ("skolem/api.ErrText", laid_skolem_api_ErrText), ("skolem/api.ErrLimit", laid_skolem_api_ErrLimit), ("skolem/api.ErrBudget", laid_skolem_api_ErrBudget), ("skolem/api.ErrRange", laid_skolem_api_ErrRange), ("skolem/api.ErrBlocks", laid_skolem_api_ErrBlocks), ("skolem/api.ErrProof", laid_skolem_api_ErrProof), ("skolem/api.ErrCert", laid_skolem_api_ErrCert)], narrowed := true }
def AagReadsUptoSaid : Prop := aagReadsUptoRow.holds Tryd.pinned (OpenSpec.upto aagReadsSpec)

/-- 'skolemlaw11.AagTurned', WHERE WHAT IT READS IS OF BULK AT MOST 1048576: true; the input reads as it did. -/
def aagTurnedUptoRow : OpenClaim := { program := "ytmjbjgbcpaagmaadoor", sum := "de97a674b73a71e0ed2ae05e622a5a2deffd80a1b5aebe89b76bcb76de9b416b", func := "skolem/skolemlaw11.AagTurned", spec := "aagTurned", inPlace := ["internal/bytealg.IndexByte", "internal/abi.NoEscape", "internal/bytealg.MakeNoZero"], named := ["skolem/api.ErrLimit", "skolem/api.ErrText", "strconv.ErrSyntax", "strconv.ErrRange", "internal/strconv.uint64pow10", "math/bits.deBruijn32tab", "math/bits.deBruijn64tab", "skolem/api.ErrBudget", "skolem/api.ErrRange", "skolem/api.ErrBlocks", "skolem/api.ErrProof", "skolem/api.ErrCert"], apart := false, laid := [("math/bits.deBruijn32tab", laid_math_bits_deBruijn32tab), ("math/bits.deBruijn64tab", laid_math_bits_deBruijn64tab), ("internal/strconv.uint64pow10", laid_internal_strconv_uint64pow10), ("strconv.ErrRange", laid_strconv_ErrRange), ("strconv.ErrSyntax", laid_strconv_ErrSyntax), ("skolem/api.ErrText", laid_skolem_api_ErrText), ("skolem/api.ErrLimit", laid_skolem_api_ErrLimit), ("skolem/api.ErrBudget", laid_skolem_api_ErrBudget), ("skolem/api.ErrRange", laid_skolem_api_ErrRange), ("skolem/api.ErrBlocks", laid_skolem_api_ErrBlocks), ("skolem/api.ErrProof", laid_skolem_api_ErrProof), ("skolem/api.ErrCert", laid_skolem_api_ErrCert)], narrowed := true }
def AagTurnedUptoSaid : Prop := aagTurnedUptoRow.holds Tryd.pinned (OpenSpec.upto aagTurnedSpec)

/-- 'skolemlaw11.AagBack', WHERE WHAT IT READS IS OF BULK AT MOST 1048576: true; the input reads as it did. -/
def aagBackUptoRow : OpenClaim := { program := "ytmjbjgbcpaagmaadoor", sum := "de97a674b73a71e0ed2ae05e622a5a2deffd80a1b5aebe89b76bcb76de9b416b", func := "skolem/skolemlaw11.AagBack", spec := "aagBack", inPlace := ["internal/bytealg.IndexByte", "internal/abi.NoEscape", "internal/bytealg.MakeNoZero"], named := ["skolem/api.ErrLimit", "skolem/api.ErrText", "strconv.ErrSyntax", "strconv.ErrRange", "internal/strconv.uint64pow10", "math/bits.deBruijn32tab", "math/bits.deBruijn64tab", "skolem/api.ErrBudget", "skolem/api.ErrRange", "skolem/api.ErrBlocks", "skolem/api.ErrProof", "skolem/api.ErrCert"], apart := false, laid := [("math/bits.deBruijn32tab", laid_math_bits_deBruijn32tab), ("math/bits.deBruijn64tab", laid_math_bits_deBruijn64tab), ("internal/strconv.uint64pow10", laid_internal_strconv_uint64pow10), ("strconv.ErrRange", laid_strconv_ErrRange), ("strconv.ErrSyntax", laid_strconv_ErrSyntax), ("skolem/api.ErrText", laid_skolem_api_ErrText), ("skolem/api.ErrLimit", laid_skolem_api_ErrLimit), ("skolem/api.ErrBudget", laid_skolem_api_ErrBudget), ("skolem/api.ErrRange", laid_skolem_api_ErrRange), ("skolem/api.ErrBlocks", laid_skolem_api_ErrBlocks), ("skolem/api.ErrProof", laid_skolem_api_ErrProof), ("skolem/api.ErrCert", laid_skolem_api_ErrCert)], narrowed := true }
def AagBackUptoSaid : Prop := aagBackUptoRow.holds Tryd.pinned (OpenSpec.upto aagBackSpec)

/-- 'skolemlaw12.AigCuts', WHERE WHAT IT READS IS OF BULK AT MOST 1048576: true; the input reads as it did. -/
def aigCutsUptoRow : OpenClaim := { program := "ytmjbjgbcpaagmaadoor", sum := "de97a674b73a71e0ed2ae05e622a5a2deffd80a1b5aebe89b76bcb76de9b416b", func := "skolem/skolemlaw12.AigCuts", spec := "aigCuts", inPlace := ["internal/bytealg.IndexByte", "internal/abi.NoEscape", "internal/bytealg.MakeNoZero"], named := ["skolem/api.ErrLimit", "skolem/api.ErrText", "strconv.ErrSyntax", "strconv.ErrRange", "internal/strconv.uint64pow10", "math/bits.deBruijn32tab", "math/bits.deBruijn64tab", "skolem/api.ErrBudget", "skolem/api.ErrRange", "skolem/api.ErrBlocks", "skolem/api.ErrProof", "skolem/api.ErrCert"], apart := false, laid := [("math/bits.deBruijn32tab", laid_math_bits_deBruijn32tab), ("math/bits.deBruijn64tab", laid_math_bits_deBruijn64tab), ("internal/strconv.uint64pow10", laid_internal_strconv_uint64pow10), ("strconv.ErrRange", laid_strconv_ErrRange), ("strconv.ErrSyntax", laid_strconv_ErrSyntax), ("skolem/api.ErrText", laid_skolem_api_ErrText), ("skolem/api.ErrLimit", laid_skolem_api_ErrLimit), ("skolem/api.ErrBudget", laid_skolem_api_ErrBudget), ("skolem/api.ErrRange", laid_skolem_api_ErrRange), ("skolem/api.ErrBlocks", laid_skolem_api_ErrBlocks), ("skolem/api.ErrProof", laid_skolem_api_ErrProof), ("skolem/api.ErrCert", laid_skolem_api_ErrCert)], narrowed := true }
def AigCutsUptoSaid : Prop := aigCutsUptoRow.holds Tryd.pinned (OpenSpec.upto aigCutsSpec)

/-- 'skolemlaw12.AigHeads', WHERE WHAT IT READS IS OF BULK AT MOST 1048576: true; the input reads as it did. -/
def aigHeadsUptoRow : OpenClaim := { program := "ytmjbjgbcpaagmaadoor", sum := "de97a674b73a71e0ed2ae05e622a5a2deffd80a1b5aebe89b76bcb76de9b416b", func := "skolem/skolemlaw12.AigHeads", spec := "aigHeads", inPlace := ["internal/bytealg.IndexByte", "internal/abi.NoEscape", "internal/bytealg.MakeNoZero"], named := ["skolem/api.ErrLimit", "skolem/api.ErrText", "strconv.ErrSyntax", "strconv.ErrRange", "internal/strconv.uint64pow10", "math/bits.deBruijn32tab", "math/bits.deBruijn64tab", "skolem/api.ErrBudget", "skolem/api.ErrRange", "skolem/api.ErrBlocks", "skolem/api.ErrProof", "skolem/api.ErrCert"], apart := false, laid := [("math/bits.deBruijn32tab", laid_math_bits_deBruijn32tab), ("math/bits.deBruijn64tab", laid_math_bits_deBruijn64tab), ("internal/strconv.uint64pow10", laid_internal_strconv_uint64pow10), ("strconv.ErrRange", laid_strconv_ErrRange), ("strconv.ErrSyntax", laid_strconv_ErrSyntax), ("skolem/api.ErrText", laid_skolem_api_ErrText), ("skolem/api.ErrLimit", laid_skolem_api_ErrLimit), ("skolem/api.ErrBudget", laid_skolem_api_ErrBudget), ("skolem/api.ErrRange", laid_skolem_api_ErrRange), ("skolem/api.ErrBlocks", laid_skolem_api_ErrBlocks), ("skolem/api.ErrProof", laid_skolem_api_ErrProof), ("skolem/api.ErrCert", laid_skolem_api_ErrCert)], narrowed := true }
def AigHeadsUptoSaid : Prop := aigHeadsUptoRow.holds Tryd.pinned (OpenSpec.upto aigHeadsSpec)

/-- 'skolemlaw12.AigBack', WHERE WHAT IT READS IS OF BULK AT MOST 1048576: true; the input reads as it did. -/
def aigBackUptoRow : OpenClaim := { program := "ytmjbjgbcpaagmaadoor", sum := "de97a674b73a71e0ed2ae05e622a5a2deffd80a1b5aebe89b76bcb76de9b416b", func := "skolem/skolemlaw12.AigBack", spec := "aigBack", inPlace := ["internal/bytealg.IndexByte", "internal/abi.NoEscape", "internal/bytealg.MakeNoZero"], named := ["skolem/api.ErrLimit", "skolem/api.ErrText", "strconv.ErrSyntax", "strconv.ErrRange", "internal/strconv.uint64pow10", "math/bits.deBruijn32tab", "math/bits.deBruijn64tab", "skolem/api.ErrBudget", "skolem/api.ErrRange", "skolem/api.ErrBlocks", "skolem/api.ErrProof", "skolem/api.ErrCert"], apart := false, laid := [("math/bits.deBruijn32tab", laid_math_bits_deBruijn32tab), ("math/bits.deBruijn64tab", laid_math_bits_deBruijn64tab), ("internal/strconv.uint64pow10", laid_internal_strconv_uint64pow10), ("strconv.ErrRange", laid_strconv_ErrRange), ("strconv.ErrSyntax", laid_strconv_ErrSyntax), ("skolem/api.ErrText", laid_skolem_api_ErrText), ("skolem/api.ErrLimit", laid_skolem_api_ErrLimit), ("skolem/api.ErrBudget", laid_skolem_api_ErrBudget), ("skolem/api.ErrRange", laid_skolem_api_ErrRange), ("skolem/api.ErrBlocks", laid_skolem_api_ErrBlocks), ("skolem/api.ErrProof", laid_skolem_api_ErrProof), ("skolem/api.ErrCert", laid_skolem_api_ErrCert)], narrowed := true }
def AigBackUptoSaid : Prop := aigBackUptoRow.holds Tryd.pinned (OpenSpec.upto aigBackSpec)

/-- 'skolemlaw12.AigForms', WHERE WHAT IT READS IS OF BULK AT MOST 1048576: true; the input reads as it did. -/
def aigFormsUptoRow : OpenClaim := { program := "ytmjbjgbcpaagmaadoor", sum := "de97a674b73a71e0ed2ae05e622a5a2deffd80a1b5aebe89b76bcb76de9b416b", func := "skolem/skolemlaw12.AigForms", spec := "aigForms", inPlace := ["internal/bytealg.IndexByte", "internal/abi.NoEscape", "internal/bytealg.MakeNoZero"], named := ["skolem/api.ErrLimit", "skolem/api.ErrText", "strconv.ErrSyntax", "strconv.ErrRange", "internal/strconv.uint64pow10", "math/bits.deBruijn32tab", "math/bits.deBruijn64tab", "skolem/api.ErrBudget", "skolem/api.ErrRange", "skolem/api.ErrBlocks", "skolem/api.ErrProof", "skolem/api.ErrCert"], apart := false, laid := [("math/bits.deBruijn32tab", laid_math_bits_deBruijn32tab), ("math/bits.deBruijn64tab", laid_math_bits_deBruijn64tab), ("internal/strconv.uint64pow10", laid_internal_strconv_uint64pow10), ("strconv.ErrRange", laid_strconv_ErrRange), ("strconv.ErrSyntax", laid_strconv_ErrSyntax), ("skolem/api.ErrText", laid_skolem_api_ErrText), ("skolem/api.ErrLimit", laid_skolem_api_ErrLimit), ("skolem/api.ErrBudget", laid_skolem_api_ErrBudget), ("skolem/api.ErrRange", laid_skolem_api_ErrRange), ("skolem/api.ErrBlocks", laid_skolem_api_ErrBlocks), ("skolem/api.ErrProof", laid_skolem_api_ErrProof), ("skolem/api.ErrCert", laid_skolem_api_ErrCert)], narrowed := true }
def AigFormsUptoSaid : Prop := aigFormsUptoRow.holds Tryd.pinned (OpenSpec.upto aigFormsSpec)

end Rows
end Go.Proofs.YtmjbjgbcpaagmaaDoor
