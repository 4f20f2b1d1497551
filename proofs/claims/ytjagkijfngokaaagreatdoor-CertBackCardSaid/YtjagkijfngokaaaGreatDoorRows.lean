/-
  NARROWER THAN 'FOR EVERY INPUT', by the rows' own cells (each row's printed sentence says how): CertClaims: laid · CertReads: laid · CertBack: laid · CertShapes: laid.
  DERIVED. THE GIVEN ROWS OF THIS SEAT. 4 by the template 'for every input the law returns true; each argument reads behind the call as it read before'; 0 by the template 'total and deterministic' (their statements: YtjagkijfngokaaaGreatDoorTotals.lean).
  GIVEN WITH THE SEED: the statements are not yours to turn. If you find one false, say at which input.
  Laid BY PROGRAM, IN A SANDBOX (cutbox-rows.mjs): the forced cells as the released guide's own fill.sh prints them over the translation c9bcd52ccb70b8d4… (all of the seat's roots in one cut). By AI agents, Wed Nov 11 2026. No macro, syntax, notation, axiom, sorry.
-/
import Derived.Test.YtjagkijfngokaaaGreatDoorChecked
import GoSem.Claim
import GoSem.ClaimJoined
import GoSem.ClaimMapViews
import Derived.JoinedTies
import Derived.KernelRfl
namespace Go.Proofs.YtjagkijfngokaaaGreatDoor
/- THE CELL 'sum', in the pinned program and in every row, IS THE sha256 OF THE DUMP (.gsa) THAT YtjagkijfngokaaaGreatDoorProg.lean LOADS. Nothing in Lean hashes anything: it is a label: what it is worth is what the hold of that sum in a sandbox is worth. -/
noncomputable def Tryz.pinned : Pinned := { name := "ytjagkijfngokaaagreatdoor", sum := "c9bcd52ccb70b8d406ec5a0d66a7b72e63a77c5d92d8b939df642167ce8b076b", checked := Tryz.checked }
namespace Rows
def none {H : Type} : Left H := { results := [], args := [] }

/- WHAT THE LISTED PACKAGE-LEVEL VARIABLES READ AS WHEN THE CALL BEGINS. Each datum BY PROGRAM (the guide's laid-datum.mjs) off the statement by which the dump's own 'gosem.cut.vars' lays the variable. In a bare row this is a premise. The card (YtjagkijfngokaaaGreatDoorCards.lean) ties it to the program's text. -/
def laid_math_bits_deBruijn32tab {H : Type} : DataW H := .agg [.lit (.int .u8 0), .lit (.int .u8 1), .lit (.int .u8 28), .lit (.int .u8 2), .lit (.int .u8 29), .lit (.int .u8 14), .lit (.int .u8 24), .lit (.int .u8 3), .lit (.int .u8 30), .lit (.int .u8 22), .lit (.int .u8 20), .lit (.int .u8 15), .lit (.int .u8 25), .lit (.int .u8 17), .lit (.int .u8 4), .lit (.int .u8 8), .lit (.int .u8 31), .lit (.int .u8 27), .lit (.int .u8 13), .lit (.int .u8 23), .lit (.int .u8 21), .lit (.int .u8 19), .lit (.int .u8 16), .lit (.int .u8 7), .lit (.int .u8 26), .lit (.int .u8 12), .lit (.int .u8 18), .lit (.int .u8 6), .lit (.int .u8 11), .lit (.int .u8 5), .lit (.int .u8 10), .lit (.int .u8 9)]
def laid_math_bits_deBruijn64tab {H : Type} : DataW H := .agg [.lit (.int .u8 0), .lit (.int .u8 1), .lit (.int .u8 56), .lit (.int .u8 2), .lit (.int .u8 57), .lit (.int .u8 49), .lit (.int .u8 28), .lit (.int .u8 3), .lit (.int .u8 61), .lit (.int .u8 58), .lit (.int .u8 42), .lit (.int .u8 50), .lit (.int .u8 38), .lit (.int .u8 29), .lit (.int .u8 17), .lit (.int .u8 4), .lit (.int .u8 62), .lit (.int .u8 47), .lit (.int .u8 59), .lit (.int .u8 36), .lit (.int .u8 45), .lit (.int .u8 43), .lit (.int .u8 51), .lit (.int .u8 22), .lit (.int .u8 53), .lit (.int .u8 39), .lit (.int .u8 33), .lit (.int .u8 30), .lit (.int .u8 24), .lit (.int .u8 18), .lit (.int .u8 12), .lit (.int .u8 5), .lit (.int .u8 63), .lit (.int .u8 55), .lit (.int .u8 48), .lit (.int .u8 27), .lit (.int .u8 60), .lit (.int .u8 41), .lit (.int .u8 37), .lit (.int .u8 16), .lit (.int .u8 46), .lit (.int .u8 35), .lit (.int .u8 44), .lit (.int .u8 21), .lit (.int .u8 52), .lit (.int .u8 32), .lit (.int .u8 23), .lit (.int .u8 11), .lit (.int .u8 54), .lit (.int .u8 26), .lit (.int .u8 40), .lit (.int .u8 15), .lit (.int .u8 34), .lit (.int .u8 20), .lit (.int .u8 31), .lit (.int .u8 10), .lit (.int .u8 25), .lit (.int .u8 14), .lit (.int .u8 19), .lit (.int .u8 9), .lit (.int .u8 13), .lit (.int .u8 8), .lit (.int .u8 7), .lit (.int .u8 6)]
def laid_internal_strconv_uint64pow10 {H : Type} : DataW H := .agg [.lit (.int .u64 1), .lit (.int .u64 10), .lit (.int .u64 100), .lit (.int .u64 1000), .lit (.int .u64 10000), .lit (.int .u64 100000), .lit (.int .u64 1000000), .lit (.int .u64 10000000), .lit (.int .u64 100000000), .lit (.int .u64 1000000000), .lit (.int .u64 10000000000), .lit (.int .u64 100000000000), .lit (.int .u64 1000000000000), .lit (.int .u64 10000000000000), .lit (.int .u64 100000000000000), .lit (.int .u64 1000000000000000), .lit (.int .u64 10000000000000000), .lit (.int .u64 100000000000000000), .lit (.int .u64 1000000000000000000), .lit (.int .u64 10000000000000000000)]
def laid_skolem_api_ErrText {H : Type} : DataW H := .iface "*errors.errorString" (.ptr (.agg [.lit (.string [110, 111, 116, 32, 97, 115, 32, 105, 116, 32, 105, 115, 32, 119, 114, 105, 116, 116, 101, 110])]))
def laid_skolem_api_ErrLimit {H : Type} : DataW H := .iface "*errors.errorString" (.ptr (.agg [.lit (.string [109, 111, 114, 101, 32, 116, 104, 97, 110, 32, 109, 97, 121, 32, 98, 101])]))
def laid_skolem_api_ErrBudget {H : Type} : DataW H := .iface "*errors.errorString" (.ptr (.agg [.lit (.string [116, 104, 101, 32, 98, 117, 100, 103, 101, 116, 32, 105, 115, 32, 117, 115, 101, 100, 32, 117, 112])]))
def laid_skolem_api_ErrRange {H : Type} : DataW H := .iface "*errors.errorString" (.ptr (.agg [.lit (.string [97, 32, 110, 117, 109, 98, 101, 114, 32, 111, 117, 116, 32, 111, 102, 32, 105, 116, 115, 32, 114, 97, 110, 103, 101])]))
def laid_skolem_api_ErrBlocks {H : Type} : DataW H := .iface "*errors.errorString" (.ptr (.agg [.lit (.string [109, 111, 114, 101, 32, 116, 104, 97, 110, 32, 116, 119, 111, 32, 98, 108, 111, 99, 107, 115])]))
def laid_skolem_api_ErrProof {H : Type} : DataW H := .iface "*errors.errorString" (.ptr (.agg [.lit (.string [97, 32, 115, 116, 101, 112, 32, 116, 104, 97, 116, 32, 100, 111, 101, 115, 32, 110, 111, 116, 32, 102, 111, 108, 108, 111, 119])]))
def laid_skolem_api_ErrCert {H : Type} : DataW H := .iface "*errors.errorString" (.ptr (.agg [.lit (.string [110, 111, 32, 99, 101, 114, 116, 105, 102, 105, 99, 97, 116, 101, 32, 111, 102, 32, 105, 116])]))
def laid_errors_errorType {H : Type} : DataW H := .iface "internal/reflectlite.rtype" (.agg [.ptr (.lit (.string [101, 114, 114, 111, 114]))])
def laid_strconv_ErrRange {H : Type} : DataW H := .iface "*errors.errorString" (.ptr (.agg [.lit (.string [118, 97, 108, 117, 101, 32, 111, 117, 116, 32, 111, 102, 32, 114, 97, 110, 103, 101])]))
def laid_strconv_ErrSyntax {H : Type} : DataW H := .iface "*errors.errorString" (.ptr (.agg [.lit (.string [105, 110, 118, 97, 108, 105, 100, 32, 115, 121, 110, 116, 97, 120])]))

/-- 'skolemlaw26.CertClaims': WHATEVER THE INPUT: true; the input reads as it did. -/
def certClaimsSpec : ChangeSpec := { name := "certClaims", fn := fun _ => fun
  | [d1, d2, d3, d4, d5, d6, d7, d8, d9, d10] => { results := [.lit (.bool true)], args := [d1, d2, d3, d4, d5, d6, d7, d8, d9, d10] }
  | _ => none }
def certClaimsRow : OpenClaim := { program := "ytjagkijfngokaaagreatdoor", sum := "c9bcd52ccb70b8d406ec5a0d66a7b72e63a77c5d92d8b939df642167ce8b076b", func := "skolem/skolemlaw26.CertClaims", spec := "certClaims", inPlace := ["internal/abi.NoEscape", "internal/bytealg.MakeNoZero"], unfollowed := true, recurses := true, named := ["internal/strconv.uint64pow10", "math/bits.deBruijn32tab", "math/bits.deBruijn64tab", "skolem/api.ErrCert", "skolem/api.ErrRange", "skolem/api.ErrLimit", "skolem/api.ErrText", "skolem/api.ErrBudget", "skolem/api.ErrBlocks", "skolem/api.ErrProof"], plainKeys := false, apart := false, laid := [("math/bits.deBruijn32tab", laid_math_bits_deBruijn32tab), ("math/bits.deBruijn64tab", laid_math_bits_deBruijn64tab), ("internal/strconv.uint64pow10", laid_internal_strconv_uint64pow10), ("skolem/api.ErrText", laid_skolem_api_ErrText), ("skolem/api.ErrLimit", laid_skolem_api_ErrLimit), ("skolem/api.ErrBudget", laid_skolem_api_ErrBudget), ("skolem/api.ErrRange", laid_skolem_api_ErrRange), ("skolem/api.ErrBlocks", laid_skolem_api_ErrBlocks), ("skolem/api.ErrProof", laid_skolem_api_ErrProof), ("skolem/api.ErrCert", laid_skolem_api_ErrCert)] }
def CertClaimsSaid : Prop := certClaimsRow.holds Tryz.pinned (OpenSpec.ofChange certClaimsSpec)

/-- ITS FALSE NEIGHBOUR: 'it returns false'. Refute it at one input. -/
def certClaimsWrong : ChangeSpec := { name := "certClaims", fn := fun _ => fun
  | [d1, d2, d3, d4, d5, d6, d7, d8, d9, d10] => { results := [.lit (.bool false)], args := [d1, d2, d3, d4, d5, d6, d7, d8, d9, d10] }
  | _ => none }
def CertClaimsWrongFalsely : Prop := certClaimsRow.holds Tryz.pinned (OpenSpec.ofChange certClaimsWrong)

/-- 'skolemlaw26.CertReads': WHATEVER THE INPUT: true; the input reads as it did. -/
def certReadsSpec : ChangeSpec := { name := "certReads", fn := fun _ => fun
  | [d] => { results := [.lit (.bool true)], args := [d] }
  | _ => none }
def certReadsRow : OpenClaim := { program := "ytjagkijfngokaaagreatdoor", sum := "c9bcd52ccb70b8d406ec5a0d66a7b72e63a77c5d92d8b939df642167ce8b076b", func := "skolem/skolemlaw26.CertReads", spec := "certReads", inPlace := ["internal/abi.NoEscape", "internal/bytealg.MakeNoZero", "internal/bytealg.IndexByte", "internal/reflectlite.ValueOf", "(internal/reflectlite.Value).Type", "(internal/reflectlite.Value).IsNil", "internal/reflectlite.TypeOf", "(internal/reflectlite.Value).Elem", "(internal/reflectlite.Value).Set"], unfollowed := true, recurses := true, named := ["internal/strconv.uint64pow10", "math/bits.deBruijn32tab", "math/bits.deBruijn64tab", "skolem/api.ErrLimit", "skolem/api.ErrText", "strconv.ErrSyntax", "strconv.ErrRange", "errors.errorType", "skolem/api.ErrBudget", "skolem/api.ErrRange", "skolem/api.ErrBlocks", "skolem/api.ErrProof", "skolem/api.ErrCert"], plainKeys := false, apart := false, laid := [("math/bits.deBruijn32tab", laid_math_bits_deBruijn32tab), ("math/bits.deBruijn64tab", laid_math_bits_deBruijn64tab), ("internal/strconv.uint64pow10", laid_internal_strconv_uint64pow10), ("errors.errorType", laid_errors_errorType), ("strconv.ErrRange", laid_strconv_ErrRange), ("strconv.ErrSyntax", laid_strconv_ErrSyntax), ("skolem/api.ErrText", laid_skolem_api_ErrText), ("skolem/api.ErrLimit", laid_skolem_api_ErrLimit), ("skolem/api.ErrBudget", laid_skolem_api_ErrBudget), ("skolem/api.ErrRange", laid_skolem_api_ErrRange), ("skolem/api.ErrBlocks", laid_skolem_api_ErrBlocks), ("skolem/api.ErrProof", laid_skolem_api_ErrProof), ("skolem/api.ErrCert", laid_skolem_api_ErrCert)] }
def CertReadsSaid : Prop := certReadsRow.holds Tryz.pinned (OpenSpec.ofChange certReadsSpec)

/-- ITS FALSE NEIGHBOUR: 'it returns false'. Refute it at one input. -/
def certReadsWrong : ChangeSpec := { name := "certReads", fn := fun _ => fun
  | [d] => { results := [.lit (.bool false)], args := [d] }
  | _ => none }
def CertReadsWrongFalsely : Prop := certReadsRow.holds Tryz.pinned (OpenSpec.ofChange certReadsWrong)

/-- 'skolemlaw26.CertBack': WHATEVER THE INPUT: true; the input reads as it did. -/
def certBackSpec : ChangeSpec := { name := "certBack", fn := fun _ => fun
  | [d] => { results := [.lit (.bool true)], args := [d] }
  | _ => none }
def certBackRow : OpenClaim := { program := "ytjagkijfngokaaagreatdoor", sum := "c9bcd52ccb70b8d406ec5a0d66a7b72e63a77c5d92d8b939df642167ce8b076b", func := "skolem/skolemlaw26.CertBack", spec := "certBack", inPlace := ["internal/abi.NoEscape", "internal/bytealg.MakeNoZero", "internal/bytealg.IndexByte", "internal/reflectlite.ValueOf", "(internal/reflectlite.Value).Type", "(internal/reflectlite.Value).IsNil", "internal/reflectlite.TypeOf", "(internal/reflectlite.Value).Elem", "(internal/reflectlite.Value).Set"], unfollowed := true, recurses := true, named := ["internal/strconv.uint64pow10", "math/bits.deBruijn32tab", "math/bits.deBruijn64tab", "skolem/api.ErrLimit", "skolem/api.ErrText", "strconv.ErrSyntax", "strconv.ErrRange", "errors.errorType"], plainKeys := false, apart := false, laid := [("math/bits.deBruijn32tab", laid_math_bits_deBruijn32tab), ("math/bits.deBruijn64tab", laid_math_bits_deBruijn64tab), ("internal/strconv.uint64pow10", laid_internal_strconv_uint64pow10), ("errors.errorType", laid_errors_errorType), ("strconv.ErrRange", laid_strconv_ErrRange), ("strconv.ErrSyntax", laid_strconv_ErrSyntax), ("skolem/api.ErrText", laid_skolem_api_ErrText), ("skolem/api.ErrLimit", laid_skolem_api_ErrLimit)] }
def CertBackSaid : Prop := certBackRow.holds Tryz.pinned (OpenSpec.ofChange certBackSpec)

/-- ITS FALSE NEIGHBOUR: 'it returns false'. Refute it at one input. -/
def certBackWrong : ChangeSpec := { name := "certBack", fn := fun _ => fun
  | [d] => { results := [.lit (.bool false)], args := [d] }
  | _ => none }
def CertBackWrongFalsely : Prop := certBackRow.holds Tryz.pinned (OpenSpec.ofChange certBackWrong)

/-- 'skolemlaw26.CertShapes': WHATEVER THE INPUT: true; the input reads as it did. -/
def certShapesSpec : ChangeSpec := { name := "certShapes", fn := fun _ => fun
  | [d] => { results := [.lit (.bool true)], args := [d] }
  | _ => none }
def certShapesRow : OpenClaim := { program := "ytjagkijfngokaaagreatdoor", sum := "c9bcd52ccb70b8d406ec5a0d66a7b72e63a77c5d92d8b939df642167ce8b076b", func := "skolem/skolemlaw26.CertShapes", spec := "certShapes", inPlace := ["internal/abi.NoEscape", "internal/bytealg.MakeNoZero", "internal/bytealg.IndexByte", "internal/reflectlite.ValueOf", "(internal/reflectlite.Value).Type", "(internal/reflectlite.Value).IsNil", "internal/reflectlite.TypeOf", "(internal/reflectlite.Value).Elem", "(internal/reflectlite.Value).Set"], unfollowed := true, recurses := true, named := ["internal/strconv.uint64pow10", "math/bits.deBruijn32tab", "math/bits.deBruijn64tab", "skolem/api.ErrLimit", "skolem/api.ErrText", "strconv.ErrSyntax", "strconv.ErrRange", "errors.errorType", "skolem/api.ErrBudget", "skolem/api.ErrRange", "skolem/api.ErrBlocks", "skolem/api.ErrProof", "skolem/api.ErrCert"], plainKeys := false, apart := false, laid := [("math/bits.deBruijn32tab", laid_math_bits_deBruijn32tab), ("math/bits.deBruijn64tab", laid_math_bits_deBruijn64tab), ("internal/strconv.uint64pow10", laid_internal_strconv_uint64pow10), ("errors.errorType", laid_errors_errorType), ("strconv.ErrRange", laid_strconv_ErrRange), ("strconv.ErrSyntax", laid_strconv_ErrSyntax), ("skolem/api.ErrText", laid_skolem_api_ErrText), ("skolem/api.ErrLimit", laid_skolem_api_ErrLimit), ("skolem/api.ErrBudget", laid_skolem_api_ErrBudget), ("skolem/api.ErrRange", laid_skolem_api_ErrRange), ("skolem/api.ErrBlocks", laid_skolem_api_ErrBlocks), ("skolem/api.ErrProof", laid_skolem_api_ErrProof), ("skolem/api.ErrCert", laid_skolem_api_ErrCert)] }
def CertShapesSaid : Prop := certShapesRow.holds Tryz.pinned (OpenSpec.ofChange certShapesSpec)

/-- ITS FALSE NEIGHBOUR: 'it returns false'. Refute it at one input. -/
def certShapesWrong : ChangeSpec := { name := "certShapes", fn := fun _ => fun
  | [d] => { results := [.lit (.bool false)], args := [d] }
  | _ => none }
def CertShapesWrongFalsely : Prop := certShapesRow.holds Tryz.pinned (OpenSpec.ofChange certShapesWrong)

/- THE SECOND FORM. 'bulk': how many values and letters a reading holds, each counted each time it is reached (what is shared counts as often as it is met; a slice's spare places count too). A statement '..UptoSaid' is the law's where the arguments, and the package variables that the reading takes, are together of bulk at most 1048576: NARROWER than '..Said'. Prove '..Said' where nothing that the law and all that it calls make is longer than what came in: it says more and counts as full. Else prove '..UptoSaid'. A law counts once. -/
mutual
def uptoBulk {H : Type} : DataW H → Nat
  | .lit (.string bytes) => bytes.length + 1
  | .lit _ => 1
  | .nil => 1
  | .ptr d => uptoBulk d + 1
  | .slice elems spare => uptoBulkAll elems + uptoBulkAll spare + 1
  | .agg parts => uptoBulkAll parts + 1
  | .iface _ d => uptoBulk d + 1
  | .map entries => uptoBulkEntries entries + 1
  | .held _ => 1
def uptoBulkAll {H : Type} : List (DataW H) → Nat
  | [] => 0
  | d :: r => uptoBulk d + uptoBulkAll r
def uptoBulkEntries {H : Type} : List (Lit × DataW H) → Nat
  | [] => 0
  | x :: r => uptoBulkEntry x + uptoBulkEntries r
def uptoBulkEntry {H : Type} : Lit × DataW H → Nat
  | (.string bytes, d) => bytes.length + uptoBulk d + 1
  | (_, d) => uptoBulk d + 1
 end
def uptoSmall : (H : Type) → List (DataW H) → Bool := fun _ ds => decide (uptoBulkAll ds ≤ 1048576)
def OpenSpec.upto (s : _root_.Go.ChangeSpec) : _root_.Go.OpenSpec := { _root_.Go.OpenSpec.ofChange s with cond := some uptoSmall }

/-- 'skolemlaw26.CertClaims', WHERE WHAT IT READS IS OF BULK AT MOST 1048576: true; the input reads as it did. -/
def certClaimsUptoRow : OpenClaim := { program := "ytjagkijfngokaaagreatdoor", sum := "c9bcd52ccb70b8d406ec5a0d66a7b72e63a77c5d92d8b939df642167ce8b076b", func := "skolem/skolemlaw26.CertClaims", spec := "certClaims", inPlace := ["internal/abi.NoEscape", "internal/bytealg.MakeNoZero"], unfollowed := true, recurses := true, named := ["internal/strconv.uint64pow10", "math/bits.deBruijn32tab", "math/bits.deBruijn64tab", "skolem/api.ErrCert", "skolem/api.ErrRange", "skolem/api.ErrLimit", "skolem/api.ErrText", "skolem/api.ErrBudget", "skolem/api.ErrBlocks", "skolem/api.ErrProof"], plainKeys := false, apart := false, laid := [("math/bits.deBruijn32tab", laid_math_bits_deBruijn32tab), ("math/bits.deBruijn64tab", laid_math_bits_deBruijn64tab), ("internal/strconv.uint64pow10", laid_internal_strconv_uint64pow10), ("skolem/api.ErrText", laid_skolem_api_ErrText), ("skolem/api.ErrLimit", laid_skolem_api_ErrLimit), ("skolem/api.ErrBudget", laid_skolem_api_ErrBudget), ("skolem/api.ErrRange", laid_skolem_api_ErrRange), ("skolem/api.ErrBlocks", laid_skolem_api_ErrBlocks), ("skolem/api.ErrProof", laid_skolem_api_ErrProof), ("skolem/api.ErrCert", laid_skolem_api_ErrCert)], narrowed := true }
def CertClaimsUptoSaid : Prop := certClaimsUptoRow.holds Tryz.pinned (OpenSpec.upto certClaimsSpec)

/-- 'skolemlaw26.CertReads', WHERE WHAT IT READS IS OF BULK AT MOST 1048576: true; the input reads as it did. -/
def certReadsUptoRow : OpenClaim := { program := "ytjagkijfngokaaagreatdoor", sum := "c9bcd52ccb70b8d406ec5a0d66a7b72e63a77c5d92d8b939df642167ce8b076b", func := "skolem/skolemlaw26.CertReads", spec := "certReads", inPlace := ["internal/abi.NoEscape", "internal/bytealg.MakeNoZero", "internal/bytealg.IndexByte", "internal/reflectlite.ValueOf", "(internal/reflectlite.Value).Type", "(internal/reflectlite.Value).IsNil", "internal/reflectlite.TypeOf", "(internal/reflectlite.Value).Elem", "(internal/reflectlite.Value).Set"], unfollowed := true, recurses := true, named := ["internal/strconv.uint64pow10", "math/bits.deBruijn32tab", "math/bits.deBruijn64tab", "skolem/api.ErrLimit", "skolem/api.ErrText", "strconv.ErrSyntax", "strconv.ErrRange", "errors.errorType", "skolem/api.ErrBudget", "skolem/api.ErrRange", "skolem/api.ErrBlocks", "skolem/api.ErrProof", "skolem/api.ErrCert"], plainKeys := false, apart := false, laid := [("math/bits.deBruijn32tab", laid_math_bits_deBruijn32tab), ("math/bits.deBruijn64tab", laid_math_bits_deBruijn64tab), ("internal/strconv.uint64pow10", laid_internal_strconv_uint64pow10), ("errors.errorType", laid_errors_errorType), ("strconv.ErrRange", laid_strconv_ErrRange), ("strconv.ErrSyntax", laid_strconv_ErrSyntax), ("skolem/api.ErrText", laid_skolem_api_ErrText), ("skolem/api.ErrLimit", laid_skolem_api_ErrLimit), ("skolem/api.ErrBudget", laid_skolem_api_ErrBudget), ("skolem/api.ErrRange", laid_skolem_api_ErrRange), ("skolem/api.ErrBlocks", laid_skolem_api_ErrBlocks), ("skolem/api.ErrProof", laid_skolem_api_ErrProof), ("skolem/api.ErrCert", laid_skolem_api_ErrCert)], narrowed := true }
def CertReadsUptoSaid : Prop := certReadsUptoRow.holds Tryz.pinned (OpenSpec.upto certReadsSpec)

/-- 'skolemlaw26.CertBack', WHERE WHAT IT READS IS OF BULK AT MOST 1048576: true; the input reads as it did. -/
def certBackUptoRow : OpenClaim := { program := "ytjagkijfngokaaagreatdoor", sum := "c9bcd52ccb70b8d406ec5a0d66a7b72e63a77c5d92d8b939df642167ce8b076b", func := "skolem/skolemlaw26.CertBack", spec := "certBack", inPlace := ["internal/abi.NoEscape", "internal/bytealg.MakeNoZero", "internal/bytealg.IndexByte", "internal/reflectlite.ValueOf", "(internal/reflectlite.Value).Type", "(internal/reflectlite.Value).IsNil", "internal/reflectlite.TypeOf", "(internal/reflectlite.Value).Elem", "(internal/reflectlite.Value).Set"], unfollowed := true, recurses := true, named := ["internal/strconv.uint64pow10", "math/bits.deBruijn32tab", "math/bits.deBruijn64tab", "skolem/api.ErrLimit", "skolem/api.ErrText", "strconv.ErrSyntax", "strconv.ErrRange", "errors.errorType"], plainKeys := false, apart := false, laid := [("math/bits.deBruijn32tab", laid_math_bits_deBruijn32tab), ("math/bits.deBruijn64tab", laid_math_bits_deBruijn64tab), ("internal/strconv.uint64pow10", laid_internal_strconv_uint64pow10), ("errors.errorType", laid_errors_errorType), ("strconv.ErrRange", laid_strconv_ErrRange), ("strconv.ErrSyntax", laid_strconv_ErrSyntax), ("skolem/api.ErrText", laid_skolem_api_ErrText), ("skolem/api.ErrLimit", laid_skolem_api_ErrLimit)], narrowed := true }
def CertBackUptoSaid : Prop := certBackUptoRow.holds Tryz.pinned (OpenSpec.upto certBackSpec)

/-- 'skolemlaw26.CertShapes', WHERE WHAT IT READS IS OF BULK AT MOST 1048576: true; the input reads as it did. -/
def certShapesUptoRow : OpenClaim := { program := "ytjagkijfngokaaagreatdoor", sum := "c9bcd52ccb70b8d406ec5a0d66a7b72e63a77c5d92d8b939df642167ce8b076b", func := "skolem/skolemlaw26.CertShapes", spec := "certShapes", inPlace := ["internal/abi.NoEscape", "internal/bytealg.MakeNoZero", "internal/bytealg.IndexByte", "internal/reflectlite.ValueOf", "(internal/reflectlite.Value).Type", "(internal/reflectlite.Value).IsNil", "internal/reflectlite.TypeOf", "(internal/reflectlite.Value).Elem", "(internal/reflectlite.Value).Set"], unfollowed := true, recurses := true, named := ["internal/strconv.uint64pow10", "math/bits.deBruijn32tab", "math/bits.deBruijn64tab", "skolem/api.ErrLimit", "skolem/api.ErrText", "strconv.ErrSyntax", "strconv.ErrRange", "errors.errorType", "skolem/api.ErrBudget", "skolem/api.ErrRange", "skolem/api.ErrBlocks", "skolem/api.ErrProof", "skolem/api.ErrCert"], plainKeys := false, apart := false, laid := [("math/bits.deBruijn32tab", laid_math_bits_deBruijn32tab), ("math/bits.deBruijn64tab", laid_math_bits_deBruijn64tab), ("internal/strconv.uint64pow10", laid_internal_strconv_uint64pow10), ("errors.errorType", laid_errors_errorType), ("strconv.ErrRange", laid_strconv_ErrRange), ("strconv.ErrSyntax", laid_strconv_ErrSyntax), ("skolem/api.ErrText", laid_skolem_api_ErrText), ("skolem/api.ErrLimit", laid_skolem_api_ErrLimit), ("skolem/api.ErrBudget", laid_skolem_api_ErrBudget), ("skolem/api.ErrRange", laid_skolem_api_ErrRange), ("skolem/api.ErrBlocks", laid_skolem_api_ErrBlocks), ("skolem/api.ErrProof", laid_skolem_api_ErrProof), ("skolem/api.ErrCert", laid_skolem_api_ErrCert)], narrowed := true }
def CertShapesUptoSaid : Prop := certShapesUptoRow.holds Tryz.pinned (OpenSpec.upto certShapesSpec)

end Rows
end Go.Proofs.YtjagkijfngokaaaGreatDoor
