/-
  NARROWER THAN 'FOR EVERY INPUT', by the rows' own cells (each row's printed sentence says how): TypesUnifyExactly: laid · TypesUnifyMakesEqual: laid · TypesUnifyMostGeneral: laid · TypesUnifySymmetric: laid · TypesApply: laid · TypesNeeds: laid · TypesDescribe: laid · TypesMatch: laid · TypesCanon: laid.
  DERIVED. THE GIVEN ROWS OF THIS SEAT. 9 by the template 'for every input the law returns true; each argument reads behind the call as it read before'; 0 by the template 'total and deterministic' (their statements: YtdfdjgolijckfaaDoorTotals.lean).
  GIVEN WITH THE SEED: the statements are not yours to turn. If you find one false, say at which input.
  Laid BY PROGRAM, IN A SANDBOX (cutbox-rows.mjs): the forced cells as the released guide's own fill.sh prints them over the translation 58032de9a7f7c756… (all of the seat's roots in one cut). By AI agents, Wed Nov 11 2026. No macro, syntax, notation, axiom, sorry.
-/
import Derived.Test.YtdfdjgolijckfaaDoorChecked
import GoSem.Claim
import GoSem.ClaimJoined
import GoSem.ClaimMapViews
import Derived.JoinedTies
import Derived.KernelRfl
namespace Go.Proofs.YtdfdjgolijckfaaDoor
/- THE CELL 'sum', in the pinned program and in every row, IS THE sha256 OF THE DUMP (.gsa) THAT YtdfdjgolijckfaaDoorProg.lean LOADS. Nothing in Lean hashes anything: it is a label: what it is worth is what the hold of that sum in a sandbox is worth. -/
noncomputable def Tryd.pinned : Pinned := { name := "ytdfdjgolijckfaadoor", sum := "58032de9a7f7c75657f3d4fee0d67e89d3ebcfa4a7e5ca0e0163dbaa98d9d931", checked := Tryd.checked }
namespace Rows
def none {H : Type} : Left H := { results := [], args := [] }

/- WHAT THE LISTED PACKAGE-LEVEL VARIABLES READ AS WHEN THE CALL BEGINS. Each datum BY PROGRAM (the guide's laid-datum.mjs) off the statement by which the dump's own 'gosem.cut.vars' lays the variable. In a bare row this is a premise. The card (YtdfdjgolijckfaaDoorCards.lean) ties it to the program's text. -/
def laid_math_bits_deBruijn32tab {H : Type} : DataW H := .agg [.lit (.int .u8 0), .lit (.int .u8 1), .lit (.int .u8 28), .lit (.int .u8 2), .lit (.int .u8 29), .lit (.int .u8 14), .lit (.int .u8 24), .lit (.int .u8 3), .lit (.int .u8 30), .lit (.int .u8 22), .lit (.int .u8 20), .lit (.int .u8 15), .lit (.int .u8 25), .lit (.int .u8 17), .lit (.int .u8 4), .lit (.int .u8 8), .lit (.int .u8 31), .lit (.int .u8 27), .lit (.int .u8 13), .lit (.int .u8 23), .lit (.int .u8 21), .lit (.int .u8 19), .lit (.int .u8 16), .lit (.int .u8 7), .lit (.int .u8 26), .lit (.int .u8 12), .lit (.int .u8 18), .lit (.int .u8 6), .lit (.int .u8 11), .lit (.int .u8 5), .lit (.int .u8 10), .lit (.int .u8 9)]
def laid_math_bits_deBruijn64tab {H : Type} : DataW H := .agg [.lit (.int .u8 0), .lit (.int .u8 1), .lit (.int .u8 56), .lit (.int .u8 2), .lit (.int .u8 57), .lit (.int .u8 49), .lit (.int .u8 28), .lit (.int .u8 3), .lit (.int .u8 61), .lit (.int .u8 58), .lit (.int .u8 42), .lit (.int .u8 50), .lit (.int .u8 38), .lit (.int .u8 29), .lit (.int .u8 17), .lit (.int .u8 4), .lit (.int .u8 62), .lit (.int .u8 47), .lit (.int .u8 59), .lit (.int .u8 36), .lit (.int .u8 45), .lit (.int .u8 43), .lit (.int .u8 51), .lit (.int .u8 22), .lit (.int .u8 53), .lit (.int .u8 39), .lit (.int .u8 33), .lit (.int .u8 30), .lit (.int .u8 24), .lit (.int .u8 18), .lit (.int .u8 12), .lit (.int .u8 5), .lit (.int .u8 63), .lit (.int .u8 55), .lit (.int .u8 48), .lit (.int .u8 27), .lit (.int .u8 60), .lit (.int .u8 41), .lit (.int .u8 37), .lit (.int .u8 16), .lit (.int .u8 46), .lit (.int .u8 35), .lit (.int .u8 44), .lit (.int .u8 21), .lit (.int .u8 52), .lit (.int .u8 32), .lit (.int .u8 23), .lit (.int .u8 11), .lit (.int .u8 54), .lit (.int .u8 26), .lit (.int .u8 40), .lit (.int .u8 15), .lit (.int .u8 34), .lit (.int .u8 20), .lit (.int .u8 31), .lit (.int .u8 10), .lit (.int .u8 25), .lit (.int .u8 14), .lit (.int .u8 19), .lit (.int .u8 9), .lit (.int .u8 13), .lit (.int .u8 8), .lit (.int .u8 7), .lit (.int .u8 6)]
def laid_internal_strconv_uint64pow10 {H : Type} : DataW H := .agg [.lit (.int .u64 1), .lit (.int .u64 10), .lit (.int .u64 100), .lit (.int .u64 1000), .lit (.int .u64 10000), .lit (.int .u64 100000), .lit (.int .u64 1000000), .lit (.int .u64 10000000), .lit (.int .u64 100000000), .lit (.int .u64 1000000000), .lit (.int .u64 10000000000), .lit (.int .u64 100000000000), .lit (.int .u64 1000000000000), .lit (.int .u64 10000000000000), .lit (.int .u64 100000000000000), .lit (.int .u64 1000000000000000), .lit (.int .u64 10000000000000000), .lit (.int .u64 100000000000000000), .lit (.int .u64 1000000000000000000), .lit (.int .u64 10000000000000000000)]

/-- 'cspchecklaw7.TypesUnifyExactly': WHATEVER THE INPUT: true; the input reads as it did. -/
def typesUnifyExactlySpec : ChangeSpec := { name := "typesUnifyExactly", fn := fun _ => fun
  | [d1, d2, d3, d4] => { results := [.lit (.bool true)], args := [d1, d2, d3, d4] }
  | _ => none }
def typesUnifyExactlyRow : OpenClaim := { program := "ytdfdjgolijckfaadoor", sum := "58032de9a7f7c75657f3d4fee0d67e89d3ebcfa4a7e5ca0e0163dbaa98d9d931", func := "cspcheck/cspchecklaw7.TypesUnifyExactly", spec := "typesUnifyExactly", inPlace := ["internal/abi.NoEscape", "internal/bytealg.MakeNoZero"], unfollowed := true, recurses := true, named := ["internal/strconv.uint64pow10", "math/bits.deBruijn32tab", "math/bits.deBruijn64tab"], plainKeys := false, apart := false, laid := [("math/bits.deBruijn32tab", laid_math_bits_deBruijn32tab), ("math/bits.deBruijn64tab", laid_math_bits_deBruijn64tab), ("internal/strconv.uint64pow10", laid_internal_strconv_uint64pow10)] }
def TypesUnifyExactlySaid : Prop := typesUnifyExactlyRow.holds Tryd.pinned (OpenSpec.ofChange typesUnifyExactlySpec)

/-- ITS FALSE NEIGHBOUR: 'it returns false'. Refute it at one input. -/
def typesUnifyExactlyWrong : ChangeSpec := { name := "typesUnifyExactly", fn := fun _ => fun
  | [d1, d2, d3, d4] => { results := [.lit (.bool false)], args := [d1, d2, d3, d4] }
  | _ => none }
def TypesUnifyExactlyWrongFalsely : Prop := typesUnifyExactlyRow.holds Tryd.pinned (OpenSpec.ofChange typesUnifyExactlyWrong)

/-- 'cspchecklaw7.TypesUnifyMakesEqual': WHATEVER THE INPUT: true; the input reads as it did. -/
def typesUnifyMakesEqualSpec : ChangeSpec := { name := "typesUnifyMakesEqual", fn := fun _ => fun
  | [d1, d2] => { results := [.lit (.bool true)], args := [d1, d2] }
  | _ => none }
def typesUnifyMakesEqualRow : OpenClaim := { program := "ytdfdjgolijckfaadoor", sum := "58032de9a7f7c75657f3d4fee0d67e89d3ebcfa4a7e5ca0e0163dbaa98d9d931", func := "cspcheck/cspchecklaw7.TypesUnifyMakesEqual", spec := "typesUnifyMakesEqual", inPlace := ["internal/abi.NoEscape", "internal/bytealg.MakeNoZero"], unfollowed := true, recurses := true, named := ["internal/strconv.uint64pow10", "math/bits.deBruijn32tab", "math/bits.deBruijn64tab"], plainKeys := false, apart := false, laid := [("math/bits.deBruijn32tab", laid_math_bits_deBruijn32tab), ("math/bits.deBruijn64tab", laid_math_bits_deBruijn64tab), ("internal/strconv.uint64pow10", laid_internal_strconv_uint64pow10)] }
def TypesUnifyMakesEqualSaid : Prop := typesUnifyMakesEqualRow.holds Tryd.pinned (OpenSpec.ofChange typesUnifyMakesEqualSpec)

/-- ITS FALSE NEIGHBOUR: 'it returns false'. Refute it at one input. -/
def typesUnifyMakesEqualWrong : ChangeSpec := { name := "typesUnifyMakesEqual", fn := fun _ => fun
  | [d1, d2] => { results := [.lit (.bool false)], args := [d1, d2] }
  | _ => none }
def TypesUnifyMakesEqualWrongFalsely : Prop := typesUnifyMakesEqualRow.holds Tryd.pinned (OpenSpec.ofChange typesUnifyMakesEqualWrong)

/-- 'cspchecklaw7.TypesUnifyMostGeneral': WHATEVER THE INPUT: true; the input reads as it did. -/
def typesUnifyMostGeneralSpec : ChangeSpec := { name := "typesUnifyMostGeneral", fn := fun _ => fun
  | [d1, d2, d3] => { results := [.lit (.bool true)], args := [d1, d2, d3] }
  | _ => none }
def typesUnifyMostGeneralRow : OpenClaim := { program := "ytdfdjgolijckfaadoor", sum := "58032de9a7f7c75657f3d4fee0d67e89d3ebcfa4a7e5ca0e0163dbaa98d9d931", func := "cspcheck/cspchecklaw7.TypesUnifyMostGeneral", spec := "typesUnifyMostGeneral", inPlace := ["internal/abi.NoEscape", "internal/bytealg.MakeNoZero"], unfollowed := true, recurses := true, named := ["internal/strconv.uint64pow10", "math/bits.deBruijn32tab", "math/bits.deBruijn64tab"], plainKeys := false, apart := false, laid := [("math/bits.deBruijn32tab", laid_math_bits_deBruijn32tab), ("math/bits.deBruijn64tab", laid_math_bits_deBruijn64tab), ("internal/strconv.uint64pow10", laid_internal_strconv_uint64pow10)] }
def TypesUnifyMostGeneralSaid : Prop := typesUnifyMostGeneralRow.holds Tryd.pinned (OpenSpec.ofChange typesUnifyMostGeneralSpec)

/-- ITS FALSE NEIGHBOUR: 'it returns false'. Refute it at one input. -/
def typesUnifyMostGeneralWrong : ChangeSpec := { name := "typesUnifyMostGeneral", fn := fun _ => fun
  | [d1, d2, d3] => { results := [.lit (.bool false)], args := [d1, d2, d3] }
  | _ => none }
def TypesUnifyMostGeneralWrongFalsely : Prop := typesUnifyMostGeneralRow.holds Tryd.pinned (OpenSpec.ofChange typesUnifyMostGeneralWrong)

/-- 'cspchecklaw7.TypesUnifySymmetric': WHATEVER THE INPUT: true; the input reads as it did. -/
def typesUnifySymmetricSpec : ChangeSpec := { name := "typesUnifySymmetric", fn := fun _ => fun
  | [d1, d2] => { results := [.lit (.bool true)], args := [d1, d2] }
  | _ => none }
def typesUnifySymmetricRow : OpenClaim := { program := "ytdfdjgolijckfaadoor", sum := "58032de9a7f7c75657f3d4fee0d67e89d3ebcfa4a7e5ca0e0163dbaa98d9d931", func := "cspcheck/cspchecklaw7.TypesUnifySymmetric", spec := "typesUnifySymmetric", inPlace := ["internal/abi.NoEscape", "internal/bytealg.MakeNoZero"], unfollowed := true, recurses := true, named := ["internal/strconv.uint64pow10", "math/bits.deBruijn32tab", "math/bits.deBruijn64tab"], plainKeys := false, apart := false, laid := [("math/bits.deBruijn32tab", laid_math_bits_deBruijn32tab), ("math/bits.deBruijn64tab", laid_math_bits_deBruijn64tab), ("internal/strconv.uint64pow10", laid_internal_strconv_uint64pow10)] }
def TypesUnifySymmetricSaid : Prop := typesUnifySymmetricRow.holds Tryd.pinned (OpenSpec.ofChange typesUnifySymmetricSpec)

/-- ITS FALSE NEIGHBOUR: 'it returns false'. Refute it at one input. -/
def typesUnifySymmetricWrong : ChangeSpec := { name := "typesUnifySymmetric", fn := fun _ => fun
  | [d1, d2] => { results := [.lit (.bool false)], args := [d1, d2] }
  | _ => none }
def TypesUnifySymmetricWrongFalsely : Prop := typesUnifySymmetricRow.holds Tryd.pinned (OpenSpec.ofChange typesUnifySymmetricWrong)

/-- 'cspchecklaw7.TypesApply': WHATEVER THE INPUT: true; the input reads as it did. -/
def typesApplySpec : ChangeSpec := { name := "typesApply", fn := fun _ => fun
  | [d1, d2, d3, d4] => { results := [.lit (.bool true)], args := [d1, d2, d3, d4] }
  | _ => none }
def typesApplyRow : OpenClaim := { program := "ytdfdjgolijckfaadoor", sum := "58032de9a7f7c75657f3d4fee0d67e89d3ebcfa4a7e5ca0e0163dbaa98d9d931", func := "cspcheck/cspchecklaw7.TypesApply", spec := "typesApply", inPlace := ["internal/abi.NoEscape", "internal/bytealg.MakeNoZero"], unfollowed := true, recurses := true, named := ["internal/strconv.uint64pow10", "math/bits.deBruijn32tab", "math/bits.deBruijn64tab"], plainKeys := false, apart := false, laid := [("math/bits.deBruijn32tab", laid_math_bits_deBruijn32tab), ("math/bits.deBruijn64tab", laid_math_bits_deBruijn64tab), ("internal/strconv.uint64pow10", laid_internal_strconv_uint64pow10)] }
def TypesApplySaid : Prop := typesApplyRow.holds Tryd.pinned (OpenSpec.ofChange typesApplySpec)

/-- ITS FALSE NEIGHBOUR: 'it returns false'. Refute it at one input. -/
def typesApplyWrong : ChangeSpec := { name := "typesApply", fn := fun _ => fun
  | [d1, d2, d3, d4] => { results := [.lit (.bool false)], args := [d1, d2, d3, d4] }
  | _ => none }
def TypesApplyWrongFalsely : Prop := typesApplyRow.holds Tryd.pinned (OpenSpec.ofChange typesApplyWrong)

/-- 'cspchecklaw7.TypesNeeds': WHATEVER THE INPUT: true; the input reads as it did. -/
def typesNeedsSpec : ChangeSpec := { name := "typesNeeds", fn := fun _ => fun
  | [d1, d2, d3] => { results := [.lit (.bool true)], args := [d1, d2, d3] }
  | _ => none }
def typesNeedsRow : OpenClaim := { program := "ytdfdjgolijckfaadoor", sum := "58032de9a7f7c75657f3d4fee0d67e89d3ebcfa4a7e5ca0e0163dbaa98d9d931", func := "cspcheck/cspchecklaw7.TypesNeeds", spec := "typesNeeds", inPlace := ["internal/abi.NoEscape", "internal/bytealg.MakeNoZero"], unfollowed := true, recurses := true, named := ["internal/strconv.uint64pow10", "math/bits.deBruijn32tab", "math/bits.deBruijn64tab"], plainKeys := false, apart := false, laid := [("math/bits.deBruijn32tab", laid_math_bits_deBruijn32tab), ("math/bits.deBruijn64tab", laid_math_bits_deBruijn64tab), ("internal/strconv.uint64pow10", laid_internal_strconv_uint64pow10)] }
def TypesNeedsSaid : Prop := typesNeedsRow.holds Tryd.pinned (OpenSpec.ofChange typesNeedsSpec)

/-- ITS FALSE NEIGHBOUR: 'it returns false'. Refute it at one input. -/
def typesNeedsWrong : ChangeSpec := { name := "typesNeeds", fn := fun _ => fun
  | [d1, d2, d3] => { results := [.lit (.bool false)], args := [d1, d2, d3] }
  | _ => none }
def TypesNeedsWrongFalsely : Prop := typesNeedsRow.holds Tryd.pinned (OpenSpec.ofChange typesNeedsWrong)

/-- 'cspchecklaw7.TypesDescribe': WHATEVER THE INPUT: true; the input reads as it did. -/
def typesDescribeSpec : ChangeSpec := { name := "typesDescribe", fn := fun _ => fun
  | [d1, d2, d3] => { results := [.lit (.bool true)], args := [d1, d2, d3] }
  | _ => none }
def typesDescribeRow : OpenClaim := { program := "ytdfdjgolijckfaadoor", sum := "58032de9a7f7c75657f3d4fee0d67e89d3ebcfa4a7e5ca0e0163dbaa98d9d931", func := "cspcheck/cspchecklaw7.TypesDescribe", spec := "typesDescribe", inPlace := ["internal/abi.NoEscape", "internal/bytealg.MakeNoZero"], unfollowed := true, recurses := true, named := ["internal/strconv.uint64pow10", "math/bits.deBruijn32tab", "math/bits.deBruijn64tab"], plainKeys := false, apart := false, laid := [("math/bits.deBruijn32tab", laid_math_bits_deBruijn32tab), ("math/bits.deBruijn64tab", laid_math_bits_deBruijn64tab), ("internal/strconv.uint64pow10", laid_internal_strconv_uint64pow10)] }
def TypesDescribeSaid : Prop := typesDescribeRow.holds Tryd.pinned (OpenSpec.ofChange typesDescribeSpec)

/-- ITS FALSE NEIGHBOUR: 'it returns false'. Refute it at one input. -/
def typesDescribeWrong : ChangeSpec := { name := "typesDescribe", fn := fun _ => fun
  | [d1, d2, d3] => { results := [.lit (.bool false)], args := [d1, d2, d3] }
  | _ => none }
def TypesDescribeWrongFalsely : Prop := typesDescribeRow.holds Tryd.pinned (OpenSpec.ofChange typesDescribeWrong)

/-- 'cspchecklaw7.TypesMatch': WHATEVER THE INPUT: true; the input reads as it did. -/
def typesMatchSpec : ChangeSpec := { name := "typesMatch", fn := fun _ => fun
  | [d1, d2, d3, d4] => { results := [.lit (.bool true)], args := [d1, d2, d3, d4] }
  | _ => none }
def typesMatchRow : OpenClaim := { program := "ytdfdjgolijckfaadoor", sum := "58032de9a7f7c75657f3d4fee0d67e89d3ebcfa4a7e5ca0e0163dbaa98d9d931", func := "cspcheck/cspchecklaw7.TypesMatch", spec := "typesMatch", inPlace := ["internal/abi.NoEscape", "internal/bytealg.MakeNoZero"], unfollowed := true, recurses := true, named := ["internal/strconv.uint64pow10", "math/bits.deBruijn32tab", "math/bits.deBruijn64tab"], plainKeys := false, apart := false, laid := [("math/bits.deBruijn32tab", laid_math_bits_deBruijn32tab), ("math/bits.deBruijn64tab", laid_math_bits_deBruijn64tab), ("internal/strconv.uint64pow10", laid_internal_strconv_uint64pow10)] }
def TypesMatchSaid : Prop := typesMatchRow.holds Tryd.pinned (OpenSpec.ofChange typesMatchSpec)

/-- ITS FALSE NEIGHBOUR: 'it returns false'. Refute it at one input. -/
def typesMatchWrong : ChangeSpec := { name := "typesMatch", fn := fun _ => fun
  | [d1, d2, d3, d4] => { results := [.lit (.bool false)], args := [d1, d2, d3, d4] }
  | _ => none }
def TypesMatchWrongFalsely : Prop := typesMatchRow.holds Tryd.pinned (OpenSpec.ofChange typesMatchWrong)

/-- 'cspchecklaw7.TypesCanon': WHATEVER THE INPUT: true; the input reads as it did. -/
def typesCanonSpec : ChangeSpec := { name := "typesCanon", fn := fun _ => fun
  | [d1, d2] => { results := [.lit (.bool true)], args := [d1, d2] }
  | _ => none }
def typesCanonRow : OpenClaim := { program := "ytdfdjgolijckfaadoor", sum := "58032de9a7f7c75657f3d4fee0d67e89d3ebcfa4a7e5ca0e0163dbaa98d9d931", func := "cspcheck/cspchecklaw7.TypesCanon", spec := "typesCanon", inPlace := ["internal/abi.NoEscape", "internal/bytealg.MakeNoZero"], unfollowed := true, recurses := true, named := ["internal/strconv.uint64pow10", "math/bits.deBruijn32tab", "math/bits.deBruijn64tab"], plainKeys := false, apart := false, laid := [("math/bits.deBruijn32tab", laid_math_bits_deBruijn32tab), ("math/bits.deBruijn64tab", laid_math_bits_deBruijn64tab), ("internal/strconv.uint64pow10", laid_internal_strconv_uint64pow10)] }
def TypesCanonSaid : Prop := typesCanonRow.holds Tryd.pinned (OpenSpec.ofChange typesCanonSpec)

/-- ITS FALSE NEIGHBOUR: 'it returns false'. Refute it at one input. -/
def typesCanonWrong : ChangeSpec := { name := "typesCanon", fn := fun _ => fun
  | [d1, d2] => { results := [.lit (.bool false)], args := [d1, d2] }
  | _ => none }
def TypesCanonWrongFalsely : Prop := typesCanonRow.holds Tryd.pinned (OpenSpec.ofChange typesCanonWrong)

/- THE SECOND FORM. 'bulk': how many values and letters a reading holds, each counted each time it is reached (what is shared counts as often as it is met; a slice's spare places count too). A statement '..UptoSaid' is the law's where the arguments, and the package variables that the reading takes, are together of bulk at most 1048576: NARROWER than '..Said'. Prove '..Said' where nothing that the law and all that it calls make is longer than what came in: it says more and counts as full. Else prove '..UptoSaid'. A law counts once. -/
mutual
def uptoBulk {H : Type} : DataW H → Nat
  | .lit (.string bytes) => bytes.length + 1
  | .lit _ => 1
  | .nil => 1
  | .ptr d => uptoBulk d + 1
  | .slice elems spare => uptoBulkAll elems + uptoBulkAll spare + 1
  | .agg parts => uptoBulkAll parts + 1
  | .iface _ d => uptoBulk d + 1
  | .map entries => uptoBulkEntries entries + 1
  | .held _ => 1
def uptoBulkAll {H : Type} : List (DataW H) → Nat
  | [] => 0
  | d :: r => uptoBulk d + uptoBulkAll r
def uptoBulkEntries {H : Type} : List (Lit × DataW H) → Nat
  | [] => 0
  | x :: r => uptoBulkEntry x + uptoBulkEntries r
def uptoBulkEntry {H : Type} : Lit × DataW H → Nat
  | (.string bytes, d) => bytes.length + uptoBulk d + 1
  | (_, d) => uptoBulk d + 1
 end
def uptoSmall : (H : Type) → List (DataW H) → Bool := fun _ ds => decide (uptoBulkAll ds ≤ 1048576)
def OpenSpec.upto (s : _root_.Go.ChangeSpec) : _root_.Go.OpenSpec := { _root_.Go.OpenSpec.ofChange s with cond := some uptoSmall }

/-- 'cspchecklaw7.TypesUnifyExactly', WHERE WHAT IT READS IS OF BULK AT MOST 1048576: true; the input reads as it did. -/
def typesUnifyExactlyUptoRow : OpenClaim := { program := "ytdfdjgolijckfaadoor", sum := "58032de9a7f7c75657f3d4fee0d67e89d3ebcfa4a7e5ca0e0163dbaa98d9d931", func := "cspcheck/cspchecklaw7.TypesUnifyExactly", spec := "typesUnifyExactly", inPlace := ["internal/abi.NoEscape", "internal/bytealg.MakeNoZero"], unfollowed := true, recurses := true, named := ["internal/strconv.uint64pow10", "math/bits.deBruijn32tab", "math/bits.deBruijn64tab"], plainKeys := false, apart := false, laid := [("math/bits.deBruijn32tab", laid_math_bits_deBruijn32tab), ("math/bits.deBruijn64tab", laid_math_bits_deBruijn64tab), ("internal/strconv.uint64pow10", laid_internal_strconv_uint64pow10)], narrowed := true }
def TypesUnifyExactlyUptoSaid : Prop := typesUnifyExactlyUptoRow.holds Tryd.pinned (OpenSpec.upto typesUnifyExactlySpec)

/-- 'cspchecklaw7.TypesUnifyMakesEqual', WHERE WHAT IT READS IS OF BULK AT MOST 1048576: true; the input reads as it did. -/
def typesUnifyMakesEqualUptoRow : OpenClaim := { program := "ytdfdjgolijckfaadoor", sum := "58032de9a7f7c75657f3d4fee0d67e89d3ebcfa4a7e5ca0e0163dbaa98d9d931", func := "cspcheck/cspchecklaw7.TypesUnifyMakesEqual", spec := "typesUnifyMakesEqual", inPlace := ["internal/abi.NoEscape", "internal/bytealg.MakeNoZero"], unfollowed := true, recurses := true, named := ["internal/strconv.uint64pow10", "math/bits.deBruijn32tab", "math/bits.deBruijn64tab"], plainKeys := false, apart := false, laid := [("math/bits.deBruijn32tab", laid_math_bits_deBruijn32tab), ("math/bits.deBruijn64tab", laid_math_bits_deBruijn64tab), ("internal/strconv.uint64pow10", laid_internal_strconv_uint64pow10)], narrowed := true }
def TypesUnifyMakesEqualUptoSaid : Prop := typesUnifyMakesEqualUptoRow.holds Tryd.pinned (OpenSpec.upto typesUnifyMakesEqualSpec)

/-- 'cspchecklaw7.TypesUnifyMostGeneral', WHERE WHAT IT READS IS OF BULK AT MOST 1048576: true; the input reads as it did. -/
def typesUnifyMostGeneralUptoRow : OpenClaim := { program := "ytdfdjgolijckfaadoor", sum := "58032de9a7f7c75657f3d4fee0d67e89d3ebcfa4a7e5ca0e0163dbaa98d9d931", func := "cspcheck/cspchecklaw7.TypesUnifyMostGeneral", spec := "typesUnifyMostGeneral", inPlace := ["internal/abi.NoEscape", "internal/bytealg.MakeNoZero"], unfollowed := true, recurses := true, named := ["internal/strconv.uint64pow10", "math/bits.deBruijn32tab", "math/bits.deBruijn64tab"], plainKeys := false, apart := false, laid := [("math/bits.deBruijn32tab", laid_math_bits_deBruijn32tab), ("math/bits.deBruijn64tab", laid_math_bits_deBruijn64tab), ("internal/strconv.uint64pow10", laid_internal_strconv_uint64pow10)], narrowed := true }
def TypesUnifyMostGeneralUptoSaid : Prop := typesUnifyMostGeneralUptoRow.holds Tryd.pinned (OpenSpec.upto typesUnifyMostGeneralSpec)

/-- 'cspchecklaw7.TypesUnifySymmetric', WHERE WHAT IT READS IS OF BULK AT MOST 1048576: true; the input reads as it did. -/
def typesUnifySymmetricUptoRow : OpenClaim := { program := "ytdfdjgolijckfaadoor", sum := "58032de9a7f7c75657f3d4fee0d67e89d3ebcfa4a7e5ca0e0163dbaa98d9d931", func := "cspcheck/cspchecklaw7.TypesUnifySymmetric", spec := "typesUnifySymmetric", inPlace := ["internal/abi.NoEscape", "internal/bytealg.MakeNoZero"], unfollowed := true, recurses := true, named := ["internal/strconv.uint64pow10", "math/bits.deBruijn32tab", "math/bits.deBruijn64tab"], plainKeys := false, apart := false, laid := [("math/bits.deBruijn32tab", laid_math_bits_deBruijn32tab), ("math/bits.deBruijn64tab", laid_math_bits_deBruijn64tab), ("internal/strconv.uint64pow10", laid_internal_strconv_uint64pow10)], narrowed := true }
def TypesUnifySymmetricUptoSaid : Prop := typesUnifySymmetricUptoRow.holds Tryd.pinned (OpenSpec.upto typesUnifySymmetricSpec)

/-- 'cspchecklaw7.TypesApply', WHERE WHAT IT READS IS OF BULK AT MOST 1048576: true; the input reads as it did. -/
def typesApplyUptoRow : OpenClaim := { program := "ytdfdjgolijckfaadoor", sum := "58032de9a7f7c75657f3d4fee0d67e89d3ebcfa4a7e5ca0e0163dbaa98d9d931", func := "cspcheck/cspchecklaw7.TypesApply", spec := "typesApply", inPlace := ["internal/abi.NoEscape", "internal/bytealg.MakeNoZero"], unfollowed := true, recurses := true, named := ["internal/strconv.uint64pow10", "math/bits.deBruijn32tab", "math/bits.deBruijn64tab"], plainKeys := false, apart := false, laid := [("math/bits.deBruijn32tab", laid_math_bits_deBruijn32tab), ("math/bits.deBruijn64tab", laid_math_bits_deBruijn64tab), ("internal/strconv.uint64pow10", laid_internal_strconv_uint64pow10)], narrowed := true }
def TypesApplyUptoSaid : Prop := typesApplyUptoRow.holds Tryd.pinned (OpenSpec.upto typesApplySpec)

/-- 'cspchecklaw7.TypesNeeds', WHERE WHAT IT READS IS OF BULK AT MOST 1048576: true; the input reads as it did. -/
def typesNeedsUptoRow : OpenClaim := { program := "ytdfdjgolijckfaadoor", sum := "58032de9a7f7c75657f3d4fee0d67e89d3ebcfa4a7e5ca0e0163dbaa98d9d931", func := "cspcheck/cspchecklaw7.TypesNeeds", spec := "typesNeeds", inPlace := ["internal/abi.NoEscape", "internal/bytealg.MakeNoZero"], unfollowed := true, recurses := true, named := ["internal/strconv.uint64pow10", "math/bits.deBruijn32tab", "math/bits.deBruijn64tab"], plainKeys := false, apart := false, laid := [("math/bits.deBruijn32tab", laid_math_bits_deBruijn32tab), ("math/bits.deBruijn64tab", laid_math_bits_deBruijn64tab), ("internal/strconv.uint64pow10", laid_internal_strconv_uint64pow10)], narrowed := true }
def TypesNeedsUptoSaid : Prop := typesNeedsUptoRow.holds Tryd.pinned (OpenSpec.upto typesNeedsSpec)

/-- 'cspchecklaw7.TypesDescribe', WHERE WHAT IT READS IS OF BULK AT MOST 1048576: true; the input reads as it did. -/
def typesDescribeUptoRow : OpenClaim := { program := "ytdfdjgolijckfaadoor", sum := "58032de9a7f7c75657f3d4fee0d67e89d3ebcfa4a7e5ca0e0163dbaa98d9d931", func := "cspcheck/cspchecklaw7.TypesDescribe", spec := "typesDescribe", inPlace := ["internal/abi.NoEscape", "internal/bytealg.MakeNoZero"], unfollowed := true, recurses := true, named := ["internal/strconv.uint64pow10", "math/bits.deBruijn32tab", "math/bits.deBruijn64tab"], plainKeys := false, apart := false, laid := [("math/bits.deBruijn32tab", laid_math_bits_deBruijn32tab), ("math/bits.deBruijn64tab", laid_math_bits_deBruijn64tab), ("internal/strconv.uint64pow10", laid_internal_strconv_uint64pow10)], narrowed := true }
def TypesDescribeUptoSaid : Prop := typesDescribeUptoRow.holds Tryd.pinned (OpenSpec.upto typesDescribeSpec)

/-- 'cspchecklaw7.TypesMatch', WHERE WHAT IT READS IS OF BULK AT MOST 1048576: true; the input reads as it did. -/
def typesMatchUptoRow : OpenClaim := { program := "ytdfdjgolijckfaadoor", sum := "58032de9a7f7c75657f3d4fee0d67e89d3ebcfa4a7e5ca0e0163dbaa98d9d931", func := "cspcheck/cspchecklaw7.TypesMatch", spec := "typesMatch", inPlace := ["internal/abi.NoEscape", "internal/bytealg.MakeNoZero"], unfollowed := true, recurses := true, named := ["internal/strconv.uint64pow10", "math/bits.deBruijn32tab", "math/bits.deBruijn64tab"], plainKeys := false, apart := false, laid := [("math/bits.deBruijn32tab", laid_math_bits_deBruijn32tab), ("math/bits.deBruijn64tab", laid_math_bits_deBruijn64tab), ("internal/strconv.uint64pow10", laid_internal_strconv_uint64pow10)], narrowed := true }
def TypesMatchUptoSaid : Prop := typesMatchUptoRow.holds Tryd.pinned (OpenSpec.upto typesMatchSpec)

/-- 'cspchecklaw7.TypesCanon', WHERE WHAT IT READS IS OF BULK AT MOST 1048576: true; the input reads as it did. -/
def typesCanonUptoRow : OpenClaim := { program := "ytdfdjgolijckfaadoor", sum := "58032de9a7f7c75657f3d4fee0d67e89d3ebcfa4a7e5ca0e0163dbaa98d9d931", func := "cspcheck/cspchecklaw7.TypesCanon", spec := "typesCanon", inPlace := ["internal/abi.NoEscape", "internal/bytealg.MakeNoZero"], unfollowed := true, recurses := true, named := ["internal/strconv.uint64pow10", "math/bits.deBruijn32tab", "math/bits.deBruijn64tab"], plainKeys := false, apart := false, laid := [("math/bits.deBruijn32tab", laid_math_bits_deBruijn32tab), ("math/bits.deBruijn64tab", laid_math_bits_deBruijn64tab), ("internal/strconv.uint64pow10", laid_internal_strconv_uint64pow10)], narrowed := true }
def TypesCanonUptoSaid : Prop := typesCanonUptoRow.holds Tryd.pinned (OpenSpec.upto typesCanonSpec)

end Rows
end Go.Proofs.YtdfdjgolijckfaaDoor
