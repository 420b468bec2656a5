/-
  No cell of these rows narrows 'for every input' (looked for: loops, veiled, ifaces, maps, wideKeys, modest, calm, conditions, laid).
  DERIVED. THE GIVEN ROWS OF THIS SEAT. 7 by the template 'for every input the law returns true; each argument reads behind the call as it read before'; 0 by the template 'total and deterministic' (their statements: YtkplmgdmkfgjhaaTotals.lean).
  GIVEN WITH THE SEED: the statements are not yours to turn. If you find one false, say at which input.
  Laid BY PROGRAM, IN A SANDBOX (cutbox-rows.mjs): the forced cells as the released guide's own fill.sh prints them over the translation c8289ced8624591a… (all of the seat's roots in one cut). By AI agents, Wed Nov 11 2026. No macro, syntax, notation, axiom, sorry.
-/
import Derived.Test.YtkplmgdmkfgjhaaChecked
import GoSem.Claim
import GoSem.ClaimJoined
import GoSem.ClaimMapViews
import Derived.JoinedTies
import Derived.KernelRfl
namespace Go.Proofs.Ytkplmgdmkfgjhaa
/- THE CELL 'sum', in the pinned program and in every row, IS THE sha256 OF THE DUMP (.gsa) THAT YtkplmgdmkfgjhaaProg.lean LOADS. Nothing in Lean hashes anything: it is a label: what it is worth is what the hold of that sum in a sandbox is worth. -/
noncomputable def Try.pinned : Pinned := { name := "ytkplmgdmkfgjhaa", sum := "c8289ced8624591ae4aaa2d89052dead3f6caa31a953cd1ef7b1b843d59c54cb", checked := Try.checked }
namespace Rows
def none {H : Type} : Left H := { results := [], args := [] }

/-- 'cspchecklaw36.FrontierEncode': WHATEVER THE INPUT: true; the input reads as it did. -/
def frontierEncodeSpec : ChangeSpec := { name := "frontierEncode", fn := fun _ => fun
  | [d1, d2] => { results := [.lit (.bool true)], args := [d1, d2] }
  | _ => none }
def frontierEncodeRow : OpenClaim := { program := "ytkplmgdmkfgjhaa", sum := "c8289ced8624591ae4aaa2d89052dead3f6caa31a953cd1ef7b1b843d59c54cb", func := "cspcheck/cspchecklaw36.FrontierEncode", spec := "frontierEncode", apart := false }
def FrontierEncodeSaid : Prop := frontierEncodeRow.holds Try.pinned (OpenSpec.ofChange frontierEncodeSpec)

/-- ITS FALSE NEIGHBOUR: 'it returns false'. Refute it at one input. -/
def frontierEncodeWrong : ChangeSpec := { name := "frontierEncode", fn := fun _ => fun
  | [d1, d2] => { results := [.lit (.bool false)], args := [d1, d2] }
  | _ => none }
def FrontierEncodeWrongFalsely : Prop := frontierEncodeRow.holds Try.pinned (OpenSpec.ofChange frontierEncodeWrong)

/-- 'cspchecklaw36.FrontierDecode': WHATEVER THE INPUT: true; the input reads as it did. -/
def frontierDecodeSpec : ChangeSpec := { name := "frontierDecode", fn := fun _ => fun
  | [d1, d2, d3] => { results := [.lit (.bool true)], args := [d1, d2, d3] }
  | _ => none }
def frontierDecodeRow : OpenClaim := { program := "ytkplmgdmkfgjhaa", sum := "c8289ced8624591ae4aaa2d89052dead3f6caa31a953cd1ef7b1b843d59c54cb", func := "cspcheck/cspchecklaw36.FrontierDecode", spec := "frontierDecode", apart := false }
def FrontierDecodeSaid : Prop := frontierDecodeRow.holds Try.pinned (OpenSpec.ofChange frontierDecodeSpec)

/-- ITS FALSE NEIGHBOUR: 'it returns false'. Refute it at one input. -/
def frontierDecodeWrong : ChangeSpec := { name := "frontierDecode", fn := fun _ => fun
  | [d1, d2, d3] => { results := [.lit (.bool false)], args := [d1, d2, d3] }
  | _ => none }
def FrontierDecodeWrongFalsely : Prop := frontierDecodeRow.holds Try.pinned (OpenSpec.ofChange frontierDecodeWrong)

/-- 'cspchecklaw36.FrontierRoundTrip': WHATEVER THE INPUT: true; the input reads as it did. -/
def frontierRoundTripSpec : ChangeSpec := { name := "frontierRoundTrip", fn := fun _ => fun
  | [d1, d2] => { results := [.lit (.bool true)], args := [d1, d2] }
  | _ => none }
def frontierRoundTripRow : OpenClaim := { program := "ytkplmgdmkfgjhaa", sum := "c8289ced8624591ae4aaa2d89052dead3f6caa31a953cd1ef7b1b843d59c54cb", func := "cspcheck/cspchecklaw36.FrontierRoundTrip", spec := "frontierRoundTrip", inPlace := ["maps.clone"], unfollowed := true, recurses := true, apart := false }
def FrontierRoundTripSaid : Prop := frontierRoundTripRow.holds Try.pinned (OpenSpec.ofChange frontierRoundTripSpec)

/-- ITS FALSE NEIGHBOUR: 'it returns false'. Refute it at one input. -/
def frontierRoundTripWrong : ChangeSpec := { name := "frontierRoundTrip", fn := fun _ => fun
  | [d1, d2] => { results := [.lit (.bool false)], args := [d1, d2] }
  | _ => none }
def FrontierRoundTripWrongFalsely : Prop := frontierRoundTripRow.holds Try.pinned (OpenSpec.ofChange frontierRoundTripWrong)

/-- 'cspchecklaw36.FrontierSets': WHATEVER THE INPUT: true; the input reads as it did. -/
def frontierSetsSpec : ChangeSpec := { name := "frontierSets", fn := fun _ => fun
  | [d1, d2, d3] => { results := [.lit (.bool true)], args := [d1, d2, d3] }
  | _ => none }
def frontierSetsRow : OpenClaim := { program := "ytkplmgdmkfgjhaa", sum := "c8289ced8624591ae4aaa2d89052dead3f6caa31a953cd1ef7b1b843d59c54cb", func := "cspcheck/cspchecklaw36.FrontierSets", spec := "frontierSets", unfollowed := true, recurses := true, apart := false }
def FrontierSetsSaid : Prop := frontierSetsRow.holds Try.pinned (OpenSpec.ofChange frontierSetsSpec)

/-- ITS FALSE NEIGHBOUR: 'it returns false'. Refute it at one input. -/
def frontierSetsWrong : ChangeSpec := { name := "frontierSets", fn := fun _ => fun
  | [d1, d2, d3] => { results := [.lit (.bool false)], args := [d1, d2, d3] }
  | _ => none }
def FrontierSetsWrongFalsely : Prop := frontierSetsRow.holds Try.pinned (OpenSpec.ofChange frontierSetsWrong)

/-- 'cspchecklaw36.FrontierAlgebra': WHATEVER THE INPUT: true; the input reads as it did. -/
def frontierAlgebraSpec : ChangeSpec := { name := "frontierAlgebra", fn := fun _ => fun
  | [d] => { results := [.lit (.bool true)], args := [d] }
  | _ => none }
def frontierAlgebraRow : OpenClaim := { program := "ytkplmgdmkfgjhaa", sum := "c8289ced8624591ae4aaa2d89052dead3f6caa31a953cd1ef7b1b843d59c54cb", func := "cspcheck/cspchecklaw36.FrontierAlgebra", spec := "frontierAlgebra", unfollowed := true, recurses := true, apart := false }
def FrontierAlgebraSaid : Prop := frontierAlgebraRow.holds Try.pinned (OpenSpec.ofChange frontierAlgebraSpec)

/-- ITS FALSE NEIGHBOUR: 'it returns false'. Refute it at one input. -/
def frontierAlgebraWrong : ChangeSpec := { name := "frontierAlgebra", fn := fun _ => fun
  | [d] => { results := [.lit (.bool false)], args := [d] }
  | _ => none }
def FrontierAlgebraWrongFalsely : Prop := frontierAlgebraRow.holds Try.pinned (OpenSpec.ofChange frontierAlgebraWrong)

/-- 'cspchecklaw36.FrontierExamples': WHATEVER THE INPUT: true; the input reads as it did. -/
def frontierExamplesSpec : ChangeSpec := { name := "frontierExamples", fn := fun _ => fun
  | [] => { results := [.lit (.bool true)], args := [] }
  | _ => none }
def frontierExamplesRow : OpenClaim := { program := "ytkplmgdmkfgjhaa", sum := "c8289ced8624591ae4aaa2d89052dead3f6caa31a953cd1ef7b1b843d59c54cb", func := "cspcheck/cspchecklaw36.FrontierExamples", spec := "frontierExamples", inPlace := ["maps.clone"], unfollowed := true, recurses := true, apart := false }
def FrontierExamplesSaid : Prop := frontierExamplesRow.holds Try.pinned (OpenSpec.ofChange frontierExamplesSpec)

/-- ITS FALSE NEIGHBOUR: 'it returns false'. Refute it at one input. -/
def frontierExamplesWrong : ChangeSpec := { name := "frontierExamples", fn := fun _ => fun
  | [] => { results := [.lit (.bool false)], args := [] }
  | _ => none }
def FrontierExamplesWrongFalsely : Prop := frontierExamplesRow.holds Try.pinned (OpenSpec.ofChange frontierExamplesWrong)

/-- 'cspchecklaw36.FrontierFiles': WHATEVER THE INPUT: true; the input reads as it did. -/
def frontierFilesSpec : ChangeSpec := { name := "frontierFiles", fn := fun _ => fun
  | [d1, d2, d3] => { results := [.lit (.bool true)], args := [d1, d2, d3] }
  | _ => none }
def frontierFilesRow : OpenClaim := { program := "ytkplmgdmkfgjhaa", sum := "c8289ced8624591ae4aaa2d89052dead3f6caa31a953cd1ef7b1b843d59c54cb", func := "cspcheck/cspchecklaw36.FrontierFiles", spec := "frontierFiles", inPlace := ["maps.clone"], unfollowed := true, recurses := true, apart := false }
def FrontierFilesSaid : Prop := frontierFilesRow.holds Try.pinned (OpenSpec.ofChange frontierFilesSpec)

/-- ITS FALSE NEIGHBOUR: 'it returns false'. Refute it at one input. -/
def frontierFilesWrong : ChangeSpec := { name := "frontierFiles", fn := fun _ => fun
  | [d1, d2, d3] => { results := [.lit (.bool false)], args := [d1, d2, d3] }
  | _ => none }
def FrontierFilesWrongFalsely : Prop := frontierFilesRow.holds Try.pinned (OpenSpec.ofChange frontierFilesWrong)

/- THE SECOND FORM. 'bulk': how many values and letters a reading holds, each counted each time it is reached (what is shared counts as often as it is met; a slice's spare places count too). A statement '..UptoSaid' is the law's where the arguments, and the package variables that the reading takes, are together of bulk at most 1048576: NARROWER than '..Said'. Prove '..Said' where nothing that the law and all that it calls make is longer than what came in: it says more and counts as full. Else prove '..UptoSaid'. A law counts once. -/
mutual
def uptoBulk {H : Type} : DataW H → Nat
  | .lit (.string bytes) => bytes.length + 1
  | .lit _ => 1
  | .nil => 1
  | .ptr d => uptoBulk d + 1
  | .slice elems spare => uptoBulkAll elems + uptoBulkAll spare + 1
  | .agg parts => uptoBulkAll parts + 1
  | .iface _ d => uptoBulk d + 1
  | .map entries => uptoBulkEntries entries + 1
  | .held _ => 1
def uptoBulkAll {H : Type} : List (DataW H) → Nat
  | [] => 0
  | d :: r => uptoBulk d + uptoBulkAll r
def uptoBulkEntries {H : Type} : List (Lit × DataW H) → Nat
  | [] => 0
  | x :: r => uptoBulkEntry x + uptoBulkEntries r
def uptoBulkEntry {H : Type} : Lit × DataW H → Nat
  | (.string bytes, d) => bytes.length + uptoBulk d + 1
  | (_, d) => uptoBulk d + 1
 end
def uptoSmall : (H : Type) → List (DataW H) → Bool := fun _ ds => decide (uptoBulkAll ds ≤ 1048576)
def OpenSpec.upto (s : _root_.Go.ChangeSpec) : _root_.Go.OpenSpec := { _root_.Go.OpenSpec.ofChange s with cond := some uptoSmall }

/-- 'cspchecklaw36.FrontierEncode', WHERE WHAT IT READS IS OF BULK AT MOST 1048576: true; the input reads as it did. -/
def frontierEncodeUptoRow : OpenClaim := { program := "ytkplmgdmkfgjhaa", sum := "c8289ced8624591ae4aaa2d89052dead3f6caa31a953cd1ef7b1b843d59c54cb", func := "cspcheck/cspchecklaw36.FrontierEncode", spec := "frontierEncode", apart := false, narrowed := true }
def FrontierEncodeUptoSaid : Prop := frontierEncodeUptoRow.holds Try.pinned (OpenSpec.upto frontierEncodeSpec)

/-- 'cspchecklaw36.FrontierDecode', WHERE WHAT IT READS IS OF BULK AT MOST 1048576: true; the input reads as it did. -/
def frontierDecodeUptoRow : OpenClaim := { program := "ytkplmgdmkfgjhaa", sum := "c8289ced8624591ae4aaa2d89052dead3f6caa31a953cd1ef7b1b843d59c54cb", func := "cspcheck/cspchecklaw36.FrontierDecode", spec := "frontierDecode", apart := false, narrowed := true }
def FrontierDecodeUptoSaid : Prop := frontierDecodeUptoRow.holds Try.pinned (OpenSpec.upto frontierDecodeSpec)

/-- 'cspchecklaw36.FrontierRoundTrip', WHERE WHAT IT READS IS OF BULK AT MOST 1048576: true; the input reads as it did. -/
def frontierRoundTripUptoRow : OpenClaim := { program := "ytkplmgdmkfgjhaa", sum := "c8289ced8624591ae4aaa2d89052dead3f6caa31a953cd1ef7b1b843d59c54cb", func := "cspcheck/cspchecklaw36.FrontierRoundTrip", spec := "frontierRoundTrip", inPlace := ["maps.clone"], unfollowed := true, recurses := true, apart := false, narrowed := true }
def FrontierRoundTripUptoSaid : Prop := frontierRoundTripUptoRow.holds Try.pinned (OpenSpec.upto frontierRoundTripSpec)

/-- 'cspchecklaw36.FrontierSets', WHERE WHAT IT READS IS OF BULK AT MOST 1048576: true; the input reads as it did. -/
def frontierSetsUptoRow : OpenClaim := { program := "ytkplmgdmkfgjhaa", sum := "c8289ced8624591ae4aaa2d89052dead3f6caa31a953cd1ef7b1b843d59c54cb", func := "cspcheck/cspchecklaw36.FrontierSets", spec := "frontierSets", unfollowed := true, recurses := true, apart := false, narrowed := true }
def FrontierSetsUptoSaid : Prop := frontierSetsUptoRow.holds Try.pinned (OpenSpec.upto frontierSetsSpec)

/-- 'cspchecklaw36.FrontierAlgebra', WHERE WHAT IT READS IS OF BULK AT MOST 1048576: true; the input reads as it did. -/
def frontierAlgebraUptoRow : OpenClaim := { program := "ytkplmgdmkfgjhaa", sum := "c8289ced8624591ae4aaa2d89052dead3f6caa31a953cd1ef7b1b843d59c54cb", func := "cspcheck/cspchecklaw36.FrontierAlgebra", spec := "frontierAlgebra", unfollowed := true, recurses := true, apart := false, narrowed := true }
def FrontierAlgebraUptoSaid : Prop := frontierAlgebraUptoRow.holds Try.pinned (OpenSpec.upto frontierAlgebraSpec)

/-- 'cspchecklaw36.FrontierExamples', WHERE WHAT IT READS IS OF BULK AT MOST 1048576: true; the input reads as it did. -/
def frontierExamplesUptoRow : OpenClaim := { program := "ytkplmgdmkfgjhaa", sum := "c8289ced8624591ae4aaa2d89052dead3f6caa31a953cd1ef7b1b843d59c54cb", func := "cspcheck/cspchecklaw36.FrontierExamples", spec := "frontierExamples", inPlace := ["maps.clone"], unfollowed := true, recurses := true, apart := false, narrowed := true }
def FrontierExamplesUptoSaid : Prop := frontierExamplesUptoRow.holds Try.pinned (OpenSpec.upto frontierExamplesSpec)

/-- 'cspchecklaw36.FrontierFiles', WHERE WHAT IT READS IS OF BULK AT MOST 1048576: true; the input reads as it did. -/
def frontierFilesUptoRow : OpenClaim := { program := "ytkplmgdmkfgjhaa", sum := "c8289ced8624591ae4aaa2d89052dead3f6caa31a953cd1ef7b1b843d59c54cb", func := "cspcheck/cspchecklaw36.FrontierFiles", spec := "frontierFiles", inPlace := ["maps.clone"], unfollowed := true, recurses := true, apart := false, narrowed := true }
def FrontierFilesUptoSaid : Prop := frontierFilesUptoRow.holds Try.pinned (OpenSpec.upto frontierFilesSpec)

end Rows
end Go.Proofs.Ytkplmgdmkfgjhaa
