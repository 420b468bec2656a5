/-
  No cell of these rows narrows 'for every input' (looked for: loops, veiled, ifaces, maps, wideKeys, modest, calm, conditions, laid).
  DERIVED. THE GIVEN ROWS OF THIS SEAT. 7 by the template 'for every input the law returns true; each argument reads behind the call as it read before'; 0 by the template 'total and deterministic' (their statements: YtkbbeeeoogjknaaTotals.lean).
  GIVEN WITH THE SEED: the statements are not yours to turn. If you find one false, say at which input.
  Laid BY PROGRAM, IN A SANDBOX (cutbox-rows.mjs): the forced cells as the released guide's own fill.sh prints them over the translation 35ab38015829ca5c… (all of the seat's roots in one cut). By AI agents, Wed Nov 11 2026. No macro, syntax, notation, axiom, sorry.
-/
import Derived.Test.YtkbbeeeoogjknaaChecked
import GoSem.Claim
import GoSem.ClaimJoined
import GoSem.ClaimMapViews
import Derived.JoinedTies
import Derived.KernelRfl
namespace Go.Proofs.Ytkbbeeeoogjknaa
/- THE CELL 'sum', in the pinned program and in every row, IS THE sha256 OF THE DUMP (.gsa) THAT YtkbbeeeoogjknaaProg.lean LOADS. Nothing in Lean hashes anything: it is a label: what it is worth is what the hold of that sum in a sandbox is worth. -/
noncomputable def Try.pinned : Pinned := { name := "ytkbbeeeoogjknaa", sum := "35ab38015829ca5cf428eb92db8aad7cd80c3840e98609a1303ae979f8e76c1b", checked := Try.checked }
namespace Rows
def none {H : Type} : Left H := { results := [], args := [] }

/-- 'cspchecklaw15.AlphabetOrders': WHATEVER THE INPUT: true; the input reads as it did. -/
def alphabetOrdersSpec : ChangeSpec := { name := "alphabetOrders", fn := fun _ => fun
  | [d1, d2, d3] => { results := [.lit (.bool true)], args := [d1, d2, d3] }
  | _ => none }
def alphabetOrdersRow : OpenClaim := { program := "ytkbbeeeoogjknaa", sum := "35ab38015829ca5cf428eb92db8aad7cd80c3840e98609a1303ae979f8e76c1b", func := "cspcheck/cspchecklaw15.AlphabetOrders", spec := "alphabetOrders", unfollowed := true, recurses := true, apart := false }
def AlphabetOrdersSaid : Prop := alphabetOrdersRow.holds Try.pinned (OpenSpec.ofChange alphabetOrdersSpec)

/-- ITS FALSE NEIGHBOUR: 'it returns false'. Refute it at one input. -/
def alphabetOrdersWrong : ChangeSpec := { name := "alphabetOrders", fn := fun _ => fun
  | [d1, d2, d3] => { results := [.lit (.bool false)], args := [d1, d2, d3] }
  | _ => none }
def AlphabetOrdersWrongFalsely : Prop := alphabetOrdersRow.holds Try.pinned (OpenSpec.ofChange alphabetOrdersWrong)

/-- 'cspchecklaw15.AlphabetCloses': WHATEVER THE INPUT: true; the input reads as it did. -/
def alphabetClosesSpec : ChangeSpec := { name := "alphabetCloses", fn := fun _ => fun
  | [d1, d2] => { results := [.lit (.bool true)], args := [d1, d2] }
  | _ => none }
def alphabetClosesRow : OpenClaim := { program := "ytkbbeeeoogjknaa", sum := "35ab38015829ca5cf428eb92db8aad7cd80c3840e98609a1303ae979f8e76c1b", func := "cspcheck/cspchecklaw15.AlphabetCloses", spec := "alphabetCloses", unfollowed := true, recurses := true, apart := false }
def AlphabetClosesSaid : Prop := alphabetClosesRow.holds Try.pinned (OpenSpec.ofChange alphabetClosesSpec)

/-- ITS FALSE NEIGHBOUR: 'it returns false'. Refute it at one input. -/
def alphabetClosesWrong : ChangeSpec := { name := "alphabetCloses", fn := fun _ => fun
  | [d1, d2] => { results := [.lit (.bool false)], args := [d1, d2] }
  | _ => none }
def AlphabetClosesWrongFalsely : Prop := alphabetClosesRow.holds Try.pinned (OpenSpec.ofChange alphabetClosesWrong)

/-- 'cspchecklaw15.AlphabetKeeps': WHATEVER THE INPUT: true; the input reads as it did. -/
def alphabetKeepsSpec : ChangeSpec := { name := "alphabetKeeps", fn := fun _ => fun
  | [d1, d2] => { results := [.lit (.bool true)], args := [d1, d2] }
  | _ => none }
def alphabetKeepsRow : OpenClaim := { program := "ytkbbeeeoogjknaa", sum := "35ab38015829ca5cf428eb92db8aad7cd80c3840e98609a1303ae979f8e76c1b", func := "cspcheck/cspchecklaw15.AlphabetKeeps", spec := "alphabetKeeps", unfollowed := true, recurses := true, apart := false }
def AlphabetKeepsSaid : Prop := alphabetKeepsRow.holds Try.pinned (OpenSpec.ofChange alphabetKeepsSpec)

/-- ITS FALSE NEIGHBOUR: 'it returns false'. Refute it at one input. -/
def alphabetKeepsWrong : ChangeSpec := { name := "alphabetKeeps", fn := fun _ => fun
  | [d1, d2] => { results := [.lit (.bool false)], args := [d1, d2] }
  | _ => none }
def AlphabetKeepsWrongFalsely : Prop := alphabetKeepsRow.holds Try.pinned (OpenSpec.ofChange alphabetKeepsWrong)

/-- 'cspchecklaw15.AlphabetRelations': WHATEVER THE INPUT: true; the input reads as it did. -/
def alphabetRelationsSpec : ChangeSpec := { name := "alphabetRelations", fn := fun _ => fun
  | [d1, d2, d3, d4] => { results := [.lit (.bool true)], args := [d1, d2, d3, d4] }
  | _ => none }
def alphabetRelationsRow : OpenClaim := { program := "ytkbbeeeoogjknaa", sum := "35ab38015829ca5cf428eb92db8aad7cd80c3840e98609a1303ae979f8e76c1b", func := "cspcheck/cspchecklaw15.AlphabetRelations", spec := "alphabetRelations", unfollowed := true, recurses := true, apart := false }
def AlphabetRelationsSaid : Prop := alphabetRelationsRow.holds Try.pinned (OpenSpec.ofChange alphabetRelationsSpec)

/-- ITS FALSE NEIGHBOUR: 'it returns false'. Refute it at one input. -/
def alphabetRelationsWrong : ChangeSpec := { name := "alphabetRelations", fn := fun _ => fun
  | [d1, d2, d3, d4] => { results := [.lit (.bool false)], args := [d1, d2, d3, d4] }
  | _ => none }
def AlphabetRelationsWrongFalsely : Prop := alphabetRelationsRow.holds Try.pinned (OpenSpec.ofChange alphabetRelationsWrong)

/-- 'cspchecklaw15.AlphabetSetAlgebra': WHATEVER THE INPUT: true; the input reads as it did. -/
def alphabetSetAlgebraSpec : ChangeSpec := { name := "alphabetSetAlgebra", fn := fun _ => fun
  | [d1, d2] => { results := [.lit (.bool true)], args := [d1, d2] }
  | _ => none }
def alphabetSetAlgebraRow : OpenClaim := { program := "ytkbbeeeoogjknaa", sum := "35ab38015829ca5cf428eb92db8aad7cd80c3840e98609a1303ae979f8e76c1b", func := "cspcheck/cspchecklaw15.AlphabetSetAlgebra", spec := "alphabetSetAlgebra", unfollowed := true, recurses := true, apart := false }
def AlphabetSetAlgebraSaid : Prop := alphabetSetAlgebraRow.holds Try.pinned (OpenSpec.ofChange alphabetSetAlgebraSpec)

/-- ITS FALSE NEIGHBOUR: 'it returns false'. Refute it at one input. -/
def alphabetSetAlgebraWrong : ChangeSpec := { name := "alphabetSetAlgebra", fn := fun _ => fun
  | [d1, d2] => { results := [.lit (.bool false)], args := [d1, d2] }
  | _ => none }
def AlphabetSetAlgebraWrongFalsely : Prop := alphabetSetAlgebraRow.holds Try.pinned (OpenSpec.ofChange alphabetSetAlgebraWrong)

/-- 'cspchecklaw15.AlphabetComposes': WHATEVER THE INPUT: true; the input reads as it did. -/
def alphabetComposesSpec : ChangeSpec := { name := "alphabetComposes", fn := fun _ => fun
  | [d] => { results := [.lit (.bool true)], args := [d] }
  | _ => none }
def alphabetComposesRow : OpenClaim := { program := "ytkbbeeeoogjknaa", sum := "35ab38015829ca5cf428eb92db8aad7cd80c3840e98609a1303ae979f8e76c1b", func := "cspcheck/cspchecklaw15.AlphabetComposes", spec := "alphabetComposes", unfollowed := true, recurses := true, apart := false }
def AlphabetComposesSaid : Prop := alphabetComposesRow.holds Try.pinned (OpenSpec.ofChange alphabetComposesSpec)

/-- ITS FALSE NEIGHBOUR: 'it returns false'. Refute it at one input. -/
def alphabetComposesWrong : ChangeSpec := { name := "alphabetComposes", fn := fun _ => fun
  | [d] => { results := [.lit (.bool false)], args := [d] }
  | _ => none }
def AlphabetComposesWrongFalsely : Prop := alphabetComposesRow.holds Try.pinned (OpenSpec.ofChange alphabetComposesWrong)

/-- 'cspchecklaw15.AlphabetSets': WHATEVER THE INPUT: true; the input reads as it did. -/
def alphabetSetsSpec : ChangeSpec := { name := "alphabetSets", fn := fun _ => fun
  | [d1, d2, d3] => { results := [.lit (.bool true)], args := [d1, d2, d3] }
  | _ => none }
def alphabetSetsRow : OpenClaim := { program := "ytkbbeeeoogjknaa", sum := "35ab38015829ca5cf428eb92db8aad7cd80c3840e98609a1303ae979f8e76c1b", func := "cspcheck/cspchecklaw15.AlphabetSets", spec := "alphabetSets", unfollowed := true, recurses := true, apart := false }
def AlphabetSetsSaid : Prop := alphabetSetsRow.holds Try.pinned (OpenSpec.ofChange alphabetSetsSpec)

/-- ITS FALSE NEIGHBOUR: 'it returns false'. Refute it at one input. -/
def alphabetSetsWrong : ChangeSpec := { name := "alphabetSets", fn := fun _ => fun
  | [d1, d2, d3] => { results := [.lit (.bool false)], args := [d1, d2, d3] }
  | _ => none }
def AlphabetSetsWrongFalsely : Prop := alphabetSetsRow.holds Try.pinned (OpenSpec.ofChange alphabetSetsWrong)

/- THE SECOND FORM. 'bulk': how many values and letters a reading holds, each counted each time it is reached (what is shared counts as often as it is met; a slice's spare places count too). A statement '..UptoSaid' is the law's where the arguments, and the package variables that the reading takes, are together of bulk at most 1048576: NARROWER than '..Said'. Prove '..Said' where nothing that the law and all that it calls make is longer than what came in: it says more and counts as full. Else prove '..UptoSaid'. A law counts once. -/
mutual
def uptoBulk {H : Type} : DataW H → Nat
  | .lit (.string bytes) => bytes.length + 1
  | .lit _ => 1
  | .nil => 1
  | .ptr d => uptoBulk d + 1
  | .slice elems spare => uptoBulkAll elems + uptoBulkAll spare + 1
  | .agg parts => uptoBulkAll parts + 1
  | .iface _ d => uptoBulk d + 1
  | .map entries => uptoBulkEntries entries + 1
  | .held _ => 1
def uptoBulkAll {H : Type} : List (DataW H) → Nat
  | [] => 0
  | d :: r => uptoBulk d + uptoBulkAll r
def uptoBulkEntries {H : Type} : List (Lit × DataW H) → Nat
  | [] => 0
  | x :: r => uptoBulkEntry x + uptoBulkEntries r
def uptoBulkEntry {H : Type} : Lit × DataW H → Nat
  | (.string bytes, d) => bytes.length + uptoBulk d + 1
  | (_, d) => uptoBulk d + 1
 end
def uptoSmall : (H : Type) → List (DataW H) → Bool := fun _ ds => decide (uptoBulkAll ds ≤ 1048576)
def OpenSpec.upto (s : _root_.Go.ChangeSpec) : _root_.Go.OpenSpec := { _root_.Go.OpenSpec.ofChange s with cond := some uptoSmall }

/-- 'cspchecklaw15.AlphabetOrders', WHERE WHAT IT READS IS OF BULK AT MOST 1048576: true; the input reads as it did. -/
def alphabetOrdersUptoRow : OpenClaim := { program := "ytkbbeeeoogjknaa", sum := "35ab38015829ca5cf428eb92db8aad7cd80c3840e98609a1303ae979f8e76c1b", func := "cspcheck/cspchecklaw15.AlphabetOrders", spec := "alphabetOrders", unfollowed := true, recurses := true, apart := false, narrowed := true }
def AlphabetOrdersUptoSaid : Prop := alphabetOrdersUptoRow.holds Try.pinned (OpenSpec.upto alphabetOrdersSpec)

/-- 'cspchecklaw15.AlphabetCloses', WHERE WHAT IT READS IS OF BULK AT MOST 1048576: true; the input reads as it did. -/
def alphabetClosesUptoRow : OpenClaim := { program := "ytkbbeeeoogjknaa", sum := "35ab38015829ca5cf428eb92db8aad7cd80c3840e98609a1303ae979f8e76c1b", func := "cspcheck/cspchecklaw15.AlphabetCloses", spec := "alphabetCloses", unfollowed := true, recurses := true, apart := false, narrowed := true }
def AlphabetClosesUptoSaid : Prop := alphabetClosesUptoRow.holds Try.pinned (OpenSpec.upto alphabetClosesSpec)

/-- 'cspchecklaw15.AlphabetKeeps', WHERE WHAT IT READS IS OF BULK AT MOST 1048576: true; the input reads as it did. -/
def alphabetKeepsUptoRow : OpenClaim := { program := "ytkbbeeeoogjknaa", sum := "35ab38015829ca5cf428eb92db8aad7cd80c3840e98609a1303ae979f8e76c1b", func := "cspcheck/cspchecklaw15.AlphabetKeeps", spec := "alphabetKeeps", unfollowed := true, recurses := true, apart := false, narrowed := true }
def AlphabetKeepsUptoSaid : Prop := alphabetKeepsUptoRow.holds Try.pinned (OpenSpec.upto alphabetKeepsSpec)

/-- 'cspchecklaw15.AlphabetRelations', WHERE WHAT IT READS IS OF BULK AT MOST 1048576: true; the input reads as it did. -/
def alphabetRelationsUptoRow : OpenClaim := { program := "ytkbbeeeoogjknaa", sum := "35ab38015829ca5cf428eb92db8aad7cd80c3840e98609a1303ae979f8e76c1b", func := "cspcheck/cspchecklaw15.AlphabetRelations", spec := "alphabetRelations", unfollowed := true, recurses := true, apart := false, narrowed := true }
def AlphabetRelationsUptoSaid : Prop := alphabetRelationsUptoRow.holds Try.pinned (OpenSpec.upto alphabetRelationsSpec)

/-- 'cspchecklaw15.AlphabetSetAlgebra', WHERE WHAT IT READS IS OF BULK AT MOST 1048576: true; the input reads as it did. -/
def alphabetSetAlgebraUptoRow : OpenClaim := { program := "ytkbbeeeoogjknaa", sum := "35ab38015829ca5cf428eb92db8aad7cd80c3840e98609a1303ae979f8e76c1b", func := "cspcheck/cspchecklaw15.AlphabetSetAlgebra", spec := "alphabetSetAlgebra", unfollowed := true, recurses := true, apart := false, narrowed := true }
def AlphabetSetAlgebraUptoSaid : Prop := alphabetSetAlgebraUptoRow.holds Try.pinned (OpenSpec.upto alphabetSetAlgebraSpec)

/-- 'cspchecklaw15.AlphabetComposes', WHERE WHAT IT READS IS OF BULK AT MOST 1048576: true; the input reads as it did. -/
def alphabetComposesUptoRow : OpenClaim := { program := "ytkbbeeeoogjknaa", sum := "35ab38015829ca5cf428eb92db8aad7cd80c3840e98609a1303ae979f8e76c1b", func := "cspcheck/cspchecklaw15.AlphabetComposes", spec := "alphabetComposes", unfollowed := true, recurses := true, apart := false, narrowed := true }
def AlphabetComposesUptoSaid : Prop := alphabetComposesUptoRow.holds Try.pinned (OpenSpec.upto alphabetComposesSpec)

/-- 'cspchecklaw15.AlphabetSets', WHERE WHAT IT READS IS OF BULK AT MOST 1048576: true; the input reads as it did. -/
def alphabetSetsUptoRow : OpenClaim := { program := "ytkbbeeeoogjknaa", sum := "35ab38015829ca5cf428eb92db8aad7cd80c3840e98609a1303ae979f8e76c1b", func := "cspcheck/cspchecklaw15.AlphabetSets", spec := "alphabetSets", unfollowed := true, recurses := true, apart := false, narrowed := true }
def AlphabetSetsUptoSaid : Prop := alphabetSetsUptoRow.holds Try.pinned (OpenSpec.upto alphabetSetsSpec)

end Rows
end Go.Proofs.Ytkbbeeeoogjknaa
