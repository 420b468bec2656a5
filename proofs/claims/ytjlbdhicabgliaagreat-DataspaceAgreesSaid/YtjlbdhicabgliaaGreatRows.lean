/-
  No cell of these rows narrows 'for every input' (looked for: loops, veiled, ifaces, maps, wideKeys, modest, calm, conditions, laid).
  DERIVED. THE GIVEN ROWS OF THIS SEAT. 3 by the template 'for every input the law returns true; each argument reads behind the call as it read before'; 0 by the template 'total and deterministic' (their statements: YtjlbdhicabgliaaGreatTotals.lean).
  GIVEN WITH THE SEED: the statements are not yours to turn. If you find one false, say at which input.
  Laid BY PROGRAM, IN A SANDBOX (cutbox-rows.mjs): the forced cells as the released guide's own fill.sh prints them over the translation 0e4571f229410af3… (all of the seat's roots in one cut). By AI agents, Wed Nov 11 2026. No macro, syntax, notation, axiom, sorry.
-/
import Derived.Test.YtjlbdhicabgliaaGreatChecked
import GoSem.Claim
import GoSem.ClaimJoined
import GoSem.ClaimMapViews
import Derived.JoinedTies
import Derived.KernelRfl
namespace Go.Proofs.YtjlbdhicabgliaaGreat
/- THE CELL 'sum', in the pinned program and in every row, IS THE sha256 OF THE DUMP (.gsa) THAT YtjlbdhicabgliaaGreatProg.lean LOADS. Nothing in Lean hashes anything: it is a label: what it is worth is what the hold of that sum in a sandbox is worth. -/
noncomputable def Tryz.pinned : Pinned := { name := "ytjlbdhicabgliaagreat", sum := "0e4571f229410af3a83bc229d939a8058fe5d77c437c3f76e7a6a0bf303313dd", checked := Tryz.checked }
namespace Rows
def none {H : Type} : Left H := { results := [], args := [] }

/-- 'cspchecklaw11.DataspaceUnbounded': WHATEVER THE INPUT: true; the input reads as it did. -/
def dataspaceUnboundedSpec : ChangeSpec := { name := "dataspaceUnbounded", fn := fun _ => fun
  | [d1, d2, d3] => { results := [.lit (.bool true)], args := [d1, d2, d3] }
  | _ => none }
def dataspaceUnboundedRow : OpenClaim := { program := "ytjlbdhicabgliaagreat", sum := "0e4571f229410af3a83bc229d939a8058fe5d77c437c3f76e7a6a0bf303313dd", func := "cspcheck/cspchecklaw11.DataspaceUnbounded", spec := "dataspaceUnbounded", unfollowed := true, recurses := true, apart := false }
def DataspaceUnboundedSaid : Prop := dataspaceUnboundedRow.holds Tryz.pinned (OpenSpec.ofChange dataspaceUnboundedSpec)

/-- ITS FALSE NEIGHBOUR: 'it returns false'. Refute it at one input. -/
def dataspaceUnboundedWrong : ChangeSpec := { name := "dataspaceUnbounded", fn := fun _ => fun
  | [d1, d2, d3] => { results := [.lit (.bool false)], args := [d1, d2, d3] }
  | _ => none }
def DataspaceUnboundedWrongFalsely : Prop := dataspaceUnboundedRow.holds Tryz.pinned (OpenSpec.ofChange dataspaceUnboundedWrong)

/-- 'cspchecklaw11.DataspaceExtends': WHATEVER THE INPUT: true; the input reads as it did. -/
def dataspaceExtendsSpec : ChangeSpec := { name := "dataspaceExtends", fn := fun _ => fun
  | [d] => { results := [.lit (.bool true)], args := [d] }
  | _ => none }
def dataspaceExtendsRow : OpenClaim := { program := "ytjlbdhicabgliaagreat", sum := "0e4571f229410af3a83bc229d939a8058fe5d77c437c3f76e7a6a0bf303313dd", func := "cspcheck/cspchecklaw11.DataspaceExtends", spec := "dataspaceExtends", unfollowed := true, recurses := true, apart := false }
def DataspaceExtendsSaid : Prop := dataspaceExtendsRow.holds Tryz.pinned (OpenSpec.ofChange dataspaceExtendsSpec)

/-- ITS FALSE NEIGHBOUR: 'it returns false'. Refute it at one input. -/
def dataspaceExtendsWrong : ChangeSpec := { name := "dataspaceExtends", fn := fun _ => fun
  | [d] => { results := [.lit (.bool false)], args := [d] }
  | _ => none }
def DataspaceExtendsWrongFalsely : Prop := dataspaceExtendsRow.holds Tryz.pinned (OpenSpec.ofChange dataspaceExtendsWrong)

/-- 'cspchecklaw11.DataspaceAgrees': WHATEVER THE INPUT: true; the input reads as it did. -/
def dataspaceAgreesSpec : ChangeSpec := { name := "dataspaceAgrees", fn := fun _ => fun
  | [d1, d2, d3, d4, d5] => { results := [.lit (.bool true)], args := [d1, d2, d3, d4, d5] }
  | _ => none }
def dataspaceAgreesRow : OpenClaim := { program := "ytjlbdhicabgliaagreat", sum := "0e4571f229410af3a83bc229d939a8058fe5d77c437c3f76e7a6a0bf303313dd", func := "cspcheck/cspchecklaw11.DataspaceAgrees", spec := "dataspaceAgrees", unfollowed := true, recurses := true, apart := false }
def DataspaceAgreesSaid : Prop := dataspaceAgreesRow.holds Tryz.pinned (OpenSpec.ofChange dataspaceAgreesSpec)

/-- ITS FALSE NEIGHBOUR: 'it returns false'. Refute it at one input. -/
def dataspaceAgreesWrong : ChangeSpec := { name := "dataspaceAgrees", fn := fun _ => fun
  | [d1, d2, d3, d4, d5] => { results := [.lit (.bool false)], args := [d1, d2, d3, d4, d5] }
  | _ => none }
def DataspaceAgreesWrongFalsely : Prop := dataspaceAgreesRow.holds Tryz.pinned (OpenSpec.ofChange dataspaceAgreesWrong)

/- THE SECOND FORM. 'bulk': how many values and letters a reading holds, each counted each time it is reached (what is shared counts as often as it is met; a slice's spare places count too). A statement '..UptoSaid' is the law's where the arguments, and the package variables that the reading takes, are together of bulk at most 1048576: NARROWER than '..Said'. Prove '..Said' where nothing that the law and all that it calls make is longer than what came in: it says more and counts as full. Else prove '..UptoSaid'. A law counts once. -/
mutual
def uptoBulk {H : Type} : DataW H → Nat
  | .lit (.string bytes) => bytes.length + 1
  | .lit _ => 1
  | .nil => 1
  | .ptr d => uptoBulk d + 1
  | .slice elems spare => uptoBulkAll elems + uptoBulkAll spare + 1
  | .agg parts => uptoBulkAll parts + 1
  | .iface _ d => uptoBulk d + 1
  | .map entries => uptoBulkEntries entries + 1
  | .held _ => 1
def uptoBulkAll {H : Type} : List (DataW H) → Nat
  | [] => 0
  | d :: r => uptoBulk d + uptoBulkAll r
def uptoBulkEntries {H : Type} : List (Lit × DataW H) → Nat
  | [] => 0
  | x :: r => uptoBulkEntry x + uptoBulkEntries r
def uptoBulkEntry {H : Type} : Lit × DataW H → Nat
  | (.string bytes, d) => bytes.length + uptoBulk d + 1
  | (_, d) => uptoBulk d + 1
 end
def uptoSmall : (H : Type) → List (DataW H) → Bool := fun _ ds => decide (uptoBulkAll ds ≤ 1048576)
def OpenSpec.upto (s : _root_.Go.ChangeSpec) : _root_.Go.OpenSpec := { _root_.Go.OpenSpec.ofChange s with cond := some uptoSmall }

/-- 'cspchecklaw11.DataspaceUnbounded', WHERE WHAT IT READS IS OF BULK AT MOST 1048576: true; the input reads as it did. -/
def dataspaceUnboundedUptoRow : OpenClaim := { program := "ytjlbdhicabgliaagreat", sum := "0e4571f229410af3a83bc229d939a8058fe5d77c437c3f76e7a6a0bf303313dd", func := "cspcheck/cspchecklaw11.DataspaceUnbounded", spec := "dataspaceUnbounded", unfollowed := true, recurses := true, apart := false, narrowed := true }
def DataspaceUnboundedUptoSaid : Prop := dataspaceUnboundedUptoRow.holds Tryz.pinned (OpenSpec.upto dataspaceUnboundedSpec)

/-- 'cspchecklaw11.DataspaceExtends', WHERE WHAT IT READS IS OF BULK AT MOST 1048576: true; the input reads as it did. -/
def dataspaceExtendsUptoRow : OpenClaim := { program := "ytjlbdhicabgliaagreat", sum := "0e4571f229410af3a83bc229d939a8058fe5d77c437c3f76e7a6a0bf303313dd", func := "cspcheck/cspchecklaw11.DataspaceExtends", spec := "dataspaceExtends", unfollowed := true, recurses := true, apart := false, narrowed := true }
def DataspaceExtendsUptoSaid : Prop := dataspaceExtendsUptoRow.holds Tryz.pinned (OpenSpec.upto dataspaceExtendsSpec)

/-- 'cspchecklaw11.DataspaceAgrees', WHERE WHAT IT READS IS OF BULK AT MOST 1048576: true; the input reads as it did. -/
def dataspaceAgreesUptoRow : OpenClaim := { program := "ytjlbdhicabgliaagreat", sum := "0e4571f229410af3a83bc229d939a8058fe5d77c437c3f76e7a6a0bf303313dd", func := "cspcheck/cspchecklaw11.DataspaceAgrees", spec := "dataspaceAgrees", unfollowed := true, recurses := true, apart := false, narrowed := true }
def DataspaceAgreesUptoSaid : Prop := dataspaceAgreesUptoRow.holds Tryz.pinned (OpenSpec.upto dataspaceAgreesSpec)

end Rows
end Go.Proofs.YtjlbdhicabgliaaGreat
