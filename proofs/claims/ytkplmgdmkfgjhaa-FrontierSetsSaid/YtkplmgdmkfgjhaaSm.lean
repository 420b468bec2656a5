/- The model of the sort of pairs. -/
import Derived.Test.YtkplmgdmkfgjhaaWo
namespace Go.Proofs.Ytkplmgdmkfgjhaa
def ltP (p q : Int × Int) : Bool := decide (p.1 < q.1 ∨ (p.1 = q.1 ∧ p.2 < q.2))
noncomputable def sortP (xs : List (Int × Int)) : List (Int × Int) := xs.mergeSort fun x y => !ltP y x
noncomputable def m_sortP (a0 : List (Int × Int)) : Option (List (Int × Int)) := need (a0.length < 4611686018427387904) (some (sortP a0))
end Go.Proofs.Ytkplmgdmkfgjhaa
