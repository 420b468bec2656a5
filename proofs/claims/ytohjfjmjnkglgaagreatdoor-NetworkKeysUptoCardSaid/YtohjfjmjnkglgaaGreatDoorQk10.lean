/- Part of a merged text. -/
import Derived.Test.YtohjfjmjnkglgaaGreatDoorQk4
import Derived.Test.YtohjfjmjnkglgaaGreatDoorQk0
import Derived.Test.YtohjfjmjnkglgaaGreatDoorQk3
import Derived.Test.YtohjfjmjnkglgaaGreatDoorCards
import Derived.Test.YtohjfjmjnkglgaaGreatDoorChecked
import Derived.JoinedCond
import Derived.SevenTiedAt
import Derived.Test.YtohjfjmjnkglgaaGreatDoorQk7
import Derived.LaidMore
import Derived.Deep.DeepWitnessRowRef
import Derived.Deep.DeepHandedRow
import Derived.Stop.Joined
import Derived.Test.YtohjfjmjnkglgaaGreatDoorTie
import Derived.Test.YtohjfjmjnkglgaaGreatDoorQk9
namespace Go.Proofs.YtohjfjmjnkglgaaGreatDoor
open _root_.Go.Proofs.Tryz
noncomputable section
abbrev kRow:OpenClaim:=Rows.networkKeysUptoRow
abbrev kSpec:ChangeSpec:=(Rows.OpenSpec.upto Rows.networkKeysSpec).bare
theorem andT {a b:Bool} (h1:a=true) (h2:b=true):(a && b)=true:=by rw[h1,h2];rfl
theorem j1:(kRow.wf (OpenSpec.ofChange kSpec) && laidOutB Tryz.prog && mapsRowed Tryz.prog && Tryz.f3.params.all (Tryz.prog.readableRec ·) && namedTie Tryz.prog kRow.named kSpec.vars && (kRow.stops ==[]) && (Tryz.prog.stops ==[]) && (kRow.knobs ==[]) && (Tryz.prog.stopKnobs ==[]))=true:=by kernel_rfl
theorem j10:(kRow.inPlace ==Tryz.prog.inPlace 3)=true:=by kernel_rfl
end
end Go.Proofs.YtohjfjmjnkglgaaGreatDoor
