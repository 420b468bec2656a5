/- Part of a merged text. -/
import Derived.Test.YtohjfjmjnkglgaaGreatDoorQk4
import Derived.Test.YtohjfjmjnkglgaaGreatDoorQk0
import Derived.Test.YtohjfjmjnkglgaaGreatDoorQk3
import Derived.Test.YtohjfjmjnkglgaaGreatDoorCards
import Derived.Test.YtohjfjmjnkglgaaGreatDoorChecked
import Derived.JoinedCond
import Derived.SevenTiedAt
import Derived.Test.YtohjfjmjnkglgaaGreatDoorQk7
import Derived.LaidMore
import Derived.Deep.DeepWitnessRowRef
import Derived.Deep.DeepHandedRow
import Derived.Stop.Joined
import Derived.Test.YtohjfjmjnkglgaaGreatDoorTie
import Derived.Test.YtohjfjmjnkglgaaGreatDoorQk11
namespace Go.Proofs.YtohjfjmjnkglgaaGreatDoor
open _root_.Go.Proofs.Tryz
noncomputable section
theorem j13:(kRow.named ==Tryz.prog.varsNamed 3)=true:=by kernel_rfl
set_option maxRecDepth 100000 in
theorem row_closed:joinedFacts Tryz.prog 3 Tryz.f3 kSpec kRow=true:=by
  have h13:=andT (andT (andT (andT j1 j10) j11) j12) j13
  unfold joinedFacts
  refine andT (andT (andT (andT (andT (andT (andT (andT (andT (andT (andT (andT (andT (andT (andT (andT (andT (andT (andT (h13) ?_) ?_) ?_) ?_) ?_) ?_) ?_) ?_) ?_) ?_) ?_) ?_) ?_) ?_) ?_) ?_) ?_) ?_) ?_
  all_goals kernel_rfl
end
end Go.Proofs.YtohjfjmjnkglgaaGreatDoor
