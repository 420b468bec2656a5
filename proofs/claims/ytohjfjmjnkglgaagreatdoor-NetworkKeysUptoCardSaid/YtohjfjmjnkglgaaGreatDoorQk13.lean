/- Part of a merged text. -/
import Derived.Test.YtohjfjmjnkglgaaGreatDoorQk4
import Derived.Test.YtohjfjmjnkglgaaGreatDoorQk0
import Derived.Test.YtohjfjmjnkglgaaGreatDoorQk3
import Derived.Test.YtohjfjmjnkglgaaGreatDoorCards
import Derived.Test.YtohjfjmjnkglgaaGreatDoorChecked
import Derived.JoinedCond
import Derived.SevenTiedAt
import Derived.Test.YtohjfjmjnkglgaaGreatDoorQk7
import Derived.LaidMore
import Derived.Deep.DeepWitnessRowRef
import Derived.Deep.DeepHandedRow
import Derived.Stop.Joined
import Derived.Test.YtohjfjmjnkglgaaGreatDoorTie
import Derived.Test.YtohjfjmjnkglgaaGreatDoorQk12
namespace Go.Proofs.YtohjfjmjnkglgaaGreatDoor
open _root_.Go.Proofs.Tryz
noncomputable section
theorem go0:((Tryz.prog.funcs.toList.drop 0).take 40).any Func.goes=false:=by kernel_rfl
theorem go1:((Tryz.prog.funcs.toList.drop 40).take 40).any Func.goes=false:=by kernel_rfl
theorem go2:((Tryz.prog.funcs.toList.drop 80).take 40).any Func.goes=false:=by kernel_rfl
theorem go3:((Tryz.prog.funcs.toList.drop 120).take 40).any Func.goes=false:=by kernel_rfl
theorem go4:((Tryz.prog.funcs.toList.drop 160).take 40).any Func.goes=false:=by kernel_rfl
theorem go5:((Tryz.prog.funcs.toList.drop 200).take 40).any Func.goes=false:=by kernel_rfl
theorem go6:((Tryz.prog.funcs.toList.drop 240).take 40).any Func.goes=false:=by kernel_rfl
theorem go7:((Tryz.prog.funcs.toList.drop 280).take 40).any Func.goes=false:=by kernel_rfl
theorem go8:((Tryz.prog.funcs.toList.drop 320).take 40).any Func.goes=false:=by kernel_rfl
theorem go9:((Tryz.prog.funcs.toList.drop 360).take 40).any Func.goes=false:=by kernel_rfl
theorem go10:((Tryz.prog.funcs.toList.drop 400).take 40).any Func.goes=false:=by kernel_rfl
theorem go11:((Tryz.prog.funcs.toList.drop 440).take 40).any Func.goes=false:=by kernel_rfl
theorem goX:(Tryz.prog.funcs.toList.drop 480)=[]:=by kernel_rfl
theorem any_cut {α:Type} {p:α->Bool} {l:List α} (n:Nat) (h1:(l.take n).any p=false) (h2:(l.drop n).any p=false):l.any p=false:=by
  rw[←List.take_append_drop n l,List.any_append,h1,h2];rfl
theorem goAll:Tryz.prog.funcs.any Func.goes=false:=by
  rw[←Array.any_toList]
  have e: ∀(l:List Func) (a:Nat),(l.drop a).drop 40=l.drop (a+40):=λ l a=>by rw[List.drop_drop]
  have h12:(Tryz.prog.funcs.toList.drop 480).any Func.goes=false:=by rw[goX];rfl
  have h11:(Tryz.prog.funcs.toList.drop 440).any Func.goes=false:=any_cut 40 go11 (by rw[e];exact h12)
  have h10:(Tryz.prog.funcs.toList.drop 400).any Func.goes=false:=any_cut 40 go10 (by rw[e];exact h11)
  have h9:(Tryz.prog.funcs.toList.drop 360).any Func.goes=false:=any_cut 40 go9 (by rw[e];exact h10)
  have h8:(Tryz.prog.funcs.toList.drop 320).any Func.goes=false:=any_cut 40 go8 (by rw[e];exact h9)
  have h7:(Tryz.prog.funcs.toList.drop 280).any Func.goes=false:=any_cut 40 go7 (by rw[e];exact h8)
  have h6:(Tryz.prog.funcs.toList.drop 240).any Func.goes=false:=any_cut 40 go6 (by rw[e];exact h7)
  have h5:(Tryz.prog.funcs.toList.drop 200).any Func.goes=false:=any_cut 40 go5 (by rw[e];exact h6)
  have h4:(Tryz.prog.funcs.toList.drop 160).any Func.goes=false:=any_cut 40 go4 (by rw[e];exact h5)
  have h3:(Tryz.prog.funcs.toList.drop 120).any Func.goes=false:=any_cut 40 go3 (by rw[e];exact h4)
  have h2:(Tryz.prog.funcs.toList.drop 80).any Func.goes=false:=any_cut 40 go2 (by rw[e];exact h3)
  have h1:(Tryz.prog.funcs.toList.drop 40).any Func.goes=false:=any_cut 40 go1 (by rw[e];exact h2)
  have h0:(Tryz.prog.funcs.toList.drop 0).any Func.goes=false:=any_cut 40 go0 (by rw[e];exact h1)
  exact h0
set_option maxRecDepth 100000
theorem goes3 (f:FuncId):Tryz.prog.goes f=false:=by
  unfold Program.goes
  have h: ∀g:Nat,(Tryz.prog.funcs[g]?).any Func.goes=false:=λ g=>by
    cases hg:Tryz.prog.funcs[g]? with
    |none=>rfl
    |some fn=>
      have hm:=Array.mem_of_getElem? hg
      show Func.goes fn=false
      cases hf:Func.goes fn with
      |false=>rfl
      |true=>
        have:Tryz.prog.funcs.any Func.goes=true:=Array.any_eq_true'.2 ⟨fn,hm,hf⟩
        rw[goAll]at this;cases this
  rw[goAll,Bool.and_false,Bool.or_false,List.any_eq_false.2 (λ g _=>by rw[h g];simp)]
theorem any_no {p:FuncId->Bool} (h: ∀f,p f=false) (o:Option FuncId):o.any p=false:=by
  cases o with
  |none=>rfl
  |some f=>exact h f
theorem goes_at {P:Program} (h: ∀f,P.goes f=false) (func:String):false=P.goesAt .entering func:=by
  unfold Program.goesAt Program.goesFrom
  rw[any_no h]
  rfl
theorem kgoes:false=Rows.networkKeysUptoRow.goesBy Tryz.prog:=goes_at goes3 _
end
end Go.Proofs.YtohjfjmjnkglgaaGreatDoor
