/- Part of a merged text. -/
import Derived.Test.YtohjfjmjnkglgaaGreatDoorQk4
import Derived.Test.YtohjfjmjnkglgaaGreatDoorQk0
import Derived.Test.YtohjfjmjnkglgaaGreatDoorQk3
import Derived.Test.YtohjfjmjnkglgaaGreatDoorCards
import Derived.Test.YtohjfjmjnkglgaaGreatDoorChecked
import Derived.JoinedCond
import Derived.SevenTiedAt
import Derived.Test.YtohjfjmjnkglgaaGreatDoorQk7
import Derived.LaidMore
import Derived.Deep.DeepWitnessRowRef
import Derived.Deep.DeepHandedRow
import Derived.Stop.Joined
import Derived.Test.YtohjfjmjnkglgaaGreatDoorTie
namespace Go.Proofs.YtohjfjmjnkglgaaGreatDoor
open _root_.Go.Proofs.Tryz
noncomputable section
def awP:List UInt8:=[9,0,3,1,0,0,0,0,0,0,0,6,1,0,0,0,0,0,0,0,2,9,0,1,1,0,0,0,0,0,0,0,2]
def awT:List UInt8:=[9,0,4,1,0,0,0,0,0,0,0,16]++awP++[5,0,1,1,0,0,0,0,0,0,0,2]++awP
def awK:ExC:=([([],0,true,(0,0),[(50,0,2),(4,0,0),(7,0,0)])],[([97], -1,[],[]),([98], -1,[],[]),([99], -1,[],[]),([100], -1,[],[])],[],[[7,0,1,10,0,0],[7,0,1,10,0,1],[7,0,1,10,0,2],[7,0,1,10,0,3]])
def awM:(List ((List (List (Int×Int)))×(List (List UInt8))))×(List ((List UInt8)×(List Bool)×(List ((List Int)×Int×Int)))):=([([[(2,1)],[(1,2)],[]],[[9,0,3,1,0,0,0,0,0,0,0,6,1,0,0,0,0,0,0,0,2,9,0,1,1,0,0,0,0,0,0,0,2],[9,0,1,1,0,0,0,0,0,0,0,2],[9,0,1,1,0,0,0,0,0,0,0,4]]),([[(2,1)],[(1,2)],[]],[[9,0,3,1,0,0,0,0,0,0,0,6,1,0,0,0,0,0,0,0,2,9,0,1,1,0,0,0,0,0,0,0,2],[9,0,1,1,0,0,0,0,0,0,0,2],[9,0,1,1,0,0,0,0,0,0,0,4]])],[([9,0,4,1,0,0,0,0,0,0,0,16,9,0,2,1,0,0,0,0,0,0,0,21,1,0,0,0,0,0,0,0,0,5,0,1,1,0,0,0,0,0,0,0,2,9,0,2,1,0,0,0,0,0,0,0,21,1,0,0,0,0,0,0,0,1],[true,true],[([-1,1],0,1),([1, -1],0,2),([2,2],2,0)]),([9,0,4,1,0,0,0,0,0,0,0,16,9,0,2,1,0,0,0,0,0,0,0,21,1,0,0,0,0,0,0,0,0,5,0,1,1,0,0,0,0,0,0,0,2,9,0,1,1,0,0,0,0,0,0,0,4],[true,false],[([1, -1],0,3)]),([9,0,4,1,0,0,0,0,0,0,0,16,9,0,1,1,0,0,0,0,0,0,0,4,5,0,1,1,0,0,0,0,0,0,0,2,9,0,2,1,0,0,0,0,0,0,0,21,1,0,0,0,0,0,0,0,1],[false,true],[([-1,1],0,3)]),([9,0,4,1,0,0,0,0,0,0,0,16,9,0,1,1,0,0,0,0,0,0,0,4,5,0,1,1,0,0,0,0,0,0,0,2,9,0,1,1,0,0,0,0,0,0,0,4],[false,false],[([-1, -1],1,4)]),([9,0,1,1,0,0,0,0,0,0,0,4],[false,false],[])])
theorem aw0:m_gen_New ([]:List Int)=some ([],0):=by kernel_rfl
theorem aw1:m_law22_prefix 2=some awP:=by kernel_rfl
theorem aw2:m_ref16_Guarded 16 awP [2] awP=some awT:=by kernel_rfl
theorem aw3:m_gen_Choices_Core ([],0) 1 true=some (awK,([],0)):=by kernel_rfl
theorem aw4:m_ref21_Compile awK awT 9=some (awM,0):=by kernel_rfl
def awX:Int×(List Int)×(List (Int×Int×Int)):=(2,[0,1,1],[(0,2,1),(1,2,1)])
abbrev AwR:=Option (List (Int×(List Int)×(List (Int×Int×Int))))
theorem aw6:m_network_Start (awM.1,awM.2)=some [0,0,0]:=by kernel_rfl
theorem aw7 (K:(List (Int×(List Int)×(List (Int×Int×Int))))->AwR):zhp (awM.1,awM.2) [0,0,0] K FU [] 0=K [awX]:=by kernel_rfl
theorem aw9:zdj awX awX=some 0:=by kernel_rfl
theorem aw10:zhn (awM.1,awM.2) [0,0,0]=some true:=by kernel_rfl
theorem sort_one {α:Type} {c:α->α->Option Int} {x:α} (h:c x x=some 0):m_sortR c [x]=some [x]:=by
  have hl:ltC c x x=false:=by unfold ltC cfOf;rw[h];rfl
  have key: ∀y∈[x],y=x:=λ y hy=>List.mem_singleton.1 hy
  unfold m_sortR
  rw[m_sortbyOn_eq (by simp) ⟨λ a b ha hb=>by rw[key a ha,key b hb];exact⟨0,h⟩,λ a ha=>by rw[key a ha];exact hl,λ a b d ha hb hd h1=>(by rw[key a ha,key b hb,hl]at h1;cases h1),λ a b d ha hb hd _ _=>(by rw[key a ha,key d hd];exact hl),λ a b ha hb _ _=>(by rw[key a ha,key b hb])⟩]
  unfold sortC
  rw[List.mergeSort_singleton]
theorem aw11:m_network_steps (awM.1,awM.2) [0,0,0]=bnd1 (m_sortR zdj [awX]) (λ y=>bnd1 (zci y zgp) (λ y2=>bnd1 (zdc y2) (λ y3=>some y3))):=by
  refine Eq.trans ?_ (aw7 (λ x=>bnd1 (m_sortR zdj x) (λ y=>bnd1 (zci y zgp) (λ y2=>bnd1 (zdc y2) (λ y3=>some y3)))))
  kernel_rfl
theorem aw12:(bnd1 (some [awX]) (λ y=>bnd1 (zci y zgp) (λ y2=>bnd1 (zdc y2) (λ y3=>some y3))):AwR)=some [awX]:=by kernel_rfl
theorem aw13:m_network_Steps (awM.1,awM.2) [0,0,0]=some [awX]:=by
  unfold m_network_Steps
  rw[aw10,bnd1_eq rfl,aw11,sort_one aw9,aw12]
  kernel_rfl
theorem awake_true:m_law22_awake=some true:=by
  unfold m_law22_awake
  rw[aw0,bnd1_eq rfl]
  dsimp only
  rw[aw3,bnd1_eq rfl,aw1,bnd1_eq rfl,bnd1_eq rfl,aw2,bnd1_eq rfl]
  dsimp only
  rw[aw4,bnd1_eq rfl]
  dsimp only
  rw[aw6,bnd1_eq rfl,aw13,bnd1_eq rfl]
  kernel_rfl
end
end Go.Proofs.YtohjfjmjnkglgaaGreatDoor
