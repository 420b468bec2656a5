/- NetworkKeys, the tied card of the second form: for all arguments that hold at most 1048576 items in all, the law answers true; no other condition. -/
import Derived.Test.YtohjfjmjnkglgaaGreatDoorQk4
import Derived.Test.YtohjfjmjnkglgaaGreatDoorQk0
import Derived.Test.YtohjfjmjnkglgaaGreatDoorQk3
import Derived.Test.YtohjfjmjnkglgaaGreatDoorCards
import Derived.Test.YtohjfjmjnkglgaaGreatDoorChecked
import Derived.JoinedCond
import Derived.SevenTiedAt
import Derived.Test.YtohjfjmjnkglgaaGreatDoorQk7
import Derived.LaidMore
import Derived.Deep.DeepWitnessRowRef
import Derived.Deep.DeepHandedRow
import Derived.Stop.Joined
import Derived.Test.YtohjfjmjnkglgaaGreatDoorTie
import Derived.Test.YtohjfjmjnkglgaaGreatDoorQk13
namespace Go.Proofs.YtohjfjmjnkglgaaGreatDoor
open _root_.Go.Proofs.Tryz
noncomputable section
open Go.ChangeShapes Go.WideShapes Go.ChangeAt Go.RowKit
theorem o_int:Opens Tryz.prog 3 1 (λ x:Int=>[.exact (.int .i64 x)]) (λ _=>1) (λ x=>(Lit.int .i64 x).wf=true):=λ e0 W fuel cs y h=>(opens_int underlying3) e0 W fuel cs y h
theorem o_L_int:Opens Tryz.prog 22 1 (λ xs:List Int=>[.row 1 zav xs]) (λ xs=>szL (λ _=>1) xs+1) (λ xs=>xs.length≤maxLen/\ ∀x∈xs,(λ x=>(Lit.int .i64 x).wf=true) x):=λ e0 W fuel cs y h=>(opens_slice underlying22 (by kernel_rfl) (by decide) o_int) e0 W fuel cs y h
theorem door_met (os:Os) (args:Array Value):laidMetH Tryz.prog Rows.networkKeysUptoRow.laid ((World.doorLaid Tryz.prog 400 os).forCall (λ _ _=>0) ⟨#[],args,[]⟩).memory:=
 laidMetH_of_parts3 (fuel:=8) (laidMet_of_run' 8 (by kernel_rfl) (by kernel_rfl)) (by kernel_rfl) (by kernel_rfl)
theorem witness_row (os:Os) {H:Type} (enc:TypeId×Value->H):
  (Rows.OpenSpec.upto Rows.networkKeysSpec).preRow enc Tryz.prog Tryz.f3 Rows.networkKeysUptoRow.domain false Rows.networkKeysUptoRow.laid ((World.doorLaid Tryz.prog 400 os).forCall (λ _ _=>0) ⟨#[], #[.slice none 0 0, .slice none 0 0],[]⟩).memory #[.slice none 0 0, .slice none 0 0]:=by
 have hw:(DataW.whole enc Tryz.prog ((World.doorLaid Tryz.prog 400 os).forCall (λ _ _=>0) ⟨#[], #[.slice none 0 0, .slice none 0 0],[]⟩).memory Tryz.f3.params.toList (Rows.OpenSpec.upto Rows.networkKeysSpec).vars false #[.slice none 0 0, .slice none 0 0].toList 8).map (λ x=>(x.1,x.2.1))=
   some ([.nil, .nil],[]):=by kernel_rfl
 obtain⟨⟨x1,x2,x3⟩,hx,hx1⟩:=Option.map_eq_some_iff.1 hw
 simp only[Prod.mk.injEq]at hx1
 obtain⟨rfl,rfl⟩:=hx1
 exact OpenSpec.preRow_of_cond 8 hx (by kernel_rfl) (λ k hk=>by cases hk;kernel_rfl) (by kernel_rfl) (door_met os _)
set_option maxRecDepth 100000 in
theorem networkKeys_lifted (os:Os) (started:os.Started) (H:Type) (enc:TypeId×Value->H) (F:Stop.Interp):
  ReturnsInHanded {} Tryz.checked os 3 .any ((Rows.OpenSpec.upto Rows.networkKeysSpec).preRow enc Tryz.prog Tryz.f3 Rows.networkKeysUptoRow.domain false Rows.networkKeysUptoRow.laid) (((Rows.OpenSpec.upto Rows.networkKeysSpec).at F).post enc Tryz.prog Tryz.f3 false true false false):=by
 refine returnsInHanded_of_row (C:=Tryz.checked) (s:=(Rows.OpenSpec.upto Rows.networkKeysSpec)) Tryz.own started (by kernel_rfl) func3
  (witness_row_atRef (enc:=enc) (C:=Tryz.checked) false (World.doorLaid Tryz.prog 400 os) #[.slice none 0 0, .slice none 0 0] rfl (by kernel_rfl) (by kernel_rfl) (by kernel_rfl) (witness_row os enc)) ?_
 intro W base args ds gs before hval0 hW _ hk0 _ hL _ _
 have hk:=hk0 _ rfl
 have hval: ∀(j:Nat) t v,Tryz.f3.params[j]?=some t->args[j]?=some v->Value.okWide Tryz.prog W .any base t v:=hval0
 have hW':=hW
 obtain⟨p,q,hA0,hV,rfl,hfz,hnd⟩:=hW
 have hA:DataW.TrodAll enc Tryz.prog W 0 (λ _=>true) true Tryz.f3.params.toList args.toList ds p:=hA0
 rw[Tryz.params3]at hA hval
 obtain⟨v0,vs0,d0,ds0,p0,q0,hargs,rfl,rfl,h0,r0⟩:=trodAll_cons hA
 obtain⟨v1,vs1,d1,ds1,p1,q1,rfl,rfl,rfl,h1,r1⟩:=trodAll_cons r0
 obtain⟨rfl,rfl,rfl⟩:=trodAll_nil r1
 obtain rfl:args= #[v0,v1]:=by cases args;simp_all
 obtain⟨rfl,rfl⟩:=trodVars_none hV
 clear hA0
 simp only[List.append_nil]at hW'
 have hlt:=hW'.lt
 obtain⟨x0,qq0,g0,s0⟩:=arg_open o_L_int (plain_slice underlying22 (hval 0 22 v0 rfl rfl)) h0
 obtain⟨x1,qq1,g1,s1⟩:=arg_open o_L_int (plain_slice underlying22 (hval 1 22 v1 rfl rfl)) h1
 have hsz:(λ xs=>szL (λ _=>1) xs+1) x0+(λ xs=>szL (λ _=>1) xs+1) x1≤1048576:=by
  have hk':=of_decide_eq_true hk
  simp only[List.append_nil,Rows.uptoBulkAll]at hk'
  try simp only[]at s0 s1
  try simp only[]
  omega
 have htab:=tab_laid hL (by kernel_rfl)
 refine(Fun.callT (m_law22_NetworkKeys_ok x0 x1 true (networkKeys_true x0 x1 qq0 qq1 hsz)) (vs:=[v0,v1]) ⟨g0.1,g1.1,trivial⟩ htab.2 htab.1).mono λ e W' ⟨he,hb⟩=> ?_
 subst he
 exact⟨_,rfl,post_of_below (pa:=p0++(p1++[])) (pv:=[]) hW' (λ _ _ _=>trodAll_cons_mk (shut_bool underlying4 true) trodAll_mk0)
  (λ sp hsp=>trodAll_cons_mk (trod_after (by kernel_rfl) (of_decide_eq_true (by kernel_rfl)) h0 hb (λ x hx=>hlt x (by simp[hx])) (λ x hx=>by simp[hx]) sp hsp) (trodAll_cons_mk (trod_after (by kernel_rfl) (of_decide_eq_true (by kernel_rfl)) h1 hb (λ x hx=>hlt x (by simp[hx])) (λ x hx=>by simp[hx]) sp hsp) (trodAll_mk0)))
  (λ _ _=>rfl) (by simp) hb (ok_one (by kernel_rfl) rfl (okWide_bool_mk underlying4 true))⟩
theorem networkKeys_holds:Rows.NetworkKeysUptoSaid:=
 OpenClaim.holds_of_cond 3 Tryz.f3 rfl rfl rfl rfl rfl rfl rfl ⟨rfl,rfl,rfl,rfl,rfl⟩ rfl rfl rfl rfl rfl (by kernel_rfl) func3 row_closed
  (of_decide_eq_true (by kernel_rfl)) (by unfold Func.isWrapper;first|(rw[if_pos (by decide+kernel)];kernel_rfl)|(rw[if_neg (by decide+kernel)];exact⟨rfl,rfl⟩))
  (λ os started H enc _ F=>by rw[OpenClaim.pre_eq_preRow];exact networkKeys_lifted os started H enc F)
theorem networkKeys_card_holds:Rows.NetworkKeysUptoCardSaid:=
 Claim7.holds_tied_plain_at .later [] [.data, .data, .data] true (true, "1976ce533b1a537e837e47b60060b17667e03b53f66a130c79816df1d0b62884") false
  networkKeys_holds (λ _ h=>by cases h) (by kernel_rfl) (λ _ h=>by cases h) networkKeysUpto_row_tie rfl ⟨rfl,rfl⟩ (by kernel_rfl) rfl
  (λ f fn hf hfn=>by
   obtain rfl:f=3:=Option.some.inj ((show Tryz.prog.funcNamed "cspcheck/cspchecklaw22.NetworkKeys" =some 3 by kernel_rfl).symm.trans hf) |>.symm
   obtain rfl:fn=Tryz.f3:=(Option.some.inj (func3.symm.trans hfn)).symm
   exact⟨by kernel_rfl,λ j t ht=>by
    rw[Tryz.params3]at ht
    have hm:t∈[22,22]:=by simpa using Array.mem_of_getElem? ht
    have hall:([22,22].all λ u=> !Tryz.prog.wantsStandIn u)=true:=by kernel_rfl
    exact(show Tryz.prog.wantsStandIn t=false by simpa using List.all_eq_true.1 hall t hm)⟩)
  kgoes
end
end Go.Proofs.YtohjfjmjnkglgaaGreatDoor
