/- ValueNesting: for every input the call returns true, and the arguments read as before. No condition. -/
import Derived.Test.YtdppkpiagdaigaaDoorKI3
import Derived.Test.YtdppkpiagdaigaaDoorKI5
import Derived.Test.YtdppkpiagdaigaaDoorKI1
import Derived.LaidMore
import Derived.Stop.Joined
import Derived.SevenTiedAt
import Derived.Test.YtdppkpiagdaigaaDoorTie
import Derived.Test.YtdppkpiagdaigaaDoorCards
namespace Go.Proofs.YtdppkpiagdaigaaDoor
open Go.ChangeShapes Go.WideShapes Go.ChangeAt Go.RowKit

theorem o_uint8 : Opens Tryd.prog 5 1 (fun x : UInt8 => [.exact (.int .u8 (x.toNat : Int))]) (fun _ => 1) (fun _ => True) := fun e0 W fuel cs y h => (opens_u8 Tryd.underlying5) e0 W fuel cs y h
theorem door_met (os : Os) (args : Array Value) : laidMetH Tryd.prog Rows.valueNestingRow.laid ((World.doorLaid Tryd.prog 400 os).forCall (fun _ _ => 0) ⟨#[], args, []⟩).memory :=
  laidMetH_of_parts3 (fuel := 8) (laidMet_of_run' 8 (by kernel_rfl) (by kernel_rfl)) (by kernel_rfl) (by kernel_rfl)
set_option maxRecDepth 100000 in
theorem valueNesting_lifted (os : Os) (started : os.Started) (H : Type) (enc : TypeId × Value → H) :
    ReturnsInHanded {} Tryd.checked os 3 .any (fun w args => (Rows.valueNestingSpec.pre enc Tryd.prog Tryd.f3 Rows.valueNestingRow.domain false w args ∧ laidMetH Tryd.prog Rows.valueNestingRow.laid w) ∧ sizedMet enc Tryd.prog Tryd.f3 (OpenSpec.ofChange Rows.valueNestingSpec) false w args) (Rows.valueNestingSpec.post enc Tryd.prog Tryd.f3 false true false false) := by
  refine returnsInHanded_of_change_and (C := Tryd.checked) (X := fun w _ => laidMetH Tryd.prog Rows.valueNestingRow.laid w) (fun _ _ _ hh h => h.of_heap hh) Tryd.own started (by kernel_rfl) Tryd.func3
    (ChangeSpec.witness_shaped (enc := enc) (C := Tryd.checked) (os := os) (X := fun w _ => laidMetH Tryd.prog Rows.valueNestingRow.laid w) false (World.doorLaid Tryd.prog 400 os) #[.int .u8 0] 8 rfl (World.shaped_of_RefB (by kernel_rfl) (by kernel_rfl)) (by kernel_rfl) (by kernel_rfl) (by kernel_rfl) (door_met os _)) ?_
  intro W base args ds gs before hval0 hW _ _ hL _
  have hval : ∀ (j : Nat) t v, Tryd.f3.params[j]? = some t → args[j]? = some v → Value.okWide Tryd.prog W .any base t v := hval0
  have hW' := hW
  obtain ⟨p, q, hA0, hV, rfl, hfz, hnd⟩ := hW
  have hA : DataW.TrodAll enc Tryd.prog W 0 (fun _ => true) true Tryd.f3.params.toList args.toList ds p := hA0
  rw [Tryd.params3] at hA hval
  obtain ⟨v0, vs0, d0, ds0, p0, q0, hargs, rfl, rfl, h0, r0⟩ := trodAll_cons hA
  obtain ⟨rfl, rfl, rfl⟩ := trodAll_nil r0
  obtain rfl : args = #[v0] := by cases args; simp_all
  obtain ⟨rfl, rfl⟩ := trodVars_none hV
  clear hA0
  simp only [List.append_nil] at hW'
  have hlt := hW'.lt
  obtain ⟨x0, qq0, g0, s0⟩ := arg_open o_uint8 (plain_int Tryd.underlying5 (hval 0 5 v0 rfl rfl)) h0
  refine (Pure.call (m_law9_ValueNesting_ok x0 true (valueNesting_true x0 qq0)) (vs := [v0]) ⟨g0.1, trivial⟩).mono fun e W' ⟨he, hb⟩ => ?_
  subst he
  exact ⟨_, rfl, post_of_below (pa := p0 ++ []) (pv := []) hW' (fun _ _ _ => trodAll_cons_mk (shut_bool Tryd.underlying4 true) trodAll_mk0)
    (fun sp hsp => trodAll_cons_mk (trod_after (by kernel_rfl) (of_decide_eq_true (by kernel_rfl)) h0 hb (fun x hx => hlt x (by simp [hx])) (fun x hx => by simp [hx]) sp hsp) (trodAll_mk0))
    (fun _ _ => rfl) (by simp) hb (ok_one (by kernel_rfl) rfl (okWide_bool_mk Tryd.underlying4 true))⟩

theorem valueNesting_holds : Rows.ValueNestingSaid :=
  OpenClaim.holds_of_wide 3 Tryd.f3 rfl rfl rfl rfl rfl rfl rfl ⟨rfl, rfl, rfl, rfl, rfl⟩ rfl rfl rfl rfl rfl (by kernel_rfl) Tryd.func3 (by kernel_rfl)
    (of_decide_eq_true (by kernel_rfl)) (by unfold Func.isWrapper; first | (rw [if_pos (by decide +kernel)]; kernel_rfl) | (rw [if_neg (by decide +kernel)]; exact ⟨rfl, rfl⟩))
    (fun os started H enc _ => valueNesting_lifted os started H enc)

theorem valueNesting_card_holds : Rows.ValueNestingCardSaid :=
  Claim7.holds_tied_plain_at .later [] [.data, .data, .data] true (true, "e728e7cc9414a6b8d556754343556f9f4e9fd019c343880897e17820e002bc2c") false
    valueNesting_holds (fun _ h => by cases h) (by kernel_rfl) (fun _ h => by cases h) valueNesting_row_tie rfl ⟨rfl, rfl⟩ (by kernel_rfl) rfl
    (fun f fn hf hfn => by
      obtain rfl : f = 3 := Option.some.inj ((show Tryd.prog.funcNamed "cspcheck/cspchecklaw9.ValueNesting" = some 3 by kernel_rfl).symm.trans hf) |>.symm
      obtain rfl : fn = Tryd.f3 := (Option.some.inj (Tryd.func3.symm.trans hfn)).symm
      exact ⟨by kernel_rfl, fun j t ht => by
        rw [Tryd.params3] at ht
        have hm : t ∈ [5] := by simpa using Array.mem_of_getElem? ht
        have hall : ([5].all fun u => !Tryd.prog.wantsStandIn u) = true := by kernel_rfl
        exact (show Tryd.prog.wantsStandIn t = false by simpa using List.all_eq_true.1 hall t hm)⟩)
    (by kernel_rfl)
end Go.Proofs.YtdppkpiagdaigaaDoor
