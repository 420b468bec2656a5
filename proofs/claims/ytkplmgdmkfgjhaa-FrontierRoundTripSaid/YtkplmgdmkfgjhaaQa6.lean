/- FrontierRoundTrip: for every input the call returns true, and the arguments read as before. No condition. -/
import Derived.Test.YtkplmgdmkfgjhaaQa3
import Derived.Test.YtkplmgdmkfgjhaaQa5
import Derived.Test.YtkplmgdmkfgjhaaQa1
namespace Go.Proofs.Ytkplmgdmkfgjhaa
open Go.ChangeShapes Go.WideShapes Go.ChangeAt Go.RowKit

theorem o_int : Opens Try.prog 3 1 (fun x : Int => [.exact (.int .i64 x)]) (fun _ => 1) (fun x => (Lit.int .i64 x).wf = true) := fun e0 W fuel cs y h => (opens_int Try.underlying3) e0 W fuel cs y h
theorem o_L_int : Opens Try.prog 22 1 (fun xs : List Int => [.row 1 c_int xs]) (fun xs => szL (fun _ => 1) xs + 1) (fun xs => xs.length ≤ maxLen ∧ ∀ x ∈ xs, (fun x => (Lit.int .i64 x).wf = true) x) := fun e0 W fuel cs y h => (opens_slice Try.underlying22 (by kernel_rfl) (by decide) o_int) e0 W fuel cs y h
set_option maxRecDepth 100000 in
theorem frontierRoundTrip_lifted (os : Os) (started : os.Started) (H : Type) (enc : TypeId × Value → H) :
    ReturnsInHanded {} Try.checked os 5 .any (Rows.frontierRoundTripSpec.pre6 enc Try.prog Try.f5 Rows.frontierRoundTripRow.domain false) (Rows.frontierRoundTripSpec.post enc Try.prog Try.f5 false true false false) := by
  refine returnsInHanded_of_change (C := Try.checked) Try.own started (by kernel_rfl) Try.func5
    (ChangeSpec.witness6 (enc := enc) (C := Try.checked) false ⟨#[], #[.slice none 0 0, .int .i64 0], []⟩ 8 (by kernel_rfl) (by kernel_rfl) (by kernel_rfl) (by kernel_rfl)) ?_
  intro W base args ds gs before hval0 hW hcnd _
  have hval : ∀ (j : Nat) t v, Try.f5.params[j]? = some t → args[j]? = some v → Value.okWide Try.prog W .any base t v := hval0
  have hW' := hW
  obtain ⟨p, q, hA0, hV, rfl, hfz, hnd⟩ := hW
  have hA : DataW.TrodAll enc Try.prog W 0 (fun _ => true) true Try.f5.params.toList args.toList ds p := hA0
  rw [Try.params5] at hA hval
  obtain ⟨v0, vs0, d0, ds0, p0, q0, hargs, rfl, rfl, h0, r0⟩ := trodAll_cons hA
  obtain ⟨v1, vs1, d1, ds1, p1, q1, rfl, rfl, rfl, h1, r1⟩ := trodAll_cons r0
  obtain ⟨rfl, rfl, rfl⟩ := trodAll_nil r1
  obtain rfl : args = #[v0, v1] := by cases args; simp_all
  obtain ⟨rfl, rfl⟩ := trodVars_none hV
  clear hA0
  simp only [List.append_nil] at hW'
  have hlt := hW'.lt
  obtain ⟨x0, qq0, g0, s0⟩ := arg_open o_L_int (plain_slice Try.underlying22 (hval 0 22 v0 rfl rfl)) h0
  obtain ⟨x1, qq1, g1, s1⟩ := arg_open o_int (plain_int Try.underlying3 (hval 1 3 v1 rfl rfl)) h1
  refine (Pure.call (m_law36_FrontierRoundTrip_ok x0 x1 true (frontierRoundTrip_true x0 x1)) (vs := [v0, v1]) ⟨g0.1, g1.1, trivial⟩).mono fun e W' ⟨he, hb⟩ => ?_
  subst he
  exact ⟨_, rfl, post_of_below (pa := p0 ++ (p1 ++ [])) (pv := []) hW' (fun _ _ _ => trodAll_cons_mk (shut_bool Try.underlying4 true) trodAll_mk0)
    (fun sp hsp => trodAll_cons_mk (trod_after (by kernel_rfl) (of_decide_eq_true (by kernel_rfl)) h0 hb (fun x hx => hlt x (by simp [hx])) (fun x hx => by simp [hx]) sp hsp) (trodAll_cons_mk (trod_after (by kernel_rfl) (of_decide_eq_true (by kernel_rfl)) h1 hb (fun x hx => hlt x (by simp [hx])) (fun x hx => by simp [hx]) sp hsp) (trodAll_mk0)))
    (fun _ _ => rfl) (by simp) hb (ok_one (by kernel_rfl) rfl (okWide_bool_mk Try.underlying4 true))⟩

theorem frontierRoundTrip_holds : Rows.FrontierRoundTripSaid :=
  OpenClaim.holds_of_wide 5 Try.f5 rfl rfl rfl rfl rfl rfl rfl ⟨rfl, rfl, rfl, rfl, rfl⟩ rfl rfl rfl rfl rfl (by kernel_rfl) Try.func5 (by kernel_rfl)
    (of_decide_eq_true (by kernel_rfl)) (by unfold Func.isWrapper; first | (rw [if_pos (by decide +kernel)]; kernel_rfl) | (rw [if_neg (by decide +kernel)]; exact ⟨rfl, rfl⟩))
    (fun os started H enc _ => frontierRoundTrip_lifted os started H enc)

end Go.Proofs.Ytkplmgdmkfgjhaa
