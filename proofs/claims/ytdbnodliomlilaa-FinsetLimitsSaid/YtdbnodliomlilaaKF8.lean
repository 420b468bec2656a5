/- FinsetLimits: for every input the call returns true, and the arguments read as before. No condition. -/
import Derived.Test.YtdbnodliomlilaaKF4
import Derived.Test.YtdbnodliomlilaaKF7
import Derived.Test.YtdbnodliomlilaaKF2
namespace Go.Proofs.Ytdbnodliomlilaa
open Go.ChangeShapes Go.WideShapes Go.ChangeAt Go.RowKit

theorem o_uint8 : Opens Try.prog 5 1 (fun x : UInt8 => [.exact (.int .u8 (x.toNat : Int))]) (fun _ => 1) (fun _ => True) := fun e0 W fuel cs y h => (opens_u8 Try.underlying5) e0 W fuel cs y h
theorem o_bool : Opens Try.prog 4 1 (fun x : Bool => [.exact (.bool x)]) (fun _ => 1) (fun _ => True) := fun e0 W fuel cs y h => (opens_bool Try.underlying4) e0 W fuel cs y h
set_option maxRecDepth 100000 in
theorem finsetLimits_lifted (os : Os) (started : os.Started) (H : Type) (enc : TypeId × Value → H) :
    ReturnsInHanded {} Try.checked os 6 .any (Rows.finsetLimitsSpec.pre6 enc Try.prog Try.f6 Rows.finsetLimitsRow.domain false) (Rows.finsetLimitsSpec.post enc Try.prog Try.f6 false true false false) := by
  refine returnsInHanded_of_change (C := Try.checked) Try.own started (by kernel_rfl) Try.func6
    (ChangeSpec.witness6 (enc := enc) (C := Try.checked) false ⟨#[], #[.int .u8 0, .bool false], []⟩ 8 (by kernel_rfl) (by kernel_rfl) (by kernel_rfl) (by kernel_rfl)) ?_
  intro W base args ds gs before hval0 hW hcnd _
  have hval : ∀ (j : Nat) t v, Try.f6.params[j]? = some t → args[j]? = some v → Value.okWide Try.prog W .any base t v := hval0
  have hW' := hW
  obtain ⟨p, q, hA0, hV, rfl, hfz, hnd⟩ := hW
  have hA : DataW.TrodAll enc Try.prog W 0 (fun _ => true) true Try.f6.params.toList args.toList ds p := hA0
  rw [Try.params6] at hA hval
  obtain ⟨v0, vs0, d0, ds0, p0, q0, hargs, rfl, rfl, h0, r0⟩ := trodAll_cons hA
  obtain ⟨v1, vs1, d1, ds1, p1, q1, rfl, rfl, rfl, h1, r1⟩ := trodAll_cons r0
  obtain ⟨rfl, rfl, rfl⟩ := trodAll_nil r1
  obtain rfl : args = #[v0, v1] := by cases args; simp_all
  obtain ⟨rfl, rfl⟩ := trodVars_none hV
  clear hA0
  simp only [List.append_nil] at hW'
  have hlt := hW'.lt
  obtain ⟨x0, qq0, g0, s0⟩ := arg_open o_uint8 (plain_int Try.underlying5 (hval 0 5 v0 rfl rfl)) h0
  obtain ⟨x1, qq1, g1, s1⟩ := arg_open o_bool (plain_bool Try.underlying4 (hval 1 4 v1 rfl rfl)) h1
  refine (Pure.call (m_law10_FinsetLimits_ok x0 x1 true (finsetLimits_true x0 x1 qq0 qq1)) (vs := [v0, v1]) ⟨g0.1, g1.1, trivial⟩).mono fun e W' ⟨he, hb⟩ => ?_
  subst he
  exact ⟨_, rfl, post_of_below (pa := p0 ++ (p1 ++ [])) (pv := []) hW' (fun _ _ _ => trodAll_cons_mk (shut_bool Try.underlying4 true) trodAll_mk0)
    (fun sp hsp => trodAll_cons_mk (trod_after (by kernel_rfl) (of_decide_eq_true (by kernel_rfl)) h0 hb (fun x hx => hlt x (by simp [hx])) (fun x hx => by simp [hx]) sp hsp) (trodAll_cons_mk (trod_after (by kernel_rfl) (of_decide_eq_true (by kernel_rfl)) h1 hb (fun x hx => hlt x (by simp [hx])) (fun x hx => by simp [hx]) sp hsp) (trodAll_mk0)))
    (fun _ _ => rfl) (by simp) hb (ok_one (by kernel_rfl) rfl (okWide_bool_mk Try.underlying4 true))⟩

theorem finsetLimits_holds : Rows.FinsetLimitsSaid :=
  OpenClaim.holds_of_wide 6 Try.f6 rfl rfl rfl rfl rfl rfl rfl ⟨rfl, rfl, rfl, rfl, rfl⟩ rfl rfl rfl rfl rfl (by kernel_rfl) Try.func6 (by kernel_rfl)
    (of_decide_eq_true (by kernel_rfl)) (by unfold Func.isWrapper; first | (rw [if_pos (by decide +kernel)]; kernel_rfl) | (rw [if_neg (by decide +kernel)]; exact ⟨rfl, rfl⟩))
    (fun os started H enc _ => finsetLimits_lifted os started H enc)

end Go.Proofs.Ytdbnodliomlilaa
