/- FrontierDecode: for every tape, all data and every place the call returns true, and the arguments read as before. -/
import Derived.Test.YtkplmgdmkfgjhaaOb
import Derived.Test.YtkplmgdmkfgjhaaP3
import Derived.Test.YtkplmgdmkfgjhaaDi
namespace Go.Proofs.Ytkplmgdmkfgjhaa
open Go.ChangeShapes Go.WideShapes Go.ChangeAt Go.RowKit

theorem wf_u8 (n : Int) (h : (Lit.int .u8 n).wf = true) : c_uint8 (UInt8.ofNat n.toNat) = [.exact (.int .u8 n)] := by
  have h' : 0 ≤ n ∧ n ≤ 255 := by simpa [Lit.wf, IntKind.min, IntKind.max, IntKind.signed, IntKind.bits] using h
  have h2 : ((UInt8.ofNat n.toNat).toNat : Int) = n := by
    simp only [UInt8.toNat_ofNat']
    omega
  show [AV.exact (.int .u8 ((UInt8.ofNat n.toNat).toNat : Int))] = _
  rw [h2]

set_option maxRecDepth 100000 in
theorem frontierDecode_lifted (os : Os) (started : os.Started) (H : Type) (enc : TypeId × Value → H) :
    ReturnsInHanded {} Try.checked os 4 .any (Rows.frontierDecodeSpec.pre6 enc Try.prog Try.f4 Rows.frontierDecodeRow.domain false) (Rows.frontierDecodeSpec.post enc Try.prog Try.f4 false true false false) := by
  refine returnsInHanded_of_change (C := Try.checked) Try.own started (by kernel_rfl) Try.func4
    (ChangeSpec.witness6 (enc := enc) (C := Try.checked) false ⟨#[], #[.slice none 0 0, .slice none 0 0, .int .i64 0], []⟩ 8 (by kernel_rfl) (by kernel_rfl) (by kernel_rfl) (by kernel_rfl)) ?_
  intro W base args ds gs before hval0 hW hcnd _
  have hval : ∀ (j : Nat) t v, Try.f4.params[j]? = some t → args[j]? = some v → Value.okWide Try.prog W .any base t v := hval0
  have hW' := hW
  obtain ⟨p, q, hA0, hV, rfl, hfz, hnd⟩ := hW
  have hA : DataW.TrodAll enc Try.prog W 0 (fun _ => true) true Try.f4.params.toList args.toList ds p := hA0
  rw [Try.params4] at hA hval
  obtain ⟨v0, v1, v2, d0, d1, d2, p0, p1, p2, rfl, rfl, rfl, h0, h1, h2⟩ := trodAll_three hA
  obtain ⟨rfl, rfl⟩ := trodVars_none hV
  simp only [List.append_nil] at hW'
  have hlt := hW'.lt
  obtain ⟨xs, hxw, hx⟩ := arg_row (enc := c_int) id (fun n _ => rfl) Try.underlying22 Try.underlying3 (by kernel_rfl) (okWide_slice Try.underlying22 (hval 0 22 v0 rfl rfl)) h0
  obtain ⟨ys, hyw, hy⟩ := arg_row (enc := c_uint8) (fun n => UInt8.ofNat n.toNat) wf_u8 Try.underlying32 Try.underlying5 (by kernel_rfl) (okWide_slice Try.underlying32 (hval 1 32 v1 rfl rfl)) h1
  obtain ⟨i, rfl, hi1, hi2, hi3⟩ := open_int Try.underlying3 (hval 2 3 v2 rfl rfl) h2
  refine (Pure.call (m_law36_FrontierDecode_ok _ _ i true (frontierDecode_true _ _ i)) (vs := [v0, v1, .int .i64 i]) ⟨hx, hy, rfl, trivial⟩).mono fun e W' ⟨he, hb⟩ => ?_
  subst he
  exact ⟨_, rfl, post_of_below (pa := p0 ++ (p1 ++ p2)) (pv := []) hW' (fun _ _ _ => trodAll_mk1 (shut_bool Try.underlying4 true))
    (fun sp hsp => trodAll_mk3 (trod_after (by kernel_rfl) (of_decide_eq_true (by kernel_rfl)) h0 hb (fun x hx => hlt x (by simp [hx])) (fun x hx => by simp [hx]) sp hsp)
      (trod_after (by kernel_rfl) (of_decide_eq_true (by kernel_rfl)) h1 hb (fun x hx => hlt x (by simp [hx])) (fun x hx => by simp [hx]) sp hsp)
      (trod_after (by kernel_rfl) (of_decide_eq_true (by kernel_rfl)) h2 hb (fun x hx => hlt x (by simp [hx])) (fun x hx => by simp [hx]) sp hsp))
    (fun _ _ => rfl) (by simp) hb (ok_one (by kernel_rfl) rfl (okWide_bool_mk Try.underlying4 true))⟩

theorem frontierDecode_holds : Rows.FrontierDecodeSaid :=
  OpenClaim.holds_of_wide 4 Try.f4 rfl rfl rfl rfl rfl rfl rfl ⟨rfl, rfl, rfl, rfl, rfl⟩ rfl rfl rfl rfl rfl (by kernel_rfl) Try.func4 (by kernel_rfl)
    (of_decide_eq_true (by kernel_rfl)) (by unfold Func.isWrapper; first | (rw [if_pos (by decide +kernel)]; kernel_rfl) | (rw [if_neg (by decide +kernel)]; exact ⟨rfl, rfl⟩))
    (fun os started H enc _ => frontierDecode_lifted os started H enc)

end Go.Proofs.Ytkplmgdmkfgjhaa
