/- The nil slice: its capacity, its empty part. -/
import Derived.Test.YtkplmgdmkfgjhaaCk
namespace Go.Proofs.Ytkplmgdmkfgjhaa
open Go.RowKit

section
variable {P : Program} {af : AF} {d : Option Tmp} {ty t : TypeId} {pos : String} {after : Array Edge} {g : Option (Nat × Bool)} {n : Nat} {K : AF → Prop} {x : Operand}
theorem op_cap_nil (hB : isSliceB P t = true) (hx : af.ev x = .exact (.slice none 0 0)) (hk : K (af.put d (.exact (.int .i64 0)))) :
    opA P ⟨d, .call { callee := .builtin .cap, args := #[x], argTypes := #[t] }, ty, pos, after, g⟩ af K := by
  refine ⟨_, fun M w ev _ h => ?_, hk⟩
  obtain ⟨e, hu⟩ := isSliceB_spec hB
  have e1 := opnd h (x := x) (by simp [Op.operands, Call.operands]) hx
  simp [execOp, resolve, invoke, builtin, Builtin.cap_, e1, run_under hu, goInt, go_sem, UponQ]
  exact ⟨Keeps.refl _ _, rfl⟩
theorem op_slice_nil {hi : Option Operand} (hB : sliceB P t n = true) (hx : af.ev x = .exact (.slice none 0 0)) (hhi : bnd af hi 0 0) (hk : K (af.put d (.exact (.slice none 0 0)))) : opA P ⟨d, .slice t x none hi none, ty, pos, after, g⟩ af K := by
  refine ⟨_, fun M w ev _ h => ?_, hk⟩
  have e1 := opnd h (x := x) (by cases hi <;> simp [Op.operands]) hx
  obtain ⟨e, hu, hs⟩ := sliceB_spec hB
  have hrun : (execOp ev ⟨d, .slice t x none hi none, ty, pos, after, g⟩).run P w = .ok (.value (.slice none 0 0)) w := by
    have hb : (Instr.sliceBounds true 0 0 none (hi.map ev) none).run P w = .ok (0, 0, 0) w := by
      unfold Instr.sliceBounds
      simp only [Sem.run_bind, Sem.run_pure, Result.andThen_ok]
      cases hi with
      | none => simp [go_sem]
      | some o =>
        obtain ⟨k, hk⟩ := hhi
        have e2 := opnd h (x := o) (by simp [Op.operands]) hk
        simp [Instr.sliceBound, asIntOf, e2, go_sem]
    unfold execOp
    simp only [Instr.sliceAt, Instr.slice, e1, Sem.run_bind, run_under hu, Result.andThen_ok, Option.map_none, hb, run_size hs, Sem.run_pure, Nat.sub_zero, Nat.zero_mul]
    simp
  rw [hrun]
  exact ⟨Keeps.refl _ _, rfl⟩
end
end Go.Proofs.Ytkplmgdmkfgjhaa
