/- append(nil, make(n)): a new row in use, of zeros. -/
import Derived.Test.YtkplmgdmkfgjhaaCi
import Derived.Lib.AppendZeros
namespace Go.Proofs.Ytkplmgdmkfgjhaa
open Go.RowKit

section
variable {P : Program} {af : AF} {σ : Items} {d : Option Tmp} {ty t tn : TypeId} {pos : String} {after : Array Edge} {g : Option (Nat × Bool)} {α : Type} {n : Nat} {enc : α → List AV} {K : AF → Items → Prop}
theorem op_appMake0 {s x : Operand} {i : Int} {k kn : IntKind} {zr : α} {z : Value} (hE : elB P t n = true) (htn : P.underlying tn = some (.int kn)) (hs : af.ev s = .exact (.slice none 0 0)) (hx : af.ev x = .exact (.int k i)) (h0 : 0 ≤ i) (h1 : i ≤ 137438953472) (he : ∀ x, (enc x).length = n)
    (hz : ∀ w, (zeroValue (elemOfT P t)).run P w = .ok z w) (hzf : ∀ M w, Fit M w (enc zr) z.cells.toList) (hk : ∀ v', K (af.put d (.exact v')) (vecT P t n enc v' (List.replicate i.toNat zr) :: σ)) :
    opB P ⟨d, .call { callee := .builtin .append, args := #[s, x], argTypes := #[t, tn] }, ty, pos, after, g⟩ af σ K := by
  refine ⟨fun a s => ∃ v', a = .exact v' ∧ s = vecT P t n enc v' (List.replicate i.toNat zr) :: σ, fun F w ev hg h => ?_, fun av s ⟨v', e1, e2⟩ => by subst e1 e2; exact hk v'⟩
  obtain ⟨ht, hn0, I, zz, hi, hz', hi1, hi2, hi3⟩ := elB_spec hE
  have e1 := opnd h (x := s) (by simp [Op.operands, Call.operands]) hs
  have e2 := opnd h (x := x) (by simp [Op.operands, Call.operands]) hx
  obtain ⟨m, rfl⟩ : ∃ m : Nat, i = m := ⟨i.toNat, by omega⟩
  have hzz : zz = z := by
    have a1 := run_zero (P := P) (t := elemOfT P t) (z := zz) (w := w) (by rw [hi]; exact hz')
    have a2 := hz w
    rw [a1] at a2
    injection a2
  subst hzz
  simp only [Int.toNat_natCast]
  by_cases hm : m = 0
  · subst hm
    have hw : IntKind.i64.wrap 0 = 0 := rfl
    have happ : (Builtin.append_ #[t, tn] ty #[.slice none 0 0, .int k ((0 : Nat) : Int)]).run P w = .ok (.slice none 0 0) w := by
      simp [Builtin.append_, run_underlying ht, run_underlying htn, sizeOf, typeInfo, hi, asInt, asIntOf, hw]
    have hrun : (execOp ev ⟨d, .call { callee := .builtin .append, args := #[s, x], argTypes := #[t, tn] }, ty, pos, after, g⟩).run P w = .ok (.value (.slice none 0 0)) w := by
      unfold execOp
      simp only [resolve, invoke, builtin, Sem.run_bind, Sem.run_pure, Result.andThen_ok, List.map_toArray, List.map_cons, List.map_nil, e1, e2, happ]
    rw [hrun]
    refine ⟨_, _, ⟨_, rfl, rfl⟩, good_nilvec hg, (Keeps.refl noB w).mono (fun _ _ h => h.elim), fun k h _ => (own_nilvec k).1 h, rfl⟩
  · have hbyt : m * I.bytes ≤ 281474976710656 := Nat.le_trans (Nat.mul_le_mul (show m ≤ 137438953472 by omega) hi2) (by omega)
    have happ := Go.Lib.run_append_nil_zeros w t tn ty (elemOfT P t) I zz k kn ht htn hi hz' m (by omega) (by omega) (by omega) hbyt
    have hge := grownCap_ge w m 0 (elemOfT P t)
    have hmx := grownCap_le_maxLen w m 0 (elemOfT P t) (by unfold maxLen; omega)
    generalize grownCap w m 0 (elemOfT P t) = c at *
    have hrun : (execOp ev ⟨d, .call { callee := .builtin .append, args := #[s, x], argTypes := #[t, tn] }, ty, pos, after, g⟩).run P w = .ok (.value (.slice (some ⟨w.heap.size, 0, none⟩) m c)) (w.drew.alloc (.cells (Builtin.zeroCells zz.cells m ++ Builtin.zeroCells zz.cells (c - m)) (elemOfT P t))) := by
      unfold execOp
      simp only [resolve, invoke, builtin, Sem.run_bind, Sem.run_pure, Result.andThen_ok, List.map_toArray, List.map_cons, List.map_nil, e1, e2, happ]
    rw [hrun]
    have hg' : Good F σ w.drew := hg.keep (Keeps.drew noB w)
    have hb : (w.drew.alloc (.cells (Builtin.zeroCells zz.cells m ++ Builtin.zeroCells zz.cells (c - m)) (elemOfT P t))).heap[w.drew.heap.size]? = some (.cells (Builtin.zeroCells zz.cells m ++ Builtin.zeroCells zz.cells (c - m)) (elemOfT P t) (0, 0)) := heap_alloc_new w.drew _
    have hzs : ∀ q, (Builtin.zeroCells zz.cells q).size = q * n := fun q => by simp [Builtin.zeroCells, hi3]
    have hout := out_new (post := fun a s => ∃ v', a = .exact v' ∧ s = vecT P t n enc v' (List.replicate m zr) :: σ) (it := vecT P t n enc (.slice (some ⟨w.drew.heap.size, 0, none⟩) m c) (List.replicate m zr)) hg' (by simp [vecT, vecI, Value.ownBlock])
      (fun M hM => ⟨(Builtin.zeroCells zz.cells m).toList, ⟨by simp [hzs], .inr ⟨w.drew.heap.size, c, _, by simp, Nat.zero_le _, hb, by simpa using hge, hmx, by simp only [Array.size_append, hzs, ← Nat.add_mul]; congr 1; omega, by simp [hzs]⟩⟩, fit_zeros (hzf _ _) m⟩) (fun M => rfl) ⟨_, rfl, rfl⟩
    obtain ⟨av, s', p1, p2, p3, p4, p5⟩ := hout
    exact ⟨av, s', p1, p2, ((Keeps.drew noB w).mono (fun _ _ h => h.elim)).trans p3, p4, p5⟩
end
end Go.Proofs.Ytkplmgdmkfgjhaa
