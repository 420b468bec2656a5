/- clear of a part of a row in use. -/
import Derived.Test.YtkplmgdmkfgjhaaCh
namespace Go.Proofs.Ytkplmgdmkfgjhaa
open Go.RowKit

theorem zeroCells_succ (zc : Array Value) (m : Nat) : (Builtin.zeroCells zc (m + 1)).toList = zc.toList ++ (Builtin.zeroCells zc m).toList := by
  simp only [Builtin.zeroCells, Array.toList_map, Array.toList_range]
  rw [show (m + 1) * zc.size = zc.size + m * zc.size by rw [Nat.add_mul]; omega, List.range_add, List.map_append, List.map_map]
  congr 1
  · apply List.ext_getElem
    · simp
    · intro i h1 h2
      simp at h1
      simp [Nat.mod_eq_of_lt h1, h1]
  · apply List.map_congr_left
    intro i _
    simp [Nat.add_mod_left]

theorem Fit.nil0 {M : BSet} {w : World} : Fit M w [] [] := trivial
theorem Fit.ex {M : BSet} {w : World} {v : Value} {c : List AV} {vs : List Value} (h : Fit M w c vs) : Fit M w (.exact v :: c) (v :: vs) := ⟨rfl, h⟩
theorem Fit.rw0 {M : BSet} {w : World} {α : Type} {n : Nat} {enc : α → List AV} {c : List AV} {vs : List Value} (h : Fit M w c vs) : Fit M w (.row n enc [] :: c) (.slice none 0 0 :: vs) := ⟨⟨none, 0, rfl, by simp, by simp, fun h => absurd rfl h⟩, h⟩
section
variable {P : Program} {af : AF} {ρ : Items} {d : Option Tmp} {ty t : TypeId} {pos : String} {after : Array Edge} {g : Option (Nat × Bool)} {α : Type} {n : Nat} {enc : α → List AV} {xs : List α} {v : Value} {K : AF → Items → Prop}

theorem fit_zeros {M : BSet} {w : World} {zr : α} {zc : Array Value} (hz : Fit M w (enc zr) zc.toList) : ∀ m : Nat, Fit M w ((List.replicate m zr).flatMap enc) (Builtin.zeroCells zc m).toList
  | 0 => by simp [Builtin.zeroCells, Fit]
  | m + 1 => by
    rw [zeroCells_succ, List.replicate_succ, List.flatMap_cons]
    exact hz.app (fit_zeros hz m)
theorem flat_parts (he : ∀ x, (enc x).length = n) : ∀ (ys : List α) (k : Nat), (ys.flatMap enc).take (k * n) = (ys.take k).flatMap enc ∧ (ys.flatMap enc).drop (k * n) = (ys.drop k).flatMap enc := by
  intro ys
  induction ys with
  | nil => simp
  | cons y ys ih =>
    intro k
    cases k with
    | zero => simp
    | succ k =>
      have hl : (enc y).length = n := he y
      rw [List.flatMap_cons, Nat.add_mul, Nat.one_mul, Nat.add_comm (k * n) n]
      constructor
      · rw [← hl, List.take_length_add_append, hl, (ih k).1]; rfl
      · rw [← hl, List.drop_length_add_append, hl, (ih k).2]; rfl

theorem op_clear {lo m : Nat} {zr : α} {z : Value} {x : Operand} (hE : elB P t n = true) (he : ∀ x, (enc x).length = n) (ho : ∀ x, OneC (enc x)) (hx : af.ev x = .vsub v n lo m) (hl : lo + m ≤ xs.length) (hz : ∀ w, (zeroValue (elemOfT P t)).run P w = .ok z w) (hzf : ∀ M w, Fit M w (enc zr) z.cells.toList)
    (hk : K (af.put d (.exact (.tuple #[]))) (vecT P t n enc v (xs.take lo ++ List.replicate m zr ++ xs.drop (lo + m)) :: ρ)) : opB P ⟨d, .call { callee := .builtin .clear, args := #[x], argTypes := #[t] }, ty, pos, after, g⟩ af (vecT P t n enc v xs :: ρ) K := by
  refine ⟨fun a s => a = .exact (.tuple #[]) ∧ s = vecT P t n enc v (xs.take lo ++ List.replicate m zr ++ xs.drop (lo + m)) :: ρ, fun F w ev hg h => ?_, fun av s ⟨e1, e2⟩ => by subst e1 e2; exact hk⟩
  obtain ⟨ht, hn0, I, zz, hi, hz', hi1, hi2, hi3⟩ := elB_spec hE
  obtain ⟨A, l, c, hv, hc1, hc2, e1⟩ := opnd_p h (x := x) (by simp [Op.operands, Call.operands]) hx
  have hlen : (xs.take lo ++ List.replicate m zr ++ xs.drop (lo + m)).length = xs.length := by simp; omega
  by_cases hm : m = 0
  · subst hm
    have hcl : (Builtin.clear_ #[t] ty #[ev x]).run P w = .ok (.tuple #[]) w := by
      rw [e1]
      split <;> (try cases A) <;> simp [Builtin.clear_, run_underlying ht]
    have hrun : (execOp ev ⟨d, .call { callee := .builtin .clear, args := #[x], argTypes := #[t] }, ty, pos, after, g⟩).run P w = .ok (.value (.tuple #[])) w := by
      unfold execOp
      simp only [resolve, invoke, builtin, Sem.run_bind, Sem.run_pure, Result.andThen_ok, List.map_toArray, List.map_cons, List.map_nil, hcl]
    rw [hrun]
    have hxs : xs.take lo ++ List.replicate 0 zr ++ xs.drop (lo + 0) = xs := by simp
    refine ⟨_, _, ⟨rfl, rfl⟩, by rw [hxs]; exact hg, (Keeps.refl noB w).mono (fun _ _ h => h.elim), by rw [hxs]; exact fun k h _ => h, rfl⟩
  · obtain ⟨b, c', cur, vs, hv', hb, hnc, hcm, hcs, htk, hfit⟩ := vec_cells (hg.items _ List.mem_cons_self) (by rintro rfl; simp at hl; omega)
    rw [hv'] at hv
    injection hv with q1 q2 q3
    subst q1 q2 q3
    rw [if_neg (by omega)] at e1
    have hadd : Option.map (fun x => x.add (lo * n)) (some (⟨b, 0, none⟩ : Addr)) = some ⟨b, lo * n, none⟩ := by simp [addr_add']
    rw [hadd] at e1
    have hbm : (lo + m) * n ≤ xs.length * n := Nat.mul_le_mul_right _ hl
    have hcn : xs.length * n ≤ cur.size := by rw [hcs]; exact Nat.mul_le_mul_right _ hnc
    have haddm : (lo + m) * n = lo * n + m * n := Nat.add_mul _ _ _
    have hfz := fun M w => fit_zeros (M := M) (w := w) (hzf M w) m
    have hul : (Builtin.zeroCells z.cells m).toList.length = m * n := by rw [← (hfz noB w).length, flat_len (fun x _ => he x), List.length_replicate]
    have h1c : ∀ u ∈ (Builtin.zeroCells z.cells m).toList, u.oneCell' = true := (OneC.flatT (xs := List.replicate m zr) ho).fit (hfz noB w)
    have hst := run_storeCells_at (P := P) b (lo * n) (elemOfT P t) (Builtin.zeroCells z.cells m).toList 0 cur w hb (by omega) h1c
    simp only [Nat.add_zero] at hst
    obtain ⟨m', rfl⟩ : ∃ k, m = k + 1 := ⟨m - 1, by omega⟩
    have hcl : (Builtin.clear_ #[t] ty #[ev x]).run P w = .ok (.tuple #[]) (w.setRow b (splc cur.toList (lo * n) (Builtin.zeroCells z.cells (m' + 1)).toList).toArray) := by
      rw [e1]
      simp [Builtin.clear_, run_underlying ht, hz, hst, splc]
    have hrun : (execOp ev ⟨d, .call { callee := .builtin .clear, args := #[x], argTypes := #[t] }, ty, pos, after, g⟩).run P w = .ok (.value (.tuple #[])) (w.setRow b (splc cur.toList (lo * n) (Builtin.zeroCells z.cells (m' + 1)).toList).toArray) := by
      unfold execOp
      simp only [resolve, invoke, builtin, Sem.run_bind, Sem.run_pure, Result.andThen_ok, List.map_toArray, List.map_cons, List.map_nil, hcl]
    rw [hrun]
    generalize hus : (Builtin.zeroCells z.cells (m' + 1)).toList = us at *
    generalize hmm : m' + 1 = m at *
    have hblt := (Array.getElem?_eq_some_iff.1 hb).1
    have hob : v.ownBlock = some b := by rw [hv']; rfl
    have hk : Keeps (fun k => k ∈ (vecT P t n enc v xs).own) w (w.setRow b (splc cur.toList (lo * n) us).toArray) := ⟨rfl, rfl, rfl, Nat.le_refl _, by simp, fun k hlt hn => by
      have hne : k ≠ b := fun e => hn (by simp [vecT, vecI, hob, e])
      simp [World.setRow, Array.getElem?_modify, Ne.symm hne]⟩
    have hsp : splc cur.toList (lo * n) us = splc (cur.toList.take (xs.length * n)) (lo * n) us ++ cur.toList.drop (xs.length * n) := by
      unfold splc
      rw [List.take_take, Nat.min_eq_left (by omega), List.append_assoc _ _ (cur.toList.drop (xs.length * n))]
      congr 1
      rw [List.drop_take]
      have h9 : lo * n + us.length + (xs.length * n - (lo * n + us.length)) = xs.length * n := by omega
      conv => rhs; rhs; rw [← h9, ← List.drop_drop]
      rw [List.take_append_drop]
    have hsl : (splc vs (lo * n) us).length = xs.length * n := by
      have hvl : vs.length = xs.length * n := by rw [← hfit.length, flat_len (fun x _ => he x)]
      unfold splc; simp; omega
    have hflat : splc (xs.flatMap enc) (lo * n) ((List.replicate m zr).flatMap enc) = (xs.take lo ++ List.replicate m zr ++ xs.drop (lo + m)).flatMap enc := by
      unfold splc
      rw [flat_len (fun x _ => he x), List.length_replicate, ← haddm, (flat_parts he xs lo).1, (flat_parts he xs (lo + m)).2, List.flatMap_append, List.flatMap_append]
    have hown : (w.setRow b (splc cur.toList (lo * n) us).toArray).ownsRow 0 (elemOfT P t) n v (xs.take lo ++ List.replicate m zr ++ xs.drop (lo + m)).length (splc vs (lo * n) us) := by
      refine ⟨by rw [hsl, hlen], .inr ⟨b, c', (splc cur.toList (lo * n) us).toArray, by rw [hlen]; exact hv', Nat.zero_le _, setRow_heap w b cur _ (elemOfT P t) _ hb, by rw [hlen]; exact hnc, hcm, ?_, ?_⟩⟩
      · unfold splc; simp; omega
      · rw [hlen, hsp, htk]
        simp [← hsl]
    obtain ⟨g1, g2, g3⟩ := good_head (it' := vecT P t n enc v (xs.take lo ++ List.replicate m zr ++ xs.drop (lo + m))) hg hk (fun k hk' => ⟨by simp [vecT, vecI, hob] at hk'; subst hk'; simpa using hblt, fun _ => hk'⟩) (by simp [vecT, vecI, hob])
      (fun hkk hMM => ⟨splc vs (lo * n) us, hown, by rw [← hflat]; exact (Fit.spl (lo * n) hfit (hfz _ _)).keep hkk hMM⟩)
    exact ⟨_, _, ⟨rfl, rfl⟩, g1, g2, g3, rfl⟩
theorem op_len_vsub {lo m : Nat} {x : Operand} {K : AF → Prop} (hB : isSliceB P t = true) (hx : af.ev x = .vsub v n lo m) (hk : K (af.put d (.exact (.int .i64 (m : Int))))) : opA P ⟨d, .call { callee := .builtin .len, args := #[x], argTypes := #[t] }, ty, pos, after, g⟩ af K := by
  refine ⟨_, fun M w ev _ h => ?_, hk⟩
  obtain ⟨A, l, c, _, _, _, hA⟩ := opnd_p h (x := x) (by simp [Op.operands, Call.operands]) hx
  obtain ⟨e, hu⟩ := isSliceB_spec hB
  simp [execOp, resolve, invoke, builtin, Builtin.len_, hA, run_under hu, goInt, go_sem, UponQ]
  exact ⟨Keeps.refl _ _, rfl⟩
theorem op_index_vsub {e : TypeId} {k : IntKind} {i j : Int} {lo m : Nat} {x y : Operand} {K : AF → Prop} (hB : sliceB P t n = true) (hx : af.ev x = .vsub v n lo m) (hy : af.ev y = .exact (.int k i)) (h0 : 0 ≤ i) (h1 : i.toNat < m) (hl : 0 < xs.length) (hj : j.toNat = lo + i.toNat) (hk : K (af.put d (.eptr v (j.toNat * n)))) :
    opR P ⟨d, .indexAddr t x y, ty, pos, after, g⟩ af (vecT P e n enc v xs :: ρ) K := by
  refine ⟨_, fun F w ev hg h => ?_, hk⟩
  obtain ⟨A, l, c, hv', hc1, hc2, e1⟩ := opnd_p h (x := x) (by simp [Op.operands]) hx
  have e2 := opnd h (x := y) (by simp [Op.operands]) hy
  obtain ⟨b, c', cur, vs, hv, _⟩ := vec_cells (hg.items _ List.mem_cons_self) (by rintro rfl; simp at hl)
  obtain ⟨e', hu, hs⟩ := sliceB_spec hB
  rw [hv] at hv'
  injection hv' with q1 q2 q3
  subst q1 q2 q3
  rw [if_neg (by omega)] at e1
  have hadd0 : Option.map (fun x => x.add (lo * n)) (some (⟨b, 0, none⟩ : Addr)) = some ⟨b, lo * n, none⟩ := by simp [addr_add']
  rw [hadd0] at e1
  have hadd : Addr.add ⟨b, lo * n, none⟩ (i.toNat * n) = ⟨b, j.toNat * n, none⟩ := by rw [addr_at, hj, Nat.add_mul]
  have h1' : i < (m : Int) := by omega
  subst hv
  simp [execOp, Instr.indexAt, e1, e2, run_under hu, asIntOf, h0, h1', run_size hs, hadd, go_sem, UponQ]
  exact ⟨Keeps.refl _ _, b, _, _, rfl, by rw [hj, Nat.add_mul]⟩
end
end Go.Proofs.Ytkplmgdmkfgjhaa
