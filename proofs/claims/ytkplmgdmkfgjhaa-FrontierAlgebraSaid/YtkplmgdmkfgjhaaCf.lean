/- Appending strings and nil; bools; the equality of aggregates; strings out of rows in use. -/
import Derived.Test.YtkplmgdmkfgjhaaCe
namespace Go.Proofs.Ytkplmgdmkfgjhaa
open Go.RowKit

section
variable {P : Program} {E : Env} {N : Nat} {af : AF} {σ ρ : Items} {w : World}
variable {d : Option Tmp} {ty : TypeId} {pos : String} {after : Array Edge} {g : Option (Nat × Bool)} {t t' e : TypeId} {x y z : Operand}

section
variable {K : AF → Prop}
theorem op_eqlB {a b : Bool} (hB : isBoolB P t = true) (hx : af.ev x = .exact (.bool a)) (hy : af.ev y = .exact (.bool b)) (hk : K (af.put d (.exact (.bool (decide (a = b)))))) : opA P ⟨d, .binOp .eql t x y t', ty, pos, after, g⟩ af K := op_eql_bool hB hx hy hk
theorem op_neqB {a b : Bool} (hB : isBoolB P t = true) (hx : af.ev x = .exact (.bool a)) (hy : af.ev y = .exact (.bool b)) (hk : K (af.put d (.exact (.bool (decide (¬ a = b)))))) : opA P ⟨d, .binOp .neq t x y t', ty, pos, after, g⟩ af K := by
  refine ⟨_, fun M w ev _ h => ?_, hk⟩
  have e1 := opnd h (x := x) (by simp [Op.operands]) hx
  have e2 := opnd h (x := y) (by simp [Op.operands]) hy
  have hq : (Op.equal t (.bool a) (.bool b)).run P w = .ok (decide (a = b)) w := by
    rw [run_equal_bool w t a b (isBoolB_spec hB)]
    cases a <;> cases b <;> rfl
  have hr : (execOp ev ⟨d, .binOp .neq t x y t', ty, pos, after, g⟩).run P w = .ok (.value (.bool (decide (¬ a = b)))) w := by
    unfold execOp
    simp only [eqGuard, binOp, e1, e2, Sem.run_bind, hq, Sem.run_pure, Result.andThen_ok]
    simp [go_sem]
    rw [hq]
    simp [go_sem]
  rw [hr]
  exact ⟨Keeps.refl _ _, rfl⟩
def guardB (P : Program) (t : TypeId) : Bool := !P.eqGuardType P.depth t
theorem op_eqlA {α : Type} [DecidableEq α] {enc : α → List AV} {a b : α} (hg : guardB P t = true) (heq : ∀ {M w vs us}, Fit M w (enc a) vs → Fit M w (enc b) us → (Op.equal t (.agg vs.toArray) (.agg us.toArray)).run P w = .ok (decide (a = b)) w) (hx : af.ev x = .agg (enc a)) (hy : af.ev y = .agg (enc b))
    (hk : K (af.put d (.exact (.bool (decide (a = b)))))) : opA P ⟨d, .binOp .eql t x y t', ty, pos, after, g⟩ af K := by
  refine ⟨_, fun M w ev _ h => ?_, hk⟩
  obtain ⟨vs, e1, f1⟩ := opnd_p h (x := x) (by simp [Op.operands]) hx
  obtain ⟨us, e2, f2⟩ := opnd_p h (x := y) (by simp [Op.operands]) hy
  have hg' : P.eqGuardType P.depth t = false := by simpa [guardB] using hg
  simp [execOp, eqGuard, run_prog, e1, e2, binOp, hg', heq f1 f2, go_sem, UponQ]
  exact ⟨Keeps.refl _ _, rfl⟩
theorem op_neqA {α : Type} [DecidableEq α] {enc : α → List AV} {a b : α} (hg : guardB P t = true) (heq : ∀ {M w vs us}, Fit M w (enc a) vs → Fit M w (enc b) us → (Op.equal t (.agg vs.toArray) (.agg us.toArray)).run P w = .ok (decide (a = b)) w) (hx : af.ev x = .agg (enc a)) (hy : af.ev y = .agg (enc b))
    (hk : K (af.put d (.exact (.bool (decide (¬ a = b)))))) : opA P ⟨d, .binOp .neq t x y t', ty, pos, after, g⟩ af K := by
  refine ⟨_, fun M w ev _ h => ?_, hk⟩
  obtain ⟨vs, e1, f1⟩ := opnd_p h (x := x) (by simp [Op.operands]) hx
  obtain ⟨us, e2, f2⟩ := opnd_p h (x := y) (by simp [Op.operands]) hy
  have hg' : P.eqGuardType P.depth t = false := by simpa [guardB] using hg
  simp [execOp, eqGuard, run_prog, e1, e2, binOp, hg', heq f1 f2, go_sem, UponQ]
  exact ⟨Keeps.refl _ _, by by_cases h : a = b <;> simp [h] <;> rfl⟩
theorem op_nilS (hB : bytesB P t t' = true) (hx : af.ev x = .exact (.slice none 0 0)) (hk : K (af.put d (.exact (.string (bs []))))) : opA P ⟨d, .convert t t' x, ty, pos, after, g⟩ af K := by
  refine ⟨_, fun M w ev _ h => ?_, hk⟩
  have e1 := opnd h (x := x) (by simp [Op.operands]) hx
  have hr : (execOp ev ⟨d, .convert t t' x, ty, pos, after, g⟩).run P w = .ok (.value (.string (bs []))) w := by
    unfold execOp
    simp only [e1, Sem.run_bind, run_bytes0 hB, Result.andThen_ok, Sem.run_pure]
  rw [hr]
  exact ⟨Keeps.refl _ _, rfl⟩
theorem op_bytesS_bor {enc : UInt8 → List AV} {a : List UInt8} (henc : enc = cU8) (hB : bytesB P t t' = true) (hx : Bor σ (af.ev x) (.row 1 enc a)) (hk : K (af.put d (.exact (.string (bs a))))) : opR P ⟨d, .convert t t' x, ty, pos, after, g⟩ af σ K := by
  subst henc
  refine ⟨_, fun F w ev hg h => ?_, hk⟩
  obtain ⟨A, c, hA, _, _, e4⟩ := hx F w (ev x) hg (h x (by simp [Op.operands]))
  have hr : (execOp ev ⟨d, .convert t t' x, ty, pos, after, g⟩).run P w = .ok (.value (.string (bs a))) w := by
    unfold execOp
    simp only [hA, Sem.run_bind, run_bytes_any (a := a) (A := A) (cap := c) hB (fun hne => by
      obtain ⟨b, off, rfl, _, _, hc⟩ := e4 hne
      exact ⟨b, off, rfl, fun j u hj => by
        obtain ⟨_, h2⟩ := hc j u hj
        obtain ⟨v, h3, h4⟩ := h2 0 _ rfl
        obtain rfl : v = .int .u8 (UInt8.toNat u : Int) := h4
        simpa using h3⟩), Result.andThen_ok, Sem.run_pure]
  rw [hr]
  exact ⟨Keeps.refl _ _, rfl⟩
theorem op_len_bor {α : Type} {n : Nat} {enc : α → List AV} {xs : List α} (hB : isSliceB P t = true) (hx : Bor σ (af.ev x) (.row n enc xs)) (hk : K (af.put d (.exact (.int .i64 (xs.length : Int))))) :
    opR P ⟨d, .call { callee := .builtin .len, args := #[x], argTypes := #[t] }, ty, pos, after, g⟩ af σ K := by
  refine ⟨_, fun F w ev hg h => ?_, hk⟩
  obtain ⟨A, c, hA, _⟩ := hx F w (ev x) hg (h x (by simp [Op.operands, Call.operands]))
  obtain ⟨e, hu⟩ := isSliceB_spec hB
  simp [execOp, resolve, invoke, builtin, Builtin.len_, hA, run_under hu, goInt, go_sem, UponQ]
  exact ⟨Keeps.refl _ _, rfl⟩
/-- A part of a row in use. -/
def AV.vsub (v : Value) (n lo m : Nat) : AV := ⟨fun _ _ u => ∃ A l c, v = .slice A l c ∧ lo ≤ c ∧ m ≤ c - lo ∧ u = .slice (if c = lo then A else A.map (·.add (lo * n))) m (c - lo), fun _ _ h => h⟩
theorem Bor.vsub {α : Type} {n lo m : Nat} {enc : α → List AV} {xs : List α} {v : Value} (hm : vecT P e n enc v xs ∈ σ) (he : ∀ x, (enc x).length = n) (hl : lo + m ≤ xs.length) : Bor σ (.vsub v n lo m) (.row n enc ((xs.drop lo).take m)) := fun F w u hg hx => by
  obtain ⟨A, l, c, rfl, hc1, hc2, rfl⟩ := hx
  obtain ⟨A', c', hv, h1, h2, h4⟩ := Bor.vec (w := w) hm he F _ hg rfl
  injection hv with g1 g2 g3
  subst g1 g2 g3
  have hlen : ((xs.drop lo).take m).length = m := by simp; omega
  refine ⟨(if c = lo then A else A.map (·.add (lo * n))), c - lo, by rw [hlen], by rw [hlen]; exact hc2, by omega, fun hne => ?_⟩
  have hxs : xs ≠ [] := by rintro rfl; simp at hne
  obtain ⟨b, off, rfl, hb, hn, hcell⟩ := h4 hxs
  have hpos : 0 < m := by
    rcases Nat.eq_zero_or_pos m with h | h
    · subst h; simp at hne
    · exact h
  rw [if_neg (by omega)]
  refine ⟨b, off + lo * n, by simp [addr_add'], hb, hn, fun q x hq => ?_⟩
  have hq' : xs[lo + q]? = some x := by
    rw [List.getElem?_take] at hq
    split at hq
    · rwa [List.getElem?_drop] at hq
    · cases hq
  obtain ⟨g1, g2⟩ := hcell _ _ hq'
  refine ⟨g1, ?_⟩
  have e : off + (lo + q) * n = off + lo * n + q * n := by rw [Nat.add_mul]; omega
  rwa [e] at g2
theorem op_slice_vec {α : Type} {n : Nat} {enc : α → List AV} {xs : List α} {v : Value} {lo hi : Option Operand} {i j : Int} (hB : sliceB P t n = true) (hx : af.ev x = .exact v) (hlo : bnd af lo 0 i) (hhi : bnd af hi xs.length j) (h0 : 0 ≤ i) (h1 : i ≤ j) (h2 : j ≤ xs.length)
    (hk : K (af.put d (.vsub v n i.toNat (j.toNat - i.toNat)))) : opR P ⟨d, .slice t x lo hi none, ty, pos, after, g⟩ af (vecT P e n enc v xs :: ρ) K := by
  refine ⟨_, fun F w ev hg h => ?_, hk⟩
  have e1 := opnd h (x := x) (by cases lo <;> cases hi <;> simp [Op.operands]) hx
  obtain ⟨vs, hown, _⟩ := hg.items _ List.mem_cons_self
  have hv : ∃ A c, v = .slice A xs.length c ∧ xs.length ≤ c := by
    rcases hown.2 with ⟨rfl, h0⟩ | ⟨g, cap, cur, rfl, _, _, hc, _⟩
    · exact ⟨none, 0, by rw [h0], by omega⟩
    · exact ⟨_, _, rfl, hc⟩
  obtain ⟨A, c, rfl, hc⟩ := hv
  obtain ⟨e, hu, hs⟩ := sliceB_spec hB
  obtain ⟨a, rfl⟩ := Int.eq_ofNat_of_zero_le h0
  obtain ⟨b, rfl⟩ := Int.eq_ofNat_of_zero_le (Int.le_trans h0 h1)
  simp only [Int.toNat_natCast]
  have h1' : a ≤ b := by omega
  have h2' : b ≤ xs.length := by omega
  have hrun : (execOp ev ⟨d, .slice t x lo hi none, ty, pos, after, g⟩).run P w = .ok (.value (.slice (if c = a then A else A.map (·.add (a * n))) (b - a) (c - a))) w := by
    have hh : (match hi.map ev with | some v => Instr.sliceBound v c .sliceAcap | none => pure xs.length : Sem Nat).run P w = .ok b w := by
      cases hi with
      | none => have : (b : Int) = xs.length := hhi; obtain rfl : b = xs.length := by omega
                simp [go_sem]
      | some o =>
        obtain ⟨k, hk⟩ := hhi
        have e2 := opnd h (x := o) (by cases lo <;> simp [Op.operands]) hk
        have hbc : b ≤ c := by omega
        simp [Instr.sliceBound, asIntOf, e2, hbc, go_sem]
    have hl : (match lo.map ev with | some v => Instr.sliceBound v b .sliceB | none => pure 0 : Sem Nat).run P w = .ok a w := by
      cases lo with
      | none => have : (a : Int) = 0 := hlo; obtain rfl : a = 0 := by omega
                simp [go_sem]
      | some o =>
        obtain ⟨k, hk⟩ := hlo
        have e2 := opnd h (x := o) (by simp [Op.operands]) hk
        simp [Instr.sliceBound, asIntOf, e2, h1', go_sem]
    have hb : (Instr.sliceBounds true xs.length c (lo.map ev) (hi.map ev) none).run P w = .ok (a, b, c) w := by
      unfold Instr.sliceBounds
      simp only [Sem.run_bind, Sem.run_pure, Result.andThen_ok]
      cases hi with
      | none =>
        cases lo with
        | none => simp [go_sem] at hh hl ⊢; exact ⟨hl, hh⟩
        | some o => simp [go_sem] at hh hl ⊢; simp [hh, hl]
      | some o' =>
        cases lo with
        | none => simp [go_sem] at hh hl ⊢; simp [hh, hl]
        | some o => simp [go_sem] at hh hl ⊢; simp [hh, hl]
    unfold execOp
    simp only [Instr.sliceAt, Instr.slice, e1, Sem.run_bind, run_under hu, Result.andThen_ok, hb, run_size hs, Sem.run_pure, Option.map_none]
  rw [hrun]
  exact ⟨Keeps.refl _ _, A, _, c, rfl, by omega, by omega, rfl⟩
end

theorem op_indexArr_eptr {m n o : Nat} {k : IntKind} {i : Int} {v : Value} {K : AF → Prop} (hB : arrIdxB P t m n = true) (hx : af.ev x = .eptr v o) (hy : af.ev y = .exact (.int k i)) (h0 : 0 ≤ i) (h1 : i < m) (hk : K (af.put d (.eptr v (o + i.toNat * n)))) : opA P ⟨d, .indexAddr t x y, ty, pos, after, g⟩ af K := by
  refine ⟨_, fun M w ev _ h => ?_, hk⟩
  obtain ⟨b, l, c, hv, e1⟩ := opnd_p h (x := x) (by simp [Op.operands]) hx
  have e2 := opnd h (x := y) (by simp [Op.operands]) hy
  have hr : (execOp ev ⟨d, .indexAddr t x y, ty, pos, after, g⟩).run P w = .ok (.value (.pointer (some ⟨b, o + i.toNat * n, none⟩))) w := by
    unfold execOp
    simp only [e1, e2, Sem.run_bind, run_indexArr hB h0 h1, Result.andThen_ok, Sem.run_pure]
  rw [hr]
  exact ⟨Keeps.refl _ _, b, l, c, hv, rfl⟩
/-- The complement of the bits. -/
theorem op_com {k : IntKind} {a r m : Int} {K : AF → Prop} (hx : af.ev x = .exact (.int k a)) (hr : bXor k m a = r) (hk : K (af.put d (.exact (.int k r)))) (hm : (if k.signed then -1 else k.max) = m := by rfl) : opA P ⟨d, .unOp .xor t x, ty, pos, after, g⟩ af K := by
  subst hr hm
  refine ⟨_, fun M w ev _ h => ?_, hk⟩
  have e1 := opnd h (x := x) (by simp [Op.operands]) hx
  simp [execOp, e1, Op.unary, Op.intBits, go_sem, UponQ]
  exact ⟨Keeps.refl _ _, rfl⟩
/-- An array's slice, the array being written no more. -/
theorem op_slice_ptr {α : Type} {n m : Nat} {enc : α → List AV} {c : List AV} {K : AF → Prop} (xs : List α) (hB : arrIdxB P t m n = true) (hm : 0 < m ∧ m ≤ 65536) (hx : af.ev x = .ptr c) (hc : c = xs.flatMap enc) (hl : xs.length = m) (he : ∀ x, (enc x).length = n) (hk : K (af.put d (.row n enc xs))) : opA P ⟨d, .slice t x none none none, ty, pos, after, g⟩ af K := by
  refine ⟨_, fun M w ev _ h => ?_, hk⟩
  obtain ⟨b, off, e1, hb, hn, h4⟩ := opnd_p h (x := x) (by simp [Op.operands]) hx
  unfold arrIdxB at hB
  split at hB
  · rename_i kk e hu
    simp only [Bool.and_eq_true, beq_iff_eq] at hB
    obtain ⟨rfl, hs⟩ := hB
    have hr : (execOp ev ⟨d, .slice t x none none none, ty, pos, after, g⟩).run P w = .ok (.value (.slice (some ⟨b, off, none⟩) kk kk)) w := by
      unfold execOp
      simp [Instr.sliceAt, Instr.sliceBounds, run_under hu, e1, Instr.sureAddr, run_size (sizeB_spec hs), addr_at, go_sem]
    rw [hr]
    refine ⟨Keeps.refl _ _, some ⟨b, off, none⟩, kk, by rw [hl], by omega, ?_, fun _ => ⟨b, off, rfl, hb, hn, fun i x hi => ⟨he x, ?_⟩⟩⟩
    · omega
    · subst hc
      refine h4.sub (fun j a hj => flat_get (fun x _ => he x) hi j a hj)
  · cases hB
/-! ### Reslices from the start, to the end -/
section
variable {α : Type} {n : Nat} {enc : α → List AV} {xs : List α} {lo hi : Option Operand} {i j : Int} {K : AF → Prop}
theorem op_slice_rowd (hB : sliceB P t n = true) (hx : af.ev x = .row n enc xs) (hlo : bnd af lo 0 i) (hhi : bnd af none xs.length (xs.length : Int)) (h0 : 0 ≤ i) (h1 : i ≤ (xs.length : Int)) (h2 : (xs.length : Int) ≤ xs.length) (hk : K (af.put d (.row n enc (xs.drop i.toNat)))) : opA P ⟨d, .slice t x lo none none, ty, pos, after, g⟩ af K :=
  op_slice_row hB hx hlo hhi h0 h1 h2 (by rw [List.take_of_length_le (by simp)]; exact hk)
theorem op_slice_rowt (hB : sliceB P t n = true) (hx : af.ev x = .row n enc xs) (hlo : bnd af lo 0 0) (hhi : bnd af hi xs.length j) (h0 : (0 : Int) ≤ 0) (h1 : 0 ≤ j) (h2 : j ≤ xs.length) (hk : K (af.put d (.row n enc (xs.take j.toNat)))) : opA P ⟨d, .slice t x lo hi none, ty, pos, after, g⟩ af K :=
  op_slice_row hB hx hlo hhi h0 h1 h2 (by simpa using hk)
theorem op_slice_rowa (hB : sliceB P t n = true) (hx : af.ev x = .row n enc xs) (hlo : bnd af lo 0 0) (hhi : bnd af hi xs.length (xs.length : Int)) (h0 : (0 : Int) ≤ 0) (h1 : 0 ≤ (xs.length : Int)) (h2 : (xs.length : Int) ≤ xs.length) (hk : K (af.put d (.row n enc xs))) : opA P ⟨d, .slice t x lo hi none, ty, pos, after, g⟩ af K :=
  op_slice_row hB hx hlo hhi h0 h1 h2 (by simpa using hk)
variable {s : List UInt8}
theorem op_slice_strd (hB : isStrB P t = true) (hx : af.ev x = .exact (.string (bs s))) (hlo : bnd af lo 0 i) (hhi : bnd af none s.length (s.length : Int)) (h0 : 0 ≤ i) (h1 : i ≤ (s.length : Int)) (h2 : (s.length : Int) ≤ s.length) (hk : K (af.put d (.exact (.string (bs (s.drop i.toNat)))))) : opA P ⟨d, .slice t x lo none none, ty, pos, after, g⟩ af K :=
  op_slice_str hB hx hlo hhi h0 h1 h2 (by rw [List.take_of_length_le (by simp)]; exact hk)
theorem op_slice_strt (hB : isStrB P t = true) (hx : af.ev x = .exact (.string (bs s))) (hlo : bnd af lo 0 0) (hhi : bnd af hi s.length j) (h0 : (0 : Int) ≤ 0) (h1 : 0 ≤ j) (h2 : j ≤ s.length) (hk : K (af.put d (.exact (.string (bs (s.take j.toNat)))))) : opA P ⟨d, .slice t x lo hi none, ty, pos, after, g⟩ af K :=
  op_slice_str hB hx hlo hhi h0 h1 h2 (by simpa using hk)
theorem op_slice_stra (hB : isStrB P t = true) (hx : af.ev x = .exact (.string (bs s))) (hlo : bnd af lo 0 0) (hhi : bnd af hi s.length (s.length : Int)) (h0 : (0 : Int) ≤ 0) (h1 : 0 ≤ (s.length : Int)) (h2 : (s.length : Int) ≤ s.length) (hk : K (af.put d (.exact (.string (bs s))))) : opA P ⟨d, .slice t x lo hi none, ty, pos, after, g⟩ af K :=
  op_slice_str hB hx hlo hhi h0 h1 h2 (by simpa using hk)
end

/-! ### nil appended -/
section
variable {α : Type} {n : Nat} {enc : α → List AV} {xs : List α} {v : Value} {K : AF → Items → Prop}
theorem nil_row {q : Nat} (hq : q ≤ 9223372036854775807) : AV.le (.exact (.slice none 0 q)) (.row n enc ([] : List α)) := row_nil hq
theorem Loud.weaken {o : Oper} {af af' : AF} {post : AV → Items → Prop} (h : ∀ x ∈ o.op.operands, AV.le (af.ev x) (af'.ev x)) (hl : Loud P o af' σ post) : Loud P o af σ post :=
  fun F w ev hg hx => hl F w ev hg (fun x hm => h x hm _ _ _ (hx x hm))
end
theorem idx2 {k : IntKind} {x0 x1 i : Int} (h0 : 0 ≤ i) (h1 : i < 2) : ([.exact (.int k x0), .exact (.int k x1)] : List AV)[0 + i.toNat * 1]? = some (.exact (.int k (if i = 0 then x0 else x1))) := by
  have : i = 0 ∨ i = 1 := by omega
  rcases this with rfl | rfl <;> rfl
theorem set2_le {a0 a1 a : AV} {i : Int} (h0 : 0 ≤ i) (h1 : i < 2) : 0 + i.toNat * 1 + [a].length ≤ [a0, a1].length := by
  simp; omega
theorem set2 {k : IntKind} {x0 x1 x i : Int} (h0 : 0 ≤ i) (h1 : i < 2) : splc ([.exact (.int k x0), .exact (.int k x1)] : List AV) (0 + i.toNat * 1) [.exact (.int k x)] = [.exact (.int k (if i = 0 then x else x0)), .exact (.int k (if i = 0 then x1 else x))] := by
  have : i = 0 ∨ i = 1 := by omega
  rcases this with rfl | rfl <;> rfl
theorem run_part1 {cs : Array Value} {off : Nat} {u : Value} (hB : loadB P t false 1 = true) (h : cs[off]? = some u) : (part t cs off).run P w = .ok u w := by
  obtain ⟨⟨D, hu, ha⟩, _⟩ := loadB_spec hB
  unfold part
  simp only [Sem.run_bind, run_agg hu, ha, Result.andThen_ok, Bool.false_eq_true, if_false, h, Sem.run_pure]
theorem eq_pair {t : TypeId} (h : ∀ (x0 x1 y0 y1 : Int) (w : World), (Op.equal t (.agg #[.int .i64 x0, .int .i64 x1]) (.agg #[.int .i64 y0, .int .i64 y1])).run P w = .ok (decide (x0 = y0 ∧ x1 = y1)) w) (a b : Int × Int) {M : BSet} {w : World} {vs us : List Value}
    (h1 : Fit M w [.exact (.int .i64 a.1), .exact (.int .i64 a.2)] vs) (h2 : Fit M w [.exact (.int .i64 b.1), .exact (.int .i64 b.2)] us) : (Op.equal t (.agg vs.toArray) (.agg us.toArray)).run P w = .ok (decide (a = b)) w := by
  match vs, h1 with
  | [u0, u1], ⟨g0, g1, _⟩ =>
    match us, h2 with
    | [v0, v1], ⟨k0, k1, _⟩ =>
      obtain rfl : u0 = _ := g0
      obtain rfl : u1 = _ := g1
      obtain rfl : v0 = _ := k0
      obtain rfl : v1 = _ := k1
      rw [h]
      congr 1
      simp [Prod.ext_iff]
/-! ### A row in use cut short; an element taken out -/
section
variable {α : Type} {n : Nat} {enc : α → List AV} {xs : List α} {v : Value} {K : AF → Items → Prop}
theorem Fit.prefix {M : BSet} : ∀ {xs ys : List AV} {vs : List Value}, Fit M w (xs ++ ys) vs → Fit M w xs (vs.take xs.length)
  | [], _, _, _ => by simp; trivial
  | x :: xs, ys, [], h => by cases h
  | x :: xs, ys, v :: vs, h => ⟨h.1, by simpa using Fit.prefix (xs := xs) (ys := ys) h.2⟩
theorem op_trunc {hi : Option Operand} {j : Int} (hB : sliceB P t n = true) (he : ∀ x, (enc x).length = n) (hx : af.ev x = .exact v) (hhi : bnd af hi xs.length j) (h0 : 0 ≤ j) (h2 : j ≤ xs.length)
    (hk : ∀ v', K (af.put d (.exact v')) (vecT P t n enc v' (xs.take j.toNat) :: ρ)) : opB P ⟨d, .slice t x none hi none, ty, pos, after, g⟩ af (vecT P t n enc v xs :: ρ) K := by
  refine ⟨fun a s => ∃ v', a = .exact v' ∧ s = vecT P t n enc v' (xs.take j.toNat) :: ρ, fun F w ev hg h => ?_, fun av s ⟨v', e1, e2⟩ => by subst e1 e2; exact hk v'⟩
  have e1 := opnd h (x := x) (by cases hi <;> simp [Op.operands]) hx
  obtain ⟨vs, hown, hfit⟩ := hg.items _ List.mem_cons_self
  obtain ⟨e, hu, hs⟩ := sliceB_spec hB
  obtain ⟨b, rfl⟩ := Int.eq_ofNat_of_zero_le h0
  simp only [Int.toNat_natCast]
  have h2' : b ≤ xs.length := by omega
  have hv : ∃ A c, v = .slice A xs.length c ∧ xs.length ≤ c := by
    rcases hown.2 with ⟨rfl, h0⟩ | ⟨g, cap, cur, rfl, _, _, hc, _⟩
    · exact ⟨none, 0, by rw [h0], by omega⟩
    · exact ⟨_, _, rfl, hc⟩
  obtain ⟨A, c, rfl, hc⟩ := hv
  have hrun : (execOp ev ⟨d, .slice t x none hi none, ty, pos, after, g⟩).run P w = .ok (.value (.slice A b c)) w := by
    have hh : (match hi.map ev with | some v => Instr.sliceBound v c .sliceAcap | none => pure xs.length : Sem Nat).run P w = .ok b w := by
      cases hi with
      | none => have : (b : Int) = xs.length := hhi; obtain rfl : b = xs.length := by omega
                simp [go_sem]
      | some o =>
        obtain ⟨k, hk⟩ := hhi
        have e2 := opnd h (x := o) (by simp [Op.operands]) hk
        have hbc : b ≤ c := by omega
        simp [Instr.sliceBound, asIntOf, e2, hbc, go_sem]
    have hb : (Instr.sliceBounds true xs.length c none (hi.map ev) none).run P w = .ok (0, b, c) w := by
      unfold Instr.sliceBounds
      simp only [Sem.run_bind, Sem.run_pure, Result.andThen_ok]
      cases hi with
      | none => simp [go_sem] at hh ⊢; exact hh
      | some o' => simp [go_sem] at hh ⊢; simp [hh]
    unfold execOp
    simp only [Instr.sliceAt, Instr.slice, e1, Sem.run_bind, run_under hu, Result.andThen_ok, Option.map_none, hb, run_size hs, Sem.run_pure, Nat.sub_zero, Nat.zero_mul]
    have hA : (if c = 0 then A else A.map (·.add 0)) = A := by
      split
      · rfl
      · cases A with
        | none => rfl
        | some a => simp [Addr.add]
    rw [hA]
  rw [hrun]
  have htl : (xs.take b).length = b := by simp; omega
  have hpre : Fit (both F (Items.own (vecT P t n enc (.slice A xs.length c) xs :: ρ))) w ((xs.take b).flatMap enc) (vs.take (b * n)) := by
    have h3 : (xs.take b).flatMap enc ++ (xs.drop b).flatMap enc = xs.flatMap enc := by rw [← List.flatMap_append, List.take_append_drop]
    rw [← h3] at hfit
    have h4 := hfit.prefix
    rwa [flat_len (fun x _ => he x), htl] at h4
  have hown' : w.ownsRow 0 (elemOfT P t) n (.slice A b c) (xs.take b).length (vs.take (b * n)) := by
    have hvl : vs.length = xs.length * n := by rw [← hfit.length, flat_len (fun x _ => he x)]
    have hbn : b * n ≤ xs.length * n := Nat.mul_le_mul_right _ h2'
    refine ⟨by rw [htl, List.length_take]; omega, ?_⟩
    rcases hown.2 with ⟨hv, h0⟩ | ⟨g, cap, cur, hv, hb0, hg2, hnc, hcm, hcs, htk⟩
    · injection hv with q1 q2 q3
      subst q1 q3
      left
      have : b = 0 := by omega
      subst this
      exact ⟨rfl, by rw [htl]⟩
    · injection hv with q1 q2 q3
      subst q1 q3
      right
      refine ⟨g, c, cur, by rw [htl], hb0, hg2, by omega, hcm, hcs, ?_⟩
      rw [htl, ← htk, List.take_take, Nat.min_eq_left hbn]
  have ho : ∀ k, k ∈ (vecT P t n enc (.slice A b c) (xs.take b)).own ↔ k ∈ (vecT P t n enc (.slice A xs.length c) xs).own := fun k => by cases A <;> simp [vecT, vecI, Value.ownBlock]
  have hn : (vecT P t n enc (.slice A b c) (xs.take b)).own.Nodup := by cases A <;> simp [vecT, vecI, Value.ownBlock]
  obtain ⟨g1, g2, g3⟩ := good_head (it' := vecT P t n enc (.slice A b c) (xs.take b)) hg ((Keeps.refl noB w).mono (fun _ _ h => h.elim)) (fun k hk' => ⟨(hg.own k (List.mem_flatMap.2 ⟨_, List.mem_cons_self, (ho k).1 hk'⟩)).1, fun _ => (ho k).1 hk'⟩) hn
    (fun hkk hMM => ⟨vs.take (b * n), hown', hpre.keep (Keeps.refl _ _) hMM⟩)
  exact ⟨_, _, ⟨_, rfl, rfl⟩, g1, g2, g3, rfl⟩
end
section
variable {α : Type} {n : Nat} {enc : α → List AV} {xs : List α} {v : Value} {K : AF → Items → Prop}
theorem OneC.take {c : List AV} (h : OneC c) (k : Nat) : OneC (c.take k) := fun a ha => h a (List.mem_of_mem_take ha)
theorem OneC.drop {c : List AV} (h : OneC c) (k : Nat) : OneC (c.drop k) := fun a ha => h a (List.mem_of_mem_drop ha)
theorem op_appdel {s z : Operand} {i lo m : Nat} (hE : elB P t n = true) (he : ∀ x, (enc x).length = n) (ho : ∀ x, OneC (enc x)) (hs : af.ev s = .vsub v n 0 i) (hx : af.ev z = .vsub v n lo m) (h1 : i ≤ lo) (h2 : lo + m ≤ xs.length)
    (hk : ∀ v', K (af.put d (.exact v')) (vecT P t n enc v' (xs.take i ++ (xs.drop lo).take m) :: ρ)) : opB P ⟨d, .call { callee := .builtin .append, args := #[s, z], argTypes := #[t, t] }, ty, pos, after, g⟩ af (vecT P t n enc v xs :: ρ) K := by
  refine ⟨fun a s => ∃ v', a = .exact v' ∧ s = vecT P t n enc v' (xs.take i ++ (xs.drop lo).take m) :: ρ, fun F w ev hg h => ?_, fun av s ⟨v', e1, e2⟩ => by subst e1 e2; exact hk v'⟩
  obtain ⟨ht, hn0, I, zz, hi, hz, hi1, hi2, hi3⟩ := elB_spec hE
  obtain ⟨A, l, c, hv, hc1, hc2, e1⟩ := opnd_p h (x := s) (by simp [Op.operands, Call.operands]) hs
  obtain ⟨A', l', c', hv', hc1', hc2', e2⟩ := opnd_p h (x := z) (by simp [Op.operands, Call.operands]) hx
  rw [hv] at hv'
  injection hv' with q1 q2 q3
  subst q1 q2 q3
  have hA : (if c = 0 then A else A.map (·.add (0 * n))) = A := by
    split
    · rfl
    · cases A with
      | none => rfl
      | some a => simp [Addr.add]
  rw [hA] at e1
  simp only [Nat.sub_zero] at e1
  obtain ⟨vs, hown, hfit⟩ := hg.items _ List.mem_cons_self
  have hvl : vs.length = xs.length * n := by rw [← hfit.length, flat_len (fun x _ => he x)]
  have hlen : (xs.take i ++ (xs.drop lo).take m).length = i + m := by simp; omega
  have hun : (P.underlying t).map (fun D => match D with | .int _ => true | _ => false) = some false := by rw [ht]; rfl
  have hflat : (xs.take i ++ (xs.drop lo).take m).flatMap enc = (xs.flatMap enc).take (i * n) ++ ((xs.flatMap enc).drop (lo * n)).take (m * n) := by
    have key : ∀ (ys : List α) (k : Nat), (ys.flatMap enc).take (k * n) = (ys.take k).flatMap enc ∧ (ys.flatMap enc).drop (k * n) = (ys.drop k).flatMap enc := by
      intro ys
      induction ys with
      | nil => simp
      | cons y ys ih =>
        intro k
        cases k with
        | zero => simp
        | succ k =>
          have e : (k + 1) * n = n + k * n := by rw [Nat.add_mul]; omega
          rw [List.flatMap_cons, e, ← he y, List.take_length_add_append, List.drop_length_add_append, he y, (ih k).1, (ih k).2]
          simp
    rw [List.flatMap_append, (key xs i).1, (key xs lo).2, (key (xs.drop lo) m).1]
  rcases hown.2 with ⟨hvv, h0⟩ | ⟨b, cap, cur, hvv, hb0, hg2, hnc, hcm, hcs, htk⟩
  · rw [hv] at hvv
    injection hvv with q1 q2 q3
    subst q1 q2 q3
    have hm0 : m = 0 := by omega
    have hi0 : i = 0 := by omega
    subst hm0 hi0
    have hrun : (execOp ev ⟨d, .call { callee := .builtin .append, args := #[s, z], argTypes := #[t, t] }, ty, pos, after, g⟩).run P w = .ok (.value (.slice none 0 0)) w := by
      have happ : (Builtin.append_ #[t, t] ty #[.slice none 0 0, .slice none 0 (0 - lo)]).run P w = .ok (.slice none 0 0) w := by
        simp [Builtin.append_, run_underlying ht, sizeOf, typeInfo, hi, Builtin.lenOf, Builtin.firstCells]
      unfold execOp
      simp only [resolve, invoke, builtin, Sem.run_bind, Sem.run_pure, Result.andThen_ok, List.map_toArray, List.map_cons, List.map_nil, e1, e2, Option.map_none, ite_self, happ]
    rw [hrun]
    have hxs : xs = [] := List.length_eq_zero_iff.1 h0
    subst hxs
    refine ⟨_, _, ⟨_, rfl, rfl⟩, ?_, (Keeps.refl noB w).mono (fun _ _ h => h.elim), ?_, rfl⟩
    · simp only [List.take_nil, List.drop_nil, List.append_nil]
      rw [← hv]; exact hg
    · simp only [List.take_nil, List.drop_nil, List.append_nil]
      rw [← hv]; exact fun k h _ => h
  · rw [hv] at hvv
    injection hvv with q1 q2 q3
    subst q1 q2 q3
    have hbm : (lo + m) * n ≤ xs.length * n := Nat.mul_le_mul_right _ h2
    have hbi : i * n ≤ lo * n := Nat.mul_le_mul_right _ h1
    have hcn : xs.length * n ≤ cur.size := by rw [hcs]; exact Nat.mul_le_mul_right _ hnc
    have hadd : (lo + m) * n = lo * n + m * n := Nat.add_mul _ _ _
    -- the cells that are moved
    let us : List Value := (vs.drop (lo * n)).take (m * n)
    have hus : us.length = m * n := by simp [us]; omega
    have hcell : ∀ j, j < m * n → ∃ u, us[j]? = some u ∧ w.cell? ⟨b, lo * n + (0 + j), none⟩ = some u := fun j hj => by
      have hjv : lo * n + j < vs.length := by omega
      obtain ⟨u, hu⟩ : ∃ u, vs[lo * n + j]? = some u := ⟨_, List.getElem?_eq_getElem hjv⟩
      refine ⟨u, by simp only [us]; rw [List.getElem?_take, if_pos hj, List.getElem?_drop]; exact hu, ?_⟩
      rw [cell_of_row _ b _ _ _ (0, 0) hg2, Nat.zero_add]
      have this := hu
      rw [← htk, List.getElem?_take] at this
      split at this
      · simpa using this
      · cases this
    have h1c : ∀ u ∈ us, u.oneCell' = true := ((OneC.flatT (xs := xs) ho).drop (lo * n)).take (m * n) |>.fit ((hfit.drop (lo * n)).take (m * n))
    have hst := run_storeCells_at (P := P) b (i * n) (elemOfT P t) us 0 cur w hg2 (by omega) h1c
    simp only [Nat.add_zero, hus] at hst
    have hrun : (execOp ev ⟨d, .call { callee := .builtin .append, args := #[s, z], argTypes := #[t, t] }, ty, pos, after, g⟩).run P w = .ok (.value (.slice (some ⟨b, 0, none⟩) (i + m) c)) (w.setRow b (cur.toList.take (i * n) ++ us ++ cur.toList.drop (i * n + m * n)).toArray) := by
      have hz2 : ∃ q, ev z = .slice (some ⟨b, q, none⟩) m (c - lo) ∧ (m ≠ 0 → q = lo * n) := by
        rw [e2]
        by_cases hcl : c = lo
        · rw [if_pos hcl]; exact ⟨0, rfl, fun h => absurd (by omega) h⟩
        · rw [if_neg hcl]; exact ⟨lo * n, by simp [addr_add'], fun _ => rfl⟩
      obtain ⟨q, hz3, hq⟩ := hz2
      have hld : (loadCells ⟨b, q, none⟩ (m * I.size)).run P w = .ok us.toArray w := by
        rw [hi1]
        by_cases hm0 : m = 0
        · subst hm0
          have : us = [] := List.length_eq_zero_iff.1 (by rw [hus]; simp)
          simp [this, loadCells, loadCellsFrom, go_sem]
        · rw [hq hm0]
          have := run_cells (P := P) (w := w) (b := b) (m * n) (lo * n) 0 us #[] hcell hus
          unfold loadCells
          rw [this]; simp
      have happ : (Builtin.append_ #[t, t] ty #[.slice (some ⟨b, 0, none⟩) i c, .slice (some ⟨b, q, none⟩) m (c - lo)]).run P w = .ok (.slice (some ⟨b, 0, none⟩) (i + m) c) (w.setRow b (cur.toList.take (i * n) ++ us ++ cur.toList.drop (i * n + m * n)).toArray) := by
        have hneed : i + m ≤ c := by omega
        have hadr : (⟨b, 0, none⟩ : Addr).add (i * I.size) = ⟨b, i * n, none⟩ := by rw [hi1, addr_at]; simp
        simp [Builtin.append_, run_underlying ht, sizeOf, typeInfo, hi, Builtin.lenOf, Builtin.firstCells, hneed, hld, hadr, hst]
      unfold execOp
      simp only [resolve, invoke, builtin, Sem.run_bind, Sem.run_pure, Result.andThen_ok, List.map_toArray, List.map_cons, List.map_nil, e1, hz3, happ]
    rw [hrun]
    have hblt := (Array.getElem?_eq_some_iff.1 hg2).1
    have hk0 : Keeps (fun k => k ∈ (vecT P t n enc v xs).own) w (w.setRow b (cur.toList.take (i * n) ++ us ++ cur.toList.drop (i * n + m * n)).toArray) := ⟨rfl, rfl, rfl, Nat.le_refl _, by simp, fun k hlt hn => by
      have hne : k ≠ b := fun e => hn (by simp [vecT, vecI, hv, Value.ownBlock, e])
      simp [World.setRow, Array.getElem?_modify, Ne.symm hne]⟩
    have hnew : (w.setRow b (cur.toList.take (i * n) ++ us ++ cur.toList.drop (i * n + m * n)).toArray).ownsRow 0 (elemOfT P t) n (.slice (some ⟨b, 0, none⟩) (i + m) c) (xs.take i ++ (xs.drop lo).take m).length (vs.take (i * n) ++ us) := by
      refine ⟨?_, .inr ⟨b, c, _, by rw [hlen], Nat.zero_le _, setRow_heap w b cur _ (elemOfT P t) _ hg2, by rw [hlen]; omega, hcm, ?_, ?_⟩⟩
      · rw [hlen, List.length_append, hus, List.length_take, Nat.add_mul]; omega
      · simp [hus]; omega
      · rw [hlen, Nat.add_mul]
        have htt : cur.toList.take (i * n) = vs.take (i * n) := by rw [← htk, List.take_take, Nat.min_eq_left (by omega)]
        rw [htt]
        simp only []
        rw [List.take_left' (by rw [List.length_append, hus, List.length_take]; omega)]
    obtain ⟨g1, g2, g3⟩ := good_head (it' := vecT P t n enc (.slice (some ⟨b, 0, none⟩) (i + m) c) (xs.take i ++ (xs.drop lo).take m)) hg hk0 (fun k hk' => ⟨by simp [vecT, vecI, Value.ownBlock] at hk'; subst hk'; simpa using hblt, fun _ => by simp [vecT, vecI, hv, Value.ownBlock] at hk' ⊢; exact hk'⟩) (by simp [vecT, vecI, Value.ownBlock])
      (fun hkk hMM => ⟨vs.take (i * n) ++ us, hnew, by
        rw [hflat]
        exact ((hfit.take (i * n)).app ((hfit.drop (lo * n)).take (m * n))).keep hkk hMM⟩)
    exact ⟨_, _, ⟨_, rfl, rfl⟩, g1, g2, g3, rfl⟩
end
end
end Go.Proofs.Ytkplmgdmkfgjhaa
