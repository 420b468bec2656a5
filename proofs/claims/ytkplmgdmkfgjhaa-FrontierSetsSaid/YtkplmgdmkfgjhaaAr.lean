/- More operations: parts, reslices, strings, literals. -/
import Derived.Test.YtkplmgdmkfgjhaaAq
import Derived.Laws.Strings
import Derived.Laws.Small
namespace Go.Proofs.Ytkplmgdmkfgjhaa
open Go.RowKit

section
variable {P : Program} {af : AF} {d : Option Tmp} {ty : TypeId} {pos : String} {after : Array Edge} {g : Option (Nat × Bool)} {K : AF → Prop} {t t' : TypeId} {x y : Operand}

theorem Fit.at {M : BSet} {w : World} : ∀ {l : List AV} {vs : List Value} {i : Nat} {av : AV}, Fit M w l vs → l[i]? = some av → ∃ v, vs[i]? = some v ∧ av.p M w v
  | _ :: _, v :: _, 0, _, h, hi => by simp at hi; subst hi; exact ⟨v, rfl, h.1⟩
  | _ :: _, _ :: _, i + 1, _, h, hi => by simpa using Fit.at (i := i) h.2 (by simpa using hi)

theorem op_extract {l : List AV} {i : Nat} {av : AV} (hx : af.ev x = .tup l) (hl : l[i]? = some av) (hk : K (af.put d av)) : opA P ⟨d, .extract x i, ty, pos, after, g⟩ af K := by
  refine ⟨_, fun M w ev _ h => ?_, hk⟩
  obtain ⟨vs, e1, hf⟩ := opnd_p h (x := x) (by simp [Op.operands]) hx
  obtain ⟨v, hv, hp⟩ := hf.at hl
  simp [execOp, Instr.extract, e1, hv, go_sem, UponQ]
  exact ⟨Keeps.refl _ _, hp⟩

theorem op_field1 {fs : Array Field} {fd : Field} {f : Nat} {l : List AV} {av : AV} (hu : P.underlying t = some (.struct fs)) (hfd : fs[f]? = some fd) (hB : loadB P fd.type false 1 = true) (hx : af.ev x = .agg l) (hl : l[fd.offset]? = some av)
    (hk : K (af.put d av)) : opA P ⟨d, .field t x f, ty, pos, after, g⟩ af K := by
  refine ⟨_, fun M w ev _ h => ?_, hk⟩
  obtain ⟨vs, e1, hf⟩ := opnd_p h (x := x) (by simp [Op.operands]) hx
  obtain ⟨⟨D, hD, ha⟩, hs⟩ := loadB_spec hB
  obtain ⟨v, hv, hp⟩ := hf.at hl
  simp [execOp, Instr.field, run_under hu, hfd, part, run_agg hD, ha, asAgg, e1, hv, go_sem, UponQ]
  exact ⟨Keeps.refl _ _, hp⟩

theorem Fit.cut {M : BSet} {w : World} : ∀ {l : List AV} {vs : List Value} (i n : Nat), Fit M w l vs → Fit M w ((l.drop i).take n) ((vs.drop i).take n)
  | [], [], _, _, _ => by simp; trivial
  | a :: l, v :: vs, 0, 0, _ => by simp; trivial
  | a :: l, v :: vs, 0, n + 1, h => ⟨h.1, by simpa using Fit.cut 0 n h.2⟩
  | a :: l, v :: vs, i + 1, n, h => by simpa using Fit.cut i n h.2

theorem op_fieldN {fs : Array Field} {fd : Field} {f n : Nat} {l c : List AV} (hu : P.underlying t = some (.struct fs)) (hfd : fs[f]? = some fd) (hs : (P.info? fd.type).map (·.size) = some n) (hB : loadB P fd.type true n = true) (hx : af.ev x = .agg l) (hl : (l.drop fd.offset).take n = c)
    (hk : K (af.put d (.agg c))) : opA P ⟨d, .field t x f, ty, pos, after, g⟩ af K := by
  refine ⟨_, fun M w ev _ h => ?_, hk⟩
  obtain ⟨vs, e1, hf⟩ := opnd_p h (x := x) (by simp [Op.operands]) hx
  obtain ⟨⟨D, hD, ha⟩, _⟩ := loadB_spec hB
  have hc := hf.cut fd.offset n
  rw [hl] at hc
  simp [execOp, Instr.field, run_under hu, hfd, part, run_agg hD, ha, run_size hs, asAgg, e1, go_sem, UponQ]
  refine ⟨Keeps.refl _ _, (vs.drop fd.offset).take n, ?_, hc⟩
  simp [List.extract_eq_take_drop]

theorem op_index1 {e : TypeId} {m : Nat} {k : IntKind} {i : Int} {l : List AV} {av : AV} (hu : P.underlying t = some (.array m e)) (hB : loadB P e false 1 = true) (hx : af.ev x = .agg l) (hy : af.ev y = .exact (.int k i)) (h0 : 0 ≤ i) (h1 : i < m) (hl : l[i.toNat]? = some av)
    (hk : K (af.put d av)) : opA P ⟨d, .index t x y, ty, pos, after, g⟩ af K := by
  refine ⟨_, fun M w ev _ h => ?_, hk⟩
  obtain ⟨vs, e1, hf⟩ := opnd_p h (x := x) (by simp [Op.operands]) hx
  have e2 := opnd h (x := y) (by simp [Op.operands]) hy
  obtain ⟨⟨D, hD, ha⟩, hs⟩ := loadB_spec hB
  obtain ⟨v, hv, hp⟩ := hf.at hl
  simp [execOp, Instr.index, asIntOf, run_under hu, h0, h1, part, run_agg hD, ha, run_size hs, e1, e2, hv, go_sem, UponQ]
  exact ⟨Keeps.refl _ _, hp⟩

theorem str_inj {a b : ByteArray} : a.toList = b.toList ↔ a = b := by
  rw [ByteArray.toList_eq, ByteArray.toList_eq]
  constructor
  · intro h; cases a; cases b; simpa using h
  · rintro rfl; rfl
theorem op_eql_str {a b : ByteArray} (hx : af.ev x = .exact (.string a)) (hy : af.ev y = .exact (.string b)) (hk : K (af.put d (.exact (.bool (decide (a = b)))))) : opA P ⟨d, .binOp .eql t x y t', ty, pos, after, g⟩ af K := by
  refine ⟨_, fun M w ev _ h => ?_, hk⟩
  have e1 := opnd h (x := x) (by simp [Op.operands]) hx
  have e2 := opnd h (x := y) (by simp [Op.operands]) hy
  simp [execOp, eqGuard, e1, e2, binOp, Op.stringOp, go_sem, UponQ]
  exact ⟨Keeps.refl _ _, by by_cases h : a = b <;> simp [AV.exact, h, str_inj]⟩
theorem op_neq_str {a b : ByteArray} (hx : af.ev x = .exact (.string a)) (hy : af.ev y = .exact (.string b)) (hk : K (af.put d (.exact (.bool (decide (¬ a = b)))))) : opA P ⟨d, .binOp .neq t x y t', ty, pos, after, g⟩ af K := by
  refine ⟨_, fun M w ev _ h => ?_, hk⟩
  have e1 := opnd h (x := x) (by simp [Op.operands]) hx
  have e2 := opnd h (x := y) (by simp [Op.operands]) hy
  simp [execOp, eqGuard, e1, e2, binOp, Op.stringOp, go_sem, UponQ]
  exact ⟨Keeps.refl _ _, by by_cases h : a = b <;> simp [AV.exact, h, str_inj]⟩
def isBoolB (P : Program) (t : TypeId) : Bool := match P.underlying t with | some .bool => true | _ => false
theorem isBoolB_spec {t : TypeId} (h : isBoolB P t = true) : P.underlying t = some .bool := by
  unfold isBoolB at h
  split at h
  · assumption
  · cases h
theorem op_eql_bool {a b : Bool} (hB : isBoolB P t = true) (hx : af.ev x = .exact (.bool a)) (hy : af.ev y = .exact (.bool b)) (hk : K (af.put d (.exact (.bool (decide (a = b)))))) : opA P ⟨d, .binOp .eql t x y t', ty, pos, after, g⟩ af K := by
  refine ⟨_, fun M w ev _ h => ?_, hk⟩
  have e1 := opnd h (x := x) (by simp [Op.operands]) hx
  have e2 := opnd h (x := y) (by simp [Op.operands]) hy
  have hq : (Op.equal t (.bool a) (.bool b)).run P w = .ok (decide (a = b)) w := by
    rw [run_equal_bool w t a b (isBoolB_spec hB)]
    cases a <;> cases b <;> rfl
  have hr : (execOp ev ⟨d, .binOp .eql t x y t', ty, pos, after, g⟩).run P w = .ok (.value (.bool (decide (a = b)))) w := by
    unfold execOp
    simp only [eqGuard, binOp, e1, e2, Sem.run_bind, hq, Sem.run_pure, Result.andThen_ok]
    simp [go_sem]
    rw [hq]
    rfl
  rw [hr]
  exact ⟨Keeps.refl _ _, rfl⟩

section
variable {α : Type} {n : Nat} {enc : α → List AV} {xs : List α} {lo hi : Option Operand} {k k' : IntKind} {i j : Int}

/-- What a bound is, or the default. -/
def bnd (af : AF) (x : Option Operand) (dflt i : Int) : Prop := match x with | none => i = dflt | some o => ∃ k, af.ev o = .exact (.int k i)
theorem bnd_none {dflt : Int} : bnd af none dflt dflt := rfl
theorem bnd_some {o : Operand} {dflt : Int} (h : af.ev o = .exact (.int k i)) : bnd af (some o) dflt i := ⟨k, h⟩

theorem op_slice_row (hB : sliceB P t n = true) (hx : af.ev x = .row n enc xs) (hlo : bnd af lo 0 i) (hhi : bnd af hi xs.length j) (h0 : 0 ≤ i) (h1 : i ≤ j) (h2 : j ≤ xs.length)
    (hk : K (af.put d (.row n enc ((xs.drop i.toNat).take (j.toNat - i.toNat))))) : opA P ⟨d, .slice t x lo hi none, ty, pos, after, g⟩ af K := by
  refine ⟨_, fun M w ev _ h => ?_, hk⟩
  obtain ⟨A, c, e1, hc1, hc2, e4⟩ := opnd_p h (x := x) (by cases lo <;> cases hi <;> simp [Op.operands]) hx
  obtain ⟨e, hu, hs⟩ := sliceB_spec hB
  obtain ⟨a, rfl⟩ := Int.eq_ofNat_of_zero_le h0
  obtain ⟨b, rfl⟩ := Int.eq_ofNat_of_zero_le (Int.le_trans h0 h1)
  simp only [Int.toNat_natCast]
  have h1' : a ≤ b := by omega
  have h2' : b ≤ xs.length := by omega
  have hlen : ((xs.drop a).take (b - a)).length = b - a := by simp; omega
  have hrun : (execOp ev ⟨d, .slice t x lo hi none, ty, pos, after, g⟩).run P w = .ok (.value (.slice (if c = a then A else A.map (·.add (a * n))) (b - a) (c - a))) w := by
    have hh : (match hi.map ev with | some v => Instr.sliceBound v c .sliceAcap | none => pure xs.length : Sem Nat).run P w = .ok b w := by
      cases hi with
      | none => have : (b : Int) = xs.length := hhi; obtain rfl : b = xs.length := by omega
                simp [go_sem]
      | some o =>
        obtain ⟨k, hk⟩ := hhi
        have e2 := opnd h (x := o) (by cases lo <;> simp [Op.operands]) hk
        have hbc : b ≤ c := by omega
        simp [Instr.sliceBound, asIntOf, e2, hbc, go_sem]
    have hl : (match lo.map ev with | some v => Instr.sliceBound v b .sliceB | none => pure 0 : Sem Nat).run P w = .ok a w := by
      cases lo with
      | none => have : (a : Int) = 0 := hlo; obtain rfl : a = 0 := by omega
                simp [go_sem]
      | some o =>
        obtain ⟨k, hk⟩ := hlo
        have e2 := opnd h (x := o) (by simp [Op.operands]) hk
        simp [Instr.sliceBound, asIntOf, e2, h1', go_sem]
    have hb : (Instr.sliceBounds true xs.length c (lo.map ev) (hi.map ev) none).run P w = .ok (a, b, c) w := by
      unfold Instr.sliceBounds
      simp only [Sem.run_bind, Sem.run_pure, Result.andThen_ok]
      cases hi with
      | none =>
        cases lo with
        | none => simp [go_sem] at hh hl ⊢; exact ⟨hl, hh⟩
        | some o => simp [go_sem] at hh hl ⊢; simp [hh, hl]
      | some o' =>
        cases lo with
        | none => simp [go_sem] at hh hl ⊢; simp [hh, hl]
        | some o => simp [go_sem] at hh hl ⊢; simp [hh, hl]
    unfold execOp
    simp only [Instr.sliceAt, Instr.slice, e1, Sem.run_bind, run_under hu, Result.andThen_ok, hb, run_size hs, Sem.run_pure, Option.map_none]
  rw [hrun]
  show Keeps noB w w ∧ _
  refine ⟨Keeps.refl _ _, (if c = a then A else A.map (·.add (a * n))), c - a, ?_, ?_, ?_, fun hne => ?_⟩
  · rw [hlen]
  · rw [hlen]; omega
  · omega
  · have hxs : xs ≠ [] := by rintro rfl; simp at hne
    obtain ⟨bb, off, rfl, hb, hnM, hcell⟩ := e4 hxs
    have hij : a < b := by
      rcases Nat.lt_or_ge a b with h | h
      · exact h
      · exact absurd (List.eq_nil_of_length_eq_zero (by rw [hlen]; omega)) hne
    rw [if_neg (by omega)]
    refine ⟨bb, off + a * n, by simp [addr_add'], hb, hnM, fun q x hq => ?_⟩
    have hq' : xs[a + q]? = some x := by
      rw [List.getElem?_take] at hq
      split at hq
      · rwa [List.getElem?_drop] at hq
      · cases hq
    obtain ⟨g1, g2⟩ := hcell _ _ hq'
    refine ⟨g1, ?_⟩
    have e : off + (a + q) * n = off + a * n + q * n := by rw [Nat.add_mul]; omega
    rwa [e] at g2
end
end
end Go.Proofs.Ytkplmgdmkfgjhaa
