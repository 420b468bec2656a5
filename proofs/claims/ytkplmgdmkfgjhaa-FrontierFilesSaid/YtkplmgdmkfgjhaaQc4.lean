/- Struct literals, fields, reslices, new rows; the equality of aggregates. -/
import Derived.Test.YtkplmgdmkfgjhaaQc3
import Derived.Laws.Tables
import Derived.Laws.StructEq
import Derived.Lib.AppendZeros
import Derived.Test.YtkplmgdmkfgjhaaRows
import Derived.ProofKit
import Derived.OpenShut
import Derived.Deep.Slices
import Derived.Deep.Strs
import Derived.JoinedCond
import Derived.Lib.AppendStr
import Derived.Maps.Range
import Derived.Maps.Ext
import Derived.Maps.RangeWalk
import Derived.Shelf.SlSortCmp.NoneTotal
import Derived.Sort.OwnSortedInts
import Derived.Test.YtkplmgdmkfgjhaaQc0
import Derived.LaidEql
import Derived.MapFrom
namespace Go.Proofs.Ytkplmgdmkfgjhaa
open Go.RowKit

section
variable {P : Program} {E : Env} {N : Nat} {af : AF} {σ ρ : Items} {w : World}
variable {d : Option Tmp} {ty : TypeId} {pos : String} {after : Array Edge} {g : Option (Nat × Bool)} {t t' e : TypeId} {x y z : Operand} {K : AF → Prop}

/-! ### Struct literals -/
def fillA (place : Nat → Option (Nat × Nat)) : List AV → List (Nat × List AV) → Option (List AV)
  | c, [] => some c
  | c, (i, u) :: rest => match place i with
    | none => none
    | some (off, size) => if u.length != size || decide (off + u.length > c.length) then none else fillA place (splc c off u) rest
def builtA (P : Program) (t : TypeId) (parts : List (Nat × List AV)) : Option (List AV) :=
  match P.info? t, P.underlying t with
  | some it, some (.array _ e) =>
    match it.zero, P.info? e with
    | some z, some ie => fillA (fun i => some (i * ie.size, ie.size)) (z.cells.toList.map .exact) parts
    | _, _ => none
  | some it, some (.struct fields) =>
    match it.zero, fields.toList.mapM (fun f => (P.info? f.type).map fun i => (f.offset, i.size)) with
    | some z, some places => fillA (places.toArray[·]?) (z.cells.toList.map .exact) parts
    | _, _ => none
  | _, _ => none
theorem fill_fit {M : BSet} (place : Nat → Option (Nat × Nat)) : ∀ {ps : List (Nat × List AV)} {qs : List (Nat × Value)} {c c' : List AV} {vs : List Value}, Fit M w c vs → ps.length = qs.length →
    (∀ (k : Nat) (p : Nat × List AV) (q : Nat × Value), ps[k]? = some p → qs[k]? = some q → p.1 = q.1 ∧ ∃ us : List Value, q.2.cells = us.toArray ∧ Fit M w p.2 us) → fillA place c ps = some c' →
    ∃ us : List Value, Instr.fill place vs.toArray qs = some us.toArray ∧ Fit M w c' us
  | [], [], c, c', vs, hf, _, _, h => by simp [fillA] at h; subst h; exact ⟨vs, rfl, hf⟩
  | (i, u) :: ps, (j, v) :: qs, c, c', vs, hf, hl, hp, h => by
    obtain ⟨h1, us, h2, h3⟩ := hp 0 _ _ rfl rfl
    dsimp only at h1 h2 h3
    subst h1
    unfold fillA at h
    unfold Instr.fill
    cases hpl : place i with
    | none => simp [hpl] at h
    | some os =>
      obtain ⟨off, size⟩ := os
      simp only [hpl] at h ⊢
      split at h
      · cases h
      · rename_i hc
        simp only [Bool.or_eq_true, bne_iff_ne, ne_eq, decide_eq_true_eq, not_or, Classical.not_not, Nat.not_lt] at hc
        have hul := h3.length
        have hcl := hf.length
        have hvs : v.cells.size = us.length := by rw [h2]; simp
        rw [if_neg (by simp [hvs]; omega)]
        have hfold : (v.cells.zipIdx.foldl (fun cs (p : Value × Nat) => cs.setIfInBounds (off + p.2) p.1) vs.toArray) = (splc vs off us).toArray := by
          apply Array.ext'
          rw [← Array.foldl_toList, Array.toList_zipIdx, h2, foldl_set us 0 vs.toArray (by simp; omega)]
          simp [splc]
        rw [hfold]
        exact fill_fit place (Fit.spl off hf h3) (by simpa using hl) (fun k p q hk hq => hp (k + 1) p q (by simpa using hk) (by simpa using hq)) h
theorem cells_get {M : BSet} {ev : Operand → Value} : ∀ {ps : List (Nat × Operand)} {cs : List (List AV)}, CellsAll af ps cs → (∀ p ∈ ps, (af.ev p.2).p M w (ev p.2)) →
    cs.length = ps.length ∧ ∀ (k : Nat) (p : Nat × Operand) (c : List AV), ps[k]? = some p → cs[k]? = some c → ∃ us : List Value, (ev p.2).cells = us.toArray ∧ Fit M w c us
  | [], [], _, _ => ⟨rfl, fun k p c h => by simp at h⟩
  | p :: ps, c :: cs, h, hv => by
    obtain ⟨h1, h2⟩ := cells_get h.2 (fun q hq => hv q (by simp [hq]))
    refine ⟨by simp [h1], fun k q c' hk hc => ?_⟩
    cases k with
    | zero => simp at hk hc; subst hk hc; exact h.1 M w _ (hv p (by simp))
    | succ k => exact h2 k q c' (by simpa using hk) (by simpa using hc)
theorem op_bld {ps : List (Nat × Operand)} {cs : List (List AV)} {c0 c' : List AV} (hc : CellsAll af ps cs) (hB : builtA P t ((ps.map (·.1)).zip cs) = some c0) (hle : LEs c0 c') (hk : K (af.put d (.agg c'))) : opA P ⟨d, .build t ps.toArray, ty, pos, after, g⟩ af K := by
  refine ⟨_, fun M w ev hM h => ?_, hk⟩
  have hv : ∀ p ∈ ps, (af.ev p.2).p M w (ev p.2) := fun p hp => h p.2 (by simp [Op.operands]; exact ⟨p.1, hp⟩)
  obtain ⟨hl, hg⟩ := cells_get hc hv
  have key : ∀ (place : Nat → Option (Nat × Nat)) (z : Value), fillA place (z.cells.toList.map .exact) ((ps.map (·.1)).zip cs) = some c0 → ∃ us : List Value, Instr.fill place z.cells (ps.map fun p => (p.1, ev p.2)) = some us.toArray ∧ Fit M w c0 us := by
    intro place z hf
    have := fill_fit (M := M) (w := w) place (qs := ps.map fun p => (p.1, ev p.2)) (vs := z.cells.toList) (fit_exact _) (by simp [hl]) (fun k p q hkp hkq => by
      rw [List.getElem?_map, Option.map_eq_some_iff] at hkq
      obtain ⟨o, ho, rfl⟩ := hkq
      rw [List.getElem?_zip_eq_some] at hkp
      obtain ⟨g1, g2⟩ := hkp
      rw [List.getElem?_map, ho] at g1
      obtain ⟨p1, p2⟩ := p
      injection g1 with g1
      exact ⟨g1.symm, hg k o _ ho g2⟩) hf
    simpa using this
  have hb : ∃ us : List Value, P.built t (ps.map fun p => (p.1, ev p.2)) = some us.toArray ∧ Fit M w c0 us := by
    unfold builtA at hB
    unfold Program.built
    cases hit : P.info? t with
    | none => simp [hit] at hB
    | some it =>
      cases hu : P.underlying t with
      | none => simp [hit, hu] at hB
      | some D =>
        cases hz : it.zero with
        | none => cases D <;> simp [hit, hu, hz] at hB
        | some z =>
          cases D <;> try (simp [hit, hu] at hB; done)
          case array n e =>
            cases hie : P.info? e with
            | none => simp [hit, hu, hz, hie] at hB
            | some ie =>
              simp only [hit, hu, hz, hie] at hB ⊢
              exact key _ z hB
          case struct fields =>
            cases hp : fields.toList.mapM (fun f => (P.info? f.type).map fun i => (f.offset, i.size)) with
            | none => simp [hit, hu, hz, hp] at hB
            | some places =>
              simp only [hit, hu, hz, hp] at hB ⊢
              exact key _ z hB
  obtain ⟨us, h1, h2⟩ := hb
  have hr : (execOp ev ⟨d, .build t ps.toArray, ty, pos, after, g⟩).run P w = .ok (.value (.agg us.toArray)) w := by
    have hbb := run_build (P := P) w t (ps.toArray.map fun x => (x.1, ev x.2)) us.toArray (by simpa using h1)
    unfold execOp
    simp only [Sem.run_bind, hbb, Result.andThen_ok, Sem.run_pure]
  rw [hr]
  exact ⟨Keeps.refl _ _, us, rfl, LE_fit hle h2⟩

/-! ### Fields of values -/
/-! ### Reslices -/
section
variable {α : Type} {n : Nat} {enc : α → List AV} {xs : List α} {lo hi : Option Operand} {m : Operand} {i j q : Int} {k k1 k2 : IntKind}
theorem op_slice_row3 {hi : Operand} (hB : sliceB P t n = true) (hx : af.ev x = .row n enc xs) (hlo : bnd af lo 0 i) (hhi : af.ev hi = .exact (.int k1 j)) (hm : af.ev m = .exact (.int k2 q)) (h0 : 0 ≤ i) (h1 : i ≤ j) (h2 : j ≤ q) (h3 : q ≤ xs.length)
    (hk : K (af.put d (.row n enc ((xs.drop i.toNat).take (j.toNat - i.toNat))))) : opA P ⟨d, .slice t x lo (some hi) (some m), ty, pos, after, g⟩ af K := by
  refine ⟨_, fun M w ev _ h => ?_, hk⟩
  obtain ⟨A, c, e1, hc1, hc2, e4⟩ := opnd_p h (x := x) (by cases lo <;> simp [Op.operands]) hx
  obtain ⟨e, hu, hs⟩ := sliceB_spec hB
  obtain ⟨a, rfl⟩ := Int.eq_ofNat_of_zero_le h0
  obtain ⟨b, rfl⟩ := Int.eq_ofNat_of_zero_le (Int.le_trans h0 h1)
  obtain ⟨p, rfl⟩ := Int.eq_ofNat_of_zero_le (Int.le_trans (Int.le_trans h0 h1) h2)
  simp only [Int.toNat_natCast]
  have h1' : a ≤ b := by omega
  have h2' : b ≤ p := by omega
  have hlen : ((xs.drop a).take (b - a)).length = b - a := by simp; omega
  have em := opnd h (x := m) (by cases lo <;> simp [Op.operands]) hm
  have eh := opnd h (x := hi) (by cases lo <;> simp [Op.operands]) hhi
  have hrun : (execOp ev ⟨d, .slice t x lo (some hi) (some m), ty, pos, after, g⟩).run P w = .ok (.value (.slice (if p = a then A else A.map (·.add (a * n))) (b - a) (p - a))) w := by
    have hpc : p ≤ c := by omega
    have hb : (Instr.sliceBounds true xs.length c (lo.map ev) (some (ev hi)) (some (ev m))).run P w = .ok (a, b, p) w := by
      unfold Instr.sliceBounds
      cases lo with
      | none =>
        have : (a : Int) = 0 := hlo
        obtain rfl : a = 0 := by omega
        simp [Instr.sliceBound, asIntOf, em, eh, hpc, h2', go_sem]
      | some o =>
        obtain ⟨k0, hk0⟩ := hlo
        have e2 := opnd h (x := o) (by simp [Op.operands]) hk0
        simp [Instr.sliceBound, asIntOf, em, eh, e2, hpc, h2', h1', go_sem]
    unfold execOp
    simp only [Instr.sliceAt, Instr.slice, e1, Sem.run_bind, run_under hu, Result.andThen_ok, Option.map_some, hb, run_size hs, Sem.run_pure]
  rw [hrun]
  show Keeps noB w w ∧ _
  refine ⟨Keeps.refl _ _, (if p = a then A else A.map (·.add (a * n))), p - a, ?_, ?_, ?_, fun hne => ?_⟩
  · rw [hlen]
  · rw [hlen]; omega
  · omega
  · have hxs : xs ≠ [] := by rintro rfl; simp at hne
    obtain ⟨bb, off, rfl, hb, hnM, hcell⟩ := e4 hxs
    have hij : a < b := by
      rcases Nat.lt_or_ge a b with h | h
      · exact h
      · exact absurd (List.eq_nil_of_length_eq_zero (by rw [hlen]; omega)) hne
    rw [if_neg (by omega)]
    refine ⟨bb, off + a * n, by simp [addr_add'], hb, hnM, fun q x hq => ?_⟩
    have hq' : xs[a + q]? = some x := by
      rw [List.getElem?_take] at hq
      split at hq
      · rwa [List.getElem?_drop] at hq
      · cases hq
    obtain ⟨g1, g2⟩ := hcell _ _ hq'
    refine ⟨g1, ?_⟩
    have e : off + (a + q) * n = off + a * n + q * n := by rw [Nat.add_mul]; omega
    rwa [e] at g2
end

end
end Go.Proofs.Ytkplmgdmkfgjhaa
/- Appending strings and nil; bools; the equality of aggregates; strings out of rows in use. -/
namespace Go.Proofs.Ytkplmgdmkfgjhaa
open Go.RowKit

section
variable {P : Program} {E : Env} {N : Nat} {af : AF} {σ ρ : Items} {w : World}
variable {d : Option Tmp} {ty : TypeId} {pos : String} {after : Array Edge} {g : Option (Nat × Bool)} {t t' e : TypeId} {x y z : Operand}

section
variable {K : AF → Prop}
theorem op_eqlB {a b : Bool} (hB : isBoolB P t = true) (hx : af.ev x = .exact (.bool a)) (hy : af.ev y = .exact (.bool b)) (hk : K (af.put d (.exact (.bool (decide (a = b)))))) : opA P ⟨d, .binOp .eql t x y t', ty, pos, after, g⟩ af K := op_eql_bool hB hx hy hk
def guardB (P : Program) (t : TypeId) : Bool := !P.eqGuardType P.depth t
theorem op_eqlA {α : Type} [DecidableEq α] {enc : α → List AV} {a b : α} (hg : guardB P t = true) (heq : ∀ {M w vs us}, Fit M w (enc a) vs → Fit M w (enc b) us → (Op.equal t (.agg vs.toArray) (.agg us.toArray)).run P w = .ok (decide (a = b)) w) (hx : af.ev x = .agg (enc a)) (hy : af.ev y = .agg (enc b))
    (hk : K (af.put d (.exact (.bool (decide (a = b)))))) : opA P ⟨d, .binOp .eql t x y t', ty, pos, after, g⟩ af K := by
  refine ⟨_, fun M w ev _ h => ?_, hk⟩
  obtain ⟨vs, e1, f1⟩ := opnd_p h (x := x) (by simp [Op.operands]) hx
  obtain ⟨us, e2, f2⟩ := opnd_p h (x := y) (by simp [Op.operands]) hy
  have hg' : P.eqGuardType P.depth t = false := by simpa [guardB] using hg
  simp [execOp, eqGuard, run_prog, e1, e2, binOp, hg', heq f1 f2, go_sem, UponQ]
  exact ⟨Keeps.refl _ _, rfl⟩
theorem op_neqA {α : Type} [DecidableEq α] {enc : α → List AV} {a b : α} (hg : guardB P t = true) (heq : ∀ {M w vs us}, Fit M w (enc a) vs → Fit M w (enc b) us → (Op.equal t (.agg vs.toArray) (.agg us.toArray)).run P w = .ok (decide (a = b)) w) (hx : af.ev x = .agg (enc a)) (hy : af.ev y = .agg (enc b))
    (hk : K (af.put d (.exact (.bool (decide (¬ a = b)))))) : opA P ⟨d, .binOp .neq t x y t', ty, pos, after, g⟩ af K := by
  refine ⟨_, fun M w ev _ h => ?_, hk⟩
  obtain ⟨vs, e1, f1⟩ := opnd_p h (x := x) (by simp [Op.operands]) hx
  obtain ⟨us, e2, f2⟩ := opnd_p h (x := y) (by simp [Op.operands]) hy
  have hg' : P.eqGuardType P.depth t = false := by simpa [guardB] using hg
  simp [execOp, eqGuard, run_prog, e1, e2, binOp, hg', heq f1 f2, go_sem, UponQ]
  exact ⟨Keeps.refl _ _, by by_cases h : a = b <;> simp [h] <;> rfl⟩
/-- A part of a row in use. -/
def AV.vsub (v : Value) (n lo m : Nat) : AV := ⟨fun _ _ u => ∃ A l c, v = .slice A l c ∧ lo ≤ c ∧ m ≤ c - lo ∧ u = .slice (if c = lo then A else A.map (·.add (lo * n))) m (c - lo), fun _ _ h => h⟩
theorem Bor.vsub {α : Type} {n lo m : Nat} {enc : α → List AV} {xs : List α} {v : Value} (hm : vecT P e n enc v xs ∈ σ) (he : ∀ x, (enc x).length = n) (hl : lo + m ≤ xs.length) : Bor σ (.vsub v n lo m) (.row n enc ((xs.drop lo).take m)) := fun F w u hg hx => by
  obtain ⟨A, l, c, rfl, hc1, hc2, rfl⟩ := hx
  obtain ⟨A', c', hv, h1, h2, h4⟩ := Bor.vec (w := w) hm he F _ hg rfl
  injection hv with g1 g2 g3
  subst g1 g2 g3
  have hlen : ((xs.drop lo).take m).length = m := by simp; omega
  refine ⟨(if c = lo then A else A.map (·.add (lo * n))), c - lo, by rw [hlen], by rw [hlen]; exact hc2, by omega, fun hne => ?_⟩
  have hxs : xs ≠ [] := by rintro rfl; simp at hne
  obtain ⟨b, off, rfl, hb, hn, hcell⟩ := h4 hxs
  have hpos : 0 < m := by
    rcases Nat.eq_zero_or_pos m with h | h
    · subst h; simp at hne
    · exact h
  rw [if_neg (by omega)]
  refine ⟨b, off + lo * n, by simp [addr_add'], hb, hn, fun q x hq => ?_⟩
  have hq' : xs[lo + q]? = some x := by
    rw [List.getElem?_take] at hq
    split at hq
    · rwa [List.getElem?_drop] at hq
    · cases hq
  obtain ⟨g1, g2⟩ := hcell _ _ hq'
  refine ⟨g1, ?_⟩
  have e : off + (lo + q) * n = off + lo * n + q * n := by rw [Nat.add_mul]; omega
  rwa [e] at g2
theorem op_slice_vec {α : Type} {n : Nat} {enc : α → List AV} {xs : List α} {v : Value} {lo hi : Option Operand} {i j : Int} (hB : sliceB P t n = true) (hx : af.ev x = .exact v) (hlo : bnd af lo 0 i) (hhi : bnd af hi xs.length j) (h0 : 0 ≤ i) (h1 : i ≤ j) (h2 : j ≤ xs.length)
    (hk : K (af.put d (.vsub v n i.toNat (j.toNat - i.toNat)))) : opR P ⟨d, .slice t x lo hi none, ty, pos, after, g⟩ af (vecT P e n enc v xs :: ρ) K := by
  refine ⟨_, fun F w ev hg h => ?_, hk⟩
  have e1 := opnd h (x := x) (by cases lo <;> cases hi <;> simp [Op.operands]) hx
  obtain ⟨vs, hown, _⟩ := hg.items _ List.mem_cons_self
  have hv : ∃ A c, v = .slice A xs.length c ∧ xs.length ≤ c := by
    rcases hown.2 with ⟨rfl, h0⟩ | ⟨g, cap, cur, rfl, _, _, hc, _⟩
    · exact ⟨none, 0, by rw [h0], by omega⟩
    · exact ⟨_, _, rfl, hc⟩
  obtain ⟨A, c, rfl, hc⟩ := hv
  obtain ⟨e, hu, hs⟩ := sliceB_spec hB
  obtain ⟨a, rfl⟩ := Int.eq_ofNat_of_zero_le h0
  obtain ⟨b, rfl⟩ := Int.eq_ofNat_of_zero_le (Int.le_trans h0 h1)
  simp only [Int.toNat_natCast]
  have h1' : a ≤ b := by omega
  have h2' : b ≤ xs.length := by omega
  have hrun : (execOp ev ⟨d, .slice t x lo hi none, ty, pos, after, g⟩).run P w = .ok (.value (.slice (if c = a then A else A.map (·.add (a * n))) (b - a) (c - a))) w := by
    have hh : (match hi.map ev with | some v => Instr.sliceBound v c .sliceAcap | none => pure xs.length : Sem Nat).run P w = .ok b w := by
      cases hi with
      | none => have : (b : Int) = xs.length := hhi; obtain rfl : b = xs.length := by omega
                simp [go_sem]
      | some o =>
        obtain ⟨k, hk⟩ := hhi
        have e2 := opnd h (x := o) (by cases lo <;> simp [Op.operands]) hk
        have hbc : b ≤ c := by omega
        simp [Instr.sliceBound, asIntOf, e2, hbc, go_sem]
    have hl : (match lo.map ev with | some v => Instr.sliceBound v b .sliceB | none => pure 0 : Sem Nat).run P w = .ok a w := by
      cases lo with
      | none => have : (a : Int) = 0 := hlo; obtain rfl : a = 0 := by omega
                simp [go_sem]
      | some o =>
        obtain ⟨k, hk⟩ := hlo
        have e2 := opnd h (x := o) (by simp [Op.operands]) hk
        simp [Instr.sliceBound, asIntOf, e2, h1', go_sem]
    have hb : (Instr.sliceBounds true xs.length c (lo.map ev) (hi.map ev) none).run P w = .ok (a, b, c) w := by
      unfold Instr.sliceBounds
      simp only [Sem.run_bind, Sem.run_pure, Result.andThen_ok]
      cases hi with
      | none =>
        cases lo with
        | none => simp [go_sem] at hh hl ⊢; exact ⟨hl, hh⟩
        | some o => simp [go_sem] at hh hl ⊢; simp [hh, hl]
      | some o' =>
        cases lo with
        | none => simp [go_sem] at hh hl ⊢; simp [hh, hl]
        | some o => simp [go_sem] at hh hl ⊢; simp [hh, hl]
    unfold execOp
    simp only [Instr.sliceAt, Instr.slice, e1, Sem.run_bind, run_under hu, Result.andThen_ok, hb, run_size hs, Sem.run_pure, Option.map_none]
  rw [hrun]
  exact ⟨Keeps.refl _ _, A, _, c, rfl, by omega, by omega, rfl⟩
end

theorem op_indexArr_eptr {m n o : Nat} {k : IntKind} {i : Int} {v : Value} {K : AF → Prop} (hB : arrIdxB P t m n = true) (hx : af.ev x = .eptr v o) (hy : af.ev y = .exact (.int k i)) (h0 : 0 ≤ i) (h1 : i < m) (hk : K (af.put d (.eptr v (o + i.toNat * n)))) : opA P ⟨d, .indexAddr t x y, ty, pos, after, g⟩ af K := by
  refine ⟨_, fun M w ev _ h => ?_, hk⟩
  obtain ⟨b, l, c, hv, e1⟩ := opnd_p h (x := x) (by simp [Op.operands]) hx
  have e2 := opnd h (x := y) (by simp [Op.operands]) hy
  have hr : (execOp ev ⟨d, .indexAddr t x y, ty, pos, after, g⟩).run P w = .ok (.value (.pointer (some ⟨b, o + i.toNat * n, none⟩))) w := by
    unfold execOp
    simp only [e1, e2, Sem.run_bind, run_indexArr hB h0 h1, Result.andThen_ok, Sem.run_pure]
  rw [hr]
  exact ⟨Keeps.refl _ _, b, l, c, hv, rfl⟩
/-- The complement of the bits. -/
theorem op_com {k : IntKind} {a r m : Int} {K : AF → Prop} (hx : af.ev x = .exact (.int k a)) (hr : bXor k m a = r) (hk : K (af.put d (.exact (.int k r)))) (hm : (if k.signed then -1 else k.max) = m := by rfl) : opA P ⟨d, .unOp .xor t x, ty, pos, after, g⟩ af K := by
  subst hr hm
  refine ⟨_, fun M w ev _ h => ?_, hk⟩
  have e1 := opnd h (x := x) (by simp [Op.operands]) hx
  simp [execOp, e1, Op.unary, Op.intBits, go_sem, UponQ]
  exact ⟨Keeps.refl _ _, rfl⟩
/-- An array's slice, the array being written no more. -/
theorem op_slice_ptr {α : Type} {n m : Nat} {enc : α → List AV} {c : List AV} {K : AF → Prop} (xs : List α) (hB : arrIdxB P t m n = true) (hm : 0 < m ∧ m ≤ 65536) (hx : af.ev x = .ptr c) (hc : c = xs.flatMap enc) (hl : xs.length = m) (he : ∀ x, (enc x).length = n) (hk : K (af.put d (.row n enc xs))) : opA P ⟨d, .slice t x none none none, ty, pos, after, g⟩ af K := by
  refine ⟨_, fun M w ev _ h => ?_, hk⟩
  obtain ⟨b, off, e1, hb, hn, h4⟩ := opnd_p h (x := x) (by simp [Op.operands]) hx
  unfold arrIdxB at hB
  split at hB
  · rename_i kk e hu
    simp only [Bool.and_eq_true, beq_iff_eq] at hB
    obtain ⟨rfl, hs⟩ := hB
    have hr : (execOp ev ⟨d, .slice t x none none none, ty, pos, after, g⟩).run P w = .ok (.value (.slice (some ⟨b, off, none⟩) kk kk)) w := by
      unfold execOp
      simp [Instr.sliceAt, Instr.sliceBounds, run_under hu, e1, Instr.sureAddr, run_size (sizeB_spec hs), addr_at, go_sem]
    rw [hr]
    refine ⟨Keeps.refl _ _, some ⟨b, off, none⟩, kk, by rw [hl], by omega, ?_, fun _ => ⟨b, off, rfl, hb, hn, fun i x hi => ⟨he x, ?_⟩⟩⟩
    · omega
    · subst hc
      refine h4.sub (fun j a hj => flat_get (fun x _ => he x) hi j a hj)
  · cases hB
/-! ### Reslices from the start, to the end -/
section
variable {α : Type} {n : Nat} {enc : α → List AV} {xs : List α} {lo hi : Option Operand} {i j : Int} {K : AF → Prop}
theorem op_slice_rowd (hB : sliceB P t n = true) (hx : af.ev x = .row n enc xs) (hlo : bnd af lo 0 i) (hhi : bnd af none xs.length (xs.length : Int)) (h0 : 0 ≤ i) (h1 : i ≤ (xs.length : Int)) (h2 : (xs.length : Int) ≤ xs.length) (hk : K (af.put d (.row n enc (xs.drop i.toNat)))) : opA P ⟨d, .slice t x lo none none, ty, pos, after, g⟩ af K :=
  op_slice_row hB hx hlo hhi h0 h1 h2 (by rw [List.take_of_length_le (by simp)]; exact hk)
theorem op_slice_rowt (hB : sliceB P t n = true) (hx : af.ev x = .row n enc xs) (hlo : bnd af lo 0 0) (hhi : bnd af hi xs.length j) (h0 : (0 : Int) ≤ 0) (h1 : 0 ≤ j) (h2 : j ≤ xs.length) (hk : K (af.put d (.row n enc (xs.take j.toNat)))) : opA P ⟨d, .slice t x lo hi none, ty, pos, after, g⟩ af K :=
  op_slice_row hB hx hlo hhi h0 h1 h2 (by simpa using hk)
variable {s : List UInt8}
end

/-! ### nil appended -/
section
variable {α : Type} {n : Nat} {enc : α → List AV} {xs : List α} {v : Value} {K : AF → Items → Prop}
end
theorem set2_le {a0 a1 a : AV} {i : Int} (h0 : 0 ≤ i) (h1 : i < 2) : 0 + i.toNat * 1 + [a].length ≤ [a0, a1].length := by
  simp; omega
theorem set2 {k : IntKind} {x0 x1 x i : Int} (h0 : 0 ≤ i) (h1 : i < 2) : splc ([.exact (.int k x0), .exact (.int k x1)] : List AV) (0 + i.toNat * 1) [.exact (.int k x)] = [.exact (.int k (if i = 0 then x else x0)), .exact (.int k (if i = 0 then x1 else x))] := by
  have : i = 0 ∨ i = 1 := by omega
  rcases this with rfl | rfl <;> rfl
theorem run_part1 {cs : Array Value} {off : Nat} {u : Value} (hB : loadB P t false 1 = true) (h : cs[off]? = some u) : (part t cs off).run P w = .ok u w := by
  obtain ⟨⟨D, hu, ha⟩, _⟩ := loadB_spec hB
  unfold part
  simp only [Sem.run_bind, run_agg hu, ha, Result.andThen_ok, Bool.false_eq_true, if_false, h, Sem.run_pure]
theorem eq_pair {t : TypeId} (h : ∀ (x0 x1 y0 y1 : Int) (w : World), (Op.equal t (.agg #[.int .i64 x0, .int .i64 x1]) (.agg #[.int .i64 y0, .int .i64 y1])).run P w = .ok (decide (x0 = y0 ∧ x1 = y1)) w) (a b : Int × Int) {M : BSet} {w : World} {vs us : List Value}
    (h1 : Fit M w [.exact (.int .i64 a.1), .exact (.int .i64 a.2)] vs) (h2 : Fit M w [.exact (.int .i64 b.1), .exact (.int .i64 b.2)] us) : (Op.equal t (.agg vs.toArray) (.agg us.toArray)).run P w = .ok (decide (a = b)) w := by
  match vs, h1 with
  | [u0, u1], ⟨g0, g1, _⟩ =>
    match us, h2 with
    | [v0, v1], ⟨k0, k1, _⟩ =>
      obtain rfl : u0 = _ := g0
      obtain rfl : u1 = _ := g1
      obtain rfl : v0 = _ := k0
      obtain rfl : v1 = _ := k1
      rw [h]
      congr 1
      simp [Prod.ext_iff]
/-! ### A row in use cut short; an element taken out -/
section
variable {α : Type} {n : Nat} {enc : α → List AV} {xs : List α} {v : Value} {K : AF → Items → Prop}
end
section
variable {α : Type} {n : Nat} {enc : α → List AV} {xs : List α} {v : Value} {K : AF → Items → Prop}
theorem OneC.take {c : List AV} (h : OneC c) (k : Nat) : OneC (c.take k) := fun a ha => h a (List.mem_of_mem_take ha)
theorem OneC.drop {c : List AV} (h : OneC c) (k : Nat) : OneC (c.drop k) := fun a ha => h a (List.mem_of_mem_drop ha)
end
end
end Go.Proofs.Ytkplmgdmkfgjhaa
/- Regions in whatever order, with quiet operations, reads of what is in use, and changes of it: one walk serves if those that clash are tied by edges. -/
namespace Go.Proofs.Ytkplmgdmkfgjhaa
open Go.RowKit

section
variable {P : Program} {ops : Array Oper} {E : Env} {n : Nat} {QA : Exit → AF → Items → Prop} {af : AF} {σ : Items}

/-- Operation j waits for i, directly or not. -/
inductive Dep (ops : Array Oper) (i : Nat) : Nat → Prop where
  | one {j : Nat} {o : Oper} {e : Edge} (h : ops[j]? = some o) (he : e ∈ o.after) (hb : Region.binds .any e = true) (hi : e.on = i) : Dep ops i j
  | more {j : Nat} {o : Oper} {e : Edge} (h : ops[j]? = some o) (he : e ∈ o.after) (hb : Region.binds .any e = true) (hd : Dep ops i e.on) : Dep ops i j
def Down (ops : Array Oper) (listed : Array Bool) : Prop := ∀ j o, ops[j]? = some o → listed.getD j false = true → ∀ e ∈ o.after, Region.binds .any e = true → listed.getD e.on false = true
theorem Dep.unlisted {i j : Nat} {listed : Array Bool} (hd : Dep ops i j) (hD : Down ops listed) (hi : listed.getD i false = false) : listed.getD j false = false ∧ j ∉ Region.ready .any ops listed := by
  induction hd with
  | one h he hb hi' =>
    subst hi'
    constructor
    · cases hl : listed.getD _ false with
      | false => rfl
      | true => have := hD _ _ h hl _ he hb; rw [hi] at this; cases this
    · intro hr
      obtain ⟨_, o', ho', hall⟩ := mem_ready.1 hr
      rw [h] at ho'; injection ho' with ho'; subst ho'
      have := hall _ he hb
      rw [hi] at this; cases this
  | more h he hb _ ih =>
    constructor
    · cases hl : listed.getD _ false with
      | false => rfl
      | true => have := hD _ _ h hl _ he hb; rw [ih.1] at this; cases this
    · intro hr
      obtain ⟨_, o', ho', hall⟩ := mem_ready.1 hr
      rw [h] at ho'; injection ho' with ho'; subst ho'
      have := hall _ he hb
      rw [ih.1] at this; cases this
theorem Down.step {i : Nat} {listed : Array Bool} (hD : Down ops listed) (hr : i ∈ Region.ready .any ops listed) : Down ops (listed.setIfInBounds i true) := by
  intro j o ho hj e he hb
  obtain ⟨_, oi, hoi, hall⟩ := mem_ready.1 hr
  refine getD_set_true ?_
  by_cases hji : j = i
  · subst hji; rw [hoi] at ho; injection ho with ho; subst ho; exact hall e he hb
  · rw [getD_set_ne false (Ne.symm hji)] at hj; exact hD j o ho hj e he hb

/-- Those that wait for i, among the operations from k on. -/
def reach (i : Nat) : List Oper → Nat → List Nat → List Nat
  | [], _, acc => acc
  | o :: l, k, acc => reach i l (k + 1) (bif o.after.any (fun e => Region.binds .any e && (Nat.beq e.on i || acc.contains e.on)) then k :: acc else acc)
theorem reach_dep {i : Nat} : ∀ (l : List Oper) (k : Nat) (acc : List Nat), (∀ j, l[j]? = ops[k + j]?) → (∀ j ∈ acc, Dep ops i j) → ∀ j ∈ reach i l k acc, Dep ops i j
  | [], _, _, _, ha, j, hj => ha j hj
  | o :: l, k, acc, hl, ha, j, hj => by
    have h0 : ops[k]? = some o := by simpa using (hl 0).symm
    refine reach_dep l (k + 1) _ (fun j => by have := hl (j + 1); simpa [Nat.add_assoc, Nat.add_comm 1 j] using this) (fun q hq => ?_) j hj
    cases hc : o.after.any (fun e => Region.binds .any e && (Nat.beq e.on i || acc.contains e.on)) with
    | false => rw [hc] at hq; exact ha q hq
    | true =>
      rw [hc] at hq
      rcases List.mem_cons.1 hq with rfl | hq
      · rw [Array.any_eq_true] at hc
        obtain ⟨x, hx, hc⟩ := hc
        simp only [Bool.and_eq_true, Bool.or_eq_true] at hc
        rcases hc.2 with h | h
        · exact .one h0 (Array.getElem_mem hx) hc.1 (Nat.eq_of_beq_eq_true h)
        · exact .more h0 (Array.getElem_mem hx) hc.1 (ha _ (by simpa using h))
      · exact ha q hq

/-- All of kp are in use. -/
def Has (kp σ : Items) : Prop := ∀ it ∈ kp, it ∈ σ
def YieldsI (P : Program) (ops : Array Oper) (kp : Items) (o : Oper) (av : AV) (af : AF) : Prop :=
  (Sat ops o af false ∧ av = undefA) ∨ (Sat ops o af true ∧ ∀ σ, Has kp σ → Reads P o af σ av)
theorem YieldsI.put {kp : Items} {o oj : Oper} {av : AV} (x : AV) (h : ∀ d, oj.dst = some d → d ∉ o.looksAt ops) (hy : YieldsI P ops kp o av af) : YieldsI P ops kp o av (af.put oj.dst x) :=
  hy.imp (fun ⟨h1, h2⟩ => ⟨(Sat.put_iff x h).2 h1, h2⟩) (fun ⟨h1, h2⟩ => ⟨(Sat.put_iff x h).2 h1, fun σ hk => (h2 σ hk).put x h⟩)
theorem YieldsI.unput {kp : Items} {o oj : Oper} {av : AV} (x : AV) (h : ∀ d, oj.dst = some d → d ∉ o.looksAt ops) (hy : YieldsI P ops kp o av (af.put oj.dst x)) : YieldsI P ops kp o av af :=
  hy.imp (fun ⟨h1, h2⟩ => ⟨(Sat.put_iff x h).1 h1, h2⟩) (fun ⟨h1, h2⟩ => ⟨(Sat.put_iff x h).1 h1, fun σ hk => (h2 σ hk).unput x h⟩)
variable {kp : Items}
/-- A new variable, beside whatever is in use. -/
def NewAt (P : Program) (o : Oper) (t : TypeId) (c : List AV) : Prop := o.guard = none ∧ ∀ af σ, Loud P o af σ (fun a s => ∃ b, a = pA b 0 ∧ s = boxI t b c :: σ)
/-- Kinds: 0 quiet, 1 reads, 2 changes, 3 changes all but kp, 4 reads of kp, 5 a new variable. -/
def stepK (P : Program) (ops : Array Oper) (kp : Items) (kd : Nat) (i : Nat) (K : AF → Items → Prop) (af : AF) (σ : Items) : Prop :=
  match kd with
  | 3 => stepA P ops i (fun af' σ' => Has kp σ' ∧ K af' σ') af σ
  | 4 => match ops[i]? with | none => K af σ | some o => ∃ av, YieldsI P ops kp o av af ∧ K (af.put o.dst av) σ
  | 0 => match ops[i]? with | none => K af σ | some o => ∃ av, YieldsA P ops o av af ∧ K (af.put o.dst av) σ
  | 1 => match ops[i]? with | none => K af σ | some o => ∃ av, YieldsS P ops σ o av af ∧ K (af.put o.dst av) σ
  | 5 => ∃ o t c, ops[i]? = some o ∧ NewAt P o t c ∧ ∀ b, K (af.put o.dst (pA b 0)) (boxI t b c :: σ)
  | _ => stepA P ops i K af σ
theorem stepK_3 {i : Nat} {K : AF → Items → Prop} (h : stepA P ops i (fun af' σ' => Has kp σ' ∧ K af' σ') af σ) : stepK P ops kp 3 i K af σ := by unfold stepK; exact h
theorem stepK_mono {kd i : Nat} {K K' : AF → Items → Prop} (h : ∀ af σ, K af σ → K' af σ) (hh : stepK P ops kp kd i K af σ) : stepK P ops kp kd i K' af σ := by
  unfold stepK at *
  split at hh
  · exact stepA_mono (fun af σ ⟨a, b⟩ => ⟨a, h _ _ b⟩) hh
  · split at hh
    · exact h _ _ hh
    · obtain ⟨av, h1, h2⟩ := hh; exact ⟨av, h1, h _ _ h2⟩
  · split at hh
    · exact h _ _ hh
    · obtain ⟨av, h1, h2⟩ := hh; exact ⟨av, h1, h _ _ h2⟩
  · split at hh
    · exact h _ _ hh
    · obtain ⟨av, h1, h2⟩ := hh; exact ⟨av, h1, h _ _ h2⟩
  · obtain ⟨o, t, c, h0, h1, h2⟩ := hh; exact ⟨o, t, c, h0, h1, fun b => h _ _ (h2 b)⟩
  · exact stepA_mono h hh
theorem stepA_of_new {i : Nat} {K : AF → Items → Prop} (hh : ∃ o t c, ops[i]? = some o ∧ NewAt P o t c ∧ ∀ b, K (af.put o.dst (pA b 0)) (boxI t b c :: σ)) : stepA P ops i K af σ := by
  obtain ⟨o, t, c, h0, ⟨hg, hl⟩, h2⟩ := hh
  unfold stepA; simp only [h0]
  exact .inr ⟨.inl ⟨hg, rfl⟩, _, hl af σ, fun a s ⟨b, e1, e2⟩ => by subst e1 e2; exact h2 b⟩
theorem stepA_of_read {i : Nat} {o : Oper} {av : AV} {K : AF → Items → Prop} (h0 : ops[i]? = some o) (h1 : YieldsS P ops σ o av af) (h2 : K (af.put o.dst av) σ) : stepA P ops i K af σ := by
  unfold stepA; simp only [h0]
  rcases h1 with ⟨g1, rfl⟩ | ⟨g1, g2⟩
  · exact .inl ⟨g1, h2⟩
  · exact .inr ⟨g1, _, loud_of_reads g2, fun a s ⟨e1, e2⟩ => by subst e1 e2; exact h2⟩
theorem YieldsI.at {o : Oper} {av : AV} (h : YieldsI P ops kp o av af) (hk : Has kp σ) : YieldsS P ops σ o av af := h.imp id (fun ⟨a, b⟩ => ⟨a, b σ hk⟩)
/-- The items of kp are asked for as long as a read of them may come. -/
def anyK (P : Program) (ops : Array Oper) (kp : Items) (kinds : Nat → Nat) (K : AF → Items → Prop) : Nat → Array Bool → AF → Items → Prop
  | 0, listed, af, σ => Region.ready .any ops listed = [] ∧ K af σ
  | fuel + 1, listed, af, σ => (Region.ready .any ops listed = [] → K af σ) ∧ ∀ i ∈ Region.ready .any ops listed, stepK P ops kp (kinds i) i (anyK P ops kp kinds K fuel (listed.setIfInBounds i true)) af σ ∧ (kinds i = 4 → Has kp σ)
theorem stepA_of_K {kd i : Nat} {K : AF → Items → Prop} (hkp : kd = 4 → Has kp σ) (hh : stepK P ops kp kd i K af σ) : stepA P ops i K af σ := by
  by_cases h4 : kd = 4
  · subst h4
    unfold stepK at hh
    simp only at hh
    split at hh
    · rename_i h0; unfold stepA; simp only [h0]; exact hh
    · rename_i o h0
      obtain ⟨av, h1, h2⟩ := hh
      exact stepA_of_read h0 (h1.at (hkp rfl)) h2
  · unfold stepK at hh
    split at hh
    · exact stepA_mono (fun af σ h => h.2) hh
    · exact absurd rfl h4
    · split at hh
      · rename_i h0; unfold stepA; simp only [h0]; exact hh
      · rename_i o h0
        obtain ⟨av, h1, h2⟩ := hh
        exact h1.step h0 h2
    · split at hh
      · rename_i h0; unfold stepA; simp only [h0]; exact hh
      · rename_i o h0
        obtain ⟨av, h1, h2⟩ := hh
        exact stepA_of_read h0 h1 h2
    · exact stepA_of_new hh
    · exact hh
theorem anyA_of_anyK {kinds : Nat → Nat} {K : AF → Items → Prop} : ∀ (fuel : Nat) (listed : Array Bool) (af : AF) (σ : Items), anyK P ops kp kinds K fuel listed af σ → anyA P ops K fuel listed af σ
  | 0, _, _, _, h => h
  | fuel + 1, listed, af, σ, h => ⟨h.1, fun i hi => stepA_mono (fun af σ hh => anyA_of_anyK fuel _ af σ hh) (stepA_of_K (h.2 i hi).2 (h.2 i hi).1)⟩
def YieldsK (P : Program) (ops : Array Oper) (kp : Items) (kd : Nat) (σ : Items) (o : Oper) (av : AV) (af : AF) : Prop := match kd with | 0 => YieldsA P ops o av af | 4 => YieldsI P ops kp o av af ∧ Has kp σ | _ => YieldsS P ops σ o av af
def okK (ki kj : Nat) : Bool := match ki with
  | 0 => true
  | 4 => Nat.beq kj 0 || Nat.beq kj 1 || Nat.beq kj 3 || Nat.beq kj 4 || Nat.beq kj 5
  | _ => Nat.beq kj 0 || Nat.beq kj 1 || Nat.beq kj 4
theorem stepK_put {ki kj j : Nat} {oi oj : Oper} {av : AV} (hj : ops[j]? = some oj) (hap : oi.apart ops oj = true) (hk : okK ki kj = true) {K : AF → Items → Prop}
    (hy : YieldsK P ops kp ki σ oi av af) (h : stepK P ops kp kj j K (af.put oi.dst av) σ) : stepK P ops kp kj j (fun af' σ' => YieldsK P ops kp ki σ' oi av af' ∧ K (af'.put oi.dst av) σ') af σ := by
  obtain ⟨h1, h2, h3⟩ := Oper.apart_spec hap
  have hput : ∀ u, YieldsK P ops kp ki σ oi av (af.put oj.dst u) := fun u => by
    unfold YieldsK at hy ⊢
    split at hy
    · exact YieldsA.put u h3 hy
    · exact ⟨hy.1.put u h3, hy.2⟩
    · exact YieldsS.put u h3 hy
  unfold stepK at h
  split at h
  · -- a change that keeps kp
    refine stepK_3 ?_
    unfold stepA at h ⊢
    simp only [hj] at h ⊢
    rcases h with ⟨g1, g2, g3⟩ | ⟨g1, post, g2, g3⟩
    · refine .inl ⟨(Sat.put_iff av h1).1 g1, g2, hput undefA, ?_⟩
      rw [← AF.put_comm af av undefA h2]; exact g3
    · refine .inr ⟨(Sat.put_iff av h1).1 g1, post, g2.unput av h1, fun u σ' hp => ⟨(g3 u σ' hp).1, ?_, ?_⟩⟩
      · have hkp := (g3 u σ' hp).1
        unfold YieldsK at hy ⊢
        split at hy
        · exact YieldsA.put u h3 hy
        · exact ⟨hy.1.put u h3, hkp⟩
        · rename_i n0 n4; simp [okK] at hk <;> (split at hk <;> simp_all)
      · rw [← AF.put_comm af av u h2]; exact (g3 u σ' hp).2
  · simp only [stepK, hj] at h ⊢
    obtain ⟨u, g1, g2⟩ := h
    refine ⟨u, g1.unput av h1, hput u, ?_⟩
    rw [← AF.put_comm af av u h2]; exact g2
  · simp only [stepK, hj] at h ⊢
    obtain ⟨u, g1, g2⟩ := h
    refine ⟨u, ?_, hput u, ?_⟩
    · exact g1.imp (fun ⟨a, b⟩ => ⟨(Sat.put_iff av h1).1 a, b⟩) (fun ⟨a, b⟩ => ⟨(Sat.put_iff av h1).1 a, fun M w ev hM hx => b M w ev hM (fun y hy => by rw [ev_put af av h1 y hy]; exact hx y hy)⟩)
    · rw [← AF.put_comm af av u h2]; exact g2
  · simp only [stepK, hj] at h ⊢
    obtain ⟨u, g1, g2⟩ := h
    refine ⟨u, g1.unput av h1, hput u, ?_⟩
    rw [← AF.put_comm af av u h2]; exact g2
  · obtain ⟨o', t, c, h0, hnew, g2⟩ := h
    rw [hj] at h0; cases h0
    refine ⟨oj, t, c, hj, hnew, fun b => ⟨?_, ?_⟩⟩
    · unfold YieldsK at hy ⊢
      split at hy
      · exact YieldsA.put _ h3 hy
      · exact ⟨hy.1.put _ h3, fun y hm => List.mem_cons_of_mem _ (hy.2 y hm)⟩
      · rename_i n0 n4; simp [okK] at hk <;> (split at hk <;> simp_all)
    · rw [← AF.put_comm af av (pA b 0) h2]; exact g2 b
  · rename_i n0 n1 n2 n3 n5
    have hki : ki = 0 := by
      unfold okK at hk
      split at hk
      · rfl
      · simp only [Bool.or_eq_true] at hk
        rcases hk with (((h | h) | h) | h) | h
        · exact absurd (Nat.eq_of_beq_eq_true h) n2
        · exact absurd (Nat.eq_of_beq_eq_true h) n3
        · exact absurd (Nat.eq_of_beq_eq_true h) n0
        · exact absurd (Nat.eq_of_beq_eq_true h) n1
        · exact absurd (Nat.eq_of_beq_eq_true h) n5
      · simp only [Bool.or_eq_true] at hk
        rcases hk with (h | h) | h
        · exact absurd (Nat.eq_of_beq_eq_true h) n2
        · exact absurd (Nat.eq_of_beq_eq_true h) n3
        · exact absurd (Nat.eq_of_beq_eq_true h) n1
    subst hki
    have e : ∀ K af σ, stepK P ops kp kj j K af σ = stepA P ops j K af σ := fun K af σ => by
      unfold stepK
      split <;> first | rfl | exact absurd rfl ‹_›
    rw [e]
    exact stepA_put hj hap hy h
theorem anyK_first {kinds : Nat → Nat} {K : AF → Items → Prop} {i : Nat} {oi : Oper} {av : AV} (hi : ops[i]? = some oi) (hki : kinds i = 0 ∨ kinds i = 1 ∨ kinds i = 4) :
    ∀ (fuel : Nat) (listed : Array Bool) (af : AF) (σ : Items), Down ops listed →
      (∀ j oj, ops[j]? = some oj → j ≠ i → listed.getD j true = false → ¬ Dep ops i j → oi.apart ops oj = true ∧ okK (kinds i) (kinds j) = true) →
      i ∈ Region.ready .any ops listed → YieldsK P ops kp (kinds i) σ oi av af →
      anyK P ops kp kinds K fuel (listed.setIfInBounds i true) (af.put oi.dst av) σ → anyK P ops kp kinds K (fuel + 1) listed af σ := by
  intro fuel
  have one : ∀ {K' : AF → Items → Prop} {af : AF} {σ : Items}, YieldsK P ops kp (kinds i) σ oi av af → K' (af.put oi.dst av) σ → stepK P ops kp (kinds i) i K' af σ ∧ (kinds i = 4 → Has kp σ) := fun hy hk => by
    rcases hki with h | h | h <;> rw [h] at hy ⊢
    · exact ⟨by simp only [stepK, hi]; exact ⟨av, hy, hk⟩, fun h => by cases h⟩
    · exact ⟨by simp only [stepK, hi]; exact ⟨av, hy, hk⟩, fun h => by cases h⟩
    · exact ⟨by simp only [stepK, hi]; exact ⟨av, hy.1, hk⟩, fun _ => hy.2⟩
  induction fuel with
  | zero =>
    intro listed af σ _ _ hr hy H
    refine ⟨fun h => (by rw [h] at hr; cases hr), fun j hj => ?_⟩
    by_cases hji : j = i
    · subst hji; exact one hy H
    · have := ready_mono hj hji
      rw [H.1] at this
      cases this
  | succ fuel ih =>
    intro listed af σ hD hfree hr hy H
    refine ⟨fun h => (by rw [h] at hr; cases hr), fun j hj => ?_⟩
    by_cases hji : j = i
    · subst hji; exact one hy H
    · have h1 := H.2 j (ready_mono hj hji)
      obtain ⟨hjun, oj, hoj, hall⟩ := mem_ready.1 hj
      have hiun : listed.getD i false = false := by
        have := (mem_ready.1 hr).1
        cases hl : listed.getD i false with
        | false => rfl
        | true =>
          rcases Nat.lt_or_ge i listed.size with h' | h'
          · simp [h'] at this hl; rw [this] at hl; cases hl
          · simp [Array.getElem?_eq_none h'] at hl
      have hnd : ¬ Dep ops i j := fun hd => (hd.unlisted hD hiun).2 hj
      obtain ⟨hap, hkk⟩ := hfree j oj hoj hji hjun hnd
      have h2 := stepK_put hoj hap hkk hy h1.1
      have hfree' : ∀ k ok, ops[k]? = some ok → k ≠ i → (listed.setIfInBounds j true).getD k true = false → ¬ Dep ops i k → oi.apart ops ok = true ∧ okK (kinds i) (kinds k) = true := fun k ok hk hki hun hno => by
        refine hfree k ok hk hki ?_ hno
        by_cases hjk : j = k
        · subst hjk; exact hjun
        · rw [getD_set_ne true hjk] at hun; exact hun
      refine ⟨stepK_mono (fun af' σ' h3 => ih (listed.setIfInBounds j true) af' σ' (hD.step hj) hfree' (ready_mono hr (Ne.symm hji)) h3.1 ?_) h2, h1.2⟩
      rw [Array.setIfInBounds_comm _ _ hji]
      exact h3.2

/-! ### The walk in a given order: kinds and numbers -/
def opI (P : Program) (kp : Items) (o : Oper) (af : AF) (K : AF → Prop) : Prop := ∃ av, (∀ σ, Has kp σ → Reads P o af σ av) ∧ K (af.put o.dst av)
def opK (P : Program) (kp : Items) (kd : Nat) (o : Oper) (af : AF) (σ : Items) (K : AF → Items → Prop) : Prop := match kd with
  | 3 => opB P o af σ (fun af' σ' => Has kp σ' ∧ K af' σ')
  | 4 => Has kp σ ∧ opI P kp o af (fun af' => K af' σ)
  | 0 => opA P o af (fun af' => K af' σ)
  | 1 => opR P o af σ (fun af' => K af' σ)
  | _ => opB P o af σ K
def wpP (P : Program) (ops : Array Oper) (kp : Items) (K : AF → Items → Prop) : List (Nat × Nat) → AF → Items → Prop
  | [], af, σ => K af σ
  | (kd, i) :: rest, af, σ => ∃ o, ops[i]? = some o ∧ ((Sat ops o af false ∧ (kd = 3 ∨ kd = 4 → Has kp σ) ∧ wpP P ops kp K rest (af.put o.dst undefA) σ) ∨ (Sat ops o af true ∧ opK P kp kd o af σ (wpP P ops kp K rest)))
def kindOf (plan : List (Nat × Nat)) (i : Nat) : Nat := ((plan.find? (fun p => Nat.beq p.2 i)).map (·.1)).getD 2
def freeK (ops : Array Oper) (plan : List (Nat × Nat)) (listed : Array Bool) (i : Nat) : Bool :=
  match ops[i]? with
  | none => false
  | some oi =>
    let dep := reach i ops.toList 0 []
    (List.range ops.size).all fun j => Nat.beq j i || listed.getD j true || dep.contains j || (match ops[j]? with | none => false | some oj => oi.apart ops oj && okK (kindOf plan i) (kindOf plan j))
def lexK (ops : Array Oper) (plan : List (Nat × Nat)) : List (Nat × Nat) → Array Bool → Bool
  | [], listed => (Region.ready .any ops listed).isEmpty
  | (kd, k) :: rest, listed => Nat.beq (kindOf plan k) kd && !(Nat.beq kd 5) && (bif Nat.beq kd 0 || Nat.beq kd 1 || Nat.beq kd 4 then (Region.ready .any ops listed).contains k && freeK ops plan listed k else (Region.ready .any ops listed) == [k]) && lexK ops plan rest (listed.setIfInBounds k true)
theorem freeK_spec {plan : List (Nat × Nat)} {listed : Array Bool} {i : Nat} {oi : Oper} (hi : ops[i]? = some oi) (h : freeK ops plan listed i = true) (j : Nat) (oj : Oper) (hj : ops[j]? = some oj) (hne : j ≠ i) (hun : listed.getD j true = false) (hnd : ¬ Dep ops i j) :
    oi.apart ops oj = true ∧ okK (kindOf plan i) (kindOf plan j) = true := by
  unfold freeK at h
  simp only [hi] at h
  have hlt : j < ops.size := (Array.getElem?_eq_some_iff.1 hj).1
  have h1 := List.all_eq_true.1 h j (List.mem_range.2 hlt)
  simp only [Bool.or_eq_true, hun, hj, Bool.and_eq_true] at h1
  rcases h1 with ((h1 | h1) | h1) | h1
  · exact absurd (Nat.eq_of_beq_eq_true h1) hne
  · cases h1
  · exact absurd (reach_dep ops.toList 0 [] (fun q => by simp) (fun q hq => by simp at hq) j (by simpa using h1)) hnd
  · exact h1
theorem anyK_of_lex {plan : List (Nat × Nat)} {K : AF → Items → Prop} : ∀ (l : List (Nat × Nat)) (listed : Array Bool) (af : AF) (σ : Items), Down ops listed →
    lexK ops plan l listed = true → wpP P ops kp K l af σ → anyK P ops kp (kindOf plan) K l.length listed af σ
  | [], _, _, _, _, hB, h => ⟨by simpa [lexK] using hB, h⟩
  | (kd, k) :: l, listed, af, σ, hD, hB, h => by
    obtain ⟨o, h0, h⟩ := h
    simp only [lexK, Bool.and_eq_true] at hB
    obtain ⟨⟨⟨hB0, hB5⟩, hB1⟩, hB2⟩ := hB
    have hkd : kindOf plan k = kd := Nat.eq_of_beq_eq_true hB0
    have h5 : kd ≠ 5 := fun e => by subst e; simp at hB5
    by_cases hq : kd = 0 ∨ kd = 1 ∨ kd = 4
    · have hqb : (Nat.beq kd 0 || Nat.beq kd 1 || Nat.beq kd 4) = true := by rcases hq with h | h | h <;> rw [h] <;> rfl
      rw [hqb] at hB1
      simp only [cond_true, Bool.and_eq_true] at hB1
      obtain ⟨hr, hf⟩ := hB1
      have hr' : k ∈ Region.ready .any ops listed := by simpa using hr
      have hy : ∃ av, YieldsK P ops kp (kindOf plan k) σ o av af ∧ wpP P ops kp K l (af.put o.dst av) σ := by
        rw [hkd]
        rcases h with ⟨h1, hkp, h2⟩ | ⟨h1, h2⟩
        · refine ⟨undefA, ?_, h2⟩
          unfold YieldsK
          split
          · exact .inl ⟨h1, rfl⟩
          · exact ⟨.inl ⟨h1, rfl⟩, hkp (.inr rfl)⟩
          · exact .inl ⟨h1, rfl⟩
        · rcases hq with rfl | rfl | rfl
          · obtain ⟨av, g1, g2⟩ := h2
            exact ⟨av, .inr ⟨h1, g1⟩, g2⟩
          · obtain ⟨av, g1, g2⟩ := h2
            exact ⟨av, .inr ⟨h1, g1⟩, g2⟩
          · obtain ⟨hkp, av, g1, g2⟩ := h2
            exact ⟨av, ⟨.inr ⟨h1, g1⟩, hkp⟩, g2⟩
      obtain ⟨av, hy, hK⟩ := hy
      exact anyK_first (kinds := kindOf plan) h0 (by rw [hkd]; exact hq) l.length listed af σ hD (freeK_spec h0 hf) hr' hy (anyK_of_lex l _ _ σ (hD.step hr') hB2 hK)
    · have hqb : (Nat.beq kd 0 || Nat.beq kd 1 || Nat.beq kd 4) = false := by
        cases h1 : Nat.beq kd 0 with
        | true => exact absurd (.inl (Nat.eq_of_beq_eq_true h1)) hq
        | false => cases h2 : Nat.beq kd 1 with
          | true => exact absurd (.inr (.inl (Nat.eq_of_beq_eq_true h2))) hq
          | false => cases h3 : Nat.beq kd 4 with
            | true => exact absurd (.inr (.inr (Nat.eq_of_beq_eq_true h3))) hq
            | false => rfl
      rw [hqb] at hB1
      simp only [cond_false, beq_iff_eq] at hB1
      have hr' : k ∈ Region.ready .any ops listed := by rw [hB1]; simp
      refine ⟨fun h0 => (by rw [h0] at hB1; cases hB1), fun j hj => ?_⟩
      rw [hB1] at hj
      obtain rfl : j = k := by simpa using hj
      rw [hkd]
      refine ⟨?_, fun h4 => absurd (.inr (.inr h4)) hq⟩
      by_cases h3 : kd = 3
      · subst h3
        refine stepK_3 ?_
        unfold stepA; simp only [h0]
        rcases h with ⟨h1, hkp, h2⟩ | ⟨h1, h2⟩
        · exact .inl ⟨h1, hkp (.inl rfl), anyK_of_lex l _ _ σ (hD.step hr') hB2 h2⟩
        · obtain ⟨post, p1, p2⟩ := h2
          exact .inr ⟨h1, post, p1, fun av σ' hp => ⟨(p2 av σ' hp).1, anyK_of_lex l _ _ σ' (hD.step hr') hB2 (p2 av σ' hp).2⟩⟩
      have e : ∀ K af σ, stepK P ops kp kd j K af σ = stepA P ops j K af σ := fun K af σ => by
        unfold stepK
        split
        · exact absurd rfl h3
        · exact absurd (.inr (.inr rfl)) hq
        · exact absurd (.inl rfl) hq
        · exact absurd (.inr (.inl rfl)) hq
        · exact absurd rfl h5
        · rfl
      rw [e]
      unfold stepA; simp only [h0]
      rcases h with ⟨h1, _, h2⟩ | ⟨h1, h2⟩
      · exact .inl ⟨h1, anyK_of_lex l _ _ σ (hD.step hr') hB2 h2⟩
      · refine .inr ⟨h1, ?_⟩
        have h3 : opB P o af σ (wpP P ops kp K l) := by
          unfold opK at h2
          split at h2
          · exact absurd rfl h3
          · exact absurd (.inr (.inr rfl)) hq
          · exact absurd (.inl rfl) hq
          · exact absurd (.inr (.inl rfl)) hq
          · exact h2
        obtain ⟨post, p1, p2⟩ := h3
        exact ⟨post, p1, fun av σ' hp => anyK_of_lex l _ _ σ' (hD.step hr') hB2 (p2 av σ' hp)⟩
def planKB (plan : List (Nat × Nat)) (l : List Oper) (n : Nat) : Bool := dstB l.toArray n && Nat.beq plan.length l.length && lexK l.toArray plan plan (Array.replicate l.length false)
variable {ks : List KFr}
theorem k_plan (kp : Items) (plan : List (Nat × Nat)) {id : Nat} {l : List Oper} (hm : P.follows .mixedOrders = true) (hB : planKB plan l n = true)
    (h : wpP P l.toArray kp (den P E n ks .normal) plan af σ) : awp P E n (.region id l.toArray true) (den P E n ks) af σ := by
  simp only [planKB, Bool.and_eq_true] at hB
  intro a w hh
  refine wp_region_any hm ?_
  have hD : Down l.toArray (Array.replicate l.length false) := fun j o _ hj => by
    rw [Array.getD_eq_getD_getElem?, Array.getElem?_replicate] at hj
    split at hj <;> cases hj
  have hl : plan.length = l.length := Nat.eq_of_beq_eq_true hB.1.2
  have h1 := anyA_of_anyK (kp := kp) _ _ _ _ (anyK_of_lex (plan := plan) plan (Array.replicate l.length false) af σ hD hB.2 h)
  rw [hl] at h1
  simpa using wpAny_of_anyA hB.1.1 _ _ af σ a _ h1 hh.drew

variable {K : AF → Items → Prop} {rest : List (Nat × Nat)} {dst : Option Tmp} {op : Op} {ty0 : TypeId} {pos0 : String} {after0 : Array Edge} {i kd : Nat}
theorem opK_q {o : Oper} (hkd : kd = 3 ∨ kd = 4 → Has kp σ) (h : opA P o af (fun af' => K af' σ)) : opK P kp kd o af σ K := by
  obtain ⟨av, h1, h2⟩ := h
  unfold opK
  split
  · exact ⟨_, loud_of_quiet σ h1, fun a s ⟨e1, e2⟩ => by subst e1 e2; exact ⟨hkd (.inl rfl), h2⟩⟩
  · exact ⟨hkd (.inr rfl), av, fun σ _ => h1.reads σ, h2⟩
  · exact ⟨av, h1, h2⟩
  · exact ⟨av, h1.reads σ, h2⟩
  · exact ⟨_, loud_of_quiet σ h1, fun a s ⟨e1, e2⟩ => by subst e1 e2; exact h2⟩
theorem P_nil (h : K af σ) : wpP P ops kp K [] af σ := h
theorem P_q (hkd : kd = 3 ∨ kd = 4 → Has kp σ) (hi : ops[i]? = some ⟨dst, op, ty0, pos0, after0, none⟩) (h : opA P ⟨dst, op, ty0, pos0, after0, none⟩ af (fun af' => wpP P ops kp K rest af' σ)) : wpP P ops kp K ((kd, i) :: rest) af σ := ⟨_, hi, .inr ⟨.inl ⟨rfl, rfl⟩, opK_q (K := wpP P ops kp K rest) hkd h⟩⟩
theorem P_r (hi : ops[i]? = some ⟨dst, op, ty0, pos0, after0, none⟩) (h : opR P ⟨dst, op, ty0, pos0, after0, none⟩ af σ (fun af' => wpP P ops kp K rest af' σ)) : wpP P ops kp K ((1, i) :: rest) af σ := ⟨_, hi, .inr ⟨.inl ⟨rfl, rfl⟩, h⟩⟩
theorem P_l (hi : ops[i]? = some ⟨dst, op, ty0, pos0, after0, none⟩) (h : opB P ⟨dst, op, ty0, pos0, after0, none⟩ af σ (wpP P ops kp K rest)) : wpP P ops kp K ((2, i) :: rest) af σ := ⟨_, hi, .inr ⟨.inl ⟨rfl, rfl⟩, h⟩⟩
variable {j : Nat} {want : Bool} {dg : Tmp} {c : Bool} {p : Prop} [Decidable p]
theorem Py_q (hkd : kd = 3 ∨ kd = 4 → Has kp σ) (hi : ops[i]? = some ⟨dst, op, ty0, pos0, after0, some (j, want)⟩) (hj : (ops[j]?).bind (·.dst) = some dg) (hv : af dg = .exact (.bool want)) (h : opA P ⟨dst, op, ty0, pos0, after0, some (j, want)⟩ af (fun af' => wpP P ops kp K rest af' σ)) : wpP P ops kp K ((kd, i) :: rest) af σ :=
  ⟨_, hi, .inr ⟨by simpa using Sat.mk (want := want) hj hv, opK_q (K := wpP P ops kp K rest) hkd h⟩⟩
theorem Py_r (hi : ops[i]? = some ⟨dst, op, ty0, pos0, after0, some (j, want)⟩) (hj : (ops[j]?).bind (·.dst) = some dg) (hv : af dg = .exact (.bool want)) (h : opR P ⟨dst, op, ty0, pos0, after0, some (j, want)⟩ af σ (fun af' => wpP P ops kp K rest af' σ)) : wpP P ops kp K ((1, i) :: rest) af σ :=
  ⟨_, hi, .inr ⟨by simpa using Sat.mk (want := want) hj hv, h⟩⟩
theorem P_n (hkd : kd = 3 ∨ kd = 4 → Has kp σ) (hi : ops[i]? = some ⟨dst, op, ty0, pos0, after0, some (j, want)⟩) (hj : (ops[j]?).bind (·.dst) = some dg) (hv : af dg = .exact (.bool (!want))) (h : wpP P ops kp K rest (af.put dst undefA) σ) : wpP P ops kp K ((kd, i) :: rest) af σ :=
  ⟨_, hi, .inl ⟨by simpa using Sat.mk (want := want) hj hv, hkd, h⟩⟩
theorem P_u (hkd : kd = 3 ∨ kd = 4 → Has kp σ) (hi : ops[i]? = some ⟨dst, op, ty0, pos0, after0, some (j, want)⟩) (hj : (ops[j]?).bind (·.dst) = some dg) (hv : af dg = undefA) (h : wpP P ops kp K rest (af.put dst undefA) σ) : wpP P ops kp K ((kd, i) :: rest) af σ :=
  ⟨_, hi, .inl ⟨.inr ⟨j, want, dg, undef, rfl, hj, hv, rfl⟩, hkd, h⟩⟩
variable {pl : List (Nat × Nat)}
theorem P_split (dg : Tmp) (hv : af dg = .exact (.bool (decide p))) (h1 : p → wpP P ops kp K pl (af.put (some dg) (.exact (.bool true))) σ) (h2 : ¬ p → wpP P ops kp K pl (af.put (some dg) (.exact (.bool false))) σ) : wpP P ops kp K pl af σ := by
  by_cases hp : p
  · have := h1 hp; rwa [put_b hv (by simp [hp])] at this
  · have := h2 hp; rwa [put_b hv (by simp [hp])] at this
theorem P_splitB (dg : Tmp) (hv : af dg = .exact (.bool c)) (h1 : c = true → wpP P ops kp K pl (af.put (some dg) (.exact (.bool true))) σ) (h2 : ¬ c = true → wpP P ops kp K pl (af.put (some dg) (.exact (.bool false))) σ) : wpP P ops kp K pl af σ := by
  by_cases hp : c = true
  · have := h1 hp; rwa [put_b hv hp] at this
  · have := h2 hp; rwa [put_b hv (by simpa using hp)] at this
theorem Has.mk0 : Has [] σ := fun it h => by cases h
theorem Has.cons {it : Item} {kp : Items} (h : it ∈ σ) (h' : Has kp σ) : Has (it :: kp) σ := fun x hx => by
  rcases List.mem_cons.1 hx with rfl | hx
  · exact h
  · exact h' x hx
theorem no34_0 : (0 : Nat) = 3 ∨ (0 : Nat) = 4 → Has kp σ := fun h => by rcases h with h | h <;> cases h
theorem no34_1 : (1 : Nat) = 3 ∨ (1 : Nat) = 4 → Has kp σ := fun h => by rcases h with h | h <;> cases h
theorem P_l3 (hi : ops[i]? = some ⟨dst, op, ty0, pos0, after0, none⟩) (h : opB P ⟨dst, op, ty0, pos0, after0, none⟩ af σ (fun af' σ' => Has kp σ' ∧ wpP P ops kp K rest af' σ')) : wpP P ops kp K ((3, i) :: rest) af σ := ⟨_, hi, .inr ⟨.inl ⟨rfl, rfl⟩, h⟩⟩
theorem Py_l3 (hi : ops[i]? = some ⟨dst, op, ty0, pos0, after0, some (j, want)⟩) (hj : (ops[j]?).bind (·.dst) = some dg) (hv : af dg = .exact (.bool want)) (h : opB P ⟨dst, op, ty0, pos0, after0, some (j, want)⟩ af σ (fun af' σ' => Has kp σ' ∧ wpP P ops kp K rest af' σ')) : wpP P ops kp K ((3, i) :: rest) af σ :=
  ⟨_, hi, .inr ⟨by simpa using Sat.mk (want := want) hj hv, h⟩⟩
theorem P_r4 (hk : Has kp σ) (hi : ops[i]? = some ⟨dst, op, ty0, pos0, after0, none⟩) (h : opI P kp ⟨dst, op, ty0, pos0, after0, none⟩ af (fun af' => wpP P ops kp K rest af' σ)) : wpP P ops kp K ((4, i) :: rest) af σ := ⟨_, hi, .inr ⟨.inl ⟨rfl, rfl⟩, hk, h⟩⟩
theorem Py_r4 (hk : Has kp σ) (hi : ops[i]? = some ⟨dst, op, ty0, pos0, after0, some (j, want)⟩) (hj : (ops[j]?).bind (·.dst) = some dg) (hv : af dg = .exact (.bool want)) (h : opI P kp ⟨dst, op, ty0, pos0, after0, some (j, want)⟩ af (fun af' => wpP P ops kp K rest af' σ)) : wpP P ops kp K ((4, i) :: rest) af σ :=
  ⟨_, hi, .inr ⟨by simpa using Sat.mk (want := want) hj hv, hk, h⟩⟩
/-- A read of one thing, whatever else is in use. -/
theorem opI_mk {t : Tmp} {it : Item} {a0 : AV} {K : AF → Prop} {gd : Option (Nat × Bool)} (hm : it ∈ kp) (h : ∀ ρ, opR P ⟨some t, op, ty0, pos0, after0, gd⟩ af (it :: ρ) (fun af' => af' = af.put (some t) a0)) (hk : K (af.put (some t) a0)) : opI P kp ⟨some t, op, ty0, pos0, after0, gd⟩ af K := by
  refine ⟨a0, fun σ hkp => ?_, hk⟩
  obtain ⟨s1, s2, rfl⟩ := List.append_of_mem (hkp it hm)
  obtain ⟨av, h1, h2⟩ := h (s1 ++ s2)
  have : av = a0 := by have := congrFun h2 t; rwa [AF.put_same, AF.put_same] at this
  subst this
  exact h1.perm List.perm_middle
end
end Go.Proofs.Ytkplmgdmkfgjhaa
/- Function values; slices against nil; tests of which one answer is certain. -/
namespace Go.Proofs.Ytkplmgdmkfgjhaa
open Go.RowKit

section
variable {P : Program} {E : Env} {n : Nat} {af : AF} {σ : Items} {K : AF → Prop} {d : Option Tmp} {ty : TypeId} {pos : String} {after : Array Edge} {g : Option (Nat × Bool)} {ks : List KFr}

/-- A test: true only where p holds. -/
def AV.nilq (p : Prop) : AV := ⟨fun _ _ v => ∃ b : Bool, v = .bool b ∧ (b = true → p), fun _ _ h => h⟩
/-- A test: false only where p holds. -/
def AV.nilqn (p : Prop) : AV := ⟨fun _ _ v => ∃ b : Bool, v = .bool b ∧ (b = false → p), fun _ _ h => h⟩

theorem awp_condu {c : Operand} {x y : Code} {QA : Exit → AF → Items → Prop} {p : Prop} (hc : af.ev c = .nilq p) (ht : p → awp P E n x QA af σ) (hf : awp P E n y QA af σ) : awp P E n (.cond c x y) QA af σ := by
  intro a w hh
  have h1 := hh.ev c
  rw [hc] at h1
  obtain ⟨b, e1, hb⟩ := h1
  exact wp_cond_split e1 (fun e => ht (hb e) a w hh) (fun _ => hf a w hh)
theorem k_cond_u {c : Operand} {x y : Code} {p : Prop} (hc : af.ev c = .nilq p) (ht : p → awp P E n x (den P E n ks) af σ) (hf : awp P E n y (den P E n ks) af σ) : awp P E n (.cond c x y) (den P E n ks) af σ := awp_condu hc ht hf
variable {α : Type} {m : Nat} {enc : α → List AV} {xs : List α} {v : Value}
theorem equal_nil {t : TypeId} {e : TypeId} (ht : P.underlying t = some (.slice e)) (A : Option Addr) (l c : Nat) (w : World) : (Op.equal t (.slice A l c) (.slice none 0 0)).run P w = .ok A.isNone w := by
  have key : ∀ D : Nat, (Op.equalIn (D + 1) t (.slice A l c) (.slice none 0 0)).run P w = .ok A.isNone w := by
    intro D
    cases A <;> simp [Op.equalIn, run_underlying ht]
  exact key 9999
theorem slice_under {t : TypeId} (h : isSliceB P t = true) : ∃ e, P.underlying t = some (.slice e) := by
  unfold isSliceB at h
  split at h
  · rename_i e he; exact ⟨_, he⟩
  · cases h
theorem op_eqnil_row {t t' : TypeId} {x : Operand} (hB : isSliceB P t = true) (hx : af.ev x = .row m enc xs) (hk : K (af.put d (.nilq (xs = [])))) : opA P ⟨d, .binOp .eql t x (.const (.slice none 0 0)) t', ty, pos, after, g⟩ af K := by
  refine ⟨_, fun M w ev _ h => ?_, hk⟩
  obtain ⟨e, ht⟩ := slice_under hB
  obtain ⟨A, c, e1, _, _, h4⟩ := opnd_p h (x := x) (by simp [Op.operands]) hx
  have e2 := opnd h (x := .const (.slice none 0 0)) (by simp [Op.operands]) rfl
  simp [execOp, eqGuard, e1, e2, binOp, equal_nil ht, go_sem, UponQ]
  refine ⟨Keeps.refl _ _, A.isNone, rfl, fun hA => ?_⟩
  cases xs with
  | nil => rfl
  | cons y ys =>
    obtain ⟨b, off, rfl, _⟩ := h4 (by simp)
    cases hA
/-! ### Function values -/
/-- A function value: called with what args i says, it touches nothing in use and gives back what f i says. -/
def AV.fn (P : Program) {ι ρ : Type} (args : ι → List AV) (f : ι → Option ρ) (res : ρ → AV) : AV :=
  ⟨fun M w v => ∃ (k : FuncId) (fn : Func) (caps : List Value) (avs : List AV), v = .func (.func k) #[] caps.toArray ∧ P.funcs[k]? = some fn ∧ (fn.body.isNone || fn.name == "runtime.NumGoroutine") = false ∧ Fit M w avs caps ∧ ∀ i r, f i = some r → Pure P k (args i ++ avs) (res r),
   fun hk hm ⟨k, fn, caps, avs, h1, h2, h3, h4, h5⟩ => ⟨k, fn, caps, avs, h1, h2, h3, h4.keep hk hm, h5⟩⟩
theorem Fit.append {M : BSet} {w : World} {xs ys : List AV} {vs us : List Value} (h : Fit M w xs vs) (h' : Fit M w ys us) : Fit M w (xs ++ ys) (vs ++ us) := Fit.app h h'
theorem fit_opnds {xs : List Operand} {args : List AV} {M : BSet} {w : World} {ev : Operand → Value} (h : ∀ x ∈ xs, (af.ev x).p M w (ev x)) (hx : LEs (xs.map af.ev) args) : Fit M w args (xs.map ev) := by
  refine LE_fit hx ?_
  clear hx
  induction xs with
  | nil => trivial
  | cons x xs ih => exact ⟨h x (by simp), ih (fun y hy => h y (by simp [hy]))⟩
end
end Go.Proofs.Ytkplmgdmkfgjhaa
/- clear of a part of a row in use. -/
namespace Go.Proofs.Ytkplmgdmkfgjhaa
open Go.RowKit

section
variable {P : Program} {af : AF} {ρ : Items} {d : Option Tmp} {ty t : TypeId} {pos : String} {after : Array Edge} {g : Option (Nat × Bool)} {α : Type} {n : Nat} {enc : α → List AV} {xs : List α} {v : Value} {K : AF → Items → Prop}

end
end Go.Proofs.Ytkplmgdmkfgjhaa
/- append(nil, make(n)): a new row in use, of zeros. -/
namespace Go.Proofs.Ytkplmgdmkfgjhaa
open Go.RowKit

section
variable {P : Program} {af : AF} {σ : Items} {d : Option Tmp} {ty t tn : TypeId} {pos : String} {after : Array Edge} {g : Option (Nat × Bool)} {α : Type} {n : Nat} {enc : α → List AV} {K : AF → Items → Prop}
end
end Go.Proofs.Ytkplmgdmkfgjhaa
/- The nil slice: its capacity, its empty part. -/
namespace Go.Proofs.Ytkplmgdmkfgjhaa
open Go.RowKit

section
variable {P : Program} {af : AF} {d : Option Tmp} {ty t : TypeId} {pos : String} {after : Array Edge} {g : Option (Nat × Bool)} {n : Nat} {K : AF → Prop} {x : Operand}
end
end Go.Proofs.Ytkplmgdmkfgjhaa
/- Appending what another row in use holds. -/
namespace Go.Proofs.Ytkplmgdmkfgjhaa
open Go.RowKit

section
variable {P : Program} {af : AF} {σ ρ : Items} {d : Option Tmp} {ty t e : TypeId} {pos : String} {after : Array Edge} {g : Option (Nat × Bool)} {α : Type} {n : Nat} {enc : α → List AV} {xs ys : List α} {v : Value} {K : AF → Items → Prop}
/-- x reads as ys, while the things in use stand. -/
def BorL (σ : Items) (x : AV) (n : Nat) (enc : α → List AV) (ys : List α) : Prop := ∀ F w u, Good F σ w → x.p (both F (Items.own σ)) w u →
  ∃ A c, u = .slice A ys.length c ∧ ys.length ≤ c ∧ (ys ≠ [] → ∃ b off, A = some ⟨b, off, none⟩ ∧ ∀ (i : Nat) (y : α), ys[i]? = some y → (enc y).length = n ∧ CellsAt (both F (Items.own σ)) w b (off + i * n) (enc y))
theorem BorL.vec (hm : vecT P e n enc v xs ∈ σ) (he : ∀ x, (enc x).length = n) : BorL σ (.exact v) n enc xs := fun F w u hg hx => by
  obtain rfl : u = v := hx
  have hit := hg.items _ hm
  by_cases hne : xs = []
  · subst hne
    obtain ⟨us, hown, _⟩ := hit
    rcases hown.2 with ⟨rfl, _⟩ | ⟨b, cap, cur, rfl, _⟩
    · exact ⟨_, _, rfl, Nat.zero_le _, fun h => absurd rfl h⟩
    · exact ⟨_, _, rfl, Nat.zero_le _, fun h => absurd rfl h⟩
  · obtain ⟨b, c, cur, us, rfl, hb, hnc, _, hcs, htk, hfit⟩ := vec_cells hit hne
    refine ⟨_, _, rfl, hnc, fun _ => ⟨b, 0, rfl, ?_⟩⟩
    have hcells := cells_of_fit (b := b) (off := 0) hfit (fun j u hu => by
      have hj : j < us.length := (List.getElem?_eq_some_iff.1 hu).1
      rw [Nat.zero_add, cell_of_row _ b _ _ _ (0, 0) hb]
      rw [← htk, List.getElem?_take] at hu
      split at hu
      · simpa using hu
      · cases hu)
    intro i x hx
    exact ⟨he x, hcells.sub (fun j a hj => flat_get (fun x _ => he x) hx j a hj)⟩
theorem BorL.vsub {lo m : Nat} (hm : vecT P e n enc v xs ∈ σ) (he : ∀ x, (enc x).length = n) (hl : lo + m ≤ xs.length) : BorL σ (.vsub v n lo m) n enc ((xs.drop lo).take m) := fun F w u hg hx => by
  obtain ⟨A, l, c, rfl, hc1, hc2, rfl⟩ := hx
  obtain ⟨A', c', hv, h1, h4⟩ := BorL.vec (w := w) hm he F _ hg rfl
  injection hv with g1 g2 g3
  subst g1 g2 g3
  have hlen : ((xs.drop lo).take m).length = m := by simp; omega
  refine ⟨(if c = lo then A else A.map (·.add (lo * n))), c - lo, by rw [hlen], by rw [hlen]; exact hc2, fun hne => ?_⟩
  have hxs : xs ≠ [] := by rintro rfl; simp at hne
  obtain ⟨b, off, rfl, hcell⟩ := h4 hxs
  have hpos : 0 < m := by
    rcases Nat.eq_zero_or_pos m with h | h
    · subst h; simp at hne
    · exact h
  rw [if_neg (by omega)]
  refine ⟨b, off + lo * n, by simp [addr_add'], fun q x hq => ?_⟩
  have hq' : xs[lo + q]? = some x := by
    rw [List.getElem?_take] at hq
    split at hq
    · rwa [List.getElem?_drop] at hq
    · cases hq
  obtain ⟨g1, g2⟩ := hcell _ _ hq'
  refine ⟨g1, ?_⟩
  have e : off + (lo + q) * n = off + lo * n + q * n := by rw [Nat.add_mul]; omega
  rwa [e] at g2
end
end Go.Proofs.Ytkplmgdmkfgjhaa
/- Arguments of any plain type opened: what their readings hold; the closing of a row. -/
namespace Go.Proofs.Ytkplmgdmkfgjhaa
open Go.ChangeShapes Go.WideShapes Go.ChangeAt Go.RowKit Go.Deep

theorem Try.own : ownKnob Try.prog.godebug = none := by kernel_rfl
theorem Try.laidOut : laidOutB Try.prog = true := by kernel_rfl
theorem Keeps.below {w w' : World} (h : Keeps noB w w') : Below w.heap.size w w' := ⟨h.os, h.tape, h.output, h.size, fun k hk => h.block k hk (fun hf => hf)⟩

section
variable {P : Program} {t e : TypeId} {α β γ δ : Type}
/-- What is read at type t is an x of size sz x. -/
def Opens (P : Program) (t : TypeId) (n : Nat) (enc : α → List AV) (sz : α → Nat) (Q : α → Prop) : Prop :=
  ∀ {H : Type} (e0 : TypeId × Value → H) (W : World) (fuel : Nat) (cs : List Value) (y : DataW H × List MemPlace), DataW.trod e0 P W 0 (fun _ => true) true fuel t cs = some y → ∃ x : α, Q x ∧ cs.length = n ∧ Fit noB W (enc x) cs ∧ sz x ≤ Rows.uptoBulk y.1
theorem opens_int {k : IntKind} (ht : P.underlying t = some (.int k)) : Opens P t 1 (fun x : Int => [.exact (.int k x)]) (fun _ => 1) (fun x => (Lit.int k x).wf = true) := fun e0 W fuel cs y h => by
  obtain ⟨n, rfl, rfl, hw⟩ := DataW.trod_int ht h
  exact ⟨n, hw, rfl, ⟨rfl, trivial⟩, by simp [Rows.uptoBulk]⟩
theorem opens_arr2 {n0 : Nat} {a : α → List AV} {sa : α → Nat} {qa : α → Prop} (ht : P.underlying t = some (.array 2 e)) (hc : P.cellsOf t = n0 + n0) (c0 : P.cellsOf e = n0) (h0 : Opens P e n0 a sa qa) :
    Opens P t (n0 + n0) (fun x : α × α => a x.1 ++ a x.2) (fun x => sa x.1 + sa x.2) (fun x => qa x.1 ∧ qa x.2) := fun e0 W fuel cs y h => by
  obtain ⟨xs, m, _, rfl, hl, hx, g⟩ := DataW.trod_array ht h
  match xs, hx with
  | [y0, y1], _ =>
    have g0 := g 0 (by omega)
    have g1 := g 1 (by omega)
    rw [c0, Nat.zero_mul, List.drop_zero] at g0
    rw [c0, Nat.one_mul] at g1
    obtain ⟨x0, q0, l0, k0, s0⟩ := h0 e0 W _ _ _ g0
    obtain ⟨x1, q1, l1, k1, s1⟩ := h0 e0 W _ _ _ g1
    rw [hc] at hl
    refine ⟨(x0, x1), ⟨q0, q1⟩, hl, ?_, by simp [Rows.uptoBulk, Rows.uptoBulkAll]; omega⟩
    have e : cs = cs.take n0 ++ (cs.drop n0).take n0 := by
      rw [List.take_of_length_le (l := cs.drop n0) (by simp; omega), List.take_append_drop]
    rw [e]
    exact k0.app k1
theorem list_of {R : Nat → α → Prop} : ∀ n : Nat, (∀ i, i < n → ∃ x, R i x) → ∃ xs : List α, xs.length = n ∧ ∀ i x, xs[i]? = some x → R i x
  | 0, _ => ⟨[], rfl, fun i x h => by simp at h⟩
  | n + 1, h => by
    obtain ⟨xs, hl, hx⟩ := list_of n (fun i hi => h i (by omega))
    obtain ⟨x, hr⟩ := h n (by omega)
    refine ⟨xs ++ [x], by simp [hl], fun i y hy => ?_⟩
    rw [List.getElem?_append] at hy
    split at hy
    · exact hx i y hy
    · rename_i hge
      have : i = n := by
        have := (List.getElem?_eq_some_iff.1 hy).1
        simp at this; omega
      subst this
      simp [hl] at hy; subst hy; exact hr
/-- The size of a list. -/
def szL (sz : α → Nat) (xs : List α) : Nat := (xs.map sz).sum
theorem bulk_elems {H : Type} {sz : α → Nat} : ∀ (xs : List α) (n : Nat) (D : Nat → DataW H), xs.length = n → (∀ i x, xs[i]? = some x → sz x ≤ Rows.uptoBulk (D i)) → szL sz xs ≤ Rows.uptoBulkAll ((List.range n).map D)
  | xs, n, D, hl, h => by
    subst hl
    induction xs generalizing D with
    | nil => simp [szL]
    | cons x xs ih =>
      have h0 := h 0 x rfl
      have h1 := ih (fun i => D (i + 1)) (fun i y hy => h (i + 1) y (by simpa using hy))
      rw [List.length_cons, List.range_succ_eq_map, List.map_cons, List.map_map]
      simp only [szL, List.map_cons, List.sum_cons, Rows.uptoBulkAll] at h1 ⊢
      exact Nat.add_le_add h0 h1
theorem opens_slice {n : Nat} {enc : α → List AV} {sz : α → Nat} {Q : α → Prop} (ht : P.underlying t = some (.slice e)) (hc : P.cellsOf e = n) (hn : 0 < n) (hx : Opens P e n enc sz Q) :
    Opens P t 1 (fun xs : List α => [.row n enc xs]) (fun xs => szL sz xs + 1) (fun xs => xs.length ≤ maxLen ∧ ∀ x ∈ xs, Q x) := fun e0 W fuel cs y h => by
  rcases open_slice ht h with ⟨rfl, rfl⟩ | ⟨a, len, cap, m, k, D, Pl, rfl, _, hl, hm, hmm, rfl, hel⟩
  · exact ⟨[], ⟨by simp, by simp⟩, rfl, ⟨⟨none, 0, rfl, by simp, by simp, fun h => absurd rfl h⟩, trivial⟩, by simp [szL, Rows.uptoBulk]⟩
  · simp only [if_true] at hmm
    obtain ⟨xs, hxl, hxs⟩ := list_of (R := fun i x => Q x ∧ sz x ≤ Rows.uptoBulk (D i) ∧ ∃ cs', cs'.length = n ∧ Fit noB W (enc x) cs' ∧ ∀ j, j < n → W.cell? ((a.add (i * n)).add j) = cs'[j]?) len (fun i hi => by
      obtain ⟨cs', h1, h2⟩ := hel i (by omega)
      obtain ⟨x, q, l, f, s⟩ := hx e0 W _ _ _ h2
      rw [hc] at h1
      obtain ⟨_, hcl, hat⟩ := World.cells?_some h1
      exact ⟨x, q, s, cs', hcl, f, hat⟩)
    refine ⟨xs, ⟨by omega, fun x hxm => ?_⟩, rfl, ⟨?_, trivial⟩, ?_⟩
    · obtain ⟨i, hi⟩ := List.mem_iff_getElem?.1 hxm
      exact (hxs i x hi).1
    · unfold maxLen at hm
      refine ⟨some a, cap, by rw [hxl], by omega, by omega, fun hne => ?_⟩
      have hpos : 0 < xs.length := List.length_pos_iff.2 hne
      obtain ⟨_, _, c0, hc0, _, ha0⟩ := hxs 0 xs[0] (List.getElem?_eq_getElem hpos)
      have h00 := ha0 0 hn
      rw [List.getElem?_eq_getElem (by omega)] at h00
      obtain ⟨b, off, spot⟩ := a
      have hspot : spot = none := by simpa [Addr.add] using World.cell?_spot h00
      subst hspot
      refine ⟨b, off, rfl, ?_, fun hf => hf, fun i x hi => ?_⟩
      · have := World.block_lt_of_cell? W _ h00
        simpa [Addr.add] using this
      · obtain ⟨_, _, cs', hcl, hf, hat⟩ := hxs i x hi
        have hle : (enc x).length = n := by rw [hf.length, hcl]
        refine ⟨hle, cells_of_fit hf (fun j u hu => ?_)⟩
        have hj : j < n := by rw [← hcl]; exact (List.getElem?_eq_some_iff.1 hu).1
        have := hat j hj
        rw [hu] at this
        rw [← this, addr_add', addr_add']
    · have := bulk_elems xs len D hxl (fun i x hi => (hxs i x hi).2.1)
      simp only [Rows.uptoBulk]
      omega
/-- An argument that is one value, no aggregate. -/
theorem arg_open {n : Nat} {enc : α → List AV} {sz : α → Nat} {Q : α → Prop} (h : Opens P t n enc sz Q) {H : Type} {e0 : TypeId × Value → H} {W : World} {v : Value} {d : DataW H} {p : List MemPlace} (hv : v.cells = #[v]) (hd : DataW.Trod e0 P W 0 (fun _ => true) true t v d p) :
    ∃ x : α, Q x ∧ Fit noB W (enc x) [v] ∧ sz x ≤ Rows.uptoBulk d := by
  obtain ⟨fuel, hf⟩ := hd
  rw [hv] at hf
  obtain ⟨x, q, _, k, s⟩ := h e0 W _ _ _ hf
  exact ⟨x, q, k, s⟩
theorem plain_slice {W : World} {v : Value} (ht : P.underlying t = some (.slice e)) (h : Value.okWide P W .any 0 t v) : v.cells = #[v] := by
  obtain ⟨a, n, c, rfl⟩ := okWide_slice ht h; rfl
theorem plain_int {W : World} {v : Value} {k : IntKind} (ht : P.underlying t = some (.int k)) (h : Value.okWide P W .any 0 t v) : v.cells = #[v] := by
  obtain ⟨n, rfl⟩ := okWide_int ht h; rfl
end

theorem post_of_below {H : Type} {enc : TypeId × Value → H} {P : Program} {f : Func} {s : ChangeSpec} {apart fresh handsOn again : Bool} {W W' : World} {args : Array Value} {v : Value} {ds gs : List (DataW H)} {before pa pv : List MemPlace}
    (hW : DataW.Whole enc P f.params.toList s.vars apart W args.toList ds gs before)
    (hres : ∀ (b : Nat) (sp : Nat → Bool) (hd : Bool), DataW.TrodAll enc P W' b sp hd f.resultTypes.toList (v.resultList f.resultTypes.size) (s.fn H (ds ++ gs)).results [])
    (hargs : ∀ sp : Nat → Bool, (∀ p ∈ before, sp p.block = true) → DataW.TrodAll enc P W' 0 sp true f.params.toList args.toList (s.fn H (ds ++ gs)).args pa)
    (hvars : ∀ sp : Nat → Bool, (∀ p ∈ before, sp p.block = true) → DataW.TrodVars enc P W' sp s.vars (s.fn H (ds ++ gs)).vars pv)
    (hps : before = pa ++ pv) (hb : Below W.heap.size W W')
    (hok : ∀ (j : Nat) (t : TypeId) (r : Value), f.resultTypes[j]? = some t → (v.resultList f.resultTypes.size)[j]? = some r → Value.okWide P W' .any 0 t r) :
    s.post enc P f apart fresh handsOn again W args v W' := by
  have hlt : ∀ p ∈ before, p.block < W.heap.size := fun p hp => hW.lt p hp
  have hold : ∀ p ∈ before, (fun b => decide (b < W.heap.size)) p.block = true := fun p hp => by simpa using hlt p hp
  refine ⟨ds, gs, before, [], pa, pv, hW, hres _ _ _, hargs _ hold, hvars _ hold, World.keptBut_mono (fun p hp => ⟨hp, ?_⟩) (hb.frame (· ∈ before)), fun _ => ?_⟩
  · rw [hps, List.mem_append] at hp
    exact Or.inr hp
  · obtain ⟨_, _, _, _, _, hz, hn⟩ := hW
    refine ⟨hok, _, _, ([] ++ pa) ++ pv, ⟨[] ++ pa, pv, trodAll_append (hargs _ (fun _ _ => rfl)) (hres _ _ _), hvars _ (fun _ _ => rfl), rfl, ?_, ?_⟩, ?_⟩
    · intro b off hp
      have hin : MemPlace.cell b off ∈ before := by rw [hps]; simpa using hp
      rw [hb.frozen (hlt _ hin)]
      exact hz b off hin
    · intro ha
      have := hn ha
      rw [hps] at this
      simpa using this
    · intro p hp _
      rw [hps]
      simpa using hp

/-- A reading behind the call, whatever places are spare. -/
theorem trod_after {H : Type} {enc : TypeId × Value → H} {t : TypeId} (hr : Try.prog.readableRec t = true) (hrow : t < Try.prog.types.size) {W W' : World} {v : Value} {d : DataW H} {ps before : List MemPlace}
    (h : DataW.Trod enc Try.prog W 0 (fun _ => true) true t v d ps) (hb : Below W.heap.size W W') (hlt : ∀ x ∈ ps, x.block < W.heap.size) (hin : ∀ x ∈ ps, x ∈ before) (sp : Nat → Bool) (hsp : ∀ p ∈ before, sp p.block = true) :
    DataW.Trod enc Try.prog W' 0 sp true t v d ps :=
  WideElems.Trod_stays Try.laidOut hr hrow h (fun x hx => hb.same (hlt x hx)) (fun x hx => hsp x (hin x hx))

/-- The call of a function that touches nothing. -/
theorem Pure.call {P : Program} {f : FuncId} {args : List AV} {r : Value} (h : Pure P f args (.exact r)) {W : World} {vs : List Value} (hv : Fit noB W args vs) : Calls P f vs.toArray W (fun e w' => e = .returned r ∧ Below W.heap.size W w') :=
  (h noB W vs (fun _ hk => hk.elim) hv).mono fun e w' ⟨v, e1, e2, e3⟩ => ⟨by rw [e1]; exact congrArg _ e3, e2.below⟩
end Go.Proofs.Ytkplmgdmkfgjhaa
/- copy within a row in use; arrays in use; a row cut to its length. -/
namespace Go.Proofs.Ytkplmgdmkfgjhaa
open Go.RowKit

section
variable {P : Program} {af : AF} {σ ρ : Items} {d : Option Tmp} {ty t e : TypeId} {pos : String} {after : Array Edge} {g : Option (Nat × Bool)} {α : Type} {n : Nat} {enc : α → List AV} {xs ys : List α} {v : Value}
/-! ### Arrays in use: one cell an element -/
end
end Go.Proofs.Ytkplmgdmkfgjhaa
/- Appending a string's bytes. -/
namespace Go.Proofs.Ytkplmgdmkfgjhaa
open Go.RowKit

section
variable {P : Program} {af : AF} {σ ρ : Items} {d : Option Tmp} {ty t u : TypeId} {pos : String} {after : Array Edge} {g : Option (Nat × Bool)} {xs ys : List UInt8} {v : Value} {K : AF → Items → Prop} {enc : UInt8 → List AV}
end
/-- The row that an operation gives back stays as it is from here on. -/
theorem opB_frz {P : Program} {o : Oper} {af : AF} {σ : Items} {K : AF → Items → Prop} {α : Type} {d : Tmp} {t : TypeId} {n : Nat} {enc : α → List AV} (hd : o.dst = some d) (he : ∀ x, (enc x).length = n)
    (h : opB P o af σ (fun af' σ' => ∃ v xs s0, af' = af.put o.dst (.exact v) ∧ σ' = vecT P t n enc v xs :: s0 ∧ K (af.put o.dst (.row n enc xs)) s0)) : opB P o af σ K := by
  obtain ⟨post, hl, hp⟩ := h
  refine ⟨fun av s => ∃ v xs, post (.exact v) (vecT P t n enc v xs :: s) ∧ av = .row n enc xs ∧ K (af.put o.dst (.row n enc xs)) s, fun F w ev hg ho => ?_, fun av s ⟨v, xs, h1, h2, h3⟩ => by subst h2; exact h3⟩
  have hout : ∀ u w', Out F σ w post u w' → Out F σ w (fun av s => ∃ v xs, post (.exact v) (vecT P t n enc v xs :: s) ∧ av = .row n enc xs ∧ K (af.put o.dst (.row n enc xs)) s) u w' := by
    rintro u w' ⟨av, σ', p1, p2, p3, p4, p5⟩
    obtain ⟨v, xs, s0, e1, e2, hK⟩ := hp av σ' p1
    have eav : av = .exact v := by
      have := congrFun e1 d
      rw [hd, AF.put_same, AF.put_same] at this
      exact this
    subst e2 eav
    have hu : u = v := p5
    subst hu
    have hM : ∀ k, k < w'.heap.size → both F (Items.own s0) k → both F (Items.own (vecT P t n enc u xs :: s0)) k := fun k _ h => h.imp id (fun h => own_cons.2 (.inr h))
    have hnd := p2.nodup
    rw [List.flatMap_cons, List.nodup_append] at hnd
    refine ⟨.row n enc xs, s0, ⟨u, xs, p1, rfl, hK⟩, ⟨p2.fr, fun k h => p2.own k (own_cons.2 (.inr h)), hnd.2.1, fun it hi => it.keep (Keeps.refl _ _) hM (p2.items it (List.mem_cons_of_mem _ hi))⟩, p3, fun k h hlt => p4 k (own_cons.2 (.inr h)) hlt, ?_⟩
    refine vec_row (fun k hk => ?_) he (p2.items _ List.mem_cons_self) hM
    rintro (hF | hO)
    · exact (p2.own k (own_cons.2 (.inl (by simp [vecT, vecI, hk])))).2 hF
    · exact hnd.2.2 k (by simp [vecT, vecI, hk]) k hO rfl
  have := hl F w ev hg ho
  revert this
  cases (execOp ev o).run P w with
  | ok nx w' =>
    cases nx with
    | value v => exact hout v w'
    | skip => exact hout undef w'
    | enter f args => exact fun h => h.mono fun e w'' ⟨v, e1, e2⟩ => ⟨v, e1, hout v w'' e2⟩
    | row r args => exact fun h => h.mono fun v w'' e2 => hout v w'' e2
    | _ => exact id
  | _ => exact id
end Go.Proofs.Ytkplmgdmkfgjhaa
/- Regions in whatever order in which a fresh variable may come earlier than planned: a new block beside what is in use changes nothing for the others. -/
namespace Go.Proofs.Ytkplmgdmkfgjhaa
open Go.RowKit

section
variable {P : Program} {ops : Array Oper} {E : Env} {n : Nat} {af : AF} {σ : Items} {F : BSet} {w : World} {it : Item}

theorem both_cons : both (both F (fun k => k ∈ it.own)) (Items.own σ) = both F (Items.own (it :: σ)) := by
  funext k
  simp only [both, own_cons, eq_iff_iff]
  constructor
  · rintro ((h | h) | h)
    · exact .inl h
    · exact .inr (.inl h)
    · exact .inr (.inr h)
  · rintro (h | h | h)
    · exact .inl (.inl h)
    · exact .inl (.inr h)
    · exact .inr h
theorem good_frame (hg : Good F (it :: σ) w) : Good (both F (fun k => k ∈ it.own)) σ w := by
  have hnd := hg.nodup
  rw [List.flatMap_cons, List.nodup_append] at hnd
  refine ⟨fun k h => h.elim (hg.fr k) (fun h => (hg.own k (own_cons.2 (.inl h))).1), fun k h => ⟨(hg.own k (own_cons.2 (.inr h))).1, fun h' => h'.elim (hg.own k (own_cons.2 (.inr h))).2 (fun h' => hnd.2.2 k h' k h rfl)⟩, hnd.2.1, fun x hx => ?_⟩
  rw [both_cons]
  exact hg.items x (List.mem_cons_of_mem _ hx)
theorem out_frame {post : AV → Items → Prop} {v : Value} {w' : World} (hg : Good F (it :: σ) w) (h : Out (both F (fun k => k ∈ it.own)) σ w post v w') : Out F (it :: σ) w (fun a s => ∃ s', s = it :: s' ∧ post a s') v w' := by
  obtain ⟨av, s, h1, h2, h3, h4, h5⟩ := h
  have hnd := hg.nodup
  rw [List.flatMap_cons, List.nodup_append] at hnd
  refine ⟨av, it :: s, ⟨s, rfl, h1⟩, ⟨fun k hk => h2.fr k (.inl hk), fun k hk => ?_, ?_, fun x hx => ?_⟩, h3.mono (fun k _ hk => own_cons.2 (.inr hk)), fun k hk hlt => ?_, ?_⟩
  · rcases own_cons.1 hk with hk | hk
    · exact ⟨h2.fr k (.inr hk), (hg.own k (own_cons.2 (.inl hk))).2⟩
    · exact ⟨(h2.own k hk).1, fun hF => (h2.own k hk).2 (.inl hF)⟩
  · rw [List.flatMap_cons, List.nodup_append]
    exact ⟨hnd.1, h2.nodup, fun a ha b hb hab => by subst hab; exact (h2.own a hb).2 (.inr ha)⟩
  · rcases List.mem_cons.1 hx with rfl | hx
    · refine x.keep (M := both F (Items.own (x :: σ))) (h3.mono (fun k _ hk => ⟨.inr (own_cons.2 (.inr hk)), fun hk' => hnd.2.2 k hk' k hk rfl⟩)) (fun k hlt hk => ?_) (hg.items x List.mem_cons_self)
      refine hk.imp id (fun hk => ?_)
      rcases own_cons.1 hk with hk | hk
      · exact own_cons.2 (.inl hk)
      · exact own_cons.2 (.inr (h4 k hk hlt))
    · rw [← both_cons]; exact h2.items x hx
  · rcases own_cons.1 hk with hk | hk
    · exact own_cons.2 (.inl hk)
    · exact own_cons.2 (.inr (h4 k hk hlt))
  · rw [← both_cons]; exact h5
theorem Loud.frame {o : Oper} {post : AV → Items → Prop} (h : Loud P o af σ post) : Loud P o af (it :: σ) (fun a s => ∃ s', s = it :: s' ∧ post a s') := by
  intro F w ev hg hx
  have h1 := h _ w ev (good_frame hg) (fun x hm => by rw [both_cons]; exact hx x hm)
  generalize (execOp ev o).run P w = r at h1
  cases r with
  | ok n w' =>
    cases n <;> simp only [Upon] at h1 ⊢ <;> try exact h1.elim
    case value v => exact out_frame hg h1
    case skip => exact out_frame hg h1
    case enter f args => exact h1.mono fun e w'' ⟨v, he, ho⟩ => ⟨v, he, out_frame hg ho⟩
    case row r args => exact h1.mono fun v w'' ho => out_frame hg ho
  | halt x w' => exact h1.elim
theorem Reads.frame {o : Oper} {av : AV} (h : Reads P o af σ av) : Reads P o af (it :: σ) av := by
  intro F w ev hg hx
  have h1 := h _ w ev (good_frame hg) (fun x hm => by rw [both_cons]; exact hx x hm)
  rwa [both_cons] at h1
theorem Loud.put {o oj : Oper} {post : AV → Items → Prop} (x : AV) (h : ∀ d, oj.dst = some d → d ∉ o.looksAt ops) (hq : Loud P o af σ post) : Loud P o (af.put oj.dst x) σ post :=
  fun F w ev hg hx => hq F w ev hg (fun y hy => by have := hx y hy; rwa [ev_put af x h y hy] at this)

/-- What is planned: an operation of some kind; a fresh variable. -/
inductive Ent where
  | op (kd i : Nat)
  | new (a : Nat) (d : Tmp) (t : TypeId) (c : List AV)
variable {kp : Items}
/-- In whatever order the things in use are told. -/
def PC (K : AF → Items → Prop) (af : AF) (σ : Items) : Prop := ∃ σ', σ'.Perm σ ∧ K af σ'
theorem PC.mk {K : AF → Items → Prop} (h : K af σ) : PC K af σ := ⟨σ, List.Perm.refl _, h⟩
theorem PC.perm {K : AF → Items → Prop} {τ : Items} (h : PC K af σ) (hp : σ.Perm τ) : PC K af τ := let ⟨σ', h1, h2⟩ := h; ⟨σ', h1.trans hp, h2⟩
theorem Has.perm {τ : Items} (h : Has kp σ) (hp : σ.Perm τ) : Has kp τ := fun it hi => hp.mem_iff.1 (h it hi)
def entOf (p : Nat × Nat) : Ent := .op p.1 p.2
/-- The fresh variables are what they are said to be. -/
def NewOK (P : Program) (ops : Array Oper) (es : List Ent) : Prop :=
  ∀ a d t c, Ent.new a d t c ∈ es → ∃ ty pos after z, ops[a]? = some ⟨some d, .alloc t, ty, pos, after, none⟩ ∧ (P.info? t).bind (·.zero) = some z ∧ LEs (z.cells.toList.map AV.exact) c
/-! ### The check, and the walk -/
theorem YieldsK.perm {kd : Nat} {o : Oper} {av : AV} {τ : Items} (hp : σ.Perm τ) (h : YieldsK P ops kp kd σ o av af) : YieldsK P ops kp kd τ o av af := by
  unfold YieldsK at *
  split at h
  · exact h
  · exact ⟨h.1, h.2.perm hp⟩
  · exact h.imp id (fun ⟨h1, h2⟩ => ⟨h1, h2.perm hp.symm⟩)
variable {ks : List KFr} {QA : Exit → AF → Items → Prop}
theorem NewOK.nil : NewOK P ops [] := fun _ _ _ _ h => by cases h
theorem NewOK.one {kd i : Nat} {es : List Ent} (h : NewOK P ops es) : NewOK P ops (.op kd i :: es) := fun a d t c hm => by
  rcases List.mem_cons.1 hm with e | hm
  · cases e
  · exact h a d t c hm
theorem NewOK.many {es rest : List Ent} (l : List (Nat × Nat)) (he : es = l.map entOf ++ rest) (h : NewOK P ops rest) : NewOK P ops es := by
  subst he
  induction l with
  | nil => exact h
  | cons p l ih => exact ih.one
theorem NewOK.fresh {a : Nat} {d : Tmp} {t : TypeId} {c : List AV} {es : List Ent} {ty : TypeId} {pos : String} {after : Array Edge} {z : Value} (h0 : ops[a]? = some ⟨some d, .alloc t, ty, pos, after, none⟩) (hz : (P.info? t).bind (·.zero) = some z) (hc : LEs (z.cells.toList.map AV.exact) c) (h : NewOK P ops es) : NewOK P ops (.new a d t c :: es) := fun a' d' t' c' hm => by
  rcases List.mem_cons.1 hm with e | hm
  · injection e with e1 e2 e3 e4
    subst e1 e2 e3 e4
    exact ⟨ty, pos, after, z, h0, hz, hc⟩
  · exact h a' d' t' c' hm
end
end Go.Proofs.Ytkplmgdmkfgjhaa
/- Rows in use that lie anywhere within their block, with whatever spare. -/
namespace Go.Proofs.Ytkplmgdmkfgjhaa
open Go.RowKit

/-- The slice value v, of n elements of size cells, owns its block; its cells are xs. -/
def ownsO (w : World) (e : TypeId) (size : Nat) (v : Value) (n : Nat) (xs : List Value) : Prop :=
  xs.length = n * size ∧
  ((v = .slice none 0 0 ∧ n = 0) ∨
   ∃ g o cap cur, v = .slice (some ⟨g, o, none⟩) n cap ∧ w.heap[g]? = some (.cells cur e (0, 0)) ∧ n ≤ cap ∧ cap ≤ maxLen ∧ o + cap * size ≤ cur.size ∧ (cur.toList.drop o).take (n * size) = xs)
theorem ownsO.cells {w : World} {e : TypeId} {size n g o l c : Nat} {xs : List Value} (h : ownsO w e size (.slice (some ⟨g, o, none⟩) l c) n xs) : ∀ j u, xs[j]? = some u → w.cell? ⟨g, o + j, none⟩ = some u := by
  intro j u hu
  rcases h.2 with ⟨h, _⟩ | ⟨g', o', cap, cur, hv, hg, _, _, _, ht⟩
  · cases h
  · injection hv with q1 q2 q3
    injection q1 with q1
    injection q1 with q1 q4
    subst q1 q4
    rw [cell_of_row w g (o + j) cur e (0, 0) hg]
    rw [← ht, List.getElem?_take] at hu
    split at hu
    · rw [List.getElem?_drop] at hu; simpa using hu
    · cases hu
theorem ownsO.lt {w : World} {e : TypeId} {size n : Nat} {v : Value} {xs : List Value} (h : ownsO w e size v n xs) : ∀ k, v.ownBlock = some k → k < w.heap.size := by
  intro k hk
  rcases h.2 with ⟨rfl, _⟩ | ⟨g, o, cap, cur, rfl, hg, _⟩
  · simp [Value.ownBlock] at hk
  · simp [Value.ownBlock] at hk
    subst hk
    exact (Array.getElem?_eq_some_iff.1 hg).1
def vecO {α : Type} (P : Program) (t : TypeId) (n : Nat) (enc : α → List AV) (v : Value) (xs : List α) : Item where
  own := v.ownBlock.toList
  p := fun M w => ∃ us, ownsO w (elemOfT P t) n v xs.length us ∧ Fit M w (xs.flatMap enc) us
  keep := fun {M M' w w'} hk hm ⟨us, h1, h2⟩ => by
    refine ⟨us, ⟨h1.1, ?_⟩, h2.keep (hk.mono (fun k _ h => h.1)) hm⟩
    rcases h1.2 with h3 | ⟨g, o, cap, cur, rfl, hg, r⟩
    · exact .inl h3
    · refine .inr ⟨g, o, cap, cur, rfl, ?_, r⟩
      rw [hk.block g (Array.getElem?_eq_some_iff.1 hg).1 (fun h => h.2 (by simp [Value.ownBlock]))]
      exact hg
section
variable {P : Program} {E : Env} {af : AF} {σ ρ : Items} {d : Option Tmp} {ty t : TypeId} {pos : String} {after : Array Edge} {g : Option (Nat × Bool)} {α : Type} {n : Nat} {enc : α → List AV} {xs ys : List α} {v : Value}
/-! ### Appending -/
theorem run_append_room_o {w : World} {t ty e : TypeId} {i : TypeInfo} (ht : P.underlying t = some (.slice e)) (hi : P.info? e = some i)
    {g o sLen sCap : Nat} {cur : Array Value} (hg : w.heap[g]? = some (.cells cur e (0, 0)))
    {a : Addr} {m c : Nat} {news : List Value} (hl : news.length = m * i.size) (hnews : ∀ j u, news[j]? = some u → w.cell? (a.add j) = some u) (h1 : ∀ u ∈ news, u.oneCell' = true)
    (hroom : sLen + m ≤ sCap) (hfit : o + sLen * i.size + news.length ≤ cur.size) :
    (Builtin.append_ #[t, t] ty #[.slice (some ⟨g, o, none⟩) sLen sCap, .slice (some a) m c]).run P w =
      .ok (.slice (some ⟨g, o, none⟩) (sLen + m) sCap) (w.setRow g (cur.toList.take (o + sLen * i.size) ++ news ++ cur.toList.drop (o + sLen * i.size + news.length)).toArray) := by
  have hf := run_firstCells_some (P := P) w i.size m a m c news hl hnews
  have hst := run_storeCells_at P g (o + sLen * i.size) e news 0 cur w hg (by simpa using hfit) h1
  simp only [Nat.add_zero] at hst
  simp [Builtin.append_, run_underlying ht, sizeOf, typeInfo, hi, Builtin.lenOf, hroom, hf, Addr.add_lit, hst]
/-- Appending to a row anywhere. -/
theorem run_append_o {w : World} {t ty e : TypeId} {i : TypeInfo} {z : Value} {size bytes : Nat} (ht : P.underlying t = some (.slice e)) (hi : P.info? e = some i) (hz : i.zero = some z)
    (hsize : i.size = size) (hby : i.bytes = bytes) (hzs : z.cells.size = size)
    {v : Value} {n : Nat} {xs : List Value} (hown : ownsO w e size v n xs)
    {a : Addr} {m c : Nat} {news : List Value} (hl : news.length = m * size) (hnews : ∀ j u, news[j]? = some u → w.cell? (a.add j) = some u) (h1 : ∀ u ∈ news, u.oneCell' = true)
    (h63 : n + m ≤ maxLen) (hbytes : (n + m) * bytes ≤ 140737488355328) :
    ∃ v' w', (Builtin.append_ #[t, t] ty #[v, .slice (some a) m c]).run P w = .ok v' w' ∧ ownsO w' e size v' (n + m) (xs ++ news) ∧ w.grownBy w' v.ownBlock ∧ (v'.ownBlock = v.ownBlock ∨ v'.ownBlock = some w.heap.size) := by
  subst hsize
  subst hby
  have hsmall : n + m ≤ 9223372036854775807 := by simp only [maxLen] at h63; omega
  have hlen : (xs ++ news).length = (n + m) * i.size := by rw [List.length_append, hown.1, hl, Nat.add_mul]
  have grown : ∀ (old : Nat), old < n + m → ∀ (row : Option Nat),
      ownsO (w.drew.alloc (.cells (xs.toArray ++ news.toArray ++ Builtin.zeroCells z.cells (grownCap w (n + m) old e - (n + m))) e)) e i.size
        (.slice (some ⟨w.heap.size, 0, none⟩) (n + m) (grownCap w (n + m) old e)) (n + m) (xs ++ news) ∧
      w.grownBy (w.drew.alloc (.cells (xs.toArray ++ news.toArray ++ Builtin.zeroCells z.cells (grownCap w (n + m) old e - (n + m))) e)) row := by
    intro old ho row
    have hge := grownCap_ge w (n + m) old e
    have hcm : grownCap w (n + m) old e ≤ maxLen := grownCap_le_maxLen w (n + m) old e h63
    have hsz : (xs.toArray ++ news.toArray ++ Builtin.zeroCells z.cells (grownCap w (n + m) old e - (n + m))).size = grownCap w (n + m) old e * i.size := by
      simp only [Array.size_append, List.size_toArray, size_zeroCells, hzs, hown.1, hl, ← Nat.add_mul]
      congr 1
      omega
    refine ⟨⟨hlen, .inr ⟨w.heap.size, 0, _, _, rfl, heap_alloc_new w.drew _, hge, hcm, by rw [hsz]; omega, ?_⟩⟩, ⟨rfl, rfl, rfl, by simp, fun k hk _ => heap_alloc_old w.drew _ hk⟩⟩
    simp only [Array.toList_append, List.append_assoc, List.drop_zero]
    rw [← List.append_assoc, ← hlen]
    exact List.take_left
  rcases hown.2 with ⟨rfl, rfl⟩ | ⟨gg, o, cap, cur, rfl, hg, hnc, hcm, hcs, htake⟩
  · have hx : xs = [] := List.eq_nil_of_length_eq_zero (by simpa using hown.1)
    subst hx
    by_cases hm : m = 0
    · subst hm
      have hn : news = [] := List.eq_nil_of_length_eq_zero (by simpa using hl)
      subst hn
      refine ⟨.slice none 0 0, w, ?_, ⟨by simp, .inl ⟨rfl, rfl⟩⟩, ⟨rfl, rfl, rfl, Nat.le_refl _, fun _ _ _ => rfl⟩, .inl rfl⟩
      simp [Builtin.append_, run_underlying ht, sizeOf, typeInfo, hi, Builtin.lenOf, Builtin.firstCells, loadCells, loadCellsFrom]
    · have hr := run_append_nil (P := P) w t ty e i z ht hi hz a m c news hl hnews (by omega) (by omega) (by have hb := hbytes; simp only [Nat.zero_add] at hb; omega)
      have hgr := grown 0 (by omega) (Value.ownBlock (.slice none 0 0))
      simp only [Nat.zero_add, List.nil_append, Array.empty_append] at hgr ⊢
      exact ⟨_, _, hr, hgr.1, hgr.2, .inr rfl⟩
  · by_cases hroom : n + m ≤ cap
    · have hmul : (n + m) * i.size ≤ cap * i.size := Nat.mul_le_mul_right _ hroom
      have hnm := Nat.add_mul n m i.size
      have hfit : o + n * i.size + news.length ≤ cur.size := by omega
      have hr := run_append_room_o (P := P) (ty := ty) (c := c) ht hi hg hl hnews h1 hroom hfit
      refine ⟨_, _, hr, ⟨hlen, .inr ⟨gg, o, cap, _, rfl, setRow_heap w gg cur _ e _ hg, hroom, hcm, ?_, ?_⟩⟩, ⟨rfl, rfl, rfl, by simp, fun k _ hk => setRow_other w gg k _ (fun e => hk (by simp [Value.ownBlock, e]))⟩, .inl rfl⟩
      · simp only [List.size_toArray, List.length_append, List.length_take, List.length_drop, Array.length_toList]
        omega
      · have ht2 : cur.toList.take (o + n * i.size) = cur.toList.take o ++ xs := by rw [List.take_add, htake]
        have hol : (cur.toList.take o).length = o := by simp; omega
        simp only []
        rw [ht2, List.append_assoc, List.append_assoc, List.drop_left' hol, ← List.append_assoc, ← hlen]
        exact List.take_left
    · have holds : ∀ j u, xs[j]? = some u → w.cell? ((⟨gg, o, none⟩ : Addr).add j) = some u := fun j u hu => by rw [addr_add']; exact hown.cells j u hu
      have hr := run_append_grow (P := P) w t ty e i z ht hi hz ⟨gg, o, none⟩ n cap xs hown.1 holds a m c news hl hnews (by omega) (by omega) (growslice_fits (by omega) hbytes)
      have hgr := grown cap (by omega) (Value.ownBlock (.slice (some ⟨gg, o, none⟩) n cap))
      exact ⟨_, _, hr, hgr.1, hgr.2, .inr rfl⟩
theorem op_appO {s x : Operand} {K : AF → Items → Prop} (hB : elB P t n = true) (hs : af.ev s = .exact v) (hx : af.ev x = .row n enc ys) (ho : ∀ x, OneC (enc x)) (hl : xs.length + ys.length ≤ LIM)
    (hk : ∀ v', K (af.put d (.exact v')) (vecO P t n enc v' (xs ++ ys) :: ρ)) :
    opB P ⟨d, .call { callee := .builtin .append, args := #[s, x], argTypes := #[t, t] }, ty, pos, after, g⟩ af (vecO P t n enc v xs :: ρ) K := by
  refine ⟨fun a s => ∃ v', a = .exact v' ∧ s = vecO P t n enc v' (xs ++ ys) :: ρ, fun F w ev hg h => ?_, fun av s ⟨v', e1, e2⟩ => by subst e1 e2; exact hk v'⟩
  obtain ⟨ht, hn0, i, z, hi, hz, hi1, hi2, hi3⟩ := elB_spec hB
  have e1 := opnd h (x := s) (by simp [Op.operands, Call.operands]) hs
  obtain ⟨A, cp, e2, _, _, e5⟩ := opnd_p h (x := x) (by simp [Op.operands, Call.operands]) hx
  obtain ⟨us0, hown, hfit⟩ := hg.items (vecO P t n enc v xs) List.mem_cons_self
  have hbs : (xs.length + ys.length) * i.bytes ≤ 140737488355328 := Nat.le_trans (Nat.mul_le_mul hl hi2) (by simp only [LIM]; omega)
  have hrun : ∃ v' w' us, (Builtin.append_ #[t, t] ty #[v, .slice A ys.length cp]).run P w = .ok v' w' ∧ ownsO w' (elemOfT P t) n v' (xs.length + ys.length) (us0 ++ us) ∧ w.grownBy w' v.ownBlock ∧ (v'.ownBlock = v.ownBlock ∨ v'.ownBlock = some w.heap.size) ∧ Fit (both F (Items.own (vecO P t n enc v xs :: ρ))) w (ys.flatMap enc) us := by
    by_cases hy : ys = []
    · subst hy
      have happ : (Builtin.append_ #[t, t] ty #[v, .slice A ([] : List α).length cp]).run P w = .ok v w := by
        rcases hown.2 with ⟨rfl, h0⟩ | ⟨g, o, cap, cur, rfl, _, hnc, _⟩
        · rw [h0] at *
          cases A <;> simp [Builtin.append_, run_underlying ht, sizeOf, typeInfo, hi, Builtin.lenOf, Builtin.firstCells, loadCells, loadCellsFrom]
        · cases A <;> simp [Builtin.append_, run_underlying ht, sizeOf, typeInfo, hi, Builtin.lenOf, Builtin.firstCells, hnc, storeCells, loadCells, loadCellsFrom]
      exact ⟨v, w, [], happ, by simpa using hown, ⟨rfl, rfl, rfl, Nat.le_refl _, fun _ _ _ => rfl⟩, .inl rfl, trivial⟩
    · obtain ⟨b, off, rfl, hb, hnM, hcell⟩ := e5 hy
      have hcells := row_cells hcell
      obtain ⟨us, hf, hu⟩ := fit_cells hcells
      have hlen : (ys.flatMap enc).length = ys.length * n := flat_len (fun y hy => by
        obtain ⟨i, hi⟩ := List.mem_iff_getElem?.1 hy
        exact (hcell i y hi).1)
      obtain ⟨v', w', h1, h2, h3, h5⟩ := run_append_o (P := P) (ty := ty) (c := cp) ht hi hz hi1 rfl hi3 hown (a := ⟨b, off, none⟩) (m := ys.length) (news := us) (by rw [← hf.length, hlen])
        (fun j u hj => by
          rw [addr_add']
          have hjl : j < (ys.flatMap enc).length := by rw [hf.length]; exact (List.getElem?_eq_some_iff.1 hj).1
          obtain ⟨u', g1, g2⟩ := hu j hjl
          rw [hj] at g1
          injection g1 with g1
          rw [g1]; exact g2) ((OneC.flatT (xs := ys) ho).fit hf) (by simp only [maxLen, LIM] at *; omega) hbs
      exact ⟨v', w', us, h1, h2, h3, h5, hf⟩
  obtain ⟨v', w', us, h1, h2, h3, h5, hf⟩ := hrun
  have hrun' : (execOp ev ⟨d, .call { callee := .builtin .append, args := #[s, x], argTypes := #[t, t] }, ty, pos, after, g⟩).run P w = .ok (.value v') w' := by
    unfold execOp
    simp only [resolve, invoke, builtin, Sem.run_bind, Sem.run_pure, Result.andThen_ok, List.map_toArray, List.map_cons, List.map_nil, e1, e2, h1]
  rw [hrun']
  have hk' : Keeps (fun k => k ∈ (vecO P t n enc v xs).own) w w' := ⟨h3.os, h3.tape, h3.output, run_drawn _ _ _ _ h1, h3.size, fun k hlt hn => h3.block k hlt (fun e => hn (by simp [vecO, ← e]))⟩
  obtain ⟨g1, g2, g3⟩ := good_head (it' := vecO P t n enc v' (xs ++ ys)) hg hk' (fun k hk' => by
      have hk'' : v'.ownBlock = some k := by simpa [vecO] using hk'
      refine ⟨h2.lt k hk'', fun hlt => ?_⟩
      rcases h5 with h5 | h5
      · simp [vecO, ← h5, hk'']
      · rw [h5] at hk''; injection hk'' with e; omega) (by cases h : v'.ownBlock <;> simp [vecO, h])
    (fun hkk hMM => ⟨us0 ++ us, by rw [List.length_append]; exact h2, by rw [List.flatMap_append]; exact (hfit.keep hkk hMM).app (hf.keep hkk hMM)⟩)
  exact ⟨_, _, ⟨v', rfl, rfl⟩, g1, g2, g3, rfl⟩

/-! ### Only the length is remembered -/
/-! ### append(l[:i:i], l[j:]..) -/
theorem flat_take_drop (he : ∀ x, (enc x).length = n) : ∀ (ys : List α) (k : Nat), (ys.flatMap enc).take (k * n) = (ys.take k).flatMap enc ∧ (ys.flatMap enc).drop (k * n) = (ys.drop k).flatMap enc := by
  intro ys
  induction ys with
  | nil => simp
  | cons y ys ih =>
    intro k
    cases k with
    | zero => simp
    | succ k =>
      have e : (k + 1) * n = n + k * n := by rw [Nat.add_mul]; omega
      rw [List.flatMap_cons, e, ← he y, List.take_length_add_append, List.drop_length_add_append, he y, (ih k).1, (ih k).2]
      simp
end
theorem vecO_row {α : Type} {P : Program} {t : TypeId} {n : Nat} {enc : α → List AV} {xs : List α} {v : Value} {w : World} {M : BSet} (hM : ∀ k, v.ownBlock = some k → ¬ M k) (he : ∀ x, (enc x).length = n) {M' : BSet} (h : (vecO P t n enc v xs).p M' w) (hMM : ∀ k, k < w.heap.size → M k → M' k) : (AV.row n enc xs).p M w v := by
  obtain ⟨us, hown, hfit⟩ := h
  have hown0 := hown
  rcases hown.2 with ⟨rfl, h0⟩ | ⟨gg, o, cap, cur, rfl, hg, hnc, hcm, _, htake⟩
  · have : xs = [] := List.length_eq_zero_iff.1 h0
    subst this
    exact ⟨none, 0, rfl, by simp, by simp, fun h => absurd rfl h⟩
  · refine ⟨some ⟨gg, o, none⟩, cap, rfl, hnc, by simp only [maxLen] at hcm; omega, fun _ => ⟨gg, o, rfl, (Array.getElem?_eq_some_iff.1 hg).1, hM gg rfl, fun i x hx => ⟨he x, ?_⟩⟩⟩
    have hcells := cells_of_fit (b := gg) (off := o) (hfit.keep (Keeps.refl _ _) hMM) (fun j u hu => hown0.cells j u hu)
    exact hcells.sub (fun j a hj => flat_get (fun y _ => he y) hx j a hj)
end Go.Proofs.Ytkplmgdmkfgjhaa
/- Maps from integers in use: what they hold is known by its values; ranges over them. -/
namespace Go.Proofs.Ytkplmgdmkfgjhaa
open Go.RowKit Go.Maps
open Go.WideElems (Fit rd rg pl rd_val elemAt)

/-- The map holds just these values. -/
def MView (D : DataW Value) (f : Int → Option Value) : Prop := IsMap D ∧ ∀ k z, D.atKey (.int .i64 k) z = (match f k with | some v => .held v | none => z)
theorem MView.empty : MView (.map []) (fun _ => none) := ⟨isMap_empty, fun _ _ => rfl⟩
def updM (f : Int → Option Value) (k : Int) (v : Value) : Int → Option Value := fun j => if j = k then some v else f j
theorem MView.put {D : DataW Value} {f : Int → Option Value} (h : MView D f) {k : Int} (hkey : WideAt.IsKeyLit (.int .i64 k)) (v : Value) : MView (D.put (.int .i64 k) (.held v)) (updM f k v) := by
  refine ⟨h.1.put _ _, fun j z => ?_⟩
  unfold updM
  by_cases hj : j = k
  · subst hj; rw [if_pos rfl, atKey_put_same h.1 hkey]
  · rw [if_neg hj, atKey_put_other (fun e => hj (by injection e)), h.2]
section
variable {P : Program} {E : Env} {af : AF} {σ ρ : Items} {d : Option Tmp} {ty t kt e : TypeId} {pos : String} {after : Array Edge} {g : Option (Nat × Bool)} {b r N : Nat} {f : Int → Option Value}
end
end Go.Proofs.Ytkplmgdmkfgjhaa
/- slices.SortFunc on a row in use, by the shelf's contract. -/
namespace Go.Proofs.Ytkplmgdmkfgjhaa
open Go.RowKit Go.Sort

theorem fit_ex_eq {M : BSet} {w : World} : ∀ {l us : List Value}, Fit M w (l.map AV.exact) us → us = l
  | [], [], _ => rfl
  | a :: l, u :: us, h => by
    obtain ⟨h1, h2⟩ := h
    have h1' : u = a := h1
    rw [h1', fit_ex_eq h2]
theorem ex_fit_ex {M : BSet} {w : World} : ∀ (l : List Value), Fit M w (l.map AV.exact) l
  | [] => trivial
  | a :: l => ⟨rfl, ex_fit_ex l⟩

section
variable {α : Type} [Inhabited α] {enc : α → List Value} {k : Nat}
end
end Go.Proofs.Ytkplmgdmkfgjhaa
/- Sets of integers kept as maps; maps to rows; rows in use read and cut at any place. -/
namespace Go.Proofs.Ytkplmgdmkfgjhaa
open Go.RowKit Go.Maps

/-! ### Sets: map[int]bool, only stored into with true -/
section
variable {P : Program} {E : Env} {af : AF} {σ ρ : Items} {d : Option Tmp} {ty t kt e : TypeId} {pos : String} {after : Array Edge} {g : Option (Nat × Bool)} {b r N : Nat} {f : Int → Option Value}
/-! ### Maps to rows: map[int][]T; each row a thing in use by itself -/
variable {α : Type} {n : Nat} {enc : α → List AV} {xs ys : List α} {v : Value}
/-- The rows. -/
def rowsI (P : Program) (t : TypeId) (n : Nat) (enc : α → List AV) (R : List (Int × Value × List α)) : Items := R.map (fun x => vecT P t n enc x.2.1 x.2.2)
/-- The map's values are just these rows; G tells what lies at a key. -/
structure GCons (f : Int → Option Value) (R : List (Int × Value × List α)) (G : Int → List α) : Prop where
  at_ : ∀ k v, f k = some v → (k, v, G k) ∈ R
  none : ∀ k, f k = none → G k = []
  keys : ∀ x ∈ R, f x.1 = some x.2.1 ∧ G x.1 = x.2.2
  nodup : (R.map (fun x => x.1)).Nodup
theorem rowsI_mem {R : List (Int × Value × List α)} {x : Int × Value × List α} (h : x ∈ R) : vecT P t n enc x.2.1 x.2.2 ∈ rowsI P t n enc R := List.mem_map.2 ⟨x, h, rfl⟩
theorem BorL.nil : BorL σ (.exact (.slice none 0 0)) n enc ([] : List α) := fun F w u _ hx => by
  obtain rfl : u = .slice none 0 0 := hx
  exact ⟨none, 0, rfl, Nat.zero_le _, fun h => absurd rfl h⟩
/-- What lies at a key reads as its row. -/
theorem BorL.grow {R : List (Int × Value × List α)} {G : Int → List α} (hG : GCons f R G) (hs : ∀ it ∈ rowsI P t n enc R, it ∈ σ) (he : ∀ x, (enc x).length = n) (k : Int) : BorL σ (.exact ((f k).getD (.slice none 0 0))) n enc (G k) := by
  cases hf : f k with
  | none => rw [hG.none k hf]; exact BorL.nil
  | some v => exact BorL.vec (P := P) (e := t) (hs _ (rowsI_mem (hG.at_ k v hf))) he

/-! ### Rows in use anywhere: cut, read -/
/-! ### A row in use, handed over for reading only -/
end
end Go.Proofs.Ytkplmgdmkfgjhaa
/- Maps in use, kept as lists of keys and elements; ranges over them. -/
namespace Go.Proofs.Ytkplmgdmkfgjhaa
open Go.RowKit Go.Maps

section
variable {κ β : Type} {P : Program} {kt : TypeId} {kv : κ → Value} {V : κ → Prop} {Wp : World → Prop} {vv : β → AV} {M : BSet} {w : World}
/-- The first entry at a key. -/
def fndL [DecidableEq κ] : List MapEntry → List κ → κ → Nat → Option (Nat × Value)
  | e :: es, k :: ks, a, i => if a = k then some (i, e.val) else fndL es ks a (i + 1)
  | _, _, _, _ => none
/-- Keys that the map's operations tell apart. -/
structure KeyOk [DecidableEq κ] (P : Program) (kt : TypeId) (kv : κ → Value) (V : κ → Prop) (Wp : World → Prop) : Prop where
  check : ∀ w em a, V a → (Instr.checkKey em 10000 kt (kv a)).run P w = .ok () w
  find : ∀ w a, V a → Wp w → ∀ (es : List MapEntry) (ks : List κ), (∀ k ∈ ks, V k) → es.map (·.key) = ks.map kv → (Instr.findKey kt (kv a) es).run P w = .ok (fndL es ks a 0) w
  stays : ∀ w a, V a → (Instr.keyThatStays (kv a) (kv a)).run P w = .ok (kv a) w
/-- The entries hold the list. -/
def EntFit (M : BSet) (w : World) (kv : κ → Value) (vv : β → AV) : List MapEntry → List (κ × β) → Prop
  | [], [] => True
  | e :: es, x :: l => (e.key = kv x.1 ∧ (vv x.2).p M w e.val) ∧ EntFit M w kv vv es l
  | _, _ => False
theorem EntFit.keys : ∀ {es : List MapEntry} {l : List (κ × β)}, EntFit M w kv vv es l → es.map (·.key) = (l.map (·.1)).map kv
  | [], [], _ => rfl
  | e :: es, x :: l, h => by simp only [List.map_cons]; rw [h.1.1, EntFit.keys h.2]
theorem EntFit.len : ∀ {es : List MapEntry} {l : List (κ × β)}, EntFit M w kv vv es l → es.length = l.length
  | [], [], _ => rfl
  | e :: es, x :: l, h => by simp only [List.length_cons]; rw [EntFit.len h.2]
theorem EntFit.keep {M' : BSet} {w' : World} (hk : Keeps M w w') (hm : ∀ k, k < w.heap.size → M' k → M k) : ∀ {es : List MapEntry} {l : List (κ × β)}, EntFit M w kv vv es l → EntFit M' w' kv vv es l
  | [], [], _ => trivial
  | e :: es, x :: l, h => ⟨⟨h.1.1, (vv x.2).keep hk hm h.1.2⟩, EntFit.keep hk hm h.2⟩
variable [DecidableEq κ] in
theorem EntFit.look {a : κ} : ∀ {es : List MapEntry} {l : List (κ × β)} {i : Nat}, EntFit M w kv vv es l →
    (fndL es (l.map (·.1)) a i = none ∧ lookL l a = none) ∨ ∃ j v x, fndL es (l.map (·.1)) a i = some (i + j, v) ∧ lookL l a = some x ∧ (vv x).p M w v ∧ j < es.length
  | [], [], _, _ => .inl ⟨rfl, rfl⟩
  | e :: es, x :: l, i, h => by
    by_cases hx : x.1 = a
    · exact .inr ⟨0, e.val, x.2, by simp [fndL, hx], by simp [lookL, hx], h.1.2, by simp⟩
    · have hx' : ¬ a = x.1 := fun e => hx e.symm
      rcases EntFit.look (a := a) (i := i + 1) h.2 with ⟨h1, h2⟩ | ⟨j, v, y, h1, h2, h3, h4⟩
      · exact .inl ⟨by simp [fndL, hx', h1], by simp [lookL, hx, h2]⟩
      · exact .inr ⟨j + 1, v, y, by simp only [List.map_cons, fndL, hx', if_false, h1]; congr 2; omega, by simp [lookL, hx, h2], h3, by simp; omega⟩
variable [DecidableEq κ] in
theorem EntFit.put_in {a : κ} {v : Value} {z : β} (hz : (vv z).p M w v) : ∀ {es : List MapEntry} {l : List (κ × β)} {i j : Nat} {u : Value}, EntFit M w kv vv es l → fndL es (l.map (·.1)) a i = some (i + j, u) →
    EntFit M w kv vv (es.modify j (fun e => { e with key := kv a, val := v })) (putL l a z) ∧ ∃ e, es[j]? = some e ∧ e.key = kv a
  | [], [], _, _, _, _, h => by simp [fndL] at h
  | e :: es, x :: l, i, j, u, h, hf => by
    by_cases hx : x.1 = a
    · simp [fndL, hx] at hf
      obtain ⟨h0, _⟩ := hf
      obtain rfl : j = 0 := by omega
      refine ⟨?_, e, rfl, by rw [h.1.1, hx]⟩
      simp only [List.modify_zero_cons, putL, hx, if_true]
      exact ⟨⟨rfl, hz⟩, h.2⟩
    · have hx' : ¬ a = x.1 := fun e => hx e.symm
      simp only [List.map_cons, fndL, hx', if_false] at hf
      cases j with
      | zero =>
        rcases EntFit.look (a := a) (i := i + 1) h.2 with ⟨h1, _⟩ | ⟨j, v, y, h1, _⟩
        · rw [h1] at hf; cases hf
        · rw [h1] at hf; simp at hf; omega
      | succ j =>
        obtain ⟨h1, e', h2, h3⟩ := EntFit.put_in hz (i := i + 1) (j := j) (u := u) h.2 (by rw [hf]; congr 2; omega)
        refine ⟨?_, e', by simpa using h2, h3⟩
        simp only [List.modify_succ_cons, putL, hx, if_false]
        exact ⟨h.1, h1⟩
variable [DecidableEq κ] in
theorem EntFit.put_new {a : κ} {v : Value} {z : β} {c : Nat} (hz : (vv z).p M w v) : ∀ {es : List MapEntry} {l : List (κ × β)} {i : Nat}, EntFit M w kv vv es l → fndL es (l.map (·.1)) a i = none →
    EntFit M w kv vv (es ++ [{ key := kv a, val := v, born := c }]) (putL l a z)
  | [], [], _, _, _ => ⟨⟨rfl, hz⟩, trivial⟩
  | e :: es, x :: l, i, h, hf => by
    by_cases hx : x.1 = a
    · simp [fndL, hx] at hf
    · have hx' : ¬ a = x.1 := fun e => hx e.symm
      simp only [List.map_cons, fndL, hx', if_false] at hf
      simp only [List.cons_append, putL, hx, if_false]
      exact ⟨h.1, EntFit.put_new hz (i := i + 1) h.2 hf⟩
/-- What the block of a map holds. -/
structure MapAt (w : World) (b : Nat) (es : Array MapEntry) (clock : Nat) : Prop where
  at' : w.heap[b]? = some (.map es clock)
  old : ∀ x ∈ es.toList, x.born < clock
  nd : (es.toList.map (·.born)).Nodup
/-- A map in use. -/
def mapI (V : κ → Prop) (kv : κ → Value) (vv : β → AV) (b : Nat) (l : List (κ × β)) : Item where
  own := [b]
  p := fun M w => ∃ es clock, MapAt w b es clock ∧ EntFit M w kv vv es.toList l ∧ ∀ x ∈ l, V x.1
  keep := fun {M M' w w'} hk hm ⟨es, clock, ⟨h1, h2, h3⟩, h4, h5⟩ => ⟨es, clock, ⟨by
    rw [hk.block b (Array.getElem?_eq_some_iff.1 h1).1 (fun h => h.2 (by simp))]; exact h1, h2, h3⟩, h4.keep (hk.mono (fun k _ h => h.1)) hm, h5⟩
variable {ops : Array Oper} {E : Env} {af : AF} {σ ρ : Items} {d : Option Tmp} {ty t e : TypeId} {pos : String} {after : Array Edge} {g : Option (Nat × Bool)} {b r : Nat} {l left : List (κ × β)}
theorem op_mnew {K : AF → Items → Prop} (hk : ∀ b, K (af.put d (.exact (.map (some b)))) (mapI V kv vv b [] :: σ)) : opB P ⟨d, .makeMap t none, ty, pos, after, g⟩ af σ K := by
  refine ⟨fun a s => ∃ b, a = .exact (.map (some b)) ∧ s = mapI V kv vv b [] :: σ, fun F w ev hg h => ?_, fun av s ⟨b, e1, e2⟩ => by subst e1 e2; exact hk b⟩
  have hrun : (execOp ev ⟨d, .makeMap t none, ty, pos, after, g⟩).run P w = .ok (.value (.map (some w.heap.size))) (w.alloc (.map #[] 0)) := rfl
  rw [hrun]
  exact out_new (it := mapI V kv vv w.heap.size []) hg rfl (fun M hM => ⟨#[], 0, ⟨(MapKept.heap_alloc w _).1, by simp, by simp⟩, trivial, by simp⟩) (fun M => rfl) ⟨_, rfl, rfl⟩
/-- The value is known to be the key's. -/
def KeyAV (kv : κ → Value) (V : κ → Prop) (a : AV) (k : κ) : Prop := ∀ M w v, a.p M w v → v = kv k ∧ V k
variable [DecidableEq κ]
theorem run_look (hK : KeyOk P kt kv V Wp) (ht : P.underlying t = some (.map kt e)) (hw : Wp w) {k : κ} (hv : V k) {z : β} {zv : Value} (hz : (zeroValue e).run P w = .ok zv w) (hzp : (vv z).p M w zv) (hm : (mapI V kv vv b l).p M w) (ok : Bool) :
    ∃ v, (Instr.lookup t (.map (some b)) (kv k) ok).run P w = .ok (if ok then .tuple #[v, .bool (lookL l k).isSome] else v) w ∧ (vv ((lookL l k).getD z)).p M w v := by
  obtain ⟨es, clock, ⟨h1, h2, h3⟩, h4, h5⟩ := hm
  have hf := hK.find w k hv hw es.toList (l.map (·.1)) (fun q hq => by obtain ⟨x, hx, rfl⟩ := List.mem_map.1 hq; exact h5 x hx) h4.keys
  rcases h4.look (a := k) (i := 0) with ⟨g1, g2⟩ | ⟨j, v, x, g1, g2, g3, g4⟩
  · rw [g1] at hf
    refine ⟨zv, ?_, by rw [g2]; exact hzp⟩
    simp only [Instr.lookup, Sem.run_bind, run_underlying ht, MapKept.run_getObj_map h1, hK.check w _ k hv, hf, Result.andThen, Sem.run_pure, hz, g2]
    cases ok <;> rfl
  · rw [g1] at hf
    refine ⟨v, ?_, by rw [g2]; exact g3⟩
    simp only [Instr.lookup, Sem.run_bind, run_underlying ht, MapKept.run_getObj_map h1, hK.check w _ k hv, hf, Result.andThen, Sem.run_pure, g2]
    cases ok <;> rfl
/-- m[k] -/
theorem op_mlook {m x : Operand} {k : κ} {z : β} {K : AF → Prop} (hi : mapI V kv vv b l ∈ σ) (hK : KeyOk P kt kv V Wp) (hW : ∀ F w, Good F σ w → Wp w) (ht : P.underlying t = some (.map kt e)) (hz : ∀ M w, ∃ v, (zeroValue e).run P w = .ok v w ∧ (vv z).p M w v)
    (hm : af.ev m = .exact (.map (some b))) (hx : KeyAV kv V (af.ev x) k) (hk : K (af.put d (vv ((lookL l k).getD z)))) : opR P ⟨d, .lookup t m x false, ty, pos, after, g⟩ af σ K := by
  refine ⟨_, fun F w ev hg h => ?_, hk⟩
  have e1 := opnd h (x := m) (by simp [Op.operands]) hm
  obtain ⟨e2, hv⟩ := hx _ _ _ (h x (by simp [Op.operands]))
  obtain ⟨zv, z1, z2⟩ := hz (both F (Items.own σ)) w
  obtain ⟨v, h1, h2⟩ := run_look hK ht (hW F w hg) hv z1 z2 (hg.items _ hi) false
  have hrun' : (execOp ev ⟨d, .lookup t m x false, ty, pos, after, g⟩).run P w = .ok (.value v) w := by
    simp [execOp, e1, e2, h1, Result.andThen]
  rw [hrun']
  exact ⟨Keeps.refl _ _, h2⟩
theorem putL_keys {k : κ} {z : β} : ∀ {l : List (κ × β)}, ∀ x ∈ putL l k z, x.1 = k ∨ x ∈ l
  | [], x, hx => by simp [putL] at hx; exact .inl (by rw [hx])
  | y :: l, x, hx => by
    unfold putL at hx
    split at hx
    · rcases List.mem_cons.1 hx with rfl | hx
      · exact .inl rfl
      · exact .inr (List.mem_cons_of_mem _ hx)
    · rcases List.mem_cons.1 hx with rfl | hx
      · exact .inr List.mem_cons_self
      · exact (putL_keys x hx).imp id (List.mem_cons_of_mem _)
omit [DecidableEq κ] in
theorem map_modify_born {es : List MapEntry} {j : Nat} {kv' v : Value} : (es.modify j (fun e => { e with key := kv', val := v })).map (·.born) = es.map (·.born) := by
  induction es generalizing j with
  | nil => cases j <;> rfl
  | cons e es ih => cases j with
    | zero => rfl
    | succ j => simp only [List.modify_succ_cons, List.map_cons, ih]
/-- m[k] = v -/
theorem op_mput {m x y : Operand} {k : κ} {z : β} {K : AF → Items → Prop} (hK : KeyOk P kt kv V Wp) (hW : ∀ F w, Good F (mapI V kv vv b l :: ρ) w → Wp w) (ht : P.underlying t = some (.map kt e)) (hm : af.ev m = .exact (.map (some b))) (hx : KeyAV kv V (af.ev x) k) (hy : AV.le (af.ev y) (vv z))
    (hk : K (af.put d undefA) (mapI V kv vv b (putL l k z) :: ρ)) : opB P ⟨d, .mapUpdate t m x y, ty, pos, after, g⟩ af (mapI V kv vv b l :: ρ) K := by
  refine ⟨fun a s => a = undefA ∧ s = mapI V kv vv b (putL l k z) :: ρ, fun F w ev hg h => ?_, fun av s ⟨e1, e2⟩ => by subst e1 e2; exact hk⟩
  have e1 := opnd h (x := m) (by simp [Op.operands]) hm
  obtain ⟨e2, hv⟩ := hx _ _ _ (h x (by simp [Op.operands]))
  have e3 := hy _ _ _ (h y (by simp [Op.operands]))
  obtain ⟨es, clock, ⟨h1, h2, h3⟩, h4, h5⟩ := hg.items (mapI V kv vv b l) List.mem_cons_self
  have hf := hK.find w k hv (hW F w hg) es.toList (l.map (·.1)) (fun q hq => by obtain ⟨x, hx, rfl⟩ := List.mem_map.1 hq; exact h5 x hx) h4.keys
  have hbl := (Array.getElem?_eq_some_iff.1 h1).1
  have key : ∃ es' clock', (Instr.mapUpdate t (.map (some b)) (kv k) (ev y)).run P w = .ok () (ChangeMaps.setBlock w b (.map es' clock')) ∧ (∀ x ∈ es'.toList, x.born < clock') ∧ (es'.toList.map (·.born)).Nodup ∧ EntFit (both F (Items.own (mapI V kv vv b l :: ρ))) w kv vv es'.toList (putL l k z) := by
    rcases h4.look (a := k) (i := 0) with ⟨g1, g2⟩ | ⟨j, v, x, g1, g2, g3, g4⟩
    · rw [g1] at hf
      refine ⟨es.push { key := kv k, val := ev y, born := clock }, clock + 1, ?_, fun x hx => ?_, ?_, ?_⟩
      · simp only [Instr.mapUpdate, Sem.run_bind, run_underlying ht, MapKept.run_getObj_map h1, hK.check w _ k hv, hf, Result.andThen, MapKept.run_setObj_map _ h1, ChangeMaps.setBlock]
      · simp at hx
        rcases hx with hx | rfl
        · exact Nat.lt_succ_of_lt (h2 x (by simpa using hx))
        · exact Nat.lt_succ_self _
      · simp only [Array.toList_push, List.map_append, List.map_cons, List.map_nil]
        refine List.nodup_append.2 ⟨h3, by simp, fun a ha b' hb' => ?_⟩
        obtain ⟨x, hx, rfl⟩ := List.mem_map.1 ha
        have := h2 x hx
        simp at hb'
        omega
      · rw [Array.toList_push]; exact h4.put_new e3 g1
    · rw [g1] at hf
      obtain ⟨q1, e0, q2, q3⟩ := h4.put_in e3 g1
      have q2' : es[0 + j]? = some e0 := by rw [Nat.zero_add]; simpa using q2
      have hmod : (es.modify (0 + j) (fun e => { e with key := kv k, val := ev y })).toList = es.toList.modify j (fun e => { e with key := kv k, val := ev y }) := by simp
      refine ⟨es.modify (0 + j) (fun e => { e with key := kv k, val := ev y }), clock, ?_, fun x hx => ?_, ?_, ?_⟩
      · simp only [Instr.mapUpdate, Sem.run_bind, run_underlying ht, MapKept.run_getObj_map h1, hK.check w _ k hv, hf, Result.andThen, q2', Option.map_some, Option.getD_some, q3, hK.stays w k hv, MapKept.run_setObj_map _ h1, ChangeMaps.setBlock]
      · have hm : x.born ∈ (es.toList.map (·.born)) := by
          rw [← map_modify_born (j := j) (kv' := kv k) (v := ev y), ← hmod]; exact List.mem_map.2 ⟨x, hx, rfl⟩
        obtain ⟨y', hy', e'⟩ := List.mem_map.1 hm
        rw [← e']; exact h2 y' hy'
      · rw [hmod, map_modify_born]; exact h3
      · rw [hmod]; exact q1
  obtain ⟨es', clock', hrun, k1, k2, k3⟩ := key
  have hrun' : (execOp ev ⟨d, .mapUpdate t m x y, ty, pos, after, g⟩).run P w = .ok .skip (ChangeMaps.setBlock w b (.map es' clock')) := by
    simp [execOp, e1, e2, hrun, Result.andThen]
  rw [hrun']
  have hset := MapKept.heap_set (o' := .map es' clock') h1
  have hk' : Keeps (fun q => q ∈ (mapI V kv vv b l).own) w (ChangeMaps.setBlock w b (.map es' clock')) := ⟨rfl, rfl, rfl, Nat.le_refl _, by simp [ChangeMaps.setBlock], fun q hlt hn => hset.2 q (fun e => hn (by simp [mapI, e]))⟩
  obtain ⟨g1, g2, g3⟩ := good_head (it' := mapI V kv vv b (putL l k z)) hg hk' (fun q hq => by
      have : q = b := by simpa [mapI] using hq
      subst this
      exact ⟨by simpa [ChangeMaps.setBlock] using hbl, fun _ => by simp [mapI]⟩) (by simp [mapI])
    (fun hkk hMM => ⟨es', clock', ⟨hset.1, k1, k2⟩, k3.keep hkk hMM, fun x hx => by
      rcases putL_keys x hx with e | hx
      · rw [e]; exact hv
      · exact h5 x hx⟩)
  exact ⟨_, _, ⟨rfl, rfl⟩, g1, g2, g3, rfl⟩
end
end Go.Proofs.Ytkplmgdmkfgjhaa
/- Ranges over maps kept as lists; integers as keys. -/
namespace Go.Proofs.Ytkplmgdmkfgjhaa
open Go.RowKit Go.Maps

section
variable {κ β : Type} {P : Program} {kt : TypeId} {kv : κ → Value} {V : κ → Prop} {vv : β → AV} {M : BSet} {w : World}
/-- The round's entry. -/
def CurAt (M : BSet) (w : World) (kv : κ → Value) (vv : β → AV) (es : Array MapEntry) (seen : Array Nat) (x : κ × β) : Prop := ∃ (s' : Array Nat) (e : MapEntry), seen = s'.push e.born ∧ e ∈ es.toList ∧ e.key = kv x.1 ∧ (vv x.2).p M w e.val
/-- A range under way: these entries are to come; cur: the round's entry. -/
def itL (V : κ → Prop) (kv : κ → Value) (vv : β → AV) (b r : Nat) (l left : List (κ × β)) (cur : Option (κ × β)) : Item where
  own := [b, r]
  p := fun M w => ∃ es clock seen, MapAt w b es clock ∧ EntFit M w kv vv es.toList l ∧ (∀ x ∈ l, V x.1) ∧ w.heap[r]? = some (.mapIter (some b) clock seen clock) ∧ EntFit M w kv vv (leftOf es seen).toList left ∧ ∀ x, cur = some x → CurAt M w kv vv es seen x
  keep := fun {M M' w w'} hk hm ⟨es, clock, seen, ⟨h1, h2, h3⟩, h4, h5, h6, h7, h8⟩ => ⟨es, clock, seen, ⟨by
    rw [hk.block b (Array.getElem?_eq_some_iff.1 h1).1 (fun h => h.2 (by simp))]; exact h1, h2, h3⟩, h4.keep (hk.mono (fun k _ h => h.1)) hm, h5, by
    rw [hk.block r (Array.getElem?_eq_some_iff.1 h6).1 (fun h => h.2 (by simp))]; exact h6, h7.keep (hk.mono (fun k _ h => h.1)) hm, fun x hx => by
      obtain ⟨s', e, q1, q2, q3, q4⟩ := h8 x hx
      exact ⟨s', e, q1, q2, q3, (vv x.2).keep (hk.mono (fun k _ h => h.1)) hm q4⟩⟩
theorem EntFit.split {e : MapEntry} {B' : List MapEntry} : ∀ {A' : List MapEntry} {l : List (κ × β)}, EntFit M w kv vv (A' ++ e :: B') l → ∃ A x B, l = A ++ x :: B ∧ e.key = kv x.1 ∧ (vv x.2).p M w e.val ∧ EntFit M w kv vv (A' ++ B') (A ++ B)
  | [], x :: l, h => ⟨[], x, l, rfl, h.1.1, h.1.2, h.2⟩
  | a :: A', y :: l, h => by
    obtain ⟨A, x, B, h1, h2, h3, h4⟩ := EntFit.split (A' := A') h.2
    exact ⟨y :: A, x, B, by rw [h1]; rfl, h2, h3, h.1, h4⟩
theorem left_push {es : Array MapEntry} {seen : Array Nat} {c : Nat} : (leftOf es (seen.push c)).toList = (leftOf es seen).toList.filter (fun x => !(x.born == c)) := by
  unfold leftOf
  rw [Array.toList_filter, Array.toList_filter, List.filter_filter]
  congr 1
  funext x
  rw [contains_push]
  cases seen.contains x.born <;> cases (x.born == c) <;> rfl
theorem filter_mid {e : MapEntry} : ∀ {A B : List MapEntry}, ((A ++ e :: B).map (·.born)).Nodup → (A ++ e :: B).filter (fun x => !(x.born == e.born)) = A ++ B := fun {A B} h => by
  rw [List.map_append, List.map_cons, List.nodup_append] at h
  obtain ⟨h1, h2, h3⟩ := h
  rw [List.nodup_cons] at h2
  rw [List.filter_append, List.filter_cons]
  simp only [BEq.rfl, Bool.not_true, Bool.false_eq_true, if_false]
  congr 1
  · refine List.filter_eq_self.2 (fun x hx => ?_)
    have := h3 x.born (List.mem_map.2 ⟨x, hx, rfl⟩) e.born (by simp)
    simpa using this
  · refine List.filter_eq_self.2 (fun x hx => ?_)
    have : x.born ≠ e.born := fun e' => h2.1 (by rw [← e']; exact List.mem_map.2 ⟨x, hx, rfl⟩)
    simpa using this
variable {ops : Array Oper} {E : Env} {af : AF} {σ ρ : Items} {d : Option Tmp} {ty t e : TypeId} {pos : String} {after : Array Edge} {g : Option (Nat × Bool)} {b r : Nat} {l left : List (κ × β)}
theorem op_mrange {m : Operand} {K : AF → Items → Prop} (ht : P.underlying t = some (.map kt e)) (hm : af.ev m = .exact (.map (some b)))
    (hk : ∀ r, K (af.put d (pA r 0)) (itL V kv vv b r l l none :: ρ)) : opB P ⟨d, .range t m, ty, pos, after, g⟩ af (mapI V kv vv b l :: ρ) K := by
  refine ⟨fun a s => ∃ r, a = pA r 0 ∧ s = itL V kv vv b r l l none :: ρ, fun F w ev hg h => ?_, fun av s ⟨r, e1, e2⟩ => by subst e1 e2; exact hk r⟩
  have e1 := opnd h (x := m) (by simp [Op.operands]) hm
  obtain ⟨es, clock, ⟨h1, h2, h3⟩, h4, h5⟩ := hg.items (mapI V kv vv b l) List.mem_cons_self
  have hlt := (Array.getElem?_eq_some_iff.1 h1).1
  have hrun := run_range_map (P := P) w t kt e b es clock ht h1
  have hrun' : (execOp ev ⟨d, .range t m, ty, pos, after, g⟩).run P w = .ok (.value (.pointer (some ⟨w.heap.size, 0, none⟩))) (w.alloc (.mapIter (some b) clock #[] clock)) := by
    simp [execOp, e1, hrun, Result.andThen]
  rw [hrun']
  have hal := MapKept.heap_alloc w (.mapIter (some b) clock #[] clock)
  have hk' : Keeps (fun q => q ∈ (mapI V kv vv b l).own) w (w.alloc (.mapIter (some b) clock #[] clock)) := ⟨rfl, rfl, rfl, Nat.le_refl _, by simp, fun q hlt _ => hal.2 q hlt⟩
  obtain ⟨g1, g2, g3⟩ := good_head (it' := itL V kv vv b w.heap.size l l none) hg hk' (fun q hq => by
      have : q = b ∨ q = w.heap.size := by simpa [itL] using hq
      rcases this with rfl | rfl
      · exact ⟨by simp; omega, fun _ => by simp [mapI]⟩
      · exact ⟨by simp, fun hh => absurd hh (Nat.lt_irrefl _)⟩) (by simp [itL]; omega)
    (fun hkk hMM => ⟨es, clock, #[], ⟨(hal.2 b hlt).trans h1, h2, h3⟩, h4.keep hkk hMM, h5, hal.1, by
      have : leftOf es #[] = es := by unfold leftOf; simp
      rw [this]; exact h4.keep hkk hMM, fun x hx => by cases hx⟩)
  exact ⟨_, _, ⟨_, rfl, rfl⟩, g1, g2, g3, rfl⟩
theorem op_mnext {x : Operand} {cur : Option (κ × β)} {K : AF → Items → Prop} (hx : af.ev x = pA r 0)
    (h0 : left = [] → K (af.put d (.tup [.exact (.bool false)])) (itL V kv vv b r l [] cur :: ρ))
    (h1 : ∀ A y B, left = A ++ y :: B → K (af.put d (.tup [.exact (.bool true), .exact (kv y.1), vv y.2])) (itL V kv vv b r l (A ++ B) (some y) :: ρ)) :
    opB P ⟨d, .next x false, ty, pos, after, g⟩ af (itL V kv vv b r l left cur :: ρ) K := by
  refine ⟨fun a s => (left = [] ∧ a = .tup [.exact (.bool false)] ∧ s = itL V kv vv b r l [] cur :: ρ) ∨ ∃ A y B, left = A ++ y :: B ∧ a = .tup [.exact (.bool true), .exact (kv y.1), vv y.2] ∧ s = itL V kv vv b r l (A ++ B) (some y) :: ρ, fun F w ev hg h => ?_, fun av s hh => ?_⟩
  · have e1 : ev x = .pointer (some ⟨r, 0, none⟩) := opnd h (x := x) (by simp [Op.operands]) hx
    obtain ⟨es, clock, seen, hM, hF, hV, hr, hL, hC⟩ := hg.items (itL V kv vv b r l left cur) List.mem_cons_self
    have hnd : (itL V kv vv b r l left cur).own.Nodup := by have := hg.nodup; rw [List.flatMap_cons, List.nodup_append] at this; exact this.1
    have hne : b ≠ r := by simpa [itL] using hnd
    have hbl := (Array.getElem?_eq_some_iff.1 hM.at').1
    have hrl := (Array.getElem?_eq_some_iff.1 hr).1
    rcases run_next_at (P := P) w ty r b clock clock seen es clock hr hM.at' hM.old (Nat.le_refl _) with ⟨hs, hrun⟩ | ⟨e, he, w1, hw1, hrun⟩
    · have hle : left = [] := List.length_eq_zero_iff.1 (by rw [← hL.len]; simpa using hs)
      subst hle
      have hrun' : (execOp ev ⟨d, .next x false, ty, pos, after, g⟩).run P w = .ok (.value (.tuple #[.bool false])) w := by
        simp [execOp, e1, hrun, Result.andThen]
      rw [hrun']
      exact ⟨_, _, .inl ⟨rfl, rfl, rfl⟩, hg, (Keeps.refl _ _), fun _ h _ => h, [.bool false], rfl, rfl, trivial⟩
    · have hrun' : (execOp ev ⟨d, .next x false, ty, pos, after, g⟩).run P w = .ok (.value (.tuple #[.bool true, e.key, e.val])) (ChangeMaps.setBlock w1 r (.mapIter (some b) clock (seen.push e.born) clock)) := by
        simp [execOp, e1, hrun, Result.andThen]
      rw [hrun']
      obtain ⟨A', B', hAB⟩ := List.append_of_mem he
      rw [hAB] at hL
      obtain ⟨A, y, B, hl, hy1, hy2, hAB'⟩ := EntFit.split hL
      have hr1 : w1.heap[r]? = some (.mapIter (some b) clock seen clock) := by rcases hw1 with rfl | rfl <;> exact hr
      have hb1 : w1.heap[b]? = some (.map es clock) := by rcases hw1 with rfl | rfl <;> exact hM.at'
      have hset := MapKept.heap_set (o' := .mapIter (some b) clock (seen.push e.born) clock) hr1
      have hnd2 : ((leftOf es seen).toList.map (·.born)).Nodup := by
        unfold leftOf
        rw [Array.toList_filter]
        exact (List.Nodup.sublist (List.Sublist.map _ List.filter_sublist) hM.nd)
      have hleft : (leftOf es (seen.push e.born)).toList = A' ++ B' := by
        rw [left_push, hAB]; exact filter_mid (by rw [← hAB]; exact hnd2)
      have hk' : Keeps (fun q => q ∈ (itL V kv vv b r l left cur).own) w (ChangeMaps.setBlock w1 r (.mapIter (some b) clock (seen.push e.born) clock)) := by
        rcases hw1 with rfl | rfl
        · exact ⟨rfl, rfl, rfl, Nat.le_refl _, by simp [ChangeMaps.setBlock], fun q hlt hn => hset.2 q (fun e => hn (by simp [itL, e]))⟩
        · exact ⟨rfl, rfl, rfl, Nat.le_succ _, by simp [ChangeMaps.setBlock], fun q hlt hn => hset.2 q (fun e => hn (by simp [itL, e]))⟩
      have hsz : (ChangeMaps.setBlock w1 r (.mapIter (some b) clock (seen.push e.born) clock)).heap.size = w.heap.size := by
        rcases hw1 with rfl | rfl <;> simp [ChangeMaps.setBlock]
      obtain ⟨g1, g2, g3⟩ := good_head (it' := itL V kv vv b r l (A ++ B) (some y)) hg hk' (fun q hq => ⟨by
          rw [hsz]
          have : q = b ∨ q = r := by simpa [itL] using hq
          rcases this with rfl | rfl <;> omega, fun _ => hq⟩) (by simpa [itL] using hne)
        (fun hkk hMM => ⟨es, clock, seen.push e.born, ⟨(hset.2 b hne).trans hb1, hM.old, hM.nd⟩, hF.keep hkk hMM, hV, hset.1, by rw [hleft]; exact hAB'.keep hkk hMM, fun z hz => by
          cases hz
          exact ⟨seen, e, rfl, (by have := mem_left he; exact this.1), hy1, (vv y.2).keep hkk hMM hy2⟩⟩)
      refine ⟨_, _, .inr ⟨A, y, B, hl, rfl, rfl⟩, g1, g2, g3, [_, _, _], rfl, rfl, hy1, (vv y.2).keep (hk'.mono (fun q _ h => .inr (own_cons.2 (.inl h)))) (fun q hlt hb => hb.imp id (fun hb => ?_)) hy2, trivial⟩
      exact (own_cons.1 hb).elim (fun h => own_cons.2 (.inl h)) (fun h => own_cons.2 (.inr h))
  · rcases hh with ⟨a1, a2, a3⟩ | ⟨A, y, B, b1, a2, a3⟩
    · subst a2 a3; exact h0 a1
    · subst a2 a3; exact h1 A y B b1
/-- The round's entry. -/
theorem op_mentry {x : Operand} {y : κ × β} {K : AF → Prop} (hx : af.ev x = pA r 0) (hk : K (af.put d (.tup [.exact (kv y.1), vv y.2]))) : opR P ⟨d, .entry x, ty, pos, after, g⟩ af (itL V kv vv b r l left (some y) :: ρ) K := by
  refine ⟨_, fun F w ev hg h => ?_, hk⟩
  have e1 : ev x = .pointer (some ⟨r, 0, none⟩) := opnd h (x := x) (by simp [Op.operands]) hx
  obtain ⟨es, clock, seen, hM, hF, hV, hr, hL, hC⟩ := hg.items (itL V kv vv b r l left (some y)) List.mem_cons_self
  obtain ⟨s', e, rfl, hm, q1, q2⟩ := hC y rfl
  have hrun := run_entry_at (P := P) w r b clock s' es clock e hr hM.at' hm hM.nd
  have hrun' : (execOp ev ⟨d, .entry x, ty, pos, after, g⟩).run P w = .ok (.value (.tuple #[e.key, e.val])) w := by
    simp [execOp, e1, hrun, Result.andThen]
  rw [hrun']
  exact ⟨Keeps.refl _ _, [_, _], rfl, q1, q2, trivial⟩
/-- The range is over, or left. -/
theorem SubU.mDone {cur : Option (κ × β)} : SubU af (itL V kv vv b r l left cur :: σ) af (mapI V kv vv b l :: σ) := by
  intro E n a w hh
  have hown : ∀ k, Items.own (mapI V kv vv b l :: σ) k → Items.own (itL V kv vv b r l left cur :: σ) k := fun k h => by
    rcases own_cons.1 h with h | h
    · exact own_cons.2 (.inl (by simp [mapI] at h; simp [itL, h]))
    · exact own_cons.2 (.inr h)
  have hM : ∀ k, k < w.heap.size → both E.F (Items.own (mapI V kv vv b l :: σ)) k → both E.F (Items.own (itL V kv vv b r l left cur :: σ)) k := fun k _ h => h.imp id (hown k)
  have hnd := hh.good.nodup
  rw [List.flatMap_cons, List.nodup_append] at hnd
  refine ⟨hh.tmps, hh.defers, hh.kept, fun k h hlt => hh.old k (hown k h) hlt, ⟨hh.good.fr, fun k h => hh.good.own k (hown k h), ?_, fun it hi => ?_⟩, fun t => (af t).keep (Keeps.refl _ _) hM (hh.fits t)⟩
  · rw [List.flatMap_cons, List.nodup_append]
    refine ⟨by simp [mapI], hnd.2.1, fun x hx y hy => hnd.2.2 x (by simp [mapI] at hx; simp [itL, hx]) y hy⟩
  · rcases List.mem_cons.1 hi with rfl | hi
    · obtain ⟨es, clock, seen, h1, h2, h3, _⟩ := hh.good.items _ List.mem_cons_self
      exact ⟨es, clock, h1, h2.keep (Keeps.refl _ _) hM, h3⟩
    · exact it.keep (Keeps.refl _ _) hM (hh.good.items it (List.mem_cons_of_mem _ hi))
end
end Go.Proofs.Ytkplmgdmkfgjhaa
/- Variables of one struct type that lead to each other: a heap in use; pointers by number, also as keys of maps. -/
namespace Go.Proofs.Ytkplmgdmkfgjhaa
open Go.RowKit Go.Maps

section
variable {α : Type} {P : Program} {t : TypeId} {enc : α → List AV} {bs bs' : List Nat} {H : List α} {M : BSet} {w : World} {F : BSet} {σ ρ : Items} {af : AF} {d : Option Tmp} {ty : TypeId} {pos : String} {after : Array Edge} {g : Option (Nat × Bool)}
/-- The variables bs of type t, and what they hold. -/
def hpI (t : TypeId) (enc : α → List AV) (bs : List Nat) (H : List α) : Item where
  own := bs
  p := fun M w => bs.length = H.length ∧ ∀ (i : Nat) (b : Nat) (x : α), bs[i]? = some b → H[i]? = some x → (boxI t b (enc x)).p M w
  keep := fun {M M' w w'} hk hm ⟨h1, h2⟩ => ⟨h1, fun i b x hb hx => (boxI t b (enc x)).keep (hk.mono (fun k _ h => ⟨h.1, fun hkb => h.2 (by
    have : k = b := by simpa [boxI] using hkb
    subst this; exact List.mem_of_getElem? hb)⟩)) hm (h2 i b x hb hx)⟩
/-- A pointer to a variable of the heap, by its number; -1: nil. -/
def refA (bs : List Nat) (i : Int) : AV := ⟨fun _ _ v => (i = -1 ∧ v = .pointer none) ∨ (0 ≤ i ∧ ∃ b, bs[i.toNat]? = some b ∧ v = .pointer (some ⟨b, 0, none⟩)), fun _ _ h => h⟩
/-- The address of a cell of one of them. -/
def hptA (bs : List Nat) (i : Int) (o : Nat) : AV := ⟨fun _ _ v => 0 ≤ i ∧ ∃ b, bs[i.toNat]? = some b ∧ v = .pointer (some ⟨b, o, none⟩), fun _ _ h => h⟩
theorem refA_mono {i : Int} : AV.le (refA bs i) (refA (bs ++ bs') i) := fun M w v h => by
  rcases h with h | ⟨h0, b, h1, h2⟩
  · exact .inl h
  · exact .inr ⟨h0, b, by rw [List.getElem?_append_left (List.getElem?_eq_some_iff.1 h1).1]; exact h1, h2⟩
theorem refA_nil : AV.le (.exact (.pointer none)) (refA bs (-1)) := fun M w v h => .inl ⟨rfl, h⟩
theorem refA_one {i : Int} {u : Value} (h : (refA bs i).p M w u) : u.cells = #[u] ∧ u.oneCell' = true := by
  rcases h with ⟨_, rfl⟩ | ⟨_, b, _, rfl⟩ <;> exact ⟨rfl, rfl⟩
theorem CellsOf.ref {i : Int} : CellsOf (refA bs i) [refA bs i] := fun M w v h => ⟨[v], (refA_one h).1, ⟨h, trivial⟩⟩
theorem OneC.ref {i : Int} {c : List AV} (hc : OneC c) : OneC (refA bs i :: c) := OneC.cons (fun M w u h => (refA_one h).2) hc
theorem hp_get [Inhabited α] {i : Int} {b : Nat} (h : (hpI t enc bs H).p M w) (h0 : 0 ≤ i) (hb : bs[i.toNat]? = some b) : (boxI t b (enc (gi H i))).p M w := by
  obtain ⟨h1, h2⟩ := h
  have hlt : i.toNat < H.length := by rw [← h1]; exact (List.getElem?_eq_some_iff.1 hb).1
  exact h2 _ b _ hb (gi_get h0 (by omega))
theorem op_nilC_ref {x : Operand} {i : Int} {K : AF → Prop} (hx : af.ev x = refA bs i) (hi : i ≠ -1) (hk : K (af.put d (hptA bs i 0))) : opA P ⟨d, .nilCheck x, ty, pos, after, g⟩ af K := by
  refine ⟨_, fun M w ev _ h => ?_, hk⟩
  rcases opnd_p h (x := x) (by simp [Op.operands]) hx with ⟨h1, _⟩ | ⟨h0, b, h1, e1⟩
  · exact absurd h1 hi
  · simp [execOp, e1, go_sem, UponQ]
    exact ⟨Keeps.refl _ _, h0, b, h1, rfl⟩
theorem op_field_hpt {x : Operand} {i : Int} {f o o0 : Nat} {K : AF → Prop} {st : TypeId} (hB : fieldB P st f o = true) (hx : af.ev x = hptA bs i o0) (hk : K (af.put d (hptA bs i (o0 + o)))) : opA P ⟨d, .fieldAddr st x f, ty, pos, after, g⟩ af K := by
  refine ⟨_, fun M w ev _ h => ?_, hk⟩
  obtain ⟨h0, b, h1, e1⟩ := opnd_p h (x := x) (by simp [Op.operands]) hx
  have hr : (execOp ev ⟨d, .fieldAddr st x f, ty, pos, after, g⟩).run P w = .ok (.value (.pointer (some ⟨b, o0 + o, none⟩))) w := by
    unfold execOp
    simp only [e1, Sem.run_bind, run_fieldAt hB, Result.andThen_ok, Sem.run_pure]
  rw [hr]
  exact ⟨Keeps.refl _ _, h0, b, h1, rfl⟩
theorem op_load_hpt [Inhabited α] {x : Operand} {i : Int} {o : Nat} {a : AV} {lt : TypeId} {K : AF → Prop} (hi : hpI t enc bs H ∈ σ) (hB : loadB P lt false 1 = true) (hx : af.ev x = hptA bs i o) (hc : (enc (gi H i))[o]? = some a) (hk : K (af.put d a)) : opR P ⟨d, .load lt x, ty, pos, after, g⟩ af σ K := by
  refine ⟨_, fun F w ev hg h => ?_, hk⟩
  obtain ⟨h0, b, h1, e1⟩ := opnd_p h (x := x) (by simp [Op.operands]) hx
  obtain ⟨vs, _, hf, hcell⟩ := box_at (hp_get (hg.items _ hi) h0 h1)
  obtain ⟨u, hu, hp⟩ := hf.at hc
  have hr : (execOp ev ⟨d, .load lt x, ty, pos, after, g⟩).run P w = .ok (.value u) w := by
    unfold execOp
    simp only [e1, Sem.run_bind, run_load1 hB ((hcell o).trans hu), Result.andThen_ok, Sem.run_pure]
  rw [hr]
  exact ⟨Keeps.refl _ _, hp⟩
theorem hp_nodup (hi : hpI t enc bs H ∈ σ) (hg : Good F σ w) : bs.Nodup := by
  have h := hg.nodup
  clear hg
  induction σ with
  | nil => cases hi
  | cons it σ ih =>
    rw [List.flatMap_cons, List.nodup_append] at h
    rcases List.mem_cons.1 hi with rfl | hi
    · exact h.1
    · exact ih hi h.2.1
theorem nodup_get {i j : Nat} {b : Nat} (hn : bs.Nodup) (hi : bs[i]? = some b) (hj : bs[j]? = some b) : i = j := by
  obtain ⟨h1, e1⟩ := List.getElem?_eq_some_iff.1 hi
  obtain ⟨h2, e2⟩ := List.getElem?_eq_some_iff.1 hj
  have hp := List.pairwise_iff_getElem.1 hn
  rcases Nat.lt_trichotomy i j with h | h | h
  · exact absurd (e1.trans e2.symm) (hp i j h1 h2 h)
  · exact h
  · exact absurd (e2.trans e1.symm) (hp j i h2 h1 h)
theorem op_store_hpt [Inhabited α] {x y : Operand} {i : Int} {o : Nat} {a : AV} {c' c2 : List AV} {z : α} {lt : TypeId} {K : AF → Items → Prop} (hx : af.ev x = hptA bs i o) (hy : af.ev y = a) (hc : CellsOf a c2) (hl : LEs c2 c') (h1 : OneC c2) (hs : sizeB P lt c'.length = true) (ho : o + c'.length ≤ (enc (gi H i)).length)
    (h3 : splc (enc (gi H i)) o c' = enc z) (hk : K (af.put d undefA) (hpI t enc bs (H.set i.toNat z) :: ρ)) : opB P ⟨d, .store lt x y, ty, pos, after, g⟩ af (hpI t enc bs H :: ρ) K := by
  refine ⟨fun a s => a = undefA ∧ s = hpI t enc bs (H.set i.toNat z) :: ρ, fun F w ev hg h => ?_, fun av s ⟨e1, e2⟩ => by subst e1 e2; exact hk⟩
  obtain ⟨h0, b, hb0, e1⟩ := opnd_p h (x := x) (by simp [Op.operands]) hx
  obtain ⟨us, e2, hf2⟩ := hc _ w _ (opnd_p h (x := y) (by simp [Op.operands]) hy)
  have hit := hg.items (hpI t enc bs H) List.mem_cons_self
  have hnd := hp_nodup (List.mem_cons_self) hg
  obtain ⟨vs, hb, hf, hcell⟩ := box_at (hp_get hit h0 hb0)
  have hf3 := LE_fit hl hf2
  have hlen : us.length = c'.length := hf3.length.symm
  have hr : (execOp ev ⟨d, .store lt x y, ty, pos, after, g⟩).run P w = .ok .skip (w.setRow b (splc vs o us).toArray) := by
    unfold execOp
    simp only [e1, Sem.run_bind, run_storeAt (by rw [hlen]; exact hs) hb e2 (by rw [hlen, ← hf.length]; exact ho) (h1.fit hf2), Result.andThen_ok, Sem.run_pure]
  rw [hr]
  have hblt := (Array.getElem?_eq_some_iff.1 hb).1
  have hmem : b ∈ bs := List.mem_of_getElem? hb0
  have hk : Keeps (fun k => k ∈ (hpI t enc bs H).own) w (w.setRow b (splc vs o us).toArray) := ⟨rfl, rfl, rfl, Nat.le_refl _, by simp, fun k hlt hn => by
    have hne : k ≠ b := fun e => hn (by simp [hpI, e, hmem])
    simp [World.setRow, Array.getElem?_modify, Ne.symm hne]⟩
  have hall : ∀ k ∈ bs, k < w.heap.size := fun k hk' => (hg.own k (own_cons.2 (.inl hk'))).1
  have hnd' := hg.nodup
  rw [List.flatMap_cons, List.nodup_append] at hnd'
  obtain ⟨g1, g2, g3⟩ := good_head (it' := hpI t enc bs (H.set i.toNat z)) hg hk (fun k hk' => ⟨by simpa using hall k hk', fun _ => hk'⟩) hnd
    (fun hkk hMM => ⟨by rw [List.length_set]; exact hit.1, fun j b' x' hj hx' => by
      by_cases hji : j = i.toNat
      · subst hji
        rw [hb0] at hj; cases hj
        have hjl : i.toNat < H.length := by rw [← hit.1]; exact (List.getElem?_eq_some_iff.1 hb0).1
        rw [List.getElem?_set_self hjl] at hx'
        cases hx'
        exact ⟨splc vs o us, setRow_heap w b vs.toArray _ t _ hb, by rw [← h3]; exact Fit.spl o (hf.keep hkk hMM) (hf3.keep hkk hMM)⟩
      · rw [List.getElem?_set_ne (Ne.symm hji)] at hx'
        obtain ⟨vs', hb', hf'⟩ := hit.2 j b' x' hj hx'
        have hne : b ≠ b' := fun e => hji (nodup_get hnd hj (by rw [hb0, e]))
        refine ⟨vs', ?_, hf'.keep hkk hMM⟩
        rw [← hb']
        simp [World.setRow, Array.getElem?_modify, hne]⟩)
  exact ⟨_, _, ⟨rfl, rfl⟩, g1, g2, g3, rfl⟩

/-! ### Pointers told apart -/
def ptrB (P : Program) (kt t : TypeId) : Bool := match P.underlying kt with
  | some (.pointer e) => Nat.beq e t && (match P.info? e with | some i => !(Nat.beq i.size 0) | none => false)
  | _ => false
theorem ptrB_spec {kt t : TypeId} (h : ptrB P kt t = true) : P.underlying kt = some (.pointer t) ∧ ∃ i, P.info? t = some i ∧ i.size ≠ 0 := by
  unfold ptrB at h
  split at h
  · rename_i e he
    simp only [Bool.and_eq_true] at h
    obtain ⟨h1, h2⟩ := h
    obtain rfl := Nat.eq_of_beq_eq_true h1
    refine ⟨he, ?_⟩
    split at h2
    · rename_i i hi
      exact ⟨i, hi, fun e => by rw [e] at h2; simp at h2⟩
    · cases h2
  · cases h
theorem refs_eqnil {kt : TypeId} {i : Int} {u : Value} {n : Nat} (hp : ptrB P kt t = true) (hu : (refA bs i).p M w u) : (Op.equalIn (n + 1) kt u (.pointer none)).run P w = .ok (decide (i = -1)) w := by
  obtain ⟨hk, I, hI, hs⟩ := ptrB_spec hp
  rcases hu with ⟨rfl, rfl⟩ | ⟨h0, b, h1, rfl⟩
  · simp [Op.equalIn, run_underlying hk]
  · have : ¬ i = (-1 : Int) := by omega
    simp [Op.equalIn, run_underlying hk, this]
theorem op_eqnil_ref {x y : Operand} {kt t' : TypeId} {i : Int} {K : AF → Prop} (hp : ptrB P kt t = true) (hg0 : P.eqGuardType P.depth kt = false) (hx : af.ev x = refA bs i) (hy : af.ev y = .exact (.pointer none)) (hk : K (af.put d (.exact (.bool (decide (i = -1)))))) :
    opA P ⟨d, .binOp .eql kt x y t', ty, pos, after, g⟩ af K := by
  refine ⟨_, fun M w ev _ h => ?_, hk⟩
  have hv := opnd h (x := y) (by simp [Op.operands]) hy
  have hu := opnd_p h (x := x) (by simp [Op.operands]) hx
  have := refs_eqnil (P := P) (n := 9999) hp hu
  rcases hu with ⟨hi1, e1⟩ | ⟨h0, b, hb, e1⟩ <;> rw [e1] at this <;>
    (simp [execOp, eqGuard, run_prog, binOp, hg0, Op.equal, Op.maxDepth, e1, hv, this, go_sem, UponQ]; exact ⟨Keeps.refl _ _, rfl⟩)
end
end Go.Proofs.Ytkplmgdmkfgjhaa
/- Heaps: pairs of pointers as keys; results that lie in a variable. -/
namespace Go.Proofs.Ytkplmgdmkfgjhaa
open Go.RowKit Go.Maps

section
variable {α : Type} {P : Program} {t : TypeId} {enc : α → List AV} {bs : List Nat} {H : List α} {M : BSet} {w : World} {F : BSet} {σ ρ : Items} {af : AF} {d : Option Tmp} {ty : TypeId} {pos : String} {after : Array Edge} {g : Option (Nat × Bool)}
theorem zp_ref : (refA bs (-1)).p M w (.pointer none) := refA_nil _ _ _ rfl
/-! ### A result that lies in a variable -/
end
end Go.Proofs.Ytkplmgdmkfgjhaa
/- Rows in use whose slice lies in a cell of a variable in use; what is known of a value, as a thing without blocks. -/
namespace Go.Proofs.Ytkplmgdmkfgjhaa
open Go.RowKit

section
variable {P : Program} {E : Env} {af : AF} {σ ρ : Items} {w : World} {K : AF → Items → Prop} {o : Oper}
variable {α : Type} {t bt : TypeId} {n : Nat} {enc : α → List AV} {xs : List α} {v : Value} {a : AV} {b : Nat} {c : List AV}

theorem Fit.set {M : BSet} : ∀ {c : List AV} {vs : List Value} {j : Nat} {v : Value} {a : AV}, Fit M w c vs → c[j]? = some (.exact v) → a.p M w v → Fit M w (c.set j a) vs
  | [], _, _, _, _, _, hj, _ => by simp at hj
  | x :: c, u :: vs, 0, v, a, h, hj, ha => by
    simp at hj; subst hj
    obtain ⟨h1, h2⟩ := h
    obtain h1 : u = v := h1
    subst h1
    exact ⟨ha, h2⟩
  | x :: c, u :: vs, j + 1, v, a, h, hj, ha => ⟨h.1, Fit.set (j := j) h.2 (by simpa using hj) ha⟩
/-! ### The value of a row in use is a slice -/
def IsSl (v : Value) : Prop := ∃ A l c, v = .slice A l c
theorem isSl_of_vec {M : BSet} (h : (vecT P t n enc v xs).p M w) : IsSl v := by
  obtain ⟨vs, hown, _⟩ := h
  rcases hown.2 with ⟨rfl, _⟩ | ⟨g, cap, cur, rfl, _⟩
  · exact ⟨_, _, _, rfl⟩
  · exact ⟨_, _, _, rfl⟩
theorem opB_sl (hm : vecT P t n enc v xs ∈ σ) (h : IsSl v → opB P o af σ K) : opB P o af σ K := by
  by_cases hs : IsSl v
  · exact h hs
  · exact ⟨fun _ _ => False, fun F w ev hg hx => absurd (isSl_of_vec (hg.items _ hm)) hs, fun _ _ h => h.elim⟩
theorem CellsOf.sl (h : IsSl v) : CellsOf (.exact v) [.exact v] := fun M w u hu => ⟨[u], by obtain ⟨A, l, c, rfl⟩ := h; rw [show u = _ from hu]; rfl, ⟨hu, trivial⟩⟩
theorem OneC.sl {c : List AV} (h : IsSl v) (hc : OneC c) : OneC (.exact v :: c) := OneC.cons (fun M w u hu => by obtain ⟨A, l, c, rfl⟩ := h; rw [show u = _ from hu]; rfl) hc
/-! ### Pointers at what stays, as values -/
theorem CellsOf.ptr : CellsOf (.ptr c) [.ptr c] := fun M w u h => ⟨[u], by obtain ⟨b, off, h1, _⟩ := h; rw [h1]; rfl, ⟨h, trivial⟩⟩
theorem OneC.ptr {c' : List AV} (hc : OneC c') : OneC (.ptr c :: c') := OneC.cons (fun M w u h => by obtain ⟨b, off, h1, _⟩ := h; rw [h1]; rfl) hc
theorem CellsOf.fn {ι δ : Type} {args : ι → List AV} {f : ι → Option δ} {res : δ → AV} : CellsOf (.fn P args f res) [.fn P args f res] := fun M w v h => ⟨[v], by obtain ⟨k, fn, caps, avs, h1, _⟩ := h; rw [h1]; rfl, ⟨h, trivial⟩⟩
theorem OneC.fn {ι δ : Type} {args : ι → List AV} {f : ι → Option δ} {res : δ → AV} {c' : List AV} (hc : OneC c') : OneC (.fn P args f res :: c') := OneC.cons (fun M w u h => by obtain ⟨k, fn, caps, avs, h1, _⟩ := h; rw [h1]; rfl) hc
theorem AV.ext' {x y : AV} (h : ∀ M w v, x.p M w v ↔ y.p M w v) : x = y := by
  cases x with | mk p k => cases y with | mk q k' =>
  have : p = q := by funext M w v; exact propext (h M w v)
  subst this
  rfl
end
end Go.Proofs.Ytkplmgdmkfgjhaa
/- Ranges over maps as loops; maps that may be nil. -/
namespace Go.Proofs.Ytkplmgdmkfgjhaa
open Go.RowKit Go.Maps

section
variable {κ β X G ρ' : Type} {P : Program} {E : Env} {n : Nat} {af : AF} {σ ρ : Items} {ks : List KFr} {V : κ → Prop} {kv : κ → Value} {vv : β → AV} {b r : Nat}
theorem k_range1_1 {c : Code} {l : List (κ × β)} {Bf : κ × β → X → Option X} {x0 : X} {K : X → Option ρ'} {res : ρ'} (h : rngC l Bf x0 K = some res) (A : X → G → AF) (I : X → G → Items) (g0 : G)
    (hs : Sub E n af σ (A x0 g0) (itL V kv vv b r l l none :: I x0 g0))
    (hb : ∀ (x : X) (g : G) (left : List (κ × β)) (cur : Option (κ × β)) (Q : AF → Items → Prop), (left = [] → K x = some res) →
      (∀ A' y B', left = A' ++ y :: B' → ∃ x', Bf y x = some x' ∧ ∀ (af' : AF) (σ' : Items) (g' : G), Sub E n af' σ' (A x' g') (itL V kv vv b r l (A' ++ B') (some y) :: I x' g') → den P E n (kI Q :: ks) .normal af' σ') →
      awp P E n c (den P E n (kI Q :: ks)) (A x g) (itL V kv vv b r l left cur :: I x g)) : awp P E n (.loop c) (den P E n ks) af σ := by
  have hall := rngC_some h
  refine k_loop (α := X × G × List (κ × β) × List (κ × β) × Option (κ × β)) (fun s => A s.1 s.2.1) (fun s => itL V kv vv b r l s.2.2.2.1 s.2.2.2.2 :: I s.1 s.2.1)
    (fun s => (s.2.2.1 ++ s.2.2.2.1).Perm l ∧ foldB Bf s.2.2.1 x0 = some s.1) (fun s => s.2.2.2.1.length) (x0, g0, [], l, none) ⟨List.Perm.refl l, rfl⟩ hs ?_
  rintro ⟨x, g, done, left, cur⟩ ⟨hp, hf⟩
  refine hb x g left cur _ (fun he => ?_) (fun A' y B' hl => ?_)
  · dsimp only at he hp hf
    subst he
    have := hall done (by simpa using hp)
    rw [hf] at this
    exact this
  · dsimp only at hl hp hf
    subst hl
    have h1 := hall (done ++ (y :: (A' ++ B'))) ((List.Perm.append_left done (List.perm_middle (a := y) (l₁ := A') (l₂ := B')).symm).trans hp)
    rw [foldB_app, hf] at h1
    have h2 : ((Bf y x).bind (foldB Bf (A' ++ B'))).bind K = some res := h1
    cases hB : Bf y x with
    | none => rw [hB] at h2; cases h2
    | some x' =>
      refine ⟨x', rfl, fun af' σ' g' hsub => ?_⟩
      refine kI_normal ⟨(x', g', done ++ [y], A' ++ B', some y), ⟨?_, ?_⟩, ?_, hsub⟩
      · dsimp only
        rw [List.append_assoc]
        exact (List.Perm.append_left done (List.perm_middle (a := y) (l₁ := A') (l₂ := B')).symm).trans hp
      · dsimp only
        rw [foldB_app, hf]
        simp [foldB, hB]
      · simp

/-! ### Maps that may be nil -/
variable {l : List (κ × β)}
theorem own_of_sub {it it' : Item} (h : ∀ k, k ∈ it'.own → k ∈ it.own) {k : Nat} (hk : Items.own (it' :: σ) k) : Items.own (it :: σ) k := by
  rcases own_cons.1 hk with hk | hk
  · exact own_cons.2 (.inl (h k hk))
  · exact own_cons.2 (.inr hk)
theorem SubU.item {it it' : Item} (ho : ∀ k, k ∈ it'.own → k ∈ it.own) (hn : it.own.Nodup → it'.own.Nodup) (hp : ∀ M w, it.p M w → it'.p M w) : SubU af (it :: σ) af (it' :: σ) := by
  intro E n a w hh
  have hM : ∀ k, k < w.heap.size → both E.F (Items.own (it' :: σ)) k → both E.F (Items.own (it :: σ)) k := fun k _ h => h.imp id (own_of_sub ho)
  have hnd := hh.good.nodup
  rw [List.flatMap_cons, List.nodup_append] at hnd
  refine ⟨hh.tmps, hh.defers, hh.kept, fun k h hlt => hh.old k (own_of_sub ho h) hlt, ⟨hh.good.fr, fun k h => hh.good.own k (own_of_sub ho h), ?_, fun x hx => ?_⟩, fun t => (af t).keep (Keeps.refl _ _) hM (hh.fits t)⟩
  · rw [List.flatMap_cons, List.nodup_append]
    exact ⟨hn hnd.1, hnd.2.1, fun x hx y hy => hnd.2.2 x (ho x hx) y hy⟩
  · rcases List.mem_cons.1 hx with rfl | hx
    · exact x.keep (Keeps.refl _ _) hM (hp _ _ (hh.good.items _ List.mem_cons_self))
    · exact x.keep (Keeps.refl _ _) hM (hh.good.items x (List.mem_cons_of_mem _ hx))
variable [DecidableEq κ] {kt t e t' : TypeId} {Wp : World → Prop} {d : Option Tmp} {ty : TypeId} {pos : String} {after : Array Edge} {g : Option (Nat × Bool)}
theorem CellsOf.mapz : CellsOf (.exact (.map (some b))) [.exact (.map (some b))] := fun M w v h => ⟨[v], by rw [show v = _ from h]; rfl, ⟨h, trivial⟩⟩
theorem OneC.mapz {c : List AV} (hc : OneC c) : OneC (.exact (.map (some b)) :: c) := OneC.cons (fun M w u h => by rw [show u = _ from h]; rfl) hc
end
section
variable {P : Program} {af : AF} {ρ : Items} {d : Option Tmp} {ty : TypeId} {pos : String} {after : Array Edge} {g : Option (Nat × Bool)}
theorem op_fun_4_0_4 {f : FuncId} {fn : Func} {args : List AV} {x0 x1 x2 x3 : Item} {A : AV} {s0 s1 s2 s3 : Item} {xs : List Operand} {ats : Array TypeId} {K : AF → Items → Prop} (hp : Fun P f args [x0, x1, x2, x3] (fun a s => a = A ∧ s = [s0, s1, s2, s3])) (hf : P.funcs[f]? = some fn) (hb : (fn.body.isNone || fn.name == "runtime.NumGoroutine") = false)
    (hx : LEs (xs.map af.ev) args) (hk : K (af.put d (A)) (s0 :: s1 :: s2 :: s3 :: ρ)) : opB P ⟨d, .call { callee := .value (.func f), args := xs.toArray, argTypes := ats }, ty, pos, after, g⟩ af (x0 :: x1 :: x2 :: x3 :: ρ) K :=
  op_funX (σ0 := [x0, x1, x2, x3]) hp hf hb hx (fun av s' h => by
    obtain ⟨rfl, rfl⟩ := h
    exact hk)
end
end Go.Proofs.Ytkplmgdmkfgjhaa
/- Heaps that grow. -/
namespace Go.Proofs.Ytkplmgdmkfgjhaa
open Go.RowKit Go.Maps

section
variable {α κ β : Type} {P : Program} {t : TypeId} {enc enc' : α → List AV} {bs : List Nat} {H : List α} {af : AF} {σ : Items} {V : κ → Prop} {kv : κ → Value} {vv vv' : β → AV} {l : List (κ × β)}
theorem EntFit.le {M : BSet} {w : World} (h : ∀ x, AV.le (vv x) (vv' x)) : ∀ {es : List MapEntry} {l : List (κ × β)}, EntFit M w kv vv es l → EntFit M w kv vv' es l
  | [], [], _ => trivial
  | e :: es, x :: l, hh => ⟨⟨hh.1.1, h _ _ _ _ hh.1.2⟩, EntFit.le h hh.2⟩
/-- Less is known of a map's elements. -/
theorem SubU.mapLe {b : Nat} (h : ∀ x, AV.le (vv x) (vv' x)) : SubU af (mapI V kv vv b l :: σ) af (mapI V kv vv' b l :: σ) :=
  SubU.item (fun k h => h) (fun h => h) (fun M w ⟨es, clock, h1, h2, h3⟩ => ⟨es, clock, h1, h2.le h, h3⟩)
theorem LEs.flat {xs : List α} (h : ∀ x, LEs (enc x) (enc' x)) : LEs (xs.flatMap enc) (xs.flatMap enc') := by
  induction xs with
  | nil => trivial
  | cons x xs ih =>
    rw [List.flatMap_cons, List.flatMap_cons]
    have app : ∀ {a b c d : List AV}, LEs a b → LEs c d → LEs (a ++ c) (b ++ d) := by
      intro a
      induction a with
      | nil => intro b c d h1 h2; cases b with | nil => exact h2 | cons _ _ => exact h1.elim
      | cons x a iha => intro b c d h1 h2; cases b with | nil => exact h1.elim | cons y b => exact ⟨h1.1, iha h1.2 h2⟩
    exact app (h x) ih
/-- Less is known of a row's elements. -/
theorem SubU.vecLe {n : Nat} {v : Value} {xs : List α} (h : ∀ x, LEs (enc x) (enc' x)) : SubU af (vecT P t n enc v xs :: σ) af (vecT P t n enc' v xs :: σ) :=
  SubU.item (fun k h => h) (fun h => h) (fun M w ⟨us, h1, h2⟩ => ⟨us, h1, LE_fit (LEs.flat h) h2⟩)
theorem SubU.newHeap (hb : bs = []) : SubU af σ af (hpI t enc bs ([] : List α) :: σ) := by
  subst hb
  intro E n a w hh
  have hown : ∀ k, Items.own (hpI t enc [] ([] : List α) :: σ) k ↔ Items.own σ k := fun k => by rw [own_cons]; simp [hpI]
  have hM : ∀ k, k < w.heap.size → both E.F (Items.own (hpI t enc [] ([] : List α) :: σ)) k → both E.F (Items.own σ) k := fun k _ h => h.imp id (hown k).1
  refine ⟨hh.tmps, hh.defers, hh.kept, fun k h hlt => hh.old k ((hown k).1 h) hlt, ⟨hh.good.fr, fun k h => hh.good.own k ((hown k).1 h), ?_, fun x hx => ?_⟩, fun t => (af t).keep (Keeps.refl _ _) hM (hh.fits t)⟩
  · rw [List.flatMap_cons]; exact hh.good.nodup
  · rcases List.mem_cons.1 hx with rfl | hx
    · exact ⟨rfl, fun i b x hb => by simp at hb⟩
    · exact x.keep (Keeps.refl _ _) hM (hh.good.items x hx)
/-- A variable joins the heap; its pointer's slot from here on holds its number. -/
theorem SubU.addHeap {b : Nat} {c : List AV} {x : α} {s : Tmp} (hs : af s = pA b 0) (hc : LEs c (enc' x)) (hl : ∀ x, LEs (enc x) (enc' x)) :
    SubU af (boxI t b c :: hpI t enc bs H :: σ) (af.put (some s) (refA (bs ++ [b]) (H.length : Int))) (hpI t enc' (bs ++ [b]) (H ++ [x]) :: σ) := by
  intro E n a w hh
  have hown : ∀ k, Items.own (hpI t enc' (bs ++ [b]) (H ++ [x]) :: σ) k ↔ Items.own (boxI t b c :: hpI t enc bs H :: σ) k := fun k => by
    rw [own_cons, own_cons, own_cons]; simp only [hpI, boxI, List.mem_append, List.mem_singleton]
    constructor
    · rintro ((h | h) | h)
      · exact .inr (.inl h)
      · exact .inl h
      · exact .inr (.inr h)
    · rintro (h | h | h)
      · exact .inl (.inr h)
      · exact .inl (.inl h)
      · exact .inr h
  have hM : ∀ k, k < w.heap.size → both E.F (Items.own (hpI t enc' (bs ++ [b]) (H ++ [x]) :: σ)) k → both E.F (Items.own (boxI t b c :: hpI t enc bs H :: σ)) k := fun k _ h => h.imp id (hown k).1
  have hnd := hh.good.nodup
  have hbox := hh.good.items (boxI t b c) List.mem_cons_self
  obtain ⟨h1, h2⟩ := hh.good.items (hpI t enc bs H) (List.mem_cons_of_mem _ List.mem_cons_self)
  refine ⟨hh.tmps, hh.defers, hh.kept, fun k h hlt => hh.old k ((hown k).1 h) hlt, ⟨hh.good.fr, fun k h => hh.good.own k ((hown k).1 h), ?_, fun y hy => ?_⟩, fun u => ?_⟩
  · have e : ((hpI t enc' (bs ++ [b]) (H ++ [x]) :: σ).flatMap Item.own) = (bs ++ [b]) ++ σ.flatMap Item.own := rfl
    have e2 : ((boxI t b c :: hpI t enc bs H :: σ).flatMap Item.own) = [b] ++ (bs ++ σ.flatMap Item.own) := rfl
    rw [e2] at hnd
    rw [e]
    refine (List.Perm.nodup_iff ?_).1 hnd
    rw [← List.append_assoc]
    exact List.Perm.append_right _ List.perm_append_comm
  · rcases List.mem_cons.1 hy with rfl | hy
    · refine ⟨by simp [h1], fun i b' x' hb hx => ?_⟩
      by_cases hlt : i < bs.length
      · rw [List.getElem?_append_left hlt] at hb
        rw [List.getElem?_append_left (by rw [← h1]; exact hlt)] at hx
        obtain ⟨vs, q1, q2⟩ := h2 i b' x' hb hx
        exact ⟨vs, q1, (LE_fit (hl x') q2).keep (Keeps.refl _ _) hM⟩
      · have hi : i = bs.length := by
          have := (List.getElem?_eq_some_iff.1 hb).1
          simp at this; omega
        subst hi
        rw [List.getElem?_append_right (Nat.le_refl _)] at hb
        rw [h1, List.getElem?_append_right (Nat.le_refl _)] at hx
        simp at hb hx
        subst hb hx
        obtain ⟨vs, q1, q2⟩ := hbox
        exact ⟨vs, q1, (LE_fit hc q2).keep (Keeps.refl _ _) hM⟩
    · exact y.keep (Keeps.refl _ _) hM (hh.good.items y (List.mem_cons_of_mem _ (List.mem_cons_of_mem _ hy)))
  · by_cases hu : u = s
    · subst hu
      rw [AF.put_same]
      have hv := hh.fits u
      rw [hs] at hv
      refine .inr ⟨Int.natCast_nonneg _, b, ?_, hv⟩
      simp [h1]
    · rw [AF.put_other _ _ hu]
      exact (af u).keep (Keeps.refl _ _) hM (hh.fits u)
/-- One list of variables goes on where another ends. -/
def Ext (a b : List Nat) : Prop := ∃ t, b = a ++ t
theorem Ext.refl (a : List Nat) : Ext a a := ⟨[], by simp⟩
theorem Ext.trans {a b c : List Nat} (h : Ext a b) (k : Ext b c) : Ext a c := by
  obtain ⟨t, rfl⟩ := h; obtain ⟨u, rfl⟩ := k; exact ⟨t ++ u, by simp⟩
theorem Ext.one (a : List Nat) (b : Nat) : Ext a (a ++ [b]) := ⟨[b], rfl⟩
end
end Go.Proofs.Ytkplmgdmkfgjhaa
/- Maps with strings as keys; delete, the number of entries; many rows in use as one thing. -/
namespace Go.Proofs.Ytkplmgdmkfgjhaa
open Go.RowKit Go.Maps

section
variable {κ β : Type} {P : Program} {kt : TypeId} {kv : κ → Value} {V : κ → Prop} {Wp : World → Prop} {vv : β → AV} {M : BSet} {w : World}
theorem bs_beq (a b : List UInt8) : (bs a == bs b) = decide (a = b) := by
  rw [Bool.eq_iff_iff, MapKept.bytes_beq, decide_eq_true_eq]
  constructor
  · intro h
    have := congrArg (fun x : ByteArray => x.data.toList) h
    exact this
  · rintro rfl; rfl
theorem findNow_str {a : List UInt8} : ∀ (es : List MapEntry) (ks : List (List UInt8)) (i : Nat), es.map (·.key) = ks.map (fun k : List UInt8 => Value.string (bs k)) → Instr.findNow .string (.string (bs a)) es i = some (fndL es ks a i)
  | [], [], _, _ => rfl
  | e :: es, k :: ks, i, h => by
    simp only [List.map_cons, List.cons.injEq] at h
    simp only [Instr.findNow, h.1, Instr.sameNow, fndL, bs_beq]
    by_cases hak : a = k
    · simp [hak]
    · simp only [hak, decide_false, if_false]
      exact findNow_str es ks (i + 1) h.2
  | [], _ :: _, _, h => by simp at h
  | _ :: _, [], _, h => by simp at h
theorem keyOk_str (ht : P.underlying kt = some .string) : KeyOk P kt (fun k : List UInt8 => .string (bs k)) (fun _ => True) (fun _ => True) where
  check w em a _ := MapKept.run_checkKey ht (show MapKept.IsKey .string (.string (bs a)) from trivial) em 9999
  find w a _ _ es ks _ hk := by
    exact MapKept.run_findKey ht (findNow_str es ks 0 hk)
  stays w a _ := MapKept.run_keyThatStays (show MapKept.IsKey .string (.string (bs a)) from trivial)
theorem keyAV_str {a : AV} {k : List UInt8} (h : a = .exact (.string (bs k))) : KeyAV (fun k : List UInt8 => .string (bs k)) (fun _ => True) a k := fun M w v hv => ⟨by subst h; exact hv, trivial⟩
variable [DecidableEq κ] in
theorem delL_mem {k : κ} : ∀ {l : List (κ × β)}, ∀ x ∈ delL l k, x ∈ l
  | [], x, h => h
  | y :: l, x, h => by
    rw [delL] at h
    split at h
    · exact List.mem_cons_of_mem _ h
    · rcases List.mem_cons.1 h with rfl | h
      · exact List.mem_cons_self
      · exact List.mem_cons_of_mem _ (delL_mem x h)
variable [DecidableEq κ] in
theorem EntFit.del {a : κ} : ∀ {es : List MapEntry} {l : List (κ × β)} {i : Nat}, EntFit M w kv vv es l →
    (fndL es (l.map (·.1)) a i = none ∧ delL l a = l) ∨ ∃ j v, fndL es (l.map (·.1)) a i = some (i + j, v) ∧ j < es.length ∧ EntFit M w kv vv (es.eraseIdx j) (delL l a)
  | [], [], _, _ => .inl ⟨rfl, rfl⟩
  | e :: es, x :: l, i, h => by
    rw [List.map_cons, fndL, delL]
    by_cases hx : a = x.1
    · rw [if_pos hx, if_pos hx.symm]
      exact .inr ⟨0, e.val, rfl, by simp, h.2⟩
    · rw [if_neg hx, if_neg (fun e => hx e.symm)]
      rcases EntFit.del (a := a) (i := i + 1) h.2 with ⟨h1, h2⟩ | ⟨j, v, h1, h2, h3⟩
      · exact .inl ⟨h1, by rw [h2]⟩
      · exact .inr ⟨j + 1, v, by rw [h1]; congr 2; omega, by simpa using h2, ⟨h.1, h3⟩⟩
  | [], _ :: _, _, h => h.elim
  | _ :: _, [], _, h => h.elim
variable {ops : Array Oper} {E : Env} {af : AF} {σ ρ : Items} {d : Option Tmp} {ty t e : TypeId} {pos : String} {after : Array Edge} {g : Option (Nat × Bool)} {b r : Nat} {l left : List (κ × β)}
/-- len(m) -/
theorem op_mlen {x : Operand} {K : AF → Prop} (hi : mapI V kv vv b l ∈ σ) (ht : P.underlying t = some (.map kt e)) (hx : af.ev x = .exact (.map (some b))) (hk : K (af.put d (.exact (.int .i64 (l.length : Int))))) :
    opR P ⟨d, .call { callee := .builtin .len, args := #[x], argTypes := #[t] }, ty, pos, after, g⟩ af σ K := by
  refine ⟨_, fun F w ev hg h => ?_, hk⟩
  have e1 := opnd h (x := x) (by simp [Op.operands, Call.operands]) hx
  obtain ⟨es, clock, ⟨h1, _, _⟩, h4, _⟩ := hg.items _ hi
  have hlen := h4.len
  rw [Array.length_toList] at hlen
  simp [execOp, resolve, invoke, builtin, Builtin.len_, e1, run_under ht, goInt, go_sem, UponQ, MapKept.run_getObj_map h1, Result.andThen, hlen]
  exact ⟨Keeps.refl _ _, rfl⟩
variable [DecidableEq κ]
/-- delete(m, k) -/
theorem op_mdel {m x : Operand} {k : κ} {t2 : TypeId} {K : AF → Items → Prop} (hK : KeyOk P kt kv V Wp) (hW : ∀ F w, Good F (mapI V kv vv b l :: ρ) w → Wp w) (ht : P.underlying t = some (.map kt e)) (hm : af.ev m = .exact (.map (some b))) (hx : KeyAV kv V (af.ev x) k)
    (hk : K (af.put d (.exact (.tuple #[]))) (mapI V kv vv b (delL l k) :: ρ)) : opB P ⟨d, .call { callee := .builtin .delete, args := #[m, x], argTypes := #[t, t2] }, ty, pos, after, g⟩ af (mapI V kv vv b l :: ρ) K := by
  refine ⟨fun a s => a = .exact (.tuple #[]) ∧ s = mapI V kv vv b (delL l k) :: ρ, fun F w ev hg h => ?_, fun av s ⟨e1, e2⟩ => by subst e1 e2; exact hk⟩
  have e1 := opnd h (x := m) (by simp [Op.operands, Call.operands]) hm
  obtain ⟨e2, hv⟩ := hx _ _ _ (h x (by simp [Op.operands, Call.operands]))
  obtain ⟨es, clock, ⟨h1, h2, h3⟩, h4, h5⟩ := hg.items (mapI V kv vv b l) List.mem_cons_self
  have hf := hK.find w k hv (hW F w hg) es.toList (l.map (·.1)) (fun q hq => by obtain ⟨x, hx, rfl⟩ := List.mem_map.1 hq; exact h5 x hx) h4.keys
  have hbl := (Array.getElem?_eq_some_iff.1 h1).1
  have key : ∃ es', (Builtin.delete_ #[t, t2] ty #[.map (some b), kv k]).run P w = .ok (.tuple #[]) (ChangeMaps.setBlock w b (.map es' clock)) ∧ es'.toList.Sublist es.toList ∧ EntFit (both F (Items.own (mapI V kv vv b l :: ρ))) w kv vv es'.toList (delL l k) := by
    rcases h4.del (a := k) (i := 0) with ⟨g1, g2⟩ | ⟨j, v, g1, g2, g3⟩
    · rw [g1] at hf
      refine ⟨es, ?_, List.Sublist.refl _, by rw [g2]; exact h4⟩
      simp [Builtin.delete_, run_underlying ht, MapKept.run_getObj_map h1, hK.check w _ k hv, hf, Result.andThen, MapKept.run_setObj_map _ h1, ChangeMaps.setBlock, go_sem]
    · rw [g1] at hf
      have hj : j < es.size := by simpa using g2
      have he : (es.eraseIdxIfInBounds j).toList = es.toList.eraseIdx j := by
        unfold Array.eraseIdxIfInBounds
        rw [dif_pos hj, Array.toList_eraseIdx]
      refine ⟨es.eraseIdxIfInBounds j, ?_, by rw [he]; exact List.eraseIdx_sublist _ _, by rw [he]; exact g3⟩
      simp [Builtin.delete_, run_underlying ht, MapKept.run_getObj_map h1, hK.check w _ k hv, hf, Result.andThen, MapKept.run_setObj_map _ h1, ChangeMaps.setBlock, go_sem]
  obtain ⟨es', hrun, hsub, k3⟩ := key
  have hrun' : (execOp ev ⟨d, .call { callee := .builtin .delete, args := #[m, x], argTypes := #[t, t2] }, ty, pos, after, g⟩).run P w = .ok (.value (.tuple #[])) (ChangeMaps.setBlock w b (.map es' clock)) := by
    simp [execOp, resolve, invoke, builtin, e1, e2, hrun, Result.andThen, go_sem]
  rw [hrun']
  have hset := MapKept.heap_set (o' := .map es' clock) h1
  have hk' : Keeps (fun q => q ∈ (mapI V kv vv b l).own) w (ChangeMaps.setBlock w b (.map es' clock)) := ⟨rfl, rfl, rfl, Nat.le_refl _, by simp [ChangeMaps.setBlock], fun q hlt hn => hset.2 q (fun e => hn (by simp [mapI, e]))⟩
  obtain ⟨g1, g2, g3⟩ := good_head (it' := mapI V kv vv b (delL l k)) hg hk' (fun q hq => by
      have : q = b := by simpa [mapI] using hq
      subst this
      exact ⟨by simpa [ChangeMaps.setBlock] using hbl, fun _ => by simp [mapI]⟩) (by simp [mapI])
    (fun hkk hMM => ⟨es', clock, ⟨hset.1, fun x hx => h2 x (hsub.subset hx), (hsub.map _).nodup h3⟩, k3.keep hkk hMM, fun x hx => h5 x (delL_mem x hx)⟩)
  exact ⟨_, _, ⟨rfl, rfl⟩, g1, g2, g3, rfl⟩
end
/-! ### Things in use, put in other bundles -/
section
variable {af : AF} {σ σ' : Items}
theorem SubU.repack (ho : (σ'.flatMap Item.own).Perm (σ.flatMap Item.own)) (hp : ∀ M w, (∀ it ∈ σ, it.p M w) → ∀ it ∈ σ', it.p M w) : SubU af σ af σ' := by
  intro E n a w hh
  have hown : ∀ k, Items.own σ' k ↔ Items.own σ k := fun k => ho.mem_iff
  have hM : ∀ k, k < w.heap.size → both E.F (Items.own σ') k → both E.F (Items.own σ) k := fun k _ h => h.imp id (hown k).1
  exact ⟨hh.tmps, hh.defers, hh.kept, fun k h hlt => hh.old k ((hown k).1 h) hlt, ⟨hh.good.fr, fun k h => hh.good.own k ((hown k).1 h), ho.nodup_iff.2 hh.good.nodup, fun x hx => x.keep (Keeps.refl _ _) hM (hp _ _ hh.good.items x hx)⟩, fun t => (af t).keep (Keeps.refl _ _) hM (hh.fits t)⟩
theorem Good.repack {F : BSet} {w : World} (h : Good F σ w) (ho : (σ'.flatMap Item.own).Perm (σ.flatMap Item.own)) (hp : ∀ M, (∀ it ∈ σ, it.p M w) → ∀ it ∈ σ', it.p M w) : Good F σ' w := by
  have hown : ∀ k, Items.own σ' k ↔ Items.own σ k := fun k => ho.mem_iff
  have hM : ∀ k, k < w.heap.size → both F (Items.own σ') k → both F (Items.own σ) k := fun k _ h => h.imp id (hown k).1
  exact ⟨h.fr, fun k hk => h.own k ((hown k).1 hk), ho.nodup_iff.2 h.nodup, fun x hx => x.keep (Keeps.refl _ _) hM (hp _ h.items x hx)⟩
/-- Many things as one. -/
def allI (l : Items) : Item where
  own := l.flatMap Item.own
  p := fun M w => ∀ it ∈ l, it.p M w
  keep := fun {M M' w w'} hk hm h it hi => it.keep (hk.mono (fun k _ h => ⟨h.1, fun hn => h.2 (List.mem_flatMap.2 ⟨it, hi, hn⟩)⟩)) hm (h it hi)
theorem SubU.all {l : Items} : SubU af (l ++ σ) af (allI l :: σ) := SubU.repack (by rw [List.flatMap_append, List.flatMap_cons]; exact .refl _) (fun M w h it hi => by
  rcases List.mem_cons.1 hi with rfl | hi
  · exact fun it hi => h it (List.mem_append_left _ hi)
  · exact h it (List.mem_append_right _ hi))
theorem perm_at {α : Type} {l : List α} {i : Nat} (hi : i < l.length) : (l[i] :: l.eraseIdx i).Perm l := by
  rw [List.eraseIdx_eq_take_drop_succ]
  have h : l = l.take i ++ l[i] :: l.drop (i + 1) := by rw [List.getElem_cons_drop hi, List.take_append_drop]
  exact (List.perm_middle.symm).trans (by rw [← h])
/-- One of many is taken out. -/
theorem SubU.take {α : Type} {f : α → Item} {l : List α} {i : Nat} (hi : i < l.length) : SubU af (allI (l.map f) :: σ) af (f l[i] :: allI ((l.eraseIdx i).map f) :: σ) :=
  SubU.repack (((perm_at hi).map f).flatMap_right Item.own |>.append_right (σ.flatMap Item.own) |> fun h => by
    simp only [List.map_cons, List.flatMap_cons, List.append_assoc] at h
    simp only [List.flatMap_cons]
    exact h) (fun M w h it hi' => by
    have hall : ∀ it ∈ l.map f, it.p M w := h _ List.mem_cons_self
    rcases List.mem_cons.1 hi' with rfl | hi'
    · exact hall _ (List.mem_map_of_mem (List.getElem_mem hi))
    · rcases List.mem_cons.1 hi' with rfl | hi'
      · intro it hit
        obtain ⟨x, hx, rfl⟩ := List.mem_map.1 hit
        exact hall _ (List.mem_map_of_mem (List.mem_of_mem_eraseIdx hx))
      · exact h it (List.mem_cons_of_mem _ hi'))
/-- And put back, changed. -/
theorem SubU.put {α : Type} {f : α → Item} {l : List α} {i : Nat} {x : α} (hi : i < l.length) : SubU af (f x :: allI ((l.eraseIdx i).map f) :: σ) af (allI ((l.set i x).map f) :: σ) :=
  SubU.repack (by
    have hi' : i < (l.set i x).length := by rw [List.length_set]; exact hi
    have h := ((perm_at hi').map f).flatMap_right Item.own |>.append_right (σ.flatMap Item.own)
    simp only [List.map_cons, List.flatMap_cons, List.append_assoc, List.getElem_set_self, List.eraseIdx_set_eq] at h
    simp only [List.flatMap_cons]
    exact h.symm) (fun M w h it hi' => by
    rcases List.mem_cons.1 hi' with rfl | hi'
    · intro it hit
      obtain ⟨z, hz, rfl⟩ := List.mem_map.1 hit
      have hz' : z ∈ (l.set i x)[i]'(by rw [List.length_set]; exact hi) :: (l.set i x).eraseIdx i := (perm_at (l := l.set i x) (by rw [List.length_set]; exact hi)).mem_iff.2 hz
      rw [List.getElem_set_self, List.eraseIdx_set_eq] at hz'
      rcases List.mem_cons.1 hz' with rfl | hz'
      · exact h _ List.mem_cons_self
      · exact h _ (List.mem_cons_of_mem _ List.mem_cons_self) _ (List.mem_map_of_mem hz')
    · exact h it (List.mem_cons_of_mem _ (List.mem_cons_of_mem _ hi')))
/-- A new one, that owns nothing. -/
theorem SubU.addNil {α : Type} {f : α → Item} {l : List α} {x : α} (h0 : (f x).own = []) (hx : ∀ M w, (f x).p M w) : SubU af (allI (l.map f) :: σ) af (allI ((l ++ [x]).map f) :: σ) :=
  SubU.repack (by
    have : (allI ((l ++ [x]).map f)).own = (allI (l.map f)).own := by
      show (((l ++ [x]).map f).flatMap Item.own) = _
      rw [List.map_append, List.flatMap_append]
      show _ ++ ((f x).own ++ []) = _
      rw [h0, List.append_nil, List.append_nil]; rfl
    rw [List.flatMap_cons, List.flatMap_cons, this]) (fun M w h it hi' => by
    rcases List.mem_cons.1 hi' with rfl | hi'
    · intro it hit
      rw [List.map_append] at hit
      rcases List.mem_append.1 hit with hit | hit
      · exact h _ List.mem_cons_self it hit
      · rw [List.mem_singleton.1 (by simpa using hit : it ∈ [f x])]; exact hx M w
    · exact h it (List.mem_cons_of_mem _ hi'))
end
end Go.Proofs.Ytkplmgdmkfgjhaa
/- Patterns as trees: pointers that lead to what stays. -/
namespace Go.Proofs.Ytkplmgdmkfgjhaa
open Go.RowKit
mutual
/-- A pointer at a pattern. -/
def ndA : Nd → AV
  | .nil => .exact (.pointer none)
  | .mk op n kids => .ptr [.exact (.int .i64 op), .exact (.int .i64 n), .row 1 (fun a => [a]) (ndAs kids)]
def ndAs : List Nd → List AV
  | [] => []
  | k :: l => ndA k :: ndAs l
end
attribute [irreducible] ndA
end Go.Proofs.Ytkplmgdmkfgjhaa
/- Clipping: the row stays where it is, anywhere in its block. -/
namespace Go.Proofs.Ytkplmgdmkfgjhaa
open Go.RowKit

section
variable {P : Program} {E : Env} {af : AF} {σ ρ : Items} {d : Option Tmp} {ty t : TypeId} {pos : String} {after : Array Edge} {g : Option (Nat × Bool)} {α : Type} {n : Nat} {enc : α → List AV} {xs ys : List α} {v : Value}
end
end Go.Proofs.Ytkplmgdmkfgjhaa
