/- Struct literals, fields, reslices, new rows; the equality of aggregates. -/
import Derived.Test.YtkplmgdmkfgjhaaCd
import Derived.Laws.Tables
import Derived.Laws.StructEq
namespace Go.Proofs.Ytkplmgdmkfgjhaa
open Go.RowKit

section
variable {P : Program} {E : Env} {N : Nat} {af : AF} {σ ρ : Items} {w : World}
variable {d : Option Tmp} {ty : TypeId} {pos : String} {after : Array Edge} {g : Option (Nat × Bool)} {t t' e : TypeId} {x y z : Operand} {K : AF → Prop}

/-! ### Struct literals -/
def fillA (place : Nat → Option (Nat × Nat)) : List AV → List (Nat × List AV) → Option (List AV)
  | c, [] => some c
  | c, (i, u) :: rest => match place i with
    | none => none
    | some (off, size) => if u.length != size || decide (off + u.length > c.length) then none else fillA place (splc c off u) rest
def builtA (P : Program) (t : TypeId) (parts : List (Nat × List AV)) : Option (List AV) :=
  match P.info? t, P.underlying t with
  | some it, some (.array _ e) =>
    match it.zero, P.info? e with
    | some z, some ie => fillA (fun i => some (i * ie.size, ie.size)) (z.cells.toList.map .exact) parts
    | _, _ => none
  | some it, some (.struct fields) =>
    match it.zero, fields.toList.mapM (fun f => (P.info? f.type).map fun i => (f.offset, i.size)) with
    | some z, some places => fillA (places.toArray[·]?) (z.cells.toList.map .exact) parts
    | _, _ => none
  | _, _ => none
theorem fill_fit {M : BSet} (place : Nat → Option (Nat × Nat)) : ∀ {ps : List (Nat × List AV)} {qs : List (Nat × Value)} {c c' : List AV} {vs : List Value}, Fit M w c vs → ps.length = qs.length →
    (∀ (k : Nat) (p : Nat × List AV) (q : Nat × Value), ps[k]? = some p → qs[k]? = some q → p.1 = q.1 ∧ ∃ us : List Value, q.2.cells = us.toArray ∧ Fit M w p.2 us) → fillA place c ps = some c' →
    ∃ us : List Value, Instr.fill place vs.toArray qs = some us.toArray ∧ Fit M w c' us
  | [], [], c, c', vs, hf, _, _, h => by simp [fillA] at h; subst h; exact ⟨vs, rfl, hf⟩
  | (i, u) :: ps, (j, v) :: qs, c, c', vs, hf, hl, hp, h => by
    obtain ⟨h1, us, h2, h3⟩ := hp 0 _ _ rfl rfl
    dsimp only at h1 h2 h3
    subst h1
    unfold fillA at h
    unfold Instr.fill
    cases hpl : place i with
    | none => simp [hpl] at h
    | some os =>
      obtain ⟨off, size⟩ := os
      simp only [hpl] at h ⊢
      split at h
      · cases h
      · rename_i hc
        simp only [Bool.or_eq_true, bne_iff_ne, ne_eq, decide_eq_true_eq, not_or, Classical.not_not, Nat.not_lt] at hc
        have hul := h3.length
        have hcl := hf.length
        have hvs : v.cells.size = us.length := by rw [h2]; simp
        rw [if_neg (by simp [hvs]; omega)]
        have hfold : (v.cells.zipIdx.foldl (fun cs (p : Value × Nat) => cs.setIfInBounds (off + p.2) p.1) vs.toArray) = (splc vs off us).toArray := by
          apply Array.ext'
          rw [← Array.foldl_toList, Array.toList_zipIdx, h2, foldl_set us 0 vs.toArray (by simp; omega)]
          simp [splc]
        rw [hfold]
        exact fill_fit place (Fit.spl off hf h3) (by simpa using hl) (fun k p q hk hq => hp (k + 1) p q (by simpa using hk) (by simpa using hq)) h
theorem cells_get {M : BSet} {ev : Operand → Value} : ∀ {ps : List (Nat × Operand)} {cs : List (List AV)}, CellsAll af ps cs → (∀ p ∈ ps, (af.ev p.2).p M w (ev p.2)) →
    cs.length = ps.length ∧ ∀ (k : Nat) (p : Nat × Operand) (c : List AV), ps[k]? = some p → cs[k]? = some c → ∃ us : List Value, (ev p.2).cells = us.toArray ∧ Fit M w c us
  | [], [], _, _ => ⟨rfl, fun k p c h => by simp at h⟩
  | p :: ps, c :: cs, h, hv => by
    obtain ⟨h1, h2⟩ := cells_get h.2 (fun q hq => hv q (by simp [hq]))
    refine ⟨by simp [h1], fun k q c' hk hc => ?_⟩
    cases k with
    | zero => simp at hk hc; subst hk hc; exact h.1 M w _ (hv p (by simp))
    | succ k => exact h2 k q c' (by simpa using hk) (by simpa using hc)
theorem op_bld {ps : List (Nat × Operand)} {cs : List (List AV)} {c0 c' : List AV} (hc : CellsAll af ps cs) (hB : builtA P t ((ps.map (·.1)).zip cs) = some c0) (hle : LEs c0 c') (hk : K (af.put d (.agg c'))) : opA P ⟨d, .build t ps.toArray, ty, pos, after, g⟩ af K := by
  refine ⟨_, fun M w ev hM h => ?_, hk⟩
  have hv : ∀ p ∈ ps, (af.ev p.2).p M w (ev p.2) := fun p hp => h p.2 (by simp [Op.operands]; exact ⟨p.1, hp⟩)
  obtain ⟨hl, hg⟩ := cells_get hc hv
  have key : ∀ (place : Nat → Option (Nat × Nat)) (z : Value), fillA place (z.cells.toList.map .exact) ((ps.map (·.1)).zip cs) = some c0 → ∃ us : List Value, Instr.fill place z.cells (ps.map fun p => (p.1, ev p.2)) = some us.toArray ∧ Fit M w c0 us := by
    intro place z hf
    have := fill_fit (M := M) (w := w) place (qs := ps.map fun p => (p.1, ev p.2)) (vs := z.cells.toList) (fit_exact _) (by simp [hl]) (fun k p q hkp hkq => by
      rw [List.getElem?_map, Option.map_eq_some_iff] at hkq
      obtain ⟨o, ho, rfl⟩ := hkq
      rw [List.getElem?_zip_eq_some] at hkp
      obtain ⟨g1, g2⟩ := hkp
      rw [List.getElem?_map, ho] at g1
      obtain ⟨p1, p2⟩ := p
      injection g1 with g1
      exact ⟨g1.symm, hg k o _ ho g2⟩) hf
    simpa using this
  have hb : ∃ us : List Value, P.built t (ps.map fun p => (p.1, ev p.2)) = some us.toArray ∧ Fit M w c0 us := by
    unfold builtA at hB
    unfold Program.built
    cases hit : P.info? t with
    | none => simp [hit] at hB
    | some it =>
      cases hu : P.underlying t with
      | none => simp [hit, hu] at hB
      | some D =>
        cases hz : it.zero with
        | none => cases D <;> simp [hit, hu, hz] at hB
        | some z =>
          cases D <;> try (simp [hit, hu] at hB; done)
          case array n e =>
            cases hie : P.info? e with
            | none => simp [hit, hu, hz, hie] at hB
            | some ie =>
              simp only [hit, hu, hz, hie] at hB ⊢
              exact key _ z hB
          case struct fields =>
            cases hp : fields.toList.mapM (fun f => (P.info? f.type).map fun i => (f.offset, i.size)) with
            | none => simp [hit, hu, hz, hp] at hB
            | some places =>
              simp only [hit, hu, hz, hp] at hB ⊢
              exact key _ z hB
  obtain ⟨us, h1, h2⟩ := hb
  have hr : (execOp ev ⟨d, .build t ps.toArray, ty, pos, after, g⟩).run P w = .ok (.value (.agg us.toArray)) w := by
    have hbb := run_build (P := P) w t (ps.toArray.map fun x => (x.1, ev x.2)) us.toArray (by simpa using h1)
    unfold execOp
    simp only [Sem.run_bind, hbb, Result.andThen_ok, Sem.run_pure]
  rw [hr]
  exact ⟨Keeps.refl _ _, us, rfl, LE_fit hle h2⟩

/-! ### Fields of values -/
def fld1B (P : Program) (t : TypeId) (f o : Nat) : Bool := match P.underlying t with
  | some (.struct fs) => match fs[f]? with
    | some fd => fd.offset == o && loadB P fd.type false 1
    | none => false
  | _ => false
theorem op_field1' {f o : Nat} {l : List AV} {av : AV} (hB : fld1B P t f o = true) (hx : af.ev x = .agg l) (hl : l[o]? = some av) (hk : K (af.put d av)) : opA P ⟨d, .field t x f, ty, pos, after, g⟩ af K := by
  unfold fld1B at hB
  split at hB
  · rename_i fs hu
    split at hB
    · rename_i fd hf
      simp only [Bool.and_eq_true, beq_iff_eq] at hB
      exact op_field1 hu hf hB.2 hx (by rw [hB.1]; exact hl) hk
    · cases hB
  · cases hB
def fldNB (P : Program) (t : TypeId) (f o m : Nat) : Bool := match P.underlying t with
  | some (.struct fs) => match fs[f]? with
    | some fd => fd.offset == o && loadB P fd.type true m
    | none => false
  | _ => false
theorem op_fieldN' {f o m : Nat} {l c' : List AV} (hB : fldNB P t f o m = true) (hx : af.ev x = .agg l) (hl : (l.drop o).take m = c') (hk : K (af.put d (.agg c'))) : opA P ⟨d, .field t x f, ty, pos, after, g⟩ af K := by
  unfold fldNB at hB
  split at hB
  · rename_i fs hu
    split at hB
    · rename_i fd hf
      simp only [Bool.and_eq_true, beq_iff_eq] at hB
      exact op_fieldN hu hf (loadB_spec hB.2).2 hB.2 hx (by rw [hB.1]; exact hl) hk
    · cases hB
  · cases hB
theorem op_nilCheck_eptr {v : Value} {o : Nat} (hx : af.ev x = .eptr v o) (hk : K (af.put d (.eptr v o))) : opA P ⟨d, .nilCheck x, ty, pos, after, g⟩ af K := by
  refine ⟨_, fun M w ev _ h => ?_, hk⟩
  have h0 := opnd_p h (x := x) (by simp [Op.operands]) hx
  have ⟨b, l, c, hv, e1⟩ := h0
  simp [execOp, e1, go_sem, UponQ]
  rw [e1] at h0
  exact ⟨Keeps.refl _ _, h0⟩

/-! ### Reslices -/
section
variable {α : Type} {n : Nat} {enc : α → List AV} {xs : List α} {lo hi : Option Operand} {m : Operand} {i j q : Int} {k k1 k2 : IntKind}
theorem op_slice_row3 {hi : Operand} (hB : sliceB P t n = true) (hx : af.ev x = .row n enc xs) (hlo : bnd af lo 0 i) (hhi : af.ev hi = .exact (.int k1 j)) (hm : af.ev m = .exact (.int k2 q)) (h0 : 0 ≤ i) (h1 : i ≤ j) (h2 : j ≤ q) (h3 : q ≤ xs.length)
    (hk : K (af.put d (.row n enc ((xs.drop i.toNat).take (j.toNat - i.toNat))))) : opA P ⟨d, .slice t x lo (some hi) (some m), ty, pos, after, g⟩ af K := by
  refine ⟨_, fun M w ev _ h => ?_, hk⟩
  obtain ⟨A, c, e1, hc1, hc2, e4⟩ := opnd_p h (x := x) (by cases lo <;> simp [Op.operands]) hx
  obtain ⟨e, hu, hs⟩ := sliceB_spec hB
  obtain ⟨a, rfl⟩ := Int.eq_ofNat_of_zero_le h0
  obtain ⟨b, rfl⟩ := Int.eq_ofNat_of_zero_le (Int.le_trans h0 h1)
  obtain ⟨p, rfl⟩ := Int.eq_ofNat_of_zero_le (Int.le_trans (Int.le_trans h0 h1) h2)
  simp only [Int.toNat_natCast]
  have h1' : a ≤ b := by omega
  have h2' : b ≤ p := by omega
  have hlen : ((xs.drop a).take (b - a)).length = b - a := by simp; omega
  have em := opnd h (x := m) (by cases lo <;> simp [Op.operands]) hm
  have eh := opnd h (x := hi) (by cases lo <;> simp [Op.operands]) hhi
  have hrun : (execOp ev ⟨d, .slice t x lo (some hi) (some m), ty, pos, after, g⟩).run P w = .ok (.value (.slice (if p = a then A else A.map (·.add (a * n))) (b - a) (p - a))) w := by
    have hpc : p ≤ c := by omega
    have hb : (Instr.sliceBounds true xs.length c (lo.map ev) (some (ev hi)) (some (ev m))).run P w = .ok (a, b, p) w := by
      unfold Instr.sliceBounds
      cases lo with
      | none =>
        have : (a : Int) = 0 := hlo
        obtain rfl : a = 0 := by omega
        simp [Instr.sliceBound, asIntOf, em, eh, hpc, h2', go_sem]
      | some o =>
        obtain ⟨k0, hk0⟩ := hlo
        have e2 := opnd h (x := o) (by simp [Op.operands]) hk0
        simp [Instr.sliceBound, asIntOf, em, eh, e2, hpc, h2', h1', go_sem]
    unfold execOp
    simp only [Instr.sliceAt, Instr.slice, e1, Sem.run_bind, run_under hu, Result.andThen_ok, Option.map_some, hb, run_size hs, Sem.run_pure]
  rw [hrun]
  show Keeps noB w w ∧ _
  refine ⟨Keeps.refl _ _, (if p = a then A else A.map (·.add (a * n))), p - a, ?_, ?_, ?_, fun hne => ?_⟩
  · rw [hlen]
  · rw [hlen]; omega
  · omega
  · have hxs : xs ≠ [] := by rintro rfl; simp at hne
    obtain ⟨bb, off, rfl, hb, hnM, hcell⟩ := e4 hxs
    have hij : a < b := by
      rcases Nat.lt_or_ge a b with h | h
      · exact h
      · exact absurd (List.eq_nil_of_length_eq_zero (by rw [hlen]; omega)) hne
    rw [if_neg (by omega)]
    refine ⟨bb, off + a * n, by simp [addr_add'], hb, hnM, fun q x hq => ?_⟩
    have hq' : xs[a + q]? = some x := by
      rw [List.getElem?_take] at hq
      split at hq
      · rwa [List.getElem?_drop] at hq
      · cases hq
    obtain ⟨g1, g2⟩ := hcell _ _ hq'
    refine ⟨g1, ?_⟩
    have e : off + (a + q) * n = off + a * n + q * n := by rw [Nat.add_mul]; omega
    rwa [e] at g2
theorem op_slice_str {s : List UInt8} (hB : isStrB P t = true) (hx : af.ev x = .exact (.string (bs s))) (hlo : bnd af lo 0 i) (hhi : bnd af hi s.length j) (h0 : 0 ≤ i) (h1 : i ≤ j) (h2 : j ≤ s.length)
    (hk : K (af.put d (.exact (.string (bs ((s.drop i.toNat).take (j.toNat - i.toNat))))))) : opA P ⟨d, .slice t x lo hi none, ty, pos, after, g⟩ af K := by
  refine ⟨_, fun M w ev _ h => ?_, hk⟩
  have e1 := opnd h (x := x) (by cases lo <;> cases hi <;> simp [Op.operands]) hx
  have hu := isStrB_spec hB
  obtain ⟨a, rfl⟩ := Int.eq_ofNat_of_zero_le h0
  obtain ⟨b, rfl⟩ := Int.eq_ofNat_of_zero_le (Int.le_trans h0 h1)
  simp only [Int.toNat_natCast]
  have h1' : a ≤ b := by omega
  have h2' : b ≤ s.length := by omega
  have hrun : (execOp ev ⟨d, .slice t x lo hi none, ty, pos, after, g⟩).run P w = .ok (.value (.string (bs ((s.drop a).take (b - a))))) w := by
    have hh : (match hi.map ev with | some v => Instr.sliceBound v s.length .sliceAlen | none => pure s.length : Sem Nat).run P w = .ok b w := by
      cases hi with
      | none => have : (b : Int) = s.length := hhi; obtain rfl : b = s.length := by omega
                simp [go_sem]
      | some o =>
        obtain ⟨k, hk⟩ := hhi
        have e2 := opnd h (x := o) (by cases lo <;> simp [Op.operands]) hk
        simp [Instr.sliceBound, asIntOf, e2, h2', go_sem]
    have hl : (match lo.map ev with | some v => Instr.sliceBound v b .sliceB | none => pure 0 : Sem Nat).run P w = .ok a w := by
      cases lo with
      | none => have : (a : Int) = 0 := hlo; obtain rfl : a = 0 := by omega
                simp [go_sem]
      | some o =>
        obtain ⟨k, hk⟩ := hlo
        have e2 := opnd h (x := o) (by simp [Op.operands]) hk
        simp [Instr.sliceBound, asIntOf, e2, h1', go_sem]
    have hb : (Instr.sliceBounds false s.length s.length (lo.map ev) (hi.map ev) none).run P w = .ok (a, b, s.length) w := by
      unfold Instr.sliceBounds
      simp only [Sem.run_bind, Sem.run_pure, Result.andThen_ok]
      cases hi with
      | none =>
        cases lo with
        | none => simp [go_sem] at hh hl ⊢; exact ⟨hl, hh⟩
        | some o => simp [go_sem] at hh hl ⊢; simp [hh, hl]
      | some o' =>
        cases lo with
        | none => simp [go_sem] at hh hl ⊢; simp [hh, hl]
        | some o => simp [go_sem] at hh hl ⊢; simp [hh, hl]
    have e3 : (bs s).extract a b = bs ((s.drop a).take (b - a)) := by
      apply ByteArray.ext
      rw [ByteArray.data_extract]
      simp [List.extract_eq_take_drop]
    unfold execOp
    simp only [Instr.sliceAt, Instr.slice, e1, Sem.run_bind, run_under hu, Result.andThen_ok, Option.map_none, Option.isSome_none, Bool.false_eq_true, if_false, Sem.run_pure, bs_size, hb, e3]
  rw [hrun]
  exact ⟨Keeps.refl _ _, rfl⟩
end

end
end Go.Proofs.Ytkplmgdmkfgjhaa
