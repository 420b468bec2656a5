/- Literals of structs, arrays and slices, all parts given. -/
import Derived.Test.YtkplmgdmkfgjhaaAr
namespace Go.Proofs.Ytkplmgdmkfgjhaa
open Go.RowKit

theorem foldl_set {off : Nat} : ∀ (l : List Value) (k : Nat) (cs : Array Value), off + k + l.length ≤ cs.size →
    ((l.zipIdx k).foldl (fun cs p => cs.setIfInBounds (off + p.2) p.1) cs).toList = cs.toList.take (off + k) ++ l ++ cs.toList.drop (off + k + l.length)
  | [], k, cs, _ => by simp
  | v :: l, k, cs, h => by
    simp only [List.length_cons] at h
    rw [List.zipIdx_cons, List.foldl_cons, foldl_set l (k + 1) _ (by simp; omega)]
    have hlt : off + k < cs.toList.length := by simp; omega
    rw [Array.toList_setIfInBounds, List.set_eq_take_append_cons_drop, if_pos hlt]
    have h1 : (cs.toList.take (off + k) ++ v :: cs.toList.drop (off + k + 1)).take (off + (k + 1)) = cs.toList.take (off + k) ++ [v] := by
      rw [List.take_append, List.length_take, Nat.min_eq_left (by omega), show off + (k + 1) - (off + k) = 1 by omega]
      rw [List.take_of_length_le (by simp; omega)]
      rfl
    have h2 : (cs.toList.take (off + k) ++ v :: cs.toList.drop (off + k + 1)).drop (off + (k + 1) + l.length) = cs.toList.drop (off + k + (l.length + 1)) := by
      rw [List.drop_append, List.length_take, Nat.min_eq_left (by omega), show off + (k + 1) + l.length - (off + k) = l.length + 1 by omega, List.drop_of_length_le (by simp; omega), List.drop_succ_cons, List.drop_drop]
      simp only [List.nil_append]
      congr 1; omega
    rw [h1, h2]
    simp only [List.append_assoc, List.cons_append, List.nil_append, List.length_cons]

/-- Parts laid one behind the other. -/
theorem fill_seq (place : Nat → Option (Nat × Nat)) : ∀ (parts : List (Nat × Value)) (pre suf : List Value), (∀ i (p : Nat × Value), parts[i]? = some p → place p.1 = some (pre.length + ((parts.take i).flatMap (fun q => q.2.cells.toList)).length, p.2.cells.size)) →
    (parts.flatMap (fun q => q.2.cells.toList)).length ≤ suf.length →
    Instr.fill place (pre ++ suf).toArray parts = some (pre ++ parts.flatMap (fun q => q.2.cells.toList) ++ suf.drop (parts.flatMap (fun q => q.2.cells.toList)).length).toArray
  | [], pre, suf, _, _ => by simp [Instr.fill]
  | (i, v) :: rest, pre, suf, hp, hl => by
    have h0 := hp 0 (i, v) rfl
    simp only [List.take_zero, List.flatMap_nil, List.length_nil, Nat.add_zero] at h0
    rw [List.flatMap_cons, List.length_append] at hl
    simp only [Array.length_toList] at hl
    have hs : ¬ (v.cells.size ≠ v.cells.size ∨ pre.length + v.cells.size > (pre ++ suf).toArray.size) := by simp; omega
    have hfold : (v.cells.zipIdx.foldl (fun cs (p : Value × Nat) => cs.setIfInBounds (pre.length + p.2) p.1) (pre ++ suf).toArray) = ((pre ++ v.cells.toList) ++ suf.drop v.cells.size).toArray := by
      apply Array.ext'
      rw [← Array.foldl_toList, Array.toList_zipIdx, foldl_set _ 0 _ (by simp; omega)]
      simp
    simp only [Instr.fill, h0]
    rw [if_neg (by simpa using hs)]
    rw [hfold, fill_seq place rest (pre ++ v.cells.toList) (suf.drop v.cells.size) (fun k p hk => by
        have := hp (k + 1) p (by simpa using hk)
        rw [this]
        simp [List.take_succ_cons, Nat.add_assoc]) (by rw [List.length_drop]; omega)]
    simp [List.append_assoc]

section
variable {P : Program} {af : AF} {d : Option Tmp} {ty : TypeId} {pos : String} {after : Array Edge} {g : Option (Nat × Bool)} {K : AF → Prop} {t t' : TypeId} {x y : Operand}

/-- The cells of a value. -/
def CellsOf (a : AV) (c : List AV) : Prop := ∀ M w v, a.p M w v → ∃ vs : List Value, v.cells = vs.toArray ∧ Fit M w c vs
theorem CellsOf.agg {c : List AV} : CellsOf (.agg c) c := fun M w v ⟨vs, h1, h2⟩ => ⟨vs, by rw [h1]; rfl, h2⟩
theorem CellsOf.int {k : IntKind} {n : Int} : CellsOf (.exact (.int k n)) [.exact (.int k n)] := fun M w v h => ⟨[v], by rw [show v = _ from h]; rfl, ⟨h, trivial⟩⟩
theorem CellsOf.bool {b : Bool} : CellsOf (.exact (.bool b)) [.exact (.bool b)] := fun M w v h => ⟨[v], by rw [show v = _ from h]; rfl, ⟨h, trivial⟩⟩
theorem CellsOf.str {b : ByteArray} : CellsOf (.exact (.string b)) [.exact (.string b)] := fun M w v h => ⟨[v], by rw [show v = _ from h]; rfl, ⟨h, trivial⟩⟩
theorem CellsOf.slice {A : Option Addr} {l c : Nat} : CellsOf (.exact (.slice A l c)) [.exact (.slice A l c)] := fun M w v h => ⟨[v], by rw [show v = _ from h]; rfl, ⟨h, trivial⟩⟩
theorem CellsOf.row {α : Type} {n : Nat} {enc : α → List AV} {xs : List α} : CellsOf (.row n enc xs) [.row n enc xs] := fun M w v h => ⟨[v], by obtain ⟨A, c, h1, _⟩ := h; rw [h1]; rfl, ⟨h, trivial⟩⟩

def CellsAll (af : AF) : List (Nat × Operand) → List (List AV) → Prop
  | [], [] => True
  | p :: ps, c :: cs => CellsOf (af.ev p.2) c ∧ CellsAll af ps cs
  | _, _ => False
theorem CellsAll.nil : CellsAll af [] [] := trivial
theorem CellsAll.cons {i : Nat} {x : Operand} {a : AV} {ps : List (Nat × Operand)} {c : List AV} {cs : List (List AV)} (h : af.ev x = a) (hc : CellsOf a c) (hs : CellsAll af ps cs) : CellsAll af ((i, x) :: ps) (c :: cs) := ⟨h ▸ hc, hs⟩

theorem cells_fit {M : BSet} {w : World} {ev : Operand → Value} : ∀ {ps : List (Nat × Operand)} {cs : List (List AV)}, CellsAll af ps cs → (∀ p ∈ ps, (af.ev p.2).p M w (ev p.2)) →
    Fit M w cs.flatten (ps.flatMap fun p => (ev p.2).cells.toList) ∧ ∀ (i : Nat) (p : Nat × Operand) (c : List AV), ps[i]? = some p → cs[i]? = some c → (ev p.2).cells.size = c.length
  | [], [], _, _ => ⟨trivial, fun i p c h => by simp at h⟩
  | p :: ps, c :: cs, h, hv => by
    obtain ⟨vs, h1, h2⟩ := h.1 M w _ (hv p (by simp))
    obtain ⟨h3, h4⟩ := cells_fit h.2 (fun q hq => hv q (by simp [hq]))
    refine ⟨?_, fun i q c' hi hc => ?_⟩
    · rw [List.flatten_cons, List.flatMap_cons, h1]
      exact h2.app h3
    · cases i with
      | zero => simp at hi hc; subst hi hc; rw [h1]; simp [h2.length]
      | succ i => exact h4 i q c' (by simpa using hi) (by simpa using hc)

/-- A slice's literal whose elements are all given, in order. -/
def litB (P : Program) (t : TypeId) (n len : Nat) (ks : List Nat) : Bool :=
  (match P.underlying t with
   | some (.slice e) => sizeB P e n && (match (P.info? e).bind (·.zero) with | some z => z.cells.size == n | none => false)
   | _ => false) && decide (0 < n) && ks == List.range len && decide (0 < len) && decide (len * n ≤ 16777216)

theorem flatMap_len {ps : List (Nat × Value)} {n : Nat} (h : ∀ p ∈ ps, p.2.cells.size = n) : (ps.flatMap (fun q => q.2.cells.toList)).length = ps.length * n := by
  induction ps with
  | nil => simp
  | cons p ps ih =>
    rw [List.flatMap_cons, List.length_append, ih (fun q hq => h q (by simp [hq])), Array.length_toList, h p (by simp), List.length_cons, Nat.add_mul, Nat.one_mul, Nat.add_comm]

theorem lit_run {n len : Nat} {ps : List (Nat × Operand)} {cs : List (List AV)} (hc : CellsAll af ps cs) (hB3 : cs.map (·.length) = List.replicate len n) (hB : litB P t n len (ps.map (·.1)) = true) {M : BSet} {w : World} {ev : Operand → Value}
    (h : ∀ x ∈ (⟨d, .buildSlice t len ps.toArray, ty, pos, after, g⟩ : Oper).op.operands, (af.ev x).p M w (ev x)) : ∃ (e : TypeId) (vs : List Value), P.underlying t = some (.slice e) ∧ 0 < n ∧ 0 < len ∧ len * n ≤ 16777216 ∧ cs.length = len ∧ (∀ c ∈ cs, c.length = n) ∧ Fit M w cs.flatten vs ∧
      (execOp ev ⟨d, .buildSlice t len ps.toArray, ty, pos, after, g⟩).run P w = .ok (.value (.slice (some ⟨w.heap.size, 0, none⟩) len len)) (w.alloc (.cells vs.toArray e)) := by
  simp only [litB, Bool.and_eq_true, beq_iff_eq, decide_eq_true_eq] at hB
  obtain ⟨⟨⟨⟨hB1, hn0⟩, hB2⟩, hl0⟩, hbig⟩ := hB
  have hB1' : ∃ e z, P.underlying t = some (.slice e) ∧ (P.info? e).map (·.size) = some n ∧ (P.info? e).bind (·.zero) = some z ∧ z.cells.size = n := by
    split at hB1
    · rename_i e he
      simp only [Bool.and_eq_true] at hB1
      obtain ⟨h1, h2⟩ := hB1
      split at h2
      · rename_i z hz; exact ⟨e, z, he, sizeB_spec h1, hz, by simpa using h2⟩
      · cases h2
    · cases hB1
  obtain ⟨e, z, hu, hs, hz, hzs⟩ := hB1'
  obtain ⟨I, hI⟩ : ∃ I, P.info? e = some I := by cases hI : P.info? e with | none => simp [hI] at hs | some I => exact ⟨I, rfl⟩
  have hIz : I.zero = some z := by simpa [hI] using hz
  obtain ⟨hf, hcz⟩ := cells_fit (M := M) (w := w) (ev := ev) hc (fun p hp => h p.2 (by simp [Op.operands]; exact ⟨p.1, hp⟩))
  have hpl : ps.length = len := by have := congrArg List.length hB2; simpa using this
  have hcl : cs.length = len := by have := congrArg List.length hB3; simpa using this
  have hce : ∀ c ∈ cs, c.length = n := fun c hc => by
    have : c.length ∈ cs.map (·.length) := List.mem_map_of_mem hc
    rw [hB3] at this
    exact (List.mem_replicate.1 this).2
  have hpi : ∀ (i : Nat) (p : Nat × Operand), ps[i]? = some p → p.1 = i := fun i p hp => by
    have h1 : (ps.map (·.1))[i]? = some p.1 := by simp [hp]
    rw [hB2, List.getElem?_range (by have := (List.getElem?_eq_some_iff.1 hp).1; omega)] at h1
    injection h1 with h1; exact h1.symm
  have hpz : ∀ (i : Nat) (p : Nat × Operand), ps[i]? = some p → (ev p.2).cells.size = n := fun i p hp => by
    have hlt : i < cs.length := by have := (List.getElem?_eq_some_iff.1 hp).1; omega
    have hci : cs[i]? = some cs[i] := List.getElem?_eq_getElem hlt
    rw [hcz i p _ hp hci]
    exact hce _ (List.getElem_mem hlt)
  let qs : List (Nat × Value) := ps.map fun p => (p.1, ev p.2)
  have hqz : ∀ q ∈ qs, q.2.cells.size = n := fun q hq => by
    obtain ⟨p, hp, rfl⟩ := List.mem_map.1 hq
    obtain ⟨i, hi⟩ := List.mem_iff_getElem?.1 hp
    exact hpz i p hi
  have hql : (qs.flatMap (fun q => q.2.cells.toList)).length = len * n := by rw [flatMap_len hqz]; simp [qs, hpl]
  have hflat : qs.flatMap (fun q => q.2.cells.toList) = ps.flatMap fun p => (ev p.2).cells.toList := by simp [qs, List.flatMap_map]
  let Z : Array Value := (Array.range (len * n)).map (z.cells[· % z.cells.size]!)
  have hZ : Z.toList.length = len * n := by simp [Z]
  have hfill : Instr.fill (fun i => some (i * n, n)) Z qs = some (ps.flatMap fun p => (ev p.2).cells.toList).toArray := by
    have := fill_seq (fun i => some (i * n, n)) qs [] Z.toList (fun i q hq => by
      have hq' : ∃ p, ps[i]? = some p ∧ q = (p.1, ev p.2) := by
        simp only [qs, List.getElem?_map, Option.map_eq_some_iff] at hq
        obtain ⟨p, h1, h2⟩ := hq
        exact ⟨p, h1, h2.symm⟩
      obtain ⟨p, hp, rfl⟩ := hq'
      have ht : ((qs.take i).flatMap (fun q => q.2.cells.toList)).length = i * n := by
        rw [flatMap_len (fun q hq => hqz q (List.mem_of_mem_take hq))]
        simp only [qs, List.length_take, List.length_map]
        rw [Nat.min_eq_left (by have := (List.getElem?_eq_some_iff.1 hp).1; omega)]
      simp only [ht, List.length_nil, Nat.zero_add, hpi i p hp, hpz i p hp]) (by rw [hql, hZ]; exact Nat.le_refl _)
    rw [List.nil_append, Array.toArray_toList] at this
    rw [this, hql, List.drop_of_length_le (by omega), hflat]
    simp
  have hrun : (execOp ev ⟨d, .buildSlice t len ps.toArray, ty, pos, after, g⟩).run P w = .ok (.value (.slice (some ⟨w.heap.size, 0, none⟩) len len)) (w.alloc (.cells (ps.flatMap fun p => (ev p.2).cells.toList).toArray e)) := by
    have hzv : (zeroValue e).run P w = .ok z w := by
      have hti : (typeInfo e).run P w = .ok I w := by
        show (Sem.program _).run P w = _
        simp only [Sem.run, Sem.bind, hI]
        rfl
      unfold zeroValue
      simp only [Sem.run_bind, hti, Result.andThen_ok, hIz]
      rfl
    have hne : ¬ len * n = 0 := by intro h0; rcases Nat.mul_eq_zero.1 h0 with h | h <;> omega
    unfold execOp
    simp only [Instr.buildSlice, Sem.run_bind, run_under hu, Result.andThen_ok, run_size hs, if_neg (show ¬ len * n > 2 ^ 24 by omega), if_neg hne, hzv, Sem.run_pure, List.map_toArray]
    simp only [qs, Z] at hfill
    simp only [hfill]
    simp [newRow, go_sem]
  exact ⟨e, _, hu, hn0, hl0, hbig, hcl, hce, hf, hrun⟩

theorem quiet_lit {n len : Nat} {ps : List (Nat × Operand)} {cs : List (List AV)} (hc : CellsAll af ps cs) (hB3 : cs.map (·.length) = List.replicate len n) (hB : litB P t n len (ps.map (·.1)) = true) :
    Quiet P ⟨d, .buildSlice t len ps.toArray, ty, pos, after, g⟩ af (.row n id cs) := by
  intro M w ev hM h
  obtain ⟨e, vs, hu, hn0, hl0, hbig, hcl, hce, hf, hrun⟩ := lit_run (d := d) (ty := ty) (pos := pos) (after := after) (g := g) hc hB3 hB h
  rw [hrun]
  have hk0 : Keeps noB w (w.alloc (.cells vs.toArray e)) := ⟨rfl, rfl, rfl, Nat.le_refl _, by simp, fun k hlt _ => heap_alloc_old w _ hlt⟩
  refine ⟨hk0, some ⟨w.heap.size, 0, none⟩, len, by rw [hcl], by omega, ?_, fun _ => ⟨w.heap.size, 0, rfl, by simp, fun hm => Nat.lt_irrefl _ (hM _ hm), fun i c hi => ⟨hce c (List.mem_of_getElem? hi), ?_⟩⟩⟩
  · have : len ≤ len * n := Nat.le_mul_of_pos_right _ hn0
    omega
  · have hcells := cells_of_fit (b := w.heap.size) (off := 0) (hf.keep (M' := M) (hk0.mono (M' := M) (fun _ _ h => h.elim)) (fun _ _ h => h)) (fun j u hu => by
      rw [Nat.zero_add, cell_of_row _ w.heap.size j _ e (0, 0) (heap_alloc_new w _)]
      simpa using hu)
    refine hcells.sub (fun j a hj => ?_)
    have := flat_get (enc := id) (n := n) (xs := cs) hce hi j a hj
    rwa [List.flatMap_id] at this
theorem op_lit {n len : Nat} {ps : List (Nat × Operand)} {cs : List (List AV)} (hc : CellsAll af ps cs) (hB3 : cs.map (·.length) = List.replicate len n) (hB : litB P t n len (ps.map (·.1)) = true) (hk : K (af.put d (.row n id cs))) :
    opA P ⟨d, .buildSlice t len ps.toArray, ty, pos, after, g⟩ af K := ⟨_, quiet_lit hc hB3 hB, hk⟩

/-- An array's literal whose elements are all given, in order. -/
def arrB (P : Program) (t : TypeId) (n len : Nat) (ks : List Nat) : Bool :=
  (match P.underlying t with
   | some (.array m e) => m == len && sizeB P e n && (match (P.info? t).bind (·.zero) with | some z => z.cells.size == len * n | none => false)
   | _ => false) && ks == List.range len

theorem run_zero {t : TypeId} {z : Value} {w : World} (h : (P.info? t).bind (·.zero) = some z) : (zeroValue t).run P w = .ok z w := by
  obtain ⟨I, hI⟩ : ∃ I, P.info? t = some I := by cases hI : P.info? t with | none => simp [hI] at h | some I => exact ⟨I, rfl⟩
  have hIz : I.zero = some z := by simpa [hI] using h
  have hti : (typeInfo t).run P w = .ok I w := by
    show (Sem.program _).run P w = _
    simp only [Sem.run, Sem.bind, hI]
    rfl
  unfold zeroValue
  simp only [Sem.run_bind, hti, Result.andThen_ok, hIz]
  rfl

theorem op_arr {n len : Nat} {ps : List (Nat × Operand)} {cs : List (List AV)} {l : List AV} (hc : CellsAll af ps cs) (hB3 : cs.map (·.length) = List.replicate len n) (hB : arrB P t n len (ps.map (·.1)) = true) (hfl : cs.flatten = l) (hk : K (af.put d (.agg l))) :
    opA P ⟨d, .build t ps.toArray, ty, pos, after, g⟩ af K := by
  refine ⟨_, fun M w ev hM h => ?_, hk⟩
  simp only [arrB, Bool.and_eq_true, beq_iff_eq] at hB
  obtain ⟨hB1, hB2⟩ := hB
  have hB1' : ∃ e z, P.underlying t = some (.array len e) ∧ (P.info? e).map (·.size) = some n ∧ (P.info? t).bind (·.zero) = some z ∧ z.cells.size = len * n := by
    split at hB1
    · rename_i m e he
      simp only [Bool.and_eq_true, beq_iff_eq] at hB1
      obtain ⟨⟨h0, h1⟩, h2⟩ := hB1
      split at h2
      · rename_i z hz; exact ⟨e, z, by rw [he, h0], sizeB_spec h1, hz, by simpa using h2⟩
      · cases h2
    · cases hB1
  obtain ⟨e, z, hu, hs, hz, hzs⟩ := hB1'
  obtain ⟨hf, hcz⟩ := cells_fit (M := M) (w := w) (ev := ev) hc (fun p hp => h p.2 (by simp [Op.operands]; exact ⟨p.1, hp⟩))
  have hpl : ps.length = len := by have := congrArg List.length hB2; simpa using this
  have hcl : cs.length = len := by have := congrArg List.length hB3; simpa using this
  have hce : ∀ c ∈ cs, c.length = n := fun c hc => by
    have : c.length ∈ cs.map (·.length) := List.mem_map_of_mem hc
    rw [hB3] at this
    exact (List.mem_replicate.1 this).2
  have hpi : ∀ (i : Nat) (p : Nat × Operand), ps[i]? = some p → p.1 = i := fun i p hp => by
    have h1 : (ps.map (·.1))[i]? = some p.1 := by simp [hp]
    rw [hB2, List.getElem?_range (by have := (List.getElem?_eq_some_iff.1 hp).1; omega)] at h1
    injection h1 with h1; exact h1.symm
  have hpz : ∀ (i : Nat) (p : Nat × Operand), ps[i]? = some p → (ev p.2).cells.size = n := fun i p hp => by
    have hlt : i < cs.length := by have := (List.getElem?_eq_some_iff.1 hp).1; omega
    have hci : cs[i]? = some cs[i] := List.getElem?_eq_getElem hlt
    rw [hcz i p _ hp hci]
    exact hce _ (List.getElem_mem hlt)
  let qs : List (Nat × Value) := ps.map fun p => (p.1, ev p.2)
  have hqz : ∀ q ∈ qs, q.2.cells.size = n := fun q hq => by
    obtain ⟨p, hp, rfl⟩ := List.mem_map.1 hq
    obtain ⟨i, hi⟩ := List.mem_iff_getElem?.1 hp
    exact hpz i p hi
  have hql : (qs.flatMap (fun q => q.2.cells.toList)).length = len * n := by rw [flatMap_len hqz]; simp [qs, hpl]
  have hflat : qs.flatMap (fun q => q.2.cells.toList) = ps.flatMap fun p => (ev p.2).cells.toList := by simp [qs, List.flatMap_map]
  have hfill : Instr.fill (fun i => some (i * n, n)) z.cells qs = some (ps.flatMap fun p => (ev p.2).cells.toList).toArray := by
    have := fill_seq (fun i => some (i * n, n)) qs [] z.cells.toList (fun i q hq => by
      have hq' : ∃ p, ps[i]? = some p ∧ q = (p.1, ev p.2) := by
        simp only [qs, List.getElem?_map, Option.map_eq_some_iff] at hq
        obtain ⟨p, h1, h2⟩ := hq
        exact ⟨p, h1, h2.symm⟩
      obtain ⟨p, hp, rfl⟩ := hq'
      have ht : ((qs.take i).flatMap (fun q => q.2.cells.toList)).length = i * n := by
        rw [flatMap_len (fun q hq => hqz q (List.mem_of_mem_take hq))]
        simp only [qs, List.length_take, List.length_map]
        rw [Nat.min_eq_left (by have := (List.getElem?_eq_some_iff.1 hp).1; omega)]
      simp only [ht, List.length_nil, Nat.zero_add, hpi i p hp, hpz i p hp]) (by rw [hql, Array.length_toList, hzs]; exact Nat.le_refl _)
    rw [List.nil_append, Array.toArray_toList] at this
    rw [this, hql, List.drop_of_length_le (by rw [Array.length_toList, hzs]; exact Nat.le_refl _), hflat]
    simp
  have hrun : (execOp ev ⟨d, .build t ps.toArray, ty, pos, after, g⟩).run P w = .ok (.value (.agg (ps.flatMap fun p => (ev p.2).cells.toList).toArray)) w := by
    unfold execOp
    simp only [Instr.build, Sem.run_bind, run_under hu, Result.andThen_ok, run_size hs, run_zero hz, List.map_toArray]
    simp only [qs] at hfill
    simp only [hfill]
    simp [go_sem]
  rw [hrun]
  exact ⟨Keeps.refl _ _, _, rfl, hfl ▸ hf⟩
end
end Go.Proofs.Ytkplmgdmkfgjhaa
