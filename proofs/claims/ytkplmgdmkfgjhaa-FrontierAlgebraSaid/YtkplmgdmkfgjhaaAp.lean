/- Rows in use: append, freezing; calls that change what is in use. -/
import Derived.Test.YtkplmgdmkfgjhaaAo
import Derived.Maps.AppendAt
namespace Go.Proofs.Ytkplmgdmkfgjhaa
open Go.RowKit

section
variable {P : Program} {ops : Array Oper} {E : Env} {N : Nat} {af : AF} {σ : Items}

def elemOfT (P : Program) (t : TypeId) : TypeId := match P.underlying t with | some (.slice e) => e | _ => 0
def elB (P : Program) (t : TypeId) (n : Nat) : Bool :=
  match P.underlying t with
  | some (.slice e) => match P.info? e with
    | some i => match i.zero with
      | some z => i.size == n && decide (0 < n) && decide (i.bytes ≤ 1024) && z.cells.size == n
      | none => false
    | none => false
  | _ => false
theorem elB_spec {t : TypeId} {n : Nat} (h : elB P t n = true) : P.underlying t = some (.slice (elemOfT P t)) ∧ 0 < n ∧ ∃ i z, P.info? (elemOfT P t) = some i ∧ i.zero = some z ∧ i.size = n ∧ i.bytes ≤ 1024 ∧ z.cells.size = n := by
  unfold elB at h
  split at h
  · rename_i e he
    have e1 : elemOfT P t = e := by unfold elemOfT; rw [he]
    split at h
    · rename_i i hi
      split at h
      · rename_i z hz
        simp only [Bool.and_eq_true, beq_iff_eq, decide_eq_true_eq] at h
        obtain ⟨⟨⟨h1, h2⟩, h3⟩, h4⟩ := h
        exact ⟨by rw [e1]; exact he, h2, i, z, by rw [e1]; exact hi, hz, h1, h3, h4⟩
      · cases h
    · cases h
  · cases h

/-- A slice of type t, value v, that the call owns: m elements of n cells, the cells c. -/
def vecI (P : Program) (t : TypeId) (v : Value) (n m : Nat) (c : List AV) : Item where
  own := v.ownBlock.toList
  p := fun M w => ∃ xs, w.ownsRow 0 (elemOfT P t) n v m xs ∧ Fit M w c xs
  keep := fun {M M' w w'} hk hm ⟨xs, h1, h2⟩ => by
    refine ⟨xs, ⟨h1.1, ?_⟩, h2.keep (hk.mono (fun k _ h => h.1)) hm⟩
    rcases h1.2 with h3 | ⟨g, cap, cur, rfl, hb, hg, r⟩
    · exact .inl h3
    · refine .inr ⟨g, cap, cur, rfl, hb, ?_, r⟩
      rw [hk.block g (Array.getElem?_eq_some_iff.1 hg).1 (fun h => h.2 (by simp [Value.ownBlock]))]
      exact hg

theorem Fit.app {M : BSet} {w : World} : ∀ {xs ys : List AV} {vs us : List Value}, Fit M w xs vs → Fit M w ys us → Fit M w (xs ++ ys) (vs ++ us)
  | [], _, [], _, _, h => h
  | _ :: _, _, _ :: _, _, h1, h2 => ⟨h1.1, Fit.app h1.2 h2⟩

/-- Cells whose values are one cell each. -/
def OneC (c : List AV) : Prop := ∀ a ∈ c, ∀ M w u, a.p M w u → u.oneCell' = true
theorem OneC.fit {M : BSet} {w : World} : ∀ {c : List AV} {vs : List Value}, OneC c → Fit M w c vs → ∀ u ∈ vs, u.oneCell' = true
  | [], [], _, _, u, hu => by simp at hu
  | a :: c, v :: vs, h1, h2, u, hu => by
    rcases List.mem_cons.1 hu with rfl | hu
    · exact h1 a (by simp) _ _ _ h2.1
    · exact OneC.fit (c := c) (fun b hb => h1 b (by simp [hb])) h2.2 u hu

theorem flat_len {α : Type} {enc : α → List AV} {n : Nat} : ∀ {xs : List α}, (∀ x ∈ xs, (enc x).length = n) → (xs.flatMap enc).length = xs.length * n
  | [], _ => by simp
  | x :: xs, h => by
    rw [List.flatMap_cons, List.length_append, h x (by simp), flat_len (fun y hy => h y (by simp [hy])), List.length_cons, Nat.add_mul, Nat.one_mul, Nat.add_comm]

/-- The cells of a row, one after another. -/
theorem row_cells {M : BSet} {w : World} {α : Type} {n : Nat} {enc : α → List AV} {b : Nat} : ∀ {xs : List α} {off : Nat}, (∀ (i : Nat) (x : α), xs[i]? = some x → (enc x).length = n ∧ CellsAt M w b (off + i * n) (enc x)) → CellsAt M w b off (xs.flatMap enc)
  | [], off, _ => fun j a hj => by simp at hj
  | x :: xs, off, h => fun j a hj => by
    obtain ⟨h1, h2⟩ := h 0 x rfl
    rw [List.flatMap_cons] at hj
    by_cases hlt : j < (enc x).length
    · rw [List.getElem?_append_left hlt] at hj
      have := h2 j a hj
      simpa using this
    · rw [List.getElem?_append_right (by omega)] at hj
      obtain ⟨u, h3, h4⟩ := row_cells (xs := xs) (off := off + n) (fun i y hy => by
        obtain ⟨g1, g2⟩ := h (i + 1) y (by simpa using hy)
        refine ⟨g1, ?_⟩
        have e : off + (i + 1) * n = off + n + i * n := by rw [Nat.add_mul]; omega
        rwa [e] at g2) (j - (enc x).length) a hj
      exact ⟨u, by rw [← h3]; congr 2; omega, h4⟩

theorem addr_add' (b off j : Nat) : (⟨b, off, none⟩ : Addr).add j = ⟨b, off + j, none⟩ := by unfold Addr.add; split <;> simp_all

theorem own_cons {it : Item} {ρ : Items} {k : Nat} : Items.own (it :: ρ) k ↔ k ∈ it.own ∨ Items.own ρ k := by simp [Items.own]
/-- The first thing in use is changed, or gives way to another. -/
theorem good_head {F : BSet} {it it' : Item} {ρ : Items} {w w' : World} (hg : Good F (it :: ρ) w) (hk : Keeps (fun k => k ∈ it.own) w w') (ho : ∀ k ∈ it'.own, k < w'.heap.size ∧ (k < w.heap.size → k ∈ it.own)) (hn : it'.own.Nodup)
    (hp : Keeps (both F (Items.own (it :: ρ))) w w' → (∀ k, k < w.heap.size → both F (Items.own (it' :: ρ)) k → both F (Items.own (it :: ρ)) k) → it'.p (both F (Items.own (it' :: ρ))) w') :
    Good F (it' :: ρ) w' ∧ Keeps (Items.own (it :: ρ)) w w' ∧ (∀ k, Items.own (it' :: ρ) k → k < w.heap.size → Items.own (it :: ρ) k) := by
  have hM : ∀ k, k < w.heap.size → both F (Items.own (it' :: ρ)) k → both F (Items.own (it :: ρ)) k := fun k hlt hb => hb.imp id (fun h => own_cons.2 ((own_cons.1 h).imp (fun h => (ho k h).2 hlt) id))
  have hnd := hg.nodup
  rw [List.flatMap_cons, List.nodup_append] at hnd
  refine ⟨⟨fun k h => Nat.lt_of_lt_of_le (hg.fr k h) hk.size, fun k h => ?_, ?_, fun x hx => ?_⟩, hk.mono (fun k _ h => own_cons.2 (.inl h)), fun k h hlt => own_cons.2 ((own_cons.1 h).imp (fun h => (ho k h).2 hlt) id)⟩
  · rcases own_cons.1 h with h | h
    · refine ⟨(ho k h).1, fun hF => ?_⟩
      have hlt := hg.fr k hF
      exact (hg.own k (own_cons.2 (.inl ((ho k h).2 hlt)))).2 hF
    · have := hg.own k (own_cons.2 (.inr h))
      exact ⟨Nat.lt_of_lt_of_le this.1 hk.size, this.2⟩
  · rw [List.flatMap_cons, List.nodup_append]
    refine ⟨hn, hnd.2.1, fun a ha b hb hab => ?_⟩
    subst hab
    have hlt := (hg.own a (own_cons.2 (.inr hb))).1
    exact hnd.2.2 a ((ho a ha).2 hlt) a hb rfl
  · rcases List.mem_cons.1 hx with rfl | hx
    · exact hp (hk.mono (fun k _ h => .inr (own_cons.2 (.inl h)))) hM
    · refine x.keep (hk.mono (fun k _ h => ⟨.inr (own_cons.2 (.inl h)), fun hxo => hnd.2.2 k h k (List.mem_flatMap.2 ⟨x, hx, hxo⟩) rfl⟩)) hM (hg.items x (List.mem_cons_of_mem _ hx))

variable {d : Option Tmp} {ty : TypeId} {pos : String} {after : Array Edge} {g : Option (Nat × Bool)}

/-- append onto a row in use. -/
theorem loud_append {t : TypeId} {s x : Operand} {v : Value} {n m : Nat} {c : List AV} {α : Type} {enc : α → List AV} {ys : List α} {ρ : Items} (hB : elB P t n = true) (hs : af.ev s = .exact v) (hx : af.ev x = .row n enc ys)
    (ho : OneC (ys.flatMap enc)) (hl : m + ys.length ≤ 137438953472) :
    Loud P ⟨d, .call { callee := .builtin .append, args := #[s, x], argTypes := #[t, t] }, ty, pos, after, g⟩ af (vecI P t v n m c :: ρ) (fun a σ' => ∃ v', a = .exact v' ∧ σ' = vecI P t v' n (m + ys.length) (c ++ ys.flatMap enc) :: ρ) := by
  intro F w ev hg h
  obtain ⟨ht, hn0, i, z, hi, hz, hi1, hi2, hi3⟩ := elB_spec hB
  have e1 := opnd h (x := s) (by simp [Op.operands, Call.operands]) hs
  obtain ⟨A, cp, e2, _, _, e5⟩ := opnd_p h (x := x) (by simp [Op.operands, Call.operands]) hx
  obtain ⟨xs, hown, hfit⟩ := hg.items (vecI P t v n m c) List.mem_cons_self
  have hown0 := hown
  have hbs : (m + ys.length) * i.bytes ≤ 140737488355328 := Nat.le_trans (Nat.mul_le_mul hl hi2) (by omega)
  have hrun : ∃ v' w' us, (Builtin.append_ #[t, t] ty #[v, .slice A ys.length cp]).run P w = .ok v' w' ∧ w'.ownsRow 0 (elemOfT P t) n v' (m + ys.length) (xs ++ us) ∧ w.grownBy w' v.ownBlock ∧ (v'.ownBlock = v.ownBlock ∨ v'.ownBlock = some w.heap.size) ∧ Fit (both F (Items.own (vecI P t v n m c :: ρ))) w (ys.flatMap enc) us := by
    by_cases hy : ys = []
    · subst hy
      have happ : (Builtin.append_ #[t, t] ty #[v, .slice A ([] : List α).length cp]).run P w = .ok v w := by
        rcases hown.2 with ⟨rfl, rfl⟩ | ⟨g, cap, cur, rfl, _, _, hnc, _⟩
        · cases A <;> simp [Builtin.append_, run_underlying ht, sizeOf, typeInfo, hi, Builtin.lenOf, Builtin.firstCells, loadCells, loadCellsFrom]
        · cases A <;> simp [Builtin.append_, run_underlying ht, sizeOf, typeInfo, hi, Builtin.lenOf, Builtin.firstCells, hnc, storeCells, loadCells, loadCellsFrom]
      exact ⟨v, w, [], happ, by simpa using hown, ⟨rfl, rfl, rfl, Nat.le_refl _, fun _ _ _ => rfl⟩, .inl rfl, trivial⟩
    · obtain ⟨b, off, rfl, hb, hnM, hcell⟩ := e5 hy
      have hcells := row_cells hcell
      obtain ⟨us, hf, hu⟩ := fit_cells hcells
      have hlen : (ys.flatMap enc).length = ys.length * n := flat_len (fun y hy => by
        obtain ⟨i, hi⟩ := List.mem_iff_getElem?.1 hy
        exact (hcell i y hi).1)
      obtain ⟨v', w', h1, h2, h3, _, h5⟩ := run_append_own_at (P := P) w 0 t ty (elemOfT P t) i z n i.bytes ht hi hz hi1 rfl hi3 hn0 v m xs hown ⟨b, off, none⟩ ys.length cp us (by rw [← hf.length, hlen])
        (fun j u hj => by
          rw [addr_add']
          have hjl : j < (ys.flatMap enc).length := by rw [hf.length]; exact (List.getElem?_eq_some_iff.1 hj).1
          obtain ⟨u', g1, g2⟩ := hu j hjl
          rw [hj] at g1
          injection g1 with g1
          rw [g1]; exact g2) (ho.fit hf) (by simp only [maxLen]; omega) hbs (Nat.zero_le _)
      exact ⟨v', w', us, h1, h2, h3, h5, hf⟩
  obtain ⟨v', w', us, h1, h2, h3, h5, hf⟩ := hrun
  have hrun' : (execOp ev ⟨d, .call { callee := .builtin .append, args := #[s, x], argTypes := #[t, t] }, ty, pos, after, g⟩).run P w = .ok (.value v') w' := by
    unfold execOp
    simp only [resolve, invoke, builtin, Sem.run_bind, Sem.run_pure, Result.andThen_ok, List.map_toArray, List.map_cons, List.map_nil, e1, e2, h1]
  rw [hrun']
  have hk : Keeps (fun k => k ∈ (vecI P t v n m c).own) w w' := ⟨h3.os, h3.tape, h3.output, run_drawn _ _ _ _ h1, h3.size, fun k hlt hn => h3.block k hlt (fun e => hn (by simp [vecI, ← e]))⟩
  obtain ⟨g1, g2, g3⟩ := good_head (it' := vecI P t v' n (m + ys.length) (c ++ ys.flatMap enc)) hg hk (fun k hk' => by
      have hk'' : v'.ownBlock = some k := by simpa [vecI] using hk'
      refine ⟨(h2.lt k hk'').2, fun hlt => ?_⟩
      rcases h5 with h5 | h5
      · simp [vecI, ← h5, hk'']
      · rw [h5] at hk''; injection hk'' with e; omega) (by cases h : v'.ownBlock <;> simp [vecI, h])
    (fun hkk hMM => ⟨xs ++ us, h2, (hfit.keep hkk hMM).app (hf.keep hkk hMM)⟩)
  exact ⟨_, _, ⟨v', rfl, rfl⟩, g1, g2, g3, rfl⟩

/-- A nil slice is a row of the call's own. -/
theorem sub_nil {t : TypeId} {n : Nat} : Sub E N af σ af (vecI P t (.slice none 0 0) n 0 [] :: σ) := by
  intro a w hh
  have hown : ∀ k, Items.own (vecI P t (.slice none 0 0) n 0 [] :: σ) k ↔ Items.own σ k := fun k => by rw [own_cons]; simp [vecI, Value.ownBlock]
  have hM : ∀ k, k < w.heap.size → both E.F (Items.own (vecI P t (.slice none 0 0) n 0 [] :: σ)) k → both E.F (Items.own σ) k := fun k _ h => h.imp id (hown k).1
  refine ⟨hh.tmps, hh.defers, hh.kept, fun k h hlt => hh.old k ((hown k).1 h) hlt, ⟨hh.good.fr, fun k h => hh.good.own k ((hown k).1 h), ?_, fun it hi => ?_⟩, fun t => (af t).keep (Keeps.refl _ _) hM (hh.fits t)⟩
  · rw [List.flatMap_cons]; simpa [vecI, Value.ownBlock] using hh.good.nodup
  · rcases List.mem_cons.1 hi with rfl | hi
    · exact ⟨[], World.ownsRow_nil _ _ _ _, trivial⟩
    · exact it.keep (Keeps.refl _ _) hM (hh.good.items it hi)

theorem cells_of_fit {M : BSet} {w : World} {b : Nat} : ∀ {c : List AV} {vs : List Value} {off : Nat}, Fit M w c vs → (∀ j u, vs[j]? = some u → w.cell? ⟨b, off + j, none⟩ = some u) → CellsAt M w b off c
  | [], [], _, _, _ => fun j a hj => by simp at hj
  | a :: c, v :: vs, off, h1, h2 => fun j x hj => by
    cases j with
    | zero => simp at hj; subst hj; exact ⟨v, h2 0 v rfl, h1.1⟩
    | succ j =>
      obtain ⟨u, g1, g2⟩ := cells_of_fit (c := c) (vs := vs) (off := off + 1) h1.2 (fun j u hu => by rw [← h2 (j + 1) u (by simpa using hu)]; congr 2; omega) j x (by simpa using hj)
      exact ⟨u, by rw [← g1]; congr 2; omega, g2⟩

theorem CellsAt.sub {M : BSet} {w : World} {b off : Nat} {c c' : List AV} {k : Nat} (h : CellsAt M w b off c) (hs : ∀ j a, c'[j]? = some a → c[k + j]? = some a) : CellsAt M w b (off + k) c' :=
  fun j a hj => by
    obtain ⟨u, h1, h2⟩ := h (k + j) a (hs j a hj)
    exact ⟨u, by rw [← h1]; congr 2; omega, h2⟩

theorem flat_get {α : Type} {enc : α → List AV} {n : Nat} : ∀ {xs : List α} (_ : ∀ x ∈ xs, (enc x).length = n) {i : Nat} {x : α}, xs[i]? = some x → ∀ j a, (enc x)[j]? = some a → (xs.flatMap enc)[i * n + j]? = some a
  | y :: xs, h, 0, x, hx, j, a, hj => by
    simp at hx
    subst hx
    rw [List.flatMap_cons, Nat.zero_mul, Nat.zero_add, List.getElem?_append_left (List.getElem?_eq_some_iff.1 hj).1]
    exact hj
  | y :: xs, h, i + 1, x, hx, j, a, hj => by
    have hy := h y (by simp)
    rw [List.flatMap_cons, List.getElem?_append_right (by rw [hy, Nat.add_mul]; omega), hy, show (i + 1) * n + j - n = i * n + j by rw [Nat.add_mul]; omega]
    exact flat_get (fun z hz => h z (by simp [hz])) (by simpa using hx) j a hj

/-- The row is in use no more: it stays as it is from here on. -/
theorem sub_freeze {t : TypeId} {v : Value} {n m : Nat} {c : List AV} {α : Type} {enc : α → List AV} {xs : List α} {s : Tmp} (hs : af s = .exact v) (hm : m = xs.length) (hc : c = xs.flatMap enc) (he : ∀ x ∈ xs, (enc x).length = n) :
    Sub E N af (vecI P t v n m c :: σ) (af.put (some s) (.row n enc xs)) σ := by
  intro a w hh
  have hM : ∀ k, k < w.heap.size → both E.F (Items.own σ) k → both E.F (Items.own (vecI P t v n m c :: σ)) k := fun k _ h => h.imp id (fun h => own_cons.2 (.inr h))
  have hnd := hh.good.nodup
  rw [List.flatMap_cons, List.nodup_append] at hnd
  refine ⟨hh.tmps, hh.defers, hh.kept, fun k h hlt => hh.old k (own_cons.2 (.inr h)) hlt, ⟨hh.good.fr, fun k h => hh.good.own k (own_cons.2 (.inr h)), hnd.2.1, fun it hi => it.keep (Keeps.refl _ _) hM (hh.good.items it (List.mem_cons_of_mem _ hi))⟩, fun u => ?_⟩
  by_cases hu : u = s
  · subst hu
    rw [AF.put_same]
    have hv := hh.fits u
    rw [hs] at hv
    have hv' : a.tmps.getD u undef = v := hv
    rw [hv']
    obtain ⟨vs, hown, hfit⟩ := hh.good.items (vecI P t v n m c) List.mem_cons_self
    subst hm hc
    rcases hown.2 with ⟨rfl, h0⟩ | ⟨g, cap, cur, rfl, _, hg, hnc, hcm, _, htake⟩
    · have : xs = [] := List.length_eq_zero_iff.1 h0
      subst this
      exact ⟨none, 0, rfl, by simp, by omega, fun h => absurd rfl h⟩
    · refine ⟨some ⟨g, 0, none⟩, cap, rfl, hnc, by simp only [maxLen] at hcm; omega, fun _ => ⟨g, 0, rfl, (Array.getElem?_eq_some_iff.1 hg).1, ?_, fun i x hx => ?_⟩⟩
      · rintro (hF | hO)
        · exact (hh.good.own g (own_cons.2 (.inl (by simp [vecI, Value.ownBlock])))).2 hF
        · exact hnd.2.2 g (by simp [vecI, Value.ownBlock]) g hO rfl
      · have hxm : x ∈ xs := List.mem_of_getElem? hx
        refine ⟨he x hxm, ?_⟩
        have hcells := cells_of_fit (b := g) (off := 0) (hfit.keep (Keeps.refl _ _) hM) (fun j u hu => by
          have := hown.cells (g := g) rfl j u hu
          rwa [addr_add'] at this)
        exact hcells.sub (fun j a hj => flat_get he hx j a hj)
  · rw [AF.put_other _ _ hu]
    exact (af u).keep (Keeps.refl _ _) hM (hh.fits u)
end
end Go.Proofs.Ytkplmgdmkfgjhaa
