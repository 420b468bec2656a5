/- Appending what another row in use holds. -/
import Derived.Test.YtkplmgdmkfgjhaaCl
namespace Go.Proofs.Ytkplmgdmkfgjhaa
open Go.RowKit

section
variable {P : Program} {af : AF} {σ ρ : Items} {d : Option Tmp} {ty t e : TypeId} {pos : String} {after : Array Edge} {g : Option (Nat × Bool)} {α : Type} {n : Nat} {enc : α → List AV} {xs ys : List α} {v : Value} {K : AF → Items → Prop}
/-- x reads as ys, while the things in use stand. -/
def BorL (σ : Items) (x : AV) (n : Nat) (enc : α → List AV) (ys : List α) : Prop := ∀ F w u, Good F σ w → x.p (both F (Items.own σ)) w u →
  ∃ A c, u = .slice A ys.length c ∧ ys.length ≤ c ∧ (ys ≠ [] → ∃ b off, A = some ⟨b, off, none⟩ ∧ ∀ (i : Nat) (y : α), ys[i]? = some y → (enc y).length = n ∧ CellsAt (both F (Items.own σ)) w b (off + i * n) (enc y))
theorem BorL.vec (hm : vecT P e n enc v xs ∈ σ) (he : ∀ x, (enc x).length = n) : BorL σ (.exact v) n enc xs := fun F w u hg hx => by
  obtain rfl : u = v := hx
  have hit := hg.items _ hm
  by_cases hne : xs = []
  · subst hne
    obtain ⟨us, hown, _⟩ := hit
    rcases hown.2 with ⟨rfl, _⟩ | ⟨b, cap, cur, rfl, _⟩
    · exact ⟨_, _, rfl, Nat.zero_le _, fun h => absurd rfl h⟩
    · exact ⟨_, _, rfl, Nat.zero_le _, fun h => absurd rfl h⟩
  · obtain ⟨b, c, cur, us, rfl, hb, hnc, _, hcs, htk, hfit⟩ := vec_cells hit hne
    refine ⟨_, _, rfl, hnc, fun _ => ⟨b, 0, rfl, ?_⟩⟩
    have hcells := cells_of_fit (b := b) (off := 0) hfit (fun j u hu => by
      have hj : j < us.length := (List.getElem?_eq_some_iff.1 hu).1
      rw [Nat.zero_add, cell_of_row _ b _ _ _ (0, 0) hb]
      rw [← htk, List.getElem?_take] at hu
      split at hu
      · simpa using hu
      · cases hu)
    intro i x hx
    exact ⟨he x, hcells.sub (fun j a hj => flat_get (fun x _ => he x) hx j a hj)⟩
theorem BorL.vsub {lo m : Nat} (hm : vecT P e n enc v xs ∈ σ) (he : ∀ x, (enc x).length = n) (hl : lo + m ≤ xs.length) : BorL σ (.vsub v n lo m) n enc ((xs.drop lo).take m) := fun F w u hg hx => by
  obtain ⟨A, l, c, rfl, hc1, hc2, rfl⟩ := hx
  obtain ⟨A', c', hv, h1, h4⟩ := BorL.vec (w := w) hm he F _ hg rfl
  injection hv with g1 g2 g3
  subst g1 g2 g3
  have hlen : ((xs.drop lo).take m).length = m := by simp; omega
  refine ⟨(if c = lo then A else A.map (·.add (lo * n))), c - lo, by rw [hlen], by rw [hlen]; exact hc2, fun hne => ?_⟩
  have hxs : xs ≠ [] := by rintro rfl; simp at hne
  obtain ⟨b, off, rfl, hcell⟩ := h4 hxs
  have hpos : 0 < m := by
    rcases Nat.eq_zero_or_pos m with h | h
    · subst h; simp at hne
    · exact h
  rw [if_neg (by omega)]
  refine ⟨b, off + lo * n, by simp [addr_add'], fun q x hq => ?_⟩
  have hq' : xs[lo + q]? = some x := by
    rw [List.getElem?_take] at hq
    split at hq
    · rwa [List.getElem?_drop] at hq
    · cases hq
  obtain ⟨g1, g2⟩ := hcell _ _ hq'
  refine ⟨g1, ?_⟩
  have e : off + (lo + q) * n = off + lo * n + q * n := by rw [Nat.add_mul]; omega
  rwa [e] at g2
theorem loud_appendL {t : TypeId} {s x : Operand} {m : Nat} {c : List AV} (hB : elB P t n = true) (hs : af.ev s = .exact v) (hx : BorL (vecI P t v n m c :: ρ) (af.ev x) n enc ys)
    (ho : OneC (ys.flatMap enc)) (hl : m + ys.length ≤ 137438953472) :
    Loud P ⟨d, .call { callee := .builtin .append, args := #[s, x], argTypes := #[t, t] }, ty, pos, after, g⟩ af (vecI P t v n m c :: ρ) (fun a σ' => ∃ v', a = .exact v' ∧ σ' = vecI P t v' n (m + ys.length) (c ++ ys.flatMap enc) :: ρ) := by
  intro F w ev hg h
  obtain ⟨ht, hn0, i, z, hi, hz, hi1, hi2, hi3⟩ := elB_spec hB
  have e1 := opnd h (x := s) (by simp [Op.operands, Call.operands]) hs
  obtain ⟨A, cp, e2, _, e5⟩ := hx F w (ev x) hg (h x (by simp [Op.operands, Call.operands]))
  obtain ⟨xs, hown, hfit⟩ := hg.items (vecI P t v n m c) List.mem_cons_self
  have hown0 := hown
  have hbs : (m + ys.length) * i.bytes ≤ 140737488355328 := Nat.le_trans (Nat.mul_le_mul hl hi2) (by omega)
  have hrun : ∃ v' w' us, (Builtin.append_ #[t, t] ty #[v, .slice A ys.length cp]).run P w = .ok v' w' ∧ w'.ownsRow 0 (elemOfT P t) n v' (m + ys.length) (xs ++ us) ∧ w.grownBy w' v.ownBlock ∧ (v'.ownBlock = v.ownBlock ∨ v'.ownBlock = some w.heap.size) ∧ Fit (both F (Items.own (vecI P t v n m c :: ρ))) w (ys.flatMap enc) us := by
    by_cases hy : ys = []
    · subst hy
      have happ : (Builtin.append_ #[t, t] ty #[v, .slice A ([] : List α).length cp]).run P w = .ok v w := by
        rcases hown.2 with ⟨rfl, rfl⟩ | ⟨g, cap, cur, rfl, _, _, hnc, _⟩
        · cases A <;> simp [Builtin.append_, run_underlying ht, sizeOf, typeInfo, hi, Builtin.lenOf, Builtin.firstCells, loadCells, loadCellsFrom]
        · cases A <;> simp [Builtin.append_, run_underlying ht, sizeOf, typeInfo, hi, Builtin.lenOf, Builtin.firstCells, hnc, storeCells, loadCells, loadCellsFrom]
      exact ⟨v, w, [], happ, by simpa using hown, ⟨rfl, rfl, rfl, Nat.le_refl _, fun _ _ _ => rfl⟩, .inl rfl, trivial⟩
    · obtain ⟨b, off, rfl, hcell⟩ := e5 hy
      have hcells := row_cells hcell
      obtain ⟨us, hf, hu⟩ := fit_cells hcells
      have hlen : (ys.flatMap enc).length = ys.length * n := flat_len (fun y hy => by
        obtain ⟨i, hi⟩ := List.mem_iff_getElem?.1 hy
        exact (hcell i y hi).1)
      obtain ⟨v', w', h1, h2, h3, _, h5⟩ := run_append_own_at (P := P) w 0 t ty (elemOfT P t) i z n i.bytes ht hi hz hi1 rfl hi3 hn0 v m xs hown ⟨b, off, none⟩ ys.length cp us (by rw [← hf.length, hlen])
        (fun j u hj => by
          rw [addr_add']
          have hjl : j < (ys.flatMap enc).length := by rw [hf.length]; exact (List.getElem?_eq_some_iff.1 hj).1
          obtain ⟨u', g1, g2⟩ := hu j hjl
          rw [hj] at g1
          injection g1 with g1
          rw [g1]; exact g2) (ho.fit hf) (by simp only [maxLen]; omega) hbs (Nat.zero_le _)
      exact ⟨v', w', us, h1, h2, h3, h5, hf⟩
  obtain ⟨v', w', us, h1, h2, h3, h5, hf⟩ := hrun
  have hrun' : (execOp ev ⟨d, .call { callee := .builtin .append, args := #[s, x], argTypes := #[t, t] }, ty, pos, after, g⟩).run P w = .ok (.value v') w' := by
    unfold execOp
    simp only [resolve, invoke, builtin, Sem.run_bind, Sem.run_pure, Result.andThen_ok, List.map_toArray, List.map_cons, List.map_nil, e1, e2, h1]
  rw [hrun']
  have hk : Keeps (fun k => k ∈ (vecI P t v n m c).own) w w' := ⟨h3.os, h3.tape, h3.output, run_drawn _ _ _ _ h1, h3.size, fun k hlt hn => h3.block k hlt (fun e => hn (by simp [vecI, ← e]))⟩
  obtain ⟨g1, g2, g3⟩ := good_head (it' := vecI P t v' n (m + ys.length) (c ++ ys.flatMap enc)) hg hk (fun k hk' => by
      have hk'' : v'.ownBlock = some k := by simpa [vecI] using hk'
      refine ⟨(h2.lt k hk'').2, fun hlt => ?_⟩
      rcases h5 with h5 | h5
      · simp [vecI, ← h5, hk'']
      · rw [h5] at hk''; injection hk'' with e; omega) (by cases h : v'.ownBlock <;> simp [vecI, h])
    (fun hkk hMM => ⟨xs ++ us, h2, (hfit.keep hkk hMM).app (hf.keep hkk hMM)⟩)
  exact ⟨_, _, ⟨v', rfl, rfl⟩, g1, g2, g3, rfl⟩
theorem op_appTL {s z : Operand} (hB : elB P t n = true) (hs : af.ev s = .exact v) (hx : BorL (vecT P t n enc v xs :: ρ) (af.ev z) n enc ys) (ho : ∀ x, OneC (enc x)) (hl : xs.length + ys.length ≤ LIM) (hk : ∀ v', K (af.put d (.exact v')) (vecT P t n enc v' (xs ++ ys) :: ρ)) :
    opB P ⟨d, .call { callee := .builtin .append, args := #[s, z], argTypes := #[t, t] }, ty, pos, after, g⟩ af (vecT P t n enc v xs :: ρ) K :=
  ⟨_, loud_appendL hB hs hx (OneC.flatT ho) hl, fun av σ' ⟨v', e1, e2⟩ => by
    subst e1 e2
    have := hk v'
    unfold vecT at this
    rwa [List.length_append, List.flatMap_append] at this⟩
theorem op_appNL {s z : Operand} (hB : elB P t n = true) (hs : af.ev s = .exact (.slice none 0 0)) (hx : BorL (vecI P t (.slice none 0 0) n 0 [] :: σ) (af.ev z) n enc ys) (ho : ∀ x, OneC (enc x)) (hl : ys.length ≤ LIM) (hk : ∀ v', K (af.put d (.exact v')) (vecT P t n enc v' ys :: σ)) :
    opB P ⟨d, .call { callee := .builtin .append, args := #[s, z], argTypes := #[t, t] }, ty, pos, after, g⟩ af σ K :=
  ⟨_, (loud_appendL (m := 0) (c := []) hB hs hx (OneC.flatT ho) (by have : ys.length ≤ 137438953472 := hl; omega)).unnil, fun av σ' ⟨v', e1, e2⟩ => by
    subst e1 e2
    have := hk v'
    unfold vecT at this
    rwa [List.nil_append, Nat.zero_add]⟩
end
end Go.Proofs.Ytkplmgdmkfgjhaa
