/- slices.SortFunc on a row in use, by the shelf's contract. -/
import Derived.Test.YtkplmgdmkfgjhaaCi
import Derived.Shelf.SlSortCmp.NoneTotal
import Derived.Sort.OwnSortedInts
namespace Go.Proofs.Ytkplmgdmkfgjhaa
open Go.RowKit Go.Sort

theorem keeps_grow {w w' : World} (h : Keeps noB w w') : ∃ q os, w' = grow (w.drewN q) os := by
  obtain ⟨h1, h2, h3, h4, h5, h6⟩ := h
  refine ⟨w'.drawn - w.drawn, w'.heap.extract w.heap.size w'.heap.size, ?_⟩
  have hheap : w'.heap = w.heap ++ w'.heap.extract w.heap.size w'.heap.size := by
    apply Array.ext_getElem?
    intro i
    by_cases hi : i < w.heap.size
    · rw [Array.getElem?_append_left hi]
      exact h6 i hi (fun hf => hf)
    · rw [Array.getElem?_append_right (by omega), Array.getElem?_extract]
      by_cases h7 : i < w'.heap.size
      · rw [if_pos (by omega)]; congr 1; omega
      · rw [if_neg (by omega), Array.getElem?_eq_none (by omega)]
  have hd : w'.drawn = w.drawn + (w'.drawn - w.drawn) := by omega
  cases w with
  | mk hp tp dr os out =>
    cases w' with
    | mk hp' tp' dr' os' out' =>
      simp only at h1 h2 h3 hheap hd
      subst h1 h2 h3
      unfold grow World.drewN
      simp only [World.mk.injEq, true_and, and_true]
      exact ⟨hheap, hd⟩

theorem cmpLays_pure {P : Program} {g : Nat} {α : Type} [Inhabited α] {enc : α → List Value} {encA : α → List AV} {k : Nat} {cf : α → α → Int} {blk off size : Nat} {w : World} (hf : ∀ x M w, Fit M w (encA x) (enc x))
    (h : ∀ x y, Pure P g [.agg (encA x), .agg (encA y)] (.exact (.int .i64 (cf x y)))) : CmpLays P g #[] enc k cf blk off size w := fun m os dk hs x y => by
  have := h x y noB (sortWorldK enc k w blk off m dk os) [.agg (enc x).toArray, .agg (enc y).toArray] (fun _ hk => hk.elim) ⟨⟨enc x, rfl, hf x _ _⟩, ⟨enc y, rfl, hf y _ _⟩, trivial⟩
  exact this.mono fun e w' ⟨v, e1, hk, e3⟩ => ⟨by rw [e1]; exact congrArg _ e3, keeps_grow hk⟩

theorem fit_ex_eq {M : BSet} {w : World} : ∀ {l us : List Value}, Fit M w (l.map AV.exact) us → us = l
  | [], [], _ => rfl
  | a :: l, u :: us, h => by
    obtain ⟨h1, h2⟩ := h
    have h1' : u = a := h1
    rw [h1', fit_ex_eq h2]
theorem ex_fit_ex {M : BSet} {w : World} : ∀ (l : List Value), Fit M w (l.map AV.exact) l
  | [] => trivial
  | a :: l => ⟨rfl, ex_fit_ex l⟩

section
variable {α : Type} [Inhabited α] {enc : α → List Value} {k : Nat}
theorem flatK_list (hk : ∀ x, (enc x).length = k) (xs : List α) : (flatK enc k xs.toArray).toList = xs.flatMap enc := by
  have hlen : (xs.flatMap enc).length = xs.length * k := by
    induction xs with
    | nil => simp
    | cons x xs ih => rw [List.flatMap_cons, List.length_append, hk, ih, List.length_cons, Nat.add_mul]; omega
  apply List.ext_getElem
  · simp [hlen]
  · intro j h1 h2
    have hj : j < xs.length * k := by rw [hlen] at h2; exact h2
    have k0 : 0 < k := by
      rcases Nat.eq_zero_or_pos k with h | h
      · subst h; simp at hj
      · exact h
    have hq : j / k < xs.length := (Nat.div_lt_iff_lt_mul k0).2 hj
    have hm : j % k < k := Nat.mod_lt _ k0
    have e1 : (flatK enc k xs.toArray).toList[j] = (enc xs[j / k])[j % k]'(by rw [hk]; exact hm) := by
      have := get_flatK enc k xs.toArray j (by simpa using hj)
      rw [getElem!_pos _ j (by simpa using hj)] at this
      rw [Array.getElem_toList, this]
      rw [getElem!_pos xs.toArray (j / k) (by simpa using hq), getElem!_pos _ (j % k) (by rw [hk]; exact hm)]
      simp
    rw [e1]
    have hs : xs.flatMap enc = (xs.take (j / k)).flatMap enc ++ (enc xs[j / k] ++ (xs.drop (j / k + 1)).flatMap enc) := by
      conv => lhs; rw [← List.take_append_drop (j / k) xs, List.drop_eq_getElem_cons hq, List.flatMap_append, List.flatMap_cons]
    have hl : ((xs.take (j / k)).flatMap enc).length = j / k * k := by
      have gen : ∀ ys : List α, (ys.flatMap enc).length = ys.length * k := by
        intro ys
        induction ys with
        | nil => simp
        | cons y ys ih => rw [List.flatMap_cons, List.length_append, hk, ih, List.length_cons, Nat.add_mul]; omega
      rw [gen, List.length_take, Nat.min_eq_left (by omega)]
    have hj2 : j = j / k * k + j % k := by rw [Nat.mul_comm]; exact (Nat.div_add_mod j k).symm
    apply Option.some.inj
    have hge : j / k * k ≤ j := Nat.div_mul_le_self j k
    have hsub : j - j / k * k = j % k := by omega
    rw [← List.getElem?_eq_getElem, ← List.getElem?_eq_getElem, hs, List.getElem?_append_right (by rw [hl]; exact hge), hl, hsub, List.getElem?_append_left (by rw [hk]; exact hm)]

theorem take_putCells_id (D cur : Array Value) (h : D.size ≤ cur.size) : (putCells id 0 D cur).toList.take D.size = D.toList := by
  apply List.ext_getElem?
  intro j
  by_cases hj : j < D.size
  · rw [List.getElem?_take_of_lt hj, Array.getElem?_toList]
    simp [putCells, hj, show j < cur.size by omega]
  · rw [List.getElem?_take_eq_none (by omega), List.getElem?_eq_none (by simp; omega)]

theorem sortFunc_fun {P : Program} {ρ : Go.Shelf.Ren} (L : SlLaysF0.n6 P ρ) (aE : ∀ w, (isAgg (ρ.t 24)).run P w = .ok true w) (zE : ∀ w, (Go.sizeOf (ρ.t 24)).run P w = .ok k w) {encA : α → List AV} (hA : ∀ x, encA x = (enc x).map AV.exact) (hk : ∀ x, (enc x).length = k)
    (h1 : ∀ x, ∀ v ∈ enc x, v.oneCell' = true) (cf : α → α → Int) (hO : SWO (ltOf cf)) (hT : ∀ x y, (ltOf cf) x y = false → (ltOf cf) y x = false → x = y) (g : Nat) (eg : ∀ args w, (callFunc g args).run P w = .ok (.enter g args) w)
    (hcmp : ∀ x y, Pure P g [.agg (encA x), .agg (encA y)] (.exact (.int .i64 (cf x y)))) (v : Value) (xs : List α) (hl : xs.length < 4611686018427387904) (t : TypeId) :
    Fun P (ρ.f 6) [.exact v, .exact (.func (.func g) #[] #[])] [vecT P t k encA v xs] (fun a s => a = .tup [] ∧ s = [vecT P t k encA v (xs.mergeSort fun x y => !(ltOf cf) y x)]) := by
  intro F w vs hg hfit
  match vs, hfit with
  | [v', f'], ⟨e1, e2, _⟩ =>
  have e1 : v' = v := e1
  have e2 : f' = .func (.func g) #[] #[] := e2
  subst e1 e2
  by_cases hx : xs = []
  · subst hx
    obtain ⟨us, hown, hf⟩ := hg.items _ List.mem_cons_self
    have hv : ∃ p cap, v' = .slice p 0 cap := by
      rcases hown.2 with ⟨rfl, _⟩ | ⟨q, cap, cur, rfl, _⟩
      · exact ⟨none, 0, rfl⟩
      · exact ⟨_, cap, rfl⟩
    obtain ⟨p, cap, rfl⟩ := hv
    refine (AnyF.slices_SortFunc_none L p cap (.func (.func g) #[] #[]) w).mono fun e w' ⟨he, hw⟩ => ?_
    subst hw
    refine ⟨_, he, _, _, ⟨rfl, rfl⟩, ?_, (Keeps.refl noB w').mono (fun _ _ h => h.elim), ?_, ⟨[], rfl, trivial⟩⟩
    · rw [List.mergeSort_nil]; exact hg
    · rw [List.mergeSort_nil]; exact fun _ h _ => h
  · obtain ⟨b, c, cur, us, hv, hb, hnc, hcm, hcs, htk, hf⟩ := vec_cells (hg.items _ List.mem_cons_self) hx
    subst hv
    have hflat : ∀ ys : List α, ys.flatMap encA = (ys.flatMap enc).map AV.exact := by
      intro ys
      induction ys with
      | nil => rfl
      | cons y ys ih => rw [List.flatMap_cons, List.flatMap_cons, List.map_append, ih, hA]
    have hlenf : ∀ ys : List α, (ys.flatMap enc).length = ys.length * k := by
      intro ys
      induction ys with
      | nil => simp
      | cons y ys ih => rw [List.flatMap_cons, List.length_append, hk, ih, List.length_cons, Nat.add_mul]; omega
    rw [hflat] at hf
    have hus := fit_ex_eq hf
    subst hus
    have hcn : xs.length * k ≤ cur.size := by rw [hcs]; exact Nat.mul_le_mul_right _ hnc
    have hH : HoldsK enc k w b 0 xs.toArray := by
      intro j hj
      rw [size_flatK] at hj
      have hj' : j < xs.length * k := by simpa using hj
      constructor
      · rw [cell_of_row _ b _ _ _ (0, 0) hb, Nat.zero_add]
        have e3 : (flatK enc k xs.toArray)[j]! = (xs.flatMap enc)[j]'(by rw [hlenf]; exact hj') := by
          rw [getElem!_pos _ j (by rw [size_flatK]; exact hj), ← Array.getElem_toList]
          congr 1
          exact flatK_list hk xs
        rw [e3]
        have e4 : (cur.toList.take (xs.length * k))[j]? = (xs.flatMap enc)[j]? := by rw [htk]
        have e5 : (xs.flatMap enc)[j]? = some ((xs.flatMap enc)[j]'(by rw [hlenf]; exact hj')) := List.getElem?_eq_getElem _
        rw [List.getElem?_take_of_lt hj', e5] at e4
        simpa using e4
      · simp [World.frozen?, hb]
    have hblt := (Array.getElem?_eq_some_iff.1 hb).1
    refine (AnyQ.slices_SortFunc_total L k aE zE enc hk h1 cf hO g #[] b 0 c xs.toArray w eg (cmpLays_pure (fun x M w => by rw [hA]; exact ex_fit_ex _) hcmp) hH hblt (by simpa using hl) hT).mono fun e w' ⟨he, n, os, hw⟩ => ?_
    simp only at hw
    generalize hys : (xs.mergeSort fun x y => !(ltOf cf) y x) = ys at hw ⊢
    have hyl : ys.length = xs.length := by rw [← hys]; exact List.length_mergeSort _
    subst hw
    have hheap : (sortWorldK enc k w b 0 n ys.toArray os).heap[b]? = some (.cells (putCells id 0 (flatK enc k ys.toArray) cur) (elemOfT P t) (0, 0)) := by
      unfold sortWorldK putRowK
      rw [heap_grow_old _ _ (by simpa using hblt)]
      simp [putRow, mapBlock, Sort.ahead, Array.getElem?_modify, hb, onCells]
    have hkp : Keeps (fun q => q ∈ (vecT P t k encA (.slice (some ⟨b, 0, none⟩) xs.length c) xs).own) w (sortWorldK enc k w b 0 n ys.toArray os) := by
      refine ⟨rfl, rfl, rfl, Nat.le_add_right _ _, ?_, fun q hlt hn => ?_⟩
      · simp [sortWorldK, putRowK, grow]
      · have hne : q ≠ b := fun e => hn (by simp [vecT, vecI, Value.ownBlock, e])
        unfold sortWorldK putRowK
        rw [heap_grow_old _ _ (by simpa using hlt)]
        simp [putRow, mapBlock, Sort.ahead, Array.getElem?_modify, Ne.symm hne]
    have hown : (sortWorldK enc k w b 0 n ys.toArray os).ownsRow 0 (elemOfT P t) k (.slice (some ⟨b, 0, none⟩) xs.length c) ys.length (ys.flatMap enc) := by
      refine ⟨hlenf ys, .inr ⟨b, c, _, by rw [hyl], Nat.zero_le _, hheap, by rw [hyl]; exact hnc, hcm, by simp [putCells, hcs], ?_⟩⟩
      have := take_putCells_id (flatK enc k ys.toArray) cur (by simp [hyl]; exact hcn)
      rw [flatK_list hk ys] at this
      rw [← this]; simp
    obtain ⟨g1, g2, g3⟩ := good_head (it' := vecT P t k encA (.slice (some ⟨b, 0, none⟩) xs.length c) ys) hg hkp (fun q hq => ⟨by simp [vecT, vecI, Value.ownBlock] at hq; subst hq; simpa [sortWorldK, putRowK, grow] using Nat.lt_of_lt_of_le hblt (Nat.le_add_right _ _), fun _ => hq⟩) (by simp [vecT, vecI, Value.ownBlock])
      (fun hkk hMM => ⟨ys.flatMap enc, hown, by rw [hflat]; exact ex_fit_ex _⟩)
    exact ⟨_, he, _, _, ⟨rfl, rfl⟩, g1, g2, g3, ⟨[], rfl, trivial⟩⟩
end
end Go.Proofs.Ytkplmgdmkfgjhaa
