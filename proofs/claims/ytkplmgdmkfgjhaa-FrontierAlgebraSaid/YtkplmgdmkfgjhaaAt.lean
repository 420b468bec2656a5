/- Words for walks: what one cell is, rows in use that read alike. -/
import Derived.Test.YtkplmgdmkfgjhaaAs
namespace Go.Proofs.Ytkplmgdmkfgjhaa
open Go.RowKit

theorem OneC.nil : OneC [] := fun a h => by simp at h
theorem OneC.cons {a : AV} {c : List AV} (h : ∀ M w u, a.p M w u → u.oneCell' = true) (hc : OneC c) : OneC (a :: c) := fun b hb => by
  rcases List.mem_cons.1 hb with rfl | hb
  · exact h
  · exact hc b hb
theorem OneC.int {k : IntKind} {n : Int} {c : List AV} (hc : OneC c) : OneC (.exact (.int k n) :: c) := OneC.cons (fun M w u h => by rw [show u = _ from h]; rfl) hc
theorem OneC.bool {b : Bool} {c : List AV} (hc : OneC c) : OneC (.exact (.bool b) :: c) := OneC.cons (fun M w u h => by rw [show u = _ from h]; rfl) hc
theorem OneC.str {b : ByteArray} {c : List AV} (hc : OneC c) : OneC (.exact (.string b) :: c) := OneC.cons (fun M w u h => by rw [show u = _ from h]; rfl) hc
theorem OneC.row {α : Type} {n : Nat} {enc : α → List AV} {xs : List α} {c : List AV} (hc : OneC c) : OneC (.row n enc xs :: c) := OneC.cons (fun M w u h => by obtain ⟨A, q, h1, _⟩ := h; rw [h1]; rfl) hc
theorem OneC.flat {α : Type} {enc : α → List AV} {xs : List α} (h : ∀ x, OneC (enc x)) : OneC (xs.flatMap enc) := fun a ha => by
  obtain ⟨x, _, hx⟩ := List.mem_flatMap.1 ha
  exact h x a hx
theorem OneC.lit1 {c : List AV} (h : OneC c) : OneC ([c].flatMap id) := by simpa using h

/-- A variable of the heap that is never written again. -/
theorem op_box {P : Program} {af : AF} {d : Option Tmp} {ty : TypeId} {pos : String} {after : Array Edge} {g : Option (Nat × Bool)} {K : AF → Prop} {t : TypeId} {x : Operand} {a : AV} {c : List AV} (hx : af.ev x = a) (hc : CellsOf a c) (hk : K (af.put d (.ptr c))) :
    opA P ⟨d, .box t x, ty, pos, after, g⟩ af K := by
  refine ⟨_, fun M w ev hM h => ?_, hk⟩
  obtain ⟨vs, h1, h2⟩ := hc M w _ (opnd_p h (x := x) (by simp [Op.operands]) hx)
  have hrun : (execOp ev ⟨d, .box t x, ty, pos, after, g⟩).run P w = .ok (.value (.pointer (some ⟨w.heap.size, 0, none⟩))) (w.alloc (.cells (ev x).cells t)) := by
    simp [execOp, Instr.box, newVar, newRow, go_sem]
  rw [hrun, h1]
  have hk0 : Keeps noB w (w.alloc (.cells vs.toArray t)) := ⟨rfl, rfl, rfl, Nat.le_refl _, by simp, fun k hlt _ => heap_alloc_old w _ hlt⟩
  refine ⟨hk0, w.heap.size, 0, rfl, by simp, fun hm => Nat.lt_irrefl _ (hM _ hm), ?_⟩
  exact cells_of_fit (b := w.heap.size) (off := 0) (h2.keep (M' := M) (hk0.mono (M' := M) (fun _ _ h => h.elim)) (fun _ _ h => h)) (fun j u hu => by
    rw [Nat.zero_add, cell_of_row _ w.heap.size j _ t (0, 0) (heap_alloc_new w _)]
    simpa using hu)

section
variable {P : Program} {E : Env} {n : Nat} {af af' : AF} {ρ : Items} {t : TypeId} {v : Value} {k m m' : Nat} {c c' : List AV}
theorem Sub.trans {a b c : AF} {σ1 σ2 σ3 : Items} (h : Sub E n a σ1 b σ2) (h' : Sub E n b σ2 c σ3) : Sub E n a σ1 c σ3 := fun x w hh => h' x w (h x w hh)
theorem sub_vec (hm : m = m') (hc : c = c') (h : AF.le af af') : Sub E n af (vecI P t v k m c :: ρ) af' (vecI P t v k m' c' :: ρ) := by subst hm hc; exact Sub.of_le h
theorem row_id {α : Type} {enc : α → List AV} {xs : List α} : AV.le (.row k id (xs.map enc)) (.row k enc xs) := fun M w v ⟨A, q, h1, h2, h3, h4⟩ => by
  refine ⟨A, q, by simpa using h1, by simpa using h2, h3, fun hx => ?_⟩
  obtain ⟨b, off, g1, g2, g3, g4⟩ := h4 (by simpa using hx)
  exact ⟨b, off, g1, g2, g3, fun i x hi => g4 i (enc x) (by simp [hi])⟩
theorem row_nil {α : Type} {enc : α → List AV} {q : Nat} (hq : q ≤ 9223372036854775807) : AV.le (.exact (.slice none 0 q)) (.row k enc ([] : List α)) := fun M w v h => by
  have h' : v = .slice none 0 q := h
  exact ⟨none, q, h', by simp, hq, fun hx => absurd rfl hx⟩

/-- The end of a body whose result is a row that was in use. -/
theorem end_freeze {fn : Func} {t1 : Tmp} {α : Type} {enc : α → List AV} {xs : List α} {σ : Items} (hr : fn.results = #[.tmp t1]) (hs : af t1 = .exact v) (hm : m = xs.length) (hc : c = xs.flatMap enc) (he : ∀ x, (enc x).length = k) :
    EndA fn E n (fun a s => a = .row k enc xs ∧ s = σ) .ret af (vecI P t v k m c :: σ) :=
  ⟨af.put (some t1) (.row k enc xs), σ, sub_freeze hs hm hc (fun x _ => he x), by rw [hr]; exact AF.put_same _ _ _, rfl⟩
end
end Go.Proofs.Ytkplmgdmkfgjhaa
