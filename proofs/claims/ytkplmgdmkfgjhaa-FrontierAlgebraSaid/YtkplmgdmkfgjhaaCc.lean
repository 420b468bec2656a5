/- Typed rows in use: append, literals, reading, writing; calls with things in use. -/
import Derived.Test.YtkplmgdmkfgjhaaCb
namespace Go.Proofs.Ytkplmgdmkfgjhaa
open Go.RowKit

section
variable {P : Program} {ops : Array Oper} {E : Env} {N : Nat} {af : AF} {σ σ' ρ : Items} {F : BSet} {w w' : World}
variable {d : Option Tmp} {ty : TypeId} {pos : String} {after : Array Edge} {g : Option (Nat × Bool)} {t e : TypeId} {x y : Operand}

theorem Loud.conv {o : Oper} {post : AV → Items → Prop} (h : ∀ k, Items.own σ k ↔ Items.own σ' k) (hG : ∀ F w, Good F σ w → Good F σ' w) (hl : Loud P o af σ' post) : Loud P o af σ post := by
  intro F w ev hg hx
  have hb : ∀ k, both F (Items.own σ) k ↔ both F (Items.own σ') k := fun k => or_congr Iff.rfl (h k)
  have h1 := hl F w ev (hG F w hg) (fun x hx' => (af.ev x).keep (Keeps.refl _ _) (fun k _ hk => (hb k).2 hk) (hx x hx'))
  have out : ∀ {v w'}, Out F σ' w post v w' → Out F σ w post v w' := fun ⟨av, s, a1, a2, a3, a4, a5⟩ => ⟨av, s, a1, a2, a3.mono (fun k _ hk => (h k).2 hk), fun k hk hlt => (h k).2 (a4 k hk hlt), a5⟩
  generalize (execOp ev o).run P w = r at h1
  cases r with
  | ok n w' =>
    cases n <;> simp only [Upon] at h1 ⊢ <;> try exact h1.elim
    case value v => exact out h1
    case skip => exact out h1
    case enter f args => exact h1.mono fun e w'' ⟨v, he, ho⟩ => ⟨v, he, out ho⟩
    case row r args => exact h1.mono fun v w'' ho => out ho
  | halt x w' => exact h1.elim
theorem own_nilvec {n : Nat} (k : Nat) : Items.own (vecI P t (.slice none 0 0) n 0 [] :: σ) k ↔ Items.own σ k := by rw [own_cons]; simp [vecI, Value.ownBlock]
theorem good_nilvec {n : Nat} (hg : Good F σ w) : Good F (vecI P t (.slice none 0 0) n 0 [] :: σ) w := by
  have hM : ∀ k, k < w.heap.size → both F (Items.own (vecI P t (.slice none 0 0) n 0 [] :: σ)) k → both F (Items.own σ) k := fun k _ h => h.imp id (own_nilvec k).1
  refine ⟨hg.fr, fun k h => hg.own k ((own_nilvec k).1 h), ?_, fun it hi => ?_⟩
  · rw [List.flatMap_cons]; simpa [vecI, Value.ownBlock] using hg.nodup
  · rcases List.mem_cons.1 hi with rfl | hi
    · exact ⟨[], World.ownsRow_nil _ _ _ _, trivial⟩
    · exact it.keep (Keeps.refl _ _) hM (hg.items it hi)
theorem Loud.unnil {o : Oper} {post : AV → Items → Prop} {n : Nat} (hl : Loud P o af (vecI P t (.slice none 0 0) n 0 [] :: σ) post) : Loud P o af σ post :=
  hl.conv (fun k => (own_nilvec k).symm) (fun _ _ hg => good_nilvec hg)

section rows
variable {α : Type} {n : Nat} {enc : α → List AV} {xs ys : List α} {v : Value} {K : AF → Items → Prop}
/-- A row in use: a slice of type t, value v, that reads as xs. -/
def vecT (P : Program) (t : TypeId) (n : Nat) (enc : α → List AV) (v : Value) (xs : List α) : Item := vecI P t v n xs.length (xs.flatMap enc)

theorem OneC.flatT (h : ∀ x, OneC (enc x)) : OneC (xs.flatMap enc) := OneC.flat h
/-- What may be appended at the most. -/
abbrev LIM : Nat := 137438953472
theorem op_appT {s z : Operand} (hB : elB P t n = true) (hs : af.ev s = .exact v) (hx : af.ev z = .row n enc ys) (ho : ∀ x, OneC (enc x)) (hl : xs.length + ys.length ≤ LIM) (hk : ∀ v', K (af.put d (.exact v')) (vecT P t n enc v' (xs ++ ys) :: ρ)) :
    opB P ⟨d, .call { callee := .builtin .append, args := #[s, z], argTypes := #[t, t] }, ty, pos, after, g⟩ af (vecT P t n enc v xs :: ρ) K :=
  ⟨_, loud_append hB hs hx (OneC.flatT ho) hl, fun av σ' ⟨v', e1, e2⟩ => by
    subst e1 e2
    have := hk v'
    unfold vecT at this
    rwa [List.length_append, List.flatMap_append] at this⟩
theorem op_appN {s z : Operand} (hB : elB P t n = true) (hs : af.ev s = .exact (.slice none 0 0)) (hx : af.ev z = .row n enc ys) (ho : ∀ x, OneC (enc x)) (hl : ys.length ≤ LIM) (hk : ∀ v', K (af.put d (.exact v')) (vecT P t n enc v' ys :: σ)) :
    opB P ⟨d, .call { callee := .builtin .append, args := #[s, z], argTypes := #[t, t] }, ty, pos, after, g⟩ af σ K :=
  ⟨_, (loud_append (m := 0) (c := []) hB hs hx (OneC.flatT ho) (by have : ys.length ≤ 137438953472 := hl; omega)).unnil, fun av σ' ⟨v', e1, e2⟩ => by
    subst e1 e2
    have := hk v'
    unfold vecT at this
    rwa [List.nil_append, Nat.zero_add]⟩

/-! ### Literals -/
theorem Quiet.le {o : Oper} {a b : AV} (h : Quiet P o af a) (hl : AV.le a b) : Quiet P o af b := by
  intro M w ev hM hx
  have h1 := h M w ev hM hx
  generalize (execOp ev o).run P w = r at h1
  cases r with
  | ok n w' =>
    cases n <;> simp only [UponQ] at h1 ⊢ <;> try exact h1.elim
    case value v => exact ⟨h1.1, hl _ _ _ h1.2⟩
    case skip => exact ⟨h1.1, hl _ _ _ h1.2⟩
    case enter f args => exact h1.mono fun e w'' ⟨v, he, hk, ho⟩ => ⟨v, he, hk, hl _ _ _ ho⟩
    case row r args => exact h1.mono fun v w'' ⟨hk, ho⟩ => ⟨hk, hl _ _ _ ho⟩
  | halt x w' => exact h1.elim
/-- The elements' cells, each fitting what is said of them. -/
def LEss : List (List AV) → List (List AV) → Prop
  | [], [] => True
  | c :: cs, d :: ds => LEs c d ∧ LEss cs ds
  | _, _ => False
theorem LEss.nil : LEss [] [] := trivial
theorem LEss.cons {c c' : List AV} {cs ds : List (List AV)} (h : LEs c c') (h' : LEss cs ds) : LEss (c :: cs) (c' :: ds) := ⟨h, h'⟩
theorem LEs.length : ∀ {xs ys : List AV}, LEs xs ys → xs.length = ys.length
  | [], [], _ => rfl
  | _ :: _, _ :: _, h => by simp [LEs.length h.2]
theorem LEss.get : ∀ {cs ds : List (List AV)}, LEss cs ds → cs.length = ds.length ∧ ∀ (i : Nat) (c d : List AV), cs[i]? = some c → ds[i]? = some d → LEs c d
  | [], [], _ => ⟨rfl, fun i c d h => by simp at h⟩
  | c :: cs, d :: ds, h => ⟨by simp [(LEss.get h.2).1], fun i a b ha hb => by
    cases i with
    | zero => simp at ha hb; subst ha hb; exact h.1
    | succ i => exact (LEss.get h.2).2 i a b (by simpa using ha) (by simpa using hb)⟩
theorem LEss.flat {M : BSet} : ∀ {cs ds : List (List AV)} {vs : List Value}, LEss cs ds → Fit M w cs.flatten vs → Fit M w ds.flatten vs
  | [], [], vs, _, h => h
  | c :: cs, d :: ds, vs, h, hf => by
    rw [List.flatten_cons] at hf ⊢
    have h1 := hf.take c.length
    have h2 := hf.drop c.length
    rw [List.take_left] at h1
    rw [List.drop_left] at h2
    have := (LE_fit h.1 h1).app (LEss.flat h.2 h2)
    rwa [List.take_append_drop] at this
theorem LEs.at : ∀ {xs ys : List AV} {j : Nat} {a : AV}, LEs xs ys → ys[j]? = some a → ∃ b, xs[j]? = some b ∧ AV.le b a
  | [], [], _, _, _, hj => by simp at hj
  | x :: xs, y :: ys, 0, a, h, hj => by simp at hj; subst hj; exact ⟨x, rfl, h.1⟩
  | x :: xs, y :: ys, j + 1, a, h, hj => by
    obtain ⟨b, h1, h2⟩ := LEs.at (xs := xs) (ys := ys) (j := j) h.2 (by simpa using hj)
    exact ⟨b, by simpa using h1, h2⟩
theorem row_les {cs : List (List AV)} (h : LEss cs (xs.map enc)) : AV.le (.row n id cs) (.row n enc xs) := fun M w v ⟨A, q, h1, h2, h3, h4⟩ => by
  obtain ⟨hl, hg⟩ := h.get
  rw [List.length_map] at hl
  refine ⟨A, q, by rw [h1, hl], by omega, h3, fun hx => ?_⟩
  obtain ⟨b, off, g1, g2, g3, g4⟩ := h4 (by rintro rfl; exact hx (List.length_eq_zero_iff.1 hl.symm))
  refine ⟨b, off, g1, g2, g3, fun i x hi => ?_⟩
  have hlt : i < cs.length := by rw [hl]; exact (List.getElem?_eq_some_iff.1 hi).1
  obtain ⟨k1, k2⟩ := g4 i _ (List.getElem?_eq_getElem hlt)
  have hle := hg i _ (enc x) (List.getElem?_eq_getElem hlt) (by simp [hi])
  refine ⟨by rw [← hle.length]; exact k1, fun j a hj => ?_⟩
  obtain ⟨b', hb, hba⟩ := hle.at hj
  obtain ⟨u, hu, hp⟩ := k2 j b' hb
  exact ⟨u, hu, hba _ _ _ hp⟩
theorem op_litT {len : Nat} {ps : List (Nat × Operand)} {cs : List (List AV)} {K : AF → Prop} (xs : List α) (hc : CellsAll af ps cs) (hB3 : cs.map (·.length) = List.replicate len n) (hB : litB P t n len (ps.map (·.1)) = true) (hle : LEss cs (xs.map enc)) (hk : K (af.put d (.row n enc xs))) :
    opA P ⟨d, .buildSlice t len ps.toArray, ty, pos, after, g⟩ af K := ⟨_, (quiet_lit hc hB3 hB).le (row_les hle), hk⟩
theorem flat_map {cs : List (List AV)} : (xs.map enc).flatten = xs.flatMap enc := by rw [List.flatMap_def]
theorem replicate_len {cs : List (List AV)} {len : Nat} (h : cs.map (·.length) = List.replicate len n) : cs.flatten.length = len * n := by
  rw [List.length_flatten, h]; simp
theorem op_litI {len : Nat} {ps : List (Nat × Operand)} {cs : List (List AV)} (xs : List α) (hE : elB P t n = true) (hc : CellsAll af ps cs) (hB3 : cs.map (·.length) = List.replicate len n) (hB : litB P t n len (ps.map (·.1)) = true) (hle : LEss cs (xs.map enc)) (hk : ∀ v', K (af.put d (.exact v')) (vecT P t n enc v' xs :: σ)) :
    opB P ⟨d, .buildSlice t len ps.toArray, ty, pos, after, g⟩ af σ K := by
  refine ⟨fun a s => ∃ v', a = .exact v' ∧ s = vecT P t n enc v' xs :: σ, fun F w ev hg h => ?_, fun av s ⟨v', e1, e2⟩ => by subst e1 e2; exact hk v'⟩
  obtain ⟨e, vs, hu, hn0, hl0, hbig, hcl, hce, hf, hrun⟩ := lit_run (d := d) (ty := ty) (pos := pos) (after := after) (g := g) hc hB3 hB h
  obtain ⟨hu', _⟩ := elB_spec hE
  have he : elemOfT P t = e := by rw [hu] at hu'; injection hu' with h1; injection h1 with h1; exact h1.symm
  have hlen : xs.length = len := by rw [← hcl, hle.get.1, List.length_map]
  have hf' := hle.flat hf
  rw [flat_map (cs := cs)] at hf'
  have hvl : vs.length = len * n := by rw [← hf.length]; exact replicate_len hB3
  rw [hrun]
  have hb : (w.alloc (.cells vs.toArray e)).heap[w.heap.size]? = some (.cells vs.toArray e (0, 0)) := heap_alloc_new w _
  refine out_new (it := vecT P t n enc (.slice (some ⟨w.heap.size, 0, none⟩) len len) xs) hg (by simp [vecT, vecI, Value.ownBlock]) (fun M hM => ⟨vs, ⟨by rw [hlen]; exact hvl, .inr ⟨w.heap.size, len, vs.toArray, by rw [hlen], Nat.zero_le _, by rw [he]; exact hb, by omega, ?_, by simpa using hvl, ?_⟩⟩, ?_⟩) (fun M => rfl) ⟨_, rfl, rfl⟩
  · have : len ≤ len * n := Nat.le_mul_of_pos_right _ hn0
    unfold maxLen; omega
  · rw [hlen, ← hvl]; simp
  · exact hf'.keep (w := w) (w' := w.alloc (.cells vs.toArray e)) ⟨rfl, rfl, rfl, Nat.le_refl _, by simp, fun k hlt _ => heap_alloc_old w _ hlt⟩ hM

/-- An empty literal. -/
def lit0B (P : Program) (t : TypeId) : Bool := match P.underlying t with | some (.slice e) => (P.info? e).isSome | _ => false
theorem run_lit0 {ev : Operand → Value} (h : lit0B P t = true) : ∃ e, P.underlying t = some (.slice e) ∧ (execOp ev ⟨d, .buildSlice t 0 #[], ty, pos, after, g⟩).run P w = .ok (.value (.slice (some ⟨w.heap.size, 0, none⟩) 0 0)) (w.alloc (.cells #[] e)) := by
  unfold lit0B at h
  split at h
  · rename_i e hu
    obtain ⟨I, hI⟩ := Option.isSome_iff_exists.1 h
    refine ⟨e, hu, ?_⟩
    unfold execOp
    simp only [Instr.buildSlice, Sem.run_bind, run_under hu, Result.andThen_ok, run_size (n := I.size) (by simp [hI] : (P.info? e).map (·.size) = some I.size)]
    simp [Instr.fill, newRow, go_sem]
  · cases h
theorem op_lit0 {K : AF → Prop} (h : lit0B P t = true) (hk : K (af.put d (.row n enc ([] : List α)))) : opA P ⟨d, .buildSlice t 0 #[], ty, pos, after, g⟩ af K := by
  refine ⟨_, fun M w ev hM hx => ?_, hk⟩
  obtain ⟨e, _, hr⟩ := run_lit0 (w := w) (ev := ev) (d := d) (ty := ty) (pos := pos) (after := after) (g := g) h
  rw [hr]
  exact ⟨⟨rfl, rfl, rfl, Nat.le_refl _, by simp, fun k hlt _ => heap_alloc_old w _ hlt⟩, _, 0, rfl, by simp, by omega, fun h => absurd rfl h⟩
theorem op_lit0I (hE : elB P t n = true) (hk : ∀ v', K (af.put d (.exact v')) (vecT P t n enc v' ([] : List α) :: σ)) : opB P ⟨d, .buildSlice t 0 #[], ty, pos, after, g⟩ af σ K := by
  refine ⟨fun a s => ∃ v', a = .exact v' ∧ s = vecT P t n enc v' ([] : List α) :: σ, fun F w ev hg h => ?_, fun av s ⟨v', e1, e2⟩ => by subst e1 e2; exact hk v'⟩
  obtain ⟨hu', _, i, z, hi, _⟩ := elB_spec hE
  obtain ⟨e, hu, hr⟩ := run_lit0 (w := w) (ev := ev) (d := d) (ty := ty) (pos := pos) (after := after) (g := g) (by unfold lit0B; rw [hu']; simp [hi] : lit0B P t = true)
  have he : elemOfT P t = e := by rw [hu] at hu'; injection hu' with h1; injection h1 with h1; exact h1.symm
  rw [hr]
  have hb : (w.alloc (.cells #[] e)).heap[w.heap.size]? = some (.cells #[] e (0, 0)) := heap_alloc_new w _
  exact out_new (it := vecT P t n enc (.slice (some ⟨w.heap.size, 0, none⟩) 0 0) ([] : List α)) hg (by simp [vecT, vecI, Value.ownBlock]) (fun M hM => ⟨[], ⟨by simp, .inr ⟨w.heap.size, 0, #[], rfl, Nat.zero_le _, by rw [he]; exact hb, by simp, by unfold maxLen; omega, by simp, by simp⟩⟩, trivial⟩) (fun M => rfl) ⟨_, rfl, rfl⟩

/-! ### From use to staying -/
theorem SubU.freezeT {s : Tmp} (hs : af s = .exact v) (he : ∀ x, (enc x).length = n) : SubU af (vecT P t n enc v xs :: σ) (af.put (some s) (.row n enc xs)) σ := fun _ _ => sub_freeze hs rfl rfl (fun x _ => he x)
theorem SubU.nilT : SubU af σ af (vecT P t n enc (.slice none 0 0) ([] : List α) :: σ) := fun _ _ => sub_nil
/-- Fixed numbers of cells. -/
theorem vec_row {M : BSet} (hM : ∀ k, v.ownBlock = some k → ¬ M k) (he : ∀ x, (enc x).length = n) {M' : BSet} (h : (vecT P t n enc v xs).p M' w) (hMM : ∀ k, k < w.heap.size → M k → M' k) : (AV.row n enc xs).p M w v := by
  obtain ⟨vs, hown, hfit⟩ := h
  rcases hown.2 with ⟨rfl, h0⟩ | ⟨g, cap, cur, rfl, _, hg, hnc, hcm, _, htake⟩
  · obtain rfl : xs = [] := List.length_eq_zero_iff.1 h0
    exact ⟨none, 0, rfl, by simp, by omega, fun h => absurd rfl h⟩
  · refine ⟨some ⟨g, 0, none⟩, cap, rfl, hnc, by simp only [maxLen] at hcm; omega, fun _ => ⟨g, 0, rfl, (Array.getElem?_eq_some_iff.1 hg).1, hM g rfl, fun i x hx => ⟨he x, ?_⟩⟩⟩
    have hcells := cells_of_fit (b := g) (off := 0) (hfit.keep (Keeps.refl _ _) hMM) (fun j u hu => by
      have := hown.cells (g := g) rfl j u hu
      rwa [addr_add'] at this)
    exact hcells.sub (fun j a hj => flat_get (fun x _ => he x) hx j a hj)

/-! ### Lending -/
/-- What is known of x for callers that do not look at what is in use. -/
def Bor (σ : Items) (x y : AV) : Prop := ∀ F w v, Good F σ w → x.p (both F (Items.own σ)) w v → y.p F w v
theorem Bor.le {x y : AV} (h : AV.le x y) : Bor σ x y := fun _ _ _ _ hx => y.keep (Keeps.refl _ _) (fun _ _ hk => .inl hk) (h _ _ _ hx)
theorem Bor.vec (hm : vecT P t n enc v xs ∈ σ) (he : ∀ x, (enc x).length = n) : Bor σ (.exact v) (.row n enc xs) := fun F w u hg hx => by
  obtain rfl : u = v := hx
  refine vec_row (fun k hk hF => ?_) he (hg.items _ hm) (fun k _ hF => .inl hF)
  exact (hg.own k (List.mem_flatMap.2 ⟨_, hm, by simp [vecT, vecI, hk]⟩)).2 hF
def Bors (σ : Items) : List AV → List AV → Prop
  | [], [] => True
  | x :: xs, y :: ys => Bor σ x y ∧ Bors σ xs ys
  | _, _ => False
theorem Bors.nil : Bors σ [] [] := trivial
theorem Bors.cons {x y : AV} {xs ys : List AV} (h : Bor σ x y) (h' : Bors σ xs ys) : Bors σ (x :: xs) (y :: ys) := ⟨h, h'⟩
theorem Bors.fit (hg : Good F σ w) : ∀ {xs ys : List AV} {vs : List Value}, Bors σ xs ys → Fit (both F (Items.own σ)) w xs vs → Fit F w ys vs
  | [], [], [], _, _ => trivial
  | _ :: _, _ :: _, _ :: _, h, hf => ⟨h.1 _ _ _ hg hf.1, Bors.fit hg h.2 hf.2⟩
/-- Known without looking at memory in use. -/
def MI (r : AV) : Prop := ∀ M M' w v, r.p M w v → r.p M' w v
theorem MI.exact {v : Value} : MI (.exact v) := fun _ _ _ _ h => h
theorem MI.fit {M M' : BSet} : ∀ {l : List AV} {vs : List Value}, (∀ a ∈ l, MI a) → Fit M w l vs → Fit M' w l vs
  | [], [], _, _ => trivial
  | a :: l, v :: vs, h, hf => ⟨h a (by simp) _ _ _ _ hf.1, MI.fit (fun b hb => h b (by simp [hb])) hf.2⟩
theorem MI.tup {l : List AV} (h : ∀ a ∈ l, MI a) : MI (.tup l) := fun _ _ _ _ ⟨vs, h1, h2⟩ => ⟨vs, h1, MI.fit h h2⟩
theorem MI.agg {l : List AV} (h : ∀ a ∈ l, MI a) : MI (.agg l) := fun _ _ _ _ ⟨vs, h1, h2⟩ => ⟨vs, h1, MI.fit h h2⟩
theorem MI.all_nil : ∀ a ∈ ([] : List AV), MI a := fun a h => by simp at h
theorem MI.all_cons {a : AV} {l : List AV} (h : MI a) (h' : ∀ b ∈ l, MI b) : ∀ b ∈ a :: l, MI b := fun b hb => by
  rcases List.mem_cons.1 hb with rfl | hb
  · exact h
  · exact h' b hb
theorem op_borrow {f : FuncId} {fn : Func} {args : List AV} {r : AV} {xs : List Operand} {ats : Array TypeId} {K : AF → Prop} (hp : Pure P f args r) (hf : P.funcs[f]? = some fn) (hb : (fn.body.isNone || fn.name == "runtime.NumGoroutine") = false) (hr : MI r)
    (hx : Bors σ (xs.map af.ev) args) (hk : K (af.put d r)) : opR P ⟨d, .call { callee := .value (.func f), args := xs.toArray, argTypes := ats }, ty, pos, after, g⟩ af σ K := by
  refine ⟨r, fun F w ev hg h => ?_, hk⟩
  have he' : ev (.func f) = .func (.func f) #[] #[] := h (.func f) (by simp [Op.operands, Call.operands])
  rw [run_call hf hb he']
  have h0 : Fit (both F (Items.own σ)) w (xs.map af.ev) (xs.map ev) := fit_args (args := xs.map af.ev) h (by
    clear hx h
    induction xs with
    | nil => trivial
    | cons x xs ih => exact ⟨AV.le_refl _, ih⟩)
  exact (hp F w _ hg.fr (hx.fit hg h0)).mono fun e w' ⟨v, he, hk, hp⟩ => ⟨v, he, hk, hr _ _ _ _ hp⟩

theorem op_len_vec {K : AF → Prop} (hB : isSliceB P t = true) (hx : af.ev x = .exact v) (hk : K (af.put d (.exact (.int .i64 (xs.length : Int))))) :
    opR P ⟨d, .call { callee := .builtin .len, args := #[x], argTypes := #[t] }, ty, pos, after, g⟩ af (vecT P e n enc v xs :: ρ) K := by
  refine ⟨_, fun F w ev hg h => ?_, hk⟩
  have e1 := opnd h (x := x) (by simp [Op.operands, Call.operands]) hx
  obtain ⟨e, hu⟩ := isSliceB_spec hB
  obtain ⟨vs, hown, _⟩ := hg.items _ List.mem_cons_self
  have hv : ∃ A c, v = .slice A xs.length c := by
    rcases hown.2 with ⟨rfl, h0⟩ | ⟨g, cap, cur, rfl, _⟩
    · exact ⟨none, 0, by rw [h0]⟩
    · exact ⟨_, _, rfl⟩
  obtain ⟨A, c, rfl⟩ := hv
  simp [execOp, resolve, invoke, builtin, Builtin.len_, e1, run_under hu, goInt, go_sem, UponQ]
  exact ⟨Keeps.refl _ _, rfl⟩
/-- The address of a cell of a row in use. -/
def AV.eptr (v : Value) (o : Nat) : AV := ⟨fun _ _ u => ∃ b l c, v = .slice (some ⟨b, 0, none⟩) l c ∧ u = .pointer (some ⟨b, o, none⟩), fun _ _ h => h⟩
theorem vec_cells {M : BSet} (h : (vecT P t n enc v xs).p M w) (hne : xs ≠ []) : ∃ b c cur vs, v = .slice (some ⟨b, 0, none⟩) xs.length c ∧ w.heap[b]? = some (.cells cur (elemOfT P t) (0, 0)) ∧ xs.length ≤ c ∧ c ≤ maxLen ∧ cur.size = c * n ∧ cur.toList.take (xs.length * n) = vs ∧ Fit M w (xs.flatMap enc) vs := by
  obtain ⟨vs, hown, hfit⟩ := h
  rcases hown.2 with ⟨rfl, h0⟩ | ⟨g, cap, cur, rfl, _, hg, hnc, hcm, hcs, htake⟩
  · exact absurd (List.length_eq_zero_iff.1 h0) hne
  · exact ⟨g, cap, cur, vs, rfl, hg, hnc, hcm, hcs, htake, hfit⟩
theorem op_index_vec {k : IntKind} {i : Int} {K : AF → Prop} (hB : sliceB P t n = true) (hx : af.ev x = .exact v) (hy : af.ev y = .exact (.int k i)) (h0 : 0 ≤ i) (h1 : i < xs.length) (hk : K (af.put d (.eptr v (i.toNat * n)))) :
    opR P ⟨d, .indexAddr t x y, ty, pos, after, g⟩ af (vecT P e n enc v xs :: ρ) K := by
  refine ⟨_, fun F w ev hg h => ?_, hk⟩
  have e1 := opnd h (x := x) (by simp [Op.operands]) hx
  have e2 := opnd h (x := y) (by simp [Op.operands]) hy
  obtain ⟨b, c, cur, vs, hv, _⟩ := vec_cells (hg.items _ List.mem_cons_self) (by rintro rfl; simp at h1; omega)
  obtain ⟨e, hu, hs⟩ := sliceB_spec hB
  subst hv
  have hadd : Addr.add ⟨b, 0, none⟩ (i.toNat * n) = ⟨b, i.toNat * n, none⟩ := by rw [addr_at]; simp
  simp [execOp, Instr.indexAt, e1, e2, run_under hu, asIntOf, h0, h1, run_size hs, hadd, go_sem, UponQ]
  exact ⟨Keeps.refl _ _, b, _, _, rfl, rfl⟩
theorem flat_split {i : Nat} {a : α} (he : ∀ x, (enc x).length = n) (hi : xs[i]? = some a) : xs.flatMap enc = (xs.take i).flatMap enc ++ enc a ++ (xs.drop (i + 1)).flatMap enc ∧ ((xs.take i).flatMap enc).length = i * n := by
  obtain ⟨hlt, rfl⟩ := List.getElem?_eq_some_iff.1 hi
  constructor
  · conv => lhs; rw [← List.take_append_drop i xs, List.drop_eq_getElem_cons hlt, List.flatMap_append, List.flatMap_cons, ← List.append_assoc]
  · rw [flat_len (fun x _ => he x), List.length_take, Nat.min_eq_left (by omega)]
/-- The cells of element i. -/
theorem vec_elem {M : BSet} [Inhabited α] {i : Int} (he : ∀ x, (enc x).length = n) (h : (vecT P t n enc v xs).p M w) (h0 : 0 ≤ i) (h1 : i < xs.length) :
    ∃ b l c us, v = .slice (some ⟨b, 0, none⟩) l c ∧ Fit M w (enc (gi xs i)) us ∧ ∀ (j : Nat) (u : Value), us[j]? = some u → w.cell? ⟨b, i.toNat * n + j, none⟩ = some u := by
  obtain ⟨b, c, cur, vs, rfl, hb, hnc, hcm, hcs, htk, hfit⟩ := vec_cells h (by rintro rfl; simp at h1; omega)
  obtain ⟨hs, hl⟩ := flat_split (enc := enc) he (gi_get h0 h1)
  have hd := (hfit.drop (i.toNat * n)).take n
  have e1 : ((xs.flatMap enc).drop (i.toNat * n)).take n = enc (gi xs i) := by
    rw [hs, List.append_assoc, ← hl, List.drop_left, ← he (gi xs i), List.take_left]
  rw [e1] at hd
  refine ⟨b, _, c, _, rfl, hd, fun j u hj => ?_⟩
  rw [List.getElem?_take] at hj
  split at hj
  · rw [List.getElem?_drop, ← htk, List.getElem?_take] at hj
    split at hj
    · rw [cell_of_row _ b _ _ _ (0, 0) hb]; simpa using hj
    · cases hj
  · cases hj
theorem op_load_vec1 [Inhabited α] {i : Int} {o : Nat} {a : AV} {K : AF → Prop} (hB : loadB P t false 1 = true) (he : ∀ x, (enc x).length = n) (hx : af.ev x = .eptr v (i.toNat * n + o)) (h0 : 0 ≤ i) (h1 : i < xs.length) (hc : (enc (gi xs i))[o]? = some a) (hk : K (af.put d a)) :
    opR P ⟨d, .load t x, ty, pos, after, g⟩ af (vecT P e n enc v xs :: ρ) K := by
  refine ⟨_, fun F w ev hg h => ?_, hk⟩
  obtain ⟨b', l', c', hv', e1⟩ := opnd_p h (x := x) (by simp [Op.operands]) hx
  obtain ⟨b, l, c, us, hv, hf, hcell⟩ := vec_elem he (hg.items _ List.mem_cons_self) h0 h1
  rw [hv] at hv'
  injection hv' with g1 _ _
  injection g1 with g1
  injection g1 with g1 _ _
  subst g1
  obtain ⟨u, hu, hp⟩ := hf.at hc
  have hr : (execOp ev ⟨d, .load t x, ty, pos, after, g⟩).run P w = .ok (.value u) w := by
    unfold execOp
    simp only [e1, Sem.run_bind, run_load1 hB (hcell o u hu), Result.andThen_ok, Sem.run_pure]
  rw [hr]
  exact ⟨Keeps.refl _ _, hp⟩
theorem op_load_vecN [Inhabited α] {i : Int} {o m : Nat} {c' : List AV} {K : AF → Prop} (hB : loadB P t true m = true) (he : ∀ x, (enc x).length = n) (hx : af.ev x = .eptr v (i.toNat * n + o)) (h0 : 0 ≤ i) (h1 : i < xs.length) (hc : ((enc (gi xs i)).drop o).take m = c') (hl : c'.length = m) (hk : K (af.put d (.agg c'))) :
    opR P ⟨d, .load t x, ty, pos, after, g⟩ af (vecT P e n enc v xs :: ρ) K := by
  refine ⟨_, fun F w ev hg h => ?_, hk⟩
  obtain ⟨b', l', cc, hv', e1⟩ := opnd_p h (x := x) (by simp [Op.operands]) hx
  obtain ⟨b, l, c, us, hv, hf, hcell⟩ := vec_elem he (hg.items _ List.mem_cons_self) h0 h1
  rw [hv] at hv'
  injection hv' with g1 _ _
  injection g1 with g1
  injection g1 with g1 _ _
  subst g1
  have hf' := (hf.drop o).take m
  rw [hc] at hf'
  have hr : (execOp ev ⟨d, .load t x, ty, pos, after, g⟩).run P w = .ok (.value (.agg ((us.drop o).take m).toArray)) w := by
    unfold execOp
    simp only [e1, Sem.run_bind, run_loadN hB (hf'.length.symm.trans hl) (fun j hj => by
      have hjl : j < ((us.drop o).take m).length := by rw [← hf'.length]; omega
      refine ⟨_, List.getElem?_eq_getElem hjl, ?_⟩
      rw [Nat.add_assoc]
      refine hcell (o + j) _ ?_
      rw [← List.getElem?_eq_getElem hjl, List.getElem?_take_of_lt hj, List.getElem?_drop]), Result.andThen_ok, Sem.run_pure]
  rw [hr]
  exact ⟨Keeps.refl _ _, _, rfl, hf'⟩
theorem op_field_eptr {f o o0 : Nat} {K : AF → Prop} (hB : fieldB P t f o = true) (hx : af.ev x = .eptr v o0) (hk : K (af.put d (.eptr v (o0 + o)))) : opA P ⟨d, .fieldAddr t x f, ty, pos, after, g⟩ af K := by
  refine ⟨_, fun M w ev _ h => ?_, hk⟩
  obtain ⟨b, l, c, hv, e1⟩ := opnd_p h (x := x) (by simp [Op.operands]) hx
  have hr : (execOp ev ⟨d, .fieldAddr t x f, ty, pos, after, g⟩).run P w = .ok (.value (.pointer (some ⟨b, o0 + o, none⟩))) w := by
    unfold execOp
    simp only [e1, Sem.run_bind, run_fieldAt hB, Result.andThen_ok, Sem.run_pure]
  rw [hr]
  exact ⟨Keeps.refl _ _, b, l, c, hv, rfl⟩
theorem set_flat [Inhabited α] {i : Int} {z : α} {o : Nat} {c' : List AV} (he : ∀ x, (enc x).length = n) (h0 : 0 ≤ i) (h1 : i < xs.length) (hz : splc (enc (gi xs i)) o c' = enc z) (ho : o + c'.length ≤ n) : splc (xs.flatMap enc) (i.toNat * n + o) c' = (xs.set i.toNat z).flatMap enc := by
  obtain ⟨hs, hl⟩ := flat_split (enc := enc) he (gi_get h0 h1)
  have hlt : i.toNat < xs.length := by omega
  have hset : xs.set i.toNat z = xs.take i.toNat ++ z :: xs.drop (i.toNat + 1) := by rw [List.set_eq_take_append_cons_drop, if_pos hlt]
  rw [hset, List.flatMap_append, List.flatMap_cons, ← hz]
  unfold splc
  rw [hs]
  generalize hA : (xs.take i.toNat).flatMap enc = A at hl
  generalize hC : (xs.drop (i.toNat + 1)).flatMap enc = C
  generalize hM : enc (gi xs i) = B
  have hBl : B.length = n := by rw [← hM]; exact he _
  rw [← hl]
  rw [List.append_assoc A B C, show A.length + o + c'.length = A.length + (o + c'.length) by omega, List.take_length_add_append, List.drop_length_add_append,
    List.take_append_of_le_length (by omega), List.drop_append_of_le_length (by omega)]
  simp [List.append_assoc]
theorem op_store_vec [Inhabited α] {i : Int} {o : Nat} {a : AV} {c2 c' : List AV} {z : α} (hE : elB P e n = true) (he : ∀ x, (enc x).length = n) (hx : af.ev x = .eptr v (i.toNat * n + o)) (h0 : 0 ≤ i) (h1 : i < xs.length) (hy : af.ev y = a) (hc : CellsOf a c2) (hle : LEs c2 c') (ho1 : OneC c2) (hs : sizeB P t c'.length = true) (ho : o + c'.length ≤ n)
    (hz : splc (enc (gi xs i)) o c' = enc z) (hk : K (af.put d undefA) (vecT P e n enc v (xs.set i.toNat z) :: ρ)) : opB P ⟨d, .store t x y, ty, pos, after, g⟩ af (vecT P e n enc v xs :: ρ) K := by
  refine ⟨fun a s => a = undefA ∧ s = vecT P e n enc v (xs.set i.toNat z) :: ρ, fun F w ev hg h => ?_, fun av s ⟨e1, e2⟩ => by subst e1 e2; exact hk⟩
  obtain ⟨b', l', cc, hv', e1⟩ := opnd_p h (x := x) (by simp [Op.operands]) hx
  obtain ⟨us, e2, hf2⟩ := hc _ w _ (opnd_p h (x := y) (by simp [Op.operands]) hy)
  obtain ⟨b, c, cur, vs, hv, hb, hnc, hcm, hcs, htk, hfit⟩ := vec_cells (hg.items _ List.mem_cons_self) (by rintro rfl; simp at h1; omega)
  rw [hv] at hv'
  injection hv' with g1 _ _
  injection g1 with g1
  injection g1 with g1 _ _
  subst g1
  have hf3 := LE_fit hle hf2
  have hlen : us.length = c'.length := hf3.length.symm
  have hbd : i.toNat * n + o + us.length ≤ xs.length * n := by
    have : (i.toNat + 1) * n ≤ xs.length * n := Nat.mul_le_mul_right _ (by omega)
    rw [Nat.add_mul] at this
    omega
  have hcn : xs.length * n ≤ cur.size := by rw [hcs]; exact Nat.mul_le_mul_right _ hnc
  have hr : (execOp ev ⟨d, .store t x y, ty, pos, after, g⟩).run P w = .ok .skip (w.setRow b (splc cur.toList (i.toNat * n + o) us).toArray) := by
    unfold execOp
    have hst := run_storeAt (P := P) (t := t) (w := w) (b := b) (o := i.toNat * n + o) (u := ev y) (cur := cur.toList) (us := us) (bt := elemOfT P e) (by rw [hlen]; exact hs) (by simpa using hb) e2 (by simp; omega) (ho1.fit hf2)
    simp only [e1, Sem.run_bind, hst, Result.andThen_ok, Sem.run_pure]
  rw [hr]
  have hblt := (Array.getElem?_eq_some_iff.1 hb).1
  have hob : v.ownBlock = some b := by rw [hv]; rfl
  have hk : Keeps (fun k => k ∈ (vecT P e n enc v xs).own) w (w.setRow b (splc cur.toList (i.toNat * n + o) us).toArray) := ⟨rfl, rfl, rfl, Nat.le_refl _, by simp, fun k hlt hn => by
    have hne : k ≠ b := fun e => hn (by simp [vecT, vecI, hob, e])
    simp [World.setRow, Array.getElem?_modify, Ne.symm hne]⟩
  have hsp : splc cur.toList (i.toNat * n + o) us = splc (cur.toList.take (xs.length * n)) (i.toNat * n + o) us ++ cur.toList.drop (xs.length * n) := by
    unfold splc
    rw [List.take_take, Nat.min_eq_left (by omega), List.append_assoc _ _ (cur.toList.drop (xs.length * n))]
    congr 1
    rw [List.drop_take]
    have h9 : i.toNat * n + o + us.length + (xs.length * n - (i.toNat * n + o + us.length)) = xs.length * n := by omega
    conv => rhs; rhs; rw [← h9, ← List.drop_drop]
    rw [List.take_append_drop]
  have hfs := Fit.spl (i.toNat * n + o) hfit hf3
  rw [set_flat he h0 h1 hz ho] at hfs
  have hsl : (splc vs (i.toNat * n + o) us).length = xs.length * n := by
    rw [← hfs.length, flat_len (fun x _ => he x), List.length_set]
  have hown : (w.setRow b (splc cur.toList (i.toNat * n + o) us).toArray).ownsRow 0 (elemOfT P e) n v (xs.set i.toNat z).length (splc vs (i.toNat * n + o) us) := by
    refine ⟨by rw [hsl, List.length_set], .inr ⟨b, c, (splc cur.toList (i.toNat * n + o) us).toArray, by rw [List.length_set]; exact hv, Nat.zero_le _, setRow_heap w b cur _ (elemOfT P e) _ hb, by rw [List.length_set]; exact hnc, hcm, ?_, ?_⟩⟩
    · unfold splc; simp; omega
    · rw [List.length_set, hsp, htk]
      simp [← hsl]
  obtain ⟨g1, g2, g3⟩ := good_head (it' := vecT P e n enc v (xs.set i.toNat z)) hg hk (fun k hk' => ⟨by simp [vecT, vecI, hob] at hk'; subst hk'; simpa using hblt, fun _ => hk'⟩) (by simp [vecT, vecI, hob])
    (fun hkk hMM => ⟨splc vs (i.toNat * n + o) us, hown, hfs.keep hkk hMM⟩)
  exact ⟨_, _, ⟨rfl, rfl⟩, g1, g2, g3, rfl⟩
end rows

/-! ### Calls with things in use -/
theorem op_funX {f : FuncId} {fn : Func} {args : List AV} {post : AV → Items → Prop} {xs : List Operand} {ats : Array TypeId} {σ0 : Items} {K : AF → Items → Prop} (hp : Fun P f args σ0 post) (hf : P.funcs[f]? = some fn) (hb : (fn.body.isNone || fn.name == "runtime.NumGoroutine") = false)
    (hx : LEs (xs.map af.ev) args) (hk : ∀ av s', post av s' → K (af.put d av) (s' ++ ρ)) : opB P ⟨d, .call { callee := .value (.func f), args := xs.toArray, argTypes := ats }, ty, pos, after, g⟩ af (σ0 ++ ρ) K :=
  op_fun (hp.frame ρ) hf hb hx (fun av σ' ⟨s', h1, h2⟩ => by subst h2; exact hk av s' h1)
theorem op_fun_0_0_0 {f : FuncId} {fn : Func} {args : List AV} {A : AV} {xs : List Operand} {ats : Array TypeId} {K : AF → Items → Prop} (hp : Fun P f args [] (fun a s => a = A ∧ s = [])) (hf : P.funcs[f]? = some fn) (hb : (fn.body.isNone || fn.name == "runtime.NumGoroutine") = false)
    (hx : LEs (xs.map af.ev) args) (hk : K (af.put d (A)) (ρ)) : opB P ⟨d, .call { callee := .value (.func f), args := xs.toArray, argTypes := ats }, ty, pos, after, g⟩ af (ρ) K :=
  op_funX (σ0 := []) hp hf hb hx (fun av s' h => by
    obtain ⟨rfl, rfl⟩ := h
    exact hk)
theorem op_fun_0_0_1 {f : FuncId} {fn : Func} {args : List AV} {A : AV} {s0 : Item} {xs : List Operand} {ats : Array TypeId} {K : AF → Items → Prop} (hp : Fun P f args [] (fun a s => a = A ∧ s = [s0])) (hf : P.funcs[f]? = some fn) (hb : (fn.body.isNone || fn.name == "runtime.NumGoroutine") = false)
    (hx : LEs (xs.map af.ev) args) (hk : K (af.put d (A)) (s0 :: ρ)) : opB P ⟨d, .call { callee := .value (.func f), args := xs.toArray, argTypes := ats }, ty, pos, after, g⟩ af (ρ) K :=
  op_funX (σ0 := []) hp hf hb hx (fun av s' h => by
    obtain ⟨rfl, rfl⟩ := h
    exact hk)
theorem op_fun_0_0_2 {f : FuncId} {fn : Func} {args : List AV} {A : AV} {s0 s1 : Item} {xs : List Operand} {ats : Array TypeId} {K : AF → Items → Prop} (hp : Fun P f args [] (fun a s => a = A ∧ s = [s0, s1])) (hf : P.funcs[f]? = some fn) (hb : (fn.body.isNone || fn.name == "runtime.NumGoroutine") = false)
    (hx : LEs (xs.map af.ev) args) (hk : K (af.put d (A)) (s0 :: s1 :: ρ)) : opB P ⟨d, .call { callee := .value (.func f), args := xs.toArray, argTypes := ats }, ty, pos, after, g⟩ af (ρ) K :=
  op_funX (σ0 := []) hp hf hb hx (fun av s' h => by
    obtain ⟨rfl, rfl⟩ := h
    exact hk)
theorem op_fun_0_0_3 {f : FuncId} {fn : Func} {args : List AV} {A : AV} {s0 s1 s2 : Item} {xs : List Operand} {ats : Array TypeId} {K : AF → Items → Prop} (hp : Fun P f args [] (fun a s => a = A ∧ s = [s0, s1, s2])) (hf : P.funcs[f]? = some fn) (hb : (fn.body.isNone || fn.name == "runtime.NumGoroutine") = false)
    (hx : LEs (xs.map af.ev) args) (hk : K (af.put d (A)) (s0 :: s1 :: s2 :: ρ)) : opB P ⟨d, .call { callee := .value (.func f), args := xs.toArray, argTypes := ats }, ty, pos, after, g⟩ af (ρ) K :=
  op_funX (σ0 := []) hp hf hb hx (fun av s' h => by
    obtain ⟨rfl, rfl⟩ := h
    exact hk)
theorem op_fun_0_1_0 {f : FuncId} {fn : Func} {args : List AV} {X0 : Type} {A : X0 → AV} {xs : List Operand} {ats : Array TypeId} {K : AF → Items → Prop} (hp : Fun P f args [] (fun a s => ∃ v0, a = A v0 ∧ s = [])) (hf : P.funcs[f]? = some fn) (hb : (fn.body.isNone || fn.name == "runtime.NumGoroutine") = false)
    (hx : LEs (xs.map af.ev) args) (hk : ∀ v0, K (af.put d (A v0)) (ρ)) : opB P ⟨d, .call { callee := .value (.func f), args := xs.toArray, argTypes := ats }, ty, pos, after, g⟩ af (ρ) K :=
  op_funX (σ0 := []) hp hf hb hx (fun av s' h => by
    obtain ⟨v0, rfl, rfl⟩ := h
    exact hk v0)
theorem op_fun_0_1_1 {f : FuncId} {fn : Func} {args : List AV} {X0 : Type} {A : X0 → AV} {s0 : X0 → Item} {xs : List Operand} {ats : Array TypeId} {K : AF → Items → Prop} (hp : Fun P f args [] (fun a s => ∃ v0, a = A v0 ∧ s = [s0 v0])) (hf : P.funcs[f]? = some fn) (hb : (fn.body.isNone || fn.name == "runtime.NumGoroutine") = false)
    (hx : LEs (xs.map af.ev) args) (hk : ∀ v0, K (af.put d (A v0)) (s0 v0 :: ρ)) : opB P ⟨d, .call { callee := .value (.func f), args := xs.toArray, argTypes := ats }, ty, pos, after, g⟩ af (ρ) K :=
  op_funX (σ0 := []) hp hf hb hx (fun av s' h => by
    obtain ⟨v0, rfl, rfl⟩ := h
    exact hk v0)
theorem op_fun_0_1_2 {f : FuncId} {fn : Func} {args : List AV} {X0 : Type} {A : X0 → AV} {s0 s1 : X0 → Item} {xs : List Operand} {ats : Array TypeId} {K : AF → Items → Prop} (hp : Fun P f args [] (fun a s => ∃ v0, a = A v0 ∧ s = [s0 v0, s1 v0])) (hf : P.funcs[f]? = some fn) (hb : (fn.body.isNone || fn.name == "runtime.NumGoroutine") = false)
    (hx : LEs (xs.map af.ev) args) (hk : ∀ v0, K (af.put d (A v0)) (s0 v0 :: s1 v0 :: ρ)) : opB P ⟨d, .call { callee := .value (.func f), args := xs.toArray, argTypes := ats }, ty, pos, after, g⟩ af (ρ) K :=
  op_funX (σ0 := []) hp hf hb hx (fun av s' h => by
    obtain ⟨v0, rfl, rfl⟩ := h
    exact hk v0)
theorem op_fun_0_1_3 {f : FuncId} {fn : Func} {args : List AV} {X0 : Type} {A : X0 → AV} {s0 s1 s2 : X0 → Item} {xs : List Operand} {ats : Array TypeId} {K : AF → Items → Prop} (hp : Fun P f args [] (fun a s => ∃ v0, a = A v0 ∧ s = [s0 v0, s1 v0, s2 v0])) (hf : P.funcs[f]? = some fn) (hb : (fn.body.isNone || fn.name == "runtime.NumGoroutine") = false)
    (hx : LEs (xs.map af.ev) args) (hk : ∀ v0, K (af.put d (A v0)) (s0 v0 :: s1 v0 :: s2 v0 :: ρ)) : opB P ⟨d, .call { callee := .value (.func f), args := xs.toArray, argTypes := ats }, ty, pos, after, g⟩ af (ρ) K :=
  op_funX (σ0 := []) hp hf hb hx (fun av s' h => by
    obtain ⟨v0, rfl, rfl⟩ := h
    exact hk v0)
theorem op_fun_0_2_0 {f : FuncId} {fn : Func} {args : List AV} {X0 X1 : Type} {A : X0 → X1 → AV} {xs : List Operand} {ats : Array TypeId} {K : AF → Items → Prop} (hp : Fun P f args [] (fun a s => ∃ v0 v1, a = A v0 v1 ∧ s = [])) (hf : P.funcs[f]? = some fn) (hb : (fn.body.isNone || fn.name == "runtime.NumGoroutine") = false)
    (hx : LEs (xs.map af.ev) args) (hk : ∀ v0 v1, K (af.put d (A v0 v1)) (ρ)) : opB P ⟨d, .call { callee := .value (.func f), args := xs.toArray, argTypes := ats }, ty, pos, after, g⟩ af (ρ) K :=
  op_funX (σ0 := []) hp hf hb hx (fun av s' h => by
    obtain ⟨v0, v1, rfl, rfl⟩ := h
    exact hk v0 v1)
theorem op_fun_0_2_1 {f : FuncId} {fn : Func} {args : List AV} {X0 X1 : Type} {A : X0 → X1 → AV} {s0 : X0 → X1 → Item} {xs : List Operand} {ats : Array TypeId} {K : AF → Items → Prop} (hp : Fun P f args [] (fun a s => ∃ v0 v1, a = A v0 v1 ∧ s = [s0 v0 v1])) (hf : P.funcs[f]? = some fn) (hb : (fn.body.isNone || fn.name == "runtime.NumGoroutine") = false)
    (hx : LEs (xs.map af.ev) args) (hk : ∀ v0 v1, K (af.put d (A v0 v1)) (s0 v0 v1 :: ρ)) : opB P ⟨d, .call { callee := .value (.func f), args := xs.toArray, argTypes := ats }, ty, pos, after, g⟩ af (ρ) K :=
  op_funX (σ0 := []) hp hf hb hx (fun av s' h => by
    obtain ⟨v0, v1, rfl, rfl⟩ := h
    exact hk v0 v1)
theorem op_fun_0_2_2 {f : FuncId} {fn : Func} {args : List AV} {X0 X1 : Type} {A : X0 → X1 → AV} {s0 s1 : X0 → X1 → Item} {xs : List Operand} {ats : Array TypeId} {K : AF → Items → Prop} (hp : Fun P f args [] (fun a s => ∃ v0 v1, a = A v0 v1 ∧ s = [s0 v0 v1, s1 v0 v1])) (hf : P.funcs[f]? = some fn) (hb : (fn.body.isNone || fn.name == "runtime.NumGoroutine") = false)
    (hx : LEs (xs.map af.ev) args) (hk : ∀ v0 v1, K (af.put d (A v0 v1)) (s0 v0 v1 :: s1 v0 v1 :: ρ)) : opB P ⟨d, .call { callee := .value (.func f), args := xs.toArray, argTypes := ats }, ty, pos, after, g⟩ af (ρ) K :=
  op_funX (σ0 := []) hp hf hb hx (fun av s' h => by
    obtain ⟨v0, v1, rfl, rfl⟩ := h
    exact hk v0 v1)
theorem op_fun_0_2_3 {f : FuncId} {fn : Func} {args : List AV} {X0 X1 : Type} {A : X0 → X1 → AV} {s0 s1 s2 : X0 → X1 → Item} {xs : List Operand} {ats : Array TypeId} {K : AF → Items → Prop} (hp : Fun P f args [] (fun a s => ∃ v0 v1, a = A v0 v1 ∧ s = [s0 v0 v1, s1 v0 v1, s2 v0 v1])) (hf : P.funcs[f]? = some fn) (hb : (fn.body.isNone || fn.name == "runtime.NumGoroutine") = false)
    (hx : LEs (xs.map af.ev) args) (hk : ∀ v0 v1, K (af.put d (A v0 v1)) (s0 v0 v1 :: s1 v0 v1 :: s2 v0 v1 :: ρ)) : opB P ⟨d, .call { callee := .value (.func f), args := xs.toArray, argTypes := ats }, ty, pos, after, g⟩ af (ρ) K :=
  op_funX (σ0 := []) hp hf hb hx (fun av s' h => by
    obtain ⟨v0, v1, rfl, rfl⟩ := h
    exact hk v0 v1)
theorem op_fun_1_0_0 {f : FuncId} {fn : Func} {args : List AV} {x0 : Item} {A : AV} {xs : List Operand} {ats : Array TypeId} {K : AF → Items → Prop} (hp : Fun P f args [x0] (fun a s => a = A ∧ s = [])) (hf : P.funcs[f]? = some fn) (hb : (fn.body.isNone || fn.name == "runtime.NumGoroutine") = false)
    (hx : LEs (xs.map af.ev) args) (hk : K (af.put d (A)) (ρ)) : opB P ⟨d, .call { callee := .value (.func f), args := xs.toArray, argTypes := ats }, ty, pos, after, g⟩ af (x0 :: ρ) K :=
  op_funX (σ0 := [x0]) hp hf hb hx (fun av s' h => by
    obtain ⟨rfl, rfl⟩ := h
    exact hk)
theorem op_fun_1_0_1 {f : FuncId} {fn : Func} {args : List AV} {x0 : Item} {A : AV} {s0 : Item} {xs : List Operand} {ats : Array TypeId} {K : AF → Items → Prop} (hp : Fun P f args [x0] (fun a s => a = A ∧ s = [s0])) (hf : P.funcs[f]? = some fn) (hb : (fn.body.isNone || fn.name == "runtime.NumGoroutine") = false)
    (hx : LEs (xs.map af.ev) args) (hk : K (af.put d (A)) (s0 :: ρ)) : opB P ⟨d, .call { callee := .value (.func f), args := xs.toArray, argTypes := ats }, ty, pos, after, g⟩ af (x0 :: ρ) K :=
  op_funX (σ0 := [x0]) hp hf hb hx (fun av s' h => by
    obtain ⟨rfl, rfl⟩ := h
    exact hk)
theorem op_fun_1_0_2 {f : FuncId} {fn : Func} {args : List AV} {x0 : Item} {A : AV} {s0 s1 : Item} {xs : List Operand} {ats : Array TypeId} {K : AF → Items → Prop} (hp : Fun P f args [x0] (fun a s => a = A ∧ s = [s0, s1])) (hf : P.funcs[f]? = some fn) (hb : (fn.body.isNone || fn.name == "runtime.NumGoroutine") = false)
    (hx : LEs (xs.map af.ev) args) (hk : K (af.put d (A)) (s0 :: s1 :: ρ)) : opB P ⟨d, .call { callee := .value (.func f), args := xs.toArray, argTypes := ats }, ty, pos, after, g⟩ af (x0 :: ρ) K :=
  op_funX (σ0 := [x0]) hp hf hb hx (fun av s' h => by
    obtain ⟨rfl, rfl⟩ := h
    exact hk)
theorem op_fun_1_0_3 {f : FuncId} {fn : Func} {args : List AV} {x0 : Item} {A : AV} {s0 s1 s2 : Item} {xs : List Operand} {ats : Array TypeId} {K : AF → Items → Prop} (hp : Fun P f args [x0] (fun a s => a = A ∧ s = [s0, s1, s2])) (hf : P.funcs[f]? = some fn) (hb : (fn.body.isNone || fn.name == "runtime.NumGoroutine") = false)
    (hx : LEs (xs.map af.ev) args) (hk : K (af.put d (A)) (s0 :: s1 :: s2 :: ρ)) : opB P ⟨d, .call { callee := .value (.func f), args := xs.toArray, argTypes := ats }, ty, pos, after, g⟩ af (x0 :: ρ) K :=
  op_funX (σ0 := [x0]) hp hf hb hx (fun av s' h => by
    obtain ⟨rfl, rfl⟩ := h
    exact hk)
theorem op_fun_1_1_0 {f : FuncId} {fn : Func} {args : List AV} {x0 : Item} {X0 : Type} {A : X0 → AV} {xs : List Operand} {ats : Array TypeId} {K : AF → Items → Prop} (hp : Fun P f args [x0] (fun a s => ∃ v0, a = A v0 ∧ s = [])) (hf : P.funcs[f]? = some fn) (hb : (fn.body.isNone || fn.name == "runtime.NumGoroutine") = false)
    (hx : LEs (xs.map af.ev) args) (hk : ∀ v0, K (af.put d (A v0)) (ρ)) : opB P ⟨d, .call { callee := .value (.func f), args := xs.toArray, argTypes := ats }, ty, pos, after, g⟩ af (x0 :: ρ) K :=
  op_funX (σ0 := [x0]) hp hf hb hx (fun av s' h => by
    obtain ⟨v0, rfl, rfl⟩ := h
    exact hk v0)
theorem op_fun_1_1_1 {f : FuncId} {fn : Func} {args : List AV} {x0 : Item} {X0 : Type} {A : X0 → AV} {s0 : X0 → Item} {xs : List Operand} {ats : Array TypeId} {K : AF → Items → Prop} (hp : Fun P f args [x0] (fun a s => ∃ v0, a = A v0 ∧ s = [s0 v0])) (hf : P.funcs[f]? = some fn) (hb : (fn.body.isNone || fn.name == "runtime.NumGoroutine") = false)
    (hx : LEs (xs.map af.ev) args) (hk : ∀ v0, K (af.put d (A v0)) (s0 v0 :: ρ)) : opB P ⟨d, .call { callee := .value (.func f), args := xs.toArray, argTypes := ats }, ty, pos, after, g⟩ af (x0 :: ρ) K :=
  op_funX (σ0 := [x0]) hp hf hb hx (fun av s' h => by
    obtain ⟨v0, rfl, rfl⟩ := h
    exact hk v0)
theorem op_fun_1_1_2 {f : FuncId} {fn : Func} {args : List AV} {x0 : Item} {X0 : Type} {A : X0 → AV} {s0 s1 : X0 → Item} {xs : List Operand} {ats : Array TypeId} {K : AF → Items → Prop} (hp : Fun P f args [x0] (fun a s => ∃ v0, a = A v0 ∧ s = [s0 v0, s1 v0])) (hf : P.funcs[f]? = some fn) (hb : (fn.body.isNone || fn.name == "runtime.NumGoroutine") = false)
    (hx : LEs (xs.map af.ev) args) (hk : ∀ v0, K (af.put d (A v0)) (s0 v0 :: s1 v0 :: ρ)) : opB P ⟨d, .call { callee := .value (.func f), args := xs.toArray, argTypes := ats }, ty, pos, after, g⟩ af (x0 :: ρ) K :=
  op_funX (σ0 := [x0]) hp hf hb hx (fun av s' h => by
    obtain ⟨v0, rfl, rfl⟩ := h
    exact hk v0)
theorem op_fun_1_1_3 {f : FuncId} {fn : Func} {args : List AV} {x0 : Item} {X0 : Type} {A : X0 → AV} {s0 s1 s2 : X0 → Item} {xs : List Operand} {ats : Array TypeId} {K : AF → Items → Prop} (hp : Fun P f args [x0] (fun a s => ∃ v0, a = A v0 ∧ s = [s0 v0, s1 v0, s2 v0])) (hf : P.funcs[f]? = some fn) (hb : (fn.body.isNone || fn.name == "runtime.NumGoroutine") = false)
    (hx : LEs (xs.map af.ev) args) (hk : ∀ v0, K (af.put d (A v0)) (s0 v0 :: s1 v0 :: s2 v0 :: ρ)) : opB P ⟨d, .call { callee := .value (.func f), args := xs.toArray, argTypes := ats }, ty, pos, after, g⟩ af (x0 :: ρ) K :=
  op_funX (σ0 := [x0]) hp hf hb hx (fun av s' h => by
    obtain ⟨v0, rfl, rfl⟩ := h
    exact hk v0)
theorem op_fun_1_2_0 {f : FuncId} {fn : Func} {args : List AV} {x0 : Item} {X0 X1 : Type} {A : X0 → X1 → AV} {xs : List Operand} {ats : Array TypeId} {K : AF → Items → Prop} (hp : Fun P f args [x0] (fun a s => ∃ v0 v1, a = A v0 v1 ∧ s = [])) (hf : P.funcs[f]? = some fn) (hb : (fn.body.isNone || fn.name == "runtime.NumGoroutine") = false)
    (hx : LEs (xs.map af.ev) args) (hk : ∀ v0 v1, K (af.put d (A v0 v1)) (ρ)) : opB P ⟨d, .call { callee := .value (.func f), args := xs.toArray, argTypes := ats }, ty, pos, after, g⟩ af (x0 :: ρ) K :=
  op_funX (σ0 := [x0]) hp hf hb hx (fun av s' h => by
    obtain ⟨v0, v1, rfl, rfl⟩ := h
    exact hk v0 v1)
theorem op_fun_1_2_1 {f : FuncId} {fn : Func} {args : List AV} {x0 : Item} {X0 X1 : Type} {A : X0 → X1 → AV} {s0 : X0 → X1 → Item} {xs : List Operand} {ats : Array TypeId} {K : AF → Items → Prop} (hp : Fun P f args [x0] (fun a s => ∃ v0 v1, a = A v0 v1 ∧ s = [s0 v0 v1])) (hf : P.funcs[f]? = some fn) (hb : (fn.body.isNone || fn.name == "runtime.NumGoroutine") = false)
    (hx : LEs (xs.map af.ev) args) (hk : ∀ v0 v1, K (af.put d (A v0 v1)) (s0 v0 v1 :: ρ)) : opB P ⟨d, .call { callee := .value (.func f), args := xs.toArray, argTypes := ats }, ty, pos, after, g⟩ af (x0 :: ρ) K :=
  op_funX (σ0 := [x0]) hp hf hb hx (fun av s' h => by
    obtain ⟨v0, v1, rfl, rfl⟩ := h
    exact hk v0 v1)
theorem op_fun_1_2_2 {f : FuncId} {fn : Func} {args : List AV} {x0 : Item} {X0 X1 : Type} {A : X0 → X1 → AV} {s0 s1 : X0 → X1 → Item} {xs : List Operand} {ats : Array TypeId} {K : AF → Items → Prop} (hp : Fun P f args [x0] (fun a s => ∃ v0 v1, a = A v0 v1 ∧ s = [s0 v0 v1, s1 v0 v1])) (hf : P.funcs[f]? = some fn) (hb : (fn.body.isNone || fn.name == "runtime.NumGoroutine") = false)
    (hx : LEs (xs.map af.ev) args) (hk : ∀ v0 v1, K (af.put d (A v0 v1)) (s0 v0 v1 :: s1 v0 v1 :: ρ)) : opB P ⟨d, .call { callee := .value (.func f), args := xs.toArray, argTypes := ats }, ty, pos, after, g⟩ af (x0 :: ρ) K :=
  op_funX (σ0 := [x0]) hp hf hb hx (fun av s' h => by
    obtain ⟨v0, v1, rfl, rfl⟩ := h
    exact hk v0 v1)
theorem op_fun_1_2_3 {f : FuncId} {fn : Func} {args : List AV} {x0 : Item} {X0 X1 : Type} {A : X0 → X1 → AV} {s0 s1 s2 : X0 → X1 → Item} {xs : List Operand} {ats : Array TypeId} {K : AF → Items → Prop} (hp : Fun P f args [x0] (fun a s => ∃ v0 v1, a = A v0 v1 ∧ s = [s0 v0 v1, s1 v0 v1, s2 v0 v1])) (hf : P.funcs[f]? = some fn) (hb : (fn.body.isNone || fn.name == "runtime.NumGoroutine") = false)
    (hx : LEs (xs.map af.ev) args) (hk : ∀ v0 v1, K (af.put d (A v0 v1)) (s0 v0 v1 :: s1 v0 v1 :: s2 v0 v1 :: ρ)) : opB P ⟨d, .call { callee := .value (.func f), args := xs.toArray, argTypes := ats }, ty, pos, after, g⟩ af (x0 :: ρ) K :=
  op_funX (σ0 := [x0]) hp hf hb hx (fun av s' h => by
    obtain ⟨v0, v1, rfl, rfl⟩ := h
    exact hk v0 v1)
theorem op_fun_2_0_0 {f : FuncId} {fn : Func} {args : List AV} {x0 x1 : Item} {A : AV} {xs : List Operand} {ats : Array TypeId} {K : AF → Items → Prop} (hp : Fun P f args [x0, x1] (fun a s => a = A ∧ s = [])) (hf : P.funcs[f]? = some fn) (hb : (fn.body.isNone || fn.name == "runtime.NumGoroutine") = false)
    (hx : LEs (xs.map af.ev) args) (hk : K (af.put d (A)) (ρ)) : opB P ⟨d, .call { callee := .value (.func f), args := xs.toArray, argTypes := ats }, ty, pos, after, g⟩ af (x0 :: x1 :: ρ) K :=
  op_funX (σ0 := [x0, x1]) hp hf hb hx (fun av s' h => by
    obtain ⟨rfl, rfl⟩ := h
    exact hk)
theorem op_fun_2_0_1 {f : FuncId} {fn : Func} {args : List AV} {x0 x1 : Item} {A : AV} {s0 : Item} {xs : List Operand} {ats : Array TypeId} {K : AF → Items → Prop} (hp : Fun P f args [x0, x1] (fun a s => a = A ∧ s = [s0])) (hf : P.funcs[f]? = some fn) (hb : (fn.body.isNone || fn.name == "runtime.NumGoroutine") = false)
    (hx : LEs (xs.map af.ev) args) (hk : K (af.put d (A)) (s0 :: ρ)) : opB P ⟨d, .call { callee := .value (.func f), args := xs.toArray, argTypes := ats }, ty, pos, after, g⟩ af (x0 :: x1 :: ρ) K :=
  op_funX (σ0 := [x0, x1]) hp hf hb hx (fun av s' h => by
    obtain ⟨rfl, rfl⟩ := h
    exact hk)
theorem op_fun_2_0_2 {f : FuncId} {fn : Func} {args : List AV} {x0 x1 : Item} {A : AV} {s0 s1 : Item} {xs : List Operand} {ats : Array TypeId} {K : AF → Items → Prop} (hp : Fun P f args [x0, x1] (fun a s => a = A ∧ s = [s0, s1])) (hf : P.funcs[f]? = some fn) (hb : (fn.body.isNone || fn.name == "runtime.NumGoroutine") = false)
    (hx : LEs (xs.map af.ev) args) (hk : K (af.put d (A)) (s0 :: s1 :: ρ)) : opB P ⟨d, .call { callee := .value (.func f), args := xs.toArray, argTypes := ats }, ty, pos, after, g⟩ af (x0 :: x1 :: ρ) K :=
  op_funX (σ0 := [x0, x1]) hp hf hb hx (fun av s' h => by
    obtain ⟨rfl, rfl⟩ := h
    exact hk)
theorem op_fun_2_0_3 {f : FuncId} {fn : Func} {args : List AV} {x0 x1 : Item} {A : AV} {s0 s1 s2 : Item} {xs : List Operand} {ats : Array TypeId} {K : AF → Items → Prop} (hp : Fun P f args [x0, x1] (fun a s => a = A ∧ s = [s0, s1, s2])) (hf : P.funcs[f]? = some fn) (hb : (fn.body.isNone || fn.name == "runtime.NumGoroutine") = false)
    (hx : LEs (xs.map af.ev) args) (hk : K (af.put d (A)) (s0 :: s1 :: s2 :: ρ)) : opB P ⟨d, .call { callee := .value (.func f), args := xs.toArray, argTypes := ats }, ty, pos, after, g⟩ af (x0 :: x1 :: ρ) K :=
  op_funX (σ0 := [x0, x1]) hp hf hb hx (fun av s' h => by
    obtain ⟨rfl, rfl⟩ := h
    exact hk)
theorem op_fun_2_1_0 {f : FuncId} {fn : Func} {args : List AV} {x0 x1 : Item} {X0 : Type} {A : X0 → AV} {xs : List Operand} {ats : Array TypeId} {K : AF → Items → Prop} (hp : Fun P f args [x0, x1] (fun a s => ∃ v0, a = A v0 ∧ s = [])) (hf : P.funcs[f]? = some fn) (hb : (fn.body.isNone || fn.name == "runtime.NumGoroutine") = false)
    (hx : LEs (xs.map af.ev) args) (hk : ∀ v0, K (af.put d (A v0)) (ρ)) : opB P ⟨d, .call { callee := .value (.func f), args := xs.toArray, argTypes := ats }, ty, pos, after, g⟩ af (x0 :: x1 :: ρ) K :=
  op_funX (σ0 := [x0, x1]) hp hf hb hx (fun av s' h => by
    obtain ⟨v0, rfl, rfl⟩ := h
    exact hk v0)
theorem op_fun_2_1_1 {f : FuncId} {fn : Func} {args : List AV} {x0 x1 : Item} {X0 : Type} {A : X0 → AV} {s0 : X0 → Item} {xs : List Operand} {ats : Array TypeId} {K : AF → Items → Prop} (hp : Fun P f args [x0, x1] (fun a s => ∃ v0, a = A v0 ∧ s = [s0 v0])) (hf : P.funcs[f]? = some fn) (hb : (fn.body.isNone || fn.name == "runtime.NumGoroutine") = false)
    (hx : LEs (xs.map af.ev) args) (hk : ∀ v0, K (af.put d (A v0)) (s0 v0 :: ρ)) : opB P ⟨d, .call { callee := .value (.func f), args := xs.toArray, argTypes := ats }, ty, pos, after, g⟩ af (x0 :: x1 :: ρ) K :=
  op_funX (σ0 := [x0, x1]) hp hf hb hx (fun av s' h => by
    obtain ⟨v0, rfl, rfl⟩ := h
    exact hk v0)
theorem op_fun_2_1_2 {f : FuncId} {fn : Func} {args : List AV} {x0 x1 : Item} {X0 : Type} {A : X0 → AV} {s0 s1 : X0 → Item} {xs : List Operand} {ats : Array TypeId} {K : AF → Items → Prop} (hp : Fun P f args [x0, x1] (fun a s => ∃ v0, a = A v0 ∧ s = [s0 v0, s1 v0])) (hf : P.funcs[f]? = some fn) (hb : (fn.body.isNone || fn.name == "runtime.NumGoroutine") = false)
    (hx : LEs (xs.map af.ev) args) (hk : ∀ v0, K (af.put d (A v0)) (s0 v0 :: s1 v0 :: ρ)) : opB P ⟨d, .call { callee := .value (.func f), args := xs.toArray, argTypes := ats }, ty, pos, after, g⟩ af (x0 :: x1 :: ρ) K :=
  op_funX (σ0 := [x0, x1]) hp hf hb hx (fun av s' h => by
    obtain ⟨v0, rfl, rfl⟩ := h
    exact hk v0)
theorem op_fun_2_1_3 {f : FuncId} {fn : Func} {args : List AV} {x0 x1 : Item} {X0 : Type} {A : X0 → AV} {s0 s1 s2 : X0 → Item} {xs : List Operand} {ats : Array TypeId} {K : AF → Items → Prop} (hp : Fun P f args [x0, x1] (fun a s => ∃ v0, a = A v0 ∧ s = [s0 v0, s1 v0, s2 v0])) (hf : P.funcs[f]? = some fn) (hb : (fn.body.isNone || fn.name == "runtime.NumGoroutine") = false)
    (hx : LEs (xs.map af.ev) args) (hk : ∀ v0, K (af.put d (A v0)) (s0 v0 :: s1 v0 :: s2 v0 :: ρ)) : opB P ⟨d, .call { callee := .value (.func f), args := xs.toArray, argTypes := ats }, ty, pos, after, g⟩ af (x0 :: x1 :: ρ) K :=
  op_funX (σ0 := [x0, x1]) hp hf hb hx (fun av s' h => by
    obtain ⟨v0, rfl, rfl⟩ := h
    exact hk v0)
theorem op_fun_2_2_0 {f : FuncId} {fn : Func} {args : List AV} {x0 x1 : Item} {X0 X1 : Type} {A : X0 → X1 → AV} {xs : List Operand} {ats : Array TypeId} {K : AF → Items → Prop} (hp : Fun P f args [x0, x1] (fun a s => ∃ v0 v1, a = A v0 v1 ∧ s = [])) (hf : P.funcs[f]? = some fn) (hb : (fn.body.isNone || fn.name == "runtime.NumGoroutine") = false)
    (hx : LEs (xs.map af.ev) args) (hk : ∀ v0 v1, K (af.put d (A v0 v1)) (ρ)) : opB P ⟨d, .call { callee := .value (.func f), args := xs.toArray, argTypes := ats }, ty, pos, after, g⟩ af (x0 :: x1 :: ρ) K :=
  op_funX (σ0 := [x0, x1]) hp hf hb hx (fun av s' h => by
    obtain ⟨v0, v1, rfl, rfl⟩ := h
    exact hk v0 v1)
theorem op_fun_2_2_1 {f : FuncId} {fn : Func} {args : List AV} {x0 x1 : Item} {X0 X1 : Type} {A : X0 → X1 → AV} {s0 : X0 → X1 → Item} {xs : List Operand} {ats : Array TypeId} {K : AF → Items → Prop} (hp : Fun P f args [x0, x1] (fun a s => ∃ v0 v1, a = A v0 v1 ∧ s = [s0 v0 v1])) (hf : P.funcs[f]? = some fn) (hb : (fn.body.isNone || fn.name == "runtime.NumGoroutine") = false)
    (hx : LEs (xs.map af.ev) args) (hk : ∀ v0 v1, K (af.put d (A v0 v1)) (s0 v0 v1 :: ρ)) : opB P ⟨d, .call { callee := .value (.func f), args := xs.toArray, argTypes := ats }, ty, pos, after, g⟩ af (x0 :: x1 :: ρ) K :=
  op_funX (σ0 := [x0, x1]) hp hf hb hx (fun av s' h => by
    obtain ⟨v0, v1, rfl, rfl⟩ := h
    exact hk v0 v1)
theorem op_fun_2_2_2 {f : FuncId} {fn : Func} {args : List AV} {x0 x1 : Item} {X0 X1 : Type} {A : X0 → X1 → AV} {s0 s1 : X0 → X1 → Item} {xs : List Operand} {ats : Array TypeId} {K : AF → Items → Prop} (hp : Fun P f args [x0, x1] (fun a s => ∃ v0 v1, a = A v0 v1 ∧ s = [s0 v0 v1, s1 v0 v1])) (hf : P.funcs[f]? = some fn) (hb : (fn.body.isNone || fn.name == "runtime.NumGoroutine") = false)
    (hx : LEs (xs.map af.ev) args) (hk : ∀ v0 v1, K (af.put d (A v0 v1)) (s0 v0 v1 :: s1 v0 v1 :: ρ)) : opB P ⟨d, .call { callee := .value (.func f), args := xs.toArray, argTypes := ats }, ty, pos, after, g⟩ af (x0 :: x1 :: ρ) K :=
  op_funX (σ0 := [x0, x1]) hp hf hb hx (fun av s' h => by
    obtain ⟨v0, v1, rfl, rfl⟩ := h
    exact hk v0 v1)
theorem op_fun_2_2_3 {f : FuncId} {fn : Func} {args : List AV} {x0 x1 : Item} {X0 X1 : Type} {A : X0 → X1 → AV} {s0 s1 s2 : X0 → X1 → Item} {xs : List Operand} {ats : Array TypeId} {K : AF → Items → Prop} (hp : Fun P f args [x0, x1] (fun a s => ∃ v0 v1, a = A v0 v1 ∧ s = [s0 v0 v1, s1 v0 v1, s2 v0 v1])) (hf : P.funcs[f]? = some fn) (hb : (fn.body.isNone || fn.name == "runtime.NumGoroutine") = false)
    (hx : LEs (xs.map af.ev) args) (hk : ∀ v0 v1, K (af.put d (A v0 v1)) (s0 v0 v1 :: s1 v0 v1 :: s2 v0 v1 :: ρ)) : opB P ⟨d, .call { callee := .value (.func f), args := xs.toArray, argTypes := ats }, ty, pos, after, g⟩ af (x0 :: x1 :: ρ) K :=
  op_funX (σ0 := [x0, x1]) hp hf hb hx (fun av s' h => by
    obtain ⟨v0, v1, rfl, rfl⟩ := h
    exact hk v0 v1)
theorem op_fun_3_0_0 {f : FuncId} {fn : Func} {args : List AV} {x0 x1 x2 : Item} {A : AV} {xs : List Operand} {ats : Array TypeId} {K : AF → Items → Prop} (hp : Fun P f args [x0, x1, x2] (fun a s => a = A ∧ s = [])) (hf : P.funcs[f]? = some fn) (hb : (fn.body.isNone || fn.name == "runtime.NumGoroutine") = false)
    (hx : LEs (xs.map af.ev) args) (hk : K (af.put d (A)) (ρ)) : opB P ⟨d, .call { callee := .value (.func f), args := xs.toArray, argTypes := ats }, ty, pos, after, g⟩ af (x0 :: x1 :: x2 :: ρ) K :=
  op_funX (σ0 := [x0, x1, x2]) hp hf hb hx (fun av s' h => by
    obtain ⟨rfl, rfl⟩ := h
    exact hk)
theorem op_fun_3_0_1 {f : FuncId} {fn : Func} {args : List AV} {x0 x1 x2 : Item} {A : AV} {s0 : Item} {xs : List Operand} {ats : Array TypeId} {K : AF → Items → Prop} (hp : Fun P f args [x0, x1, x2] (fun a s => a = A ∧ s = [s0])) (hf : P.funcs[f]? = some fn) (hb : (fn.body.isNone || fn.name == "runtime.NumGoroutine") = false)
    (hx : LEs (xs.map af.ev) args) (hk : K (af.put d (A)) (s0 :: ρ)) : opB P ⟨d, .call { callee := .value (.func f), args := xs.toArray, argTypes := ats }, ty, pos, after, g⟩ af (x0 :: x1 :: x2 :: ρ) K :=
  op_funX (σ0 := [x0, x1, x2]) hp hf hb hx (fun av s' h => by
    obtain ⟨rfl, rfl⟩ := h
    exact hk)
theorem op_fun_3_0_2 {f : FuncId} {fn : Func} {args : List AV} {x0 x1 x2 : Item} {A : AV} {s0 s1 : Item} {xs : List Operand} {ats : Array TypeId} {K : AF → Items → Prop} (hp : Fun P f args [x0, x1, x2] (fun a s => a = A ∧ s = [s0, s1])) (hf : P.funcs[f]? = some fn) (hb : (fn.body.isNone || fn.name == "runtime.NumGoroutine") = false)
    (hx : LEs (xs.map af.ev) args) (hk : K (af.put d (A)) (s0 :: s1 :: ρ)) : opB P ⟨d, .call { callee := .value (.func f), args := xs.toArray, argTypes := ats }, ty, pos, after, g⟩ af (x0 :: x1 :: x2 :: ρ) K :=
  op_funX (σ0 := [x0, x1, x2]) hp hf hb hx (fun av s' h => by
    obtain ⟨rfl, rfl⟩ := h
    exact hk)
theorem op_fun_3_0_3 {f : FuncId} {fn : Func} {args : List AV} {x0 x1 x2 : Item} {A : AV} {s0 s1 s2 : Item} {xs : List Operand} {ats : Array TypeId} {K : AF → Items → Prop} (hp : Fun P f args [x0, x1, x2] (fun a s => a = A ∧ s = [s0, s1, s2])) (hf : P.funcs[f]? = some fn) (hb : (fn.body.isNone || fn.name == "runtime.NumGoroutine") = false)
    (hx : LEs (xs.map af.ev) args) (hk : K (af.put d (A)) (s0 :: s1 :: s2 :: ρ)) : opB P ⟨d, .call { callee := .value (.func f), args := xs.toArray, argTypes := ats }, ty, pos, after, g⟩ af (x0 :: x1 :: x2 :: ρ) K :=
  op_funX (σ0 := [x0, x1, x2]) hp hf hb hx (fun av s' h => by
    obtain ⟨rfl, rfl⟩ := h
    exact hk)
theorem op_fun_3_1_0 {f : FuncId} {fn : Func} {args : List AV} {x0 x1 x2 : Item} {X0 : Type} {A : X0 → AV} {xs : List Operand} {ats : Array TypeId} {K : AF → Items → Prop} (hp : Fun P f args [x0, x1, x2] (fun a s => ∃ v0, a = A v0 ∧ s = [])) (hf : P.funcs[f]? = some fn) (hb : (fn.body.isNone || fn.name == "runtime.NumGoroutine") = false)
    (hx : LEs (xs.map af.ev) args) (hk : ∀ v0, K (af.put d (A v0)) (ρ)) : opB P ⟨d, .call { callee := .value (.func f), args := xs.toArray, argTypes := ats }, ty, pos, after, g⟩ af (x0 :: x1 :: x2 :: ρ) K :=
  op_funX (σ0 := [x0, x1, x2]) hp hf hb hx (fun av s' h => by
    obtain ⟨v0, rfl, rfl⟩ := h
    exact hk v0)
theorem op_fun_3_1_1 {f : FuncId} {fn : Func} {args : List AV} {x0 x1 x2 : Item} {X0 : Type} {A : X0 → AV} {s0 : X0 → Item} {xs : List Operand} {ats : Array TypeId} {K : AF → Items → Prop} (hp : Fun P f args [x0, x1, x2] (fun a s => ∃ v0, a = A v0 ∧ s = [s0 v0])) (hf : P.funcs[f]? = some fn) (hb : (fn.body.isNone || fn.name == "runtime.NumGoroutine") = false)
    (hx : LEs (xs.map af.ev) args) (hk : ∀ v0, K (af.put d (A v0)) (s0 v0 :: ρ)) : opB P ⟨d, .call { callee := .value (.func f), args := xs.toArray, argTypes := ats }, ty, pos, after, g⟩ af (x0 :: x1 :: x2 :: ρ) K :=
  op_funX (σ0 := [x0, x1, x2]) hp hf hb hx (fun av s' h => by
    obtain ⟨v0, rfl, rfl⟩ := h
    exact hk v0)
theorem op_fun_3_1_2 {f : FuncId} {fn : Func} {args : List AV} {x0 x1 x2 : Item} {X0 : Type} {A : X0 → AV} {s0 s1 : X0 → Item} {xs : List Operand} {ats : Array TypeId} {K : AF → Items → Prop} (hp : Fun P f args [x0, x1, x2] (fun a s => ∃ v0, a = A v0 ∧ s = [s0 v0, s1 v0])) (hf : P.funcs[f]? = some fn) (hb : (fn.body.isNone || fn.name == "runtime.NumGoroutine") = false)
    (hx : LEs (xs.map af.ev) args) (hk : ∀ v0, K (af.put d (A v0)) (s0 v0 :: s1 v0 :: ρ)) : opB P ⟨d, .call { callee := .value (.func f), args := xs.toArray, argTypes := ats }, ty, pos, after, g⟩ af (x0 :: x1 :: x2 :: ρ) K :=
  op_funX (σ0 := [x0, x1, x2]) hp hf hb hx (fun av s' h => by
    obtain ⟨v0, rfl, rfl⟩ := h
    exact hk v0)
theorem op_fun_3_1_3 {f : FuncId} {fn : Func} {args : List AV} {x0 x1 x2 : Item} {X0 : Type} {A : X0 → AV} {s0 s1 s2 : X0 → Item} {xs : List Operand} {ats : Array TypeId} {K : AF → Items → Prop} (hp : Fun P f args [x0, x1, x2] (fun a s => ∃ v0, a = A v0 ∧ s = [s0 v0, s1 v0, s2 v0])) (hf : P.funcs[f]? = some fn) (hb : (fn.body.isNone || fn.name == "runtime.NumGoroutine") = false)
    (hx : LEs (xs.map af.ev) args) (hk : ∀ v0, K (af.put d (A v0)) (s0 v0 :: s1 v0 :: s2 v0 :: ρ)) : opB P ⟨d, .call { callee := .value (.func f), args := xs.toArray, argTypes := ats }, ty, pos, after, g⟩ af (x0 :: x1 :: x2 :: ρ) K :=
  op_funX (σ0 := [x0, x1, x2]) hp hf hb hx (fun av s' h => by
    obtain ⟨v0, rfl, rfl⟩ := h
    exact hk v0)
theorem op_fun_3_2_0 {f : FuncId} {fn : Func} {args : List AV} {x0 x1 x2 : Item} {X0 X1 : Type} {A : X0 → X1 → AV} {xs : List Operand} {ats : Array TypeId} {K : AF → Items → Prop} (hp : Fun P f args [x0, x1, x2] (fun a s => ∃ v0 v1, a = A v0 v1 ∧ s = [])) (hf : P.funcs[f]? = some fn) (hb : (fn.body.isNone || fn.name == "runtime.NumGoroutine") = false)
    (hx : LEs (xs.map af.ev) args) (hk : ∀ v0 v1, K (af.put d (A v0 v1)) (ρ)) : opB P ⟨d, .call { callee := .value (.func f), args := xs.toArray, argTypes := ats }, ty, pos, after, g⟩ af (x0 :: x1 :: x2 :: ρ) K :=
  op_funX (σ0 := [x0, x1, x2]) hp hf hb hx (fun av s' h => by
    obtain ⟨v0, v1, rfl, rfl⟩ := h
    exact hk v0 v1)
theorem op_fun_3_2_1 {f : FuncId} {fn : Func} {args : List AV} {x0 x1 x2 : Item} {X0 X1 : Type} {A : X0 → X1 → AV} {s0 : X0 → X1 → Item} {xs : List Operand} {ats : Array TypeId} {K : AF → Items → Prop} (hp : Fun P f args [x0, x1, x2] (fun a s => ∃ v0 v1, a = A v0 v1 ∧ s = [s0 v0 v1])) (hf : P.funcs[f]? = some fn) (hb : (fn.body.isNone || fn.name == "runtime.NumGoroutine") = false)
    (hx : LEs (xs.map af.ev) args) (hk : ∀ v0 v1, K (af.put d (A v0 v1)) (s0 v0 v1 :: ρ)) : opB P ⟨d, .call { callee := .value (.func f), args := xs.toArray, argTypes := ats }, ty, pos, after, g⟩ af (x0 :: x1 :: x2 :: ρ) K :=
  op_funX (σ0 := [x0, x1, x2]) hp hf hb hx (fun av s' h => by
    obtain ⟨v0, v1, rfl, rfl⟩ := h
    exact hk v0 v1)
theorem op_fun_3_2_2 {f : FuncId} {fn : Func} {args : List AV} {x0 x1 x2 : Item} {X0 X1 : Type} {A : X0 → X1 → AV} {s0 s1 : X0 → X1 → Item} {xs : List Operand} {ats : Array TypeId} {K : AF → Items → Prop} (hp : Fun P f args [x0, x1, x2] (fun a s => ∃ v0 v1, a = A v0 v1 ∧ s = [s0 v0 v1, s1 v0 v1])) (hf : P.funcs[f]? = some fn) (hb : (fn.body.isNone || fn.name == "runtime.NumGoroutine") = false)
    (hx : LEs (xs.map af.ev) args) (hk : ∀ v0 v1, K (af.put d (A v0 v1)) (s0 v0 v1 :: s1 v0 v1 :: ρ)) : opB P ⟨d, .call { callee := .value (.func f), args := xs.toArray, argTypes := ats }, ty, pos, after, g⟩ af (x0 :: x1 :: x2 :: ρ) K :=
  op_funX (σ0 := [x0, x1, x2]) hp hf hb hx (fun av s' h => by
    obtain ⟨v0, v1, rfl, rfl⟩ := h
    exact hk v0 v1)
theorem op_fun_3_2_3 {f : FuncId} {fn : Func} {args : List AV} {x0 x1 x2 : Item} {X0 X1 : Type} {A : X0 → X1 → AV} {s0 s1 s2 : X0 → X1 → Item} {xs : List Operand} {ats : Array TypeId} {K : AF → Items → Prop} (hp : Fun P f args [x0, x1, x2] (fun a s => ∃ v0 v1, a = A v0 v1 ∧ s = [s0 v0 v1, s1 v0 v1, s2 v0 v1])) (hf : P.funcs[f]? = some fn) (hb : (fn.body.isNone || fn.name == "runtime.NumGoroutine") = false)
    (hx : LEs (xs.map af.ev) args) (hk : ∀ v0 v1, K (af.put d (A v0 v1)) (s0 v0 v1 :: s1 v0 v1 :: s2 v0 v1 :: ρ)) : opB P ⟨d, .call { callee := .value (.func f), args := xs.toArray, argTypes := ats }, ty, pos, after, g⟩ af (x0 :: x1 :: x2 :: ρ) K :=
  op_funX (σ0 := [x0, x1, x2]) hp hf hb hx (fun av s' h => by
    obtain ⟨v0, v1, rfl, rfl⟩ := h
    exact hk v0 v1)
/-- A row made by a call stays. -/
theorem Pure.ofOwn {f : FuncId} {args : List AV} {α : Type} {n : Nat} {enc : α → List AV} {xs : List α} (he : ∀ x, (enc x).length = n) (h : Fun P f args [] (fun a s => ∃ v, a = .exact v ∧ s = [vecT P t n enc v xs])) : Pure P f args (.row n enc xs) := by
  intro M w vs hM hfit
  have hown : ∀ k, ¬ Items.own [] k := fun k hk => by simp [Items.own] at hk
  refine (h M w vs ⟨hM, fun k hk => (hown k hk).elim, List.nodup_nil, fun it hi => by cases hi⟩ (hfit.keep (Keeps.refl _ _) (fun k _ hk => hk.elim id (fun h => (hown k h).elim)))).mono ?_
  rintro e w' ⟨v, hev, av, σ', ⟨v', rfl, rfl⟩, hg, hk, hn, hp⟩
  obtain rfl : v = v' := hp
  refine ⟨v, hev, hk.mono (fun k _ ho => (hown k ho).elim), ?_⟩
  refine vec_row (fun k hkb hMk => ?_) he (hg.items _ List.mem_cons_self) (fun k _ hk => .inl hk)
  exact (hg.own k (List.mem_flatMap.2 ⟨_, List.mem_cons_self, by simp [vecT, vecI, hkb]⟩)).2 hMk
end
end Go.Proofs.Ytkplmgdmkfgjhaa
