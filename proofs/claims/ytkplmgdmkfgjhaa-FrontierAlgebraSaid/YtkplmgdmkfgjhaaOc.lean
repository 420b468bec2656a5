/- Arguments of any plain type opened: what their readings hold; the closing of a row. -/
import Derived.Test.YtkplmgdmkfgjhaaRows
import Derived.Test.YtkplmgdmkfgjhaaCm
import Derived.ProofKit
import Derived.OpenShut
import Derived.Deep.Slices
import Derived.Deep.Strs
import Derived.JoinedCond
namespace Go.Proofs.Ytkplmgdmkfgjhaa
open Go.ChangeShapes Go.WideShapes Go.ChangeAt Go.RowKit Go.Deep

theorem Try.own : ownKnob Try.prog.godebug = none := by kernel_rfl
theorem Try.laidOut : laidOutB Try.prog = true := by kernel_rfl
theorem Keeps.below {w w' : World} (h : Keeps noB w w') : Below w.heap.size w w' := ⟨h.os, h.tape, h.output, h.size, fun k hk => h.block k hk (fun hf => hf)⟩

section
variable {P : Program} {t e : TypeId} {α β γ δ : Type}
/-- What is read at type t is an x of size sz x. -/
def Opens (P : Program) (t : TypeId) (n : Nat) (enc : α → List AV) (sz : α → Nat) (Q : α → Prop) : Prop :=
  ∀ {H : Type} (e0 : TypeId × Value → H) (W : World) (fuel : Nat) (cs : List Value) (y : DataW H × List MemPlace), DataW.trod e0 P W 0 (fun _ => true) true fuel t cs = some y → ∃ x : α, Q x ∧ cs.length = n ∧ Fit noB W (enc x) cs ∧ sz x ≤ Rows.uptoBulk y.1
theorem opens_int {k : IntKind} (ht : P.underlying t = some (.int k)) : Opens P t 1 (fun x : Int => [.exact (.int k x)]) (fun _ => 1) (fun x => (Lit.int k x).wf = true) := fun e0 W fuel cs y h => by
  obtain ⟨n, rfl, rfl, hw⟩ := DataW.trod_int ht h
  exact ⟨n, hw, rfl, ⟨rfl, trivial⟩, by simp [Rows.uptoBulk]⟩
theorem opens_u8 (ht : P.underlying t = some (.int .u8)) : Opens P t 1 (fun x : UInt8 => [.exact (.int .u8 (x.toNat : Int))]) (fun _ => 1) (fun _ => True) := fun e0 W fuel cs y h => by
  obtain ⟨n, rfl, rfl, hw⟩ := DataW.trod_int ht h
  have h' : 0 ≤ n ∧ n ≤ 255 := by simpa [Lit.wf, IntKind.min, IntKind.max, IntKind.signed, IntKind.bits] using hw
  have h2 : ((UInt8.ofNat n.toNat).toNat : Int) = n := by
    simp only [UInt8.toNat_ofNat']
    omega
  refine ⟨UInt8.ofNat n.toNat, trivial, rfl, ⟨?_, trivial⟩, by simp [Rows.uptoBulk]⟩
  show Value.int .u8 n = .int .u8 ((UInt8.ofNat n.toNat).toNat : Int)
  rw [h2]
theorem opens_bool (ht : P.underlying t = some .bool) : Opens P t 1 (fun x : Bool => [.exact (.bool x)]) (fun _ => 1) (fun _ => True) := fun e0 W fuel cs y h => by
  obtain ⟨b, rfl, rfl⟩ := DataW.trod_bool ht h
  exact ⟨b, trivial, rfl, ⟨rfl, trivial⟩, by simp [Rows.uptoBulk]⟩
theorem opens_str (ht : P.underlying t = some .string) : Opens P t 1 (fun x : List UInt8 => [.exact (.string (bs x))]) (fun x => x.length + 1) (fun x => x.length ≤ maxLen) := fun e0 W fuel cs y h => by
  obtain ⟨s, rfl, rfl, hm⟩ := DataW.trod_string ht h
  refine ⟨s.data.toList, by simpa using hm, rfl, ⟨rfl, trivial⟩, by simp [Rows.uptoBulk]⟩
theorem opens_struct2 {f0 f1 : Field} {n0 n1 : Nat} {a : α → List AV} {b : β → List AV} {sa : α → Nat} {sb : β → Nat} {qa : α → Prop} {qb : β → Prop} (ht : P.underlying t = some (.struct #[f0, f1]))
    (hc : P.cellsOf t = n0 + n1) (o0 : f0.offset = 0) (o1 : f1.offset = n0) (c0 : P.cellsOf f0.type = n0) (c1 : P.cellsOf f1.type = n1) (h0 : Opens P f0.type n0 a sa qa) (h1 : Opens P f1.type n1 b sb qb) :
    Opens P t (n0 + n1) (fun x : α × β => a x.1 ++ b x.2) (fun x => sa x.1 + sb x.2) (fun x => qa x.1 ∧ qb x.2) := fun e0 W fuel cs y h => by
  obtain ⟨y0, y1, n, rfl, hl, g0, g1⟩ := trod_struct2 ht h
  rw [o0, c0, List.drop_zero] at g0
  rw [o1, c1] at g1
  obtain ⟨x0, q0, l0, k0, s0⟩ := h0 e0 W _ _ _ g0
  obtain ⟨x1, q1, l1, k1, s1⟩ := h1 e0 W _ _ _ g1
  rw [hc] at hl
  refine ⟨(x0, x1), ⟨q0, q1⟩, hl, ?_, by simp [Rows.uptoBulk, Rows.uptoBulkAll]; omega⟩
  have e : cs = cs.take n0 ++ (cs.drop n0).take n1 := by
    rw [List.take_of_length_le (l := cs.drop n0) (by simp; omega), List.take_append_drop]
  rw [e]
  exact k0.app k1
theorem opens_struct3 {f0 f1 f2 : Field} {n0 n1 n2 : Nat} {a : α → List AV} {b : β → List AV} {c : γ → List AV} {sa : α → Nat} {sb : β → Nat} {sc : γ → Nat} {qa : α → Prop} {qb : β → Prop} {qc : γ → Prop} (ht : P.underlying t = some (.struct #[f0, f1, f2]))
    (hc : P.cellsOf t = n0 + n1 + n2) (o0 : f0.offset = 0) (o1 : f1.offset = n0) (o2 : f2.offset = n0 + n1) (c0 : P.cellsOf f0.type = n0) (c1 : P.cellsOf f1.type = n1) (c2 : P.cellsOf f2.type = n2) (h0 : Opens P f0.type n0 a sa qa) (h1 : Opens P f1.type n1 b sb qb) (h2 : Opens P f2.type n2 c sc qc) :
    Opens P t (n0 + n1 + n2) (fun x : α × β × γ => a x.1 ++ (b x.2.1 ++ c x.2.2)) (fun x => sa x.1 + sb x.2.1 + sc x.2.2) (fun x => qa x.1 ∧ qb x.2.1 ∧ qc x.2.2) := fun e0 W fuel cs y h => by
  obtain ⟨y0, y1, y2, n, rfl, hl, g0, g1, g2⟩ := trod_struct3 ht h
  rw [o0, c0, List.drop_zero] at g0
  rw [o1, c1] at g1
  rw [o2, c2] at g2
  obtain ⟨x0, q0, l0, k0, s0⟩ := h0 e0 W _ _ _ g0
  obtain ⟨x1, q1, l1, k1, s1⟩ := h1 e0 W _ _ _ g1
  obtain ⟨x2, q2, l2, k2, s2⟩ := h2 e0 W _ _ _ g2
  rw [hc] at hl
  refine ⟨(x0, x1, x2), ⟨q0, q1, q2⟩, hl, ?_, by simp [Rows.uptoBulk, Rows.uptoBulkAll]; omega⟩
  have e : cs = cs.take n0 ++ ((cs.drop n0).take n1 ++ (cs.drop (n0 + n1)).take n2) := by
    rw [List.take_of_length_le (l := cs.drop (n0 + n1)) (by simp; omega), show n0 + n1 = n0 + n1 from rfl, ← List.drop_drop, List.take_append_drop, List.take_append_drop]
  rw [e]
  exact k0.app (k1.app k2)
theorem opens_arr2 {n0 : Nat} {a : α → List AV} {sa : α → Nat} {qa : α → Prop} (ht : P.underlying t = some (.array 2 e)) (hc : P.cellsOf t = n0 + n0) (c0 : P.cellsOf e = n0) (h0 : Opens P e n0 a sa qa) :
    Opens P t (n0 + n0) (fun x : α × α => a x.1 ++ a x.2) (fun x => sa x.1 + sa x.2) (fun x => qa x.1 ∧ qa x.2) := fun e0 W fuel cs y h => by
  obtain ⟨xs, m, _, rfl, hl, hx, g⟩ := DataW.trod_array ht h
  match xs, hx with
  | [y0, y1], _ =>
    have g0 := g 0 (by omega)
    have g1 := g 1 (by omega)
    rw [c0, Nat.zero_mul, List.drop_zero] at g0
    rw [c0, Nat.one_mul] at g1
    obtain ⟨x0, q0, l0, k0, s0⟩ := h0 e0 W _ _ _ g0
    obtain ⟨x1, q1, l1, k1, s1⟩ := h0 e0 W _ _ _ g1
    rw [hc] at hl
    refine ⟨(x0, x1), ⟨q0, q1⟩, hl, ?_, by simp [Rows.uptoBulk, Rows.uptoBulkAll]; omega⟩
    have e : cs = cs.take n0 ++ (cs.drop n0).take n0 := by
      rw [List.take_of_length_le (l := cs.drop n0) (by simp; omega), List.take_append_drop]
    rw [e]
    exact k0.app k1
theorem list_of {R : Nat → α → Prop} : ∀ n : Nat, (∀ i, i < n → ∃ x, R i x) → ∃ xs : List α, xs.length = n ∧ ∀ i x, xs[i]? = some x → R i x
  | 0, _ => ⟨[], rfl, fun i x h => by simp at h⟩
  | n + 1, h => by
    obtain ⟨xs, hl, hx⟩ := list_of n (fun i hi => h i (by omega))
    obtain ⟨x, hr⟩ := h n (by omega)
    refine ⟨xs ++ [x], by simp [hl], fun i y hy => ?_⟩
    rw [List.getElem?_append] at hy
    split at hy
    · exact hx i y hy
    · rename_i hge
      have : i = n := by
        have := (List.getElem?_eq_some_iff.1 hy).1
        simp at this; omega
      subst this
      simp [hl] at hy; subst hy; exact hr
/-- The size of a list. -/
def szL (sz : α → Nat) (xs : List α) : Nat := (xs.map sz).sum
theorem bulk_elems {H : Type} {sz : α → Nat} : ∀ (xs : List α) (n : Nat) (D : Nat → DataW H), xs.length = n → (∀ i x, xs[i]? = some x → sz x ≤ Rows.uptoBulk (D i)) → szL sz xs ≤ Rows.uptoBulkAll ((List.range n).map D)
  | xs, n, D, hl, h => by
    subst hl
    induction xs generalizing D with
    | nil => simp [szL]
    | cons x xs ih =>
      have h0 := h 0 x rfl
      have h1 := ih (fun i => D (i + 1)) (fun i y hy => h (i + 1) y (by simpa using hy))
      rw [List.length_cons, List.range_succ_eq_map, List.map_cons, List.map_map]
      simp only [szL, List.map_cons, List.sum_cons, Rows.uptoBulkAll] at h1 ⊢
      exact Nat.add_le_add h0 h1
theorem opens_slice {n : Nat} {enc : α → List AV} {sz : α → Nat} {Q : α → Prop} (ht : P.underlying t = some (.slice e)) (hc : P.cellsOf e = n) (hn : 0 < n) (hx : Opens P e n enc sz Q) :
    Opens P t 1 (fun xs : List α => [.row n enc xs]) (fun xs => szL sz xs + 1) (fun xs => xs.length ≤ maxLen ∧ ∀ x ∈ xs, Q x) := fun e0 W fuel cs y h => by
  rcases open_slice ht h with ⟨rfl, rfl⟩ | ⟨a, len, cap, m, k, D, Pl, rfl, _, hl, hm, hmm, rfl, hel⟩
  · exact ⟨[], ⟨by simp, by simp⟩, rfl, ⟨⟨none, 0, rfl, by simp, by simp, fun h => absurd rfl h⟩, trivial⟩, by simp [szL, Rows.uptoBulk]⟩
  · simp only [if_true] at hmm
    obtain ⟨xs, hxl, hxs⟩ := list_of (R := fun i x => Q x ∧ sz x ≤ Rows.uptoBulk (D i) ∧ ∃ cs', cs'.length = n ∧ Fit noB W (enc x) cs' ∧ ∀ j, j < n → W.cell? ((a.add (i * n)).add j) = cs'[j]?) len (fun i hi => by
      obtain ⟨cs', h1, h2⟩ := hel i (by omega)
      obtain ⟨x, q, l, f, s⟩ := hx e0 W _ _ _ h2
      rw [hc] at h1
      obtain ⟨_, hcl, hat⟩ := World.cells?_some h1
      exact ⟨x, q, s, cs', hcl, f, hat⟩)
    refine ⟨xs, ⟨by omega, fun x hxm => ?_⟩, rfl, ⟨?_, trivial⟩, ?_⟩
    · obtain ⟨i, hi⟩ := List.mem_iff_getElem?.1 hxm
      exact (hxs i x hi).1
    · unfold maxLen at hm
      refine ⟨some a, cap, by rw [hxl], by omega, by omega, fun hne => ?_⟩
      have hpos : 0 < xs.length := List.length_pos_iff.2 hne
      obtain ⟨_, _, c0, hc0, _, ha0⟩ := hxs 0 xs[0] (List.getElem?_eq_getElem hpos)
      have h00 := ha0 0 hn
      rw [List.getElem?_eq_getElem (by omega)] at h00
      obtain ⟨b, off, spot⟩ := a
      have hspot : spot = none := by simpa [Addr.add] using World.cell?_spot h00
      subst hspot
      refine ⟨b, off, rfl, ?_, fun hf => hf, fun i x hi => ?_⟩
      · have := World.block_lt_of_cell? W _ h00
        simpa [Addr.add] using this
      · obtain ⟨_, _, cs', hcl, hf, hat⟩ := hxs i x hi
        have hle : (enc x).length = n := by rw [hf.length, hcl]
        refine ⟨hle, cells_of_fit hf (fun j u hu => ?_)⟩
        have hj : j < n := by rw [← hcl]; exact (List.getElem?_eq_some_iff.1 hu).1
        have := hat j hj
        rw [hu] at this
        rw [← this, addr_add', addr_add']
    · have := bulk_elems xs len D hxl (fun i x hi => (hxs i x hi).2.1)
      simp only [Rows.uptoBulk]
      omega
/-- An argument that is one value, no aggregate. -/
theorem arg_open {n : Nat} {enc : α → List AV} {sz : α → Nat} {Q : α → Prop} (h : Opens P t n enc sz Q) {H : Type} {e0 : TypeId × Value → H} {W : World} {v : Value} {d : DataW H} {p : List MemPlace} (hv : v.cells = #[v]) (hd : DataW.Trod e0 P W 0 (fun _ => true) true t v d p) :
    ∃ x : α, Q x ∧ Fit noB W (enc x) [v] ∧ sz x ≤ Rows.uptoBulk d := by
  obtain ⟨fuel, hf⟩ := hd
  rw [hv] at hf
  obtain ⟨x, q, _, k, s⟩ := h e0 W _ _ _ hf
  exact ⟨x, q, k, s⟩
theorem plain_slice {W : World} {v : Value} (ht : P.underlying t = some (.slice e)) (h : Value.okWide P W .any 0 t v) : v.cells = #[v] := by
  obtain ⟨a, n, c, rfl⟩ := okWide_slice ht h; rfl
theorem plain_int {W : World} {v : Value} {k : IntKind} (ht : P.underlying t = some (.int k)) (h : Value.okWide P W .any 0 t v) : v.cells = #[v] := by
  obtain ⟨n, rfl⟩ := okWide_int ht h; rfl
theorem plain_str {W : World} {v : Value} (ht : P.underlying t = some .string) (h : Value.okWide P W .any 0 t v) : v.cells = #[v] := by
  obtain ⟨n, rfl⟩ := okWide_string ht h; rfl
theorem plain_bool {W : World} {v : Value} (ht : P.underlying t = some .bool) (h : Value.okWide P W .any 0 t v) : v.cells = #[v] := by
  obtain ⟨n, rfl⟩ := okWide_bool ht h; rfl
theorem szL_len {sz : α → Nat} (h : ∀ x, 1 ≤ sz x) : ∀ xs : List α, xs.length ≤ szL sz xs
  | [] => Nat.le_refl 0
  | x :: xs => by have := szL_len h xs; have := h x; simp [szL] at *; omega
theorem szL_mem {sz : α → Nat} {x : α} : ∀ {xs : List α}, x ∈ xs → sz x ≤ szL sz xs
  | y :: xs, h => by
    rcases List.mem_cons.1 h with rfl | h
    · simp [szL]
    · have := szL_mem (sz := sz) h; simp [szL] at *; omega
end

theorem post_of_below {H : Type} {enc : TypeId × Value → H} {P : Program} {f : Func} {s : ChangeSpec} {apart fresh handsOn again : Bool} {W W' : World} {args : Array Value} {v : Value} {ds gs : List (DataW H)} {before pa pv : List MemPlace}
    (hW : DataW.Whole enc P f.params.toList s.vars apart W args.toList ds gs before)
    (hres : ∀ (b : Nat) (sp : Nat → Bool) (hd : Bool), DataW.TrodAll enc P W' b sp hd f.resultTypes.toList (v.resultList f.resultTypes.size) (s.fn H (ds ++ gs)).results [])
    (hargs : ∀ sp : Nat → Bool, (∀ p ∈ before, sp p.block = true) → DataW.TrodAll enc P W' 0 sp true f.params.toList args.toList (s.fn H (ds ++ gs)).args pa)
    (hvars : ∀ sp : Nat → Bool, (∀ p ∈ before, sp p.block = true) → DataW.TrodVars enc P W' sp s.vars (s.fn H (ds ++ gs)).vars pv)
    (hps : before = pa ++ pv) (hb : Below W.heap.size W W')
    (hok : ∀ (j : Nat) (t : TypeId) (r : Value), f.resultTypes[j]? = some t → (v.resultList f.resultTypes.size)[j]? = some r → Value.okWide P W' .any 0 t r) :
    s.post enc P f apart fresh handsOn again W args v W' := by
  have hlt : ∀ p ∈ before, p.block < W.heap.size := fun p hp => hW.lt p hp
  have hold : ∀ p ∈ before, (fun b => decide (b < W.heap.size)) p.block = true := fun p hp => by simpa using hlt p hp
  refine ⟨ds, gs, before, [], pa, pv, hW, hres _ _ _, hargs _ hold, hvars _ hold, World.keptBut_mono (fun p hp => ⟨hp, ?_⟩) (hb.frame (· ∈ before)), fun _ => ?_⟩
  · rw [hps, List.mem_append] at hp
    exact Or.inr hp
  · obtain ⟨_, _, _, _, _, hz, hn⟩ := hW
    refine ⟨hok, _, _, ([] ++ pa) ++ pv, ⟨[] ++ pa, pv, trodAll_append (hargs _ (fun _ _ => rfl)) (hres _ _ _), hvars _ (fun _ _ => rfl), rfl, ?_, ?_⟩, ?_⟩
    · intro b off hp
      have hin : MemPlace.cell b off ∈ before := by rw [hps]; simpa using hp
      rw [hb.frozen (hlt _ hin)]
      exact hz b off hin
    · intro ha
      have := hn ha
      rw [hps] at this
      simpa using this
    · intro p hp _
      rw [hps]
      simpa using hp

/-- A reading behind the call, whatever places are spare. -/
theorem trod_after {H : Type} {enc : TypeId × Value → H} {t : TypeId} (hr : Try.prog.readableRec t = true) (hrow : t < Try.prog.types.size) {W W' : World} {v : Value} {d : DataW H} {ps before : List MemPlace}
    (h : DataW.Trod enc Try.prog W 0 (fun _ => true) true t v d ps) (hb : Below W.heap.size W W') (hlt : ∀ x ∈ ps, x.block < W.heap.size) (hin : ∀ x ∈ ps, x ∈ before) (sp : Nat → Bool) (hsp : ∀ p ∈ before, sp p.block = true) :
    DataW.Trod enc Try.prog W' 0 sp true t v d ps :=
  WideElems.Trod_stays Try.laidOut hr hrow h (fun x hx => hb.same (hlt x hx)) (fun x hx => hsp x (hin x hx))

/-- The call of a function that touches nothing. -/
theorem Pure.call {P : Program} {f : FuncId} {args : List AV} {r : Value} (h : Pure P f args (.exact r)) {W : World} {vs : List Value} (hv : Fit noB W args vs) : Calls P f vs.toArray W (fun e w' => e = .returned r ∧ Below W.heap.size W w') :=
  (h noB W vs (fun _ hk => hk.elim) hv).mono fun e w' ⟨v, e1, e2, e3⟩ => ⟨by rw [e1]; exact congrArg _ e3, e2.below⟩
end Go.Proofs.Ytkplmgdmkfgjhaa
