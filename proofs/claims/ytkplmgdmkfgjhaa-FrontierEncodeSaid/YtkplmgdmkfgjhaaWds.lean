/- Plain words for memory, over any program: a returned value with all old memory unchanged; a list of pairs or of numbers that a slice reads as. -/
import Derived.Test.YtkplmgdmkfgjhaaRows
import Derived.WalkKit
import Derived.WalkSpells
import Derived.WalkLawsBesides
import Derived.Deep.QuietTactic
import Derived.BigQuiet
import Derived.Lib.Hide
import Derived.Deep.RegionHeld3
import Derived.Deep.DeepFit
import Derived.Laws.StructEq
namespace Go.Proofs.Ytkplmgdmkfgjhaa
open Go.RowKit

theorem below_drewN {B : Nat} {a w : World} (h : Below B a w) (n : Nat) : Below B a (w.drewN n) := ⟨h.os, h.tape, h.output, h.size, h.block⟩

/-- The call returns v; nothing that was there has changed. -/
def Ret (v : Value) (w : World) (e : Ending) (w' : World) : Prop := e = .returned v ∧ Below w.heap.size w w'
theorem Ret.mk {v v' : Value} {w w' : World} (h : v' = v) (hb : Below w.heap.size w w') : Ret v w (.returned v') w' := ⟨by rw [h], hb⟩

theorem bcell {W w1 : World} (hb : Below W.heap.size W w1) : (∀ b o, b < W.heap.size → w1.cell? ⟨b, o, none⟩ = W.cell? ⟨b, o, none⟩) ∧ (∀ b o, b < W.heap.size → w1.frozen? ⟨b, o, none⟩ = W.frozen? ⟨b, o, none⟩) :=
  ⟨fun b o h => hb.cell (p := ⟨b, o, none⟩) h, fun b o h => hb.frozen (p := ⟨b, o, none⟩) h⟩

/-- The slice with address A reads as the pairs l, each of two cells, below block B. -/
def PairsAt (w : World) (B : Nat) (A : Option Addr) (l : List (Int × Int)) : Prop :=
  l ≠ [] → ∃ b off, A = some ⟨b, off, none⟩ ∧ b < B ∧ ∀ (i : Nat) (p : Int × Int), l[i]? = some p → w.cell? ⟨b, off + i * 2, none⟩ = some (.int .i64 p.1) ∧ w.cell? ⟨b, off + i * 2 + 1, none⟩ = some (.int .i64 p.2)

theorem PairsAt.below {w w' : World} {B : Nat} {A : Option Addr} {l : List (Int × Int)} (h : PairsAt w B A l) (hb : Below B w w') : PairsAt w' B A l := by
  intro hl
  obtain ⟨b, off, hA, hB, hc⟩ := h hl
  refine ⟨b, off, hA, hB, fun i p hp => ?_⟩
  obtain ⟨h0, h1⟩ := hc i p hp
  exact ⟨(hb.cell (p := ⟨b, _, none⟩) hB).trans h0, (hb.cell (p := ⟨b, _, none⟩) hB).trans h1⟩

theorem PairsAt.more {w : World} {B B' : Nat} {A : Option Addr} {l : List (Int × Int)} (h : PairsAt w B A l) (hB : B ≤ B') : PairsAt w B' A l := by
  intro hl
  obtain ⟨b, off, hA, hb, hc⟩ := h hl
  exact ⟨b, off, hA, Nat.lt_of_lt_of_le hb hB, hc⟩

/-- The slice with address A reads as the integers xs of kind k, below block B. -/
def IntsAt (k : IntKind) (w : World) (B : Nat) (A : Option Addr) (xs : List Int) : Prop :=
  xs ≠ [] → ∃ b off, A = some ⟨b, off, none⟩ ∧ b < B ∧ ∀ (i : Nat) (x : Int), xs[i]? = some x → w.cell? ⟨b, off + i, none⟩ = some (.int k x)

theorem IntsAt.below {k : IntKind} {w w' : World} {B : Nat} {A : Option Addr} {xs : List Int} (h : IntsAt k w B A xs) (hb : Below B w w') : IntsAt k w' B A xs := by
  intro hl
  obtain ⟨b, off, hA, hB, hc⟩ := h hl
  exact ⟨b, off, hA, hB, fun i p hp => (hb.cell (p := ⟨b, _, none⟩) hB).trans (hc i p hp)⟩

theorem IntsAt.more {k : IntKind} {w : World} {B B' : Nat} {A : Option Addr} {xs : List Int} (h : IntsAt k w B A xs) (hB : B ≤ B') : IntsAt k w B' A xs := by
  intro hl
  obtain ⟨b, off, hA, hb, hc⟩ := h hl
  exact ⟨b, off, hA, Nat.lt_of_lt_of_le hb hB, hc⟩

theorem getElem?_of_lt {α : Type} (l : List α) {i : Nat} (h : i < l.length) : ∃ x, l[i]? = some x := ⟨l[i], List.getElem?_eq_getElem h⟩
theorem ne_nil_of_lt {α : Type} {l : List α} {i : Nat} (h : i < l.length) : l ≠ [] := by rintro rfl; simp at h

theorem drop_of_get {α : Type} {l : List α} {k : Nat} {x : α} (h : l[k]? = some x) : l.drop k = x :: l.drop (k + 1) := by
  obtain ⟨hk, rfl⟩ := List.getElem?_eq_some_iff.1 h
  exact List.drop_eq_getElem_cons hk
theorem drop_all {α : Type} {l : List α} {k : Nat} (h : ¬ k < l.length) : l.drop k = [] := List.drop_eq_nil_of_le (by omega)
theorem take_of_get {α : Type} {l : List α} {k : Nat} {x : α} (h : l[k]? = some x) : l.take (k + 1) = l.take k ++ [x] := by
  obtain ⟨hk, rfl⟩ := List.getElem?_eq_some_iff.1 h
  exact List.take_succ_eq_append_getElem hk
theorem ret_int {k : IntKind} {a b : Int} (h : a = b) : Ending.returned (.int k a) = .returned (.int k b) := by rw [h]
theorem ret_bool {a b : Bool} (h : a = b) : Ending.returned (.bool a) = .returned (.bool b) := by rw [h]

/-! ### Worlds that extend a world: new blocks behind the old ones, the tape moved on -/
structure Ext where
  objs : Array Obj
  at_ : Nat
instance : Inhabited Ext := ⟨⟨#[], 0⟩⟩
def wext (w : World) (x : Ext) : World := { w with heap := w.heap ++ x.objs, drawn := x.at_ }
theorem wext_size (w : World) (x : Ext) : (wext w x).heap.size = w.heap.size + x.objs.size := by simp [wext]
theorem wext_heap (w : World) (x : Ext) (k : Nat) (h : k < w.heap.size) : (wext w x).heap[k]? = w.heap[k]? := by
  show (w.heap ++ x.objs)[k]? = _
  rw [Array.getElem?_append_left h]
theorem wext_cell (w : World) (x : Ext) (a : Addr) (h : a.block < w.heap.size) : (wext w x).cell? a = w.cell? a := World.cell?_of_block (w := w) (wext_heap w x _ h)
theorem wext_frozen (w : World) (x : Ext) (a : Addr) (h : a.block < w.heap.size) : (wext w x).frozen? a = w.frozen? a := World.frozen?_of_block (w := w) (wext_heap w x _ h)
theorem wext_cellb (w : World) (x : Ext) (b o : Nat) (h : b < w.heap.size) : (wext w x).cell? ⟨b, o, none⟩ = w.cell? ⟨b, o, none⟩ := wext_cell w x _ h
theorem wext_frozenb (w : World) (x : Ext) (b o : Nat) (h : b < w.heap.size) : (wext w x).frozen? ⟨b, o, none⟩ = w.frozen? ⟨b, o, none⟩ := wext_frozen w x _ h
theorem wext_below (w : World) (x : Ext) : Below w.heap.size w (wext w x) := ⟨rfl, rfl, rfl, by rw [wext_size]; omega, fun k h => wext_heap w x k h⟩
theorem below_wext {B : Nat} {a w : World} (h : Below B a w) (hB : B ≤ w.heap.size) (x : Ext) : Below B a (wext w x) := h.trans ((wext_below w x).mono hB)
theorem of_wext {w w' : World} (h : Below w.heap.size w w') : ∃ x, w' = wext w x := by
  refine ⟨⟨w'.heap.extract w.heap.size w'.heap.size, w'.drawn⟩, ?_⟩
  have hh : w'.heap = w.heap ++ w'.heap.extract w.heap.size w'.heap.size := by
    apply Array.ext_getElem?
    intro i
    by_cases hi : i < w.heap.size
    · rw [Array.getElem?_append_left hi, h.block i hi]
    · rw [Array.getElem?_append_right (by omega), Array.getElem?_extract]
      have hs := h.size
      by_cases hj : i < w'.heap.size
      · rw [if_pos (by omega)]; congr 1; omega
      · rw [if_neg (by omega), Array.getElem?_eq_none (by omega)]
  obtain ⟨hp, tp, dr, os, out⟩ := w'
  obtain ⟨hp0, tp0, dr0, os0, out0⟩ := w
  obtain ⟨h1, h2, h3, h4, h5⟩ := h
  simp only at h1 h2 h3 hh
  subst h1 h2 h3
  simp only [wext]
  rw [← hh]
theorem wext_drew (w : World) : ∃ x, w.drew = wext w x := of_wext (Below.refl _ w).drew
attribute [go_sem] wext_cell wext_frozen wext_cellb wext_frozenb wext_size
attribute [simp] wext_size

theorem calls_wext {P : Program} {f : FuncId} {args : Array Value} {w : World} {x : Ext} {v : Value} (h : Calls P f args (wext w x) (Ret v (wext w x))) :
    Calls P f args (wext w x) fun e w'' => e = .returned v ∧ ∃ y, w'' = wext w y :=
  h.mono fun _ _ ⟨he, hb⟩ => ⟨he, of_wext ((wext_below w x).trans (hb.mono (by rw [wext_size]; omega)))⟩

/-- A region that draws its order, whose operations and callees read, or lay new blocks and hand back a value that does not depend on them: one walk in the order of the text. -/
theorem wp_region_ext {P : Program} {id : Nat} {Q : Exit → Act → World → Prop} {a : Act} {w : World} {l : List Oper} (hm : P.follows .mixedOrders = true) (hB : Region.lexB .any l.toArray = true)
    (h : wpQuiet P l.toArray (fun w' => ∃ x, w' = wext w x) (fun a' => ∀ w', (∃ x, w' = wext w x) → Q .normal a' w') l a) : (Code.region id l.toArray true).wp P Q a w :=
  wp_region_quiet (C := fun w' => ∃ x, w' = wext w x) hm hB (wext_drew w) (by simpa using h)

end Go.Proofs.Ytkplmgdmkfgjhaa
