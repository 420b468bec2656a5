/- clear of a part of a row in use. -/
import Derived.Test.YtdppkpiagdaigaaDoorKI2
import Derived.Lib.AppendZeros
import Derived.Test.YtdppkpiagdaigaaDoorRows
import Derived.ProofKit
import Derived.OpenShut
import Derived.Deep.Slices
import Derived.Deep.Strs
import Derived.JoinedCond
import Derived.Lib.AppendStr
import Derived.Shelf.SlSortCmp.NoneTotal
import Derived.Sort.OwnSortedInts
import Derived.Test.YtdppkpiagdaigaaDoorKI0
import Derived.Shelf.SortM.Plain
import Derived.Shelf.SortM.SortNone
import Derived.Lone
import Derived.StepT
import Derived.Calls
namespace Go.Proofs.YtdppkpiagdaigaaDoor
open Go.RowKit

theorem zeroCells_succ (zc : Array Value) (m : Nat) : (Builtin.zeroCells zc (m + 1)).toList = zc.toList ++ (Builtin.zeroCells zc m).toList := by
  simp only [Builtin.zeroCells, Array.toList_map, Array.toList_range]
  rw [show (m + 1) * zc.size = zc.size + m * zc.size by rw [Nat.add_mul]; omega, List.range_add, List.map_append, List.map_map]
  congr 1
  · apply List.ext_getElem
    · simp
    · intro i h1 h2
      simp at h1
      simp [Nat.mod_eq_of_lt h1, h1]
  · apply List.map_congr_left
    intro i _
    simp [Nat.add_mod_left]

theorem Fit.nil0 {M : BSet} {w : World} : Fit M w [] [] := trivial
theorem Fit.ex {M : BSet} {w : World} {v : Value} {c : List AV} {vs : List Value} (h : Fit M w c vs) : Fit M w (.exact v :: c) (v :: vs) := ⟨rfl, h⟩
section
variable {P : Program} {af : AF} {ρ : Items} {d : Option Tmp} {ty t : TypeId} {pos : String} {after : Array Edge} {g : Option (Nat × Bool)} {α : Type} {n : Nat} {enc : α → List AV} {xs : List α} {v : Value} {K : AF → Items → Prop}

theorem fit_zeros {M : BSet} {w : World} {zr : α} {zc : Array Value} (hz : Fit M w (enc zr) zc.toList) : ∀ m : Nat, Fit M w ((List.replicate m zr).flatMap enc) (Builtin.zeroCells zc m).toList
  | 0 => by simp [Builtin.zeroCells, Fit]
  | m + 1 => by
    rw [zeroCells_succ, List.replicate_succ, List.flatMap_cons]
    exact hz.app (fit_zeros hz m)
theorem flat_parts (he : ∀ x, (enc x).length = n) : ∀ (ys : List α) (k : Nat), (ys.flatMap enc).take (k * n) = (ys.take k).flatMap enc ∧ (ys.flatMap enc).drop (k * n) = (ys.drop k).flatMap enc := by
  intro ys
  induction ys with
  | nil => simp
  | cons y ys ih =>
    intro k
    cases k with
    | zero => simp
    | succ k =>
      have hl : (enc y).length = n := he y
      rw [List.flatMap_cons, Nat.add_mul, Nat.one_mul, Nat.add_comm (k * n) n]
      constructor
      · rw [← hl, List.take_length_add_append, hl, (ih k).1]; rfl
      · rw [← hl, List.drop_length_add_append, hl, (ih k).2]; rfl

theorem op_clear {lo m : Nat} {zr : α} {z : Value} {x : Operand} (hE : elB P t n = true) (he : ∀ x, (enc x).length = n) (ho : ∀ x, OneC (enc x)) (hx : af.ev x = .vsub v n lo m) (hl : lo + m ≤ xs.length) (hz : ∀ w, (zeroValue (elemOfT P t)).run P w = .ok z w) (hzf : ∀ M w, Fit M w (enc zr) z.cells.toList)
    (hk : K (af.put d (.exact (.tuple #[]))) (vecT P t n enc v (xs.take lo ++ List.replicate m zr ++ xs.drop (lo + m)) :: ρ)) : opB P ⟨d, .call { callee := .builtin .clear, args := #[x], argTypes := #[t] }, ty, pos, after, g⟩ af (vecT P t n enc v xs :: ρ) K := by
  refine ⟨fun a s => a = .exact (.tuple #[]) ∧ s = vecT P t n enc v (xs.take lo ++ List.replicate m zr ++ xs.drop (lo + m)) :: ρ, fun F w ev hg h => ?_, fun av s ⟨e1, e2⟩ => by subst e1 e2; exact hk⟩
  obtain ⟨ht, hn0, I, zz, hi, hz', hi1, hi2, hi3⟩ := elB_spec hE
  obtain ⟨A, l, c, hv, hc1, hc2, e1⟩ := opnd_p h (x := x) (by simp [Op.operands, Call.operands]) hx
  have hlen : (xs.take lo ++ List.replicate m zr ++ xs.drop (lo + m)).length = xs.length := by simp; omega
  by_cases hm : m = 0
  · subst hm
    have hcl : (Builtin.clear_ #[t] ty #[ev x]).run P w = .ok (.tuple #[]) w := by
      rw [e1]
      split <;> (try cases A) <;> simp [Builtin.clear_, run_underlying ht]
    have hrun : (execOp ev ⟨d, .call { callee := .builtin .clear, args := #[x], argTypes := #[t] }, ty, pos, after, g⟩).run P w = .ok (.value (.tuple #[])) w := by
      unfold execOp
      simp only [resolve, invoke, builtin, Sem.run_bind, Sem.run_pure, Result.andThen_ok, List.map_toArray, List.map_cons, List.map_nil, hcl]
    rw [hrun]
    have hxs : xs.take lo ++ List.replicate 0 zr ++ xs.drop (lo + 0) = xs := by simp
    refine ⟨_, _, ⟨rfl, rfl⟩, by rw [hxs]; exact hg, (Keeps.refl noB w).mono (fun _ _ h => h.elim), by rw [hxs]; exact fun k h _ => h, rfl⟩
  · obtain ⟨b, c', cur, vs, hv', hb, hnc, hcm, hcs, htk, hfit⟩ := vec_cells (hg.items _ List.mem_cons_self) (by rintro rfl; simp at hl; omega)
    rw [hv'] at hv
    injection hv with q1 q2 q3
    subst q1 q2 q3
    rw [if_neg (by omega)] at e1
    have hadd : Option.map (fun x => x.add (lo * n)) (some (⟨b, 0, none⟩ : Addr)) = some ⟨b, lo * n, none⟩ := by simp [addr_add']
    rw [hadd] at e1
    have hbm : (lo + m) * n ≤ xs.length * n := Nat.mul_le_mul_right _ hl
    have hcn : xs.length * n ≤ cur.size := by rw [hcs]; exact Nat.mul_le_mul_right _ hnc
    have haddm : (lo + m) * n = lo * n + m * n := Nat.add_mul _ _ _
    have hfz := fun M w => fit_zeros (M := M) (w := w) (hzf M w) m
    have hul : (Builtin.zeroCells z.cells m).toList.length = m * n := by rw [← (hfz noB w).length, flat_len (fun x _ => he x), List.length_replicate]
    have h1c : ∀ u ∈ (Builtin.zeroCells z.cells m).toList, u.oneCell' = true := (OneC.flatT (xs := List.replicate m zr) ho).fit (hfz noB w)
    have hst := run_storeCells_at (P := P) b (lo * n) (elemOfT P t) (Builtin.zeroCells z.cells m).toList 0 cur w hb (by omega) h1c
    simp only [Nat.add_zero] at hst
    obtain ⟨m', rfl⟩ : ∃ k, m = k + 1 := ⟨m - 1, by omega⟩
    have hcl : (Builtin.clear_ #[t] ty #[ev x]).run P w = .ok (.tuple #[]) (w.setRow b (splc cur.toList (lo * n) (Builtin.zeroCells z.cells (m' + 1)).toList).toArray) := by
      rw [e1]
      simp [Builtin.clear_, run_underlying ht, hz, hst, splc]
    have hrun : (execOp ev ⟨d, .call { callee := .builtin .clear, args := #[x], argTypes := #[t] }, ty, pos, after, g⟩).run P w = .ok (.value (.tuple #[])) (w.setRow b (splc cur.toList (lo * n) (Builtin.zeroCells z.cells (m' + 1)).toList).toArray) := by
      unfold execOp
      simp only [resolve, invoke, builtin, Sem.run_bind, Sem.run_pure, Result.andThen_ok, List.map_toArray, List.map_cons, List.map_nil, hcl]
    rw [hrun]
    generalize hus : (Builtin.zeroCells z.cells (m' + 1)).toList = us at *
    generalize hmm : m' + 1 = m at *
    have hblt := (Array.getElem?_eq_some_iff.1 hb).1
    have hob : v.ownBlock = some b := by rw [hv']; rfl
    have hk : Keeps (fun k => k ∈ (vecT P t n enc v xs).own) w (w.setRow b (splc cur.toList (lo * n) us).toArray) := ⟨rfl, rfl, rfl, Nat.le_refl _, by simp, fun k hlt hn => by
      have hne : k ≠ b := fun e => hn (by simp [vecT, vecI, hob, e])
      simp [World.setRow, Array.getElem?_modify, Ne.symm hne]⟩
    have hsp : splc cur.toList (lo * n) us = splc (cur.toList.take (xs.length * n)) (lo * n) us ++ cur.toList.drop (xs.length * n) := by
      unfold splc
      rw [List.take_take, Nat.min_eq_left (by omega), List.append_assoc _ _ (cur.toList.drop (xs.length * n))]
      congr 1
      rw [List.drop_take]
      have h9 : lo * n + us.length + (xs.length * n - (lo * n + us.length)) = xs.length * n := by omega
      conv => rhs; rhs; rw [← h9, ← List.drop_drop]
      rw [List.take_append_drop]
    have hsl : (splc vs (lo * n) us).length = xs.length * n := by
      have hvl : vs.length = xs.length * n := by rw [← hfit.length, flat_len (fun x _ => he x)]
      unfold splc; simp; omega
    have hflat : splc (xs.flatMap enc) (lo * n) ((List.replicate m zr).flatMap enc) = (xs.take lo ++ List.replicate m zr ++ xs.drop (lo + m)).flatMap enc := by
      unfold splc
      rw [flat_len (fun x _ => he x), List.length_replicate, ← haddm, (flat_parts he xs lo).1, (flat_parts he xs (lo + m)).2, List.flatMap_append, List.flatMap_append]
    have hown : (w.setRow b (splc cur.toList (lo * n) us).toArray).ownsRow 0 (elemOfT P t) n v (xs.take lo ++ List.replicate m zr ++ xs.drop (lo + m)).length (splc vs (lo * n) us) := by
      refine ⟨by rw [hsl, hlen], .inr ⟨b, c', (splc cur.toList (lo * n) us).toArray, by rw [hlen]; exact hv', Nat.zero_le _, setRow_heap w b cur _ (elemOfT P t) _ hb, by rw [hlen]; exact hnc, hcm, ?_, ?_⟩⟩
      · unfold splc; simp; omega
      · rw [hlen, hsp, htk]
        simp [← hsl]
    obtain ⟨g1, g2, g3⟩ := good_head (it' := vecT P t n enc v (xs.take lo ++ List.replicate m zr ++ xs.drop (lo + m))) hg hk (fun k hk' => ⟨by simp [vecT, vecI, hob] at hk'; subst hk'; simpa using hblt, fun _ => hk'⟩) (by simp [vecT, vecI, hob])
      (fun hkk hMM => ⟨splc vs (lo * n) us, hown, by rw [← hflat]; exact (Fit.spl (lo * n) hfit (hfz _ _)).keep hkk hMM⟩)
    exact ⟨_, _, ⟨rfl, rfl⟩, g1, g2, g3, rfl⟩
theorem op_len_vsub {lo m : Nat} {x : Operand} {K : AF → Prop} (hB : isSliceB P t = true) (hx : af.ev x = .vsub v n lo m) (hk : K (af.put d (.exact (.int .i64 (m : Int))))) : opA P ⟨d, .call { callee := .builtin .len, args := #[x], argTypes := #[t] }, ty, pos, after, g⟩ af K := by
  refine ⟨_, fun M w ev _ h => ?_, hk⟩
  obtain ⟨A, l, c, _, _, _, hA⟩ := opnd_p h (x := x) (by simp [Op.operands, Call.operands]) hx
  obtain ⟨e, hu⟩ := isSliceB_spec hB
  simp [execOp, resolve, invoke, builtin, Builtin.len_, hA, run_under hu, goInt, go_sem, UponQ]
  exact ⟨Keeps.refl _ _, rfl⟩
theorem op_index_vsub {e : TypeId} {k : IntKind} {i j : Int} {lo m : Nat} {x y : Operand} {K : AF → Prop} (hB : sliceB P t n = true) (hx : af.ev x = .vsub v n lo m) (hy : af.ev y = .exact (.int k i)) (h0 : 0 ≤ i) (h1 : i.toNat < m) (hl : 0 < xs.length) (hj : j.toNat = lo + i.toNat) (hk : K (af.put d (.eptr v (j.toNat * n)))) :
    opR P ⟨d, .indexAddr t x y, ty, pos, after, g⟩ af (vecT P e n enc v xs :: ρ) K := by
  refine ⟨_, fun F w ev hg h => ?_, hk⟩
  obtain ⟨A, l, c, hv', hc1, hc2, e1⟩ := opnd_p h (x := x) (by simp [Op.operands]) hx
  have e2 := opnd h (x := y) (by simp [Op.operands]) hy
  obtain ⟨b, c', cur, vs, hv, _⟩ := vec_cells (hg.items _ List.mem_cons_self) (by rintro rfl; simp at hl)
  obtain ⟨e', hu, hs⟩ := sliceB_spec hB
  rw [hv] at hv'
  injection hv' with q1 q2 q3
  subst q1 q2 q3
  rw [if_neg (by omega)] at e1
  have hadd0 : Option.map (fun x => x.add (lo * n)) (some (⟨b, 0, none⟩ : Addr)) = some ⟨b, lo * n, none⟩ := by simp [addr_add']
  rw [hadd0] at e1
  have hadd : Addr.add ⟨b, lo * n, none⟩ (i.toNat * n) = ⟨b, j.toNat * n, none⟩ := by rw [addr_at, hj, Nat.add_mul]
  have h1' : i < (m : Int) := by omega
  subst hv
  simp [execOp, Instr.indexAt, e1, e2, run_under hu, asIntOf, h0, h1', run_size hs, hadd, go_sem, UponQ]
  exact ⟨Keeps.refl _ _, b, _, _, rfl, by rw [hj, Nat.add_mul]⟩
end
end Go.Proofs.YtdppkpiagdaigaaDoor
/- append(nil, make(n)): a new row in use, of zeros. -/
namespace Go.Proofs.YtdppkpiagdaigaaDoor
open Go.RowKit

section
variable {P : Program} {af : AF} {σ : Items} {d : Option Tmp} {ty t tn : TypeId} {pos : String} {after : Array Edge} {g : Option (Nat × Bool)} {α : Type} {n : Nat} {enc : α → List AV} {K : AF → Items → Prop}
end
end Go.Proofs.YtdppkpiagdaigaaDoor
/- The nil slice: its capacity, its empty part. -/
namespace Go.Proofs.YtdppkpiagdaigaaDoor
open Go.RowKit

section
variable {P : Program} {af : AF} {d : Option Tmp} {ty t : TypeId} {pos : String} {after : Array Edge} {g : Option (Nat × Bool)} {n : Nat} {K : AF → Prop} {x : Operand}
end
end Go.Proofs.YtdppkpiagdaigaaDoor
/- Appending what another row in use holds. -/
namespace Go.Proofs.YtdppkpiagdaigaaDoor
open Go.RowKit

section
variable {P : Program} {af : AF} {σ ρ : Items} {d : Option Tmp} {ty t e : TypeId} {pos : String} {after : Array Edge} {g : Option (Nat × Bool)} {α : Type} {n : Nat} {enc : α → List AV} {xs ys : List α} {v : Value} {K : AF → Items → Prop}
/-- x reads as ys, while the things in use stand. -/
def BorL (σ : Items) (x : AV) (n : Nat) (enc : α → List AV) (ys : List α) : Prop := ∀ F w u, Good F σ w → x.p (both F (Items.own σ)) w u →
  ∃ A c, u = .slice A ys.length c ∧ ys.length ≤ c ∧ (ys ≠ [] → ∃ b off, A = some ⟨b, off, none⟩ ∧ ∀ (i : Nat) (y : α), ys[i]? = some y → (enc y).length = n ∧ CellsAt (both F (Items.own σ)) w b (off + i * n) (enc y))
theorem BorL.vec (hm : vecT P e n enc v xs ∈ σ) (he : ∀ x, (enc x).length = n) : BorL σ (.exact v) n enc xs := fun F w u hg hx => by
  obtain rfl : u = v := hx
  have hit := hg.items _ hm
  by_cases hne : xs = []
  · subst hne
    obtain ⟨us, hown, _⟩ := hit
    rcases hown.2 with ⟨rfl, _⟩ | ⟨b, cap, cur, rfl, _⟩
    · exact ⟨_, _, rfl, Nat.zero_le _, fun h => absurd rfl h⟩
    · exact ⟨_, _, rfl, Nat.zero_le _, fun h => absurd rfl h⟩
  · obtain ⟨b, c, cur, us, rfl, hb, hnc, _, hcs, htk, hfit⟩ := vec_cells hit hne
    refine ⟨_, _, rfl, hnc, fun _ => ⟨b, 0, rfl, ?_⟩⟩
    have hcells := cells_of_fit (b := b) (off := 0) hfit (fun j u hu => by
      have hj : j < us.length := (List.getElem?_eq_some_iff.1 hu).1
      rw [Nat.zero_add, cell_of_row _ b _ _ _ (0, 0) hb]
      rw [← htk, List.getElem?_take] at hu
      split at hu
      · simpa using hu
      · cases hu)
    intro i x hx
    exact ⟨he x, hcells.sub (fun j a hj => flat_get (fun x _ => he x) hx j a hj)⟩
theorem BorL.vsub {lo m : Nat} (hm : vecT P e n enc v xs ∈ σ) (he : ∀ x, (enc x).length = n) (hl : lo + m ≤ xs.length) : BorL σ (.vsub v n lo m) n enc ((xs.drop lo).take m) := fun F w u hg hx => by
  obtain ⟨A, l, c, rfl, hc1, hc2, rfl⟩ := hx
  obtain ⟨A', c', hv, h1, h4⟩ := BorL.vec (w := w) hm he F _ hg rfl
  injection hv with g1 g2 g3
  subst g1 g2 g3
  have hlen : ((xs.drop lo).take m).length = m := by simp; omega
  refine ⟨(if c = lo then A else A.map (·.add (lo * n))), c - lo, by rw [hlen], by rw [hlen]; exact hc2, fun hne => ?_⟩
  have hxs : xs ≠ [] := by rintro rfl; simp at hne
  obtain ⟨b, off, rfl, hcell⟩ := h4 hxs
  have hpos : 0 < m := by
    rcases Nat.eq_zero_or_pos m with h | h
    · subst h; simp at hne
    · exact h
  rw [if_neg (by omega)]
  refine ⟨b, off + lo * n, by simp [addr_add'], fun q x hq => ?_⟩
  have hq' : xs[lo + q]? = some x := by
    rw [List.getElem?_take] at hq
    split at hq
    · rwa [List.getElem?_drop] at hq
    · cases hq
  obtain ⟨g1, g2⟩ := hcell _ _ hq'
  refine ⟨g1, ?_⟩
  have e : off + (lo + q) * n = off + lo * n + q * n := by rw [Nat.add_mul]; omega
  rwa [e] at g2
end
end Go.Proofs.YtdppkpiagdaigaaDoor
/- Arguments of any plain type opened: what their readings hold; the closing of a row. -/
namespace Go.Proofs.YtdppkpiagdaigaaDoor
open Go.ChangeShapes Go.WideShapes Go.ChangeAt Go.RowKit Go.Deep

theorem Tryd.own : ownKnob Tryd.prog.godebug = none := by kernel_rfl
theorem Tryd.laidOut : laidOutB Tryd.prog = true := by kernel_rfl
theorem Keeps.below {w w' : World} (h : Keeps noB w w') : Below w.heap.size w w' := ⟨h.os, h.tape, h.output, h.size, fun k hk => h.block k hk (fun hf => hf)⟩

section
variable {P : Program} {t e : TypeId} {α β γ δ : Type}
/-- What is read at type t is an x of size sz x. -/
def Opens (P : Program) (t : TypeId) (n : Nat) (enc : α → List AV) (sz : α → Nat) (Q : α → Prop) : Prop :=
  ∀ {H : Type} (e0 : TypeId × Value → H) (W : World) (fuel : Nat) (cs : List Value) (y : DataW H × List MemPlace), DataW.trod e0 P W 0 (fun _ => true) true fuel t cs = some y → ∃ x : α, Q x ∧ cs.length = n ∧ Fit noB W (enc x) cs ∧ sz x ≤ Rows.uptoBulk y.1
theorem opens_u8 (ht : P.underlying t = some (.int .u8)) : Opens P t 1 (fun x : UInt8 => [.exact (.int .u8 (x.toNat : Int))]) (fun _ => 1) (fun _ => True) := fun e0 W fuel cs y h => by
  obtain ⟨n, rfl, rfl, hw⟩ := DataW.trod_int ht h
  have h' : 0 ≤ n ∧ n ≤ 255 := by simpa [Lit.wf, IntKind.min, IntKind.max, IntKind.signed, IntKind.bits] using hw
  have h2 : ((UInt8.ofNat n.toNat).toNat : Int) = n := by
    simp only [UInt8.toNat_ofNat']
    omega
  refine ⟨UInt8.ofNat n.toNat, trivial, rfl, ⟨?_, trivial⟩, by simp [Rows.uptoBulk]⟩
  show Value.int .u8 n = .int .u8 ((UInt8.ofNat n.toNat).toNat : Int)
  rw [h2]
/-- An argument that is one value, no aggregate. -/
theorem arg_open {n : Nat} {enc : α → List AV} {sz : α → Nat} {Q : α → Prop} (h : Opens P t n enc sz Q) {H : Type} {e0 : TypeId × Value → H} {W : World} {v : Value} {d : DataW H} {p : List MemPlace} (hv : v.cells = #[v]) (hd : DataW.Trod e0 P W 0 (fun _ => true) true t v d p) :
    ∃ x : α, Q x ∧ Fit noB W (enc x) [v] ∧ sz x ≤ Rows.uptoBulk d := by
  obtain ⟨fuel, hf⟩ := hd
  rw [hv] at hf
  obtain ⟨x, q, _, k, s⟩ := h e0 W _ _ _ hf
  exact ⟨x, q, k, s⟩
theorem plain_int {W : World} {v : Value} {k : IntKind} (ht : P.underlying t = some (.int k)) (h : Value.okWide P W .any 0 t v) : v.cells = #[v] := by
  obtain ⟨n, rfl⟩ := okWide_int ht h; rfl
end

theorem post_of_below {H : Type} {enc : TypeId × Value → H} {P : Program} {f : Func} {s : ChangeSpec} {apart fresh handsOn again : Bool} {W W' : World} {args : Array Value} {v : Value} {ds gs : List (DataW H)} {before pa pv : List MemPlace}
    (hW : DataW.Whole enc P f.params.toList s.vars apart W args.toList ds gs before)
    (hres : ∀ (b : Nat) (sp : Nat → Bool) (hd : Bool), DataW.TrodAll enc P W' b sp hd f.resultTypes.toList (v.resultList f.resultTypes.size) (s.fn H (ds ++ gs)).results [])
    (hargs : ∀ sp : Nat → Bool, (∀ p ∈ before, sp p.block = true) → DataW.TrodAll enc P W' 0 sp true f.params.toList args.toList (s.fn H (ds ++ gs)).args pa)
    (hvars : ∀ sp : Nat → Bool, (∀ p ∈ before, sp p.block = true) → DataW.TrodVars enc P W' sp s.vars (s.fn H (ds ++ gs)).vars pv)
    (hps : before = pa ++ pv) (hb : Below W.heap.size W W')
    (hok : ∀ (j : Nat) (t : TypeId) (r : Value), f.resultTypes[j]? = some t → (v.resultList f.resultTypes.size)[j]? = some r → Value.okWide P W' .any 0 t r) :
    s.post enc P f apart fresh handsOn again W args v W' := by
  have hlt : ∀ p ∈ before, p.block < W.heap.size := fun p hp => hW.lt p hp
  have hold : ∀ p ∈ before, (fun b => decide (b < W.heap.size)) p.block = true := fun p hp => by simpa using hlt p hp
  refine ⟨ds, gs, before, [], pa, pv, hW, hres _ _ _, hargs _ hold, hvars _ hold, World.keptBut_mono (fun p hp => ⟨hp, ?_⟩) (hb.frame (· ∈ before)), fun _ => ?_⟩
  · rw [hps, List.mem_append] at hp
    exact Or.inr hp
  · obtain ⟨_, _, _, _, _, hz, hn⟩ := hW
    refine ⟨hok, _, _, ([] ++ pa) ++ pv, ⟨[] ++ pa, pv, trodAll_append (hargs _ (fun _ _ => rfl)) (hres _ _ _), hvars _ (fun _ _ => rfl), rfl, ?_, ?_⟩, ?_⟩
    · intro b off hp
      have hin : MemPlace.cell b off ∈ before := by rw [hps]; simpa using hp
      rw [hb.frozen (hlt _ hin)]
      exact hz b off hin
    · intro ha
      have := hn ha
      rw [hps] at this
      simpa using this
    · intro p hp _
      rw [hps]
      simpa using hp

/-- A reading behind the call, whatever places are spare. -/
theorem trod_after {H : Type} {enc : TypeId × Value → H} {t : TypeId} (hr : Tryd.prog.readableRec t = true) (hrow : t < Tryd.prog.types.size) {W W' : World} {v : Value} {d : DataW H} {ps before : List MemPlace}
    (h : DataW.Trod enc Tryd.prog W 0 (fun _ => true) true t v d ps) (hb : Below W.heap.size W W') (hlt : ∀ x ∈ ps, x.block < W.heap.size) (hin : ∀ x ∈ ps, x ∈ before) (sp : Nat → Bool) (hsp : ∀ p ∈ before, sp p.block = true) :
    DataW.Trod enc Tryd.prog W' 0 sp true t v d ps :=
  WideElems.Trod_stays Tryd.laidOut hr hrow h (fun x hx => hb.same (hlt x hx)) (fun x hx => hsp x (hin x hx))

/-- The call of a function that touches nothing. -/
theorem Pure.call {P : Program} {f : FuncId} {args : List AV} {r : Value} (h : Pure P f args (.exact r)) {W : World} {vs : List Value} (hv : Fit noB W args vs) : Calls P f vs.toArray W (fun e w' => e = .returned r ∧ Below W.heap.size W w') :=
  (h noB W vs (fun _ hk => hk.elim) hv).mono fun e w' ⟨v, e1, e2, e3⟩ => ⟨by rw [e1]; exact congrArg _ e3, e2.below⟩
end Go.Proofs.YtdppkpiagdaigaaDoor
/- copy within a row in use; arrays in use; a row cut to its length. -/
namespace Go.Proofs.YtdppkpiagdaigaaDoor
open Go.RowKit

section
variable {P : Program} {af : AF} {σ ρ : Items} {d : Option Tmp} {ty t e : TypeId} {pos : String} {after : Array Edge} {g : Option (Nat × Bool)} {α : Type} {n : Nat} {enc : α → List AV} {xs ys : List α} {v : Value}
/-! ### Arrays in use: one cell an element -/
theorem les_rep {f : α → AV} {z : α} {u : Value} (h : f z = .exact u) : ∀ N : Nat, LEs ((List.replicate N u).map AV.exact) ((List.replicate N z).map f)
  | 0 => LEs.nil
  | N + 1 => by rw [List.replicate_succ, List.replicate_succ, List.map_cons, List.map_cons]; exact LEs.cons (AV.le_eq h.symm) (les_rep h N)
theorem op_allocA {K : AF → Items → Prop} {f : α → AV} (N : Nat) (z : α) (u : Value) {Z : Value} (hz : (P.info? t).bind (·.zero) = some Z) (hZ : Z.cells.toList = List.replicate N u) (hu : f z = .exact u) (hk : ∀ b, K (af.put d (pA b 0)) (boxI t b ((List.replicate N z).map f) :: σ)) :
    opB P ⟨d, .alloc t, ty, pos, after, g⟩ af σ K := op_alloc hz (by rw [hZ]; exact les_rep hu N) hk
end
end Go.Proofs.YtdppkpiagdaigaaDoor
/- Appending a string's bytes. -/
namespace Go.Proofs.YtdppkpiagdaigaaDoor
open Go.RowKit

section
variable {P : Program} {af : AF} {σ ρ : Items} {d : Option Tmp} {ty t u : TypeId} {pos : String} {after : Array Edge} {g : Option (Nat × Bool)} {xs ys : List UInt8} {v : Value} {K : AF → Items → Prop} {enc : UInt8 → List AV}
theorem fit_strCells {M : BSet} {w : World} (henc : ∀ x, enc x = [.exact (.int .u8 (x.toNat : Int))]) : ∀ ys : List UInt8, Fit M w (ys.flatMap enc) (ys.map fun b => Value.int .u8 b.toNat)
  | [] => trivial
  | y :: ys => by rw [List.flatMap_cons, henc, List.map_cons]; exact ⟨rfl, fit_strCells henc ys⟩
theorem loud_appendS {s x : Operand} {m : Nat} {c : List AV} (henc : ∀ x, enc x = [.exact (.int .u8 (x.toNat : Int))]) (hE : elB P t 1 = true) (hu : isStrB P u = true) (hz : (P.info? (elemOfT P t)).bind (·.zero) = some (.int .u8 0)) (hby : ((P.info? (elemOfT P t)).map (·.bytes)) = some 1)
    (hs : af.ev s = .exact v) (hx : af.ev x = .exact (.string (bs ys))) (hl : m + ys.length ≤ 137438953472) :
    Loud P ⟨d, .call { callee := .builtin .append, args := #[s, x], argTypes := #[t, u] }, ty, pos, after, g⟩ af (vecI P t v 1 m c :: ρ) (fun a σ' => ∃ v', a = .exact v' ∧ σ' = vecI P t v' 1 (m + ys.length) (c ++ ys.flatMap enc) :: ρ) := by
  intro F w ev hg h
  obtain ⟨ht, hn0, i, z, hi, hz', hi1, hi2, hi3⟩ := elB_spec hE
  have hus := isStrB_spec hu
  have e1 := opnd h (x := s) (by simp [Op.operands, Call.operands]) hs
  have e2 := opnd h (x := x) (by simp [Op.operands, Call.operands]) hx
  obtain ⟨xs, hown, hfit⟩ := hg.items (vecI P t v 1 m c) List.mem_cons_self
  rw [hi] at hz hby
  simp only [Option.bind_some, Option.map_some, Option.some.injEq] at hz hby
  have hsz : (bs ys).size = ys.length := by simp [ByteArray.size]
  have hrun : ∃ v' w', (Builtin.append_ #[t, u] ty #[v, .string (bs ys)]).run P w = .ok v' w' ∧ w'.ownsRow 0 (elemOfT P t) 1 v' (m + ys.length) (xs ++ ys.map fun b => Value.int .u8 b.toNat) ∧ w.grownBy w' v.ownBlock ∧ (v'.ownBlock = v.ownBlock ∨ v'.ownBlock = some w.heap.size) := by
    obtain ⟨v', w', h1, h2, h3, h4⟩ := Go.Lib.run_append_own_string (P := P) w 0 t u ty (elemOfT P t) i ht hus hi hz hi1 hby v m xs hown (bs ys) (by rw [hsz]; simp only [maxLen]; omega) (by rw [hsz]; omega) (Nat.zero_le _)
    rw [hsz] at h2
    refine ⟨v', w', h1, h2, h3, ?_⟩
    rcases hown.2 with ⟨rfl, rfl⟩ | ⟨q, cap, cur, rfl, _, hg, hnc, hcm, hcs, htake⟩
    · by_cases hm : (bs ys).size = 0
      · exact .inl (by rw [h4.2 ⟨rfl, hm⟩])
      · have hr := run_append_nil_string (P := P) w t u ty (elemOfT P t) i (.int .u8 0) ht hus hi hz (bs ys) (by omega) (by rw [hsz]; omega) (by rw [hby, hsz]; omega)
        rw [h1] at hr
        injection hr with a1 a2
        exact .inr (by rw [a1]; rfl)
    · by_cases hroom : m + (bs ys).size ≤ cap
      · have hr := Go.Lib.run_append_room_string (P := P) w t u ty (elemOfT P t) i ht hus hi hi1 q m cap cur hg (bs ys) hroom (by omega)
        rw [h1] at hr
        injection hr with a1 a2
        exact .inl (by rw [a1]; rfl)
      · have holds : ∀ j u, xs[j]? = some u → w.cell? ((⟨q, 0, none⟩ : Addr).add j) = some u := hown.cells (g := q) rfl
        have hr := Go.Lib.run_append_grow_string (P := P) w t u ty (elemOfT P t) i (.int .u8 0) ht hus hi hz ⟨q, 0, none⟩ m cap xs (by rw [hi1]; exact hown.1) holds (bs ys) (by omega) (by rw [hsz]; omega) (by rw [hby]; exact growslice_fits (by omega) (by rw [hsz]; omega))
        rw [h1] at hr
        injection hr with a1 a2
        exact .inr (by rw [a1]; rfl)
  obtain ⟨v', w', h1, h2, h3, h5⟩ := hrun
  have hf := fit_strCells (M := both F (Items.own (vecI P t v 1 m c :: ρ))) (w := w) henc ys
  have hrun' : (execOp ev ⟨d, .call { callee := .builtin .append, args := #[s, x], argTypes := #[t, u] }, ty, pos, after, g⟩).run P w = .ok (.value v') w' := by
    unfold execOp
    simp only [resolve, invoke, builtin, Sem.run_bind, Sem.run_pure, Result.andThen_ok, List.map_toArray, List.map_cons, List.map_nil, e1, e2, h1]
  rw [hrun']
  have hk : Keeps (fun k => k ∈ (vecI P t v 1 m c).own) w w' := ⟨h3.os, h3.tape, h3.output, run_drawn _ _ _ _ h1, h3.size, fun k hlt hn => h3.block k hlt (fun e => hn (by simp [vecI, ← e]))⟩
  obtain ⟨g1, g2, g3⟩ := good_head (it' := vecI P t v' 1 (m + ys.length) (c ++ ys.flatMap enc)) hg hk (fun k hk' => by
      have hk'' : v'.ownBlock = some k := by simpa [vecI] using hk'
      refine ⟨(h2.lt k hk'').2, fun hlt => ?_⟩
      rcases h5 with h5 | h5
      · simp [vecI, ← h5, hk'']
      · rw [h5] at hk''; injection hk'' with e; omega) (by cases h : v'.ownBlock <;> simp [vecI, h])
    (fun hkk hMM => ⟨_, h2, (hfit.keep hkk hMM).app (hf.keep hkk hMM)⟩)
  exact ⟨_, _, ⟨v', rfl, rfl⟩, g1, g2, g3, rfl⟩
theorem op_appTS {s z : Operand} (henc : ∀ x, enc x = [.exact (.int .u8 (x.toNat : Int))]) (hE : elB P t 1 = true) (hu : isStrB P u = true) (hz : (P.info? (elemOfT P t)).bind (·.zero) = some (.int .u8 0)) (hby : ((P.info? (elemOfT P t)).map (·.bytes)) = some 1)
    (hs : af.ev s = .exact v) (hx : af.ev z = .exact (.string (bs ys))) (hl : xs.length + ys.length ≤ LIM) (hk : ∀ v', K (af.put d (.exact v')) (vecT P t 1 enc v' (xs ++ ys) :: ρ)) :
    opB P ⟨d, .call { callee := .builtin .append, args := #[s, z], argTypes := #[t, u] }, ty, pos, after, g⟩ af (vecT P t 1 enc v xs :: ρ) K :=
  ⟨_, loud_appendS henc hE hu hz hby hs hx hl, fun av σ' ⟨v', e1, e2⟩ => by
    subst e1 e2
    have := hk v'
    unfold vecT at this
    rwa [List.length_append, List.flatMap_append] at this⟩
end
end Go.Proofs.YtdppkpiagdaigaaDoor
/- slices.SortFunc on a row in use, by the shelf's contract. -/
namespace Go.Proofs.YtdppkpiagdaigaaDoor
open Go.RowKit Go.Sort

theorem keeps_grow {w w' : World} (h : Keeps noB w w') : ∃ q os, w' = grow (w.drewN q) os := by
  obtain ⟨h1, h2, h3, h4, h5, h6⟩ := h
  refine ⟨w'.drawn - w.drawn, w'.heap.extract w.heap.size w'.heap.size, ?_⟩
  have hheap : w'.heap = w.heap ++ w'.heap.extract w.heap.size w'.heap.size := by
    apply Array.ext_getElem?
    intro i
    by_cases hi : i < w.heap.size
    · rw [Array.getElem?_append_left hi]
      exact h6 i hi (fun hf => hf)
    · rw [Array.getElem?_append_right (by omega), Array.getElem?_extract]
      by_cases h7 : i < w'.heap.size
      · rw [if_pos (by omega)]; congr 1; omega
      · rw [if_neg (by omega), Array.getElem?_eq_none (by omega)]
  have hd : w'.drawn = w.drawn + (w'.drawn - w.drawn) := by omega
  cases w with
  | mk hp tp dr os out =>
    cases w' with
    | mk hp' tp' dr' os' out' =>
      simp only at h1 h2 h3 hheap hd
      subst h1 h2 h3
      unfold grow World.drewN
      simp only [World.mk.injEq, true_and, and_true]
      exact ⟨hheap, hd⟩

theorem fit_ex_eq {M : BSet} {w : World} : ∀ {l us : List Value}, Fit M w (l.map AV.exact) us → us = l
  | [], [], _ => rfl
  | a :: l, u :: us, h => by
    obtain ⟨h1, h2⟩ := h
    have h1' : u = a := h1
    rw [h1', fit_ex_eq h2]
theorem ex_fit_ex {M : BSet} {w : World} : ∀ (l : List Value), Fit M w (l.map AV.exact) l
  | [] => trivial
  | a :: l => ⟨rfl, ex_fit_ex l⟩

section
variable {α : Type} [Inhabited α] {enc : α → List Value} {k : Nat}
end
end Go.Proofs.YtdppkpiagdaigaaDoor
/- slices.Sort and slices.SortFunc on a row in use of one cell an element, by the shelf's contracts. -/
namespace Go.Proofs.YtdppkpiagdaigaaDoor
open Go.RowKit Go.Sort

theorem cmpLays1_pure {P : Program} {g : Nat} {α : Type} [Inhabited α] {e : α → Value} {cf : α → α → Int} {blk off size : Nat} {w : World}
    (h : ∀ x y, Pure P g [.exact (e x), .exact (e y)] (.exact (.int .i64 (cf x y)))) : CmpLays1 P g #[] e cf blk off size w := fun m os dk hs x y => by
  have := h x y noB (sortWorld e w blk off m dk os) [e x, e y] (fun _ hk => hk.elim) ⟨rfl, rfl, trivial⟩
  exact this.mono fun e w' ⟨v, e1, hk, e3⟩ => ⟨by rw [e1]; exact congrArg _ e3, keeps_grow hk⟩

theorem CmpOk.swo {α : Type} {c : α → α → Option Int} (h : CmpOk c) : SWO (ltOf (cfOf c)) := ⟨h.irrefl, h.trans, h.ntrans⟩
section
variable {α : Type} [Inhabited α] {e : α → Value} {P : Program}
theorem take_putCells1 (D : Array α) (cur : Array Value) (h : D.size ≤ cur.size) : (putCells e 0 D cur).toList.take D.size = D.toList.map e := by
  apply List.ext_getElem?
  intro j
  by_cases hj : j < D.size
  · rw [List.getElem?_take_of_lt hj, Array.getElem?_toList]
    simp [putCells, hj, show j < cur.size by omega]
  · rw [List.getElem?_take_eq_none (by omega), List.getElem?_eq_none (by simp; omega)]
/-- A call that sorts a row in use. -/
theorem sort1_fun {f : Nat} {rs : List Value} {S : List α → List α} (hS : ∀ zs, (S zs).length = zs.length) {encA : α → List AV} (hA : ∀ x, encA x = [.exact (e x)])
    (hC : ∀ (b c : Nat) (zs : List α) (w : World), zs ≠ [] → Go.Sort.Holds e w b 0 zs.toArray → b < w.heap.size → zs.length < 4611686018427387904 →
      Calls P f (.slice (some ⟨b, 0, none⟩) zs.length c :: rs).toArray w fun x w' => x = .returned (.tuple #[]) ∧ ∃ n os, w' = sortWorld e w b 0 n (S zs).toArray os)
    (hN : ∀ (p : Option Addr) (c : Nat) (w : World), Calls P f (.slice p 0 c :: rs).toArray w fun x w' => x = .returned (.tuple #[]) ∧ w' = w)
    (v : Value) (xs : List α) (hl : xs.length < 4611686018427387904) (t : TypeId) :
    Fun P f (.exact v :: rs.map AV.exact) [vecT P t 1 encA v xs] (fun a s => a = .tup [] ∧ s = [vecT P t 1 encA v (S xs)]) := by
  intro F w vs hg hfit
  have hS0 : S [] = [] := List.length_eq_zero_iff.1 (hS [])
  match vs, hfit with
  | v' :: us, ⟨e1, e2⟩ =>
  have e3 : us = rs := fit_ex_eq e2
  have e4 : v' = v := e1
  clear e1 e2
  subst e3 e4
  by_cases hx : xs = []
  · subst hx
    obtain ⟨us, hown, hf⟩ := hg.items _ List.mem_cons_self
    have hv : ∃ p cap, v' = .slice p 0 cap := by
      rcases hown.2 with ⟨rfl, _⟩ | ⟨q, cap, cur, rfl, _⟩
      · exact ⟨none, 0, rfl⟩
      · exact ⟨_, cap, rfl⟩
    obtain ⟨p, cap, rfl⟩ := hv
    refine (hN p cap w).mono fun x w' ⟨he, hw⟩ => ?_
    subst hw
    refine ⟨_, he, _, _, ⟨rfl, rfl⟩, ?_, (Keeps.refl noB w').mono (fun _ _ h => h.elim), ?_, ⟨[], rfl, trivial⟩⟩
    · rw [hS0]; exact hg
    · rw [hS0]; exact fun _ h _ => h
  · obtain ⟨b, c, cur, us, hv, hb, hnc, hcm, hcs, htk, hf⟩ := vec_cells (hg.items _ List.mem_cons_self) hx
    subst hv
    have hflat : ∀ ys : List α, ys.flatMap encA = (ys.map e).map AV.exact := by
      intro ys
      induction ys with
      | nil => rfl
      | cons y ys ih => rw [List.flatMap_cons, List.map_cons, List.map_cons, ih, hA]; rfl
    rw [hflat] at hf
    have hus := fit_ex_eq hf
    subst hus
    rw [Nat.mul_one] at htk hcs
    have hH : Go.Sort.Holds e w b 0 xs.toArray := by
      intro j hj
      have hj' : j < xs.length := by simpa using hj
      constructor
      · rw [cell_of_row _ b _ _ _ (0, 0) hb, Nat.zero_add]
        have e4 : (cur.toList.take xs.length)[j]? = (xs.map e)[j]? := by rw [htk]
        rw [List.getElem?_take_of_lt hj', List.getElem?_map, List.getElem?_eq_getElem hj'] at e4
        rw [getElem!_pos xs.toArray j (by simpa using hj')]
        simpa using e4
      · simp [World.frozen?, hb]
    have hblt := (Array.getElem?_eq_some_iff.1 hb).1
    refine (hC b c xs w hx hH hblt hl).mono fun x w' ⟨he, n, os, hw⟩ => ?_
    generalize hys : S xs = ys at hw ⊢
    have hyl : ys.length = xs.length := by rw [← hys]; exact hS xs
    subst hw
    have hheap : (sortWorld e w b 0 n ys.toArray os).heap[b]? = some (.cells (putCells e 0 ys.toArray cur) (elemOfT P t) (0, 0)) := by
      unfold sortWorld
      rw [heap_grow_old _ _ (by simpa using hblt)]
      simp [putRow, mapBlock, Sort.ahead, Array.getElem?_modify, hb, onCells]
    have hkp : Keeps (fun q => q ∈ (vecT P t 1 encA (.slice (some ⟨b, 0, none⟩) xs.length c) xs).own) w (sortWorld e w b 0 n ys.toArray os) := by
      refine ⟨rfl, rfl, rfl, Nat.le_add_right _ _, ?_, fun q hlt hn => ?_⟩
      · simp [sortWorld, grow]
      · have hne : q ≠ b := fun e => hn (by simp [vecT, vecI, Value.ownBlock, e])
        unfold sortWorld
        rw [heap_grow_old _ _ (by simpa using hlt)]
        simp [putRow, mapBlock, Sort.ahead, Array.getElem?_modify, Ne.symm hne]
    have hown : (sortWorld e w b 0 n ys.toArray os).ownsRow 0 (elemOfT P t) 1 (.slice (some ⟨b, 0, none⟩) xs.length c) ys.length (ys.map e) := by
      refine ⟨by simp, .inr ⟨b, c, _, by rw [hyl], Nat.zero_le _, hheap, by rw [hyl]; exact hnc, hcm, by simp [putCells, hcs], ?_⟩⟩
      have := take_putCells1 (e := e) ys.toArray cur (by simp [hyl]; omega)
      simpa using this
    obtain ⟨g1, g2, g3⟩ := good_head (it' := vecT P t 1 encA (.slice (some ⟨b, 0, none⟩) xs.length c) ys) hg hkp (fun q hq => ⟨by simp [vecT, vecI, Value.ownBlock] at hq; subst hq; simpa [sortWorld, grow] using Nat.lt_of_lt_of_le hblt (Nat.le_add_right _ _), fun _ => hq⟩) (by simp [vecT, vecI, Value.ownBlock])
      (fun hkk hMM => ⟨ys.map e, hown, by rw [hflat]; exact ex_fit_ex _⟩)
    exact ⟨_, he, _, _, ⟨rfl, rfl⟩, g1, g2, g3, ⟨[], rfl, trivial⟩⟩
theorem sortFunc1_fun {ρ : Go.Shelf.Ren} (L : SlLaysF.n6 P ρ) (L0 : SlLaysF0.n6 P ρ) {encA : α → List AV} (hA : ∀ x, encA x = [.exact (e x)]) (h1 : OneCell e) (cf : α → α → Int) (hO : SWO (ltOf cf)) (hT : ∀ x y, (ltOf cf) x y = false → (ltOf cf) y x = false → x = y) (g : Nat) (eg : ∀ args w, (callFunc g args).run P w = .ok (.enter g args) w)
    (hcmp : ∀ x y, Pure P g [.exact (e x), .exact (e y)] (.exact (.int .i64 (cf x y)))) (v : Value) (xs : List α) (hl : xs.length < 4611686018427387904) (t : TypeId) :
    Fun P (ρ.f 6) [.exact v, .exact (.func (.func g) #[] #[])] [vecT P t 1 encA v xs] (fun a s => a = .tup [] ∧ s = [vecT P t 1 encA v (xs.mergeSort fun x y => !(ltOf cf) y x)]) :=
  sort1_fun (rs := [.func (.func g) #[] #[]]) (S := fun zs => zs.mergeSort fun x y => !(ltOf cf) y x) (fun _ => List.length_mergeSort _) hA
    (fun b c zs w _ hH hb hz => by
      have := Any.slices_SortFunc_total L e h1 cf hO g #[] b 0 c zs.toArray w eg (cmpLays1_pure hcmp) hH hb (by simpa using hz) hT
      simpa using this) (fun p c w => AnyF.slices_SortFunc_none L0 p c (.func (.func g) #[] #[]) w) v xs hl t
theorem m_sortby1_ok {ρ : Go.Shelf.Ren} (L : SlLaysF.n6 P ρ) (L0 : SlLaysF0.n6 P ρ) {encA : α → List AV} (hA : ∀ x, encA x = [.exact (e x)]) (h1 : OneCell e) (g : Nat) (eg : ∀ args w, (callFunc g args).run P w = .ok (.enter g args) w) (t : TypeId) {c : α → α → Option Int}
    (hc : ∀ x y r, c x y = some r → Pure P g [.exact (e x), .exact (e y)] (.exact (.int .i64 r))) {v : Value} (xs r : List α) (h : m_sortby c xs = some r) :
    Fun P (ρ.f 6) [.exact v, .exact (.func (.func g) #[] #[])] [vecT P t 1 encA v xs] (fun a s => a = .tup [] ∧ s = [vecT P t 1 encA v r]) := by
  obtain ⟨hl, ho, rfl⟩ := m_sortby_some h
  exact sortFunc1_fun L L0 hA h1 (cfOf c) ho.swo ho.total g eg (fun x y => by
    obtain ⟨r, hr⟩ := ho.all x y
    have : cfOf c x y = r := by unfold cfOf; rw [hr]; rfl
    rw [this]; exact hc x y r hr) v xs hl t
end
end Go.Proofs.YtdppkpiagdaigaaDoor
/- No step of the machine draws back: the tape's place never falls from a call to its return. -/
namespace Go.Proofs.YtdppkpiagdaigaaDoor

def resW {α : Type} : Result α → World
  | .ok _ w => w
  | .halt _ w => w
theorem runW_drawn {P : Program} {α : Type} : ∀ (m : Sem α) (w : World), w.drawn ≤ (resW (m.run P w)).drawn := by
  intro m
  induction m with
  | pure a => intro w; exact Nat.le_refl _
  | halt e => intro w; exact Nat.le_refl _
  | load m a k ih =>
    intro w
    rw [Sem.run]
    split
    · exact ih _ _
    · split
      · exact ih _ _
      · exact Nat.le_refl _
  | store m a v k ih =>
    intro w
    have key : w.drawn ≤ (resW (match w.cell? a with | some _ => if w.frozen? a then Result.halt (.unsupported (.unsafePointer "a write to bytes that a string shares")) w else k.run P (w.setCell a v) | none => match w.farStore P a v (m == Mode.atomic) with | .ok (w, _) => k.run P w | .error h => .halt h w)).drawn := by
      split
      · split
        · exact Nat.le_refl _
        · exact (ih (w.setCell a v) : (w.setCell a v).drawn ≤ _)
      · split
        · rename_i h1; exact Nat.le_trans (far_drawn h1) (ih _)
        · exact Nat.le_refl _
    cases v
    all_goals first | exact key | (simp only [Sem.run]; first | exact key | exact Nat.le_refl _)
  | new o k ih =>
    intro w
    rw [Sem.run]
    exact (ih _ { w with heap := w.heap.push o } : ({ w with heap := w.heap.push o } : World).drawn ≤ _)
  | shape r k ih => intro w; rw [Sem.run]; exact ih _ _
  | freeze a n k ih =>
    intro w
    rw [Sem.run]
    have := ih (w.freeze a n)
    have e : (w.freeze a n).drawn = w.drawn := by unfold World.freeze; split <;> rfl
    rwa [e] at this
  | frozen a k ih => intro w; rw [Sem.run]; exact ih _ _
  | getObj r k ih =>
    intro w
    rw [Sem.run]
    split
    · exact Nat.le_refl _
    · exact ih _ _
    · exact Nat.le_refl _
  | setObj r o k ih =>
    intro w
    rw [Sem.run]
    split
    · exact Nat.le_refl _
    · exact (ih { w with heap := w.heap.setIfInBounds r o } : ({ w with heap := w.heap.setIfInBounds r o } : World).drawn ≤ _)
    · exact Nat.le_refl _
  | choose q k ih =>
    intro w
    rw [Sem.run]
    split
    · exact ih _ _
    · exact Nat.le_trans (Nat.le_succ _) (ih _ { w with drawn := w.drawn + 1 })
  | sys c k ih => intro w; rw [Sem.run]; exact Nat.le_trans (sys_drawn w c) (ih _ _)
  | program k ih => intro w; rw [Sem.run]; exact ih _ _
  | mark m k ih => intro w; rw [Sem.run]; exact ih _
theorem runW_le {P : Program} {α : Type} {m : Sem α} {w : World} {r : Result α} (h : m.run P w = r) : w.drawn ≤ (resW r).drawn := h ▸ runW_drawn m w

/-! ### Steps of a goroutine -/
/-- The world of the step is not behind w; an ended program is of no interest. -/
def GW (w : World) : GStep → Prop
  | .go _ w' _ => w.drawn ≤ w'.drawn
  | .comm _ _ _ _ w' _ => w.drawn ≤ w'.drawn
  | .spawn _ _ w' _ => w.drawn ≤ w'.drawn
  | .count _ w' _ => w.drawn ≤ w'.drawn
  | .timer _ _ w' _ => w.drawn ≤ w'.drawn
  | .alone _ _ w' _ => w.drawn ≤ w'.drawn
  | .newcoro _ _ _ w' _ => w.drawn ≤ w'.drawn
  | .coroswitch _ _ _ w' _ => w.drawn ≤ w'.drawn
  | .collect _ w' _ => w.drawn ≤ w'.drawn
  | .watch _ w' _ => w.drawn ≤ w'.drawn
  | .ended _ _ _ => True
theorem GW.after {w : World} {es : Array Event} {s : GStep} (h : GW w s) : GW w (GStep.after es s) := by cases s <;> exact h
theorem GW.trans {w w' : World} {s : GStep} (h : w.drawn ≤ w'.drawn) (h' : GW w' s) : GW w s := by
  cases s <;> first | exact trivial | exact Nat.le_trans h h'
theorem ite_GW {w : World} {c : Prop} [Decidable c] {a b : GStep} (ha : GW w a) (hb : GW w b) : GW w (if c then a else b) := by split; exact ha; exact hb
theorem endWith_GW (w : World) (fd : Nat) (t : ByteArray) (o : Outcome) : GW w (endWith w fd t o) := by
  unfold endWith
  dsimp only
  repeat' split
  all_goals exact trivial
theorem endThrow_GW (fr : Frame) (m : String) (w : World) : GW w (endThrow fr m w) := Nat.le_refl _
theorem dieOf_GW (fr : Frame) (a : List ByteArray) (m : String) (b : Bool) (w : World) : GW w (dieOf fr a m b w) := Nat.le_refl _
theorem endPrinting_GW (p : Program) (fr : Frame) (v : Value) (w : World) : GW w (endPrinting p fr v w) := by
  unfold endPrinting
  dsimp only
  split
  · exact endThrow_GW _ _ _
  · exact trivial
theorem endFatal_GW (p : Program) (fr : Frame) (cs : List Frame) (d : Option Dying) (m : String) (w : World) : GW w (endFatal p fr cs d m w) := by
  unfold endFatal
  dsimp only
  split
  · rename_i h; exact GW.trans (runW_le h) (dieOf_GW _ _ _ _ _)
  · exact trivial
  · exact trivial
theorem writeOn_GW (p : Program) (fr : Frame) (d : Dying) (f : Fatal) (w : World) : GW w (writeOn p fr d f w) := by
  unfold writeOn
  dsimp only
  split
  · exact trivial
  · simp only [Sem.runT_eq]
    split <;> rename_i h
    · simp only [Prod.mk.injEq] at h; exact runW_le h.1
    · simp only [Prod.mk.injEq] at h; exact runW_le h.1
    · exact trivial
    · exact trivial
theorem die_GW (p : Program) (fr : Frame) (d : Dying) (w : World) : GW w (die p fr d w) := by
  unfold die
  split
  · exact writeOn_GW _ _ _ _ _
  · split
    · split
      · exact Nat.le_refl _
      · exact endWith_GW _ _ _ _
    · dsimp only
      split
      · exact Nat.le_refl _
      · split <;> rename_i h
        · exact runW_le h
        · exact trivial
      · simp only [Sem.runT_eq]
        refine GW.after ?_
        split <;> rename_i h
        · exact runW_le h
        · exact runW_le h
        · exact trivial
        · exact GW.trans (runW_le h) (endPrinting_GW _ _ _ _)
        · exact trivial
      · exact trivial
theorem doReturn_GW (p : Program) (main : Bool) (fr : Frame) (cs : List Frame) (d : Option Dying) (v : Value) (w : World) : GW w (doReturn p main fr cs d v w) := by
  unfold doReturn
  repeat' split
  all_goals first | exact Nat.le_refl _ | exact trivial
theorem callDeferred_GW (p : Program) (fr : Frame) (cs : List Frame) (dy : Option Dying) (d : Deferred) (w : World) : GW w (callDeferred p fr cs dy d w) := by
  unfold callDeferred
  refine ite_GW trivial ?_
  · simp only [Sem.runT_eq]
    refine GW.after ?_
    split <;> rename_i h
    all_goals first | exact trivial | exact runW_le h | exact GW.trans (runW_le h) (endFatal_GW _ _ _ _ _ _) | exact GW.trans (runW_le h) (endThrow_GW _ _ _) | (split <;> exact runW_le h)
theorem unwind_GW (p : Program) (main : Bool) (fr : Frame) (cs : List Frame) (dy : Option Dying) (w : World) : GW w (unwind p main fr cs dy w) := by
  unfold unwind
  split
  · simp only [Sem.runT_eq]
    refine GW.after ?_
    split <;> rename_i h
    · exact runW_le h
    · exact trivial
  · exact callDeferred_GW _ _ _ _ _ _
  · split
    · exact trivial
    · split
      · exact trivial
      · split
        · exact Nat.le_refl _
        · split
          · split
            · exact Nat.le_refl _
            · split <;> rename_i h
              · exact runW_le h
              · exact trivial
              · exact trivial
          · split
            · exact endPrinting_GW _ _ _ _
            · exact trivial
    · split
      · exact doReturn_GW _ _ _ _ _ _ _
      · simp only [Sem.runT_eq]
        refine GW.after ?_
        split <;> rename_i h
        · exact GW.trans (runW_le h) (doReturn_GW _ _ _ _ _ _ _)
        · exact trivial
        · exact trivial
theorem early_GW (p : Program) (fr : Frame) (cs : List Frame) (dy : Option Dying) (g : Nat) (w : World) : GW w (early p fr cs dy g w) := by
  have notYet : ∀ w : World, GW w (match w.heap[g]? with
    | some (.pending c elem) =>
      .go { frame := fr, callers := cs, status := .running, dying := dy } { w with heap := w.heap.setIfInBounds g (.cells c elem) }
    | _ => .ended (.stuck "early: the variable does not wait" (fr.pos p)) w) := fun w => by
    split
    · exact Nat.le_refl _
    · exact trivial
  unfold early
  dsimp only
  refine ite_GW (notYet w) ?_
  split
  · exact trivial
  · refine ite_GW (notYet w) (ite_GW (notYet w) ?_)
    split
    · exact trivial
    · exact Nat.le_refl _
    · exact trivial
    · exact notYet w
    · refine ite_GW (Nat.le_refl _) (ite_GW (notYet w) ?_)
      split <;> rename_i h
      · exact GW.trans (runW_le h) (notYet _)
      · exact runW_le h
      · exact trivial
theorem apply_GW (p : Program) (listen : Bool) (fr : Frame) (cs : List Frame) (dy : Option Dying) (s : Sem Next) (w : World) : GW w (stepG.apply p listen fr cs dy s w) := by
  unfold stepG.apply
  dsimp only
  refine GW.after ?_
  have e : (if listen = true then s.runT p w #[] else (s.run p w, #[])).1 = s.run p w := by split <;> simp
  rw [e]
  split <;> rename_i h
  all_goals first | exact trivial | exact runW_le h | exact GW.trans (runW_le h) (endFatal_GW _ _ _ _ _ _) | exact GW.trans (runW_le h) (endThrow_GW _ _ _) | exact GW.trans (runW_le h) (early_GW _ _ _ _ _ _) | exact ite_GW (GW.trans (runW_le h) (endThrow_GW _ _ _)) (runW_le h) | (split <;> exact runW_le h)
theorem oper_GW (p : Program) (listen : Bool) (fr : Frame) (cs : List Frame) (dy : Option Dying) (w : World) : GW w (stepG.oper p listen fr cs dy w) := by
  unfold stepG.oper
  split
  · exact trivial
  · split <;> exact apply_GW _ _ _ _ _ _ _
theorem exec_GW (p : Program) (main listen : Bool) (fr : Frame) (cs : List Frame) (dy : Option Dying) (w : World) : GW w (stepG.exec p main listen fr cs dy w) := by
  have fin : ∀ {α : Type} (m : Sem α) (w' : World) (r : Result α) (s : GStep), m.run p w = r → resW r = w' → GW w' s → GW w s := fun m w' r s h e hs => GW.trans (e ▸ runW_le h) hs
  have leave : ∀ (c : Prop) [Decidable c] (jump : Option Code) (ro : Option Nat), GW w (match ro with
      | none => if c then .go { frame := { fr with mode := .returning }, callers := cs, status := .running, dying := dy } w else .ended (.stuck "exit, goto: no such block or label" (fr.pos p)) w
      | some l =>
        GStep.after (seen p fr.fn ((Instr.endRound l jump).runT p w #[]).2) <| match ((Instr.endRound l jump).runT p w #[]).1 with
        | .ok v w => doReturn p main fr cs dy v w
        | .halt _ w => .ended (.stuck "range over a function: no such loop" (fr.pos p)) w) := fun c _ jump ro => by
    cases ro with
    | none =>
      refine ite_GW ?_ ?_
      · exact Nat.le_refl _
      · exact trivial
    | some l =>
      simp only [Sem.runT_eq]
      refine GW.after ?_
      split <;> rename_i h
      · exact GW.trans (runW_le h) (doReturn_GW _ _ _ _ _ _ _)
      · exact trivial
  unfold stepG.exec
  dsimp only
  split
  · exact leave _ _ _
  · exact leave _ _ _
  · exact Nat.le_refl _
  · exact Nat.le_refl _
  · exact Nat.le_refl _
  · exact Nat.le_refl _
  · exact Nat.le_refl _
  · split
    · exact Nat.le_refl _
    · exact trivial
  · exact Nat.le_refl _
  · exact Nat.le_refl _
  · exact Nat.le_refl _
  · exact Nat.le_refl _
  · generalize exitTo _ _ = o
    cases o with
    | none => exact leave _ _ _
    | some x => exact Nat.le_refl _
  · generalize gotoIn _ _ = o
    cases o with
    | none => exact leave _ _ _
    | some x => exact Nat.le_refl _
  · simp only [Sem.runT_eq]
    refine GW.after ?_
    split <;> rename_i h
    · exact GW.trans (runW_le h) (apply_GW _ _ _ _ _ _ _)
    · exact trivial
  · exact trivial
  · exact apply_GW _ _ _ _ _ _ _
  · simp only [Sem.runT_eq]
    refine GW.after ?_
    split <;> rename_i h
    · exact runW_le h
    · exact runW_le h
    · exact trivial
  · exact trivial
  · exact apply_GW _ _ _ _ _ _ _
  · generalize Extern.next _ = o
    cases o with
    | none => exact trivial
    | some e => exact apply_GW _ _ _ _ _ _ _
  · refine ite_GW ?_ ?_
    · exact Nat.le_refl _
    · split <;> rename_i h
      · exact runW_le h
      · exact trivial
  · exact Nat.le_refl _
  · refine ite_GW ?_ ?_
    · exact oper_GW _ _ _ _ _ _
    · exact Nat.le_refl _
theorem stepG_GW (p : Program) (main listen : Bool) (g : Goroutine) (w : World) : GW w (stepG p main g w listen) := by
  unfold stepG
  dsimp only
  split
  · exact die_GW _ _ _ _
  · exact exec_GW _ _ _ _ _ _ _
  · exact unwind_GW _ _ _ _ _ _

/-! ### Steps of the machine -/

/-! ### Steps of the machine -/
theorem waitingAt_drawn {rest : Rest} {cases : Array CommCase} {w w' : World} (h : waitingAt rest cases w = some w') : w.drawn ≤ w'.drawn := by
  unfold waitingAt at h
  split at h
  · split at h
    · cases h; exact Nat.le_refl _
    · cases h
  · cases h; exact Nat.le_refl _
theorem communicate_drawn (p : Program) (rest : Rest) (gs : Array Goroutine) (i : Nat) (g : Goroutine) (cases : Array CommCase) (blocking : Bool) (shape : CommShape) (w : World) (m' : Machine) (h : (communicate p rest gs i g cases blocking shape w).1 = .next m') : w.drawn ≤ m'.world.drawn := by
  unfold communicate at h
  simp only [] at h
  split at h
  · simp at h
  · split at h
    · split at h
      · split at h <;> rename_i hw
        · simp only [Stepped.next.injEq] at h; subst h; exact waitingAt_drawn hw
        · simp at h
      · simp only [Stepped.next.injEq] at h; subst h; exact Nat.le_refl _
    · split at h <;> rename_i hp
      · simp at h
      · have hd := runW_le hp
        repeat' split at h
        all_goals first
          | (simp at h; done)
          | (simp only [Stepped.next.injEq] at h; subst h; exact hd)
          | (rename_i hq; simp only [Stepped.next.injEq] at h; subst h; exact Nat.le_trans hd (runW_le hq))
          | (rename_i hq _; simp only [Stepped.next.injEq] at h; subst h; exact Nat.le_trans hd (runW_le hq))
          | (rename_i hq _ _; simp only [Stepped.next.injEq] at h; subst h; exact Nat.le_trans hd (runW_le hq))
          | (rename_i hq _ _ _; simp only [Stepped.next.injEq] at h; subst h; exact Nat.le_trans hd (runW_le hq))
          | (rename_i hq _ _ _ _; simp only [Stepped.next.injEq] at h; subst h; exact Nat.le_trans hd (runW_le hq))
          | (rename_i hq _ _ _ _ _; simp only [Stepped.next.injEq] at h; subst h; exact Nat.le_trans hd (runW_le hq))
          | (rename_i hq _ _ _ _ _ _; simp only [Stepped.next.injEq] at h; subst h; exact Nat.le_trans hd (runW_le hq))
theorem look_drawn (p : Program) (gs : Array Goroutine) (rest : Rest) (w : World) (m' : Machine) (h : look p gs rest w = .next m') : w.drawn ≤ m'.world.drawn := by
  unfold look at h
  simp only [] at h
  split at h
  · split at h
    · simp at h
    · split at h
      · simp at h
      · split at h <;> rename_i hp
        · simp only [Stepped.next.injEq] at h; subst h; exact runW_le hp
        · simp at h
        · simp at h
  · simp at h
theorem retime_drawn (m : Machine) (k : Nat) (t : Timer) (a b : Nat) : (retime m k t a b).2.world.drawn = m.world.drawn := by
  unfold retime drain
  dsimp only
  split
  · split <;> rfl
  · rfl
theorem opened_drawn {m m' : Machine} {var : Addr} (h : timerOp.opened m var = some m') : m'.world.drawn = m.world.drawn := by
  unfold timerOp.opened at h
  split at h
  · split at h
    · cases h; rfl
    · cases h
  · cases h; rfl
theorem named_drawn {m m' : Machine} {var : Addr} {f : Nat → Timer → Value × Machine} {v : Value} {n : Nat} (hf : ∀ k t, (f k t).2.world.drawn = n) (h : timerOp.named m var f = .ok (v, m')) : m'.world.drawn = n := by
  unfold timerOp.named at h
  split at h
  · simp only [Except.ok.injEq] at h
    rw [← hf _ _, h]
  · cases h
theorem timerOp_drawn (m m' : Machine) (op : TimerOp) (v : Value) (h : timerOp m op = .ok (v, m')) : m'.world.drawn = m.world.drawn := by
  unfold timerOp at h
  split at h
  · split at h
    · cases h; rfl
    · split at h
      · split at h
        · cases h
        · cases h; rfl
      · cases h
  · exact named_drawn (fun _ _ => retime_drawn _ _ _ _ _) h
  · split at h <;> rename_i ho
    · have := opened_drawn ho
      rw [← this]
      exact named_drawn (fun _ _ => retime_drawn _ _ _ _ _) h
    · cases h
  · cases h; rfl
theorem runT_drawn (p : Program) (m m' : Machine) (i : Nat) (b : Bool) (h : (runT p m i b).1 = .next m') : m.world.drawn ≤ m'.world.drawn := by
  simp only [runT] at h
  have hs := stepG_GW p (i == 0) b (m.gs.swapAt! i { (default : Goroutine) with status := .finished }).1 m.world
  revert hs h
  generalize m.gs.swapAt! _ _ = gg
  generalize stepG p _ gg.1 m.world b = s
  intro h hs
  cases s <;> simp only [] at h
  all_goals first
    | (simp at h; done)
    | (exact Nat.le_trans hs (communicate_drawn _ _ _ _ _ _ _ _ _ _ h))
    | (exact Nat.le_trans hs (look_drawn _ _ _ _ _ h))
    | (simp only [Stepped.next.injEq] at h; subst h; exact hs)
    | (repeat' first
        | (simp at h; done)
        | (simp only [Stepped.next.injEq] at h; subst h; exact hs)
        | (rename_i ht; simp only [Stepped.next.injEq] at h; subst h; have e := timerOp_drawn _ _ _ _ ht; exact Nat.le_trans hs (Nat.le_of_eq e.symm))
        | (rename_i ht; simp only [endThrow, dieOf, GStep.go.injEq] at ht; obtain ⟨_, e, _⟩ := ht; simp only [Stepped.next.injEq] at h; subst h; subst e; exact hs)
        | split at h)
theorem serve_drawn (p : Program) (m m' : Machine) (k : Nat) (h : serve p m k = .next m') : m.world.drawn ≤ m'.world.drawn := by
  unfold serve at h
  simp only [] at h
  repeat' first
    | (simp at h; done)
    | (simp only [Stepped.next.injEq] at h; subst h; exact Nat.le_refl _)
    | split at h
/-- Where a move leads: a machine that is not behind. -/
def MW (n : Nat) : Move → Prop
  | .goroutine m _ => n ≤ m.world.drawn
  | .machine (.next m) _ => n ≤ m.world.drawn
  | _ => True
theorem MW.le {n k : Nat} {v : Move} (h : n ≤ k) (h' : MW k v) : MW n v := by
  cases v with
  | goroutine m i => exact Nat.le_trans h h'
  | machine s ops => cases s <;> first | exact Nat.le_trans h h' | exact trivial
theorem serve_MW (p : Program) (m : Machine) (k : Nat) (ops : Array MemOp) : MW m.world.drawn (.machine (serve p m k) ops) := by
  cases h : serve p m k with
  | next m' => exact serve_drawn p m m' k h
  | ended o w => exact trivial
theorem pick_MW (p : Program) (rs : List Nat) (m : Machine) : MW m.world.drawn (match (choose (.sched rs.length)).run p m.world with
      | .halt _ w => .machine (.ended (.stuck "sched" "") w)
      | .ok k world =>
        if rs.length ≤ 1 then .goroutine { m with world } (rs.getD k 0) else
        match (choose (.extern "sched.slice" 65536)).run p world with
        | .halt _ w => .machine (.ended (.stuck "sched.slice" "") w)
        | .ok n world => .goroutine { m with world, rest := { m.rest with slice := if n = 0 then none else some (rs.getD k 0, n) } } (rs.getD k 0)) := by
  split <;> rename_i h
  · exact trivial
  · split
    · exact runW_le h
    · split <;> rename_i h2
      · exact trivial
      · exact Nat.le_trans (runW_le h) (runW_le h2)
theorem askOn_MW (p : Program) (m : Machine) : MW m.world.drawn (askOn p m) := by
  unfold askOn
  dsimp only
  split
  · exact trivial
  · rename_i k0 w0 h1
    refine MW.le (runW_le h1) ?_
    dsimp only [resW]
    split
    · exact serve_MW p _ _ _
    · split
      · split
        · exact Nat.le_refl _
        · split
          · exact Nat.le_refl _
          · split <;> exact trivial
      · split
        · exact pick_MW p (runnable m.gs m.world.os.mono) { m with world := w0 }
        · rename_i t ht
          split
          · exact trivial
          · rename_i w1 h2; exact MW.le (runW_le h2) (pick_MW p (runnable m.gs m.world.os.mono) { m with world := w1 })
          · rename_i h2; exact runW_le h2
          · rename_i k1 w1 h2; exact MW.le (runW_le h2) (pick_MW p (runnable m.gs m.world.os.mono) (({ m with world := w1 } : Machine).advanceTo (t - (k1 + 1))))
theorem ask_MW (p : Program) (m : Machine) : MW m.world.drawn (ask p m) := by
  unfold ask
  split
  · split <;> rename_i h1
    · exact trivial
    · refine MW.le (runW_le h1) ?_
      dsimp only [resW]
      split <;> rename_i h2
      · exact MW.le (look_drawn _ _ _ _ _ h2) (askOn_MW p _)
      · rename_i e
        cases hl : look p m.gs m.rest _ with
        | next m' => exact absurd hl (h2 m')
        | ended o w => exact trivial
    · exact MW.le (runW_le h1) (askOn_MW p _)
  · exact askOn_MW p m
theorem move_MW (p : Program) (m : Machine) : MW m.world.drawn (move p m) := by
  unfold move
  split
  · split
    · exact Nat.le_refl _
    · exact trivial
  · split
    · split
      · exact Nat.le_refl _
      · exact ask_MW p { m with rest := { m.rest with slice := none } }
    · exact ask_MW p m
theorem step_drawn (p : Program) (m m' : Machine) (h : step p m = .next m') : m.world.drawn ≤ m'.world.drawn := by
  unfold step stepT at h
  have hm := move_MW p m
  split at h <;> rename_i hk <;> rw [hk] at hm
  · exact Nat.le_trans hm (runT_drawn p _ m' _ _ h)
  · simp only [] at h
    subst h
    exact hm
theorem runN_drawn (p : Program) : ∀ (n : Nat) (m m' : Machine), runN p n m = .next m' → m.world.drawn ≤ m'.world.drawn
  | 0, m, m', h => by cases h; exact Nat.le_refl _
  | n + 1, m, m', h => by
    rw [runN] at h
    split at h <;> rename_i hs
    · exact Nat.le_trans (step_drawn p m _ hs) (runN_drawn p n _ m' h)
    · exact absurd h (hs m')
theorem Steps_drawn {p : Program} {m m' : Machine} (h : Steps p m m') : m.world.drawn ≤ m'.world.drawn := by
  obtain ⟨n, h⟩ := h
  exact runN_drawn p n m m' h
/-- From a call to its return the tape's place does not fall. -/
theorem Calls_drawn {P : Program} {f : FuncId} {args : Array Value} {w : World} {R : Ending → World → Prop} (h : Calls P f args w R) : Calls P f args w fun e w' => R e w' ∧ (e ≠ .outgrown → w.drawn ≤ w'.drawn) := fun cs => by
  obtain ⟨e, w', fr, h1, h2, h3⟩ := h cs
  refine ⟨e, w', fr, ⟨h1, fun hne => ?_⟩, h2, h3⟩
  cases e with
  | returned v => exact Steps_drawn h2
  | panicked c => exact Steps_drawn h2
  | outgrown => exact absurd rfl hne
end Go.Proofs.YtdppkpiagdaigaaDoor
