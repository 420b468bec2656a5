/- Arguments opened: a list of numbers, a list of pairs. -/
import Derived.Test.YtkplmgdmkfgjhaaL2
import Derived.ProofKit
import Derived.OpenShut
import Derived.Deep.Slices
namespace Go.Proofs.Ytkplmgdmkfgjhaa
open Go.ChangeShapes Go.WideShapes Go.ChangeAt Go.RowKit Go.Deep

theorem Try.own : ownKnob Try.prog.godebug = none := by kernel_rfl
theorem Try.laidOut : laidOutB Try.prog = true := by kernel_rfl
theorem cells_int : Try.prog.cellsOf 3 = 1 := by kernel_rfl
theorem cells_pair : Try.prog.cellsOf 29 = 2 := by kernel_rfl

section
variable {H : Type} {enc : TypeId × Value → H}
theorem arg_ints {W : World} {v : Value} {d : DataW H} {p : List MemPlace} (hv : ∃ A n c, v = .slice A n c) (h : DataW.Trod enc Try.prog W 0 (fun _ => true) true 22 v d p) :
    ∃ (A : Option Addr) (c : Nat) (xs : List Int), v = .slice A xs.length c ∧ xs.length ≤ 9223372036854775807 ∧ IntsAt .i64 W W.heap.size A xs := by
  obtain ⟨A, n, c, rfl⟩ := hv
  obtain ⟨fuel, hf⟩ := h
  rcases open_ints Try.underlying22 Try.underlying3 cells_int hf with ⟨hcs, hx⟩ | ⟨a, len', cap', zs, hcs, _, hl, hm, hz, hx, hcell, hwz⟩
  · simp [Value.cells] at hcs
    obtain ⟨rfl, rfl, rfl⟩ := hcs
    exact ⟨none, 0, [], rfl, by simp, fun h => absurd rfl h⟩
  · simp [Value.cells] at hcs
    obtain ⟨rfl, rfl, rfl⟩ := hcs
    simp only [if_true] at hz
    have hlen : (zs.take n).length = n := by rw [List.length_take]; omega
    unfold maxLen at hm
    refine ⟨some a, c, zs.take n, by rw [hlen], by omega, fun hne => ?_⟩
    have hpos : 0 < zs.length := by
      rcases Nat.eq_zero_or_pos zs.length with h0 | h0
      · exact absurd (List.eq_nil_of_length_eq_zero (by rw [List.length_take]; omega)) hne
      · exact h0
    obtain ⟨b, off, rfl, hc⟩ := ints_at hcell hpos
    refine ⟨b, off, rfl, World.block_lt_of_cell? W _ (hc 0 hpos), fun i x hi => ?_⟩
    rw [List.getElem?_take] at hi
    split at hi
    · rw [hc i (by omega)]
      simp [List.getD, hi]
    · cases hi

set_option maxRecDepth 100000 in
theorem arg_pairs {W : World} {v : Value} {d : DataW H} {p : List MemPlace} (hv : ∃ A n c, v = .slice A n c) (h : DataW.Trod enc Try.prog W 0 (fun _ => true) true 23 v d p) :
    ∃ (A : Option Addr) (c : Nat) (l : List (Int × Int)), v = .slice A l.length c ∧ l.length ≤ 9223372036854775807 ∧ PairsAt W W.heap.size A l := by
  obtain ⟨A, n, c, rfl⟩ := hv
  obtain ⟨fuel, hf⟩ := h
  rcases open_slice Try.underlying23 hf with ⟨hcs, hx⟩ | ⟨a, len, cap, m, k, D, Pl, hcs, _, hl, hm, hmm, hx, hel⟩
  · simp [Value.cells] at hcs
    obtain ⟨rfl, rfl, rfl⟩ := hcs
    exact ⟨none, 0, [], rfl, by simp, fun h => absurd rfl h⟩
  · simp [Value.cells] at hcs
    obtain ⟨rfl, rfl, rfl⟩ := hcs
    simp only [if_true] at hmm
    unfold maxLen at hm
    have hget : ∀ i, i < n → ∃ q : Int × Int, W.cell? (a.add (i * 2)) = some (.int .i64 q.1) ∧ W.cell? ((a.add (i * 2)).add 1) = some (.int .i64 q.2) := by
      intro i hi
      obtain ⟨cs', hc, ht⟩ := hel i (by omega)
      rw [cells_pair] at hc
      obtain ⟨_, hcl, hat⟩ := World.cells?_some hc
      obtain ⟨xs, q, _, _, _, hxl, hg⟩ := DataW.trod_array Try.underlying29 ht
      have h0 := hg 0 (by omega)
      have h1 := hg 1 (by omega)
      rw [cells_int] at h0 h1
      match cs', hcl with
      | [c0, c1], _ =>
        simp only [Nat.zero_mul, List.drop_zero, List.take_succ_cons, List.take_zero, Nat.one_mul, List.drop_succ_cons] at h0 h1
        obtain ⟨y0, hy0⟩ : ∃ y, DataW.trod enc Try.prog W 0 (fun _ => true) true q 3 [c0] = some y := by rw [h0]; exact ⟨_, List.getElem?_eq_getElem (by omega)⟩
        obtain ⟨y1, hy1⟩ : ∃ y, DataW.trod enc Try.prog W 0 (fun _ => true) true q 3 [c1] = some y := by rw [h1]; exact ⟨_, List.getElem?_eq_getElem (by omega)⟩
        obtain ⟨z0, e0, _, _⟩ := DataW.trod_int Try.underlying3 hy0
        obtain ⟨z1, e1, _, _⟩ := DataW.trod_int Try.underlying3 hy1
        simp at e0 e1
        subst e0 e1
        have a0 := hat 0 (by omega)
        have a1 := hat 1 (by omega)
        refine ⟨(z0, z1), ?_, ?_⟩
        · have : (a.add (i * 2)).add 0 = a.add (i * 2) := by unfold Addr.add; simp
          rw [this] at a0
          simpa using a0
        · simpa using a1
    rcases Nat.eq_zero_or_pos n with h0 | hpos
    · subst h0
      exact ⟨some a, c, [], rfl, by simp, fun h => absurd rfl h⟩
    · obtain ⟨b, off, spot⟩ := a
      obtain ⟨q0, hq0, _⟩ := hget 0 hpos
      have hspot : spot = none := by simpa [Addr.add] using World.cell?_spot hq0
      subst hspot
      let f : Nat → Int × Int := fun i => if h : i < n then Classical.choose (hget i h) else (0, 0)
      refine ⟨some ⟨b, off, none⟩, c, (List.range n).map f, by simp, by simp; omega, fun _ => ⟨b, off, rfl, ?_, fun i p hi => ?_⟩⟩
      · have := World.block_lt_of_cell? W _ hq0
        rw [addr_add] at this
        exact this
      · have hin : i < n := by
          have := (List.getElem?_eq_some_iff.1 hi).1
          simpa using this
        have hp : p = Classical.choose (hget i hin) := by
          simp [hin, f] at hi
          exact hi.symm
        have hs := Classical.choose_spec (hget i hin)
        rw [← hp, addr_add, addr_add] at hs
        exact hs
end

end Go.Proofs.Ytkplmgdmkfgjhaa
