/- The tape. -/
import Derived.Test.YtkplmgdmkfgjhaaA4
namespace Go.Proofs.Ytkplmgdmkfgjhaa
open Go.RowKit

/-- Block g is known whole. -/
def Blk (w : World) (g : Nat) (t : TypeId) (cs : Array Value) : Prop := w.heap[g]? = some (.cells cs t (0, 0))
section
variable {w w' : World} {g : Nat} {t : TypeId} {cs : Array Value}
theorem Blk.lt (h : Blk w g t cs) : g < w.heap.size := by
  rcases Nat.lt_or_ge g w.heap.size with hlt | hge
  · exact hlt
  · unfold Blk at h; rw [Array.getElem?_eq_none hge] at h; cases h
theorem Blk.cell (h : Blk w g t cs) (i : Nat) : w.cell? ⟨g, i, none⟩ = cs[i]? := cell_of_row w g i cs t (0, 0) h
theorem Blk.frozen (h : Blk w g t cs) (i : Nat) : w.frozen? ⟨g, i, none⟩ = false := by unfold Blk at h; simp [World.frozen?, h]
theorem Blk.new (w : World) (t : TypeId) (cs : Array Value) : Blk (w.alloc (.cells cs t)) w.heap.size t cs := heap_alloc_new w _
theorem Blk.set_ (h : Blk w g t cs) (i : Nat) (u : Value) : Blk (w.setCell ⟨g, i, none⟩ u) g t (cs.setIfInBounds i u) := by
  unfold Blk at h ⊢
  simp [World.setCell, Array.getElem?_modify, h]
theorem Blk.below {B : Nat} (h : Blk w g t cs) (hb : Below B w w') (hg : g < B) : Blk w' g t cs := (hb.block g hg).trans h
theorem Blk.grown {row : Option Nat} (h : Blk w g t cs) (hb : w.grownBy w' row) (hg : some g ≠ row) : Blk w' g t cs := (hb.block g h.lt hg).trans h
end

/-- A tape in block g, over a list of numbers that lies below g; at most b numbers have been drawn. -/
def TapeAt (w : World) (g b : Nat) : Prop :=
  ∃ (A : Option Addr) (xs : List Int) (c at_ : Nat), Blk w g 71 #[.slice A xs.length c, .int .i64 at_] ∧ IntsAt .i64 w g A xs ∧ at_ ≤ b ∧ xs.length ≤ 9223372036854775807

theorem TapeAt.lt {w : World} {g b : Nat} (h : TapeAt w g b) : g < w.heap.size := by obtain ⟨_, _, _, _, h, _⟩ := h; exact h.lt
theorem TapeAt.mono {w : World} {g b b' : Nat} (h : TapeAt w g b) (hb : b ≤ b') : TapeAt w g b' := by
  obtain ⟨A, xs, c, n, h1, h2, h3, h4⟩ := h
  exact ⟨A, xs, c, n, h1, h2, Nat.le_trans h3 hb, h4⟩
theorem TapeAt.grown {w w' : World} {g b : Nat} {row : Option Nat} (h : TapeAt w g b) (hg : w.grownBy w' row) (hr : ∀ k, row = some k → g < k) : TapeAt w' g b := by
  obtain ⟨A, xs, c, n, h1, h2, h3, h4⟩ := h
  have hlt := h1.lt
  refine ⟨A, xs, c, n, h1.grown hg (fun e => by have := hr _ e.symm; omega), h2.below ⟨hg.os, hg.tape, hg.output, hg.size, fun k hk => hg.block k (by omega) (fun e => by have := hr _ e.symm; omega)⟩, h3, h4⟩
theorem TapeAt.below {w w' : World} {g b B : Nat} (h : TapeAt w g b) (hb : Below B w w') (hB : g < B) : TapeAt w' g b := by
  obtain ⟨A, xs, c, n, h1, h2, h3, h4⟩ := h
  exact ⟨A, xs, c, n, h1.below hb hB, h2.below (hb.mono (by omega)), h3, h4⟩

set_option maxHeartbeats 400000 in
theorem New_any (A : Option Addr) (c : Nat) (xs : List Int) (w : World) (hx : IntsAt .i64 w w.heap.size A xs) (hl : xs.length ≤ 9223372036854775807) :
    Calls Try.prog 10 #[.slice A xs.length c] w fun e w' => e = .returned (.pointer (some ⟨w.heap.size, 0, none⟩)) ∧ TapeAt w' w.heap.size 0 ∧ Below w.heap.size w w' := by
  go_enter Try.func10, Try.ntmps10
  go_wp2
  go_ret
  refine ⟨rfl, ⟨A, xs, c, 0, Blk.new _ _ _, hx.below ((Below.refl _ _).alloc (Nat.le_refl _) _), Nat.le_refl _, hl⟩, (Below.refl _ _).alloc (Nat.le_refl _) _⟩

/-- A number of the tape: from 0 to n - 1, or 0. -/
def RetNext (g b : Nat) (n : Int) (w : World) (e : Ending) (w' : World) : Prop :=
  ∃ v : Int, e = .returned (.int .i64 v) ∧ (n < 1 → v = 0) ∧ (1 ≤ n → 0 ≤ v ∧ v < n) ∧ TapeAt w' g (b + 1) ∧ w.grownBy w' (some g)

theorem next_end {g b : Nat} {n : Int} {w : World} {A : Option Addr} {xs : List Int} {c at_ : Nat} (h1 : Blk w g 71 #[.slice A xs.length c, .int .i64 at_]) (h2 : IntsAt .i64 w g A xs) (h3 : at_ ≤ b) (h4 : xs.length ≤ 9223372036854775807)
    (m : Nat) {v : Int} (hv : n < 1 → v = 0) (hv' : 1 ≤ n → 0 ≤ v ∧ v < n) : RetNext g b n w (.returned (.int .i64 v)) ((w.drewN m).setCell ⟨g, 1, none⟩ (.int .i64 ((at_ : Int) + 1))) := by
  have hb : Below g w ((w.drewN m).setCell ⟨g, 1, none⟩ (.int .i64 ((at_ : Int) + 1))) := (below_drewN (Below.refl g w) m).setCell (p := ⟨g, 1, none⟩) (Nat.le_refl _) _
  refine ⟨v, rfl, hv, hv', ⟨A, xs, c, at_ + 1, ?_, h2.below hb, by omega, h4⟩, ?_⟩
  · have h5 : Blk (w.drewN m) g 71 #[.slice A xs.length c, .int .i64 at_] := h1
    have h6 := h5.set_ 1 (.int .i64 ((at_ : Int) + 1))
    simpa using h6
  · exact ⟨rfl, rfl, rfl, by simp [World.setCell], fun k _ hk => Below.heap_setCell (w.drewN m) _ _ _ (fun e => hk (by rw [e]))⟩

set_option maxRecDepth 100000 in
set_option maxHeartbeats 1000000 in
theorem Next_any (g b : Nat) (n : Int) (w : World) (ht : TapeAt w g b) (hb : b ≤ 1000000) (hn : -1000000000000 ≤ n ∧ n ≤ 1000000000000) :
    Calls Try.prog 14 #[.pointer (some ⟨g, 0, none⟩), .int .i64 n] w (RetNext g b n w) := by
  obtain ⟨A, xs, c, at_, h1, h2, h3, h4⟩ := ht
  have c0 := h1.cell 0
  have c1 := h1.cell 1
  have f1 := h1.frozen 1
  simp only [List.getElem?_toArray, List.getElem?_cons_zero, List.getElem?_cons_succ] at c0 c1
  have i0 : (0 : Int) ≤ (at_ : Int) := by omega
  by_cases hn1 : n < 1
  · by_cases hlt : at_ < xs.length
    · obtain ⟨x, ex⟩ := getElem?_of_lt xs hlt
      obtain ⟨b2, off2, rfl, hB2, hc2⟩ := h2 (ne_nil_of_lt hlt)
      have hc3 := hc2 at_ x ex
      have i1 : (at_ : Int) < (xs.length : Int) := by omega
      clear hc2 ex
      go_enter Try.func14, Try.ntmps14
      go_wp2
      go_quiet (fail)
      go_wp2
      go_quiet (fail)
      go_wp2
      go_ret
      exact next_end h1 h2 h3 h4 _ (fun _ => rfl) (fun h => by omega)
    · go_enter Try.func14, Try.ntmps14
      go_wp2
      go_quiet (fail)
      go_wp2
      go_ret
      exact next_end h1 h2 h3 h4 _ (fun _ => rfl) (fun h => by omega)
  · have hn2 : 1 ≤ n := by omega
    by_cases hlt : at_ < xs.length
    · obtain ⟨x, ex⟩ := getElem?_of_lt xs hlt
      obtain ⟨b2, off2, rfl, hB2, hc2⟩ := h2 (ne_nil_of_lt hlt)
      have hc3 := hc2 at_ x ex
      have i1 : (at_ : Int) < (xs.length : Int) := by omega
      have t1 : x.tmod n < n := Int.tmod_lt_of_pos x (by omega)
      have t2 : -n < x.tmod n := Int.lt_tmod_of_pos x (by omega)
      clear hc2 ex
      go_enter Try.func14, Try.ntmps14
      go_wp2
      go_quiet (fail)
      go_wp2
      go_quiet (fail)
      go_wp2
      · go_ret
        exact next_end h1 h2 h3 h4 _ (fun h => by omega) (fun _ => by omega)
      · go_ret
        exact next_end h1 h2 h3 h4 _ (fun h => by omega) (fun _ => by omega)
    · have t1 : (5 * (at_ : Int) + 3) % n < n := Int.emod_lt_of_pos _ (by omega)
      have t2 : 0 ≤ (5 * (at_ : Int) + 3) % n := Int.emod_nonneg _ (by omega)
      go_enter Try.func14, Try.ntmps14
      go_wp2
      go_quiet (fail)
      go_wp2
      all_goals
        go_ret
        exact next_end h1 h2 h3 h4 _ (fun h => by omega) (fun _ => by omega)

end Go.Proofs.Ytkplmgdmkfgjhaa
