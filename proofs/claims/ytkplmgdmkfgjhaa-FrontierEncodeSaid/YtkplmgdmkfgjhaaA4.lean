/- Seals: the four bytes behind. -/
import Derived.Test.YtkplmgdmkfgjhaaA3
namespace Go.Proofs.Ytkplmgdmkfgjhaa
open Go.RowKit

/-- A row of the call's own, as a slice that can be read. -/
theorem own_slice {w : World} {base e size n : Nat} {v : Value} {xs : List Value} (h : w.ownsRow base e size v n xs) :
    ∃ A c, v = .slice A n c ∧ n ≤ c ∧ (n = 0 ∨ ∃ g, A = some ⟨g, 0, none⟩ ∧ g < w.heap.size ∧ base ≤ g ∧ ∀ j u, xs[j]? = some u → w.cell? ⟨g, j, none⟩ = some u) := by
  have hcells := @World.ownsRow.cells w base e size v n xs h
  rcases h.2 with ⟨rfl, rfl⟩ | ⟨g, cap, cur, rfl, hb, hg, hn, _⟩
  · exact ⟨none, 0, rfl, Nat.le_refl _, .inl rfl⟩
  · refine ⟨_, cap, rfl, hn, .inr ⟨g, rfl, (Array.getElem?_eq_some_iff.1 hg).1, hb, fun j u hu => ?_⟩⟩
    have := hcells (g := g) rfl j u hu
    have hadd : (⟨g, 0, none⟩ : Addr).add j = ⟨g, j, none⟩ := by unfold Addr.add; split <;> simp_all
    rwa [hadd] at this

theorem own_bytes {w : World} {base n : Nat} {v : Value} {xs : List Int} (h : w.ownsRow base 5 1 v n (bytesV xs)) :
    xs.length = n ∧ ∃ A c, v = .slice A xs.length c ∧ n ≤ c ∧ IntsAt .u8 w w.heap.size A xs := by
  have hl : xs.length = n := by simpa [bytesV] using h.1
  obtain ⟨A, c, hv, hc, hr⟩ := own_slice h
  refine ⟨hl, A, c, by rw [hl]; exact hv, hc, fun hne => ?_⟩
  rcases hr with h0 | ⟨g, hA, hg, _, hcell⟩
  · rw [h0] at hl
    exact absurd (List.eq_nil_of_length_eq_zero hl) hne
  · exact ⟨g, 0, hA, hg, fun i x hx => by simpa using hcell i (.int .u8 x) (by simp [bytesV, hx])⟩

def sumB (xs : List Int) : List Int := [crcSum xs / 16777216, crcSum xs / 65536 % 256, crcSum xs / 256 % 256, crcSum xs % 256]
theorem four_u8 (x y z u : Int) : ∀ q ∈ (#[Value.int .u8 x, Value.int .u8 y, Value.int .u8 z, Value.int .u8 u] : Array Value).toList, q.oneCell' = true := by simp [Value.oneCell']
theorem crcSum_range (xs : List Int) : 0 ≤ crcSum xs ∧ crcSum xs ≤ 4294967295 := bits_u32 _ _ _

set_option maxRecDepth 100000 in
set_option maxHeartbeats 400000 in
theorem cSum_any (base : Nat) (v : Value) (xs : List Int) (w : World) (hown : w.ownsRow base 5 1 v xs.length (bytesV xs)) (hbase : base ≤ w.heap.size) (hk : xs.length ≤ 1099511627776) :
    Calls Try.prog 84 #[v, .int .i64 0] w (RetApp 5 1 base v (xs.length + 4) (bytesV (xs ++ sumB xs)) w) := by
  obtain ⟨_, A, c, rfl, hc, hr⟩ := own_bytes hown
  have hs := crcSum_range xs
  go_enter Try.func84, Try.ntmps84
  go_wp2_with (first | (go_at_call 101; refine (cCk_any _ _ _ _ hr hk).mono ?_; rintro e w' ⟨rfl, rfl⟩) | (at_builtin; refine wpList_app_lit rfl (.tmp 10) (.tmp 22) _ rfl base 5 1 1 el_bytes (.slice A xs.length c) _ _ rfl hown _ 4 4 rfl rfl (four_u8 _ _ _ _) (by omega) (by omega) hbase ?_; intro v1 w1 ho1 hg1 hb1))
  go_ret
  exact ⟨_, rfl, by rw [bytesV_app]; exact ho1, hg1, hb1.imp id (fun h => ⟨_, h, by omega⟩)⟩

set_option maxRecDepth 100000 in
set_option maxHeartbeats 400000 in
theorem rSealed_any (A : Option Addr) (c : Nat) (xs : List Int) (w : World) (hx : IntsAt .u8 w w.heap.size A xs) (lx : xs.length ≤ 1099511627776) :
    Calls Try.prog 20 #[.slice A xs.length c] w (RetRow 5 1 (xs.length + 4) (bytesV (xs ++ sumB xs)) w) := by
  have hs := crcSum_range xs
  go_enter Try.func20, Try.ntmps20
  go_wp2_with (first | (go_at_call 47; refine (rCk_any _ _ _ _ hx lx).mono ?_; rintro e w' ⟨rfl, rfl⟩) | (at_builtin; refine wpList_app_src rfl (.tmp 6) (.tmp 7) _ rfl w.heap.size 5 1 1 el_bytes (.slice (some ⟨w.heap.size, 0, none⟩) 0 0) 0 [] rfl (own_empty w _ _ _ (Nat.le_refl _)) A _ c _ rfl ((Src.ints (hx.below ((Below.refl _ _).alloc (Nat.le_refl _) _)))) (one_map_int _ _) (by omega) (by omega) (by simp) ?_; intro v1 w1 ho1 hg1 hb1) | (at_builtin; refine wpList_app_lit rfl (.tmp 8) (.tmp 20) _ rfl w.heap.size 5 1 1 el_bytes v1 _ _ rfl ho1 _ 4 4 rfl rfl (four_u8 _ _ _ _) (by omega) (by omega) ?_ ?_; (have := hg1.size; simp at this; omega); intro v2 w2 ho2 hg2 hb2))
  go_ret
  have hb0 := below_app ((Below.refl w.heap.size w).alloc (Nat.le_refl _) (.cells #[] 5)) (own_empty w w.heap.size 5 1 (Nat.le_refl _)) hg1 (by simp)
  exact ⟨v2, rfl, by simpa [bytesV, sumB] using ho2, below_app hb0 ho1 hg2 hb0.size⟩

end Go.Proofs.Ytkplmgdmkfgjhaa
