/- The generator of values always returns. -/
import Derived.Test.YtjlbdhicabgliaaQA1
namespace Go.Proofs.Ytjlbdhicabgliaa
attribute [local irreducible] FU

def GS (l : List Int) (i : Int) : Prop := 0 ≤ i ∧ i ≤ l.length ∧ l.length ≤ 9223372036854775807
theorem gNext {l : List Int} {i : Int} (h : GS l i) {n : Int} (h0 : 0 < n) (h1 : n ≤ 1000000) : ∃ y i', m_gen_Choices_Next (l, i) n = some (y, (l, i')) ∧ GS l i' ∧ 0 ≤ y ∧ y < n := by
 obtain ⟨g1, g2, g3⟩ := h
 unfold m_gen_Choices_Next
 simp only []
 by_cases hc : (List.length l : Int) ≤ i
 ·rw [if_pos hc]; exact ⟨0, i, rfl, ⟨g1, g2, g3⟩, by omega, h0⟩
 ·have e : i64 (i64 (i + 1) - 1) = i := by rw [i64_id (x := i + 1) (by omega), i64_id (by omega)]; omega
  have en : IntKind.u64.wrap n = n := by rw [wrap_u64]; omega
  unfold m_help_Mod
  rw [if_neg hc, e, need_pos (by omega), en, need_pos (by omega), bnd1_mk, i64_id (x := i + 1) (by omega)]
  have ha := wrap_u64 (gi l i)
  have h3 : 0 ≤ Int.tmod (IntKind.u64.wrap (gi l i)) n := Int.tmod_nonneg _ (by omega)
  have h4 : Int.tmod (IntKind.u64.wrap (gi l i)) n < n := Int.tmod_lt_of_pos _ h0
  exact ⟨_, _, rfl, ⟨by omega, by omega, g3⟩, by rw [i64_id (by omega)]; exact h3, by rw [i64_id (by omega)]; exact h4⟩
theorem gInts_loop (K : List Int → Int → List (List UInt8) → Option (List UInt8 × (List Int × Int))) : ∀ (m n : Nat) (l : List Int) (i : Int) (out : List (List UInt8)), m < n → GS l i → out.length + m ≤ 1000 → (∀ x ∈ out, ∃ k : Int, 0 ≤ k ∧ k < 6 ∧ x = intW k) →
  ∃ i' out', m_gen_Choices_Ints_L2 K n l i out m = K l i' out' ∧ GS l i' ∧ out'.length = out.length + m ∧ ∀ x ∈ out', ∃ k : Int, 0 ≤ k ∧ k < 6 ∧ x = intW k := by
 intro m
 induction m with
 | zero =>
  intro n l i out hn hg ho hx
  obtain ⟨n, rfl⟩ : ∃ q, n = q + 1 := ⟨n - 1, by omega⟩
  exact ⟨i, out, by rw [m_gen_Choices_Ints_L2, m_gen_Choices_Ints_B2, if_neg (by omega)], hg, rfl, hx⟩
 | succ m ih =>
  intro n l i out hn hg ho hx
  obtain ⟨n, rfl⟩ : ∃ q, n = q + 1 := ⟨n - 1, by omega⟩
  obtain ⟨y, i1, e1, g1, y0, y1⟩ := gNext hg (n := 6) (by omega) (by omega)
  have e2 : i64 (((m + 1 : Nat) : Int) - 1) = (m : Int) := by rw [i64_id (by omega)]; omega
  obtain ⟨i', out', h1, h2, h3, h4⟩ := ih n l i1 (out ++ [intW y]) (by omega) g1 (by simp; omega) (fun x h => by
   rcases List.mem_append.1 h with h | h
   ·exact hx x h
   ·exact ⟨y, y0, y1, List.mem_singleton.1 h⟩)
  refine ⟨i', out', ?_, h2, by rw [h3]; simp; omega, h4⟩
  rw [m_gen_Choices_Ints_L2, m_gen_Choices_Ints_B2, if_pos (by omega), e1, bnd1_mk]
  simp only []
  rw [rInt, bnd1_mk, need_pos (by simp; omega), e2, h1]
theorem gInts {l : List Int} {i : Int} (h : GS l i) : ∃ i' L, m_gen_Choices_Ints (l, i) = some (setW L, (l, i')) ∧ GS l i' ∧ L.length ≤ 4 ∧ ∀ x ∈ L, ∃ k : Int, 0 ≤ k ∧ k < 6 ∧ x = intW k := by
 have hFU := FU_ge
 unfold m_gen_Choices_Ints
 rw [jn_eq]
 obtain ⟨y, i1, e1, g1, y0, y1⟩ := gNext h (n := 5) (by omega) (by omega)
 obtain ⟨m, rfl⟩ : ∃ m : Nat, y = m := ⟨y.toNat, by omega⟩
 obtain ⟨i', L, h1, h2, h3, h4⟩ := gInts_loop (fun x0_0_j1 x0_1_j1 x3_j1 => bnd1 (m_ref9_Set x3_j1) (fun y29 => some (y29, (x0_0_j1, x0_1_j1)))) m FU l i1 [] (by omega) g1 (by simp; omega) (by simp)
 simp only []
 rw [e1, bnd1_mk]
 simp only []
 simp at h3
 rw [h1, rSet L (by omega), bnd1_mk]
 exact ⟨i', L, rfl, h2, by omega, h4⟩
end Go.Proofs.Ytjlbdhicabgliaa
/- The generator makes valid values. -/
namespace Go.Proofs.Ytjlbdhicabgliaa
attribute [local irreducible] FU

theorem gi2_00 {α : Type} [Inhabited α] (x : α) (l : List α) : gi (x :: l) 0 = x := rfl
def nameW (k : Int) : List UInt8 := [10, u8i (k / 256), u8i k]
theorem nameW_IsV (k : Int) (j : Nat) : IsV (j + 1) (nameW k) := .name j _ _
theorem rNameW {k : Int} (h0 : 0 ≤ k) (h1 : k ≤ 65535) : m_ref9_Name k = some (nameW k) := by
 unfold m_ref9_Name
 simp only [jn_eq]
 unfold m_ref9_two
 rw [if_neg (by omega), if_neg (by simp; omega), bnd1_mk, need_pos (by simp), show (2 : Int) ^ min (Int.toNat 8) IntKind.i64.bits = 256 from rfl, Int.fdiv_eq_ediv_of_nonneg _ (by omega)]; rfl
theorem rDotW {k : Int} (h0 : 0 ≤ k) (h1 : k ≤ 65535) (l : List (List UInt8)) (hl : l.length ≤ 1000) : m_ref9_Dot k l = some (cmpd 7 (nameW k :: l)) := by
 unfold m_ref9_Dot
 have := rMake 7 (by decide) ([nameW k] ++ l) (by simp; omega)
 rw [show ((7 : UInt8).toNat : Int) = 7 from rfl] at this
 rw [rNameW h0 h1, bnd1_mk, need_pos (by simp; omega), this, bnd1_mk]; rfl
def PV (k c : Nat) (v : List UInt8) : Prop := IsV k v ∧ v.length ≤ c
theorem PV.le {k c k' c' : Nat} {v : List UInt8} (h : PV k c v) (hk : k ≤ k') (hc : c ≤ c') : PV k' c' v := ⟨h.1.le hk, Nat.le_trans h.2 hc⟩
end Go.Proofs.Ytjlbdhicabgliaa
/- The laws of sets of small integers: FinsetAlgebra, FinsetSubsetsCount. -/
namespace Go.Proofs.Ytjlbdhicabgliaa
attribute [local irreducible] FU

def SI (x : List UInt8) : Prop := ∃ k : Int, 0 ≤ k ∧ k < 6 ∧ x = intW k
theorem SI.IsV {x : List UInt8} (h : SI x) (k : Nat) : IsV (k + 1) x := by obtain ⟨n, _, _, rfl⟩ := h; exact intW_IsV n k
theorem SI.len {x : List UInt8} (h : SI x) : x.length = 9 := by obtain ⟨n, _, _, rfl⟩ := h; exact intW_len n
theorem SI.mem {x : List UInt8} (h : SI x) : x ∈ runW 0 6 := by
 obtain ⟨n, h0, h1, rfl⟩ := h
 exact List.mem_map.2 ⟨n.toNat, List.mem_range.2 (by omega), by congr 1; omega⟩
theorem gs_new {c : List Int} (hc : c.length ≤ maxLen ∧ ∀ x ∈ c, (Lit.int .i64 x).wf = true) : GS c 0 := ⟨by omega, by omega, by have := hc.1; unfold maxLen at this; omega⟩
end Go.Proofs.Ytjlbdhicabgliaa
/- Products and ranges: FinsetLimits. -/
namespace Go.Proofs.Ytjlbdhicabgliaa
attribute [local irreducible] FU

theorem rRange_loop (b : Int) (hb : b ≤ 9223372036854775807) (K : List (List UInt8) → Option (List UInt8 × Int)) : ∀ (m n : Nat) (a : Int) (out : List (List UInt8)), -9223372036854775808 ≤ a → a + m = b + 1 → m < n → out.length ≤ 4096 → (out.length + m ≤ 4096 → m_ref9_Range_L2 b K n out a = K (out ++ runW a m)) := by
 intro m
 induction m with
 | zero =>
  intro n a out h1 h2 hn _ ho
  obtain ⟨n, rfl⟩ : ∃ q, n = q + 1 := ⟨n - 1, by omega⟩
  rw [m_ref9_Range_L2, m_ref9_Range_B2, if_neg (by omega), show runW a 0 = [] from rfl, List.append_nil]
 | succ m ih =>
  intro n a out h1 h2 hn _ ho
  obtain ⟨n, rfl⟩ : ∃ q, n = q + 1 := ⟨n - 1, by omega⟩
  rw [m_ref9_Range_L2, m_ref9_Range_B2, if_pos (by omega), if_neg (by omega), rInt, bnd1_mk, need_pos (by simp; omega)]
  by_cases h : a = 9223372036854775807
  ·obtain rfl : m = 0 := by omega
   rw [if_pos h, runW_succ]; rfl
  ·rw [if_neg h, i64_id (by omega), ih n (a + 1) _ (by omega) (by omega) (by omega) (by simp; omega) (by simp; omega), runW_succ]; simp
theorem rRange_over (b : Int) (hb : b ≤ 9223372036854775807) (K : List (List UInt8) → Option (List UInt8 × Int)) : ∀ (m n : Nat) (a : Int) (out : List (List UInt8)), -9223372036854775808 ≤ a → out.length + m = 4096 → m < n → a + m ≤ b → m_ref9_Range_L2 b K n out a = some ([], 9) := by
 intro m
 induction m with
 | zero =>
  intro n a out h1 h2 hn h3
  obtain ⟨n, rfl⟩ : ∃ q, n = q + 1 := ⟨n - 1, by omega⟩
  rw [m_ref9_Range_L2, m_ref9_Range_B2, if_pos (by omega), if_pos (by omega)]
 | succ m ih =>
  intro n a out h1 h2 hn h3
  obtain ⟨n, rfl⟩ : ∃ q, n = q + 1 := ⟨n - 1, by omega⟩
  rw [m_ref9_Range_L2, m_ref9_Range_B2, if_pos (by omega), if_neg (by omega), rInt, bnd1_mk, need_pos (by simp; omega), if_neg (by omega), i64_id (by omega), ih n (a + 1) _ (by omega) (by simp; omega) (by omega) (by omega)]
theorem rRange {a b : Int} (ha : -9223372036854775808 ≤ a) (hb : b ≤ 9223372036854775807) : m_ref9_Range a b = some (if a ≤ b ∧ 4096 ≤ b - a then ([], 9) else bndW (runW a (b - a + 1).toNat)) := by
 have hFU := FU_ge
 unfold m_ref9_Range
 rw [jn_eq]
 have hset : ∀ m : Nat, m ≤ 4096 → m_ref9_bounded (runW a m) = some (bndW (runW a m)) := fun m hm => rBounded _ (by rw [runW_len]; omega)
 by_cases hc : a ≤ b ∧ 4096 ≤ b - a
 ·rw [if_pos hc, rRange_over b hb _ 4096 FU a [] ha (by simp) (by omega) (by omega)]
 ·rw [if_neg hc]
  by_cases hab : a ≤ b
  ·rw [rRange_loop b hb _ (b - a + 1).toNat FU a [] ha (by omega) (by omega) (by simp) (by simp; omega), List.nil_append, hset _ (by omega), bnd1_mk]
  ·obtain ⟨n, hn⟩ := FU_k 1 (by omega)
   rw [hn, m_ref9_Range_L2, m_ref9_Range_B2, if_neg hab, show (b - a + 1).toNat = 0 by omega]
   have := hset 0 (by omega)
   rw [show runW a 0 = [] from rfl] at this ⊢
   rw [this, bnd1_mk]

end Go.Proofs.Ytjlbdhicabgliaa
