/- The decodings of a block agree. -/
import Derived.Test.YtkplmgdmkfgjhaaDb
import Derived.Test.YtkplmgdmkfgjhaaDe
namespace Go.Proofs.Ytkplmgdmkfgjhaa
attribute [local irreducible] FU

theorem sealed_agree (t s : List UInt8) (hl : s.length = t.length + 4) (ht : s.take t.length = t) (hb : s.length ≤ 100000000) :
    ∃ (b : Bool) (q : List UInt8), m_codec_Sealed s = some b ∧ m_ref23_Sealed t = some q ∧ (b = true ↔ q = s) := by
  obtain ⟨c, c1, _, c3⟩ := sum_agree t (by omega)
  obtain ⟨d, hd⟩ : ∃ d, s = t ++ d := ⟨s.drop t.length, by conv => lhs; rw [← List.take_append_drop t.length s, ht]⟩
  subst hd
  have hdl : d.length = 4 := by simp at hl; exact hl
  obtain ⟨a0, a1, a2, a3, rfl⟩ : ∃ a0 a1 a2 a3, d = [a0, a1, a2, a3] := by
    match d, hdl with
    | [a0, a1, a2, a3], _ => exact ⟨a0, a1, a2, a3, rfl⟩
  have hb' : t.length + 4 ≤ 100000000 := by simpa using hb
  have e0 : i64 (((t ++ [a0, a1, a2, a3]).length : Int) - 4) = (t.length : Int) := by rw [i64_id] <;> simp <;> omega
  have e1 : i64 ((t.length : Int) + 1) = ((t.length + 1 : Nat) : Int) := by rw [i64_id] <;> omega
  have e2 : i64 ((t.length : Int) + 2) = ((t.length + 2 : Nat) : Int) := by rw [i64_id] <;> omega
  have e3 : i64 ((t.length : Int) + 3) = ((t.length + 3 : Nat) : Int) := by rw [i64_id] <;> omega
  have g0 : gi (t ++ [a0, a1, a2, a3]) (t.length : Int) = a0 := by rw [gi_nat (by simp)]; simp
  have g1 : gi (t ++ [a0, a1, a2, a3]) ((t.length + 1 : Nat) : Int) = a1 := by rw [gi_nat (by simp)]; simp
  have g2 : gi (t ++ [a0, a1, a2, a3]) ((t.length + 2 : Nat) : Int) = a2 := by rw [gi_nat (by simp)]; simp
  have g3 : gi (t ++ [a0, a1, a2, a3]) ((t.length + 3 : Nat) : Int) = a3 := by rw [gi_nat (by simp)]; simp
  have n0 : (0 : Int) ≤ (t.length : Int) ∧ (t.length : Int) ≤ ((t ++ [a0, a1, a2, a3]).length : Int) := by simp; omega
  have n1 : (0 : Int) ≤ (t.length : Int) ∧ (t.length : Int) < ((t ++ [a0, a1, a2, a3]).length : Int) := by simp; omega
  have n2 : (0 : Int) ≤ ((t.length + 1 : Nat) : Int) ∧ ((t.length + 1 : Nat) : Int) < ((t ++ [a0, a1, a2, a3]).length : Int) := by rw [List.length_append]; simp only [List.length_cons, List.length_nil]; omega
  have n3 : (0 : Int) ≤ ((t.length + 2 : Nat) : Int) ∧ ((t.length + 2 : Nat) : Int) < ((t ++ [a0, a1, a2, a3]).length : Int) := by rw [List.length_append]; simp only [List.length_cons, List.length_nil]; omega
  have n4 : (0 : Int) ≤ ((t.length + 3 : Nat) : Int) ∧ ((t.length + 3 : Nat) : Int) < ((t ++ [a0, a1, a2, a3]).length : Int) := by rw [List.length_append]; simp only [List.length_cons, List.length_nil]; omega
  refine ⟨decide (sum4 c = [a0, a1, a2, a3]), t ++ sum4 c, ?_, c3, by simp⟩
  unfold m_codec_Sealed
  simp only [jn_eq, e0, e1, e2, e3, g0, g1, g2, g3, need_pos n0, need_pos n1, need_pos n2, need_pos n3, need_pos n4]
  rw [if_neg (by omega), show List.take (Int.toNat (t.length : Int)) (t ++ [a0, a1, a2, a3]) = t by simp, c1, bnd1_mk]
  simp only [sum4, List.cons.injEq, and_true]
  generalize u8i (Int.fdiv c (2 ^ min (Int.toNat 24) IntKind.u32.bits)) = z0
  generalize u8i (Int.fdiv c (2 ^ min (Int.toNat 16) IntKind.u32.bits)) = z1
  generalize u8i (Int.fdiv c (2 ^ min (Int.toNat 8) IntKind.u32.bits)) = z2
  generalize u8i c = z3
  by_cases h0 : a0 = z0
  · by_cases h1 : a1 = z1
    · by_cases h2 : a2 = z2
      · simp [h0, h1, h2, eq_comm]
      · simp [h0, h1, h2, Ne.symm h2]
    · simp [h0, h1, Ne.symm h1]
  · simp [h0, Ne.symm h0]

theorem dec_exit_f (xs : List UInt8) (y : Int × Int × Int) (K) (n : Nat) (x8 x9 : Int) (x10 : List (Int × Int)) (x11 : Int) (h : x9 ≠ 0 ∨ ¬ x11 < y.1) : m_frontier_DecodeBlock_L14 xs y K (n + 1) x8 x9 x10 x11 = K x8 x9 x10 := by
  rw [m_frontier_DecodeBlock_L14, m_frontier_DecodeBlock_B14]
  simp only [jn_eq]
  by_cases h1 : x11 < y.1
  · simp [h1, (by rcases h with h | h; exact h; exact absurd h1 h : x9 ≠ 0)]
  · simp [h1]
theorem dec_exit_r (xs : List UInt8) (y : Int × Int × Int) (K) (n : Nat) (x8 x9 : Int) (x10 : List (Int × Int)) (x11 : Int) (h : x9 ≠ 0 ∨ ¬ x11 < y.1) : m_ref35_DecodeBlock_L2 xs y K (n + 1) x8 x9 x10 x11 = K x8 x9 x10 := by
  rw [m_ref35_DecodeBlock_L2, m_ref35_DecodeBlock_B2]
  simp only [jn_eq]
  by_cases h1 : x11 < y.1
  · simp [h1, (by rcases h with h | h; exact h; exact absurd h1 h : x9 ≠ 0)]
  · simp [h1]

/-- The two numbers of an entry. -/
theorem two_f (xs : List UInt8) (K : Int → Int → Int → Int → Option (List (Int × Int) × Int × Int)) (x8 : Int) (v1 j1 e1 : Int) (h1 : m_frontier_number xs x8 = some (v1, j1, e1)) :
    (e1 ≠ 0 → m_frontier_DecodeBlock_L26 xs K FU x8 0 0 0 0 = K j1 e1 v1 0) ∧
    (e1 = 0 → ∀ v2 j2 e2, m_frontier_number xs j1 = some (v2, j2, e2) → m_frontier_DecodeBlock_L26 xs K FU x8 0 0 0 0 = K j2 e2 v1 v2) := by
  obtain ⟨n, hn⟩ := FU_k 3 (by omega)
  rw [hn]
  have w1 : i64 1 = 1 := rfl
  have w2 : i64 2 = 2 := rfl
  refine ⟨fun he => ?_, fun he v2 j2 e2 h2 => ?_⟩
  · rw [m_frontier_DecodeBlock_L26, m_frontier_DecodeBlock_B26]
    simp [jn_eq, h1, bnd1_mk, need, w1, w2]
    rw [m_frontier_DecodeBlock_L26, m_frontier_DecodeBlock_B26]
    simp [jn_eq, he]
  · subst he
    rw [m_frontier_DecodeBlock_L26, m_frontier_DecodeBlock_B26]
    simp [jn_eq, h1, bnd1_mk, need, w1, w2]
    rw [m_frontier_DecodeBlock_L26, m_frontier_DecodeBlock_B26]
    simp [jn_eq, h2, bnd1_mk, need, w1, w2]
    rw [m_frontier_DecodeBlock_L26, m_frontier_DecodeBlock_B26]
    simp [jn_eq]

theorem dec_loop (xs : List UInt8) (hl : (xs.length : Int) ≤ 1099511627776) (yf yr : Int × Int × Int) (v : Nat) (hv : v ≤ 1024) (hf : yf.1 = v) (hr : yr.1 = v) (K K') :
    ∀ (m i n1 n2 : Nat) (x8 : Int) (l : List (Int × Int)), i + m = v → m < n1 → m < n2 → 0 ≤ x8 → x8 ≤ xs.length → l.length = i →
    (∀ p ∈ l, -9223372036854775808 ≤ p.1 ∧ p.1 ≤ 9223372036854775807) →
    ∃ (xa xb e : Int) (la lb : List (Int × Int)), m_frontier_DecodeBlock_L14 xs yf K n1 x8 0 l i = K xa e la ∧ m_ref35_DecodeBlock_L2 xs yr K' n2 x8 0 l i = K' xb e lb ∧
      (e = 0 → xa = xb ∧ la = lb ∧ x8 ≤ xa ∧ xa ≤ xs.length ∧ la.length = v) := by
  intro m
  induction m with
  | zero =>
    intro i n1 n2 x8 l hi h1 h2 h3 h4 h5 h6
    obtain ⟨n1, rfl⟩ : ∃ n, n1 = n + 1 := ⟨n1 - 1, by omega⟩
    obtain ⟨n2, rfl⟩ : ∃ n, n2 = n + 1 := ⟨n2 - 1, by omega⟩
    exact ⟨x8, x8, 0, l, l, dec_exit_f _ _ _ _ _ _ _ _ (Or.inr (by omega)), dec_exit_r _ _ _ _ _ _ _ _ (Or.inr (by omega)), fun _ => ⟨rfl, rfl, by omega, by omega, by omega⟩⟩
  | succ m ih =>
    intro i n1 n2 x8 l hi h1 h2 h3 h4 h5 h6
    obtain ⟨n1, rfl⟩ : ∃ n, n1 = n + 1 + 1 := ⟨n1 - 2, by omega⟩
    obtain ⟨n2, rfl⟩ : ∃ n, n2 = n + 1 + 1 := ⟨n2 - 2, by omega⟩
    have e5 : i64 ((i : Int) + 1) = ((i + 1 : Nat) : Int) := by rw [i64_id (by omega)]; omega
    have e6 : i64 ((i : Int) - 1) = (i : Int) - 1 := i64_id (by omega)
    have hiv1 : (i : Int) < yf.1 := by omega
    have hiv2 : (i : Int) < yr.1 := by omega
    have hlen : ∀ p : Int × Int, List.length l + List.length [p] ≤ 137438953472 := by intro p; simp; omega
    obtain ⟨v1, j1, j1', e1, f1, r1, a1, a2⟩ := num_agree xs x8 h3 h4 hl
    rw [m_frontier_DecodeBlock_L14, m_ref35_DecodeBlock_L2, m_frontier_DecodeBlock_B14, m_ref35_DecodeBlock_B2]
    simp only [jn_eq, if_pos hiv1, if_pos hiv2, decide_true, if_true, e5, e6, r1, bnd1_mk, need_pos (hlen _)]
    by_cases he1 : e1 = 0
    · subst he1
      obtain ⟨rfl, b1, b2, b3, b4⟩ := a1 rfl
      obtain ⟨v2, j2, j2', e2, f2, r2, c1, c2⟩ := num_agree xs j1 (by omega) b2 hl
      simp only [if_true, r2, bnd1_mk]
      rw [(two_f xs _ x8 v1 j1 0 f1).2 rfl v2 j2 e2 f2]
      by_cases hi0 : i = 0
      · subst hi0
        simp only [Int.natCast_zero, Int.lt_irrefl, if_false, if_true]
        by_cases he2 : e2 = 0
        · subst he2
          obtain ⟨rfl, d1, d2, d3, d4⟩ := c1 rfl
          obtain ⟨xa, xb, e, la, lb, q1, q2, q3⟩ := ih (0 + 1) (n1 + 1) (n2 + 1) j2 (l ++ [(v1, v2)]) (by omega) (by omega) (by omega) (by omega) d2 (by rw [List.length_append, h5]; rfl)
            (fun p hp => by
              rcases List.mem_append.1 hp with hp | hp
              · exact h6 p hp
              · simp at hp; subst hp; simp only []; omega)
          exact ⟨xa, xb, e, la, lb, q1, q2, fun he => by obtain ⟨z1, z2, z3, z4, z5⟩ := q3 he; exact ⟨z1, z2, by omega, z4, z5⟩⟩
        · exact ⟨_, _, e2, _, _, dec_exit_f _ _ _ _ _ _ _ _ (Or.inl he2), dec_exit_r _ _ _ _ _ _ _ _ (Or.inl he2), fun h => absurd h he2⟩
      · have hpr : (0 : Int) ≤ (i : Int) - 1 ∧ (i : Int) - 1 < (l.length : Int) := by omega
        have hq : -9223372036854775808 ≤ (gi l ((i : Int) - 1)).1 ∧ (gi l ((i : Int) - 1)).1 ≤ 9223372036854775807 := by
          rw [show (i : Int) - 1 = ((i - 1 : Nat) : Int) by omega, gi_nat (by omega)]
          exact h6 _ (List.getElem_mem _)
        have hi0' : ¬ (i : Int) = 0 := by omega
        simp only [show (0 : Int) < (i : Int) from by omega, if_true, if_neg hi0', need_pos hpr]
        generalize gi l ((i : Int) - 1) = q at *
        obtain ⟨q1, q2⟩ := q
        simp only [] at hq
        have hz : ∀ z : Int × Int, (-9223372036854775808 ≤ z.1 ∧ z.1 ≤ 9223372036854775807) → ∃ (xa xb e : Int) (la lb : List (Int × Int)), m_frontier_DecodeBlock_L14 xs yf K (n1 + 1) j2 e2 (l ++ [z]) ((i + 1 : Nat) : Int) = K xa e la ∧ m_ref35_DecodeBlock_L2 xs yr K' (n2 + 1) j2' e2 (l ++ [z]) ((i + 1 : Nat) : Int) = K' xb e lb ∧
            (e = 0 → xa = xb ∧ la = lb ∧ x8 ≤ xa ∧ xa ≤ xs.length ∧ la.length = v) := by
          intro z hz
          by_cases he2 : e2 = 0
          · subst he2
            obtain ⟨rfl, d1, d2, d3, d4⟩ := c1 rfl
            obtain ⟨xa, xb, e, la, lb, q1, q2, q3⟩ := ih (i + 1) (n1 + 1) (n2 + 1) j2 (l ++ [z]) (by omega) (by omega) (by omega) (by omega) d2 (by rw [List.length_append, h5]; rfl)
              (fun p hp => by
                rcases List.mem_append.1 hp with hp | hp
                · exact h6 p hp
                · simp at hp; subst hp; exact hz)
            exact ⟨xa, xb, e, la, lb, q1, q2, fun he => by obtain ⟨z1, z2, z3, z4, z5⟩ := q3 he; exact ⟨z1, z2, by omega, z4, z5⟩⟩
          · exact ⟨_, _, e2, _, _, dec_exit_f _ _ _ _ _ _ _ _ (Or.inl he2), dec_exit_r _ _ _ _ _ _ _ _ (Or.inl he2), fun h => absurd h he2⟩
        by_cases hv1 : v1 = 0
        · subst hv1
          simp only [if_true]
          rw [show i64 (0 + q1) = q1 by rw [i64_id (by omega)]; omega, Int.add_comm v2]
          exact hz _ hq
        · simp only [if_neg hv1]
          rw [Int.add_comm v1 q1]
          exact hz _ (wrap_i64_range _)
    · simp only [if_neg he1]
      rw [(two_f xs _ x8 v1 j1 e1 f1).1 he1]
      by_cases hi0 : i = 0
      · subst hi0
        simp only [Int.natCast_zero, Int.lt_irrefl, if_false, if_true]
        exact ⟨_, _, e1, _, _, dec_exit_f _ _ _ _ _ _ _ _ (Or.inl he1), dec_exit_r _ _ _ _ _ _ _ _ (Or.inl he1), fun h => absurd h he1⟩
      · have hpr : (0 : Int) ≤ (i : Int) - 1 ∧ (i : Int) - 1 < (l.length : Int) := by omega
        have hi0' : ¬ (i : Int) = 0 := by omega
        simp only [show (0 : Int) < (i : Int) from by omega, if_true, if_neg hi0', need_pos hpr]
        by_cases hv1 : v1 = 0
        · simp only [if_pos hv1]
          exact ⟨_, _, e1, _, _, dec_exit_f _ _ _ _ _ _ _ _ (Or.inl he1), dec_exit_r _ _ _ _ _ _ _ _ (Or.inl he1), fun h => absurd h he1⟩
        · simp only [if_neg hv1]
          exact ⟨_, _, e1, _, _, dec_exit_f _ _ _ _ _ _ _ _ (Or.inl he1), dec_exit_r _ _ _ _ _ _ _ _ (Or.inl he1), fun h => absurd h he1⟩
end Go.Proofs.Ytkplmgdmkfgjhaa
