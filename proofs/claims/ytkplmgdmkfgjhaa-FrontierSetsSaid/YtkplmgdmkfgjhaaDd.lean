/- Runs of pairs: the two tests agree. -/
import Derived.Test.YtkplmgdmkfgjhaaM
import Derived.Test.YtkplmgdmkfgjhaaDa
namespace Go.Proofs.Ytkplmgdmkfgjhaa
attribute [local irreducible] FU

def OkP (p : Int × Int) : Prop := 0 ≤ p.1 ∧ p.1 ≤ 2147483647 ∧ 0 ≤ p.2 ∧ p.2 ≤ 2147483647
def LtP (p q : Int × Int) : Prop := p.1 < q.1 ∨ (p.1 = q.1 ∧ p.2 < q.2)
instance (p : Int × Int) : Decidable (OkP p) := inferInstanceAs (Decidable (_ ∧ _))
instance (p q : Int × Int) : Decidable (LtP p q) := inferInstanceAs (Decidable (_ ∨ _))
theorem FU_k (k : Nat) (h : k ≤ 4611686018427387904) : ∃ n, FU = n + k := ⟨FU - k, by have := FU_ge; omega⟩

theorem fIsPair (p : Int × Int) : m_frontier_isPair p = some (decide (OkP p)) := by
  unfold m_frontier_isPair OkP
  simp only [jn_eq]
  by_cases h1 : 0 ≤ p.1 <;> by_cases h2 : 0 ≤ p.2 <;> by_cases h3 : p.1 ≤ 2147483647 <;> simp [h1, h2, h3]
theorem rIsPair (p : Int × Int) : m_ref35_isPair p = some (decide (OkP p)) := by
  unfold m_ref35_isPair OkP
  simp only [jn_eq]
  by_cases h1 : 0 ≤ p.1 <;> by_cases h2 : 0 ≤ p.2 <;> by_cases h3 : p.1 ≤ 2147483647 <;> simp [h1, h2, h3]
theorem rLess (p q : Int × Int) : m_ref35_Less p q = some (decide (LtP p q)) := by
  unfold m_ref35_Less LtP
  simp only [jn_eq]
  by_cases h1 : p.1 < q.1 <;> by_cases h2 : p.1 = q.1 <;> simp [h1, h2]
theorem cCmp (a b : Int) : m_cmp_Compare_int a b = some (if a < b then -1 else if b < a then 1 else 0) := by
  unfold m_cmp_Compare_int m_cmp_isNaN_int
  simp only [bnd1_mk]
  by_cases h1 : a < b <;> by_cases h2 : b < a <;> simp [h1, h2]
theorem fCompare (p q : Int × Int) : m_frontier_compare p q = some (if LtP p q then -1 else if p = q then 0 else 1) := by
  obtain ⟨p1, p2⟩ := p
  obtain ⟨q1, q2⟩ := q
  unfold m_frontier_compare m_slices_Compare_L_int_int LtP
  obtain ⟨n, hn⟩ := FU_k 3 (by omega)
  rw [hn]
  have w1 : i64 (0 + 1) = 1 := rfl
  have w2 : i64 (1 + 1) = 2 := rfl
  have g0 : ∀ a b : Int, gi [a, b] 0 = a := fun _ _ => rfl
  have g1 : ∀ a b : Int, gi [a, b] 1 = b := fun _ _ => rfl
  simp only [jn_eq, m_slices_Compare_L_int_int_L2, m_slices_Compare_L_int_int_B2, cCmp, bnd1_mk, List.length_cons, List.length_nil, w1, w2, g0, g1]
  rcases Int.lt_trichotomy p1 q1 with h | h | h
  · simp [h, need, bnd1_mk]
  · subst h
    rcases Int.lt_trichotomy p2 q2 with h | h | h
    · simp [h, need, bnd1_mk]
    · subst h; simp [need, bnd1_mk]
    · have h1 : ¬ p2 < q2 := by omega
      have h2 : ¬ p2 = q2 := by omega
      simp [h, h1, h2, need, bnd1_mk]
  · have h1 : ¬ p1 < q1 := by omega
    have h2 : ¬ p1 = q1 := by omega
    simp [h, h1, h2, need, bnd1_mk]

/-- Run from place k on. -/
def RunFrom (l : List (Int × Int)) (k : Nat) : Prop := ∀ i : Nat, k ≤ i → i < l.length → OkP (gi l (i : Int)) ∧ (0 < i → LtP (gi l ((i : Int) - 1)) (gi l (i : Int)))
abbrev Run (l : List (Int × Int)) : Prop := RunFrom l 0

theorem run_loop (l : List (Int × Int)) (hl : l.length ≤ 1099511627776) : ∀ (m i n1 n2 : Nat), i + m = l.length → m < n1 → m < n2 →
    ∃ b : Bool, m_frontier_isRun_L2 l (fun _ => some true) n1 i = some b ∧ m_ref35_IsRun_L2 l (fun _ => some true) n2 i = some b ∧ (b = true ↔ RunFrom l i) := by
  intro m
  induction m with
  | zero =>
    intro i n1 n2 hi h1 h2
    obtain ⟨n1, rfl⟩ : ∃ n, n1 = n + 1 := ⟨n1 - 1, by omega⟩
    obtain ⟨n2, rfl⟩ : ∃ n, n2 = n + 1 := ⟨n2 - 1, by omega⟩
    obtain rfl : i = l.length := by omega
    exact ⟨true, by simp [m_frontier_isRun_L2, m_frontier_isRun_B2], by simp [m_ref35_IsRun_L2, m_ref35_IsRun_B2], ⟨fun _ j h1 h2 => by omega, fun _ => rfl⟩⟩
  | succ m ih =>
    intro i n1 n2 hi h1 h2
    obtain ⟨n1, rfl⟩ : ∃ n, n1 = n + 1 := ⟨n1 - 1, by omega⟩
    obtain ⟨n2, rfl⟩ : ∃ n, n2 = n + 1 := ⟨n2 - 1, by omega⟩
    have hi8 : (i : Int) < (l.length : Int) := by omega
    have e5 : i64 ((i : Int) + 1) = ((i + 1 : Nat) : Int) := by rw [i64_id (by omega)]; omega
    have e6 : i64 ((i : Int) - 1) = (i : Int) - 1 := i64_id (by omega)
    rw [m_frontier_isRun_L2, m_ref35_IsRun_L2, m_frontier_isRun_B2, m_ref35_IsRun_B2, if_pos hi8, if_pos hi8]
    have hin : (0 : Int) ≤ (i : Int) ∧ (i : Int) < (l.length : Int) := by omega
    simp only [jn_eq, e5, e6, fIsPair, rIsPair, fCompare, rLess, bnd1_mk, need_pos hin]
    obtain ⟨b, r1, r2, r3⟩ := ih (i + 1) n1 n2 (by omega) (by omega) (by omega)
    have hstep : RunFrom l i ↔ (OkP (gi l (i : Int)) ∧ (0 < i → LtP (gi l ((i : Int) - 1)) (gi l (i : Int)))) ∧ RunFrom l (i + 1) := by
      constructor
      · intro h
        exact ⟨h i (Nat.le_refl _) (by omega), fun j hj => h j (by omega)⟩
      · intro h j hj hjl
        by_cases hji : j = i
        · subst hji; exact h.1
        · exact h.2 j (by omega) hjl
    by_cases hp : OkP (gi l (i : Int))
    · have hp1 : OkP ((gi l (i : Int)).1, (gi l (i : Int)).2) := hp
      simp only [hp, hp1, decide_true, Bool.not_true, Bool.false_eq_true, if_false]
      by_cases h0 : 0 < (i : Int)
      · have hpr : (0 : Int) ≤ (i : Int) - 1 ∧ (i : Int) - 1 < (l.length : Int) := by omega
        simp only [if_pos h0, need_pos hpr]
        by_cases hlt : LtP (gi l ((i : Int) - 1)) (gi l (i : Int))
        · have hlt1 : LtP (gi l ((i : Int) - 1)) ((gi l (i : Int)).1, (gi l (i : Int)).2) := hlt
          refine ⟨b, ?_, ?_, ?_⟩
          · rw [← r1]; simp [hlt1]
          · rw [← r2]; simp [hlt]
          rw [hstep, r3]
          exact ⟨fun h => ⟨⟨hp, fun _ => hlt⟩, h⟩, fun h => h.2⟩
        · have hlt1 : ¬ LtP (gi l ((i : Int) - 1)) ((gi l (i : Int)).1, (gi l (i : Int)).2) := hlt
          have hge : (0 : Int) ≤ (if LtP (gi l ((i : Int) - 1)) (gi l (i : Int)) then -1 else if (gi l ((i : Int) - 1)) = (gi l (i : Int)) then 0 else 1) := by
            rw [if_neg hlt]; split <;> omega
          refine ⟨false, ?_, by simp [hlt], by simp; intro h; exact hlt ((hstep.1 h).1.2 (by omega))⟩
          rw [show ((gi l (i : Int)).1, (gi l (i : Int)).2) = gi l (i : Int) from rfl]
          simp [hge]
      · simp only [if_neg h0, Bool.false_eq_true, if_false]
        refine ⟨b, r1, r2, ?_⟩
        rw [hstep, r3]
        exact ⟨fun h => ⟨⟨hp, fun hh => absurd (by omega) h0⟩, h⟩, fun h => h.2⟩
    · have hp1 : ¬ OkP ((gi l (i : Int)).1, (gi l (i : Int)).2) := hp
      refine ⟨false, by simp [hp], by simp [hp], by simp; intro h; exact hp (hstep.1 h).1.1⟩

theorem run_agree (l : List (Int × Int)) (hl : l.length ≤ 1099511627776) : ∃ b : Bool, m_frontier_isRun l = some b ∧ m_ref35_IsRun l = some b ∧ (b = true ↔ Run l) := by
  have := FU_ge
  obtain ⟨b, r1, r2, r3⟩ := run_loop l hl l.length 0 FU FU (by omega) (by omega) (by omega)
  exact ⟨b, by unfold m_frontier_isRun; rw [jn_eq]; exact r1, by unfold m_ref35_IsRun; rw [jn_eq]; exact r2, r3⟩
end Go.Proofs.Ytkplmgdmkfgjhaa
