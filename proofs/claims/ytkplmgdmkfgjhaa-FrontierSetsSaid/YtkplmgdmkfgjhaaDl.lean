/- Sorting, merging, subtracting of the program, and the reference's. -/
import Derived.Test.YtkplmgdmkfgjhaaDk
import Derived.Test.YtkplmgdmkfgjhaaDi
import Derived.Test.YtkplmgdmkfgjhaaSm
namespace Go.Proofs.Ytkplmgdmkfgjhaa
attribute [local irreducible] FU

theorem clone_eq (l : List (Int × Int)) (hl : l.length ≤ 100000000) : m_slices_Clone_L_2_int_2_int l = some l := by
  unfold m_slices_Clone_L_2_int_2_int
  rw [nilc_eq (fun h => by subst h; simp [need]), need_pos (by simp; omega)]
  simp
theorem sl_ext {a b : List (Int × Int)} (ha : SL a) (hb : SL b) (h : ∀ x, x ∈ a ↔ x ∈ b) : a = b := SL_ext (fun _ => LtP.irrefl) LtP.trans ha hb h
theorem sortP_sl (l : List (Int × Int)) : SL (compactL (sortP l)) ∧ ∀ x, x ∈ compactL (sortP l) ↔ x ∈ l := by
  refine ⟨compactL_sorted (fun _ => LtP.irrefl) LtP.trans _ ?_, fun x => by rw [compactL_mem]; exact List.mem_mergeSort⟩
  have h := List.pairwise_mergeSort (le := fun x y : Int × Int => !ltP y x) (fun a b c h1 h2 => by
    simp only [ltP, Bool.not_eq_true', decide_eq_false_iff_not] at h1 h2 ⊢; omega) (fun a b => by
    simp only [ltP, Bool.or_eq_true, Bool.not_eq_true', decide_eq_false_iff_not]; omega) l
  refine h.imp fun {a b} hab => ?_
  have hab' : ¬ LtP b a := by simp only [ltP, Bool.not_eq_true', decide_eq_false_iff_not] at hab; exact hab
  rcases LtP.tri a b with h | h | h
  · exact .inr h
  · exact .inl h
  · exact absurd h hab'
def allOk (l : List (Int × Int)) : Bool := l.all (fun p => decide (OkP p))
noncomputable def sortedL (l : List (Int × Int)) : List (Int × Int) := if allOk l then compactL (sortP l) else []
theorem sortedL_len (l : List (Int × Int)) : (sortedL l).length ≤ l.length := by
  unfold sortedL
  split
  · exact Nat.le_trans (compactL_len _) (by unfold sortP; rw [List.length_mergeSort]; exact Nat.le_refl _)
  · simp
theorem allOk_iff (l : List (Int × Int)) : allOk l = true ↔ ∀ p ∈ l, OkP p := by simp [allOk]
theorem fSorted (l : List (Int × Int)) (hl : l.length ≤ 100000000) : m_frontier_Sorted l = some (sortedL l) := by
  unfold m_frontier_Sorted
  rw [jn_eq]
  have h := loop_all l (by omega) (fun n (_ : Unit) i => m_frontier_Sorted_L2 l (fun (_ : Unit) => bnd1 (m_slices_Clone_L_2_int_2_int l) (fun y21 => bnd1 (m_sortP y21) (fun y23 => bnd1 (m_slices_Compact_L_2_int_2_int y23) (fun y24 => some y24)))) n i)
    (fun s x k => if !decide (OkP x) then some [] else k s) (fun _ => bnd1 (m_slices_Clone_L_2_int_2_int l) (fun y21 => bnd1 (m_sortP y21) (fun y23 => bnd1 (m_slices_Compact_L_2_int_2_int y23) (fun y24 => some y24)))) (fun n s i hi => by
      show m_frontier_Sorted_L2 l _ (n + 1) i = _
      rw [m_frontier_Sorted_L2, m_frontier_Sorted_B2]
      simp (disch := omega) only [if_pos, need_pos, gi_nat, fIsPair, bnd1_mk, i64_succ]) (fun n s => by
      show m_frontier_Sorted_L2 l _ (n + 1) _ = _
      rw [m_frontier_Sorted_L2, m_frontier_Sorted_B2, if_neg (by omega)]) ()
  refine h.trans ?_
  rw [foldK_any, clone_eq l hl, bnd1_mk]
  have hs : m_sortP l = some (sortP l) := need_pos (by omega)
  rw [hs, bnd1_mk, m_slices_Compact_L_2_int_2_int_eq _ (by unfold sortP; rw [List.length_mergeSort]; omega), bnd1_mk]
  unfold sortedL allOk
  cases h : l.all (fun p => decide (OkP p)) with
  | true => rw [if_neg, if_pos rfl]; rw [Bool.not_eq_true]; simp at h ⊢; exact h
  | false => rw [if_pos]; simp; simp at h ⊢; exact h
theorem rSorted (l : List (Int × Int)) (hl : l.length ≤ 100000000) : m_ref35_Sorted l = some (sortedL l) := by
  obtain ⟨s, s1, s2, s3, s4⟩ := sorted_spec l hl
  rw [s1]
  congr 1
  unfold sortedL
  by_cases h : ∀ p ∈ l, OkP p
  · obtain ⟨t1, t2⟩ := s3 h
    obtain ⟨u1, u2⟩ := sortP_sl l
    rw [if_pos ((allOk_iff l).2 h)]
    exact sl_ext t1 u1 (fun x => by rw [t2, u2])
  · rw [s4 h, if_neg (fun hh => h ((allOk_iff l).1 hh))]

/-! ### Searching -/
theorem mid_eq (i j : Nat) (h : i + j < 4611686018427387904) : i64 (Int.fdiv (IntKind.u64.wrap (i64 ((i : Int) + (j : Int)))) (2 ^ min (Int.toNat 1) IntKind.u64.bits)) = (((i + j) / 2 : Nat) : Int) := by
  have e1 : i64 ((i : Int) + (j : Int)) = ((i + j : Nat) : Int) := by rw [i64_id (by omega)]; omega
  have e2 : IntKind.u64.wrap ((i + j : Nat) : Int) = ((i + j : Nat) : Int) := by
    unfold IntKind.wrap IntKind.bits IntKind.signed
    simp; omega
  have e3 : (2 : Int) ^ min (Int.toNat 1) IntKind.u64.bits = 2 := rfl
  rw [e1, e2, e3, show Int.fdiv ((i + j : Nat) : Int) 2 = (((i + j) / 2 : Nat) : Int) by rw [Int.fdiv_eq_ediv_of_nonneg _ (by omega)]; omega]
  exact i64_id (by omega)
theorem bs_loop (b : List (Int × Int)) (hb : b.length ≤ 100000000) (hs : SL b) (p : Int × Int) (K : Int → Option (Int × Bool)) : ∀ (m i j n : Nat), j - i ≤ m → i ≤ j → j ≤ b.length → m < n → (∀ k (h : k < b.length), k < i → LtP b[k] p) → (∀ k (h : k < b.length), j ≤ k → ¬ LtP b[k] p) →
    ∃ q : Nat, m_slices_BinarySearchFunc_L_2_int_2_int_2_int_L2 b p m_frontier_compare K n i j = K q ∧ q ≤ b.length ∧ (∀ k (h : k < b.length), k < q → LtP b[k] p) ∧ (∀ k (h : k < b.length), q ≤ k → ¬ LtP b[k] p) := by
  have hmono : ∀ x y (hx : x < b.length) (hy : y < b.length), x < y → LtP b[x] b[y] := fun x y hx hy h => List.pairwise_iff_getElem.1 hs x y hx hy h
  intro m
  induction m with
  | zero =>
    intro i j n h1 h2 h3 hn h4 h5
    obtain ⟨n, rfl⟩ : ∃ k, n = k + 1 := ⟨n - 1, by omega⟩
    obtain rfl : i = j := by omega
    exact ⟨i, by rw [m_slices_BinarySearchFunc_L_2_int_2_int_2_int_L2, m_slices_BinarySearchFunc_L_2_int_2_int_2_int_B2, if_neg (by omega)], h3, h4, h5⟩
  | succ m ih =>
    intro i j n h1 h2 h3 hn h4 h5
    obtain ⟨n, rfl⟩ : ∃ k, n = k + 1 := ⟨n - 1, by omega⟩
    rw [m_slices_BinarySearchFunc_L_2_int_2_int_2_int_L2, m_slices_BinarySearchFunc_L_2_int_2_int_2_int_B2]
    by_cases hij : i < j
    · have hq : (i + j) / 2 < b.length := by omega
      rw [if_pos (by omega), mid_eq i j (by omega)]
      generalize hm : (i + j) / 2 = q at *
      rw [need_pos (by omega), gi_nat hq, fCompare, bnd1_mk, i64_succ (by omega)]
      by_cases hl : LtP b[q] p
      · rw [if_pos (by simp [hl])]
        refine ih (q + 1) j n (by omega) (by omega) h3 (by omega) (fun k h hk => ?_) h5
        by_cases hkq : k = q
        · subst hkq; exact hl
        · exact (hmono k q h hq (by omega)).trans hl
      · rw [if_neg (by simp only [hl, if_false]; split <;> omega)]
        refine ih i q n (by omega) (by omega) (by omega) (by omega) h4 (fun k h hk hlk => ?_)
        by_cases hkq : k = q
        · subst hkq; exact hl hlk
        · exact hl ((hmono q k hq h (by omega)).trans hlk)
    · obtain rfl : i = j := by omega
      exact ⟨i, by rw [if_neg (by omega)], h3, h4, h5⟩
theorem bs_eq (b : List (Int × Int)) (hb : b.length ≤ 100000000) (hs : SL b) (p : Int × Int) : ∃ i, m_slices_BinarySearchFunc_L_2_int_2_int_2_int b p m_frontier_compare = some (i, decide (p ∈ b)) := by
  have hFU := FU_ge
  unfold m_slices_BinarySearchFunc_L_2_int_2_int_2_int
  simp only [jn_eq]
  obtain ⟨q, e1, e2, e3, e4⟩ := bs_loop b hb hs p (fun x9_j1 => if x9_j1 < (List.length b : Int) then (need ((0 : Int) ≤ x9_j1 ∧ x9_j1 < (List.length b : Int)) (bnd1 (m_frontier_compare (gi b x9_j1) p) (fun y19 => some (x9_j1, decide (y19 = 0))))) else (some (x9_j1, false))) b.length 0 b.length FU (by omega) (by omega) (by omega) (by omega) (fun k h hk => by omega) (fun k h hk => by omega)
  refine ⟨q, ?_⟩
  rw [Int.natCast_zero] at e1
  rw [e1]
  have hmem : p ∈ b ↔ ∃ h : q < b.length, b[q] = p := by
    constructor
    · intro hp
      obtain ⟨k, hk, rfl⟩ := List.getElem_of_mem hp
      by_cases hkq : k < q
      · exact absurd (e3 k hk hkq) LtP.irrefl
      · by_cases hke : k = q
        · subst hke; exact ⟨hk, rfl⟩
        · exact absurd (List.pairwise_iff_getElem.1 hs q k (by omega) hk (by omega)) (e4 q (by omega) (Nat.le_refl _))
    · rintro ⟨h, rfl⟩; exact List.getElem_mem _
  by_cases h : q < b.length
  · rw [if_pos (by omega), need_pos (by omega), gi_nat h, fCompare, bnd1_mk]
    have h4 := e4 q h (Nat.le_refl _)
    by_cases he : b[q] = p
    · have : p ∈ b := hmem.2 ⟨h, he⟩
      simp [h4, he, this, LtP.irrefl]
    · have : ¬ p ∈ b := fun hp => he (hmem.1 hp).2
      simp [h4, he, this]
  · rw [if_neg (by omega)]
    have : ¬ p ∈ b := fun hp => h (hmem.1 hp).1
    simp [this]
noncomputable def subL (a b : List (Int × Int)) : List (Int × Int) := if (m_ref35_IsRun a = some true ∧ m_ref35_IsRun b = some true) then a.filter (fun x => !decide (x ∈ b)) else []
theorem fSub (a b : List (Int × Int)) (ha : a.length ≤ 100000000) (hb : b.length ≤ 100000000) : m_frontier_Subtract a b = some (subL a b) := by
  obtain ⟨c, c1, c2, _⟩ := run_agree a (by omega)
  obtain ⟨d, d1, d2, d3⟩ := run_agree b (by omega)
  unfold m_frontier_Subtract subL
  simp only [jn_eq, c1, c2, d1, d2, bnd1_mk]
  cases c
  · simp
  · cases d
    · simp
    · have hs : SL b := ((run_iff b).1 (d3.1 rfl)).2
      simp only [Bool.not_true, Bool.false_eq_true, if_false, and_self, if_true]
      have h := loop_all a (by omega) (fun n r i => m_frontier_Subtract_L2 a b (fun x => some x) n r i)
        (fun r x k => if !decide (x ∈ b) then need (List.length r + 1 ≤ 137438953472) (k (r ++ [x])) else k r) (fun r => some r) (fun n s i hi => by
          show m_frontier_Subtract_L2 a b _ (n + 1) s i = _
          obtain ⟨q, hq⟩ := bs_eq b hb hs a[i]
          rw [m_frontier_Subtract_L2, m_frontier_Subtract_B2]
          simp (disch := omega) only [if_pos, need_pos, gi_nat, jn_eq, i64_succ]
          rw [show ((a[i].1, a[i].2) : Int × Int) = a[i] from rfl, hq]
          simp only [bnd1_mk, List.length_cons, List.length_nil, Nat.zero_add]) (fun n s => by
          show m_frontier_Subtract_L2 a b _ (n + 1) s _ = _
          rw [m_frontier_Subtract_L2, m_frontier_Subtract_B2, if_neg (by omega)]) []
      refine h.trans ?_
      have := foldK_app (ρ := List (Int × Int)) (fun x => !decide (x ∈ b)) (fun x => x) (fun r => some r) a [] (by simp; omega)
      rw [this]; simp
theorem rSub (a b : List (Int × Int)) (ha : a.length ≤ 100000000) (hb : b.length ≤ 100000000) : m_ref35_Subtract a b = some (subL a b) := sub_spec a b ha hb

/-! ### Merging -/
theorem concat_eq (a b : List (Int × Int)) (ha : a.length ≤ 100000000) (hb : b.length ≤ 100000000) : m_slices_Concat_L_2_int_2_int [a, b] = some (a ++ b) := by
  unfold m_slices_Concat_L_2_int_2_int
  obtain ⟨n, hn⟩ := FU_k 3 (by omega)
  rw [hn]
  have w1 : i64 (0 + 1) = 1 := rfl
  have w2 : i64 (1 + 1) = 2 := rfl
  have g0 : ∀ a b : List (Int × Int), gi [a, b] 0 = a := fun _ _ => rfl
  have g1 : ∀ a b : List (Int × Int), gi [a, b] 1 = b := fun _ _ => rfl
  have e1 : i64 (0 + (a.length : Int)) = (a.length : Int) := by rw [i64_id (by omega)]; omega
  have e2 : i64 ((a.length : Int) + (b.length : Int)) = ((a.length + b.length : Nat) : Int) := by rw [i64_id (by omega)]; omega
  have hg : m_slices_Grow_L_2_int_2_int ((a.length + b.length : Nat) : Int) = some [] := by
    unfold m_slices_Grow_L_2_int_2_int
    have e3 : i64 (((a.length + b.length : Nat) : Int) - i64 (0 - 0)) = ((a.length + b.length : Nat) : Int) := by rw [show i64 (0 - 0) = 0 from rfl, i64_id (by omega)]; omega
    rw [if_neg (by omega), jn_eq, e3]
    split
    · rw [need_pos (by omega), need_pos (by omega)]; simp
    · rfl
  simp (disch := omega) only [jn_eq, m_slices_Concat_L_2_int_2_int_L2, m_slices_Concat_L_2_int_2_int_B2, m_slices_Concat_L_2_int_2_int_L4, m_slices_Concat_L_2_int_2_int_B4, List.length_cons, List.length_nil, if_pos, need_pos, w1, w2, g0, g1, e1, e2, if_neg, hg, bnd1_mk]
  rw [need_pos (by simp; omega)]
  simp
noncomputable def mergeL (a b : List (Int × Int)) : List (Int × Int) := if (m_ref35_IsRun a = some true ∧ m_ref35_IsRun b = some true) then compactL (sortP (a ++ b)) else []
theorem fMerge (a b : List (Int × Int)) (ha : a.length ≤ 10000000) (hb : b.length ≤ 10000000) : m_frontier_Merge a b = some (mergeL a b) := by
  obtain ⟨c, c1, c2, c3⟩ := run_agree a (by omega)
  obtain ⟨d, d1, d2, d3⟩ := run_agree b (by omega)
  unfold m_frontier_Merge mergeL
  simp only [jn_eq, c1, c2, d1, d2, bnd1_mk]
  cases c
  · simp
  · cases d
    · simp
    · simp only [Bool.not_true, Bool.false_eq_true, if_false, and_self, if_true, concat_eq a b (by omega) (by omega), bnd1_mk]
      rw [fSorted _ (by simp; omega), bnd1_mk]
      unfold sortedL
      rw [if_pos]
      rw [allOk_iff]
      intro p hp
      rcases List.mem_append.1 hp with h | h
      · exact ((run_iff a).1 (c3.1 rfl)).1 p h
      · exact ((run_iff b).1 (d3.1 rfl)).1 p h
theorem adds_spec {ρ : Type} (K : List (Int × Int) → Option ρ) : ∀ (l r : List (Int × Int)), SL r → r.length + l.length ≤ 1000000000 → ∃ s, foldK (fun r x k => bnd1 (m_ref35_Add r x) k) K l r = K s ∧ SL s ∧ (∀ x, x ∈ s ↔ x ∈ r ∨ x ∈ l) ∧ s.length ≤ r.length + l.length
  | [], r, hr, _ => ⟨r, rfl, hr, by simp, by simp⟩
  | y :: l, r, hr, hl => by
    simp only [List.length_cons] at hl
    obtain ⟨t, t1, t2, t3, t4⟩ := add_spec r y (by omega) hr
    obtain ⟨s, s1, s2, s3, s4⟩ := adds_spec K l t t2 (by omega)
    refine ⟨s, by rw [foldK, t1, bnd1_mk, s1], s2, fun x => ?_, by simp; omega⟩
    rw [s3, t3, List.mem_cons, or_assoc]
theorem rMerge (a b : List (Int × Int)) (ha : a.length ≤ 10000000) (hb : b.length ≤ 10000000) : m_ref35_Merge a b = some (mergeL a b) := by
  obtain ⟨c, c1, c2, c3⟩ := run_agree a (by omega)
  obtain ⟨d, d1, d2, d3⟩ := run_agree b (by omega)
  unfold m_ref35_Merge mergeL
  simp only [jn_eq, c2, d2, bnd1_mk]
  cases c
  · simp
  · cases d
    · simp
    · simp only [Bool.not_true, Bool.false_eq_true, if_false, and_self, if_true]
      rw [need_pos (by simp; omega)]
      have h := loop_all b (by omega) (fun n r i => m_ref35_Merge_L2 b (fun x => some x) n r i) (fun r x k => bnd1 (m_ref35_Add r x) k) (fun r => some r) (fun n s i hi => by
          show m_ref35_Merge_L2 b _ (n + 1) s i = _
          rw [m_ref35_Merge_L2, m_ref35_Merge_B2]
          simp (disch := omega) only [if_pos, need_pos, gi_nat, i64_succ]) (fun n s => by
          show m_ref35_Merge_L2 b _ (n + 1) s _ = _
          rw [m_ref35_Merge_L2, m_ref35_Merge_B2, if_neg (by omega)]) ([] ++ a)
      refine h.trans ?_
      obtain ⟨s, s1, s2, s3, s4⟩ := adds_spec (ρ := List (Int × Int)) (fun r => some r) b ([] ++ a) (by rw [List.nil_append]; exact ((run_iff a).1 (c3.1 rfl)).2) (by simp; omega)
      rw [s1]
      congr 1
      obtain ⟨u1, u2⟩ := sortP_sl (a ++ b)
      exact sl_ext s2 u1 (fun x => by rw [s3, u2, List.nil_append, List.mem_append])
theorem mergeL_len (a b : List (Int × Int)) : (mergeL a b).length ≤ a.length + b.length := by
  unfold mergeL
  split
  · exact Nat.le_trans (compactL_len _) (by unfold sortP; rw [List.length_mergeSort, List.length_append]; exact Nat.le_refl _)
  · simp
theorem subL_len (a b : List (Int × Int)) : (subL a b).length ≤ a.length := by
  unfold subL
  split
  · exact List.length_filter_le _ _
  · simp
theorem combines_true (a b : List (Int × Int)) (ha : a.length ≤ 10000000) (hb : b.length ≤ 10000000) : m_law36_combines a b = some true := by
  have h1 := sortedL_len a
  have h2 := subL_len a b
  have h3 := mergeL_len a b
  unfold m_law36_combines
  rw [jn_eq, fSorted a (by omega), bnd1_mk, rSorted a (by omega), bnd1_mk, same_refl _ (by omega), bnd1_mk, if_pos rfl, fSub a b (by omega) (by omega), bnd1_mk, rSub a b (by omega) (by omega), bnd1_mk, same_refl _ (by omega), bnd1_mk, if_pos rfl, fMerge a b ha hb, bnd1_mk, rMerge a b ha hb, bnd1_mk, same_refl _ (by omega), bnd1_mk]
end Go.Proofs.Ytkplmgdmkfgjhaa
