/- Runs as lists: adding, sorting, subtracting as the reference does it. -/
import Derived.Test.YtkplmgdmkfgjhaaDd
namespace Go.Proofs.Ytkplmgdmkfgjhaa
attribute [local irreducible] FU

theorem LtP.trans {a b c : Int × Int} (h : LtP a b) (h' : LtP b c) : LtP a c := by unfold LtP at *; omega
theorem LtP.irrefl {a : Int × Int} : ¬ LtP a a := by unfold LtP; omega
theorem LtP.tri (a b : Int × Int) : LtP a b ∨ a = b ∨ LtP b a := by
  obtain ⟨a1, a2⟩ := a
  obtain ⟨b1, b2⟩ := b
  unfold LtP
  simp only [Prod.mk.injEq]
  omega
abbrev SL (l : List (Int × Int)) : Prop := l.Pairwise LtP
theorem run_iff (l : List (Int × Int)) : Run l ↔ (∀ p ∈ l, OkP p) ∧ SL l := by
  constructor
  · intro h
    refine ⟨fun p hp => ?_, ?_⟩
    · obtain ⟨i, hi, rfl⟩ := List.getElem_of_mem hp
      have := (h i (Nat.zero_le _) hi).1
      rwa [gi_nat hi] at this
    · rw [SL, List.pairwise_iff_getElem]
      have step : ∀ (d i : Nat) (hi : i + d + 1 < l.length), LtP (l[i]'(by omega)) (l[i + d + 1]'hi) := by
        intro d
        induction d with
        | zero =>
          intro i hi
          have := (h (i + 1) (Nat.zero_le _) (by omega)).2 (by omega)
          rw [show ((i + 1 : Nat) : Int) - 1 = (i : Int) by omega, gi_nat (by omega), gi_nat (by omega)] at this
          exact this
        | succ d ih =>
          intro i hi
          have := (h (i + (d + 1) + 1) (Nat.zero_le _) hi).2 (by omega)
          rw [show ((i + (d + 1) + 1 : Nat) : Int) - 1 = ((i + d + 1 : Nat) : Int) by omega, gi_nat (by omega), gi_nat hi] at this
          exact (ih i (by omega)).trans this
      intro i j hi hj hij
      obtain ⟨d, rfl⟩ : ∃ d, j = i + d + 1 := ⟨j - i - 1, by omega⟩
      exact step d i hj
  · intro ⟨h1, h2⟩ i _ hi
    rw [gi_nat hi]
    refine ⟨h1 _ (List.getElem_mem _), fun h0 => ?_⟩
    rw [show (i : Int) - 1 = ((i - 1 : Nat) : Int) by omega, gi_nat (by omega)]
    exact List.pairwise_iff_getElem.1 h2 (i - 1) i (by omega) hi (by omega)

theorem has_loop (l : List (Int × Int)) (q : Int × Int) (hl : l.length ≤ 1099511627776) : ∀ (m i n : Nat), i + m = l.length → m < n → m_ref35_Has_L2 l q (fun _ => some false) n i = some (decide (q ∈ l.drop i)) := by
  intro m
  induction m with
  | zero =>
    intro i n hi h
    obtain ⟨n, rfl⟩ : ∃ k, n = k + 1 := ⟨n - 1, by omega⟩
    obtain rfl : i = l.length := by omega
    simp [m_ref35_Has_L2, m_ref35_Has_B2]
  | succ m ih =>
    intro i n hi h
    obtain ⟨n, rfl⟩ : ∃ k, n = k + 1 := ⟨n - 1, by omega⟩
    have hin : (0 : Int) ≤ (i : Int) ∧ (i : Int) < (l.length : Int) := by omega
    have e5 : i64 ((i : Int) + 1) = ((i + 1 : Nat) : Int) := by rw [i64_id (by omega)]; omega
    rw [m_ref35_Has_L2, m_ref35_Has_B2, if_pos hin.2, need_pos hin, e5, gi_nat (by omega), List.drop_eq_getElem_cons (by omega), ih (i + 1) n (by omega) (by omega)]
    generalize List.drop (i + 1) l = t
    by_cases he : l[i] = q
    · rw [if_pos he]; simp [he]
    · rw [if_neg he]; simp [Ne.symm he]
theorem has_eq (l : List (Int × Int)) (q : Int × Int) (hl : l.length ≤ 1099511627776) : m_ref35_Has l q = some (decide (q ∈ l)) := by
  have := FU_ge
  unfold m_ref35_Has
  rw [jn_eq]
  have := has_loop l q hl l.length 0 FU (by omega) (by omega)
  rwa [List.drop_zero] at this

theorem add_loop (l : List (Int × Int)) (q : Int × Int) (hl : l.length ≤ 1099511627776) (K : Int → Option (List (Int × Int))) : ∀ (m i n : Nat), i + m = l.length → m < n →
    ∃ j : Nat, i ≤ j ∧ j ≤ l.length ∧ m_ref35_Add_L2 l q K n i = K j ∧ (∀ k (h : k < l.length), i ≤ k → k < j → LtP l[k] q) ∧ (∀ h : j < l.length, ¬ LtP l[j] q) := by
  intro m
  induction m with
  | zero =>
    intro i n hi h
    obtain ⟨n, rfl⟩ : ∃ k, n = k + 1 := ⟨n - 1, by omega⟩
    obtain rfl : i = l.length := by omega
    exact ⟨l.length, Nat.le_refl _, Nat.le_refl _, by simp [m_ref35_Add_L2, m_ref35_Add_B2, jn_eq], fun k h1 h2 h3 => by omega, fun h => absurd h (Nat.lt_irrefl _)⟩
  | succ m ih =>
    intro i n hi h
    obtain ⟨n, rfl⟩ : ∃ k, n = k + 1 := ⟨n - 1, by omega⟩
    have hin : (0 : Int) ≤ (i : Int) ∧ (i : Int) < (l.length : Int) := by omega
    have e5 : i64 ((i : Int) + 1) = ((i + 1 : Nat) : Int) := by rw [i64_id (by omega)]; omega
    rw [m_ref35_Add_L2, m_ref35_Add_B2]
    simp only [jn_eq, if_pos hin.2, need_pos hin, e5, gi_nat (show i < l.length by omega), rLess, bnd1_mk]
    by_cases he : LtP l[i] q
    · simp only [he, decide_true, if_true]
      obtain ⟨j, j1, j2, j3, j4, j5⟩ := ih (i + 1) n (by omega) (by omega)
      refine ⟨j, by omega, j2, j3, fun k h1 h2 h3 => ?_, j5⟩
      by_cases hk : k = i
      · subst hk; exact he
      · exact j4 k h1 (by omega) h3
    · simp only [he, decide_false, Bool.false_eq_true, if_false]
      exact ⟨i, Nat.le_refl _, by omega, rfl, fun k h1 h2 h3 => by omega, fun _ => he⟩

theorem add_spec (l : List (Int × Int)) (q : Int × Int) (hl : l.length ≤ 1000000000) (hs : SL l) :
    ∃ r, m_ref35_Add l q = some r ∧ SL r ∧ (∀ x, x ∈ r ↔ x ∈ l ∨ x = q) ∧ r.length ≤ l.length + 1 := by
  have := FU_ge
  unfold m_ref35_Add
  rw [jn_eq]
  obtain ⟨j, _, j2, j3, j4, j5⟩ := add_loop l q (by omega) (fun x5 => jn (fun (x32_j73 : Bool) => if x32_j73 then (some l) else (need (0 ≤ x5 ∧ x5 ≤ (List.length l : Int)) (need (List.length ([] : List (Int × Int)) + List.length (List.take (Int.toNat x5) l) ≤ 137438953472) (need (List.length (([] : List (Int × Int)) ++ (List.take (Int.toNat x5) l)) + List.length [q] ≤ 137438953472) (need ((0 : Int) ≤ x5 ∧ x5 ≤ (List.length l : Int)) (need (List.length ((([] : List (Int × Int)) ++ (List.take (Int.toNat x5) l)) ++ [q]) + List.length (List.drop (Int.toNat x5) l) ≤ 137438953472) (some (((([] : List (Int × Int)) ++ (List.take (Int.toNat x5) l)) ++ [q]) ++ (List.drop (Int.toNat x5) l))))))))) (fun k73 => if x5 < (List.length l : Int) then (need ((0 : Int) ≤ x5 ∧ x5 < (List.length l : Int)) (k73 (decide ((gi l x5) = q)))) else (k73 false))) l.length 0 FU (by omega) (by omega)
  have hA : ∀ a ∈ l.take j, LtP a q := by
    intro a ha
    obtain ⟨k, hk, rfl⟩ := List.getElem_of_mem ha
    simp only [List.length_take] at hk
    rw [List.getElem_take]
    exact j4 k (by omega) (Nat.zero_le _) (by omega)
  have hsplit := List.take_append_drop j l
  have hpw : SL (l.take j ++ l.drop j) := by rw [hsplit]; exact hs
  obtain ⟨p1, p2, p3⟩ := List.pairwise_append.1 hpw
  have ins : (∀ b ∈ l.drop j, LtP q b) → ∃ r, (some (((([] : List (Int × Int)) ++ (List.take j l)) ++ [q]) ++ (List.drop j l)) : Option (List (Int × Int))) = some r ∧ SL r ∧ (∀ x, x ∈ r ↔ x ∈ l ∨ x = q) ∧ r.length ≤ l.length + 1 := by
    intro hB
    refine ⟨_, rfl, ?_, fun x => ?_, ?_⟩
    · rw [List.nil_append, SL, List.append_assoc, List.pairwise_append]
      refine ⟨p1, ?_, fun a ha b hb => ?_⟩
      · simp only [List.singleton_append, List.pairwise_cons]
        exact ⟨hB, p2⟩
      · simp only [List.singleton_append, List.mem_cons] at hb
        rcases hb with rfl | hb
        · exact hA a ha
        · exact p3 a ha b hb
    · have : x ∈ l ↔ x ∈ l.take j ∨ x ∈ l.drop j := by rw [← List.mem_append, hsplit]
      rw [this]
      simp only [List.nil_append, List.append_assoc, List.mem_append, List.mem_singleton]
      constructor
      · rintro (h | h | h) <;> simp [h]
      · rintro ((h | h) | h) <;> simp [h]
    · simp; omega
  rw [Int.natCast_zero] at j3
  rw [j3]
  have n1 : (0 : Int) ≤ (j : Int) ∧ (j : Int) ≤ (List.length l : Int) := by omega
  have n2 : List.length ([] : List (Int × Int)) + List.length (List.take j l) ≤ 137438953472 := by simp; omega
  have n3 : List.length (([] : List (Int × Int)) ++ (List.take j l)) + List.length [q] ≤ 137438953472 := by simp; omega
  have n4 : List.length ((([] : List (Int × Int)) ++ (List.take j l)) ++ [q]) + List.length (List.drop j l) ≤ 137438953472 := by simp; omega
  simp only [jn_eq, Int.toNat_natCast, need_pos n1, need_pos n2, need_pos n3, need_pos n4]
  by_cases hj : j < l.length
  · have hdrop := List.drop_eq_getElem_cons hj
    rw [if_pos (by omega), need_pos (by omega), gi_nat hj]
    by_cases he : l[j] = q
    · simp only [he, decide_true, if_true]
      exact ⟨l, rfl, hs, fun x => ⟨Or.inl, fun h => h.elim id (fun h => by rw [h, ← he]; exact List.getElem_mem _)⟩, by omega⟩
    · simp only [he, decide_false, Bool.false_eq_true, if_false]
      refine ins fun b hb => ?_
      have hq : LtP q l[j] := by
        rcases LtP.tri l[j] q with h | h | h
        · exact absurd h (j5 hj)
        · exact absurd h he
        · exact h
      rw [hdrop] at hb p2
      rcases List.mem_cons.1 hb with rfl | hb
      · exact hq
      · exact hq.trans ((List.pairwise_cons.1 p2).1 b hb)
  · rw [if_neg (by omega)]
    simp only [Bool.false_eq_true, if_false]
    refine ins fun b hb => ?_
    rw [List.drop_eq_nil_of_le (by omega)] at hb
    cases hb

theorem sorted_check (l : List (Int × Int)) (hl : l.length ≤ 1099511627776) (K : Unit → Option (List (Int × Int))) : ∀ (m i n : Nat), i + m = l.length → m < n →
    m_ref35_Sorted_L2 l K n i = if (∀ p ∈ l.drop i, OkP p) then K () else some [] := by
  intro m
  induction m with
  | zero =>
    intro i n hi h
    obtain ⟨n, rfl⟩ : ∃ k, n = k + 1 := ⟨n - 1, by omega⟩
    obtain rfl : i = l.length := by omega
    simp [m_ref35_Sorted_L2, m_ref35_Sorted_B2]
  | succ m ih =>
    intro i n hi h
    obtain ⟨n, rfl⟩ : ∃ k, n = k + 1 := ⟨n - 1, by omega⟩
    have hin : (0 : Int) ≤ (i : Int) ∧ (i : Int) < (l.length : Int) := by omega
    have e5 : i64 ((i : Int) + 1) = ((i + 1 : Nat) : Int) := by rw [i64_id (by omega)]; omega
    rw [m_ref35_Sorted_L2, m_ref35_Sorted_B2, if_pos hin.2, need_pos hin, e5, gi_nat (by omega), rIsPair, bnd1_mk, ih (i + 1) n (by omega) (by omega), List.drop_eq_getElem_cons (show i < l.length by omega)]
    generalize List.drop (i + 1) l = t
    by_cases he : OkP l[i]
    · simp only [List.forall_mem_cons, he, true_and, decide_true, Bool.not_true, Bool.false_eq_true, if_false]
    · simp only [List.forall_mem_cons, he, false_and, decide_false, Bool.not_false, if_true, if_false]

theorem sorted_adds (l : List (Int × Int)) (hl : l.length ≤ 100000000) : ∀ (m i n : Nat) (r : List (Int × Int)), i + m = l.length → m < n → SL r → r.length ≤ i →
    ∃ s, m_ref35_Sorted_L4 l (fun x3 => some x3) n r i = some s ∧ SL s ∧ (∀ x, x ∈ s ↔ x ∈ r ∨ x ∈ l.drop i) ∧ s.length ≤ l.length := by
  intro m
  induction m with
  | zero =>
    intro i n r hi h h1 h2
    obtain ⟨n, rfl⟩ : ∃ k, n = k + 1 := ⟨n - 1, by omega⟩
    obtain rfl : i = l.length := by omega
    exact ⟨r, by simp [m_ref35_Sorted_L4, m_ref35_Sorted_B4], h1, by simp, h2⟩
  | succ m ih =>
    intro i n r hi h h1 h2
    obtain ⟨n, rfl⟩ : ∃ k, n = k + 1 := ⟨n - 1, by omega⟩
    have hin : (0 : Int) ≤ (i : Int) ∧ (i : Int) < (l.length : Int) := by omega
    have e5 : i64 ((i : Int) + 1) = ((i + 1 : Nat) : Int) := by rw [i64_id (by omega)]; omega
    obtain ⟨t, t1, t2, t3, t4⟩ := add_spec r (gi l (i : Int)) (by omega) h1
    rw [m_ref35_Sorted_L4, m_ref35_Sorted_B4, if_pos hin.2, need_pos hin, e5, t1, bnd1_mk]
    obtain ⟨s, s1, s2, s3, s4⟩ := ih (i + 1) n t (by omega) (by omega) t2 (by omega)
    refine ⟨s, s1, s2, fun x => ?_, s4⟩
    rw [s3, t3, gi_nat (by omega), List.drop_eq_getElem_cons (show i < l.length by omega), List.mem_cons, or_assoc]

theorem sorted_spec (l : List (Int × Int)) (hl : l.length ≤ 100000000) :
    ∃ s, m_ref35_Sorted l = some s ∧ s.length ≤ l.length ∧ ((∀ p ∈ l, OkP p) → SL s ∧ ∀ x, x ∈ s ↔ x ∈ l) ∧ (¬ (∀ p ∈ l, OkP p) → s = []) := by
  have := FU_ge
  unfold m_ref35_Sorted
  simp only [jn_eq]
  have h := sorted_check l (by omega) (fun _ => m_ref35_Sorted_L4 l (fun x3 => some x3) FU [] 0) l.length 0 FU (by omega) (by omega)
  rw [List.drop_zero] at h
  obtain ⟨s, s1, s2, s3, s4⟩ := sorted_adds l hl l.length 0 FU [] (by omega) (by omega) List.Pairwise.nil (Nat.le_refl _)
  rw [List.drop_zero] at s3
  by_cases hp : ∀ p ∈ l, OkP p
  · rw [if_pos hp] at h
    exact ⟨s, h.trans s1, s4, fun _ => ⟨s2, fun x => by rw [s3]; simp⟩, fun h => absurd hp h⟩
  · rw [if_neg hp] at h
    exact ⟨[], h, by simp, fun h => absurd h hp, fun _ => rfl⟩

theorem sub_loop (a b : List (Int × Int)) (ha : a.length ≤ 100000000) (hb : b.length ≤ 100000000) : ∀ (m i n : Nat) (r : List (Int × Int)), i + m = a.length → m < n → r.length ≤ i →
    m_ref35_Subtract_L2 a b (fun x => some x) n r i = some (r ++ (a.drop i).filter (fun x => !decide (x ∈ b))) := by
  intro m
  induction m with
  | zero =>
    intro i n r hi h h1
    obtain ⟨n, rfl⟩ : ∃ k, n = k + 1 := ⟨n - 1, by omega⟩
    obtain rfl : i = a.length := by omega
    simp [m_ref35_Subtract_L2, m_ref35_Subtract_B2]
  | succ m ih =>
    intro i n r hi h h1
    obtain ⟨n, rfl⟩ : ∃ k, n = k + 1 := ⟨n - 1, by omega⟩
    have hin : (0 : Int) ≤ (i : Int) ∧ (i : Int) < (a.length : Int) := by omega
    have e5 : i64 ((i : Int) + 1) = ((i + 1 : Nat) : Int) := by rw [i64_id (by omega)]; omega
    have hlen : List.length r + List.length [a[i]'(by omega)] ≤ 137438953472 := by simp; omega
    rw [m_ref35_Subtract_L2, m_ref35_Subtract_B2]
    simp only [jn_eq, if_pos hin.2, need_pos hin, e5, gi_nat (show i < a.length by omega), has_eq b _ (by omega), bnd1_mk, need_pos hlen]
    rw [List.drop_eq_getElem_cons (show i < a.length by omega)]
    by_cases he : a[i] ∈ b
    · simp only [he, decide_true, Bool.not_true, Bool.false_eq_true, if_false]
      rw [ih (i + 1) n r (by omega) (by omega) (by omega)]
      generalize List.drop (i + 1) a = t
      simp [he]
    · simp only [he, decide_false, Bool.not_false, if_true]
      rw [ih (i + 1) n _ (by omega) (by omega) (by simp; omega)]
      generalize List.drop (i + 1) a = t
      simp [he]
theorem sub_spec (a b : List (Int × Int)) (ha : a.length ≤ 100000000) (hb : b.length ≤ 100000000) :
    m_ref35_Subtract a b = some (if (m_ref35_IsRun a = some true ∧ m_ref35_IsRun b = some true) then a.filter (fun x => !decide (x ∈ b)) else []) := by
  have := FU_ge
  obtain ⟨c, _, c2, _⟩ := run_agree a (by omega)
  obtain ⟨d, _, d2, _⟩ := run_agree b (by omega)
  have h := sub_loop a b ha hb a.length 0 FU [] (by omega) (by omega) (by simp)
  rw [List.nil_append, List.drop_zero] at h
  unfold m_ref35_Subtract
  simp only [jn_eq, c2, d2, bnd1_mk]
  cases c
  · simp
  · cases d
    · simp
    · simp only [Bool.not_true, Bool.false_eq_true, if_false]
      rw [if_pos (by simp)]
      exact h
end Go.Proofs.Ytkplmgdmkfgjhaa
