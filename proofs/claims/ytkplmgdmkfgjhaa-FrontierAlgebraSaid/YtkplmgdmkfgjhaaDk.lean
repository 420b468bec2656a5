/- slices.Compact at pairs. -/
import Derived.Test.YtkplmgdmkfgjhaaM
import Derived.Test.YtkplmgdmkfgjhaaDj
namespace Go.Proofs.Ytkplmgdmkfgjhaa
attribute [local irreducible] FU
theorem m_slices_Compact_L_2_int_2_int_in (l : List (Int × Int)) (hl : l.length ≤ 1099511627776) (i : Nat) (K : List (Int × Int) → Int → Option (List (Int × Int))) : ∀ (m j n : Nat) (x0 : List (Int × Int)) (x3 : Nat), i + j + m = l.length → 1 ≤ j → m < n → x0.length = l.length → x3 + 1 ≤ i + j → x0.take x3 = compactL (l.take (i + j)) → x3 = (compactL (l.take (i + j))).length → (∀ q, i + j ≤ q + 1 → x0[q]? = l[q]?) →
    ∃ (x0' : List (Int × Int)) (x3' : Nat), m_slices_Compact_L_2_int_2_int_L26 l i K n x0 x3 j = K x0' x3' ∧ x0'.length = l.length ∧ x3' ≤ l.length ∧ x0'.take x3' = compactL l := by
  intro m
  induction m with
  | zero =>
    intro j n x0 x3 hi hj hn hx h3 ht h3' hq
    obtain ⟨n, rfl⟩ : ∃ k, n = k + 1 := ⟨n - 1, by omega⟩
    refine ⟨x0, x3, ?_, hx, by omega, ?_⟩
    · rw [m_slices_Compact_L_2_int_2_int_L26, m_slices_Compact_L_2_int_2_int_B26, if_neg (by omega)]
    · rw [ht, show i + j = l.length by omega, List.take_length]
  | succ m ih =>
    intro j n x0 x3 hi hj hn hx h3 ht h3' hq
    obtain ⟨n, rfl⟩ : ∃ k, n = k + 1 := ⟨n - 1, by omega⟩
    have hlt : i + j < l.length := by omega
    have g1 : gi x0 ((i : Int) + (j : Int)) = l[i + j] := by
      rw [show (i : Int) + (j : Int) = ((i + j : Nat) : Int) by omega, gi_nat (by omega)]
      have := hq (i + j) (by omega)
      rw [List.getElem?_eq_getElem (by omega), List.getElem?_eq_getElem hlt] at this
      exact Option.some.inj this
    have g2 : gi x0 ((i : Int) + ((j : Int) - 1)) = l[i + j - 1] := by
      rw [show (i : Int) + ((j : Int) - 1) = ((i + j - 1 : Nat) : Int) by omega, gi_nat (by omega)]
      have := hq (i + j - 1) (by omega)
      rw [List.getElem?_eq_getElem (by omega), List.getElem?_eq_getElem (by omega)] at this
      exact Option.some.inj this
    have hsn : compactL (l.take (i + (j + 1))) = cstep (compactL (l.take (i + j))) l[i + j] := by
      rw [show i + (j + 1) = (i + j) + 1 by omega, ← List.take_append_getElem hlt, compactL_snoc]
    have hla : (compactL (l.take (i + j))).getLast? = some l[i + j - 1] := by
      rw [compactL_last, List.getLast?_eq_getElem?]
      simp only [List.length_take]
      rw [show min (i + j) l.length - 1 = i + j - 1 by omega, List.getElem?_take_of_lt (by omega), List.getElem?_eq_getElem (by omega)]
    rw [m_slices_Compact_L_2_int_2_int_L26, m_slices_Compact_L_2_int_2_int_B26]
    simp (disch := omega) only [if_pos, jn_eq, need_pos, i64_sub1, i64_succ, g1, g2]
    by_cases he : l[i + j] = l[i + j - 1]
    · rw [if_neg (by simp [he])]
      refine ih (j + 1) n x0 x3 (by omega) (by omega) (by omega) hx (by omega) ?_ ?_ (fun q h => hq q (by omega))
      · rw [ht, hsn, cstep, if_pos (by rw [hla, he])]
      · rw [hsn, cstep, if_pos (by rw [hla, he])]; exact h3'
    · rw [if_pos he]
      simp (disch := omega) only [need_pos, Int.toNat_natCast, i64_succ]
      have hc : cstep (compactL (l.take (i + j))) l[i + j] = compactL (l.take (i + j)) ++ [l[i + j]] := by
        rw [cstep, if_neg]
        rw [hla]; exact fun e => he (Option.some.inj e).symm
      refine ih (j + 1) n _ (x3 + 1) (by omega) (by omega) (by omega) (by simp [hx]) (by omega) ?_ ?_ (fun q h => ?_)
      · rw [hsn, hc, ← ht]
        rw [List.take_succ_eq_append_getElem (by simp; omega)]
        congr 1
        · rw [List.take_set_of_le (by omega)]
        · simp
      · rw [hsn, hc]; simp; omega
      · rw [List.getElem?_set_ne (by omega)]
        exact hq q (by omega)
theorem m_slices_Compact_L_2_int_2_int_out (l : List (Int × Int)) (hl : l.length ≤ 1099511627776) : ∀ (m i n : Nat), i + m = l.length → 1 ≤ i → m < n → compactL (l.take i) = l.take i →
    m_slices_Compact_L_2_int_2_int_L14 l (fun _ => some l) n i = some (compactL l) := by
  intro m
  induction m with
  | zero =>
    intro i n hi h1 hn hc
    obtain ⟨n, rfl⟩ : ∃ k, n = k + 1 := ⟨n - 1, by omega⟩
    rw [m_slices_Compact_L_2_int_2_int_L14, m_slices_Compact_L_2_int_2_int_B14, if_neg (by omega)]
    rw [show i = l.length by omega, List.take_length] at hc
    rw [hc]
  | succ m ih =>
    intro i n hi h1 hn hc
    obtain ⟨n, rfl⟩ : ∃ k, n = k + 1 := ⟨n - 1, by omega⟩
    have hlt : i < l.length := by omega
    have g2 : gi l ((i : Int) - 1) = l[i - 1] := by
      rw [show (i : Int) - 1 = ((i - 1 : Nat) : Int) by omega, gi_nat (by omega)]
    have hla : (l.take i).getLast? = some l[i - 1] := by
      rw [List.getLast?_eq_getElem?]
      simp only [List.length_take]
      rw [show min i l.length - 1 = i - 1 by omega, List.getElem?_take_of_lt (by omega), List.getElem?_eq_getElem (by omega)]
    have hsn : compactL (l.take (i + 1)) = cstep (l.take i) l[i] := by
      rw [← List.take_append_getElem hlt, compactL_snoc, hc]
    rw [m_slices_Compact_L_2_int_2_int_L14, m_slices_Compact_L_2_int_2_int_B14]
    simp (disch := omega) only [if_pos, jn_eq, need_pos, i64_sub1, i64_succ, g2, gi_nat]
    by_cases he : l[i] = l[i - 1]
    · rw [if_pos he]
      have hct : compactL (l.take (i + 1)) = l.take i := by rw [hsn, cstep, if_pos (by rw [hla, he])]
      have hFU := FU_ge
      obtain ⟨x0', x3', e1, e2, e3, e4⟩ := m_slices_Compact_L_2_int_2_int_in l hl i (fun x0_j694 x3_j694 => need ((0 : Int) ≤ x3_j694 ∧ x3_j694 ≤ (List.length x0_j694 : Int) ∧ (List.length x0_j694 : Int) ≤ (List.length x0_j694 : Int)) (need (0 ≤ x3_j694 ∧ x3_j694 ≤ (List.length (List.take (Int.toNat x3_j694) x0_j694 ++ List.replicate (Int.toNat (List.length x0_j694 : Int) - Int.toNat x3_j694) ((0, 0) : (Int × Int)) ++ List.drop (Int.toNat x3_j694 + (Int.toNat (List.length x0_j694 : Int) - Int.toNat x3_j694)) x0_j694) : Int)) (some (List.take (Int.toNat x3_j694) (List.take (Int.toNat x3_j694) x0_j694 ++ List.replicate (Int.toNat (List.length x0_j694 : Int) - Int.toNat x3_j694) ((0, 0) : (Int × Int)) ++ List.drop (Int.toNat x3_j694 + (Int.toNat (List.length x0_j694 : Int) - Int.toNat x3_j694)) x0_j694)))))
        (l.length - i - 1) 1 FU l i (by omega) (by omega) (by omega) rfl (by omega) hct.symm (by rw [hct]; simp; omega) (fun q _ => rfl)
      rw [show ((1 : Nat) : Int) = 1 from rfl] at e1
      rw [e1]
      have hlen : (List.take x3' x0' ++ List.replicate (x0'.length - x3') ((0, 0) : (Int × Int)) ++ List.drop (x3' + (x0'.length - x3')) x0').length = x0'.length := by simp; omega
      simp only [Int.toNat_natCast, hlen]
      rw [need_pos (by omega), need_pos (by omega), List.append_assoc, List.take_append_of_le_length (by simp; omega), List.take_take, Nat.min_self, e4]
    · rw [if_neg he]
      refine ih (i + 1) n (by omega) (by omega) (by omega) ?_
      rw [hsn, cstep, if_neg, List.take_append_getElem hlt]
      rw [hla]; exact fun e => he (Option.some.inj e).symm
theorem m_slices_Compact_L_2_int_2_int_eq (l : List (Int × Int)) (hl : l.length ≤ 1099511627776) : m_slices_Compact_L_2_int_2_int l = some (compactL l) := by
  unfold m_slices_Compact_L_2_int_2_int
  have hFU := FU_ge
  by_cases h : (List.length l : Int) < 2
  · rw [if_pos h]
    congr 1
    match l, h with
    | [], _ => rfl
    | [x], _ => simp [compactL, cstep]
    | x :: y :: t, h => simp at h; omega
  · rw [if_neg h, jn_eq]
    have h1 : compactL (l.take 1) = l.take 1 := by
      match l with
      | [] => rfl
      | x :: t => simp [compactL, cstep]
    exact m_slices_Compact_L_2_int_2_int_out l hl (l.length - 1) 1 FU (by omega) (by omega) (by omega) h1

end Go.Proofs.Ytkplmgdmkfgjhaa
