/- Sorting values: program and reference agree. -/
import Derived.Test.YtpfdeahcjlfijaaGreatQB1
import Derived.Test.YtpfdeahcjlfijaaGreatQB0
namespace Go.Proofs.YtpfdeahcjlfijaaGreat
attribute [local irreducible] FU
theorem m_slices_Compact_L_api_Value_api_Value_in (l : List (List UInt8)) (hl : l.length ≤ 1099511627776) (i : Nat) (K : List (List UInt8) → Int → Option (List (List UInt8))) : ∀ (m j n : Nat) (x0 : List (List UInt8)) (x3 : Nat), i + j + m = l.length → 1 ≤ j → m < n → x0.length = l.length → x3 + 1 ≤ i + j → x0.take x3 = compactL (l.take (i + j)) → x3 = (compactL (l.take (i + j))).length → (∀ q, i + j ≤ q + 1 → x0[q]? = l[q]?) →
  ∃ (x0' : List (List UInt8)) (x3' : Nat), m_slices_Compact_L_api_Value_api_Value_L26 l i K n x0 x3 j = K x0' x3' ∧ x0'.length = l.length ∧ x3' ≤ l.length ∧ x0'.take x3' = compactL l := by
 intro m
 induction m with
 | zero =>
  intro j n x0 x3 hi hj hn hx h3 ht h3' hq
  obtain ⟨n, rfl⟩ : ∃ k, n = k + 1 := ⟨n - 1, by omega⟩
  refine ⟨x0, x3, ?_, hx, by omega, ?_⟩
  ·rw [m_slices_Compact_L_api_Value_api_Value_L26, m_slices_Compact_L_api_Value_api_Value_B26, if_neg (by omega)]
  ·rw [ht, show i + j = l.length by omega, List.take_length]
 | succ m ih =>
  intro j n x0 x3 hi hj hn hx h3 ht h3' hq
  obtain ⟨n, rfl⟩ : ∃ k, n = k + 1 := ⟨n - 1, by omega⟩
  have hlt : i + j < l.length := by omega
  have g1 : gi x0 ((i : Int) + (j : Int)) = l[i + j] := by
   rw [show (i : Int) + (j : Int) = ((i + j : Nat) : Int) by omega, gi_nat (by omega)]
   have := hq (i + j) (by omega)
   rw [List.getElem?_eq_getElem (by omega), List.getElem?_eq_getElem hlt] at this
   exact Option.some.inj this
  have g2 : gi x0 ((i : Int) + ((j : Int) - 1)) = l[i + j - 1] := by
   rw [show (i : Int) + ((j : Int) - 1) = ((i + j - 1 : Nat) : Int) by omega, gi_nat (by omega)]
   have := hq (i + j - 1) (by omega)
   rw [List.getElem?_eq_getElem (by omega), List.getElem?_eq_getElem (by omega)] at this
   exact Option.some.inj this
  have hsn : compactL (l.take (i + (j + 1))) = cstep (compactL (l.take (i + j))) l[i + j] := by
   rw [show i + (j + 1) = (i + j) + 1 by omega, ← List.take_append_getElem hlt, compactL_snoc]
  have hla : (compactL (l.take (i + j))).getLast? = some l[i + j - 1] := by
   rw [compactL_last, List.getLast?_eq_getElem?]
   simp only [List.length_take]
   rw [show min (i + j) l.length - 1 = i + j - 1 by omega, List.getElem?_take_of_lt (by omega), List.getElem?_eq_getElem (by omega)]
  rw [m_slices_Compact_L_api_Value_api_Value_L26, m_slices_Compact_L_api_Value_api_Value_B26]
  simp (disch := omega) only [if_pos, jn_eq, need_pos, i64_sub1, i64_succ, g1, g2]
  by_cases he : l[i + j] = l[i + j - 1]
  ·rw [if_neg (by simp [he])]
   refine ih (j + 1) n x0 x3 (by omega) (by omega) (by omega) hx (by omega) ?_ ?_ (fun q h => hq q (by omega))
   ·rw [ht, hsn, cstep, if_pos (by rw [hla, he])]
   ·rw [hsn, cstep, if_pos (by rw [hla, he])]; exact h3'
  ·rw [if_pos he]
   simp (disch := omega) only [need_pos, Int.toNat_natCast, i64_succ]
   have hc : cstep (compactL (l.take (i + j))) l[i + j] = compactL (l.take (i + j)) ++ [l[i + j]] := by
    rw [cstep, if_neg]
    rw [hla]; exact fun e => he (Option.some.inj e).symm
   refine ih (j + 1) n _ (x3 + 1) (by omega) (by omega) (by omega) (by simp [hx]) (by omega) ?_ ?_ (fun q h => ?_)
   ·rw [hsn, hc, ← ht]
    rw [List.take_succ_eq_append_getElem (by simp; omega)]
    congr 1
    ·rw [List.take_set_of_le (by omega)]
    ·simp
   ·rw [hsn, hc]; simp; omega
   ·rw [List.getElem?_set_ne (by omega)]
    exact hq q (by omega)
theorem m_slices_Compact_L_api_Value_api_Value_out (l : List (List UInt8)) (hl : l.length ≤ 1099511627776) : ∀ (m i n : Nat), i + m = l.length → 1 ≤ i → m < n → compactL (l.take i) = l.take i →
  m_slices_Compact_L_api_Value_api_Value_L14 l (fun _ => some l) n i = some (compactL l) := by
 intro m
 induction m with
 | zero =>
  intro i n hi h1 hn hc
  obtain ⟨n, rfl⟩ : ∃ k, n = k + 1 := ⟨n - 1, by omega⟩
  rw [m_slices_Compact_L_api_Value_api_Value_L14, m_slices_Compact_L_api_Value_api_Value_B14, if_neg (by omega)]
  rw [show i = l.length by omega, List.take_length] at hc
  rw [hc]
 | succ m ih =>
  intro i n hi h1 hn hc
  obtain ⟨n, rfl⟩ : ∃ k, n = k + 1 := ⟨n - 1, by omega⟩
  have hlt : i < l.length := by omega
  have g2 : gi l ((i : Int) - 1) = l[i - 1] := by
   rw [show (i : Int) - 1 = ((i - 1 : Nat) : Int) by omega, gi_nat (by omega)]
  have hla : (l.take i).getLast? = some l[i - 1] := by
   rw [List.getLast?_eq_getElem?]
   simp only [List.length_take]
   rw [show min i l.length - 1 = i - 1 by omega, List.getElem?_take_of_lt (by omega), List.getElem?_eq_getElem (by omega)]
  have hsn : compactL (l.take (i + 1)) = cstep (l.take i) l[i] := by
   rw [← List.take_append_getElem hlt, compactL_snoc, hc]
  rw [m_slices_Compact_L_api_Value_api_Value_L14, m_slices_Compact_L_api_Value_api_Value_B14]
  simp (disch := omega) only [if_pos, jn_eq, need_pos, i64_sub1, i64_succ, g2, gi_nat]
  by_cases he : l[i] = l[i - 1]
  ·rw [if_pos he]
   have hct : compactL (l.take (i + 1)) = l.take i := by rw [hsn, cstep, if_pos (by rw [hla, he])]
   have hFU := FU_ge
   obtain ⟨x0', x3', e1, e2, e3, e4⟩ := m_slices_Compact_L_api_Value_api_Value_in l hl i (fun x0_j694 x3_j694 => need ((0 : Int) ≤ x3_j694 ∧ x3_j694 ≤ (List.length x0_j694 : Int) ∧ (List.length x0_j694 : Int) ≤ (List.length x0_j694 : Int)) (need (0 ≤ x3_j694 ∧ x3_j694 ≤ (List.length (List.take (Int.toNat x3_j694) x0_j694 ++ List.replicate (Int.toNat (List.length x0_j694 : Int) - Int.toNat x3_j694) ([] : (List UInt8)) ++ List.drop (Int.toNat x3_j694 + (Int.toNat (List.length x0_j694 : Int) - Int.toNat x3_j694)) x0_j694) : Int)) (some (List.take (Int.toNat x3_j694) (List.take (Int.toNat x3_j694) x0_j694 ++ List.replicate (Int.toNat (List.length x0_j694 : Int) - Int.toNat x3_j694) ([] : (List UInt8)) ++ List.drop (Int.toNat x3_j694 + (Int.toNat (List.length x0_j694 : Int) - Int.toNat x3_j694)) x0_j694)))))
    (l.length - i - 1) 1 FU l i (by omega) (by omega) (by omega) rfl (by omega) hct.symm (by rw [hct]; simp; omega) (fun q _ => rfl)
   rw [show ((1 : Nat) : Int) = 1 from rfl] at e1
   rw [e1]
   have hlen : (List.take x3' x0' ++ List.replicate (x0'.length - x3') ([] : (List UInt8)) ++ List.drop (x3' + (x0'.length - x3')) x0').length = x0'.length := by simp; omega
   simp only [Int.toNat_natCast, hlen]
   rw [need_pos (by omega), need_pos (by omega), List.append_assoc, List.take_append_of_le_length (by simp; omega), List.take_take, Nat.min_self, e4]
  ·rw [if_neg he]
   refine ih (i + 1) n (by omega) (by omega) (by omega) ?_
   rw [hsn, cstep, if_neg, List.take_append_getElem hlt]
   rw [hla]; exact fun e => he (Option.some.inj e).symm
theorem m_slices_Compact_L_api_Value_api_Value_eq (l : List (List UInt8)) (hl : l.length ≤ 1099511627776) : m_slices_Compact_L_api_Value_api_Value l = some (compactL l) := by
 unfold m_slices_Compact_L_api_Value_api_Value
 have hFU := FU_ge
 by_cases h : (List.length l : Int) < 2
 ·rw [if_pos h]
  congr 1
  match l, h with
  | [], _ => rfl
  | [x], _ => simp [compactL, cstep]
  | x :: y :: t, h => simp at h; omega
 ·rw [if_neg h, jn_eq]
  have h1 : compactL (l.take 1) = l.take 1 := by
   match l with
   | [] => rfl
   | x :: t => simp [compactL, cstep]
  exact m_slices_Compact_L_api_Value_api_Value_out l hl (l.length - 1) 1 FU (by omega) (by omega) (by omega) h1


theorem vClone (l : List (List UInt8)) (hl : l.length ≤ 100000000) : m_slices_Clone_L_api_Value_api_Value l = some l := by
 unfold m_slices_Clone_L_api_Value_api_Value
 rw [nilc_eq (fun h => by subst h; simp [need]), need_pos (by simp; omega)]
 simp
theorem vSort (l : List (List UInt8)) (hl : l.length ≤ 100000000) : m_value_Sort l = some (sortW l) := by
 unfold m_value_Sort
 have hs := m_sortby_eq (c := m_value_Compare) (xs := l) (by omega) cmpC_ok
 have hlen : (sortC m_value_Compare l).length = l.length := List.length_mergeSort _
 rw [vClone l hl, bnd1_mk, hs, bnd1_mk, m_slices_Compact_L_api_Value_api_Value_eq _ (by rw [hlen]; omega), bnd1_mk, vClip, bnd1_mk]
 rfl
theorem ins_eq {α : Type} (out : List α) (j : Nat) (hj : j ≤ out.length) (z x : α) :
  (List.take (j + 1) (out ++ [z]) ++ List.take (Nat.min ((out ++ [z]).length - j) ((out ++ [z]).length - (j + 1))) (List.drop j (out ++ [z])) ++ List.drop (j + 1 + Nat.min ((out ++ [z]).length - j) ((out ++ [z]).length - (j + 1))) (out ++ [z])).length = out.length + 1 ∧
  List.set (List.take (j + 1) (out ++ [z]) ++ List.take (Nat.min ((out ++ [z]).length - j) ((out ++ [z]).length - (j + 1))) (List.drop j (out ++ [z])) ++ List.drop (j + 1 + Nat.min ((out ++ [z]).length - j) ((out ++ [z]).length - (j + 1))) (out ++ [z])) j x = out.take j ++ [x] ++ out.drop j := by
 have hm : Nat.min ((out ++ [z]).length - j) ((out ++ [z]).length - (j + 1)) = out.length - j := by
  have : Nat.min ((out ++ [z]).length - j) ((out ++ [z]).length - (j + 1)) = min ((out ++ [z]).length - j) ((out ++ [z]).length - (j + 1)) := rfl
  rw [this]; simp; omega
 rw [hm]
 have h1 : List.drop (j + 1 + (out.length - j)) (out ++ [z]) = [] := List.drop_eq_nil_of_le (by simp; omega)
 have h2 : List.take (out.length - j) (List.drop j (out ++ [z])) = out.drop j := by
  rw [List.drop_append_of_le_length hj, List.take_left' (by simp)]
 rw [h1, h2, List.append_nil]
 refine ⟨by simp; omega, ?_⟩
 obtain ⟨y, hy⟩ : ∃ y, List.take (j + 1) (out ++ [z]) = out.take j ++ [y] := by
  by_cases h : j < out.length
  ·exact ⟨out[j], by rw [List.take_append_of_le_length (by omega), List.take_append_getElem h]⟩
  ·have : j = out.length := by omega
   subst this
   exact ⟨z, by rw [List.take_of_length_le (by simp), List.take_length]⟩
 rw [hy, List.append_assoc, List.append_assoc, List.set_append_right _ _ (by simp; omega)]
 congr 1
 have : j - (out.take j).length = 0 := by simp; omega
 rw [this]; rfl
theorem rSort_place (l : List (List UInt8)) (out : List (List UInt8)) (i : Nat) (hi : i < l.length) (hl : l.length ≤ 100000000) (ho : out.length ≤ 100000000) (K : Int → Option (List (List UInt8))) : ∀ (k n : Nat), k ≤ out.length → k < n →
  ∃ j : Nat, j ≤ k ∧ m_ref9_Sort_L26 l out i K n k = K j ∧ (∀ q (h : q < out.length), j ≤ q → q < k → 0 < cmpC out[q] l[i]) ∧ (∀ h : j - 1 < out.length, 0 < j → ¬ 0 < cmpC out[j - 1] l[i]) := by
 intro k
 induction k with
 | zero =>
  intro n h1 h2
  obtain ⟨n, rfl⟩ : ∃ q, n = q + 1 := ⟨n - 1, by omega⟩
  refine ⟨0, Nat.le_refl _, ?_, fun q h h' h'' => by omega, fun h h' => by omega⟩
  rw [m_ref9_Sort_L26, m_ref9_Sort_B26]
  simp only [jn_eq]
  rw [if_neg (by simp), if_neg (by simp)]
 | succ k ih =>
  intro n h1 h2
  obtain ⟨n, rfl⟩ : ∃ q, n = q + 1 := ⟨n - 1, by omega⟩
  have e1 : i64 (((k + 1 : Nat) : Int) - 1) = (k : Int) := by rw [i64_id (by omega)]; omega
  rw [m_ref9_Sort_L26, m_ref9_Sort_B26]
  simp only [jn_eq]
  rw [if_pos (by omega), need_pos (by omega), e1, need_pos (by omega), gi_nat (by omega), gi_nat hi, rCompareW, bnd1_mk]
  by_cases hc : 0 < cmpC out[k] l[i]
  ·rw [if_pos (decide_eq_true hc)]
   obtain ⟨j, j1, j2, j3, j4⟩ := ih n (by omega) (by omega)
   refine ⟨j, by omega, j2, fun q h h' h'' => ?_, j4⟩
   by_cases hq : q = k
   ·subst hq; exact hc
   ·exact j3 q h h' (by omega)
  ·rw [if_neg (fun h => hc (of_decide_eq_true h))]
   exact ⟨k + 1, Nat.le_refl _, rfl, fun q h h' h'' => by omega, fun h h' => by simpa using hc⟩
theorem rSort_loop (l : List (List UInt8)) (hl : l.length ≤ 10000000) : ∀ (m i n : Nat) (out : List (List UInt8)), i + m = l.length → m < n → SLC out → out.length ≤ i → (∀ x, x ∈ out ↔ x ∈ l.take i) →
  ∃ s, m_ref9_Sort_L14 l (fun x => some x) n out i = some s ∧ SLC s ∧ (∀ x, x ∈ s ↔ x ∈ l) := by
 have hFU := FU_ge
 intro m
 induction m with
 | zero =>
  intro i n out hi hn hs ho hm
  obtain ⟨n, rfl⟩ : ∃ q, n = q + 1 := ⟨n - 1, by omega⟩
  refine ⟨out, by rw [m_ref9_Sort_L14, m_ref9_Sort_B14, if_neg (by omega)], hs, fun x => ?_⟩
  rw [hm, show i = l.length by omega, List.take_length]
 | succ m ih =>
  intro i n out hi hn hs ho hm
  obtain ⟨n, rfl⟩ : ∃ q, n = q + 1 := ⟨n - 1, by omega⟩
  have hil : i < l.length := by omega
  have hmem : ∀ x, x ∈ l.take (i + 1) ↔ x ∈ l.take i ∨ x = l[i] := fun x => by
   rw [← List.take_append_getElem hil]; simp only [List.mem_append, List.mem_singleton]
  rw [m_ref9_Sort_L14, m_ref9_Sort_B14, if_pos (by omega)]
  simp only [jn_eq]
  obtain ⟨j, j1, j2, j3, j4⟩ := rSort_place l out i hil (by omega) (by omega) _ out.length FU (Nat.le_refl _) (by omega)
  rw [j2]
  have hpw := List.pairwise_iff_getElem.1 hs
  have go : (∀ a ∈ out.take j, cmpC a l[i] < 0) → ∃ s, need (List.length out + List.length [([] : List UInt8)] ≤ 137438953472) (need ((0 : Int) ≤ i64 ((j : Int) + 1) ∧ (i64 ((j : Int) + 1)) ≤ (List.length (out ++ ([([] : List UInt8)])) : Int) ∧ (List.length (out ++ ([([] : List UInt8)])) : Int) ≤ (List.length (out ++ ([([] : List UInt8)])) : Int)) (need ((0 : Int) ≤ (j : Int) ∧ (j : Int) ≤ (List.length (out ++ ([([] : List UInt8)])) : Int) ∧ (List.length (out ++ ([([] : List UInt8)])) : Int) ≤ (List.length (out ++ ([([] : List UInt8)])) : Int)) (need ((0 : Int) ≤ (i : Int) ∧ (i : Int) < (List.length l : Int)) (need ((0 : Int) ≤ (j : Int) ∧ (j : Int) < (List.length (List.take (Int.toNat (i64 ((j : Int) + 1))) (out ++ ([([] : List UInt8)])) ++ List.take (Nat.min (Int.toNat (List.length (out ++ ([([] : List UInt8)])) : Int) - Int.toNat (j : Int)) (Int.toNat (List.length (out ++ ([([] : List UInt8)])) : Int) - Int.toNat (i64 ((j : Int) + 1)))) (List.drop (Int.toNat (j : Int)) (out ++ ([([] : List UInt8)]))) ++ List.drop (Int.toNat (i64 ((j : Int) + 1)) + (Nat.min (Int.toNat (List.length (out ++ ([([] : List UInt8)])) : Int) - Int.toNat (j : Int)) (Int.toNat (List.length (out ++ ([([] : List UInt8)])) : Int) - Int.toNat (i64 ((j : Int) + 1))))) (out ++ ([([] : List UInt8)]))) : Int)) (m_ref9_Sort_L14 l (fun x => some x) n (List.set (List.take (Int.toNat (i64 ((j : Int) + 1))) (out ++ ([([] : List UInt8)])) ++ List.take (Nat.min (Int.toNat (List.length (out ++ ([([] : List UInt8)])) : Int) - Int.toNat (j : Int)) (Int.toNat (List.length (out ++ ([([] : List UInt8)])) : Int) - Int.toNat (i64 ((j : Int) + 1)))) (List.drop (Int.toNat (j : Int)) (out ++ ([([] : List UInt8)]))) ++ List.drop (Int.toNat (i64 ((j : Int) + 1)) + (Nat.min (Int.toNat (List.length (out ++ ([([] : List UInt8)])) : Int) - Int.toNat (j : Int)) (Int.toNat (List.length (out ++ ([([] : List UInt8)])) : Int) - Int.toNat (i64 ((j : Int) + 1))))) (out ++ ([([] : List UInt8)]))) (Int.toNat (j : Int)) l[i]) (i64 ((i : Int) + 1))))))) = some s ∧ SLC s ∧ (∀ x, x ∈ s ↔ x ∈ l) := by
   intro hA
   have e2 : i64 ((j : Int) + 1) = ((j + 1 : Nat) : Int) := by rw [i64_id (by omega)]; omega
   obtain ⟨q1, q2⟩ := ins_eq out j j1 ([] : List UInt8) l[i]
   have hlo : (out ++ [([] : List UInt8)]).length = out.length + 1 := by simp
   rw [need_pos (by simp; omega)]
   simp only [e2, Int.toNat_natCast]
   rw [need_pos (by rw [hlo]; omega), need_pos (by rw [hlo]; omega), need_pos (by omega), need_pos (by rw [q1]; omega), q2, i64_succ (by omega)]
   refine ih (i + 1) n _ (by omega) (by omega) ?_ (by simp; omega) (fun x => ?_)
   ·have hsp : SLC (out.take j ++ out.drop j) := by rw [List.take_append_drop]; exact hs
    obtain ⟨p1, p2, p3⟩ := List.pairwise_append.1 hsp
    rw [SLC, List.append_assoc, List.pairwise_append]
    refine ⟨p1, ?_, fun a ha b hb => ?_⟩
    ·simp only [List.singleton_append, List.pairwise_cons]
     refine ⟨fun b hb => ?_, p2⟩
     obtain ⟨q, hq, rfl⟩ := List.getElem_of_mem hb
     rw [List.getElem_drop]
     simp only [List.length_drop] at hq
     have := j3 (j + q) (by omega) (by omega) (by omega)
     rw [cmpC_anti out[j + q] l[i]]; omega
    ·simp only [List.singleton_append, List.mem_cons] at hb
     rcases hb with rfl | hb
     ·exact hA a ha
     ·exact p3 a ha b hb
   ·rw [hmem, ← hm]
    have : x ∈ out ↔ x ∈ out.take j ∨ x ∈ out.drop j := by rw [← List.mem_append, List.take_append_drop]
    rw [this]
    simp only [List.append_assoc, List.mem_append, List.mem_singleton]
    constructor
    ·rintro (h | h | h) <;> simp [h]
    ·rintro ((h | h) | h) <;> simp [h]
  by_cases h0 : 0 < j
  ·have hj1 : j - 1 < out.length := by omega
   have e1 : i64 ((j : Int) - 1) = ((j - 1 : Nat) : Int) := by rw [i64_id (by omega)]; omega
   rw [if_pos (by omega), need_pos (by omega), e1, need_pos (by omega), gi_nat hj1, gi_nat hil]
   by_cases he : out[j - 1] = l[i]
   ·rw [if_pos (decide_eq_true he), i64_succ (by omega)]
    refine ih (i + 1) n out (by omega) (by omega) hs (by omega) (fun x => ?_)
    rw [hmem, ← hm]
    exact ⟨Or.inl, fun h => h.elim id (fun h => by rw [h, ← he]; exact List.getElem_mem _)⟩
   ·rw [if_neg (fun h => he (of_decide_eq_true h))]
    have hlt : cmpC out[j - 1] l[i] < 0 := by
     have h1 := j4 hj1 h0
     have h2 : cmpC out[j - 1] l[i] ≠ 0 := fun h => he (cmpC_eq.1 h)
     omega
    refine go (fun a ha => ?_)
    obtain ⟨q, hq, rfl⟩ := List.getElem_of_mem ha
    simp only [List.length_take] at hq
    rw [List.getElem_take]
    by_cases e : q = j - 1
    ·subst e; exact hlt
    ·exact cmpC_trans (hpw q (j - 1) (by omega) hj1 (by omega)) hlt
  ·rw [if_neg (by omega), if_neg (by simp), gi_nat hil]
   exact go (fun a ha => by rw [show j = 0 by omega] at ha; simp at ha)
theorem rSort (l : List (List UInt8)) (hl : l.length ≤ 10000000) : m_ref9_Sort l = some (sortW l) := by
 have hFU := FU_ge
 unfold m_ref9_Sort
 rw [jn_eq]
 obtain ⟨s, s1, s2, s3⟩ := rSort_loop l hl l.length 0 FU [] (by omega) (by omega) List.Pairwise.nil (by simp) (by simp)
 rw [Int.natCast_zero] at s1
 rw [s1]
 obtain ⟨t1, t2, _⟩ := sortW_spec l
 rw [slc_ext s2 t1 (fun x => by rw [s3, t2])]
end Go.Proofs.YtpfdeahcjlfijaaGreat
/- Making values: program and reference agree. -/
namespace Go.Proofs.YtpfdeahcjlfijaaGreat
attribute [local irreducible] FU

def raw (c : UInt8) (l : List (List UInt8)) : List UInt8 := c :: u8i ((l.length / 256 : Nat) : Int) :: u8i ((l.length : Nat) : Int) :: l.flatten
theorem raw_len (c : UInt8) (l : List (List UInt8)) : (raw c l).length = l.flatten.length + 3 := rfl
theorem raw_count {l : List (List UInt8)} (h : l.length ≤ 65535) : l.length = (u8i ((l.length / 256 : Nat) : Int)).toNat * 256 + (u8i ((l.length : Nat) : Int)).toNat := by
 rw [u8i_nat, u8i_nat]; omega
noncomputable def cmpd (c : UInt8) (l : List (List UInt8)) : List UInt8 := by
 classical exact if l.length ≤ 65535 ∧ (∀ x ∈ l, Vd x) ∧ Vd (raw c l) then raw c l else []
theorem cmpd_yes {c : UInt8} {l : List (List UInt8)} (h : l.length ≤ 65535 ∧ (∀ x ∈ l, Vd x) ∧ Vd (raw c l)) : cmpd c l = raw c l := by unfold cmpd; rw [if_pos h]
theorem cmpd_no {c : UInt8} {l : List (List UInt8)} (h : ¬ (l.length ≤ 65535 ∧ (∀ x ∈ l, Vd x) ∧ Vd (raw c l))) : cmpd c l = [] := by unfold cmpd; rw [if_neg h]
theorem cmpd_ne {c : UInt8} {l : List (List UInt8)} : cmpd c l ≠ [] ↔ (l.length ≤ 65535 ∧ (∀ x ∈ l, Vd x) ∧ Vd (raw c l)) := by
 constructor
 ·intro h
  exact Classical.byContradiction fun hn => h (cmpd_no hn)
 ·intro h; rw [cmpd_yes h]; simp [raw]
theorem prt_raw {c : UInt8} {l : List (List UInt8)} (hc : 3 ≤ c.toNat ∧ c.toNat ≤ 9) (hl : l.length ≤ 65535) (hv : ∀ x ∈ l, Vd x) : prt (raw c l) = l := prt_comp hc (raw_count hl) (fun x h => (hv x h).1.sh) (by omega)
theorem indexFunc_eq (f : List UInt8 → Option Bool) (p : List UInt8 → Bool) (hf : ∀ x, f x = some (p x)) (l : List (List UInt8)) (hl : l.length ≤ 1099511627776) : m_slices_ContainsFunc_L_api_Value_api_Value l f = some (l.any p) := by
 have hFU := FU_ge
 unfold m_slices_ContainsFunc_L_api_Value_api_Value m_slices_IndexFunc_L_api_Value_api_Value
 rw [jn_eq]
 have loop : ∀ (m i n : Nat), i + m = l.length → m < n → ∃ r, m_slices_IndexFunc_L_api_Value_api_Value_L2 l f (fun _ => some (-1)) n i = some r ∧ decide (0 ≤ r) = (l.drop i).any p := by
  intro m
  induction m with
  | zero =>
   intro i n hi hn
   obtain ⟨n, rfl⟩ : ∃ k, n = k + 1 := ⟨n - 1, by omega⟩
   refine ⟨-1, by rw [m_slices_IndexFunc_L_api_Value_api_Value_L2, m_slices_IndexFunc_L_api_Value_api_Value_B2, if_neg (by omega)], ?_⟩
   rw [List.drop_eq_nil_of_le (by omega)]; rfl
  | succ m ih =>
   intro i n hi hn
   obtain ⟨n, rfl⟩ : ∃ k, n = k + 1 := ⟨n - 1, by omega⟩
   have hil : i < l.length := by omega
   rw [m_slices_IndexFunc_L_api_Value_api_Value_L2, m_slices_IndexFunc_L_api_Value_api_Value_B2, if_pos (by omega), need_pos (by omega), gi_nat hil, hf, bnd1_mk, List.drop_eq_getElem_cons hil, List.any_cons]
   cases hp : p l[i] with
   | true => exact ⟨i, rfl, by simp⟩
   | false =>
    rw [if_neg (by simp), i64_succ (by omega)]
    obtain ⟨r, h1, h2⟩ := ih (i + 1) n (by omega) (by omega)
    exact ⟨r, h1, by rw [h2]; simp⟩
 obtain ⟨r, h1, h2⟩ := loop l.length 0 FU (by omega) (by omega)
 rw [Int.natCast_zero] at h1
 rw [h1, bnd1_mk, h2, List.drop_zero]
theorem vChecked (b : List UInt8) : m_value_checked b = some (if vldB b = true then b else []) := by
 unfold m_value_checked
 rw [vValid, bnd1_mk]
 cases vldB b <;> rfl
theorem rChecked (b : List UInt8) : m_ref9_checked b = some (if vldB b = true then b else []) := by
 unfold m_ref9_checked
 rw [rValid, bnd1_mk]
 cases vldB b <;> rfl
theorem vCompound (c : UInt8) (l : List (List UInt8)) (hx : ∀ x ∈ l, x.length ≤ 1099511627776) : m_value_compound (c.toNat : Int) l = some (cmpd c l) := by
 have hFU := FU_ge
 unfold m_value_compound
 by_cases hl : (65535 : Int) < l.length
 ·rw [if_pos hl, cmpd_no (fun h => by have := h.1; omega)]
 ·rw [if_neg hl, u8i_toNat]
  have e16 : IntKind.u16.wrap (l.length : Int) = (l.length : Int) := by
   unfold IntKind.wrap IntKind.bits IntKind.signed
   simp; omega
  have e8 : Int.fdiv (l.length : Int) (2 ^ min (Int.toNat 8) IntKind.u16.bits) = ((l.length / 256 : Nat) : Int) := by
   rw [show (2 : Int) ^ min (Int.toNat 8) IntKind.u16.bits = 256 from rfl, Int.fdiv_eq_ediv_of_nonneg _ (by omega)]; omega
  unfold m_value_append16
  rw [e16, e8, need_pos (by simp), bnd1_mk, jn_eq]
  have loop : ∀ (K : List UInt8 → Option (List UInt8)) (m i n : Nat) (b : List UInt8), i + m = l.length → m < n → b.length ≤ 131072 →
    ((∀ x ∈ l.drop i, x ≠ []) ∧ b.length + (l.drop i).flatten.length ≤ 131072 ∧ m_value_compound_L2 l K n b i = K (b ++ (l.drop i).flatten)) ∨ (¬ ((∀ x ∈ l.drop i, x ≠ []) ∧ b.length + (l.drop i).flatten.length ≤ 131072) ∧ m_value_compound_L2 l K n b i = some []) := by
   intro K m
   induction m with
   | zero =>
    intro i n b hi hn hb
    obtain ⟨n, rfl⟩ : ∃ k, n = k + 1 := ⟨n - 1, by omega⟩
    rw [List.drop_eq_nil_of_le (by omega)]
    refine .inl ⟨by simp, by simpa using hb, ?_⟩
    rw [m_value_compound_L2, m_value_compound_B2, if_neg (by omega)]; simp
   | succ m ih =>
    intro i n b hi hn hb
    obtain ⟨n, rfl⟩ : ∃ k, n = k + 1 := ⟨n - 1, by omega⟩
    have hil : i < l.length := by omega
    have hxi := hx _ (List.getElem_mem hil)
    rw [m_value_compound_L2, m_value_compound_B2, if_pos (by omega), need_pos (by omega)]
    simp only [jn_eq]
    rw [gi_nat hil, List.drop_eq_getElem_cons hil]
    by_cases he : l[i] = []
    ·rw [if_pos he, if_pos trivial]
     exact .inr ⟨fun h => h.1 _ List.mem_cons_self he, rfl⟩
    ·have e1 : i64 ((b.length : Int) + (l[i].length : Int)) = ((b.length + l[i].length : Nat) : Int) := by rw [i64_id (by omega)]; omega
     rw [if_neg he, e1]
     by_cases hs : (131072 : Int) < ((b.length + l[i].length : Nat) : Int)
     ·rw [if_pos (decide_eq_true hs)]
      exact .inr ⟨fun h => by have := h.2; simp only [List.flatten_cons, List.length_append] at this; omega, rfl⟩
     ·rw [if_neg (fun h => hs (of_decide_eq_true h)), need_pos (by omega), i64_succ (by omega)]
      have hlb : (b ++ l[i]).length = b.length + l[i].length := List.length_append
      rcases ih (i + 1) n (b ++ l[i]) (by omega) (by omega) (by omega) with ⟨h1, h2, h3⟩ | ⟨h1, h2⟩
      ·refine .inl ⟨fun x h => ?_, ?_, ?_⟩
       ·rcases List.mem_cons.1 h with rfl | h
        ·exact he
        ·exact h1 x h
       ·rw [hlb] at h2; simp only [List.flatten_cons, List.length_append]; omega
       ·rw [h3, List.append_assoc, List.flatten_cons]
      ·refine .inr ⟨fun h => h1 ⟨fun x hx' => h.1 x (List.mem_cons_of_mem _ hx'), ?_⟩, h2⟩
       have := h.2
       simp only [List.flatten_cons, List.length_append] at this
       rw [hlb]; omega
  have hraw : [c] ++ [u8i ((l.length / 256 : Nat) : Int), u8i ((l.length : Nat) : Int)] ++ l.flatten = raw c l := rfl
  rcases loop _ l.length 0 FU ([c] ++ [u8i ((l.length / 256 : Nat) : Int), u8i ((l.length : Nat) : Int)]) (by omega) (by omega) (by simp) with ⟨h1, h2, h3⟩ | ⟨h1, h2⟩
  ·rw [Int.natCast_zero, List.drop_zero, hraw] at h3
   rw [List.drop_zero] at h1 h2
   rw [h3, indexFunc_eq m_value_compound_1 (fun x => !vldB x) (fun x => by unfold m_value_compound_1; rw [vValid, bnd1_mk]) l (by omega), bnd1_mk]
   cases hall : l.any (fun x => !vldB x) with
   | true =>
    rw [if_neg (by simp), cmpd_no]
    intro h
    obtain ⟨x, hx, hv⟩ := List.any_eq_true.1 hall
    rw [vldB_iff.2 (h.2.1 x hx)] at hv; cases hv
   | false =>
    have hv : ∀ x ∈ l, Vd x := fun x hx => by
     have := List.any_eq_false.1 hall x hx
     simp at this; exact vldB_iff.1 this
    rw [if_pos (show (!false) = true from rfl), vChecked, bnd1_mk]
    by_cases hr : Vd (raw c l)
    ·rw [if_pos (vldB_iff.2 hr), cmpd_yes ⟨by omega, hv, hr⟩]
    ·rw [if_neg (fun h => hr (vldB_iff.1 h)), cmpd_no (fun h => hr h.2.2)]
  ·rw [Int.natCast_zero] at h2
   rw [h2, cmpd_no]
   intro h
   rw [List.drop_zero] at h1
   refine h1 ⟨fun x hx => (h.2.1 x hx).ne, ?_⟩
   have := h.2.2.2
   rw [raw_len] at this
   simp; simp at this; omega
theorem rCompound (c : UInt8) (hc : 3 ≤ c.toNat ∧ c.toNat ≤ 9) (l : List (List UInt8)) (hv : ∀ x ∈ l, Vd x) : m_ref9_compound (c.toNat : Int) l = some (cmpd c l) := by
 have hFU := FU_ge
 unfold m_ref9_compound
 by_cases hl : (65535 : Int) < l.length
 ·rw [if_pos hl, cmpd_no (fun h => by have := h.1; omega)]
 ·rw [if_neg hl, u8i_toNat]
  have e8 : Int.fdiv (l.length : Int) (2 ^ min (Int.toNat 8) IntKind.i64.bits) = ((l.length / 256 : Nat) : Int) := by
   rw [show (2 : Int) ^ min (Int.toNat 8) IntKind.i64.bits = 256 from rfl, Int.fdiv_eq_ediv_of_nonneg _ (by omega)]; omega
  unfold m_ref9_two
  rw [e8, bnd1_mk, need_pos (by simp), jn_eq]
  have hraw : [c] ++ [u8i ((l.length / 256 : Nat) : Int), u8i ((l.length : Nat) : Int)] ++ l.flatten = raw c l := rfl
  -- what is done with the bytes
  have hK : ∀ s : List UInt8, s.length ≤ 1000000 → (131072 < s.length ∨ s = raw c l) → bnd1 (m_ref9_read s 32) (fun y122 => jn (fun (x59_j123 : Bool) => if x59_j123 then (some ([] : List UInt8)) else (bnd1 (m_ref9_checked s) (fun y124 => some y124))) (fun k123 => if ¬ y122.1 = (List.length s : Int) then (k123 true) else (k123 (decide (¬ (List.length y122.2.1 : Int) = (List.length l : Int)))))) = some (if 131072 < s.length then [] else cmpd c l) := by
   intro s hs hcase
   unfold m_ref9_read m_ref9_walk
   have h := rWalk 32 (Nat.le_refl _) FU (by omega) s (by omega)
   rw [show ((32 : Nat) : Int) = 32 from rfl] at h
   simp only [jn_eq, rChecked, bnd1_mk]
   by_cases hlong : 131072 < s.length
   ·rw [if_pos hlong]
    have hno : vldB s = false := vldB_no (fun h => by have := h.2; omega)
    rcases h with ⟨w, r, d, e, hv', h⟩ | ⟨_, h⟩
    ·rw [h, bnd1_mk, bnd1_mk, hno]
     simp only []
     split
     ·rfl
     ·split <;> rfl
    ·rw [h, bnd1_mk, bnd1_mk, hno]
     simp only []
     split
     ·rfl
     ·split <;> rfl
   ·have hs' : s = raw c l := hcase.resolve_left hlong
    rw [if_neg hlong]
    rcases h with ⟨w, r, d, e, hv', h⟩ | ⟨hno, h⟩
    ·rw [h, bnd1_mk, bnd1_mk]
     simp only []
     by_cases hr : r = []
     ·subst hr
      rw [List.append_nil] at e
      subst e
      have hvr : Vd (raw c l) := by rw [← hs']; exact ⟨hv', by omega⟩
      rw [if_neg (fun h => h rfl), hs', prt_raw hc (by omega) hv, if_neg (by simp), if_pos (vldB_iff.2 hvr), cmpd_yes ⟨by omega, hv, hvr⟩]
     ·have hlr : 0 < r.length := List.length_pos_iff.2 hr
      rw [if_pos (by rw [e]; simp; omega), if_pos trivial, cmpd_no]
      intro hh
      have := (hv'.sh.uniq hh.2.2.1.sh r [] (by rw [List.append_nil, ← e, hs'])).2
      exact hr this
    ·rw [h, bnd1_mk, bnd1_mk]
     simp only []
     have h3 : 3 ≤ s.length := by rw [hs', raw_len]; omega
     rw [if_pos (by omega), if_pos trivial, cmpd_no (fun hh => hno s [] (by simp) (by rw [hs']; exact hh.2.2.1))]
  have loop : ∀ (K : List UInt8 → Option (List UInt8)) (m i n : Nat) (b : List UInt8), i + m = l.length → m < n → b.length ≤ 262144 →
    (∃ s, s.length ≤ 262144 ∧ (131072 < s.length ∨ s = b ++ (l.drop i).flatten) ∧ (b.length ≤ s.length) ∧ (131072 < s.length → 131072 < (b ++ (l.drop i).flatten).length) ∧ m_ref9_compound_L2 l K n b i = K s) ∨ (131072 < (b ++ (l.drop i).flatten).length ∧ m_ref9_compound_L2 l K n b i = some []) := by
   intro K m
   induction m with
   | zero =>
    intro i n b hi hn hb
    obtain ⟨n, rfl⟩ : ∃ k, n = k + 1 := ⟨n - 1, by omega⟩
    rw [List.drop_eq_nil_of_le (by omega)]
    refine .inl ⟨b, hb, .inr (by simp), Nat.le_refl _, fun h => by simpa using h, ?_⟩
    rw [m_ref9_compound_L2, m_ref9_compound_B2, if_neg (by omega)]
   | succ m ih =>
    intro i n b hi hn hb
    obtain ⟨n, rfl⟩ : ∃ k, n = k + 1 := ⟨n - 1, by omega⟩
    have hil : i < l.length := by omega
    have hvi := hv _ (List.getElem_mem hil)
    rw [m_ref9_compound_L2, m_ref9_compound_B2, if_pos (by omega)]
    simp only [jn_eq]
    rw [need_pos (by omega), gi_nat hil, List.drop_eq_getElem_cons hil, if_neg hvi.ne]
    by_cases hs : (131072 : Int) < (b.length : Int)
    ·rw [if_pos (decide_eq_true hs)]
     exact .inr ⟨by simp; omega, rfl⟩
    ·have hvl := hvi.2
     rw [if_neg (fun h => hs (of_decide_eq_true h)), need_pos (by omega), need_pos (by omega), i64_succ (by omega)]
     have hlb : (b ++ l[i]).length = b.length + l[i].length := List.length_append
     have hap : (b ++ l[i]) ++ (l.drop (i + 1)).flatten = b ++ (l[i] :: l.drop (i + 1)).flatten := by simp only [List.flatten_cons, List.append_assoc]
     rcases ih (i + 1) n (b ++ l[i]) (by omega) (by omega) (by omega) with ⟨s, h1, h2, h3, h4, h5⟩ | ⟨h1, h2⟩
     ·rw [hap] at h2 h4
      exact .inl ⟨s, h1, h2, by omega, h4, h5⟩
     ·rw [hap] at h1
      exact .inr ⟨h1, h2⟩
  rcases loop _ l.length 0 FU ([c] ++ [u8i ((l.length / 256 : Nat) : Int), u8i ((l.length : Nat) : Int)]) (by omega) (by omega) (by simp) with ⟨s, h1, h2, _, h4, h5⟩ | ⟨h1, h2⟩
  ·rw [Int.natCast_zero] at h5
   rw [List.drop_zero, hraw] at h2 h4
   rw [h5, hK s (by omega) h2]
   split
   ·rename_i hlong
    have := h4 hlong
    rw [cmpd_no (fun h => by have := h.2.2.2; omega)]
   ·rfl
  ·rw [Int.natCast_zero] at h2
   rw [List.drop_zero, hraw] at h1
   rw [h2, cmpd_no (fun h => by have := h.2.2.2; omega)]
theorem rAll (l : List (List UInt8)) (hl : l.length ≤ 1099511627776) : m_ref9_all l = some (l.all vldB) := by
 unfold m_ref9_all
 rw [jn_eq]
 have h := loop_all l (by omega) (fun n (_ : Unit) i => m_ref9_all_L2 l (fun _ => some true) n i) (fun s x k => if !vldB x then some false else k s) (fun _ => some true) (fun n s i hi => by
   show m_ref9_all_L2 l _ (n + 1) i = _
   rw [m_ref9_all_L2, m_ref9_all_B2]
   simp (disch := omega) only [if_pos, need_pos, gi_nat, rValid, bnd1_mk, i64_succ]) (fun n s => by
   show m_ref9_all_L2 l _ (n + 1) _ = _
   rw [m_ref9_all_L2, m_ref9_all_B2, if_neg (by omega)]) ()
 refine h.trans ?_
 rw [foldK_any]
 cases h : l.all vldB with
 | true => rw [if_neg]; simp at h ⊢; exact h
 | false => rw [if_pos]; simp at h ⊢; exact h
theorem rMake (c : UInt8) (hc : 3 ≤ c.toNat ∧ c.toNat ≤ 9) (l : List (List UInt8)) (hl : l.length ≤ 1099511627776) : m_ref9_Make (c.toNat : Int) l = some (cmpd c l) := by
 unfold m_ref9_Make
 rw [rAll l hl, bnd1_mk]
 cases h : l.all vldB with
 | true =>
  simp at h
  rw [if_neg (by simp), rCompound c hc l (fun x hx => vldB_iff.1 (h x hx)), bnd1_mk]
 | false =>
  rw [if_pos (show (!false) = true from rfl), cmpd_no]
  intro hh
  simp at h
  obtain ⟨x, hx, hv⟩ := h
  rw [vldB_iff.2 (hh.2.1 x hx)] at hv; cases hv
noncomputable def setW (l : List (List UInt8)) : List UInt8 := cmpd 5 (sortW l)
theorem vSet (l : List (List UInt8)) (hl : l.length ≤ 10000000) (hx : ∀ x ∈ l, x.length ≤ 1099511627776) : m_value_Set l = some (setW l) := by
 unfold m_value_Set setW
 have := vCompound 5 (sortW l) (fun x h => hx x ((sortW_spec l).2.1 x |>.1 h))
 rw [show ((5 : UInt8).toNat : Int) = 5 from rfl] at this
 rw [vSort l (by omega), bnd1_mk, this, bnd1_mk]
theorem rSet (l : List (List UInt8)) (hl : l.length ≤ 10000000) : m_ref9_Set l = some (setW l) := by
 unfold m_ref9_Set setW
 rw [rAll l (by omega), bnd1_mk]
 have hmem := (sortW_spec l).2.1
 cases h : l.all vldB with
 | true =>
  simp at h
  have := rCompound 5 (by decide) (sortW l) (fun x hx => vldB_iff.1 (h x ((hmem x).1 hx)))
  rw [show ((5 : UInt8).toNat : Int) = 5 from rfl] at this
  rw [if_neg (by simp), rSort l hl, bnd1_mk, this, bnd1_mk]
 | false =>
  rw [if_pos (show (!false) = true from rfl), cmpd_no]
  intro hh
  simp at h
  obtain ⟨x, hx, hv⟩ := h
  rw [vldB_iff.2 (hh.2.1 x ((hmem x).2 hx))] at hv; cases hv
end Go.Proofs.YtpfdeahcjlfijaaGreat
/- Sets of values: elements, merging, bounded results. -/
namespace Go.Proofs.YtpfdeahcjlfijaaGreat
attribute [local irreducible] FU

theorem cmpC_val {a b : List UInt8} (ha : Vd a) (hb : Vd b) : cmpC a b = cmpW a b := by unfold cmpC; rw [if_pos ⟨vldB_iff.2 ha, vldB_iff.2 hb⟩]
theorem ascB_SLC : ∀ {ps : List (List UInt8)}, (∀ p ∈ ps, Vd p) → ascB ps = true → SLC ps
 | [], _, _ => List.Pairwise.nil
 | [x], _, _ => by simp [SLC]
 | x :: y :: t, hv, h => by
  simp only [ascB, Bool.and_eq_true, decide_eq_true_eq] at h
  have ih := ascB_SLC (ps := y :: t) (fun p hp => hv p (List.mem_cons_of_mem _ hp)) h.2
  have hxy : cmpC x y < 0 := by rw [cmpC_val (hv x (by simp)) (hv y (by simp))]; exact h.1
  refine List.pairwise_cons.2 ⟨fun z hz => ?_, ih⟩
  rcases List.mem_cons.1 hz with rfl | hz
  ·exact hxy
  ·exact cmpC_trans hxy ((List.pairwise_cons.1 ih).1 z hz)
theorem flat_mem {ps : List (List UInt8)} {p : List UInt8} (h : p ∈ ps) : p.length ≤ ps.flatten.length := by
 obtain ⟨a, b, rfl⟩ := List.append_of_mem h
 simp; omega
theorem flatV_len {ps : List (List UInt8)} (h : ∀ p ∈ ps, p ≠ []) : ps.length ≤ ps.flatten.length := by
 induction ps with
 | nil => simp
 | cons p ps ih =>
  have := ih (fun q hq => h q (List.mem_cons_of_mem _ hq))
  have := List.length_pos_iff.2 (h p (by simp))
  simp only [List.flatten_cons, List.length_append, List.length_cons]; omega
theorem prtW_spec (v : List UInt8) : (∀ x ∈ prtW v, Vd x) ∧ (prtW v).length ≤ 65535 ∧ (prtW v).flatten.length ≤ v.length ∧ (prtW v).flatten.length ≤ 131072 ∧ (3 ≤ kindW v → kindW v ≤ 9 → formedB (gi v 0) (prtW v) = true ∧ v = raw (gi v 0) (prtW v)) := by
 unfold prtW kindW
 cases h0 : vldB v with
 | false => simp
 | true =>
  obtain ⟨hv, hl⟩ := vldB_iff.1 h0
  simp only [if_true]
  cases hv with
  | int k b h => simp [prt, gi_0]
  | bool k b h => simp [prt, gi_0]
  | name k h l => simp [prt, gi_0]
  | comp k c h l ps hc hn hp hf =>
   rw [prt_comp hc hn (fun p hp' => (hp p hp').sh) (by omega), gi_0]
   simp only [List.length_cons] at hl ⊢
   have hh := UInt8.toNat_lt h
   have hh' := UInt8.toNat_lt l
   refine ⟨fun x hx => ⟨(hp x hx).mono, by have := flat_mem hx; omega⟩, by omega, by omega, by omega, fun _ _ => ⟨hf, ?_⟩⟩
   have e1 : u8i ((ps.length / 256 : Nat) : Int) = h := u8_inj (by rw [u8i_nat]; omega)
   have e2 : u8i ((ps.length : Nat) : Int) = l := u8_inj (by rw [u8i_nat]; omega)
   unfold raw
   rw [e1, e2]
noncomputable def isSet (v : List UInt8) : Bool := decide (kindW v = 5)
theorem kind_gi {v : List UInt8} {c : UInt8} (h : kindW v = (c.toNat : Int)) (hc : c ≠ 0) : gi v 0 = c := by
 unfold kindW at h
 split at h
 ·exact u8_inj (by omega)
 ·exact absurd (u8_inj (a := c) (b := 0) (by rw [show ((0 : UInt8).toNat) = 0 from rfl]; omega)) hc
theorem prtW_SLC {v : List UInt8} (h : isSet v = true) : SLC (prtW v) := by
 have hk : kindW v = 5 := of_decide_eq_true h
 obtain ⟨h1, _, _, _, h3⟩ := prtW_spec v
 have h0 : gi v 0 = 5 := kind_gi (by rw [hk]; rfl) (by decide)
 have := (h3 (by omega) (by omega)).1
 rw [h0] at this
 exact ascB_SLC h1 (by simpa [formedB] using this)
theorem sortW_id {l : List (List UInt8)} (h : SLC l) : sortW l = l := slc_ext (sortW_spec l).1 h (sortW_spec l).2.1
def MS (F : Bool → Bool → Bool) (A B r : List (List UInt8)) : Prop := SLC r ∧ ∀ y, y ∈ r ↔ F (decide (y ∈ A)) (decide (y ∈ B)) = true ∧ (y ∈ A ∨ y ∈ B)
theorem MS.push {F : Bool → Bool → Bool} {x : List UInt8} {A B r : List (List UInt8)} (fa fb : Bool) (hor : (fa || fb) = true) (hxA : ∀ y ∈ A, cmpC x y < 0) (hxB : ∀ y ∈ B, cmpC x y < 0) (h : MS F A B r) :
  MS F ((if fa then [x] else []) ++ A) ((if fb then [x] else []) ++ B) ((if F fa fb then [x] else []) ++ r) := by
 obtain ⟨hr, hm⟩ := h
 have hA : x ∉ A := fun hh => by have := hxA x hh; rw [cmpC_self] at this; omega
 have hB : x ∉ B := fun hh => by have := hxB x hh; rw [cmpC_self] at this; omega
 refine ⟨?_, fun y => ?_⟩
 ·split
  ·refine List.pairwise_cons.2 ⟨fun y hy => ?_, hr⟩
   rcases ((hm y).1 hy).2 with h | h
   ·exact hxA y h
   ·exact hxB y h
  ·exact hr
 ·by_cases hy : y = x
  ·subst hy
   have hnr : y ∉ r := fun hh => by rcases ((hm y).1 hh).2 with h | h; exact hA h; exact hB h
   cases fa <;> cases fb <;> simp_all <;> split <;> simp_all
  ·have e1 : (y ∈ (if fa = true then [x] else []) ++ A) ↔ y ∈ A := by cases fa <;> simp [hy]
   have e2 : (y ∈ (if fb = true then [x] else []) ++ B) ↔ y ∈ B := by cases fb <;> simp [hy]
   have e3 : (y ∈ (if F fa fb = true then [x] else []) ++ r) ↔ y ∈ r := by cases F fa fb <;> simp [hy]
   rw [e3, hm]
   simp only [e1, e2]
theorem nodup_len {α : Type} : ∀ {r l : List α}, r.Nodup → (∀ x ∈ r, x ∈ l) → r.length ≤ l.length
 | [], _, _, _ => by simp
 | x :: r, l, hn, hs => by
  obtain ⟨s, t, rfl⟩ := List.append_of_mem (hs x (by simp))
  obtain ⟨h1, h2⟩ := List.nodup_cons.1 hn
  have := nodup_len (r := r) (l := s ++ t) h2 (fun y hy => by
   have h := hs y (List.mem_cons_of_mem _ hy)
   have hne : y ≠ x := fun e => h1 (e ▸ hy)
   simpa [hne] using h)
  simp only [List.length_append, List.length_cons] at this ⊢
  omega
theorem slc_nodup {r : List (List UInt8)} (h : SLC r) : r.Nodup := h.imp (fun {a b} hab he => by subst he; rw [cmpC_self] at hab; omega)
theorem MS.len {F : Bool → Bool → Bool} {A B r : List (List UInt8)} (h : MS F A B r) : r.length ≤ A.length + B.length := by
 have := nodup_len (l := A ++ B) (slc_nodup h.1) (fun x hx => by rcases ((h.2 x).1 hx).2 with h | h <;> simp [h])
 simpa using this
end Go.Proofs.YtpfdeahcjlfijaaGreat
/- Operations on sets: program and reference agree. -/
namespace Go.Proofs.YtpfdeahcjlfijaaGreat
attribute [local irreducible] FU

end Go.Proofs.YtpfdeahcjlfijaaGreat
/- Operations on sets of sets and maps: program and reference agree. -/
namespace Go.Proofs.YtpfdeahcjlfijaaGreat
attribute [local irreducible] FU

end Go.Proofs.YtpfdeahcjlfijaaGreat
/- Subsets and keys: program and reference agree. -/
namespace Go.Proofs.YtpfdeahcjlfijaaGreat
attribute [local irreducible] FU

theorem u64_nat {n : Nat} (h : n ≤ 4611686018427387904) : IntKind.u64.wrap (n : Int) = (n : Int) := by
 unfold IntKind.wrap IntKind.bits IntKind.signed
 simp; omega
end Go.Proofs.YtpfdeahcjlfijaaGreat
/- Integers as values; sets of them; the check of awake. -/
namespace Go.Proofs.YtpfdeahcjlfijaaGreat
attribute [local irreducible] FU

def byD (w : Nat) : Nat → List UInt8
 | 0 => []
 | k + 1 => u8i ((w / 2 ^ (8 * k) : Nat) : Int) :: byD w k
theorem byD_len (w : Nat) : ∀ k, (byD w k).length = k
 | 0 => rfl
 | k + 1 => by simp [byD, byD_len w k]
theorem beNat_cons (b : UInt8) (l : List UInt8) : beNat (b :: l) = b.toNat * 256 ^ l.length + beNat l := by
 have key : ∀ (l : List UInt8) (a : Nat), l.foldl (fun n b => n * 256 + b.toNat) a = a * 256 ^ l.length + beNat l := by
  intro l
  induction l with
  | nil => intro a; simp [beNat]
  | cons x l ih =>
   intro a
   have e : beNat (x :: l) = x.toNat * 256 ^ l.length + beNat l := by
    have := ih (0 * 256 + x.toNat)
    simpa [beNat] using this
   rw [List.foldl_cons, ih, e, List.length_cons, Nat.pow_succ, Nat.add_mul, Nat.mul_assoc, Nat.mul_comm 256]
   omega
 have := key l b.toNat
 simpa [beNat] using this
theorem pow8 (k : Nat) : 256 ^ k = 2 ^ (8 * k) := by rw [Nat.pow_mul]
theorem beNat_byD (w : Nat) : ∀ k, beNat (byD w k) = w % 2 ^ (8 * k)
 | 0 => by simp [byD, beNat, Nat.mod_one]
 | k + 1 => by
  rw [byD, beNat_cons, byD_len, u8i_nat, beNat_byD w k, pow8, show 8 * (k + 1) = 8 * k + 8 by omega, Nat.pow_add, Nat.mod_mul, Nat.mul_comm, Nat.add_comm, Nat.mul_comm]
def wOf (n : Int) : Nat := (n % 18446744073709551616).toNat
theorem u64_mod (x : Int) : IntKind.u64.wrap x = (wOf x : Int) := by rw [wrap_u64]; unfold wOf; omega
theorem fdiv_pow (w k : Nat) (hk : 8 * k ≤ 64) : Int.fdiv (w : Int) (2 ^ min (Int.toNat ((8 * k : Nat) : Int)) IntKind.u64.bits) = ((w / 2 ^ (8 * k) : Nat) : Int) := by
 rw [Int.toNat_natCast, show IntKind.u64.bits = 64 from rfl, Nat.min_eq_left hk]
 have : (2 : Int) ^ (8 * k) = ((2 ^ (8 * k) : Nat) : Int) := by simp
 rw [this, Int.fdiv_eq_ediv_of_nonneg _ (Int.natCast_nonneg _)]
 rfl
noncomputable def intW (n : Int) : List UInt8 := 1 :: byD (wOf n) 8
theorem vAppend64 (w : Nat) (K : List UInt8 → Option (List UInt8)) : ∀ (k n : Nat) (out : List UInt8), k ≤ 8 → k < n → out.length + k ≤ 100 → m_value_append64_L2 w K n out (8 * (k : Int) - 8) = K (out ++ byD w k) := by
 intro k
 induction k with
 | zero =>
  intro n out hk hn ho
  obtain ⟨n, rfl⟩ : ∃ q, n = q + 1 := ⟨n - 1, by omega⟩
  rw [m_value_append64_L2, m_value_append64_B2, if_neg (by omega)]
  simp [byD]
 | succ k ih =>
  intro n out hk hn ho
  obtain ⟨n, rfl⟩ : ∃ q, n = q + 1 := ⟨n - 1, by omega⟩
  have e : 8 * ((k + 1 : Nat) : Int) - 8 = ((8 * k : Nat) : Int) := by omega
  have e2 : i64 (((8 * k : Nat) : Int) - 8) = 8 * (k : Int) - 8 := by rw [i64_id (by omega)]; omega
  rw [e, m_value_append64_L2, m_value_append64_B2, if_pos (by omega), need_pos (by omega), fdiv_pow w k (by omega), need_pos (by simp; omega), e2, ih n _ (by omega) (by omega) (by simp; omega)]
  simp [byD]
theorem vInt (n : Int) : m_value_Int n = some (intW n) := by
 have hFU := FU_ge
 unfold m_value_Int m_value_append64
 have h := vAppend64 (wOf n) (fun x => some x) 8 FU [1] (by omega) (by omega) (by simp)
 rw [show 8 * ((8 : Nat) : Int) - 8 = 56 from rfl] at h
 rw [u64_mod, jn_eq]
 rw [h, bnd1_mk]; rfl
theorem set_byD (w k : Nat) (hk : k < 8) : List.set (List.replicate (8 - k) (0 : UInt8) ++ byD w k) (7 - k) (u8i ((w / 2 ^ (8 * k) : Nat) : Int)) = List.replicate (8 - (k + 1)) (0 : UInt8) ++ byD w (k + 1) := by
 rw [show 8 - k = (8 - (k + 1)) + 1 by omega, List.replicate_succ', List.append_assoc, List.set_append_right _ _ (by simp)]
 have : 7 - k - (List.replicate (8 - (k + 1)) (0 : UInt8)).length = 0 := by simp
 rw [this]; rfl
theorem rEight_loop (n0 : Int) (K : List UInt8 → Option (List UInt8)) : ∀ (m k n : Nat), k + m = 8 → m < n → m_ref9_eight_L2 n0 K n (List.replicate (8 - k) (0 : UInt8) ++ byD (wOf n0) k) k = K (byD (wOf n0) 8) := by
 intro m
 induction m with
 | zero =>
  intro k n hk hn
  obtain ⟨n, rfl⟩ : ∃ q, n = q + 1 := ⟨n - 1, by omega⟩
  obtain rfl : k = 8 := by omega
  rw [m_ref9_eight_L2, m_ref9_eight_B2, if_neg (by omega)]
  simp
 | succ m ih =>
  intro k n hk hn
  obtain ⟨n, rfl⟩ : ∃ q, n = q + 1 := ⟨n - 1, by omega⟩
  have e1 : i64 (8 * (k : Int)) = ((8 * k : Nat) : Int) := by rw [i64_id (by omega)]; omega
  have e2 : i64 (7 - (k : Int)) = ((7 - k : Nat) : Int) := by rw [i64_id (by omega)]; omega
  rw [m_ref9_eight_L2, m_ref9_eight_B2, if_pos (by omega), e1, u64_nat (by omega), need_pos (by omega), e2, need_pos (by simp [byD_len]; omega), Int.toNat_natCast (7 - k), u64_mod, fdiv_pow _ k (by omega), i64_succ (by omega)]
  rw [set_byD (wOf n0) k (by omega)]
  exact ih (k + 1) n (by omega) (by omega)
theorem rInt (n : Int) : m_ref9_Int n = some (intW n) := by
 have hFU := FU_ge
 unfold m_ref9_Int m_ref9_eight
 have h := rEight_loop n (fun x => some x) 8 0 FU (by omega) (by omega)
 rw [Int.natCast_zero] at h
 rw [need_pos (by omega), jn_eq]
 rw [show List.replicate (Int.toNat 8) (0 : UInt8) = List.replicate (8 - 0) (0 : UInt8) ++ byD (wOf n) 0 from rfl, h, bnd1_mk, need_pos (by simp [byD_len])]
 rfl
theorem intW_IsV (n : Int) (k : Nat) : IsV (k + 1) (intW n) := .int k _ (byD_len _ 8)
theorem intW_len (n : Int) : (intW n).length = 9 := by simp [intW, byD_len]
theorem numV_intW {n : Int} (h : -9223372036854775808 ≤ n ∧ n ≤ 9223372036854775807) : numV (intW n) = n := by
 unfold numV intW
 rw [List.drop_succ_cons, List.drop_zero, beNat_byD]
 have e : wOf n % 2 ^ (8 * 8) = wOf n := Nat.mod_eq_of_lt (by unfold wOf; omega)
 rw [e]
 unfold wOf i64
 rw [show (((n % 18446744073709551616).toNat : Nat) : Int) = n % 18446744073709551616 by omega]
 unfold IntKind.wrap IntKind.bits IntKind.signed
 simp; split <;> omega
theorem flat_le {l : List (List UInt8)} {c : Nat} (h : ∀ x ∈ l, x.length ≤ c) : l.flatten.length ≤ c * l.length := by
 induction l with
 | nil => simp
 | cons x l ih =>
  have h1 := h x (by simp)
  have h2 := ih (fun y hy => h y (by simp [hy]))
  simp only [List.flatten_cons, List.length_append, List.length_cons, Nat.mul_add, Nat.mul_one]
  omega
theorem SLC_ascB : ∀ {ps : List (List UInt8)}, (∀ p ∈ ps, Vd p) → SLC ps → ascB ps = true
 | [], _, _ => rfl
 | [_], _, _ => rfl
 | x :: y :: t, hv, h => by
  obtain ⟨h1, h2⟩ := List.pairwise_cons.1 h
  have := h1 y (by simp)
  rw [cmpC_val (hv x (by simp)) (hv y (by simp))] at this
  rw [ascB, SLC_ascB (fun p hp => hv p (by simp [hp])) h2, decide_eq_true this]; rfl
end Go.Proofs.YtpfdeahcjlfijaaGreat
/- The generator of values always returns. -/
namespace Go.Proofs.YtpfdeahcjlfijaaGreat
attribute [local irreducible] FU

def GS (l : List Int) (i : Int) : Prop := 0 ≤ i ∧ i ≤ l.length ∧ l.length ≤ 9223372036854775807
theorem gNext {l : List Int} {i : Int} (h : GS l i) {n : Int} (h0 : 0 < n) (h1 : n ≤ 1000000) : ∃ y i', m_gen_Choices_Next (l, i) n = some (y, (l, i')) ∧ GS l i' ∧ 0 ≤ y ∧ y < n := by
 obtain ⟨g1, g2, g3⟩ := h
 unfold m_gen_Choices_Next
 simp only []
 by_cases hc : (List.length l : Int) ≤ i
 ·rw [if_pos hc]; exact ⟨0, i, rfl, ⟨g1, g2, g3⟩, by omega, h0⟩
 ·have e : i64 (i64 (i + 1) - 1) = i := by rw [i64_id (x := i + 1) (by omega), i64_id (by omega)]; omega
  have en : IntKind.u64.wrap n = n := by rw [wrap_u64]; omega
  unfold m_help_Mod
  rw [if_neg hc, e, need_pos (by omega), en, need_pos (by omega), bnd1_mk, i64_id (x := i + 1) (by omega)]
  have ha := wrap_u64 (gi l i)
  have h3 : 0 ≤ Int.tmod (IntKind.u64.wrap (gi l i)) n := Int.tmod_nonneg _ (by omega)
  have h4 : Int.tmod (IntKind.u64.wrap (gi l i)) n < n := Int.tmod_lt_of_pos _ h0
  exact ⟨_, _, rfl, ⟨by omega, by omega, g3⟩, by rw [i64_id (by omega)]; exact h3, by rw [i64_id (by omega)]; exact h4⟩
theorem gNumber {l : List Int} {i : Int} (h : GS l i) : ∃ v i', m_gen_Choices_Number (l, i) = some (v, (l, i')) ∧ GS l i' := by
 unfold m_gen_Choices_Number
 obtain ⟨y, i1, e1, g1, y0, y1⟩ := gNext h (n := 9) (by omega) (by omega)
 obtain ⟨a, ia, ea, ga, _⟩ := gNext g1 (n := 2) (by omega) (by omega)
 obtain ⟨b, ib, eb, gb, _⟩ := gNext g1 (n := 7) (by omega) (by omega)
 simp only [e1, bnd1_mk, ea, eb]
 split
 ·exact ⟨_, _, rfl, g1⟩
 ·split
  ·exact ⟨_, _, rfl, ga⟩
  ·split
   ·exact ⟨_, _, rfl, ga⟩
   ·exact ⟨_, _, rfl, gb⟩
end Go.Proofs.YtpfdeahcjlfijaaGreat
/- The generator makes valid values. -/
namespace Go.Proofs.YtpfdeahcjlfijaaGreat
attribute [local irreducible] FU

theorem comp_ok {c : UInt8} (hc : 3 ≤ c.toNat ∧ c.toNat ≤ 9) {l : List (List UInt8)} {k : Nat} (hk : k ≤ 31) (hv : ∀ x ∈ l, IsV k x) (hn : l.length ≤ 65535) (hl : l.flatten.length ≤ 131069) (hf : formedB c l = true) :
  cmpd c l = raw c l ∧ IsV (k + 1) (raw c l) ∧ prtW (raw c l) = l ∧ kindW (raw c l) = (c.toNat : Int) ∧ Vd (raw c l) := by
 have hV : ∀ x ∈ l, Vd x := fun x hx => ⟨(hv x hx).le (by omega), by have := flat_mem hx; omega⟩
 have hI : IsV (k + 1) (raw c l) := .comp k c _ _ l hc (raw_count hn) hv hf
 have hVr : Vd (raw c l) := ⟨hI.le (by omega), by rw [raw_len]; omega⟩
 refine ⟨cmpd_yes ⟨hn, hV, hVr⟩, hI, ?_, ?_, hVr⟩
 ·unfold prtW; rw [if_pos (vldB_iff.2 hVr)]; exact prt_raw hc hn hV
 ·unfold kindW; rw [if_pos (vldB_iff.2 hVr)]; rfl
theorem gi2_00 {α : Type} [Inhabited α] (x : α) (l : List α) : gi (x :: l) 0 = x := rfl
theorem nameBytes {k : Int} (h0 : 0 ≤ k) (h1 : k ≤ 65535) : (u8i (k / 256)).toNat * 256 + (u8i k).toNat = k.toNat := by
 obtain ⟨n, rfl⟩ : ∃ n : Nat, k = n := ⟨k.toNat, by omega⟩
 rw [show ((n : Int) / 256) = ((n / 256 : Nat) : Int) by omega, u8i_nat, u8i_nat]; omega
def nameW (k : Int) : List UInt8 := [10, u8i (k / 256), u8i k]
theorem nameW_IsV (k : Int) (j : Nat) : IsV (j + 1) (nameW k) := .name j _ _
theorem rNameW {k : Int} (h0 : 0 ≤ k) (h1 : k ≤ 65535) : m_ref9_Name k = some (nameW k) := by
 unfold m_ref9_Name
 simp only [jn_eq]
 unfold m_ref9_two
 rw [if_neg (by omega), if_neg (by simp; omega), bnd1_mk, need_pos (by simp), show (2 : Int) ^ min (Int.toNat 8) IntKind.i64.bits = 256 from rfl, Int.fdiv_eq_ediv_of_nonneg _ (by omega)]; rfl
theorem rBoolW (b : Bool) : ∃ v, m_ref9_Bool b = some v ∧ ∀ k, IsV (k + 1) v ∧ v.length = 2 := by
 unfold m_ref9_Bool
 cases b
 ·exact ⟨_, rfl, fun k => ⟨.bool k 0 (by decide), rfl⟩⟩
 ·exact ⟨_, rfl, fun k => ⟨.bool k 1 (by decide), rfl⟩⟩
theorem rDotW {k : Int} (h0 : 0 ≤ k) (h1 : k ≤ 65535) (l : List (List UInt8)) (hl : l.length ≤ 1000) : m_ref9_Dot k l = some (cmpd 7 (nameW k :: l)) := by
 unfold m_ref9_Dot
 have := rMake 7 (by decide) ([nameW k] ++ l) (by simp; omega)
 rw [show ((7 : UInt8).toNat : Int) = 7 from rfl] at this
 rw [rNameW h0 h1, bnd1_mk, need_pos (by simp; omega), this, bnd1_mk]; rfl
theorem rNumberedW (c : UInt8) (hc : 3 ≤ c.toNat ∧ c.toNat ≤ 9) (k : Int) (l : List (List UInt8)) (hl : l.length ≤ 1000) : m_ref9_Numbered (c.toNat : Int) k l = some (cmpd c (intW k :: l)) := by
 unfold m_ref9_Numbered
 rw [rInt, bnd1_mk, need_pos (by simp; omega), rMake c hc _ (by simp; omega), bnd1_mk]; rfl

noncomputable def mapW (a b : List (List UInt8)) : List (List UInt8) := (sortW a).flatMap (fun k => (a.zip b).flatMap (fun p => if p.1 = k then [k, p.2] else []))
def zipP : List (List UInt8) → List (List UInt8) → List (List UInt8)
 | x :: xs, y :: ys => x :: y :: zipP xs ys
 | _, _ => []
theorem zip_none {k : List UInt8} : ∀ (a b : List (List UInt8)), k ∉ a → (a.zip b).flatMap (fun p => if p.1 = k then [k, p.2] else []) = []
 | [], _, _ => rfl
 | _ :: _, [], _ => rfl
 | x :: xs, y :: ys, h => by
  simp only [List.mem_cons, not_or] at h
  rw [List.zip_cons_cons, List.flatMap_cons, zip_none xs ys h.2]
  simp only []
  rw [if_neg (fun e => h.1 e.symm)]; rfl
theorem flatMap_congr' {α β : Type} {f g : α → List β} : ∀ {l : List α}, (∀ x ∈ l, f x = g x) → l.flatMap f = l.flatMap g
 | [], _ => rfl
 | x :: xs, h => by rw [List.flatMap_cons, List.flatMap_cons, h x (by simp), flatMap_congr' (fun y hy => h y (by simp [hy]))]
theorem zip_all : ∀ (a b : List (List UInt8)), a.Nodup → a.flatMap (fun k => (a.zip b).flatMap (fun p => if p.1 = k then [k, p.2] else [])) = zipP a b
 | [], _, _ => rfl
 | x :: xs, [], _ => by simp [zipP]
 | x :: xs, y :: ys, h => by
  obtain ⟨h1, h2⟩ := List.nodup_cons.1 h
  rw [zipP, List.flatMap_cons, ← zip_all xs ys h2, List.zip_cons_cons, List.flatMap_cons, zip_none xs ys h1]
  simp only [if_true, List.append_nil, List.cons_append, List.nil_append]
  congr 2
  refine flatMap_congr' (fun k hk => ?_)
  rw [List.flatMap_cons, if_neg (fun e => h1 (by rw [show x = k from e]; exact hk)), List.nil_append]
theorem mapW_sorted {a b : List (List UInt8)} (h : SLC a) : mapW a b = zipP a b := by
 unfold mapW; rw [sortW_id h]; exact zip_all a b (slc_nodup h)
theorem zipP_len : ∀ (a b : List (List UInt8)), a.length = b.length → (zipP a b).length = 2 * a.length
 | [], _, _ => by simp [zipP]
 | x :: xs, [], h => by simp at h
 | x :: xs, y :: ys, h => by simp only [zipP, List.length_cons]; rw [zipP_len xs ys (by simpa using h)]; omega
theorem zipP_evens : ∀ (a b : List (List UInt8)), a.length = b.length → evens (zipP a b) = a
 | [], _, _ => by simp [zipP, evens]
 | x :: xs, [], h => by simp at h
 | x :: xs, y :: ys, h => by simp only [zipP, evens]; rw [zipP_evens xs ys (by simpa using h)]
theorem zipP_mem {z : List UInt8} : ∀ {a b : List (List UInt8)}, z ∈ zipP a b → z ∈ a ∨ z ∈ b
 | [], _, h => by simp [zipP] at h
 | x :: xs, [], h => by simp [zipP] at h
 | x :: xs, y :: ys, h => by
  simp only [zipP, List.mem_cons] at h
  rcases h with h | h | h
  ·exact .inl (by simp [h])
  ·exact .inr (by simp [h])
  ·rcases zipP_mem h with h | h
   ·exact .inl (by simp [h])
   ·exact .inr (by simp [h])
theorem rMap_in2 (a b y : List (List UInt8)) (hab : a.length = b.length) (ha : a.length ≤ 10000000) (q : Nat) (hq : q < y.length) (K : List (List UInt8) → Option (List UInt8)) : ∀ (m i n : Nat) (out : List (List UInt8)), i + m = a.length → m < n → out.length + 2 * m ≤ 100000000000 →
  m_ref9_Map_L14 a b y q K n out i = K (out ++ ((a.zip b).drop i).flatMap (fun p => if p.1 = y[q] then [y[q], p.2] else [])) := by
 intro m
 induction m with
 | zero =>
  intro i n out hi hn ho
  obtain ⟨n, rfl⟩ : ∃ q, n = q + 1 := ⟨n - 1, by omega⟩
  rw [m_ref9_Map_L14, m_ref9_Map_B14, if_neg (by omega), List.drop_eq_nil_of_le (by simp; omega)]; simp
 | succ m ih =>
  intro i n out hi hn ho
  obtain ⟨n, rfl⟩ : ∃ q, n = q + 1 := ⟨n - 1, by omega⟩
  have h1 : i < a.length := by omega
  have h2 : i < b.length := by omega
  have h3 : i < (a.zip b).length := by simp; omega
  rw [m_ref9_Map_L14, m_ref9_Map_B14, if_pos (by omega)]
  simp only [jn_eq]
  rw [need_pos (by omega), need_pos (by omega), need_pos (by omega), need_pos (by omega), need_pos (by simp; omega), gi_nat h1, gi_nat h2, gi_nat hq, i64_succ (by omega), List.drop_eq_getElem_cons h3, List.flatMap_cons, List.getElem_zip]
  by_cases he : a[i] = y[q]
  ·simp only [he, if_true]
   rw [ih (i + 1) n (out ++ [y[q], b[i]]) (by omega) (by omega) (by simp; omega), List.append_assoc]
  ·simp only [he, if_false]
   rw [ih (i + 1) n out (by omega) (by omega) (by omega), List.nil_append]
theorem rMap_len (a b : List (List UInt8)) (hab : a.length = b.length) (k : List UInt8) : ((a.zip b).flatMap (fun p => if p.1 = k then [k, p.2] else [])).length ≤ 2 * a.length := by
 have key : ∀ (l : List (List UInt8 × List UInt8)), (l.flatMap (fun p => if p.1 = k then [k, p.2] else [])).length ≤ 2 * l.length := by
  intro l
  induction l with
  | nil => simp
  | cons p l ih =>
   simp only [List.flatMap_cons, List.length_append, List.length_cons]
   split
   ·simp only [List.length_cons, List.length_nil]; omega
   ·simp only [List.length_nil]; omega
 have := key (a.zip b)
 simp at this ⊢; omega
theorem rMap_out2 (a b y : List (List UInt8)) (hab : a.length = b.length) (ha : a.length ≤ 200000) (hy : y.length ≤ 200000) (K : List (List UInt8) → Option (List UInt8)) : ∀ (m i n : Nat) (out : List (List UInt8)), i + m = y.length → m < n → out.length + 400000 * m ≤ 90000000000 →
  m_ref9_Map_L8 a b y K n out i = K (out ++ (y.drop i).flatMap (fun k => (a.zip b).flatMap (fun p => if p.1 = k then [k, p.2] else []))) := by
 have hFU := FU_ge
 intro m
 induction m with
 | zero =>
  intro i n out hi hn ho
  obtain ⟨n, rfl⟩ : ∃ q, n = q + 1 := ⟨n - 1, by omega⟩
  rw [m_ref9_Map_L8, m_ref9_Map_B8, if_neg (by omega), List.drop_eq_nil_of_le (by omega)]; simp
 | succ m ih =>
  intro i n out hi hn ho
  obtain ⟨n, rfl⟩ : ∃ q, n = q + 1 := ⟨n - 1, by omega⟩
  have h3 : i < y.length := by omega
  rw [m_ref9_Map_L8, m_ref9_Map_B8, if_pos (by omega)]
  simp only [jn_eq]
  have g1 := rMap_in2 a b y hab (by omega) i h3 (fun x6_j420 => m_ref9_Map_L8 a b y K n x6_j420 (i64 ((i : Int) + 1))) a.length 0 FU out (by omega) (by omega) (by omega)
  have hlen := rMap_len a b hab y[i]
  rw [Int.natCast_zero, List.drop_zero] at g1
  rw [g1, i64_succ (by omega), ih (i + 1) n _ (by omega) (by omega) (by rw [List.length_append]; omega), List.drop_eq_getElem_cons h3, List.flatMap_cons, List.append_assoc]
noncomputable def mpW (a b : List (List UInt8)) : List UInt8 := by
 classical exact if a.length = b.length ∧ (∀ x ∈ a, Vd x) ∧ (∀ x ∈ b, Vd x) ∧ (sortW a).length = a.length then cmpd 6 (mapW a b) else []
theorem mpW_yes {a b : List (List UInt8)} (h : a.length = b.length ∧ (∀ x ∈ a, Vd x) ∧ (∀ x ∈ b, Vd x) ∧ (sortW a).length = a.length) : mpW a b = cmpd 6 (mapW a b) := by unfold mpW; rw [if_pos h]
theorem mpW_no {a b : List (List UInt8)} (h : ¬ (a.length = b.length ∧ (∀ x ∈ a, Vd x) ∧ (∀ x ∈ b, Vd x) ∧ (sortW a).length = a.length)) : mpW a b = [] := by unfold mpW; rw [if_neg h]
theorem mapW_mem {a b : List (List UInt8)} {z : List UInt8} (h : z ∈ mapW a b) : z ∈ a ∨ z ∈ b := by
 unfold mapW at h
 obtain ⟨k, hk, h⟩ := List.mem_flatMap.1 h
 obtain ⟨p, hp, h⟩ := List.mem_flatMap.1 h
 obtain ⟨p1, p2⟩ := p
 split at h
 ·simp only [List.mem_cons, List.not_mem_nil, or_false] at h
  rcases h with h | h
  ·exact .inl (by rw [h]; exact ((sortW_spec a).2.1 k).1 hk)
  ·exact .inr (by rw [h]; exact (List.of_mem_zip hp).2)
 ·simp at h
theorem rMapW (a b : List (List UInt8)) (ha : a.length ≤ 200000) (hb : b.length ≤ 1000000000) : m_ref9_Map a b = some (mpW a b) := by
 have hFU := FU_ge
 unfold m_ref9_Map
 simp only [jn_eq]
 by_cases hl : a.length = b.length
 ·rw [if_neg (fun h => h (by omega)), rAll a (by omega), bnd1_mk, rAll b (by omega)]
  simp only [bnd1_mk, rSort a (show a.length ≤ 10000000 by omega)]
  cases h1 : a.all vldB with
  | false =>
   rw [mpW_no (by
    rintro ⟨_, h, _⟩
    have : a.all vldB = true := List.all_eq_true.2 (fun x hx => vldB_iff.2 (h x hx))
    rw [h1] at this; cases this)]
   simp
  | true =>
   rw [if_neg (by simp)]
   have hA : ∀ x ∈ a, Vd x := fun x hx => vldB_iff.1 (List.all_eq_true.1 h1 x hx)
   cases h2 : b.all vldB with
   | false =>
    rw [mpW_no (by
     rintro ⟨_, _, h, _⟩
     have : b.all vldB = true := List.all_eq_true.2 (fun x hx => vldB_iff.2 (h x hx))
     rw [h2] at this; cases this)]
    simp
   | true =>
    have hB : ∀ x ∈ b, Vd x := fun x hx => vldB_iff.1 (List.all_eq_true.1 h2 x hx)
    rw [if_neg (by simp)]
    have hlen := (sortW_spec a).2.2
    by_cases hs : (sortW a).length = a.length
    ·rw [if_neg (fun h => h (by omega)), mpW_yes ⟨hl, hA, hB, hs⟩]
     have g1 := rMap_out2 a b (sortW a) hl ha (by omega) (fun x6_j13 => bnd1 (m_ref9_compound 6 x6_j13) (fun y500 => some y500)) (sortW a).length 0 FU [] (by omega) (by omega) (by simp; omega)
     rw [Int.natCast_zero, List.drop_zero, List.nil_append] at g1
     have := rCompound 6 (by decide) (mapW a b) (fun x hx => (mapW_mem hx).elim (hA x) (hB x))
     rw [show ((6 : UInt8).toNat : Int) = 6 from rfl] at this
     unfold mapW at this
     rw [g1, this, bnd1_mk]
     rfl
    ·rw [if_pos (fun h => hs (by omega)), mpW_no (fun h => hs h.2.2.2)]
 ·rw [if_pos (fun h => hl (by omega)), if_pos trivial, mpW_no (fun h => hl h.1)]

def PV (k c : Nat) (v : List UInt8) : Prop := IsV k v ∧ v.length ≤ c
theorem PV.le {k c k' c' : Nat} {v : List UInt8} (h : PV k c v) (hk : k ≤ k') (hc : c ≤ c') : PV k' c' v := ⟨h.1.le hk, Nat.le_trans h.2 hc⟩
theorem PV_all {k c : Nat} {l : List (List UInt8)} (h : ∀ x ∈ l, PV k c x) : (∀ x ∈ l, IsV k x) ∧ l.flatten.length ≤ c * l.length := ⟨fun x hx => (h x hx).1, flat_le (fun x hx => (h x hx).2)⟩
def GVP (P : List UInt8 → Prop) (f : List Int × Int → Option (List UInt8 × (List Int × Int))) : Prop := ∀ (l : List Int) (i : Int), GS l i → ∃ v i', f (l, i) = some (v, (l, i')) ∧ GS l i' ∧ P v
theorem gValuesP_loop (self : List Int × Int → Int → Option (List UInt8 × (List Int × Int))) (d : Int) (P : List UInt8 → Prop) (hs : GVP P (fun s => self s d)) (K : List Int → Int → List (List UInt8) → Option (List (List UInt8) × (List Int × Int))) : ∀ (m n : Nat) (l : List Int) (i : Int) (out : List (List UInt8)), m < n → GS l i → out.length + m ≤ 1000 → (∀ x ∈ out, P x) →
  ∃ i' out', m_gen_Choices_Values_L2 self d K n l i out m = K l i' out' ∧ GS l i' ∧ out'.length = out.length + m ∧ ∀ x ∈ out', P x := by
 intro m
 induction m with
 | zero =>
  intro n l i out hn hg ho hx
  obtain ⟨n, rfl⟩ : ∃ q, n = q + 1 := ⟨n - 1, by omega⟩
  exact ⟨i, out, by rw [m_gen_Choices_Values_L2, m_gen_Choices_Values_B2, if_neg (by omega)], hg, rfl, hx⟩
 | succ m ih =>
  intro n l i out hn hg ho hx
  obtain ⟨n, rfl⟩ : ∃ q, n = q + 1 := ⟨n - 1, by omega⟩
  obtain ⟨v, i1, e1, g1, p1⟩ := hs l i hg
  have e2 : i64 (((m + 1 : Nat) : Int) - 1) = (m : Int) := by rw [i64_id (by omega)]; omega
  obtain ⟨i', out', h1, h2, h3, h4⟩ := ih n l i1 (out ++ [v]) (by omega) g1 (by simp; omega) (fun x h => by
   rcases List.mem_append.1 h with h | h
   ·exact hx x h
   ·rw [List.mem_singleton.1 h]; exact p1)
  refine ⟨i', out', ?_, h2, by rw [h3]; simp; omega, h4⟩
  simp only [] at e1
  rw [m_gen_Choices_Values_L2, m_gen_Choices_Values_B2, if_pos (by omega), e1, bnd1_mk]
  simp only []
  rw [need_pos (by simp; omega), e2, h1]
theorem gValuesP (self : List Int × Int → Int → Option (List UInt8 × (List Int × Int))) (d : Int) (P : List UInt8 → Prop) (hs : GVP P (fun s => self s d)) {l : List Int} {i : Int} (h : GS l i) {most : Int} (h0 : 0 < most) (h1 : most ≤ 100) :
  ∃ L i', m_gen_Choices_Values self (l, i) d most = some (L, (l, i')) ∧ GS l i' ∧ (L.length : Int) < most ∧ ∀ x ∈ L, P x := by
 have hFU := FU_ge
 unfold m_gen_Choices_Values
 rw [jn_eq]
 obtain ⟨y, i1, e1, g1, y0, y1⟩ := gNext h (n := most) (by omega) (by omega)
 obtain ⟨m, rfl⟩ : ∃ m : Nat, y = m := ⟨y.toNat, by omega⟩
 obtain ⟨i', L, h1, h2, h3, h4⟩ := gValuesP_loop self d P hs (fun x0_0_j1 x0_1_j1 x3_j1 => some (x3_j1, (x0_0_j1, x0_1_j1))) m FU l i1 [] (by omega) g1 (by simp; omega) (by simp)
 simp only []
 rw [e1, bnd1_mk]
 simp only []
 rw [h1]
 exact ⟨L, i', rfl, h2, by simp at h3; omega, h4⟩
theorem gValP_loop (self : List Int × Int → Int → Option (List UInt8 × (List Int × Int))) (d : Int) (P : List UInt8 → Prop) (hs : GVP P (fun s => self s (i64 (d - 1)))) (y : List (List UInt8)) (hy : y.length ≤ 1000) (K : List Int → Int → List (List UInt8) → Option (List UInt8 × (List Int × Int))) : ∀ (m q n : Nat) (l : List Int) (i : Int) (out : List (List UInt8)), q + m = y.length → m < n → GS l i → out.length + m ≤ 1000 → (∀ x ∈ out, P x) →
  ∃ i' out', m_gen_Choices_Value_L4 self d y K n l i out q = K l i' out' ∧ GS l i' ∧ out'.length = out.length + m ∧ ∀ x ∈ out', P x := by
 intro m
 induction m with
 | zero =>
  intro q n l i out hq hn hg ho hx
  obtain ⟨n, rfl⟩ : ∃ q, n = q + 1 := ⟨n - 1, by omega⟩
  exact ⟨i, out, by rw [m_gen_Choices_Value_L4, m_gen_Choices_Value_B4, if_neg (by omega)], hg, rfl, hx⟩
 | succ m ih =>
  intro q n l i out hq hn hg ho hx
  obtain ⟨n, rfl⟩ : ∃ q, n = q + 1 := ⟨n - 1, by omega⟩
  obtain ⟨v, i1, e1, g1, p1⟩ := hs l i hg
  obtain ⟨i', out', h1, h2, h3, h4⟩ := ih (q + 1) n l i1 (out ++ [v]) (by omega) (by omega) g1 (by simp; omega) (fun x h => by
   rcases List.mem_append.1 h with h | h
   ·exact hx x h
   ·rw [List.mem_singleton.1 h]; exact p1)
  refine ⟨i', out', ?_, h2, by rw [h3]; simp; omega, h4⟩
  simp only [] at e1
  rw [m_gen_Choices_Value_L4, m_gen_Choices_Value_B4, if_pos (by omega), e1, bnd1_mk]
  simp only []
  rw [need_pos (by simp; omega), i64_succ (by omega), h1]
theorem comp_PV {c : UInt8} (hc : 3 ≤ c.toNat ∧ c.toNat ≤ 9) {l : List (List UInt8)} {k m : Nat} (hk : k ≤ 31) (hv : ∀ x ∈ l, IsV k x) (hl : l.flatten.length + 3 ≤ m) (hm : m ≤ 65535) (hf : formedB c l = true) : PV (k + 1) m (cmpd c l) := by
 have hn : l.length ≤ 65535 := by
  have := flatV_len (ps := l) (fun p hp => (show Vd p from ⟨(hv p hp).le (by omega), by have := flat_mem hp; omega⟩).ne)
  omega
 obtain ⟨h1, h2, _⟩ := comp_ok hc hk hv hn (by omega) hf
 rw [h1]; exact ⟨h2, by rw [raw_len]; omega⟩
theorem betB_int {k : Int} (h : 0 ≤ k ∧ k ≤ 65535) : betB (intW k) 0 65535 = true := by
 unfold betB
 rw [numV_intW (by omega), show gi (intW k) 0 = 1 from rfl, decide_eq_true h.1, decide_eq_true h.2]; rfl
theorem gValueP_leaf {l : List Int} {i1 : Int} (g1 : GS l i1) (x : Int) (hx : x = 0 ∨ x = 1 ∨ x = 2) (R3 R4 R5 R6 R7 R8 : Option (List UInt8 × (List Int × Int))) : ∃ v i', (if x = 1 then (bnd1 (m_gen_Choices_Next (l, i1) 2) (fun y45 => bnd1 (m_ref9_Bool (decide (y45.1 = 1))) (fun y46 => some (y46, (y45.2.1, y45.2.2))))) else (if x = 2 then (bnd1 (m_gen_Choices_Next (l, i1) 4) (fun y47 => bnd1 (m_ref9_Name y47.1) (fun y48 => some (y48, (y47.2.1, y47.2.2))))) else (if x = 3 then R3 else (if x = 4 then R4 else (if x = 5 then R5 else (if x = 6 then R6 else (if x = 7 then R7 else (if x = 8 then R8 else (bnd1 (m_gen_Choices_Number (l, i1)) (fun y85 => bnd1 (m_ref9_Int y85.1) (fun y86 => some (y86, (y85.2.1, y85.2.2)))))))))))) ) = some (v, (l, i')) ∧ GS l i' ∧ PV 1 9 v := by
 rcases hx with rfl | rfl | rfl
 ·obtain ⟨v, i2, e2, g2⟩ := gNumber g1
  simp only [e2, bnd1_mk, rInt]
  exact ⟨_, _, rfl, g2, intW_IsV _ 0, by rw [intW_len]; omega⟩
 ·obtain ⟨v, i2, e2, g2, _⟩ := gNext g1 (n := 2) (by omega) (by omega)
  obtain ⟨w, hw, hw2⟩ := rBoolW (decide (v = 1))
  simp only [e2, bnd1_mk, hw]
  exact ⟨_, _, rfl, g2, (hw2 0).1, by rw [(hw2 0).2]; omega⟩
 ·obtain ⟨v, i2, e2, g2, h0, h1⟩ := gNext g1 (n := 4) (by omega) (by omega)
  have hw := rNameW (k := v) h0 (by omega)
  simp only [e2, bnd1_mk, hw]
  exact ⟨_, _, rfl, g2, nameW_IsV _ 0, by simp [nameW]⟩
theorem gValueP_F (self : List Int × Int → Int → Option (List UInt8 × (List Int × Int))) (d : Int) (k c : Nat) (hk : 1 ≤ k ∧ k ≤ 31) (hc : 9 ≤ c ∧ c ≤ 10000) (hd : d ≤ 1 ∨ (1 < d ∧ d ≤ 1000 ∧ GVP (PV k c) (fun s => self s (d - 1)))) : GVP (PV (if d ≤ 1 then 1 else k + 1) (if d ≤ 1 then 9 else 4 * c + 12)) (fun s => m_gen_Choices_Value_F self s d) := by
 have hFU := FU_ge
 intro l i h
 show ∃ v i', m_gen_Choices_Value_F self (l, i) d = some (v, (l, i')) ∧ GS l i' ∧ _
 unfold m_gen_Choices_Value_F
 obtain ⟨y, i1, e1, g1, y0, y1⟩ := gNext h (n := 9) (by omega) (by omega)
 rw [e1, bnd1_mk]
 simp only [jn_eq]
 by_cases hd1 : d ≤ 1
 ·simp only [if_pos hd1]
  have t1 : 0 ≤ Int.tmod y 3 := Int.tmod_nonneg _ y0
  have t2 : Int.tmod y 3 < 3 := Int.tmod_lt_of_pos _ (by omega)
  exact gValueP_leaf g1 (Int.tmod y 3) (by omega) _ _ _ _ _ _
 ·obtain ⟨_, hd2, hs⟩ := hd.resolve_left hd1
  simp only [if_neg hd1]
  have ed : i64 (d - 1) = d - 1 := i64_id (by omega)
  by_cases hy : y = 0 ∨ y = 1 ∨ y = 2
  ·obtain ⟨v, i', a1, a2, a3⟩ := gValueP_leaf g1 y hy _ _ _ _ _ _
   exact ⟨v, i', a1, a2, a3.le (by omega) (by omega)⟩
  ·rw [if_neg (by omega), if_neg (by omega), ed]
   rcases (show y = 3 ∨ y = 4 ∨ y = 5 ∨ y = 6 ∨ y = 7 ∨ y = 8 by omega) with rfl | rfl | rfl | rfl | rfl | rfl
   ·obtain ⟨v, i2, e2, g2, p2⟩ := hs l i1 g1
    obtain ⟨w, i3, e3, g3, p3⟩ := hs l i2 g2
    have := rMake 3 (by decide) [v, w] (by simp)
    rw [show ((3 : UInt8).toNat : Int) = 3 from rfl] at this
    simp only [] at e2 e3
    simp only [if_true, e2, bnd1_mk, e3, this]
    refine ⟨_, _, rfl, g3, comp_PV (by decide) hk.2 (fun x hx => ?_) ?_ (by omega) rfl⟩
    ·simp at hx; rcases hx with rfl | rfl
     ·exact p2.1
     ·exact p3.1
    ·have a1 := p2.2; have a2 := p3.2; simp; omega
   ·obtain ⟨L, i2, e2, g2, hl, hp⟩ := gValuesP self (d - 1) _ hs g1 (most := 4) (by omega) (by omega)
    have := rMake 4 (by decide) L (by omega)
    obtain ⟨q1, q2⟩ := PV_all hp
    have q3 : c * L.length ≤ c * 3 := Nat.mul_le_mul_left c (by omega)
    rw [show ((4 : UInt8).toNat : Int) = 4 from rfl] at this
    rw [if_neg (by omega), if_pos rfl, e2, bnd1_mk, this, bnd1_mk]
    exact ⟨_, _, rfl, g2, comp_PV (by decide) hk.2 q1 (by omega) (by omega) rfl⟩
   ·obtain ⟨L, i2, e2, g2, hl, hp⟩ := gValuesP self (d - 1) _ hs g1 (most := 4) (by omega) (by omega)
    have hm := (sortW_spec L).2.1
    have hsl := (sortW_spec L).2.2
    obtain ⟨q1, q2⟩ := PV_all (fun x hx => hp x ((hm x).1 hx))
    have q3 : c * (sortW L).length ≤ c * 3 := Nat.mul_le_mul_left c (by omega)
    rw [if_neg (by omega), if_neg (by omega), if_pos rfl, e2, bnd1_mk, rSet L (by omega), bnd1_mk]
    refine ⟨_, _, rfl, g2, comp_PV (by decide) hk.2 q1 (by omega) (by omega) ?_⟩
    have := SLC_ascB (fun x hx => (show Vd x from ⟨(q1 x hx).le (by omega), by have := flat_mem hx; omega⟩)) (sortW_spec L).1
    simpa [formedB] using this
   ·obtain ⟨j, i2, e2, g2, j0, j1⟩ := gNext g1 (n := 3) (by omega) (by omega)
    obtain ⟨L, i3, e3, g3, hl, hp⟩ := gValuesP self (d - 1) _ hs g2 (most := 3) (by omega) (by omega)
    obtain ⟨q1, q2⟩ := PV_all hp
    have q3 : c * L.length ≤ c * 2 := Nat.mul_le_mul_left c (by omega)
    have hv := rDotW (k := j) j0 (by omega) L (by omega)
    rw [if_neg (by omega), if_neg (by omega), if_neg (by omega), if_pos rfl, e2, bnd1_mk]
    simp only []
    rw [e3, bnd1_mk, hv, bnd1_mk]
    refine ⟨_, _, rfl, g3, comp_PV (by decide) hk.2 (fun x hx => ?_) ?_ (by omega) ?_⟩
    ·rcases List.mem_cons.1 hx with rfl | hx
     ·exact (nameW_IsV j 0).le hk.1
     ·exact q1 x hx
    ·simp [nameW]; simp at q2; omega
    ·simp [formedB, gi2_00, nameW]; omega
   ·obtain ⟨L, i2, e2, g2, hl, hp⟩ := gValuesP self (d - 1) _ hs g1 (most := 3) (by omega) (by omega)
    have hm := (sortW_spec L).2.1
    have hsl := (sortW_spec L).2.2
    rw [if_neg (by omega), if_neg (by omega), if_neg (by omega), if_neg (by omega), if_pos rfl, e2, bnd1_mk, rSort L (by omega), bnd1_mk]
    obtain ⟨i3, O, h1, h2, h3, h4⟩ := gValP_loop self d _ (by rw [ed]; exact hs) (sortW L) (by omega) (fun x0_0_j61 x0_1_j61 x7_j61 => bnd1 (m_ref9_Map (sortW L) x7_j61) (fun y81 => some (y81, (x0_0_j61, x0_1_j61)))) (sortW L).length 0 FU l i2 [] (by omega) (by omega) g2 (by simp; omega) (by simp)
    rw [Int.natCast_zero] at h1
    have h3' : (sortW L).length = O.length := by simp at h3; omega
    have hs1 := (sortW_spec L).1
    have hPk : ∀ x ∈ sortW L, PV k c x := fun x hx => hp x ((hm x).1 hx)
    have hVk : ∀ x, PV k c x → Vd x := fun x hx => ⟨hx.1.le (by omega), by have := hx.2; omega⟩
    have hz : ∀ x ∈ zipP (sortW L) O, PV k c x := fun x hx => (zipP_mem hx).elim (hPk x) (h4 x)
    obtain ⟨q1, q2⟩ := PV_all hz
    have hzl := zipP_len (sortW L) O h3'
    have q3 : c * (zipP (sortW L) O).length ≤ c * 4 := Nat.mul_le_mul_left c (by omega)
    have hmp : mpW (sortW L) O = cmpd 6 (zipP (sortW L) O) := by
     rw [mpW_yes ⟨h3', fun x hx => hVk x (hPk x hx), fun x hx => hVk x (h4 x hx), by rw [sortW_id hs1]⟩, mapW_sorted hs1]
    simp only []
    rw [h1, rMapW (sortW L) O (by omega) (by omega), hmp, bnd1_mk]
    refine ⟨_, _, rfl, h2, comp_PV (by decide) hk.2 q1 (by omega) (by omega) ?_⟩
    have := SLC_ascB (fun x hx => hVk x (hPk x hx)) hs1
    simp [formedB, zipP_evens _ _ h3', this, hzl]
   ·obtain ⟨j, i2, e2, g2, j0, j1⟩ := gNext g1 (n := 3) (by omega) (by omega)
    obtain ⟨L, i3, e3, g3, hl, hp⟩ := gValuesP self (d - 1) _ hs g2 (most := 2) (by omega) (by omega)
    obtain ⟨q1, q2⟩ := PV_all hp
    have q3 : c * L.length ≤ c * 1 := Nat.mul_le_mul_left c (by omega)
    have hv := rNumberedW 8 (by decide) j L (by omega)
    rw [show ((8 : UInt8).toNat : Int) = 8 from rfl] at hv
    rw [if_neg (by omega), if_neg (by omega), if_neg (by omega), if_neg (by omega), if_neg (by omega), if_pos rfl, e2, bnd1_mk]
    simp only []
    rw [e3, bnd1_mk, hv, bnd1_mk]
    refine ⟨_, _, rfl, g3, comp_PV (by decide) hk.2 (fun x hx => ?_) ?_ (by omega) ?_⟩
    ·rcases List.mem_cons.1 hx with rfl | hx
     ·exact (intW_IsV j 0).le hk.1
     ·exact q1 x hx
    ·simp [intW_len]; simp at q2; omega
    ·simp [formedB, gi2_00, betB_int (k := j) ⟨j0, by omega⟩]; omega
def szV : Nat → Nat
 | 0 => 9
 | 1 => 9
 | d + 2 => 4 * szV (d + 1) + 12
theorem gValueP_S : ∀ (k : Nat), k ≤ 5 → ∀ n, k < n → GVP (PV (max k 1) (szV k)) (fun s => m_gen_Choices_Value_S n s (k : Int))
 | 0, _, n, hn => by
  obtain ⟨n, rfl⟩ : ∃ q, n = q + 1 := ⟨n - 1, by omega⟩
  exact gValueP_F _ _ 1 9 (by omega) (by omega) (.inl (by omega))
 | 1, _, n, hn => by
  obtain ⟨n, rfl⟩ : ∃ q, n = q + 1 := ⟨n - 1, by omega⟩
  exact gValueP_F _ _ 1 9 (by omega) (by omega) (.inl (by omega))
 | k + 2, hk, n, hn => by
  obtain ⟨n, rfl⟩ : ∃ q, n = q + 1 := ⟨n - 1, by omega⟩
  have ih := gValueP_S (k + 1) (by omega) n (by omega)
  have hsz : 9 ≤ szV (k + 1) ∧ szV (k + 1) ≤ 10000 := by
   have : k ≤ 3 := by omega
   rcases (show k = 0 ∨ k = 1 ∨ k = 2 ∨ k = 3 by omega) with rfl | rfl | rfl | rfl <;> decide
  have := gValueP_F (m_gen_Choices_Value_S n) ((k + 2 : Nat) : Int) (max (k + 1) 1) (szV (k + 1)) (by omega) hsz (.inr ⟨by omega, by omega, by
   rw [show ((k + 2 : Nat) : Int) - 1 = ((k + 1 : Nat) : Int) by omega]; exact ih⟩)
  rw [if_neg (by omega), if_neg (by omega)] at this
  intro l i h
  obtain ⟨v, i', a1, a2, a3⟩ := this l i h
  exact ⟨v, i', a1, a2, a3.le (by omega) (Nat.le_refl _)⟩
theorem gValueP (k : Nat) (hk : k ≤ 5) : GVP (PV (max k 1) (szV k)) (fun s => m_gen_Choices_Value s (k : Int)) := by
 have hFU := FU_ge
 exact gValueP_S k hk FU (by omega)

end Go.Proofs.YtpfdeahcjlfijaaGreat
/- Patterns: lists of code and trees; the program's reader. -/
namespace Go.Proofs.YtpfdeahcjlfijaaGreat
attribute [local irreducible] FU

abbrev Cd := Int × Int × Int
mutual
def ser : Nd → List Cd
 | .nil => []
 | .mk op n kids => (op, n, (kids.length : Int)) :: sers kids
def sers : List Nd → List Cd
 | [] => []
 | k :: l => ser k ++ sers l
end
theorem ser_mk (op n : Int) (kids : List Nd) : ser (.mk op n kids) = (op, n, (kids.length : Int)) :: sers kids := by rw [ser]
theorem sers_nil : sers [] = [] := by rw [sers]
theorem sers_cons (k : Nd) (l : List Nd) : sers (k :: l) = ser k ++ sers l := by rw [sers]
theorem sers_app : ∀ a b : List Nd, sers (a ++ b) = sers a ++ sers b
 | [], b => by rw [sers_nil]; rfl
 | x :: a, b => by rw [List.cons_append, sers_cons, sers_cons, sers_app a b, List.append_assoc]
def op0 : Nd → Int
 | .nil => 0
 | .mk op _ _ => op
inductive Pr : Nd → Prop
 | mk {op n : Int} {kids : List Nd} (h : ∀ x ∈ kids, Pr x) : Pr (.mk op n kids)
theorem Pr.kids {op n : Int} {kids : List Nd} (h : Pr (.mk op n kids)) : ∀ x ∈ kids, Pr x := by cases h; assumption
theorem Pr.pos {t : Nd} (h : Pr t) : 1 ≤ (ser t).length := by
 cases h; rw [ser_mk]; simp
theorem sers_len : ∀ {l : List Nd}, (∀ x ∈ l, Pr x) → l.length ≤ (sers l).length
 | [], _ => by simp
 | x :: l, h => by
  have h1 := (h x (by simp)).pos
  have h2 := sers_len (l := l) (fun y hy => h y (by simp [hy]))
  rw [sers_cons, List.length_append, List.length_cons]; omega
mutual
theorem ser_uniq : ∀ (t t' : Nd) (r r' : List Cd), Pr t → Pr t' → ser t ++ r = ser t' ++ r' → t = t' ∧ r = r'
 | .nil, _, _, _, h, _, _ => by cases h
 | .mk op n kids, .nil, _, _, _, h, _ => by cases h
 | .mk op n kids, .mk op' n' kids', r, r', h, h', e => by
  rw [ser_mk, ser_mk, List.cons_append, List.cons_append] at e
  injection e with e1 e2
  simp only [Prod.mk.injEq] at e1
  obtain ⟨rfl, rfl, e3⟩ := e1
  obtain ⟨rfl, rfl⟩ := sers_uniq kids kids' r r' h.kids h'.kids (by omega) e2
  exact ⟨rfl, rfl⟩
theorem sers_uniq : ∀ (l l' : List Nd) (r r' : List Cd), (∀ x ∈ l, Pr x) → (∀ x ∈ l', Pr x) → l.length = l'.length → sers l ++ r = sers l' ++ r' → l = l' ∧ r = r'
 | [], [], _, _, _, _, _, e => by rw [sers_nil] at e; exact ⟨rfl, by simpa using e⟩
 | [], _ :: _, _, _, _, _, hl, _ => by simp at hl
 | _ :: _, [], _, _, _, _, hl, _ => by simp at hl
 | x :: l, x' :: l', r, r', h, h', hl, e => by
  rw [sers_cons, sers_cons, List.append_assoc, List.append_assoc] at e
  obtain ⟨rfl, e2⟩ := ser_uniq x x' _ _ (h x (by simp)) (h' x' (by simp)) e
  obtain ⟨rfl, rfl⟩ := sers_uniq l l' r r' (fun y hy => h y (by simp [hy])) (fun y hy => h' y (by simp [hy])) (by simpa using hl) e2
  exact ⟨rfl, rfl⟩
end

def fmB (op n : Int) (kids : List Nd) : Bool :=
 if op = 30 ∨ op = 31 then decide (kids.length = 0 ∧ n = 0)
 else if op = 32 then decide (kids.length = 0)
 else if op = 33 then decide (kids.length = 0 ∧ (n = 0 ∨ n = 1))
 else if op = 34 then decide (2 ≤ kids.length ∧ kids.length ≤ 8 ∧ n = 0)
 else if op = 35 then decide (n = 0)
 else if op = 36 then decide (0 ≤ n ∧ n < kids.length ∧ (op0 (gi kids n) = 30 ∨ op0 (gi kids n) = 31))
 else if op = 37 then decide (kids.length ≤ 1 ∧ n = 0)
 else if op = 38 then true
 else if op = 39 ∨ op = 40 then decide (kids.length = 2 ∧ n = 0)
 else false
theorem gi_mem {α : Type} [Inhabited α] {xs : List α} {i : Int} (h0 : 0 ≤ i) (h1 : i < xs.length) : gi xs i ∈ xs := List.mem_of_getElem? (gi_get h0 h1)
theorem op0_un {t : Nd} (h : Pr t) : ∃ y, unN t = some y ∧ y.1 = op0 t := by
 cases h with | mk _ => exact ⟨_, rfl, rfl⟩
set_option maxRecDepth 10000 in
theorem pFormed (op n : Int) (kids : List Nd) (h : ∀ x ∈ kids, Pr x) : m_pattern_node_formed (mkN (op, n, kids)) = some (fmB op n kids) := by
 unfold m_pattern_node_formed
 have hun : unN (mkN (op, n, kids)) = some (op, n, kids) := rfl
 simp only [hun, bnd1_mk, jn_eq]
 unfold fmB
 by_cases c1 : op = 30
 ·subst c1; by_cases h1 : kids.length = 0 <;> by_cases h2 : n = 0 <;> simp [h1, h2]
 by_cases c2 : op = 31
 ·subst c2; by_cases h1 : kids.length = 0 <;> by_cases h2 : n = 0 <;> simp [h1, h2]
 by_cases c3 : op = 32
 ·subst c3; simp
 by_cases c4 : op = 33
 ·subst c4; by_cases h1 : kids.length = 0 <;> by_cases h2 : n = 0 <;> by_cases h3 : n = 1 <;> simp [h1, h2, h3]
 by_cases c5 : op = 34
 ·subst c5
  by_cases h1 : 2 ≤ kids.length
  ·by_cases h2 : kids.length ≤ 8
   ·have e1 : (2 : Int) ≤ kids.length := by omega
    have e2 : (kids.length : Int) ≤ 8 := by omega
    simp [h1, h2, e1, e2]
   ·have e1 : (2 : Int) ≤ kids.length := by omega
    have e2 : ¬ (kids.length : Int) ≤ 8 := by omega
    simp [h2, e1, e2]
  ·have e1 : ¬ (2 : Int) ≤ kids.length := by omega
   simp [h1, e1]
 by_cases c6 : op = 35
 ·subst c6; simp
 by_cases c7 : op = 36
 ·subst c7
  by_cases h1 : 0 ≤ n
  ·by_cases h2 : n < kids.length
   ·obtain ⟨y, hy, hop⟩ := op0_un (h _ (gi_mem h1 h2))
    have hr : m_pattern_node_rest (mkN (36, n, kids)) = some (gi kids n) := by
     unfold m_pattern_node_rest
     simp only [show unN (mkN (36, n, kids)) = some (36, n, kids) from rfl, bnd1_mk]
     rw [need_pos ⟨h1, h2⟩]
    simp only [hr, bnd1_mk, hy, hop]
    by_cases h3 : op0 (gi kids n) = 30 <;> by_cases h4 : op0 (gi kids n) = 31 <;> simp [h1, h2, h3, h4]
   ·simp [h1, h2]
  ·simp [h1]
 by_cases c8 : op = 37
 ·subst c8
  by_cases h1 : kids.length ≤ 1
  ·have e1 : (kids.length : Int) ≤ 1 := by omega
   simp [h1, e1]
  ·have e1 : ¬ (kids.length : Int) ≤ 1 := by omega
   simp [h1, e1]
 by_cases c9 : op = 38
 ·subst c9; simp
 by_cases c10 : op = 39
 ·subst c10
  by_cases h1 : kids.length = 2
  ·have e1 : (kids.length : Int) = 2 := by omega
   simp [h1]
  ·have e1 : ¬ (kids.length : Int) = 2 := by omega
   simp [h1, e1]
 by_cases c11 : op = 40
 ·subst c11
  by_cases h1 : kids.length = 2
  ·have e1 : (kids.length : Int) = 2 := by omega
   simp [h1]
  ·have e1 : ¬ (kids.length : Int) = 2 := by omega
   simp [h1, e1]
 simp [c1, c2, c3, c4, c5, c6, c7, c8, c9, c10, c11]

inductive OkT : Nat → Nd → Prop
 | mk {k : Nat} {op n : Int} {kids : List Nd} (hf : fmB op n kids = true) (hk : ∀ x ∈ kids, OkT k x) : OkT (k + 1) (.mk op n kids)
theorem OkT.pr {k : Nat} {t : Nd} (h : OkT k t) : Pr t := by
 induction h with | mk hf hk ih => exact .mk ih
theorem not_ok0 {t : Nd} : ¬ OkT 0 t := fun h => by cases h
def RdSpec (k : Nat) (p : List Cd) (o : Option (Nd × List Cd × Bool)) : Prop :=
 (∃ t r, p = ser t ++ r ∧ OkT k t ∧ o = some (t, r, true)) ∨ ((∀ t r, p = ser t ++ r → ¬ OkT k t) ∧ ∃ t r, o = some (t, r, false))
theorem rd_loop (self : List Cd → Int → Option (Nd × List Cd × Bool)) (k : Nat) (d : Int) (a0 : List Cd) (hl : a0.length ≤ 1048576)
  (hs : ∀ q : List Cd, q.length ≤ 1048576 → RdSpec k q (self q (i64 (d + 1)))) (K : List Cd → List Nd → Option (Nd × List Cd × Bool)) :
  ∀ (m i n : Nat) (q : List Cd) (ks : List Nd), (i : Int) + m = (gi a0 0).2.2 → m < n → ks.length = i → i + m ≤ 1048576 → (∀ x ∈ ks, OkT k x) → q.length ≤ 1048576 → a0.drop 1 = sers ks ++ q →
   (∃ ks' q', a0.drop 1 = sers ks' ++ q' ∧ (∀ x ∈ ks', OkT k x) ∧ (ks'.length : Int) = (gi a0 0).2.2 ∧ m_pattern_read_L2 self a0 d K n q ks (i : Int) = K q' ks') ∨
   ((∀ ks' q', a0.drop 1 = sers ks' ++ q' → (ks'.length : Int) = (gi a0 0).2.2 → ¬ ∀ x ∈ ks', OkT k x) ∧ m_pattern_read_L2 self a0 d K n q ks (i : Int) = some (.nil, [], false)) := by
 intro m
 induction m with
 | zero =>
  intro i n q ks hi hn hk him hok hq ha
  obtain ⟨n, rfl⟩ : ∃ j, n = j + 1 := ⟨n - 1, by omega⟩
  refine .inl ⟨ks, q, ha, hok, by omega, ?_⟩
  rw [m_pattern_read_L2, m_pattern_read_B2, if_neg (by omega)]
 | succ m ih =>
  intro i n q ks hi hn hk him hok hq ha
  obtain ⟨n, rfl⟩ : ∃ j, n = j + 1 := ⟨n - 1, by omega⟩
  rw [m_pattern_read_L2, m_pattern_read_B2, if_pos (by omega)]
  rcases hs q hq with ⟨t, r, e, hokt, ho⟩ | ⟨hno, t, r, ho⟩
  ·rw [ho, bnd1_mk]
   simp only [Bool.not_true, Bool.false_eq_true, if_false]
   rw [need_pos (by simp; omega), i64_succ (by omega)]
   refine ih (i + 1) n r (ks ++ [t]) (by omega) (by omega) (by simp [hk]) (by omega) (fun x hx => ?_) (by rw [e] at hq; simp at hq; omega) ?_
   ·rcases List.mem_append.1 hx with hx | hx
    ·exact hok x hx
    ·obtain rfl : x = t := by simpa using hx
     exact hokt
   ·rw [ha, e, sers_app, sers_cons, sers_nil]; simp
  ·rw [ho, bnd1_mk]
   refine .inr ⟨fun ks' q' e' hl' hok' => ?_, by simp⟩
   have hlt : i < ks'.length := by omega
   have hsp : ks' = ks'.take i ++ ks'[i] :: ks'.drop (i + 1) := by rw [← List.drop_eq_getElem_cons hlt, List.take_append_drop]
   have e2 : sers (ks'.take i) ++ (ser ks'[i] ++ (sers (ks'.drop (i + 1)) ++ q')) = sers ks ++ q := by
    rw [← ha, e']
    conv => rhs; rw [hsp]
    rw [sers_app, sers_cons]; simp
   obtain ⟨_, e3⟩ := sers_uniq _ _ _ _ (fun x hx => (hok' x (List.mem_of_mem_take hx)).pr) (fun x hx => (hok x hx).pr) (by simp; omega) e2
   exact hno _ _ e3.symm (hok' _ (List.getElem_mem hlt))
theorem pRead : ∀ (k n : Nat) (p : List Cd) (d : Int), k < n → d + k = 65 → 1 ≤ d → p.length ≤ 1048576 → RdSpec k p (m_pattern_read_S n p d) := by
 intro k
 induction k with
 | zero =>
  intro n p d hn hd h1 hl
  obtain ⟨n, rfl⟩ : ∃ j, n = j + 1 := ⟨n - 1, by omega⟩
  refine .inr ⟨fun t r _ h => not_ok0 h, .nil, [], ?_⟩
  rw [m_pattern_read_S, m_pattern_read_F]
  simp only [jn_eq]
  by_cases hp : p.length = 0
  ·rw [if_pos (by omega)]; simp
  ·rw [if_neg (by omega), if_pos (by omega)]; simp
 | succ k ih =>
  intro n p d hn hd h1 hl
  obtain ⟨n, rfl⟩ : ∃ j, n = j + 1 := ⟨n - 1, by omega⟩
  rw [m_pattern_read_S, m_pattern_read_F]
  simp only [jn_eq]
  by_cases hp : p.length = 0
  ·rw [if_pos (by omega)]
   refine .inr ⟨fun t r e h => ?_, .nil, [], by simp⟩
   have := h.pr.pos
   rw [List.length_eq_zero_iff.1 hp] at e
   have := congrArg List.length e
   simp at this; omega
  rw [if_neg (by omega), if_neg (by omega), need_pos (by omega)]
  obtain ⟨c, p', rfl⟩ : ∃ c p', p = c :: p' := by
   cases p with
   | nil => simp at hp
   | cons c p' => exact ⟨c, p', rfl⟩
  have hg : gi (c :: p') (0 : Int) = c := rfl
  have bad : ∀ t r, c :: p' = ser t ++ r → OkT (k + 1) t → ∃ op n kids, t = .mk op n kids ∧ c = (op, n, (kids.length : Int)) ∧ p' = sers kids ++ r ∧ (∀ x ∈ kids, OkT k x) ∧ fmB op n kids = true := by
   intro t r e h
   cases h with | @mk _ op n kids hf hk =>
   rw [ser_mk, List.cons_append] at e
   injection e with e1 e2
   exact ⟨op, n, kids, rfl, e1, e2, hk, hf⟩
  rw [hg]
  by_cases hc : c.2.2 < 0
  ·rw [if_pos hc]
   refine .inr ⟨fun t r e h => ?_, .nil, [], by simp⟩
   obtain ⟨op, n, kids, _, rfl, _, _⟩ := bad t r e h
   simp at hc; omega
  rw [if_neg hc, need_pos (by omega)]
  by_cases hc2 : ((c :: p').length : Int) ≤ c.2.2
  ·simp only [decide_eq_true hc2, if_true]
   refine .inr ⟨fun t r e h => ?_, .nil, [], rfl⟩
   obtain ⟨op, n, kids, _, rfl, e2, hk, _⟩ := bad t r e h
   have := sers_len (fun x hx => (hk x hx).pr)
   rw [e2] at hc2
   simp at hc2; omega
  simp only [decide_eq_false hc2, Bool.false_eq_true, if_false]
  rw [need_pos (by omega), need_pos (by omega), need_pos (by omega), need_pos (by omega)]
  have hFU := FU_ge
  obtain ⟨m, hm⟩ : ∃ m : Nat, c.2.2 = m := ⟨c.2.2.toNat, by omega⟩
  rcases rd_loop (m_pattern_read_S n) k d (c :: p') hl (fun q hq => by
    rw [i64_id (by omega)]
    exact ih n q (d + 1) (by omega) (by omega) (by omega) hq)
   (fun x0 x7 => bnd1 (m_pattern_node_formed (mkN (c.1, c.2.1, x7))) (fun y37 => some ((mkN (c.1, c.2.1, x7)), x0, y37))) m 0 FU (List.drop (Int.toNat 1) (c :: p')) [] (by rw [hg]; omega) (by simp at hc2 hl; omega) rfl (by simp at hc2 hl; omega) (fun x hx => by cases hx) (by simp at hl ⊢; omega) (by rw [sers_nil]; rfl) with ⟨ks, q, e, hok, hlen, hr⟩ | ⟨hno, hr⟩
  ·rw [Int.natCast_zero] at hr
   rw [hr, pFormed _ _ _ (fun x hx => (hok x hx).pr), bnd1_mk]
   rw [hg] at hlen
   have e' : c :: p' = ser (.mk c.1 c.2.1 ks) ++ q := by
    rw [ser_mk, List.cons_append]
    have e1 : p' = sers ks ++ q := e
    rw [e1, hlen]
   cases hf : fmB c.1 c.2.1 ks with
   | true => exact .inl ⟨_, q, e', .mk hf hok, rfl⟩
   | false =>
    refine .inr ⟨fun t r e2 h => ?_, _, q, rfl⟩
    obtain ⟨rfl, _⟩ := ser_uniq _ _ _ _ (.mk (fun x hx => (hok x hx).pr)) h.pr (e'.symm.trans e2)
    cases h with | mk hf' _ => rw [hf] at hf'; cases hf'
  ·rw [Int.natCast_zero] at hr
   rw [hr]
   refine .inr ⟨fun t r e h => ?_, .nil, [], rfl⟩
   obtain ⟨op, n, kids, _, rfl, e2, hk, _⟩ := bad t r e h
   exact hno kids r e2 rfl hk

noncomputable def parse (p : List Cd) : Option Nd := by
 classical exact if h : ∃ t, p = ser t ∧ OkT 64 t ∧ p.length ≤ 8192 then some h.choose else none
theorem parse_some {p : List Cd} {t : Nd} : parse p = some t ↔ p = ser t ∧ OkT 64 t ∧ p.length ≤ 8192 := by
 unfold parse
 constructor
 ·intro h
  split at h
  ·rename_i hx
   injection h with h
   rw [← h]; exact hx.choose_spec
  ·cases h
 ·rintro ⟨h1, h2, h3⟩
  have hx : ∃ t, p = ser t ∧ OkT 64 t ∧ p.length ≤ 8192 := ⟨t, h1, h2, h3⟩
  rw [dif_pos hx]
  obtain ⟨g1, g2, _⟩ := hx.choose_spec
  obtain ⟨e, _⟩ := ser_uniq _ _ [] [] g2.pr h2.pr (by rw [← g1, ← h1])
  rw [e]
theorem pWhole (p : List Cd) (hl : p.length ≤ 1048576) : (∃ t, parse p = some t ∧ m_pattern_whole p = some (t, true)) ∨ (parse p = none ∧ ∃ t, m_pattern_whole p = some (t, false)) := by
 have hFU := FU_ge
 unfold m_pattern_whole m_pattern_read
 simp only [jn_eq]
 rcases pRead 64 FU p 1 (by omega) (by omega) (by omega) hl with ⟨t, r, e, hok, ho⟩ | ⟨hno, t, r, ho⟩
 ·rw [ho, bnd1_mk]
  simp only [if_true]
  by_cases hr : r.length = 0
  ·obtain rfl := List.length_eq_zero_iff.1 hr
   rw [List.append_nil] at e
   rw [if_pos (by simp)]
   by_cases h8 : p.length ≤ 8192
   ·exact .inl ⟨t, parse_some.2 ⟨e, hok, h8⟩, by rw [decide_eq_true (by omega : (p.length : Int) ≤ 8192)]⟩
   ·refine .inr ⟨?_, t, by rw [decide_eq_false (by omega : ¬ (p.length : Int) ≤ 8192)]⟩
    cases hp : parse p with
    | none => rfl
    | some t' => exact absurd (parse_some.1 hp).2.2 h8
  ·rw [if_neg (by omega)]
   refine .inr ⟨?_, t, rfl⟩
   cases hp : parse p with
   | none => rfl
   | some t' =>
    obtain ⟨e', hok', _⟩ := parse_some.1 hp
    obtain ⟨_, e3⟩ := ser_uniq t t' r [] hok.pr hok'.pr (by rw [← e, ← e']; simp)
    exact absurd (by rw [e3]; rfl) hr
 ·rw [ho, bnd1_mk]
  refine .inr ⟨?_, t, by simp⟩
  cases hp : parse p with
  | none => rfl
  | some t' =>
   obtain ⟨e', hok', _⟩ := parse_some.1 hp
   exact absurd hok' (hno t' [] (by rw [List.append_nil]; exact e'))
end Go.Proofs.YtpfdeahcjlfijaaGreat
/- Matching: what the program's match comes to. -/
namespace Go.Proofs.YtpfdeahcjlfijaaGreat
attribute [local irreducible] FU

abbrev Vl := List UInt8
theorem kind_vd {v : Vl} (h : kindW v ≠ 0) : Vd v := by
 unfold kindW at h
 split at h
 ·rename_i hv; exact vldB_iff.1 hv
 ·exact absurd rfl h
theorem kind_g0 {v : Vl} (h : kindW v ≠ 0) : kindW v = ((gi v 0).toNat : Int) := by
 have hv := kind_vd h
 unfold kindW; rw [if_pos (vldB_iff.2 hv)]
theorem kind_shape {v : Vl} (h : kindW v ≠ 0) : (kindW v = 1 ∧ ∃ b, b.length = 8 ∧ v = 1 :: b) ∨ (kindW v = 2 ∧ ∃ b : UInt8, b.toNat ≤ 1 ∧ v = [2, b]) ∨ (kindW v = 10 ∧ ∃ h l, v = [10, h, l]) ∨ (3 ≤ kindW v ∧ kindW v ≤ 9) := by
 have hk := kind_g0 h
 obtain ⟨hv, _⟩ := kind_vd h
 cases hv with
 | int k b hb => exact .inl ⟨by rw [hk]; rfl, b, hb, rfl⟩
 | bool k b hb => exact .inr (.inl ⟨by rw [hk]; rfl, b, hb, rfl⟩)
 | name k a b => exact .inr (.inr (.inl ⟨by rw [hk]; rfl, a, b, rfl⟩))
 | comp k c a b ps hc hn hp hf => exact .inr (.inr (.inr (by rw [hk, gi_0]; omega)))
noncomputable def numW (v : Vl) : Int := if kindW v = 1 then numV v else if kindW v = 2 then ((gi v 1).toNat : Int) else if kindW v = 10 then (((gi v 1).toNat * 256 + (gi v 2).toNat : Nat) : Int) else 0
theorem vNum (v : Vl) : m_value_Number v = some (numW v) := by
 unfold m_value_Number numW
 rw [vKind, bnd1_mk]
 by_cases h1 : kindW v = 1
 ·rcases kind_shape (v := v) (by omega) with ⟨_, b, hb, rfl⟩ | ⟨h, _⟩ | ⟨h, _⟩ | h
  ·rw [if_pos h1, if_pos h1, vInteger _ (by simp [hb]), bnd1_mk, numV, List.take_of_length_le (by simp [hb])]
  ·omega
  ·omega
  ·omega
 rw [if_neg h1, if_neg h1]
 by_cases h2 : kindW v = 2
 ·rcases kind_shape (v := v) (by omega) with ⟨h, _⟩ | ⟨_, b, hb, rfl⟩ | ⟨h, _⟩ | h
  ·omega
  ·rw [if_pos h2, if_pos h2, need_pos (by simp)]
  ·omega
  ·omega
 rw [if_neg h2, if_neg h2]
 by_cases h3 : kindW v = 10
 ·rcases kind_shape (v := v) (by omega) with ⟨h, _⟩ | ⟨h, _⟩ | ⟨_, a, b, rfl⟩ | h
  ·omega
  ·omega
  ·rw [if_pos h3, if_pos h3, need_pos (by simp), need_pos (by simp), i64_step]
  ·omega
 rw [if_neg h3, if_neg h3]
theorem pSeq (l : List Vl) (hx : ∀ x ∈ l, x.length ≤ 1099511627776) : m_value_Seq l = some (cmpd 4 l) := by
 unfold m_value_Seq
 have := vCompound 4 l hx
 rw [show ((4 : UInt8).toNat : Int) = 4 from rfl] at this
 rw [this, bnd1_mk]
theorem Vd.len {v : Vl} (h : Vd v) : v.length ≤ 1099511627776 := by have := h.2; omega

theorem pConcat (a : List (List Vl)) (ha : a.length ≤ 1000000) (hl : a.flatten.length ≤ 137438953472) : m_slices_Concat_L_api_Value_api_Value a = some a.flatten := by
 have hFU := FU_ge
 unfold m_slices_Concat_L_api_Value_api_Value
 simp only [jn_eq]
 have loop : ∀ (K : Int → Option (List Vl)) (m i n s : Nat), i + m = a.length → m < n → s + (a.drop i).flatten.length = a.flatten.length → m_slices_Concat_L_api_Value_api_Value_L2 a K n (s : Int) (i : Int) = K (a.flatten.length : Int) := by
  intro K m
  induction m with
  | zero =>
   intro i n s hi hn hs
   obtain ⟨n, rfl⟩ : ∃ j, n = j + 1 := ⟨n - 1, by omega⟩
   rw [List.drop_eq_nil_of_le (by omega), List.flatten_nil, List.length_nil, Nat.add_zero] at hs
   rw [m_slices_Concat_L_api_Value_api_Value_L2, m_slices_Concat_L_api_Value_api_Value_B2, if_neg (by omega), hs]
  | succ m ih =>
   intro i n s hi hn hs
   obtain ⟨n, rfl⟩ : ∃ j, n = j + 1 := ⟨n - 1, by omega⟩
   have hil : i < a.length := by omega
   rw [List.drop_eq_getElem_cons hil, List.flatten_cons, List.length_append] at hs
   rw [m_slices_Concat_L_api_Value_api_Value_L2, m_slices_Concat_L_api_Value_api_Value_B2, if_pos (by omega), need_pos (by omega), gi_nat hil, i64_id (by omega), if_neg (by omega), i64_succ (by omega)]
   have := ih (i + 1) n (s + a[i].length) (by omega) (by omega) (by omega)
   rw [Int.natCast_add] at this
   exact this
 have h1 := fun K => loop K a.length 0 FU 0 (by omega) (by omega) (by simp)
 simp only [Int.natCast_zero] at h1
 rw [h1]
 have hg : m_slices_Grow_L_api_Value_api_Value (a.flatten.length : Int) = some [] := by
  unfold m_slices_Grow_L_api_Value_api_Value
  simp only [jn_eq]
  rw [if_neg (by omega), show i64 (0 - 0) = 0 from by rw [i64_id (by omega)]; rfl, i64_id (by omega)]
  split
  ·rw [need_pos (by omega), need_pos (by simp)]; simp
  ·rfl
 rw [hg, bnd1_mk]
 have loop2 : ∀ (m i n : Nat) (s : List Vl), i + m = a.length → m < n → s ++ (a.drop i).flatten = a.flatten → m_slices_Concat_L_api_Value_api_Value_L4 a (fun x => some x) n s (i : Int) = some a.flatten := by
  intro m
  induction m with
  | zero =>
   intro i n s hi hn hs
   obtain ⟨n, rfl⟩ : ∃ j, n = j + 1 := ⟨n - 1, by omega⟩
   rw [List.drop_eq_nil_of_le (by omega)] at hs
   rw [m_slices_Concat_L_api_Value_api_Value_L4, m_slices_Concat_L_api_Value_api_Value_B4, if_neg (by omega)]
   simp at hs
   rw [hs]
  | succ m ih =>
   intro i n s hi hn hs
   obtain ⟨n, rfl⟩ : ∃ j, n = j + 1 := ⟨n - 1, by omega⟩
   have hil : i < a.length := by omega
   rw [List.drop_eq_getElem_cons hil, List.flatten_cons, ← List.append_assoc] at hs
   have hsl := congrArg List.length hs
   rw [List.length_append, List.length_append] at hsl
   rw [m_slices_Concat_L_api_Value_api_Value_L4, m_slices_Concat_L_api_Value_api_Value_B4, if_pos (by omega), need_pos (by omega), gi_nat hil, need_pos (by omega), i64_succ (by omega)]
   exact ih (i + 1) n _ (by omega) (by omega) hs
 have h2 := loop2 a.length 0 FU [] (by omega) (by omega) (by simp)
 rw [Int.natCast_zero] at h2
 exact h2

noncomputable def mts (f : Nd → Vl → Option (List Vl)) : List Nd → List Vl → Option (List Vl)
 | [], [] => some []
 | x :: xs, y :: ys => match f x y with
  | none => none
  | some a => match mts f xs ys with
   | none => none
   | some b => some (a ++ b)
 | _, _ => none
noncomputable def subP (op n : Int) (c : Nat) (v : Vl) : Option (List Vl) :=
 if op = 34 then (if kindW v = 3 then some (prtW v) else none)
 else if op = 35 then (if kindW v = 4 then some (prtW v) else none)
 else if op = 37 then (if kindW v = 5 then some (prtW v) else none)
 else if op = 38 then (if kindW v = 7 ∧ numW (gi (prtW v) 0) = n then some ((prtW v).drop 1) else none)
 else if op = 36 then (if kindW v = 4 ∧ c - 1 ≤ (prtW v).length then
  some ((prtW v).take n.toNat ++ cmpd 4 (((prtW v).drop n.toNat).take ((prtW v).length - (c - 1))) :: (prtW v).drop ((prtW v).length - (c - 1 - n.toNat))) else none)
 else if op = 40 then some [v, v]
 else none
noncomputable def mt : Nat → Nd → Vl → Option (List Vl)
 | 0, _, _ => none
 | _ + 1, .nil, _ => none
 | k + 1, .mk op n kids, v =>
  if op = 30 then some [v]
  else if op = 31 then some []
  else if op = 32 then (if kindW v = 1 ∧ numW v = n then some [] else none)
  else if op = 33 then (if kindW v = 2 ∧ numW v = n then some [] else none)
  else match subP op n kids.length v with
   | none => none
   | some ps => mts (mt k) kids ps
theorem mts_len {f : Nd → Vl → Option (List Vl)} : ∀ {kids : List Nd} {ps : List Vl} {l : List Vl}, (∀ x ∈ kids, ∀ y l, f x y = some l → l.length ≤ (ser x).length) → mts f kids ps = some l → l.length ≤ (sers kids).length ∧ kids.length = ps.length
 | [], [], l, _, h => by simp only [mts] at h; cases h; simp
 | [], _ :: _, l, _, h => by simp only [mts] at h; cases h
 | _ :: _, [], l, _, h => by simp only [mts] at h; cases h
 | x :: xs, y :: ys, l, hf, h => by
  simp only [mts] at h
  split at h
  ·cases h
  ·rename_i a ha
   split at h
   ·cases h
   ·rename_i b hb
    cases h
    obtain ⟨h1, h2⟩ := mts_len (kids := xs) (ps := ys) (fun z hz => hf z (by simp [hz])) hb
    have := hf x (by simp) y a ha
    rw [sers_cons, List.length_append, List.length_append]
    simp
    omega
theorem mt_len : ∀ {k : Nat} {t : Nd} {v : Vl} {l : List Vl}, mt k t v = some l → l.length ≤ (ser t).length
 | 0, _, _, _, h => by simp only [mt] at h; cases h
 | k + 1, .nil, _, _, h => by simp only [mt] at h; cases h
 | k + 1, .mk op n kids, v, l, h => by
  rw [mt] at h
  rw [ser_mk, List.length_cons]
  split at h
  ·cases h; simp
  split at h
  ·cases h; simp
  split at h
  ·split at h <;> cases h; simp
  split at h
  ·split at h <;> cases h; simp
  split at h
  ·cases h
  ·have := (mts_len (fun x _ y l => mt_len (k := k)) h).1
   omega
def MSpec (o : Option (List Vl)) (vars : List Vl) (r : Option (List Vl × Bool)) : Prop := (∃ l, o = some l ∧ r = some (vars ++ l, true)) ∨ (o = none ∧ ∃ x, r = some (x, false))
theorem pEach_loop (self : Nd → Vl → List Vl → Option (List Vl × Bool)) (f : Nd → Vl → Option (List Vl)) (kids : List Nd) (ps : List Vl) (hk : kids.length = ps.length) (hkl : kids.length ≤ 1000000000)
  (hfl : ∀ x ∈ kids, ∀ y l, f x y = some l → l.length ≤ (ser x).length)
  (hs : ∀ x ∈ kids, ∀ y ∈ ps, ∀ vars : List Vl, vars.length + (ser x).length ≤ 137438953472 → MSpec (f x y) vars (self x y vars)) :
  ∀ (m i n : Nat) (vars : List Vl), i + m = kids.length → m < n → vars.length + (sers (kids.drop i)).length ≤ 137438953472 → MSpec (mts f (kids.drop i) (ps.drop i)) vars (m_pattern_each_L2 self kids ps (fun x => some (x, true)) n vars (i : Int)) := by
 intro m
 induction m with
 | zero =>
  intro i n vars hi hn hv
  obtain ⟨n, rfl⟩ : ∃ j, n = j + 1 := ⟨n - 1, by omega⟩
  rw [List.drop_eq_nil_of_le (by omega), List.drop_eq_nil_of_le (by omega), m_pattern_each_L2, m_pattern_each_B2, if_neg (by omega)]
  exact .inl ⟨[], by simp only [mts], by simp⟩
 | succ m ih =>
  intro i n vars hi hn hv
  obtain ⟨n, rfl⟩ : ∃ j, n = j + 1 := ⟨n - 1, by omega⟩
  have h1 : i < kids.length := by omega
  have h2 : i < ps.length := by omega
  rw [List.drop_eq_getElem_cons h1, sers_cons, List.length_append] at hv
  rw [List.drop_eq_getElem_cons h1, List.drop_eq_getElem_cons h2, m_pattern_each_L2, m_pattern_each_B2, if_pos (by omega), need_pos (by omega), need_pos (by omega), gi_nat h1, gi_nat h2]
  rcases hs _ (List.getElem_mem h1) _ (List.getElem_mem h2) vars (by omega) with ⟨l, e1, e2⟩ | ⟨e1, x, e2⟩
  ·rw [e2, bnd1_mk]
   simp only [Bool.not_true, Bool.false_eq_true, if_false]
   have := hfl _ (List.getElem_mem h1) _ l e1
   rw [i64_succ (by omega)]
   have h3 := ih (i + 1) n (vars ++ l) (by omega) (by omega) (by simp; omega)
   unfold MSpec at h3 ⊢
   simp only [mts, e1]
   rcases h3 with ⟨l', e3, e4⟩ | ⟨e3, x, e4⟩
   ·exact .inl ⟨l ++ l', by rw [e3], by rw [e4]; simp⟩
   ·exact .inr ⟨by rw [e3], x, e4⟩
  ·rw [e2, bnd1_mk]
   exact .inr ⟨by simp only [mts, e1], [], by simp⟩
theorem mts_ne {f : Nd → Vl → Option (List Vl)} : ∀ {kids : List Nd} {ps : List Vl}, kids.length ≠ ps.length → mts f kids ps = none
 | [], [], h => by simp at h
 | [], _ :: _, _ => by simp only [mts]
 | _ :: _, [], _ => by simp only [mts]
 | x :: xs, y :: ys, h => by
  simp only [mts]
  have := mts_ne (f := f) (kids := xs) (ps := ys) (by simpa using h)
  split
  ·rfl
  ·rw [this]
theorem pEach (self : Nd → Vl → List Vl → Option (List Vl × Bool)) (f : Nd → Vl → Option (List Vl)) (kids : List Nd) (ps : List Vl) (hkl : kids.length ≤ 1000000000)
  (hfl : ∀ x ∈ kids, ∀ y l, f x y = some l → l.length ≤ (ser x).length)
  (hs : ∀ x ∈ kids, ∀ y ∈ ps, ∀ vars : List Vl, vars.length + (ser x).length ≤ 137438953472 → MSpec (f x y) vars (self x y vars)) (vars : List Vl) (hv : vars.length + (sers kids).length ≤ 137438953472) :
  MSpec (mts f kids ps) vars (m_pattern_each self kids ps vars) := by
 have hFU := FU_ge
 unfold m_pattern_each
 simp only [jn_eq]
 by_cases hk : kids.length = ps.length
 ·rw [if_neg (by omega)]
  have := pEach_loop self f kids ps hk hkl hfl hs kids.length 0 FU vars (by omega) (by omega) hv
  rw [Int.natCast_zero] at this
  exact this
 ·rw [if_pos (by omega)]
  exact .inr ⟨mts_ne hk, [], rfl⟩
theorem MSpec.pair {o : Option (List Vl)} {vars : List Vl} {r : Option (List Vl × Bool)} (h : MSpec o vars r) : MSpec o vars (bnd1 r (fun y => some (y.1, y.2))) := by
 rcases h with ⟨l, e1, e2⟩ | ⟨e1, x, e2⟩
 ·exact .inl ⟨l, e1, by rw [e2, bnd1_mk]⟩
 ·exact .inr ⟨e1, x, by rw [e2, bnd1_mk]⟩
theorem dot_pos {v : Vl} (h : kindW v = 7) : 1 ≤ (prtW v).length := by
 have h1 := ((prtW_spec v).2.2.2.2 (by omega) (by omega)).1
 have h0 : gi v 0 = 7 := kind_gi (by rw [h]; rfl) (by decide)
 rw [h0] at h1
 simp [formedB] at h1
 exact h1.1
set_option maxRecDepth 10000 in
theorem pMatch : ∀ (k n : Nat) (t : Nd) (v : Vl) (vars : List Vl), k < n → OkT k t → (ser t).length ≤ 1000000 → vars.length + (ser t).length ≤ 137438953472 → MSpec (mt k t v) vars (m_pattern_node_match_S n t v vars) := by
 intro k
 induction k with
 | zero => intro n t v vars _ h; exact absurd h not_ok0
 | succ k ih =>
  intro n t v vars hn hok hs hv
  obtain ⟨n, rfl⟩ : ∃ j, n = j + 1 := ⟨n - 1, by omega⟩
  cases hok with | @mk _ op a kids hf hk =>
  rw [ser_mk, List.length_cons] at hs hv
  have hkl := sers_len (fun x hx => (hk x hx).pr)
  have hFU := FU_ge
  have hun : unN (.mk op a kids) = some (op, a, kids) := rfl
  have each : ∀ ps : List Vl, MSpec (mts (mt k) kids ps) vars (m_pattern_each (m_pattern_node_match_S n) kids ps vars) := fun ps => by
   refine pEach _ _ kids ps (by omega) (fun x _ y l h => mt_len h) (fun x hx y _ vs hvs => ih n x y vs (by omega) (hk x hx) ?_ hvs) vars (by omega)
   obtain ⟨s, t, rfl⟩ := List.append_of_mem hx
   rw [sers_app, sers_cons] at hs
   simp at hs; omega
  rw [m_pattern_node_match_S, m_pattern_node_match_F, vKind, bnd1_mk, vPartsW, bnd1_mk, hun, bnd1_mk]
  unfold m_pattern_node_compound
  simp only [jn_eq, hun, bnd1_mk, vNum]
  rw [mt]
  by_cases c1 : op = 30
  ·rw [if_pos c1, if_pos c1, need_pos (by simp; omega)]; exact .inl ⟨[v], rfl, rfl⟩
  rw [if_neg c1, if_neg c1]
  by_cases c2 : op = 31
  ·rw [if_pos c2, if_pos c2]; exact .inl ⟨[], rfl, by simp⟩
  rw [if_neg c2, if_neg c2]
  by_cases c3 : op = 32
  ·rw [if_pos c3, if_pos c3]
   by_cases h1 : kindW v = 1 <;> by_cases h2 : numW v = a
   ·exact .inl ⟨[], by simp [h1, h2], by simp [h1, h2]⟩
   all_goals exact .inr ⟨by simp [h1, h2], vars, by simp [h1, h2]⟩
  rw [if_neg c3, if_neg c3]
  by_cases c4 : op = 33
  ·rw [if_pos c4, if_pos c4]
   by_cases h1 : kindW v = 2 <;> by_cases h2 : numW v = a
   ·exact .inl ⟨[], by simp [h1, h2], by simp [h1, h2]⟩
   all_goals exact .inr ⟨by simp [h1, h2], vars, by simp [h1, h2]⟩
  rw [if_neg c4, if_neg c4]
  by_cases c5 : op = 34
  ·rw [if_pos c5]
   unfold subP
   rw [if_pos c5]
   by_cases h1 : kindW v = 3
   ·simp only [h1, decide_true, Bool.not_true, Bool.false_eq_true, if_false, if_true]
    exact (each _).pair.pair
   ·simp only [h1, decide_false, Bool.not_false, if_true, if_false, bnd1_mk]
    exact .inr ⟨rfl, [], rfl⟩
  rw [if_neg c5]
  by_cases c6 : op = 35
  ·rw [if_pos c6]
   unfold subP
   rw [if_neg c5, if_pos c6]
   by_cases h1 : kindW v = 4
   ·simp only [h1, decide_true, Bool.not_true, Bool.false_eq_true, if_false, if_true]
    exact (each _).pair.pair
   ·simp only [h1, decide_false, Bool.not_false, if_true, if_false, bnd1_mk]
    exact .inr ⟨rfl, [], rfl⟩
  rw [if_neg c6]
  by_cases c7 : op = 37
  ·rw [if_pos c7]
   unfold subP
   rw [if_neg c5, if_neg c6, if_pos c7]
   by_cases h1 : kindW v = 5
   ·simp only [h1, decide_true, Bool.not_true, Bool.false_eq_true, if_false, if_true]
    exact (each _).pair.pair
   ·simp only [h1, decide_false, Bool.not_false, if_true, if_false, bnd1_mk]
    exact .inr ⟨rfl, [], rfl⟩
  rw [if_neg c7]
  by_cases c8 : op = 38
  ·rw [if_pos c8]
   unfold subP
   rw [if_neg c5, if_neg c6, if_neg c7, if_pos c8]
   by_cases h1 : kindW v = 7
   ·have hp := dot_pos h1
    by_cases h2 : numW (gi (prtW v) 0) = a
    ·rw [if_pos (show kindW v = 7 ∧ numW (gi (prtW v) 0) = a from ⟨h1, h2⟩), if_neg (show ¬ ¬ kindW v = 7 from fun h => h h1), need_pos (by omega)]
     simp only [h2, not_true_eq_false, decide_false, Bool.false_eq_true, if_false]
     rw [need_pos (by omega)]
     exact (each _).pair
    ·rw [if_neg (show ¬ (kindW v = 7 ∧ numW (gi (prtW v) 0) = a) from fun h => h2 h.2), if_neg (show ¬ ¬ kindW v = 7 from fun h => h h1), need_pos (by omega)]
     simp only [h2, not_false_eq_true, decide_true, if_true]
     exact .inr ⟨rfl, [], rfl⟩
   ·rw [if_neg (show ¬ (kindW v = 7 ∧ numW (gi (prtW v) 0) = a) from fun h => h1 h.1), if_pos (show ¬ kindW v = 7 from h1)]
    simp only [if_true]
    exact .inr ⟨rfl, [], rfl⟩
  rw [if_neg c8]
  by_cases c9 : op = 36
  ·rw [if_pos c9]
   unfold subP
   rw [if_neg c5, if_neg c6, if_neg c7, if_neg c8, if_pos c9]
   subst c9
   simp [fmB] at hf
   obtain ⟨f1, f2, _⟩ := hf
   have q1 := (prtW_spec v).1
   have q2 := (prtW_spec v).2.1
   by_cases h1 : kindW v = 4
   ·rw [if_neg (show ¬ ¬ kindW v = 4 from fun h => h h1), i64_id (x := (kids.length : Int) - 1) (by omega)]
    by_cases h2 : kids.length - 1 ≤ (prtW v).length
    ·rw [if_pos (show kindW v = 4 ∧ kids.length - 1 ≤ (prtW v).length from ⟨h1, h2⟩)]
     have e0 : ¬ ((prtW v).length : Int) < (kids.length : Int) - 1 := by omega
     simp only [e0, decide_false, Bool.false_eq_true, if_false]
     rw [i64_id (x := (kids.length : Int) - 1 - a) (by omega), i64_id (by omega), need_pos (by omega), need_pos (by omega)]
     have e1 : Int.toNat ((prtW v).length - ((kids.length : Int) - 1 - a)) = (prtW v).length - (kids.length - 1 - a.toNat) := by omega
     have e2 : (prtW v).length - (kids.length - 1 - a.toNat) - a.toNat = (prtW v).length - (kids.length - 1) := by omega
     rw [e1, e2, pSeq _ (fun x hx => (q1 x (List.mem_of_mem_drop (List.mem_of_mem_take hx))).len), bnd1_mk, need_pos (by omega), pConcat _ (by simp) (by simp; omega), bnd1_mk]
     have e3 := (each ((prtW v).take a.toNat ++ cmpd 4 (((prtW v).drop a.toNat).take ((prtW v).length - (kids.length - 1))) :: (prtW v).drop ((prtW v).length - (kids.length - 1 - a.toNat)))).pair
     simpa using e3
    ·rw [if_neg (show ¬ (kindW v = 4 ∧ kids.length - 1 ≤ (prtW v).length) from fun h => h2 h.2)]
     have e0 : ((prtW v).length : Int) < (kids.length : Int) - 1 := by omega
     simp only [e0, decide_true, if_true]
     exact .inr ⟨rfl, [], rfl⟩
   ·rw [if_neg (show ¬ (kindW v = 4 ∧ kids.length - 1 ≤ (prtW v).length) from fun h => h1 h.1), if_pos (show ¬ kindW v = 4 from h1)]
    simp only [if_true]
    exact .inr ⟨rfl, [], rfl⟩
  rw [if_neg c9]
  by_cases c10 : op = 40
  ·rw [if_pos c10]
   unfold subP
   rw [if_neg c5, if_neg c6, if_neg c7, if_neg c8, if_neg c9, if_pos c10]
   exact (each [v, v]).pair
  rw [if_neg c10]
  unfold subP
  rw [if_neg c5, if_neg c6, if_neg c7, if_neg c8, if_neg c9, if_neg c10]
  exact .inr ⟨rfl, [], rfl⟩
theorem pClipL (l : List Vl) : m_slices_Clip_L_api_Value_api_Value l = some l := vClip l
noncomputable def matchW (p : List Cd) (v : Vl) : Option (List Vl) := match parse p with
 | none => none
 | some t => if vldB v = true then mt 64 t v else none
theorem pMatchW (p : List Cd) (v : Vl) (hl : p.length ≤ 1048576) : m_pattern_Match p v = some (match matchW p v with | none => ([], false) | some l => (l, true)) := by
 have hFU := FU_ge
 unfold m_pattern_Match matchW m_pattern_node_match
 simp only [jn_eq]
 rcases pWhole p hl with ⟨t, e1, e2⟩ | ⟨e1, t, e2⟩
 ·obtain ⟨rfl, hok, h8⟩ := parse_some.1 e1
  rw [e2, bnd1_mk, e1]
  simp only [Bool.not_true, Bool.false_eq_true, if_false]
  rw [vValid, bnd1_mk]
  cases hv : vldB v with
  | false => simp
  | true =>
   simp only [Bool.not_true, Bool.false_eq_true, if_false, if_true]
   rcases pMatch 64 FU t v [] (by omega) hok (by omega) (by simp; omega) with ⟨l, h1, h2⟩ | ⟨h1, x, h2⟩
   ·rw [h2, h1, bnd1_mk]
    simp only [Bool.not_true, Bool.false_eq_true, if_false, List.nil_append]
    rw [pClipL, bnd1_mk]
   ·rw [h2, h1, bnd1_mk]
    simp
 ·rw [e2, bnd1_mk, e1]
  simp
end Go.Proofs.YtpfdeahcjlfijaaGreat
/- Building values, and properties of all nodes. -/
namespace Go.Proofs.YtpfdeahcjlfijaaGreat
attribute [local irreducible] FU

mutual
def allT (g : Nd → Bool) : Nd → Bool
 | .nil => g .nil
 | .mk op n kids => g (.mk op n kids) && allTs g kids
def allTs (g : Nd → Bool) : List Nd → Bool
 | [] => true
 | k :: l => allT g k && allTs g l
end
theorem allT_mk (g : Nd → Bool) (op n : Int) (kids : List Nd) : allT g (.mk op n kids) = (g (.mk op n kids) && allTs g kids) := by rw [allT]
theorem allTs_all (g : Nd → Bool) : ∀ l : List Nd, allTs g l = l.all (allT g)
 | [] => by rw [allTs]; rfl
 | k :: l => by rw [allTs, allTs_all g l]; rfl
def hd : Nd → Cd
 | .nil => (0, 0, 0)
 | .mk op n kids => (op, n, (kids.length : Int))
mutual
theorem allT_ser (c : Cd → Bool) : ∀ t, Pr t → allT (fun t => c (hd t)) t = (ser t).all c
 | .nil, h => by cases h
 | .mk op n kids, h => by
  rw [allT_mk, ser_mk, List.all_cons, allTs_ser c kids h.kids]; rfl
theorem allTs_ser (c : Cd → Bool) : ∀ l, (∀ x ∈ l, Pr x) → allTs (fun t => c (hd t)) l = (sers l).all c
 | [], _ => by rw [allTs, sers_nil]; rfl
 | k :: l, h => by
  rw [allTs, sers_cons, List.all_append, allT_ser c k (h k (by simp)), allTs_ser c l (fun x hx => h x (by simp [hx]))]
end
theorem pContains (f : Nd → Option Bool) (g : Nd → Bool) (l : List Nd) (hf : ∀ x ∈ l, f x = some (g x)) (hl : l.length ≤ 1099511627776) : m_slices_ContainsFunc_L_pattern_node_pattern_node l f = some (l.any g) := by
 have hFU := FU_ge
 unfold m_slices_ContainsFunc_L_pattern_node_pattern_node m_slices_IndexFunc_L_pattern_node_pattern_node
 rw [jn_eq]
 have loop : ∀ (m i n : Nat), i + m = l.length → m < n → ∃ r, m_slices_IndexFunc_L_pattern_node_pattern_node_L2 l f (fun _ => some (-1)) n i = some r ∧ decide (0 ≤ r) = (l.drop i).any g := by
  intro m
  induction m with
  | zero =>
   intro i n hi hn
   obtain ⟨n, rfl⟩ : ∃ k, n = k + 1 := ⟨n - 1, by omega⟩
   refine ⟨-1, by rw [m_slices_IndexFunc_L_pattern_node_pattern_node_L2, m_slices_IndexFunc_L_pattern_node_pattern_node_B2, if_neg (by omega)], ?_⟩
   rw [List.drop_eq_nil_of_le (by omega)]; rfl
  | succ m ih =>
   intro i n hi hn
   obtain ⟨n, rfl⟩ : ∃ k, n = k + 1 := ⟨n - 1, by omega⟩
   have hil : i < l.length := by omega
   rw [m_slices_IndexFunc_L_pattern_node_pattern_node_L2, m_slices_IndexFunc_L_pattern_node_pattern_node_B2, if_pos (by omega), need_pos (by omega), gi_nat hil, hf _ (List.getElem_mem hil), bnd1_mk, List.drop_eq_getElem_cons hil, List.any_cons]
   cases hp : g l[i] with
   | true => exact ⟨i, rfl, by simp⟩
   | false =>
    rw [if_neg (by simp), i64_succ (by omega)]
    obtain ⟨r, h1, h2⟩ := ih (i + 1) n (by omega) (by omega)
    exact ⟨r, h1, by rw [h2]; simp⟩
 obtain ⟨r, h1, h2⟩ := loop l.length 0 FU (by omega) (by omega)
 rw [Int.natCast_zero] at h1
 rw [h1, bnd1_mk, h2, List.drop_zero]
theorem pAll (f : Nd → Option Bool) (g : Nd → Bool) (hf : ∀ t, Pr t → f t = some (g t)) : ∀ (k n : Nat) (t : Nd), k < n → OkT k t → (ser t).length ≤ 1000000 → m_pattern_node_all_S n t f = some (allT g t) := by
 intro k
 induction k with
 | zero => intro n t _ h; exact absurd h not_ok0
 | succ k ih =>
  intro n t hn hok hs
  obtain ⟨n, rfl⟩ : ∃ j, n = j + 1 := ⟨n - 1, by omega⟩
  cases hok with | @mk _ op a kids hfm hk =>
  rw [ser_mk, List.length_cons] at hs
  have hkl := sers_len (fun x hx => (hk x hx).pr)
  rw [m_pattern_node_all_S, m_pattern_node_all_F, jn_eq, hf _ (.mk fun x hx => (hk x hx).pr), bnd1_mk, allT_mk]
  cases hg : g (.mk op a kids) with
  | false => rfl
  | true =>
   rw [if_pos rfl, show unN (.mk op a kids) = some (op, a, kids) from rfl, bnd1_mk, pContains _ (fun x => ! allT g x) kids (fun x hx => by
    unfold m_pattern_node_all_1
    rw [ih n x (by omega) (hk x hx) (by obtain ⟨s, t, rfl⟩ := List.append_of_mem hx; rw [sers_app, sers_cons] at hs; simp at hs; omega), bnd1_mk]) (by omega), bnd1_mk, allTs_all]
   congr 1
   induction kids with
   | nil => rfl
   | cons x l _ => simp [List.all_eq_not_any_not]

def cntV (l : List Cd) : Nat := (l.filter fun c => decide (c.1 = 30)).length
theorem cntV_app (a b : List Cd) : cntV (a ++ b) = cntV a + cntV b := by simp [cntV]
theorem cntV_cons (c : Cd) (l : List Cd) : cntV (c :: l) = (if c.1 = 30 then 1 else 0) + cntV l := by
 unfold cntV
 by_cases h : c.1 = 30
 ·simp [h]; omega
 ·simp [h]
theorem cntV_le (a : List Cd) : cntV a ≤ a.length := List.length_filter_le _ _
theorem pVars (p : List Cd) (hl : p.length ≤ 1000000000) : m_pattern_Vars p = some (cntV p : Int) := by
 have hFU := FU_ge
 unfold m_pattern_Vars
 rw [jn_eq]
 have loop : ∀ (m i n s : Nat), i + m = p.length → m < n → s + m ≤ 1000000000 → m_pattern_Vars_L2 p (fun x => some x) n (s : Int) (i : Int) = some ((s + cntV (p.drop i) : Nat) : Int) := by
  intro m
  induction m with
  | zero =>
   intro i n s hi hn hs
   obtain ⟨n, rfl⟩ : ∃ k, n = k + 1 := ⟨n - 1, by omega⟩
   rw [m_pattern_Vars_L2, m_pattern_Vars_B2, if_neg (by omega), List.drop_eq_nil_of_le (by omega)]; rfl
  | succ m ih =>
   intro i n s hi hn hs
   obtain ⟨n, rfl⟩ : ∃ k, n = k + 1 := ⟨n - 1, by omega⟩
   have hil : i < p.length := by omega
   rw [m_pattern_Vars_L2, m_pattern_Vars_B2, if_pos (by omega), jn_eq, need_pos (by omega), gi_nat hil, List.drop_eq_getElem_cons hil, i64_succ (by omega)]
   by_cases h : (p[i]).1 = 30
   ·rw [if_pos h, i64_succ (by omega)]
    show m_pattern_Vars_L2 p (fun x => some x) n ((s + 1 : Nat) : Int) ((i + 1 : Nat) : Int) = _
    rw [ih (i + 1) n (s + 1) (by omega) (by omega) (by omega)]
    rw [cntV_cons, if_pos h]
    congr 2
    omega
   ·rw [if_neg h]
    show m_pattern_Vars_L2 p (fun x => some x) n (s : Int) ((i + 1 : Nat) : Int) = _
    rw [ih (i + 1) n s (by omega) (by omega) (by omega)]
    rw [cntV_cons, if_neg h]
    congr 2
    omega
 have := loop p.length 0 FU 0 (by omega) (by omega) (by omega)
 simp only [Int.natCast_zero, Nat.zero_add, List.drop_zero] at this
 exact this

def irrC (c : Cd) : Bool := decide (c.1 = 30 ∨ c.1 = 31 ∨ c.1 = 34 ∨ c.1 = 40)
def nbC (c : Cd) : Bool := decide (c.1 ≠ 31 ∧ c.1 ≠ 40 ∧ c.1 ≠ 39)
theorem pIrr1 (t : Nd) (h : Pr t) : m_pattern_Irrefutable_1 t = some (irrC (hd t)) := by
 cases h with | @mk op n kids h =>
 unfold m_pattern_Irrefutable_1
 simp only [jn_eq, show unN (.mk op n kids) = some (op, n, kids) from rfl, bnd1_mk]
 unfold irrC hd
 by_cases h1 : op = 30 <;> by_cases h2 : op = 31 <;> by_cases h3 : op = 34 <;> by_cases h4 : op = 40 <;> simp [h1, h2, h3, h4]
theorem pBuild1 (t : Nd) (h : Pr t) : m_pattern_Build_1 t = some (nbC (hd t)) := by
 cases h with | @mk op n kids h =>
 unfold m_pattern_Build_1
 simp only [jn_eq, show unN (.mk op n kids) = some (op, n, kids) from rfl, bnd1_mk]
 unfold nbC hd
 by_cases h1 : op = 31 <;> by_cases h2 : op = 40 <;> by_cases h3 : op = 39 <;> simp [h1, h2, h3]
noncomputable def irrW (p : List Cd) : Bool := (parse p).isSome && p.all irrC
theorem pIrrW (p : List Cd) (hl : p.length ≤ 1048576) : m_pattern_Irrefutable p = some (irrW p) := by
 have hFU := FU_ge
 unfold m_pattern_Irrefutable irrW m_pattern_node_all
 rcases pWhole p hl with ⟨t, e1, e2⟩ | ⟨e1, t, e2⟩
 ·obtain ⟨rfl, hok, h8⟩ := parse_some.1 e1
  rw [e2, bnd1_mk, e1, jn_eq]
  simp only [if_true]
  rw [pAll _ (fun t => irrC (hd t)) pIrr1 64 FU t (by omega) hok (by omega), bnd1_mk, allT_ser _ _ hok.pr]; rfl
 ·rw [e2, bnd1_mk, e1, jn_eq]; rfl

def bds (f : Nd → List Vl → Vl × List Vl) : List Nd → List Vl → List Vl × List Vl
 | [], l => ([], l)
 | x :: xs, l => ((f x l).1 :: (bds f xs (f x l).2).1, (bds f xs (f x l).2).2)
def boolW (b : Bool) : Vl := if b then [2, 1] else [2, 0]
noncomputable def finW (op n : Int) (ps : List Vl) : Vl :=
 if op = 34 then cmpd 3 ps else if op = 35 then cmpd 4 ps else if op = 37 then setW ps
 else if op = 38 then (if n < 0 ∨ 65536 ≤ n then [] else cmpd 7 (nameW n :: ps))
 else if kindW (gi ps n) = 4 then cmpd 4 (ps.take n.toNat ++ prtW (gi ps n) ++ ps.drop (n.toNat + 1)) else []
noncomputable def bd : Nat → Nd → List Vl → Vl × List Vl
 | 0, _, l => ([], l)
 | _ + 1, .nil, l => ([], l)
 | k + 1, .mk op n kids, l =>
  if op = 30 then (gi l 0, l.drop 1)
  else if op = 32 then (intW n, l)
  else if op = 33 then (boolW (decide (n = 1)), l)
  else (finW op n (bds (bd k) kids l).1, (bds (bd k) kids l).2)
theorem bds_len (f : Nd → List Vl → Vl × List Vl) : ∀ (kids : List Nd) (l : List Vl), (bds f kids l).1.length = kids.length
 | [], _ => rfl
 | x :: xs, l => by simp [bds, bds_len f xs]
theorem cmpd_len (c : UInt8) (l : List Vl) : (cmpd c l).length ≤ 131072 := by
 by_cases h : cmpd c l = []
 ·rw [h]; simp
 ·have := cmpd_ne.1 h
  rw [cmpd_yes this]; exact this.2.2.2
theorem finW_len (op n : Int) (ps : List Vl) : (finW op n ps).length ≤ 131072 := by
 unfold finW
 repeat' split
 all_goals first | exact cmpd_len _ _ | exact cmpd_len 5 _ | simp
theorem intW_vd (n : Int) : Vd (intW n) := ⟨(intW_IsV n 31), by rw [intW_len]; omega⟩
theorem boolW_vd (b : Bool) : Vd (boolW b) := by
 cases b
 ·exact ⟨.bool 31 0 (by decide), by simp [boolW]⟩
 ·exact ⟨.bool 31 1 (by decide), by simp [boolW]⟩
theorem pTuple (l : List Vl) (hx : ∀ x ∈ l, x.length ≤ 1099511627776) : m_value_Tuple l = some (cmpd 3 l) := by
 unfold m_value_Tuple
 have := vCompound 3 l hx
 rw [show ((3 : UInt8).toNat : Int) = 3 from rfl] at this
 rw [this, bnd1_mk]
theorem pName {k : Int} (h0 : 0 ≤ k) (h1 : k ≤ 65535) : m_value_Name k = some (nameW k) := by
 unfold m_value_Name
 simp only [jn_eq]
 unfold m_value_append16
 have e : IntKind.u16.wrap k = k := by
  unfold IntKind.wrap IntKind.bits IntKind.signed
  simp; omega
 rw [if_neg (by omega), if_neg (by simp; omega), e, need_pos (by simp), show (2 : Int) ^ min (Int.toNat 8) IntKind.u16.bits = 256 from rfl, Int.fdiv_eq_ediv_of_nonneg _ (by omega), bnd1_mk]; rfl
theorem pDot {k : Int} (h0 : 0 ≤ k) (h1 : k ≤ 65535) (l : List Vl) (hl : l.length ≤ 1000000000) (hx : ∀ x ∈ l, x.length ≤ 1099511627776) : m_value_Dot k l = some (cmpd 7 (nameW k :: l)) := by
 unfold m_value_Dot
 have := vCompound 7 ([nameW k] ++ l) (fun x h => by
  rcases List.mem_cons.1 h with rfl | h
  ·simp [nameW]
  ·exact hx x h)
 rw [show ((7 : UInt8).toNat : Int) = 7 from rfl] at this
 rw [pName h0 h1, bnd1_mk, need_pos (by simp; omega), this, bnd1_mk]; rfl
def BSpec (t : Nd) (l : List Vl) (b : Vl × List Vl) (r : Option (Vl × List Vl)) : Prop := r = some b ∧ b.2 = l.drop (cntV (ser t)) ∧ b.1.length ≤ 1048576
theorem pBuild_loop (self : Nd → List Vl → Option (Vl × List Vl)) (f : Nd → List Vl → Vl × List Vl) (K : List Vl → List Vl → Option (Vl × List Vl)) (op a : Int) (kids : List Nd) (hkl : kids.length ≤ 1000000)
  (hs : ∀ x ∈ kids, ∀ l : List Vl, cntV (ser x) ≤ l.length → (∀ y ∈ l, y.length ≤ 1048576) → BSpec x l (f x l) (self x l)) :
  ∀ (m i n : Nat) (l out : List Vl), i + m = kids.length → m < n → out.length = i → cntV (sers (kids.drop i)) ≤ l.length → (∀ y ∈ l, y.length ≤ 1048576) →
   m_pattern_node_build_L2 self K (op, a, kids) n l out (i : Int) = K (bds f (kids.drop i) l).2 (out ++ (bds f (kids.drop i) l).1) ∧ (bds f (kids.drop i) l).2 = l.drop (cntV (sers (kids.drop i))) ∧ ∀ y ∈ (bds f (kids.drop i) l).1, y.length ≤ 1048576 := by
 intro m
 induction m with
 | zero =>
  intro i n l out hi hn ho hc hl
  obtain ⟨n, rfl⟩ : ∃ j, n = j + 1 := ⟨n - 1, by omega⟩
  rw [List.drop_eq_nil_of_le (by omega), m_pattern_node_build_L2, m_pattern_node_build_B2, if_neg (by simp; omega)]
  simp [bds, sers_nil, cntV]
 | succ m ih =>
  intro i n l out hi hn ho hc hl
  obtain ⟨n, rfl⟩ : ∃ j, n = j + 1 := ⟨n - 1, by omega⟩
  have h1 : i < kids.length := by omega
  rw [List.drop_eq_getElem_cons h1, sers_cons, cntV_app] at hc
  obtain ⟨e1, e2, e3⟩ := hs _ (List.getElem_mem h1) l (by omega) hl
  rw [List.drop_eq_getElem_cons h1, m_pattern_node_build_L2, m_pattern_node_build_B2, if_pos (by simp; omega), need_pos (by simp; omega)]
  simp only [gi_nat h1]
  rw [e1, bnd1_mk, need_pos (by simp; omega), i64_succ (by omega)]
  obtain ⟨g1, g2, g3⟩ := ih (i + 1) n (f kids[i] l).2 (out ++ [(f kids[i] l).1]) (by omega) (by omega) (by simp [ho]) (by rw [e2, List.length_drop]; omega) (fun y hy => hl y (by rw [e2] at hy; exact List.mem_of_mem_drop hy))
  rw [g1]
  refine ⟨by simp [bds], ?_, fun y hy => ?_⟩
  ·rw [bds, g2, e2, sers_cons, cntV_app, List.drop_drop]
  ·rw [bds] at hy
   rcases List.mem_cons.1 hy with rfl | hy
   ·exact e3
   ·exact g3 y hy
theorem gi_drop_len {l : List Vl} (h : 0 < l.length) (hl : ∀ y ∈ l, y.length ≤ 1048576) : (gi l 0).length ≤ 1048576 := hl _ (gi_mem (by omega) (by omega))
theorem fm_kids0 {op n : Int} {kids : List Nd} (h : fmB op n kids = true) (ho : op = 30 ∨ op = 31 ∨ op = 32 ∨ op = 33) : kids = [] := by
 unfold fmB at h
 rcases ho with rfl | rfl | rfl | rfl <;> simp at h
 ·exact h.1
 ·exact h.1
 ·exact h
 ·exact h.1
set_option maxRecDepth 10000 in
theorem pBuild : ∀ (k n : Nat) (t : Nd) (l : List Vl), k < n → OkT k t → (ser t).all nbC = true → (ser t).length ≤ 1000000 → cntV (ser t) ≤ l.length → (∀ y ∈ l, y.length ≤ 1048576) → BSpec t l (bd k t l) (m_pattern_node_build_S n t l) := by
 intro k
 induction k with
 | zero => intro n t _ _ h; exact absurd h not_ok0
 | succ k ih =>
  intro n t l hn hok hb hs hc hl
  obtain ⟨n, rfl⟩ : ∃ j, n = j + 1 := ⟨n - 1, by omega⟩
  cases hok with | @mk _ op a kids hf hk =>
  rw [ser_mk] at hb hs hc
  rw [List.length_cons] at hs
  rw [List.all_cons, Bool.and_eq_true] at hb
  obtain ⟨hb1, hb2⟩ := hb
  simp only [nbC, decide_eq_true_eq] at hb1
  have hkl := sers_len (fun x hx => (hk x hx).pr)
  have hFU := FU_ge
  have hun : unN (.mk op a kids) = some (op, a, kids) := rfl
  unfold BSpec
  rw [m_pattern_node_build_S, m_pattern_node_build_F, ser_mk, bd]
  simp only [hun, bnd1_mk, jn_eq]
  by_cases c1 : op = 30
  ·subst c1
   obtain rfl := fm_kids0 hf (.inl rfl)
   have hc' : 1 ≤ l.length := by simpa [cntV, sers_nil] using hc
   rw [if_pos rfl, if_pos rfl, need_pos (by omega), need_pos (by omega)]
   exact ⟨rfl, by simp [cntV, sers_nil], gi_drop_len (by omega) hl⟩
  rw [if_neg c1, if_neg c1]
  by_cases c2 : op = 32
  ·subst c2
   obtain rfl := fm_kids0 hf (.inr (.inr (.inl rfl)))
   rw [if_pos rfl, if_pos rfl, vInt, bnd1_mk]
   exact ⟨rfl, by simp [cntV, sers_nil], by rw [intW_len]; omega⟩
  rw [if_neg c2, if_neg c2]
  by_cases c3 : op = 33
  ·subst c3
   obtain rfl := fm_kids0 hf (.inr (.inr (.inr rfl)))
   rw [if_pos rfl, if_pos rfl]
   refine ⟨?_, by simp [cntV, sers_nil], ?_⟩
   ·unfold m_value_Bool boolW
    by_cases h : a = 1 <;> simp [h, bnd1_mk]
   ·unfold boolW; split <;> simp
  rw [if_neg c3, if_neg c3]
  have hc2 : cntV ((op, a, (kids.length : Int)) :: sers kids) = cntV (sers kids) := by simp [cntV, c1]
  rw [hc2] at hc
  rw [hc2]
  have sub : ∀ x ∈ kids, (ser x).length ≤ 1000000 ∧ (ser x).all nbC = true := fun x hx => by
   obtain ⟨s, t, rfl⟩ := List.append_of_mem hx
   rw [sers_app, sers_cons] at hs hb2
   rw [List.all_append, List.all_append] at hb2
   simp only [Bool.and_eq_true] at hb2
   simp at hs
   exact ⟨by omega, hb2.2.1⟩
  have hloop := fun K => pBuild_loop (m_pattern_node_build_S n) (bd k) K op a kids (by omega) (fun x hx l' h1 h2 => ih n x l' (by omega) (hk x hx) (sub x hx).2 (sub x hx).1 h1 h2) kids.length 0 FU l [] (by omega) (by omega) rfl (by simpa using hc) hl
  simp only [Int.natCast_zero, List.drop_zero, List.nil_append] at hloop
  obtain ⟨_, g2, g3⟩ := hloop (fun _ _ => none)
  have gl := bds_len (bd k) kids l
  rw [(hloop _).1]
  have hbig : ∀ x ∈ (bds (bd k) kids l).1, x.length ≤ 1099511627776 := fun x hx => by have := g3 x hx; omega
  refine ⟨?_, g2, Nat.le_trans (finW_len op a (bds (bd k) kids l).1) (by omega)⟩
  unfold finW
  by_cases c4 : op = 34
  ·rw [if_pos c4, if_pos c4, pTuple _ hbig, bnd1_mk]
  rw [if_neg c4, if_neg c4]
  by_cases c5 : op = 35
  ·rw [if_pos c5, if_pos c5, pSeq _ hbig, bnd1_mk]
  rw [if_neg c5, if_neg c5]
  by_cases c6 : op = 37
  ·rw [if_pos c6, if_pos c6, vSet _ (by omega) hbig, bnd1_mk]
  rw [if_neg c6, if_neg c6]
  by_cases c7 : op = 38
  ·rw [if_pos c7, if_pos c7]
   by_cases h1 : a < 0
   ·rw [if_pos h1, if_pos (show a < 0 ∨ 65536 ≤ a from .inl h1)]; rfl
   ·rw [if_neg h1]
    by_cases h2 : 65536 ≤ a
    ·rw [decide_eq_true h2, if_pos rfl, if_pos (show a < 0 ∨ 65536 ≤ a from .inr h2)]
    ·rw [decide_eq_false h2, if_neg (by simp), if_neg (show ¬ (a < 0 ∨ 65536 ≤ a) by omega), pDot (by omega) (by omega) _ (by omega) hbig, bnd1_mk]
  rw [if_neg c7, if_neg c7]
  have c8 : op = 36 := by
   unfold fmB at hf
   have hn2 := hb1
   by_cases h : op = 36
   ·exact h
   ·simp [c1, c2, c3, c4, c5, c6, c7, h, hb1.1, hb1.2.1, hb1.2.2] at hf
  subst c8
  simp [fmB] at hf
  obtain ⟨f1, f2, _⟩ := hf
  rw [need_pos (by omega), vKind, bnd1_mk]
  by_cases h4 : kindW (gi (bds (bd k) kids l).1 a) = 4
  ·rw [if_neg (fun h => h h4), if_pos h4, need_pos (by omega), vPartsW, bnd1_mk, i64_id (by omega), need_pos (by omega)]
   have q1 := (prtW_spec (gi (bds (bd k) kids l).1 a)).1
   have q2 := (prtW_spec (gi (bds (bd k) kids l).1 a)).2.1
   have e1 : Int.toNat (a + 1) = a.toNat + 1 := by omega
   rw [e1, pConcat _ (by simp) (by simp; omega), bnd1_mk]
   have e2 : [List.take a.toNat (bds (bd k) kids l).1, prtW (gi (bds (bd k) kids l).1 a), List.drop (a.toNat + 1) (bds (bd k) kids l).1].flatten = List.take a.toNat (bds (bd k) kids l).1 ++ prtW (gi (bds (bd k) kids l).1 a) ++ List.drop (a.toNat + 1) (bds (bd k) kids l).1 := by simp
   rw [e2, pSeq _ (fun x hx => by
    simp only [List.mem_append] at hx
    rcases hx with (hx | hx) | hx
    ·exact hbig x (List.mem_of_mem_take hx)
    ·exact (q1 x hx).len
    ·exact hbig x (List.mem_of_mem_drop hx)), bnd1_mk]
  ·rw [if_pos h4, if_neg h4]
noncomputable def buildW (p : List Cd) (l : List Vl) : Vl × Bool := match parse p with
 | none => ([], false)
 | some t => if p.all nbC = true ∧ cntV p = l.length ∧ vldB (bd 64 t l).1 = true then ((bd 64 t l).1, true) else ([], false)
theorem pBuildW (p : List Cd) (l : List Vl) (hl : p.length ≤ 1048576) (hx : ∀ y ∈ l, y.length ≤ 1048576) : m_pattern_Build p l = some (buildW p l) := by
 have hFU := FU_ge
 unfold m_pattern_Build buildW m_pattern_node_all m_pattern_node_build
 simp only [jn_eq]
 rcases pWhole p hl with ⟨t, e1, e2⟩ | ⟨e1, t, e2⟩
 ·obtain ⟨rfl, hok, h8⟩ := parse_some.1 e1
  rw [e2, bnd1_mk, e1]
  simp only [if_true]
  rw [pAll _ (fun t => nbC (hd t)) pBuild1 64 FU t (by omega) hok (by omega), bnd1_mk, allT_ser _ _ hok.pr]
  cases hb : (ser t).all nbC with
  | false => simp
  | true =>
   simp only [Bool.not_true, Bool.false_eq_true, if_false, true_and]
   rw [pVars _ (by omega), bnd1_mk]
   by_cases hc : cntV (ser t) = l.length
   ·have hc' : (l.length : Int) = (cntV (ser t) : Int) := by omega
    simp only [hc', not_true_eq_false, decide_false, Bool.false_eq_true, if_false, hc, true_and]
    obtain ⟨g1, _, _⟩ := pBuild 64 FU t l (by omega) hok hb (by omega) (by omega) hx
    rw [g1, bnd1_mk, vValid, bnd1_mk]
    cases vldB (bd 64 t l).1 <;> simp
   ·have hc' : ¬ (l.length : Int) = (cntV (ser t) : Int) := by omega
    simp only [hc', not_false_eq_true, decide_true, if_true, hc, false_and, if_false]
 ·rw [e2, bnd1_mk, e1]
  simp
end Go.Proofs.YtpfdeahcjlfijaaGreat
/- Patterns of variables around a rest; the fixed example of layer 12. -/
namespace Go.Proofs.YtpfdeahcjlfijaaGreat
attribute [local irreducible] FU

def nodeW (op n : Int) (ls : List (List Cd)) : List Cd := (op, n, (ls.length : Int)) :: ls.flatten
theorem sers_flat : ∀ l : List Nd, sers l = (l.map ser).flatten
 | [] => by rw [sers_nil]; rfl
 | k :: l => by rw [sers_cons, sers_flat l]; rfl
theorem ser_node (op n : Int) (kids : List Nd) : ser (.mk op n kids) = nodeW op n (kids.map ser) := by rw [ser_mk, sers_flat, nodeW, List.length_map]
theorem lNode (op n : Int) (ls : List (List Cd)) (hl : ls.length ≤ 1000000000) (hs : ls.flatten.length ≤ 1000000000) : m_law12_node op n ls = some (nodeW op n ls) := by
 have hFU := FU_ge
 unfold m_law12_node
 rw [jn_eq]
 have loop : ∀ (m i q : Nat) (s : List Cd), i + m = ls.length → m < q → s ++ (ls.drop i).flatten = nodeW op n ls → m_law12_node_L2 ls (fun x => some x) q s (i : Int) = some (nodeW op n ls) := by
  intro m
  induction m with
  | zero =>
   intro i q s hi hq hs'
   obtain ⟨q, rfl⟩ : ∃ j, q = j + 1 := ⟨q - 1, by omega⟩
   rw [List.drop_eq_nil_of_le (by omega), List.flatten_nil, List.append_nil] at hs'
   rw [m_law12_node_L2, m_law12_node_B2, if_neg (by omega), hs']
  | succ m ih =>
   intro i q s hi hq hs'
   obtain ⟨q, rfl⟩ : ∃ j, q = j + 1 := ⟨q - 1, by omega⟩
   have hil : i < ls.length := by omega
   rw [List.drop_eq_getElem_cons hil, List.flatten_cons, ← List.append_assoc] at hs'
   have hsl := congrArg List.length hs'
   simp only [List.length_append, nodeW, List.length_cons] at hsl
   rw [m_law12_node_L2, m_law12_node_B2, if_pos (by omega), need_pos (by omega), gi_nat hil, need_pos (by omega), i64_succ (by omega)]
   exact ih (i + 1) q _ (by omega) (by omega) hs'
 have := loop ls.length 0 FU [(op, n, (ls.length : Int))] (by omega) (by omega) rfl
 rw [Int.natCast_zero] at this
 exact this
abbrev vr : Nd := .mk 30 0 []
theorem ser_vr : ser vr = [(30, 0, 0)] := by rw [ser_mk, sers_nil]; rfl
theorem vr_ok (k : Nat) : OkT (k + 1) vr := .mk (by decide) (fun x hx => by cases hx)
def catT (a m : Nat) : Nd := .mk 36 a (List.replicate m vr)
theorem cat_ok {a m : Nat} (h : a < m) (k : Nat) : OkT (k + 2) (catT a m) := by
 refine .mk ?_ (fun x hx => by rw [(List.mem_replicate.1 hx).2]; exact vr_ok k)
 have hg : gi (List.replicate m vr) (a : Int) = vr := by rw [gi_nat (by simpa using h)]; simp
 simp [fmB, hg, op0]
 exact h
theorem ser_cat (a m : Nat) : ser (catT a m) = nodeW 36 a (List.replicate m [(30, 0, 0)]) := by
 rw [catT, ser_node, List.map_replicate, ser_vr]
theorem flat_one (m : Nat) (c : Cd) : (List.replicate m [c]).flatten = List.replicate m c := by
 induction m with
 | zero => rfl
 | succ m ih => rw [List.replicate_succ, List.flatten_cons, ih, List.replicate_succ]; rfl
theorem ser_cat_len (a m : Nat) : (ser (catT a m)).length = m + 1 := by rw [ser_cat, nodeW, flat_one]; simp
theorem parse_cat {a m : Nat} (h : a < m) (hm : m ≤ 8000) : parse (ser (catT a m)) = some (catT a m) :=
 parse_some.2 ⟨rfl, cat_ok h 62, by rw [ser_cat_len]; omega⟩
theorem mts_vars (k : Nat) : ∀ (m : Nat) (ps : List Vl), ps.length = m → mts (mt (k + 1)) (List.replicate m vr) ps = some ps
 | 0, ps, h => by rw [List.length_eq_zero_iff.1 h]; simp only [List.replicate_zero, mts]
 | m + 1, [], h => by simp at h
 | m + 1, y :: ps, h => by
  have e : mt (k + 1) vr y = some [y] := by rw [mt, if_pos rfl]
  rw [List.replicate_succ]
  simp only [mts, e, mts_vars k m ps (by simpa using h)]
  rfl
theorem mt_cat {a m : Nat} (h : a < m) {v : Vl} (hk : kindW v = 4) (hl : m - 1 ≤ (prtW v).length) :
  mt 64 (catT a m) v = some ((prtW v).take a ++ cmpd 4 (((prtW v).drop a).take ((prtW v).length - (m - 1))) :: (prtW v).drop ((prtW v).length - (m - 1 - a))) := by
 rw [catT, mt, if_neg (by decide), if_neg (by decide), if_neg (by decide), if_neg (by decide), subP, if_neg (by decide), if_neg (by decide), if_neg (by decide), if_neg (by decide), if_pos rfl, List.length_replicate, if_pos ⟨hk, hl⟩]
 simp only [Int.toNat_natCast]
 exact mts_vars 62 m _ (by simp; omega)
theorem seq_ok {l : List Vl} {k : Nat} (hk : k ≤ 31) (hv : ∀ x ∈ l, IsV k x) (hn : l.length ≤ 65535) (hl : l.flatten.length ≤ 131069) : Vd (cmpd 4 l) ∧ kindW (cmpd 4 l) = 4 ∧ prtW (cmpd 4 l) = l ∧ cmpd 4 l = raw 4 l := by
 have hvd : ∀ x ∈ l, Vd x := fun x hx => ⟨(hv x hx).le (by omega), by
  obtain ⟨s, t, rfl⟩ := List.append_of_mem hx
  simp at hl; omega⟩
 have hc : Vd (raw 4 l) := ⟨(IsV.comp k 4 _ _ l (by decide) (raw_count hn) hv (by simp [formedB])).le (by omega), by rw [raw_len]; omega⟩
 have e := cmpd_yes (c := 4) ⟨hn, hvd, hc⟩
 refine ⟨by rw [e]; exact hc, ?_, ?_, e⟩
 ·rw [e]; unfold kindW; rw [if_pos (vldB_iff.2 hc)]; rfl
 ·rw [e]; unfold prtW; rw [if_pos (vldB_iff.2 hc), prt_raw (by decide) hn hvd]
theorem seq_ints {l : List Int} (hn : l.length ≤ 1000) : Vd (cmpd 4 (l.map intW)) ∧ kindW (cmpd 4 (l.map intW)) = 4 ∧ prtW (cmpd 4 (l.map intW)) = l.map intW ∧ cmpd 4 (l.map intW) = raw 4 (l.map intW) := by
 refine seq_ok (k := 1) (by omega) (fun x hx => ?_) (by simp; omega) ?_
 ·obtain ⟨n, _, rfl⟩ := List.mem_map.1 hx; exact intW_IsV n 0
 ·have := flat_le (l := l.map intW) (c := 9) (fun x hx => by obtain ⟨n, _, rfl⟩ := List.mem_map.1 hx; rw [intW_len]; omega)
  rw [List.length_map] at this; omega
theorem sMake (l : List Vl) (hl : l.length ≤ 1099511627776) : m_ref9_Make 4 l = some (cmpd 4 l) := by
 have := rMake 4 (by decide) l hl
 rwa [show ((4 : UInt8).toNat : Int) = 4 from rfl] at this
theorem bds_vars (k : Nat) : ∀ (m : Nat) (l : List Vl), m ≤ l.length → bds (bd (k + 1)) (List.replicate m vr) l = (l.take m, l.drop m)
 | 0, l, _ => by simp [bds]
 | m + 1, [], h => by simp at h
 | m + 1, y :: l, h => by
  rw [List.replicate_succ, bds]
  have e : bd (k + 1) vr (y :: l) = (y, l) := by rw [bd, if_pos rfl]; rfl
  rw [e, bds_vars k m l (by simpa using h)]; rfl
theorem awake12 : m_law12_awake = some true := by
 unfold m_law12_awake
 have e1 : m_law12_node 30 0 ([] : List (List Cd)) = some [(30, 0, 0)] := lNode 30 0 [] (by simp) (by simp)
 have e2 : m_law12_node 36 1 [[(30, 0, 0)], [(30, 0, 0)]] = some (ser (catT 1 2)) := by rw [ser_cat]; exact lNode 36 1 _ (by simp) (by simp)
 obtain ⟨s1, s2, s3, _⟩ := seq_ints (l := [1, 2]) (by simp)
 obtain ⟨t1, t2, t3, _⟩ := seq_ints (l := [2]) (by simp)
 simp only [List.map_cons, List.map_nil] at s1 s2 s3 t1 t2 t3
 have hp := parse_cat (a := 1) (m := 2) (by omega) (by omega)
 have hlen := ser_cat_len 1 2
 have hM : m_pattern_Match (ser (catT 1 2)) (cmpd 4 [intW 1, intW 2]) = some ([intW 1, cmpd 4 [intW 2]], true) := by
  rw [pMatchW _ _ (by omega), matchW, hp]
  simp only [show vldB (cmpd 4 [intW 1, intW 2]) = true from vldB_iff.2 s1, if_true]
  rw [mt_cat (a := 1) (m := 2) (by omega) s2 (by rw [show prtW (cmpd 4 [intW 1, intW 2]) = [intW 1, intW 2] from s3]; simp)]
  rw [show prtW (cmpd 4 [intW 1, intW 2]) = [intW 1, intW 2] from s3]; rfl
 have hV : cntV (ser (catT 1 2)) = 2 := by rw [ser_cat, nodeW, flat_one]; rfl
 have hB : m_pattern_Build (ser (catT 1 2)) [intW 1, cmpd 4 [intW 2]] = some (cmpd 4 [intW 1, intW 2], true) := by
  rw [pBuildW _ _ (by omega) (fun y hy => by
   simp at hy
   rcases hy with rfl | rfl
   ·rw [intW_len]; omega
   ·exact Nat.le_trans (cmpd_len _ _) (by omega)), buildW, hp]
  have hb : bd 64 (catT 1 2) [intW 1, cmpd 4 [intW 2]] = (cmpd 4 [intW 1, intW 2], []) := by
   rw [catT, bd, if_neg (by decide), if_neg (by decide), if_neg (by decide), bds_vars 62 2 _ (by simp)]
   simp only [List.take, List.drop, finW]
   rw [if_neg (by decide), if_neg (by decide), if_neg (by decide), if_neg (by decide), show gi [intW 1, cmpd 4 [intW 2]] ((1 : Nat) : Int) = cmpd 4 [intW 2] from rfl, if_pos t2, show prtW (cmpd 4 [intW 2]) = [intW 2] from t3]; rfl
  have hn : (ser (catT 1 2)).all nbC = true := by rw [ser_cat, nodeW, flat_one]; rfl
  simp only [hb]
  rw [if_pos ⟨hn, by rw [hV]; rfl, vldB_iff.2 s1⟩]
 have hI : m_pattern_Irrefutable (ser (catT 1 2)) = some false := by
  rw [pIrrW _ (by omega)]
  unfold irrW
  rw [show (ser (catT 1 2)).all irrC = false from by rw [ser_cat, nodeW, flat_one]; rfl, Bool.and_false]
 rw [e1, bnd1_mk, bnd1_mk, e2, bnd1_mk, rInt, bnd1_mk, rInt, bnd1_mk, sMake _ (by simp), bnd1_mk, hM, bnd1_mk, hB, bnd1_mk, jn_eq]
 simp only [if_true]
 rw [if_pos (by rfl), need_pos (by simp), bnd1_mk, if_pos (by rfl), pVars _ (by omega), bnd1_mk, hV, if_pos (by rfl), hI, bnd1_mk]; rfl
end Go.Proofs.YtpfdeahcjlfijaaGreat
/- Patterns: the reference's reader. -/
namespace Go.Proofs.YtpfdeahcjlfijaaGreat
attribute [local irreducible] FU

theorem jn_abs {κ ρ : Type} {k : κ} {m : κ → ρ} {r : ρ} (h : ∀ K, K = k → m K = r) : jn k m = r := h k rfl
def EndS (p : List Cd) (left i : Nat) (o : Option Int) : Prop :=
 (∃ ts j, ts.length = left ∧ (∀ x ∈ ts, Pr x) ∧ p.drop i = sers ts ++ p.drop j ∧ i ≤ j ∧ j ≤ p.length ∧ o = some ((j : Nat) : Int)) ∨
 ((∀ ts r, (∀ x ∈ ts, Pr x) → ts.length = left → p.drop i ≠ sers ts ++ r) ∧ o = some (-1))
theorem rEnd_loop (p : List Cd) (hp : p.length ≤ 1048576) : ∀ (m i left n : Nat), i + m = p.length → m < n → left + m * 1048576 ≤ 2199023255552 → EndS p left i (m_ref11_end_L2 p (fun x => some x) n (i : Int) (left : Int)) := by
 have hbase : ∀ (i n : Nat), i ≤ p.length → 0 < n → EndS p 0 i (m_ref11_end_L2 p (fun x => some x) n (i : Int) ((0 : Nat) : Int)) := by
  intro i n hi hn
  obtain ⟨n, rfl⟩ : ∃ j, n = j + 1 := ⟨n - 1, by omega⟩
  rw [m_ref11_end_L2, m_ref11_end_B2, if_neg (by omega)]
  exact .inl ⟨[], i, rfl, (fun x hx => by cases hx), by rw [sers_nil]; rfl, Nat.le_refl _, hi, rfl⟩
 have split1 : ∀ {ts : List Nd} {left : Nat}, (∀ x ∈ ts, Pr x) → ts.length = left + 1 → ∃ op n ks rest, ts = .mk op n ks :: rest ∧ (∀ x ∈ ks, Pr x) ∧ (∀ x ∈ rest, Pr x) ∧ rest.length = left := by
  intro ts left h hl
  match ts, h, hl with
  | t :: rest, h, hl =>
   have := h t (by simp)
   cases this with | @mk op n ks hk =>
   exact ⟨op, n, ks, rest, rfl, hk, fun x hx => h x (by simp [hx]), by simpa using hl⟩
 intro m
 induction m with
 | zero =>
  intro i left n hi hn hl
  cases left with
  | zero => exact hbase i n (by omega) (by omega)
  | succ left =>
   obtain ⟨n, rfl⟩ : ∃ j, n = j + 1 := ⟨n - 1, by omega⟩
   rw [m_ref11_end_L2, m_ref11_end_B2, if_pos (by omega), jn_eq, if_pos (by omega)]
   refine .inr ⟨fun ts r h hlen e => ?_, by simp⟩
   obtain ⟨op, a, ks, rest, rfl, _, _, _⟩ := split1 h hlen
   rw [List.drop_eq_nil_of_le (by omega), sers_cons, ser_mk] at e
   simp at e
 | succ m ih =>
  intro i left n hi hn hl
  cases left with
  | zero => exact hbase i n (by omega) (by omega)
  | succ left =>
   obtain ⟨n, rfl⟩ : ∃ j, n = j + 1 := ⟨n - 1, by omega⟩
   have hil : i < p.length := by omega
   rw [m_ref11_end_L2, m_ref11_end_B2, if_pos (by omega), jn_eq, if_neg (by omega), need_pos (by omega), need_pos (by omega), gi_nat hil]
   have hd1 := List.drop_eq_getElem_cons hil
   have hbad : ∀ ts r, (∀ x ∈ ts, Pr x) → ts.length = left + 1 → p.drop i = sers ts ++ r → ∃ op n ks rest, ts = .mk op n ks :: rest ∧ (∀ x ∈ ks, Pr x) ∧ (∀ x ∈ rest, Pr x) ∧ rest.length = left ∧ p[i] = (op, n, (ks.length : Int)) ∧ p.drop (i + 1) = sers (ks ++ rest) ++ r ∧ ks.length ≤ p.length := by
    intro ts r h hlen e
    obtain ⟨op, a, ks, rest, rfl, h1, h2, h3⟩ := split1 h hlen
    rw [hd1, sers_cons, ser_mk, List.cons_append, List.cons_append] at e
    injection e with e1 e2
    refine ⟨op, a, ks, rest, rfl, h1, h2, h3, e1, by rw [e2, sers_app, List.append_assoc], ?_⟩
    have q1 := sers_len h1
    have q2 := congrArg List.length e2
    simp at q2; omega
   by_cases hc : (p[i]).2.2 < 0
   ·rw [if_pos hc]
    refine .inr ⟨fun ts r h hlen e => ?_, by simp⟩
    obtain ⟨op, a, ks, rest, rfl, h1, h2, h3, e1, e2, _⟩ := hbad ts r h hlen e
    rw [e1] at hc; simp at hc; omega
   rw [if_neg hc]
   by_cases hc2 : (p.length : Int) < (p[i]).2.2
   ·rw [decide_eq_true hc2, need_pos (by omega)]
    refine .inr ⟨fun ts r h hlen e => ?_, by simp⟩
    obtain ⟨op, a, ks, rest, rfl, h1, h2, h3, e1, e2, e3⟩ := hbad ts r h hlen e
    rw [e1] at hc2; simp at hc2; omega
   rw [decide_eq_false hc2]
   simp only [Bool.false_eq_true, if_false]
   rw [need_pos (by omega)]
   obtain ⟨c, hcc⟩ : ∃ c : Nat, (p[i]).2.2 = c := ⟨(p[i]).2.2.toNat, by omega⟩
   rw [hcc, i64_succ (by omega), i64_id (x := (c : Int) - 1) (by omega), i64_id (by omega), show ((left + 1 : Nat) : Int) + ((c : Int) - 1) = ((left + c : Nat) : Int) by omega]
   rcases ih (i + 1) (left + c) n (by omega) (by omega) (by omega) with ⟨ts, j, h1, h2, h3, h4, h5, h6⟩ | ⟨hno, h6⟩
   ·refine .inl ⟨.mk (p[i]).1 (p[i]).2.1 (ts.take c) :: ts.drop c, j, by simp; omega, fun x hx => ?_, ?_, by omega, h5, h6⟩
    ·rcases List.mem_cons.1 hx with rfl | hx
     ·exact .mk fun y hy => h2 y (List.mem_of_mem_take hy)
     ·exact h2 x (List.mem_of_mem_drop hx)
    ·rw [hd1, h3, sers_cons, ser_mk, List.cons_append, List.cons_append, show (ts.take c).length = c by simp; omega, ← hcc]
     congr 1
     rw [← sers_app, List.take_append_drop]
   ·refine .inr ⟨fun ts r h hlen e => ?_, h6⟩
    obtain ⟨op, a, ks, rest, rfl, g1, g2, g3, e1, e2, _⟩ := hbad ts r h hlen e
    rw [e1] at hcc
    simp at hcc
    refine hno (ks ++ rest) r (fun x hx => ?_) (by simp; omega) e2
    rcases List.mem_append.1 hx with hx | hx
    ·exact g1 x hx
    ·exact g2 x hx
theorem rEnd (p : List Cd) (hp : p.length ≤ 1048576) (i : Nat) (hi : i ≤ p.length) : EndS p 1 i (m_ref11_end p i) := by
 have hFU := FU_ge
 unfold m_ref11_end
 rw [jn_eq]
 have : (p.length - i) * 1048576 ≤ 1048576 * 1048576 := Nat.mul_le_mul_right _ (by omega)
 exact rEnd_loop p hp (p.length - i) i 1 FU (by omega) (by omega) (by omega)
def AtP (p : List Cd) (i : Nat) (t : Nd) : Prop := ∃ r, p.drop i = ser t ++ r
theorem AtP.lt {p : List Cd} {i : Nat} {t : Nd} (h : AtP p i t) (ht : Pr t) : i + (ser t).length ≤ p.length := by
 obtain ⟨r, e⟩ := h
 have := congrArg List.length e
 have := ht.pos
 simp at *; omega
theorem AtP.hd {p : List Cd} {i : Nat} {op n : Int} {ks : List Nd} (h : AtP p i (.mk op n ks)) : gi p (i : Int) = (op, n, (ks.length : Int)) := by
 obtain ⟨r, e⟩ := h
 rw [ser_mk, List.cons_append] at e
 have hi : i < p.length := by
  have := congrArg List.length e
  simp at this; omega
 rw [List.drop_eq_getElem_cons hi] at e
 injection e with e1 _
 rw [gi_nat hi, e1]
theorem AtP.op0 {p : List Cd} {i : Nat} {t : Nd} (h : AtP p i t) (ht : Pr t) : (gi p (i : Int)).1 = op0 t := by
 cases ht with | mk _ => rw [h.hd]; rfl
theorem AtP.kid {p : List Cd} {i : Nat} {op n : Int} {ks : List Nd} (h : AtP p i (.mk op n ks)) {q : Nat} (hq : q < ks.length) : AtP p (i + 1 + (sers (ks.take q)).length) ks[q] := by
 obtain ⟨r, e⟩ := h
 refine ⟨sers (ks.drop (q + 1)) ++ r, ?_⟩
 have e2 : sers ks = sers (ks.take q) ++ (ser ks[q] ++ sers (ks.drop (q + 1))) := by
  conv => lhs; rw [← List.take_append_drop q ks, List.drop_eq_getElem_cons hq]
  rw [sers_app, sers_cons]
 rw [← List.drop_drop, ← List.drop_drop, e, ser_mk, List.cons_append, List.drop_succ_cons, List.drop_zero, e2]
 simp
theorem rEnd_at {p : List Cd} (hp : p.length ≤ 1048576) {i : Nat} {t : Nd} (h : AtP p i t) (ht : Pr t) : m_ref11_end p i = some ((i + (ser t).length : Nat) : Int) := by
 have hlt := h.lt ht
 obtain ⟨r, e⟩ := h
 rcases rEnd p hp i (by omega) with ⟨ts, j, h1, h2, h3, h4, h5, h6⟩ | ⟨hno, _⟩
 ·obtain ⟨t', rfl⟩ : ∃ t', ts = [t'] := by
   match ts, h1 with
   | [t'], _ => exact ⟨t', rfl⟩
  rw [sers_cons, sers_nil, List.append_nil] at h3
  obtain ⟨rfl, e2⟩ := ser_uniq _ _ _ _ (h2 t' (by simp)) ht (h3.symm.trans e)
  rw [h6]
  have q1 := congrArg List.length h3
  simp at q1
  congr 1
  omega
 ·exact absurd (by rw [sers_cons, sers_nil, List.append_nil]; exact e) (hno [t] r (fun x hx => by rw [List.mem_singleton.1 hx]; exact ht) rfl)
def offs : Nat → List Nd → List Int
 | _, [] => []
 | s, k :: l => (s : Int) :: offs (s + (ser k).length) l
theorem offs_len : ∀ (l : List Nd) (s : Nat), (offs s l).length = l.length
 | [], _ => rfl
 | k :: l, s => by simp [offs, offs_len l]
theorem offs_get : ∀ (l : List Nd) (s q : Nat), q < l.length → (offs s l)[q]? = some ((s + (sers (l.take q)).length : Nat) : Int)
 | [], _, _, h => by simp at h
 | k :: l, s, 0, _ => by simp [offs, sers_nil]
 | k :: l, s, q + 1, h => by
  rw [offs, List.getElem?_cons_succ, offs_get l _ q (by simpa using h), List.take_succ_cons, sers_cons, List.length_append]
  congr 2; omega
theorem offs_app : ∀ (a b : List Nd) (s : Nat), offs s (a ++ b) = offs s a ++ offs (s + (sers a).length) b
 | [], b, s => by simp [offs, sers_nil]
 | k :: a, b, s => by
  rw [List.cons_append, offs, offs, offs_app a b, sers_cons, List.length_append, List.cons_append, Nat.add_assoc]
theorem offs_gi {l : List Nd} {s q : Nat} (h : q < l.length) : gi (offs s l) (q : Int) = ((s + (sers (l.take q)).length : Nat) : Int) := by
 have hq : q < (offs s l).length := by rw [offs_len]; exact h
 have := offs_get l s q h
 rw [List.getElem?_eq_getElem hq] at this
 rw [gi_nat hq]
 exact Option.some.inj this
theorem rKids {p : List Cd} (hp : p.length ≤ 1048576) {i : Nat} {op n : Int} {ks : List Nd} (h : AtP p i (.mk op n ks)) (hk : ∀ x ∈ ks, Pr x) : m_ref11_kids p i = some (offs (i + 1) ks) := by
 have hFU := FU_ge
 have hlt := h.lt (.mk hk)
 rw [ser_mk, List.length_cons] at hlt
 have hkl := sers_len hk
 unfold m_ref11_kids
 rw [jn_eq]
 have loop : ∀ (m q N : Nat), q + m = ks.length → m < N → m_ref11_kids_L2 p i (fun x => some x) N (offs (i + 1) (ks.take q)) ((i + 1 + (sers (ks.take q)).length : Nat) : Int) (q : Int) = some (offs (i + 1) ks) := by
  intro m
  induction m with
  | zero =>
   intro q N hq hN
   obtain ⟨N, rfl⟩ : ∃ j, N = j + 1 := ⟨N - 1, by omega⟩
   rw [m_ref11_kids_L2, m_ref11_kids_B2, need_pos (by omega), h.hd, if_neg (by simp; omega), List.take_of_length_le (by omega)]
  | succ m ih =>
   intro q N hq hN
   obtain ⟨N, rfl⟩ : ∃ j, N = j + 1 := ⟨N - 1, by omega⟩
   have hql : q < ks.length := by omega
   have hol := offs_len (ks.take q) (i + 1)
   rw [List.length_take] at hol
   rw [m_ref11_kids_L2, m_ref11_kids_B2, need_pos (by omega), h.hd, if_pos (by simp; omega), need_pos (by rw [hol]; simp; omega), rEnd_at hp (h.kid hql) (hk _ (List.getElem_mem hql)), bnd1_mk, i64_succ (by omega)]
   have := ih (q + 1) N (by omega) (by omega)
   rw [List.take_succ_eq_append_getElem hql, offs_app, sers_app, sers_cons, sers_nil, List.append_nil, List.length_append, offs, offs, ← Nat.add_assoc] at this
   exact this
 have := loop ks.length 0 FU (by omega) (by omega)
 rw [List.take_zero, sers_nil, offs, List.length_nil, Nat.add_zero, Int.natCast_zero] at this
 rw [i64_succ (by omega)]
 exact this

def okB : Nat → Nd → Bool
 | 0, _ => false
 | _ + 1, .nil => false
 | k + 1, .mk op n kids => fmB op n kids && kids.all (okB k)
theorem okB_iff : ∀ {k : Nat} {t : Nd}, okB k t = true ↔ OkT k t
 | 0, t => by simp only [okB]; exact ⟨fun h => (by cases h), fun h => absurd h not_ok0⟩
 | k + 1, .nil => by simp only [okB]; exact ⟨fun h => (by cases h), fun h => by cases h⟩
 | k + 1, .mk op n kids => by
  rw [okB, Bool.and_eq_true, List.all_eq_true]
  constructor
  ·rintro ⟨h1, h2⟩; exact .mk h1 fun x hx => okB_iff.1 (h2 x hx)
  ·intro h; cases h with | mk h1 h2 => exact ⟨h1, fun x hx => okB_iff.2 (h2 x hx)⟩
def fm0 (op n : Int) (c : Nat) : Bool :=
 if op = 30 ∨ op = 31 then decide (n = 0) && decide (c = 0)
 else if op = 32 then decide (c = 0)
 else if op = 33 then decide (c = 0) && (decide (n = 0) || decide (n = 1))
 else if op = 34 then decide (n = 0) && (decide (2 ≤ c) && decide (c ≤ 8))
 else if op = 35 then decide (n = 0)
 else if op = 36 then decide (0 ≤ n) && decide (n < c)
 else if op = 37 then decide (n = 0) && decide (c ≤ 1)
 else if op = 38 then true
 else if op = 39 ∨ op = 40 then decide (n = 0) && decide (c = 2)
 else false
def restB (op n : Int) (kids : List Nd) : Bool := if op = 36 then decide (op0 (gi kids n) = 30 ∨ op0 (gi kids n) = 31) else true
theorem fmB_eq (op n : Int) (kids : List Nd) : fmB op n kids = (fm0 op n kids.length && restB op n kids) := by
 unfold fmB fm0 restB
 by_cases c1 : op = 30 ∨ op = 31
 ·rw [if_pos c1, if_pos c1, if_neg (by omega), Bool.and_true, Bool.and_comm, Bool.decide_and]
 rw [if_neg c1, if_neg c1]
 by_cases c2 : op = 32
 ·rw [if_pos c2, if_pos c2, if_neg (by omega), Bool.and_true]
 rw [if_neg c2, if_neg c2]
 by_cases c3 : op = 33
 ·rw [if_pos c3, if_pos c3, if_neg (by omega), Bool.and_true, Bool.decide_and, Bool.decide_or]
 rw [if_neg c3, if_neg c3]
 by_cases c4 : op = 34
 ·rw [if_pos c4, if_pos c4, if_neg (by omega), Bool.and_true, Bool.decide_and, Bool.decide_and, ← Bool.and_assoc, Bool.and_comm]
 rw [if_neg c4, if_neg c4]
 by_cases c5 : op = 35
 ·rw [if_pos c5, if_pos c5, if_neg (by omega), Bool.and_true]
 rw [if_neg c5, if_neg c5]
 by_cases c6 : op = 36
 ·rw [if_pos c6, if_pos c6, if_pos c6, Bool.decide_and, Bool.decide_and, Bool.and_assoc]
 rw [if_neg c6, if_neg c6, if_neg c6]
 by_cases c7 : op = 37
 ·rw [if_pos c7, if_pos c7, Bool.and_true, Bool.decide_and, Bool.and_comm]
 rw [if_neg c7, if_neg c7]
 by_cases c8 : op = 38
 ·rw [if_pos c8, if_pos c8]; rfl
 rw [if_neg c8, if_neg c8]
 by_cases c9 : op = 39 ∨ op = 40
 ·rw [if_pos c9, if_pos c9, Bool.and_true, Bool.decide_and, Bool.and_comm]
 rw [if_neg c9, if_neg c9]; rfl
def chk (op n : Int) (q : Nat) (x : Nd) : Bool := decide (op = 36 → (q : Int) = n → op0 x = 30 ∨ op0 x = 31)
theorem rFormed_loop {p : List Cd} (hp : p.length ≤ 1048576) {i : Nat} {op n : Int} {ks : List Nd} (h : AtP p i (.mk op n ks)) (hk : ∀ x ∈ ks, Pr x) (k : Nat) (d : Int) (hd : 1 ≤ d ∧ d ≤ 64) (self : List Cd → Int → Int → Option Bool)
  (hs : ∀ (x : Nd) (j : Nat), x ∈ ks → AtP p j x → self p j (d + 1) = some (okB k x)) :
  ∀ (m q N : Nat), q + m = ks.length → m < N → m_ref11_formed_L2 self p i d (offs (i + 1) ks) (fun _ => some true) N (q : Int) = some (decide (∀ j (hj : j < ks.length), q ≤ j → chk op n j ks[j] = true ∧ okB k ks[j] = true)) := by
 have hlt := h.lt (.mk hk)
 rw [ser_mk, List.length_cons] at hlt
 have hkl := sers_len hk
 intro m
 induction m with
 | zero =>
  intro q N hq hN
  obtain ⟨N, rfl⟩ : ∃ j, N = j + 1 := ⟨N - 1, by omega⟩
  rw [m_ref11_formed_L2, m_ref11_formed_B2, if_neg (by rw [offs_len]; omega)]
  congr 1
  exact (decide_eq_true (fun j hj hqj => by omega)).symm
 | succ m ih =>
  intro q N hq hN
  obtain ⟨N, rfl⟩ : ∃ j, N = j + 1 := ⟨N - 1, by omega⟩
  have hql : q < ks.length := by omega
  have hat := h.kid hql
  have hpr := hk _ (List.getElem_mem hql)
  have hl2 := hat.lt hpr
  have hpos := hpr.pos
  have hop := hat.op0 hpr
  have hself := hs _ _ (List.getElem_mem hql) hat
  have hrec := ih (q + 1) N (by omega) (by omega)
  rw [m_ref11_formed_L2, m_ref11_formed_B2, if_pos (by rw [offs_len]; omega), jn_eq, h.hd, offs_gi hql]
  have n1 : (0 : Int) ≤ (q : Int) ∧ (q : Int) < ((offs (i + 1) ks).length : Int) := by rw [offs_len]; omega
  have n2 : (0 : Int) ≤ ((i + 1 + (sers (ks.take q)).length : Nat) : Int) ∧ ((i + 1 + (sers (ks.take q)).length : Nat) : Int) < (p.length : Int) := by omega
  simp only [need_pos n1, need_pos n2]
  rw [hop, i64_id (x := d + 1) (by omega), hself, i64_succ (by omega), hrec]
  simp only [bnd1_mk]
  have key : decide (∀ j (hj : j < ks.length), q ≤ j → chk op n j ks[j] = true ∧ okB k ks[j] = true) = (chk op n q ks[q] && (okB k ks[q] && decide (∀ j (hj : j < ks.length), q + 1 ≤ j → chk op n j ks[j] = true ∧ okB k ks[j] = true))) := by
   rw [Bool.eq_iff_iff]
   simp only [decide_eq_true_eq, Bool.and_eq_true]
   constructor
   ·intro hh; exact ⟨(hh q hql (Nat.le_refl _)).1, (hh q hql (Nat.le_refl _)).2, fun j hj hqj => hh j hj (by omega)⟩
   ·rintro ⟨h1, h2, h3⟩ j hj hqj
    rcases Nat.lt_or_ge q j with hlt' | hge
    ·exact h3 j hj hlt'
    ·obtain rfl : j = q := by omega
     exact ⟨h1, h2⟩
  rw [key]
  unfold chk
  by_cases c1 : op = 36
  ·by_cases c2 : (q : Int) = n
   ·by_cases c3 : op0 ks[q] = 30
    ·cases okB k ks[q] <;> simp [c1, c2, c3]
    ·by_cases c4 : op0 ks[q] = 31
     ·cases okB k ks[q] <;> simp [c1, c2, c3, c4]
     ·simp [c1, c2, c3, c4]
   ·cases okB k ks[q] <;> simp [c1, c2]
  ·cases okB k ks[q] <;> simp [c1]
set_option maxRecDepth 10000 in
theorem rFormed {p : List Cd} (hp : p.length ≤ 1048576) : ∀ (k N : Nat) (t : Nd) (i : Nat) (d : Int), k < N → Pr t → AtP p i t → d + k = 65 → 1 ≤ d → m_ref11_formed_S N p i d = some (okB k t) := by
 intro k
 induction k with
 | zero =>
  intro N t i d hN ht hat hd h1
  obtain ⟨N, rfl⟩ : ∃ j, N = j + 1 := ⟨N - 1, by omega⟩
  have hlt := hat.lt ht
  have hpos := ht.pos
  rw [m_ref11_formed_S, m_ref11_formed_F, need_pos (by omega), okB]
  refine jn_abs fun K hK => ?_
  have hKf : ∀ b, K b = some false := fun b => by
   simp only [hK, jn_eq]
   cases b
   ·rfl
   ·simp only [Bool.not_true, Bool.false_eq_true, if_false, decide_eq_true (show (64 : Int) < d by omega), if_true]
  simp only [jn_eq, hKf, ite_self]
 | succ k ih =>
  intro N t i d hN ht hat hd h1
  obtain ⟨N, rfl⟩ : ∃ j, N = j + 1 := ⟨N - 1, by omega⟩
  have hFU := FU_ge
  cases ht with | @mk op n ks hk =>
  have hlt := hat.lt (.mk hk)
  rw [ser_mk, List.length_cons] at hlt
  have hkl := sers_len hk
  rw [m_ref11_formed_S, m_ref11_formed_F, need_pos (by omega), okB, fmB_eq]
  refine jn_abs fun K hK => ?_
  have hf : K false = some false := by simp only [hK, jn_eq]; rfl
  have ht : K true = some (decide (∀ j (hj : j < ks.length), 0 ≤ j → chk op n j ks[j] = true ∧ okB k ks[j] = true)) := by
   rw [hK]
   simp only [jn_eq, Bool.not_true, Bool.false_eq_true, if_false, decide_eq_false (show ¬ (64 : Int) < d by omega)]
   rw [rKids hp hat hk, bnd1_mk]
   have := rFormed_loop hp hat hk k d (by omega) (m_ref11_formed_S N) (fun x j hx hj => ih N x j (d + 1) (by omega) (hk x hx) hj (by omega) (by omega)) ks.length 0 FU (by omega) (by omega)
   rw [Int.natCast_zero] at this
   exact this
  have hall : fm0 op n ks.length = true → (restB op n ks && ks.all (okB k)) = decide (∀ j (hj : j < ks.length), 0 ≤ j → chk op n j ks[j] = true ∧ okB k ks[j] = true) := by
   intro h0
   rw [Bool.eq_iff_iff]
   simp only [decide_eq_true_eq, Bool.and_eq_true, List.all_eq_true]
   unfold restB chk
   constructor
   ·rintro ⟨h2, h3⟩ j hj _
    refine ⟨?_, h3 _ (List.getElem_mem hj)⟩
    simp only [decide_eq_true_eq]
    rintro rfl rfl
    rw [if_pos rfl, gi_nat hj] at h2
    simpa using h2
   ·intro hh
    refine ⟨?_, fun x hx => ?_⟩
    ·split
     ·rename_i h36
      subst h36
      simp [fm0] at h0
      obtain ⟨h01, h02⟩ := h0
      have := (hh n.toNat (by omega) (by omega)).1
      simp only [decide_eq_true_eq] at this
      have := this trivial (by omega)
      rw [← gi_nat (show n.toNat < ks.length by omega), show ((n.toNat : Nat) : Int) = n by omega] at this
      simpa using this
     ·rfl
    ·obtain ⟨j, hj, rfl⟩ := List.getElem_of_mem hx
     exact (hh j hj (by omega)).2
  have fin : ∀ b : Bool, b = fm0 op n ks.length → K b = some (fm0 op n ks.length && restB op n ks && ks.all (okB k)) := by
   intro b hb
   rw [← hb]
   cases b with
   | false => rw [hf]; rfl
   | true => rw [ht, ← hall hb.symm]; rfl
  rw [hat.hd]
  simp only [jn_eq]
  have hfm : ∀ b : Bool, b = fm0 op n ks.length → fm0 op n ks.length = b := fun b h => h.symm
  by_cases c1 : op = 30
  ·rw [if_pos c1, decide_eq_true c1, if_pos rfl]
   by_cases h2 : n = 0
   ·rw [if_pos h2]; refine fin _ ?_; simp [fm0, c1, h2]
   ·rw [if_neg h2]; refine fin _ ?_; simp [fm0, c1, h2]
  rw [if_neg c1]
  by_cases c2 : op = 31
  ·rw [decide_eq_true c2, if_pos rfl]
   by_cases h2 : n = 0
   ·rw [if_pos h2]; refine fin _ ?_; simp [fm0, c2, h2]
   ·rw [if_neg h2]; refine fin _ ?_; simp [fm0, c2, h2]
  rw [decide_eq_false c2]
  simp only [Bool.false_eq_true, if_false]
  by_cases c3 : op = 32
  ·rw [if_pos c3]; refine fin _ ?_; simp [fm0, c3]
  rw [if_neg c3]
  by_cases c4 : op = 33
  ·rw [if_pos c4]
   by_cases h2 : (ks.length : Int) = 0
   ·have h2' : ks = [] := List.length_eq_zero_iff.1 (by omega)
    rw [if_pos h2]
    by_cases h3 : n = 0
    ·rw [if_pos h3]; refine fin _ ?_; simp [fm0, c4, h3, h2']
    ·rw [if_neg h3]; refine fin _ ?_; simp [fm0, c4, h3, h2']
   ·have h2' : ¬ ks = [] := fun e => h2 (by rw [e]; rfl)
    rw [if_neg h2]; refine fin _ ?_; simp [fm0, c4, h2']
  rw [if_neg c4]
  by_cases c5 : op = 34
  ·rw [if_pos c5]
   by_cases h2 : n = 0
   ·rw [if_pos h2]
    by_cases h3 : (2 : Int) ≤ ks.length
    ·rw [if_pos h3]; refine fin _ ?_; simp [fm0, c5, h2, show 2 ≤ ks.length by omega]; omega
    ·rw [if_neg h3]; refine fin _ ?_; simp [fm0, c5, h2, show ¬ 2 ≤ ks.length by omega]
   ·rw [if_neg h2]; refine fin _ ?_; simp [fm0, c5, h2]
  rw [if_neg c5]
  by_cases c6 : op = 35
  ·rw [if_pos c6]; refine fin _ ?_; simp [fm0, c6]
  rw [if_neg c6]
  by_cases c7 : op = 36
  ·rw [if_pos c7]
   by_cases h2 : 0 ≤ n
   ·rw [if_pos h2]; refine fin _ ?_; simp [fm0, c7, h2]
   ·rw [if_neg h2]; refine fin _ ?_; simp [fm0, c7, h2]
  rw [if_neg c7]
  by_cases c8 : op = 37
  ·rw [if_pos c8]
   by_cases h2 : n = 0
   ·rw [if_pos h2]; refine fin _ ?_; simp [fm0, c8, h2]; omega
   ·rw [if_neg h2]; refine fin _ ?_; simp [fm0, c8, h2]
  rw [if_neg c8]
  by_cases c9 : op = 38
  ·rw [if_pos c9]; refine fin _ ?_; simp [fm0, c9]
  rw [if_neg c9]
  by_cases c10 : op = 39
  ·rw [if_pos c10, decide_eq_true c10, if_pos rfl]
   by_cases h2 : n = 0
   ·rw [if_pos h2]; refine fin _ ?_; simp [fm0, c10, h2]; omega
   ·rw [if_neg h2]; refine fin _ ?_; simp [fm0, c10, h2]
  rw [if_neg c10]
  by_cases c11 : op = 40
  ·rw [decide_eq_true c11, if_pos rfl]
   by_cases h2 : n = 0
   ·rw [if_pos h2]; refine fin _ ?_; simp [fm0, c11, h2]; omega
   ·rw [if_neg h2]; refine fin _ ?_; simp [fm0, c11, h2]
  rw [decide_eq_false c11]
  simp [fm0, c1, c2, c3, c4, c5, c6, c7, c8, c9, c10, c11]
theorem AtP.self (t : Nd) : AtP (ser t) 0 t := ⟨[], by simp⟩
theorem rPattern (p : List Cd) (hp : p.length ≤ 1048576) : m_ref11_Pattern p = some (parse p).isSome := by
 have hFU := FU_ge
 unfold m_ref11_Pattern
 rw [jn_eq]
 have no : ∀ {b : Bool}, (∀ t, parse p ≠ some t) → b = false → some b = some (parse p).isSome := fun h hb => by
  rw [hb]
  cases e : parse p with
  | none => rfl
  | some t => exact absurd e (h t)
 by_cases h1 : (0 : Int) < p.length
 ·rw [if_pos h1]
  by_cases h2 : (p.length : Int) ≤ 8192
  ·rw [if_pos h2]
   rcases rEnd p hp 0 (by omega) with ⟨ts, j, g1, g2, g3, g4, g5, g6⟩ | ⟨hno, g6⟩
   ·rw [Int.natCast_zero] at g6
    rw [g6, bnd1_mk]
    obtain ⟨t, rfl⟩ : ∃ t, ts = [t] := by
     match ts, g1 with
     | [t], _ => exact ⟨t, rfl⟩
    rw [List.drop_zero, sers_cons, sers_nil, List.append_nil] at g3
    have ht := g2 t (by simp)
    by_cases hj : (j : Int) = p.length
    ·rw [if_pos hj]
     rw [List.drop_eq_nil_of_le (by omega), List.append_nil] at g3
     unfold m_ref11_formed
     have hat : AtP p 0 t := ⟨[], by rw [List.drop_zero, List.append_nil]; exact g3⟩
     have := rFormed hp 64 FU t 0 1 (by omega) ht hat (by omega) (by omega)
     rw [Int.natCast_zero] at this
     rw [this, bnd1_mk]
     cases hok : okB 64 t with
     | true => rw [parse_some.2 ⟨g3, okB_iff.1 hok, by omega⟩]; rfl
     | false =>
      refine no (fun t' e => ?_) rfl
      obtain ⟨e1, e2, _⟩ := parse_some.1 e
      obtain ⟨rfl, _⟩ := ser_uniq t t' [] [] ht e2.pr (by rw [← g3, ← e1])
      rw [okB_iff.2 e2] at hok; cases hok
    ·rw [if_neg hj]
     refine no (fun t' e => ?_) rfl
     obtain ⟨e1, e2, _⟩ := parse_some.1 e
     obtain ⟨_, e3⟩ := ser_uniq t t' (p.drop j) [] ht e2.pr (by rw [← g3, ← e1]; simp)
     have := congrArg List.length e3
     simp at this; omega
   ·rw [Int.natCast_zero] at g6
    rw [g6, bnd1_mk, if_neg (by omega)]
    refine no (fun t' e => ?_) rfl
    obtain ⟨e1, e2, _⟩ := parse_some.1 e
    exact hno [t'] [] (fun x hx => by rw [List.mem_singleton.1 hx]; exact e2.pr) rfl (by rw [sers_cons, sers_nil, List.drop_zero, ← e1]; simp)
  ·rw [if_neg h2]
   exact no (fun t e => absurd (parse_some.1 e).2.2 (by omega)) rfl
 ·rw [if_neg h1]
  refine no (fun t e => ?_) rfl
  obtain ⟨e1, e2, _⟩ := parse_some.1 e
  have := e2.pr.pos
  rw [← e1] at this; omega
end Go.Proofs.YtpfdeahcjlfijaaGreat
/- Patterns: the reference's match and build; the other functions. -/
namespace Go.Proofs.YtpfdeahcjlfijaaGreat
attribute [local irreducible] FU

theorem jn_absP {κ ρ : Type} {k : κ} {m : κ → ρ} {P : ρ → Prop} (h : ∀ K, K = k → P (m K)) : P (jn k m) := h k rfl
theorem sub_len {x : Nd} {kids : List Nd} (h : x ∈ kids) : (ser x).length ≤ (sers kids).length := by
 obtain ⟨s, t, rfl⟩ := List.append_of_mem h
 rw [sers_app, sers_cons]; simp; omega
theorem rVars (p : List Cd) (hl : p.length ≤ 1000000000) : m_ref11_Vars p = some (cntV p : Int) := by
 have hFU := FU_ge
 unfold m_ref11_Vars
 rw [jn_eq]
 have loop : ∀ (m i n s : Nat), i + m = p.length → m < n → s + m ≤ 1000000000 → m_ref11_Vars_L2 p (fun x => some x) n (s : Int) (i : Int) = some ((s + cntV (p.drop i) : Nat) : Int) := by
  intro m
  induction m with
  | zero =>
   intro i n s hi hn hs
   obtain ⟨n, rfl⟩ : ∃ k, n = k + 1 := ⟨n - 1, by omega⟩
   rw [m_ref11_Vars_L2, m_ref11_Vars_B2, if_neg (by omega), List.drop_eq_nil_of_le (by omega)]; rfl
  | succ m ih =>
   intro i n s hi hn hs
   obtain ⟨n, rfl⟩ : ∃ k, n = k + 1 := ⟨n - 1, by omega⟩
   have hil : i < p.length := by omega
   rw [m_ref11_Vars_L2, m_ref11_Vars_B2, if_pos (by omega), jn_eq, need_pos (by omega), gi_nat hil, List.drop_eq_getElem_cons hil, i64_succ (by omega)]
   by_cases h : (p[i]).1 = 30
   ·rw [if_pos h, i64_succ (by omega)]
    show m_ref11_Vars_L2 p (fun x => some x) n ((s + 1 : Nat) : Int) ((i + 1 : Nat) : Int) = _
    rw [ih (i + 1) n (s + 1) (by omega) (by omega) (by omega)]
    rw [cntV_cons, if_pos h]
    congr 2
    omega
   ·rw [if_neg h]
    show m_ref11_Vars_L2 p (fun x => some x) n (s : Int) ((i + 1 : Nat) : Int) = _
    rw [ih (i + 1) n s (by omega) (by omega) (by omega)]
    rw [cntV_cons, if_neg h]
    congr 2
    omega
 have := loop p.length 0 FU 0 (by omega) (by omega) (by omega)
 simp only [Int.natCast_zero, Nat.zero_add, List.drop_zero] at this
 exact this
end Go.Proofs.YtpfdeahcjlfijaaGreat
/- Patterns: the reference's build; program and reference agree. -/
namespace Go.Proofs.YtpfdeahcjlfijaaGreat
attribute [local irreducible] FU

theorem bds_snd {f : Nd → List Vl → Vl × List Vl} : ∀ {kids : List Nd} {l : List Vl}, (∀ x ∈ kids, ∀ l, (f x l).2 = l.drop (cntV (ser x))) → (bds f kids l).2 = l.drop (cntV (sers kids))
 | [], l, _ => by rw [sers_nil]; rfl
 | x :: xs, l, h => by
  rw [bds]
  show (bds f xs (f x l).2).2 = _
  rw [bds_snd (fun y hy => h y (by simp [hy])), h x (by simp), List.drop_drop, sers_cons, cntV_app]
theorem all_sub {c : Cd → Bool} {kids : List Nd} (h : (sers kids).all c = true) : ∀ x ∈ kids, (ser x).all c = true := fun x hx => by
 obtain ⟨s, t, rfl⟩ := List.append_of_mem hx
 rw [sers_app, sers_cons, List.all_append, List.all_append] at h
 simp only [Bool.and_eq_true] at h
 exact h.2.1
theorem bd_snd : ∀ {k : Nat} {t : Nd} {l : List Vl}, OkT k t → (ser t).all nbC = true → (bd k t l).2 = l.drop (cntV (ser t))
 | 0, _, _, h, _ => absurd h not_ok0
 | k + 1, .nil, _, h, _ => by cases h
 | k + 1, .mk op n kids, l, h, hb => by
  cases h with | mk hf hk =>
  rw [ser_mk, List.all_cons, Bool.and_eq_true] at hb
  rw [ser_mk, cntV_cons, bd]
  by_cases c1 : op = 30
  ·rw [if_pos c1]
   obtain rfl := fm_kids0 hf (.inl c1)
   simp [c1, sers_nil, cntV]
  rw [if_neg c1]
  by_cases c2 : op = 32
  ·rw [if_pos c2]
   obtain rfl := fm_kids0 hf (.inr (.inr (.inl c2)))
   simp [c1, sers_nil, cntV]
  rw [if_neg c2]
  by_cases c3 : op = 33
  ·rw [if_pos c3]
   obtain rfl := fm_kids0 hf (.inr (.inr (.inr c3)))
   simp [c1, sers_nil, cntV]
  rw [if_neg c3, if_neg (show ¬ op = 30 from c1), Nat.zero_add]
  exact bds_snd fun x hx l => bd_snd (hk x hx) (all_sub hb.2 x hx)
theorem fin_ne {op n : Int} {ps : List Vl} (h : finW op n ps ≠ []) : Vd (finW op n ps) := by
 have hc : ∀ (c : UInt8) (l : List Vl), cmpd c l ≠ [] → Vd (cmpd c l) := fun c l h => by
  have := cmpd_ne.1 h
  rw [cmpd_yes this]; exact this.2.2
 unfold finW at h ⊢
 by_cases c1 : op = 34
 ·rw [if_pos c1] at h ⊢; exact hc _ _ h
 rw [if_neg c1] at h ⊢
 by_cases c2 : op = 35
 ·rw [if_pos c2] at h ⊢; exact hc _ _ h
 rw [if_neg c2] at h ⊢
 by_cases c3 : op = 37
 ·rw [if_pos c3] at h ⊢; exact hc _ _ h
 rw [if_neg c3] at h ⊢
 by_cases c4 : op = 38
 ·rw [if_pos c4] at h ⊢
  by_cases c5 : n < 0 ∨ 65536 ≤ n
  ·rw [if_pos c5] at h; exact absurd rfl h
  ·rw [if_neg c5] at h ⊢; exact hc _ _ h
 rw [if_neg c4] at h ⊢
 by_cases c5 : kindW (gi ps n) = 4
 ·rw [if_pos c5] at h ⊢; exact hc _ _ h
 ·rw [if_neg c5] at h; exact absurd rfl h
theorem fin_vd {op n : Int} {ps : List Vl} (ho : op = 34 ∨ op = 35 ∨ op = 37 ∨ op = 38 ∨ (op = 36 ∧ 0 ≤ n ∧ n < ps.length)) (h : Vd (finW op n ps)) : (∀ v ∈ ps, Vd v) ∧ (op = 36 → kindW (gi ps n) = 4) := by
 have h := h.ne
 have hc : ∀ (c : UInt8) (l : List Vl), cmpd c l ≠ [] → ∀ v ∈ l, Vd v := fun c l h => (cmpd_ne.1 h).2.1
 unfold finW at h
 by_cases c1 : op = 34
 ·rw [if_pos c1] at h; exact ⟨hc _ _ h, fun e => by omega⟩
 rw [if_neg c1] at h
 by_cases c2 : op = 35
 ·rw [if_pos c2] at h; exact ⟨hc _ _ h, fun e => by omega⟩
 rw [if_neg c2] at h
 by_cases c3 : op = 37
 ·rw [if_pos c3] at h; exact ⟨fun v hv => hc _ _ h v ((sortW_spec ps).2.1 v |>.2 hv), fun e => by omega⟩
 rw [if_neg c3] at h
 by_cases c4 : op = 38
 ·rw [if_pos c4] at h
  by_cases c5 : n < 0 ∨ 65536 ≤ n
  ·rw [if_pos c5] at h; exact absurd rfl h
  ·rw [if_neg c5] at h; exact ⟨fun v hv => hc _ _ h v (by simp [hv]), fun e => by omega⟩
 rw [if_neg c4] at h
 obtain ⟨_, n0, n1⟩ : op = 36 ∧ 0 ≤ n ∧ n < ps.length := by omega
 by_cases c5 : kindW (gi ps n) = 4
 ·rw [if_pos c5] at h
  refine ⟨fun v hv => ?_, fun _ => c5⟩
  obtain ⟨j, hj, rfl⟩ := List.getElem_of_mem hv
  rcases Nat.lt_trichotomy j n.toNat with h1 | h1 | h1
  ·refine hc _ _ h _ (List.mem_append.2 (.inl (List.mem_append.2 (.inl ?_))))
   rw [← List.getElem_take (h := by simp; omega) (j := n.toNat)]
   exact List.getElem_mem _
  ·have e : gi ps n = ps[j] := by rw [← gi_nat hj, h1, show ((n.toNat : Nat) : Int) = n by omega]
   rw [← e]; exact kind_vd (by omega)
  ·refine hc _ _ h _ (List.mem_append.2 (.inr ?_))
   have e := List.getElem_drop (xs := ps) (i := n.toNat + 1) (j := j - (n.toNat + 1)) (h := by simp; omega)
   have e2 : n.toNat + 1 + (j - (n.toNat + 1)) = j := by omega
   simp only [e2] at e
   rw [← e]; exact List.getElem_mem _
 ·rw [if_neg c5] at h; exact absurd rfl h
noncomputable def spl (op a : Int) : Nat → List Vl → List Vl
 | _, [] => []
 | s, v :: vs => (if op = 36 ∧ (s : Int) = a then prtW v else [v]) ++ spl op a (s + 1) vs
theorem spl_id {op a : Int} : ∀ {s : Nat} {vs : List Vl}, ¬ (op = 36 ∧ (s : Int) ≤ a ∧ a < (s : Int) + vs.length) → spl op a s vs = vs
 | _, [], _ => rfl
 | s, v :: vs, h => by
  simp only [List.length_cons] at h
  rw [spl, if_neg (by omega), spl_id (by omega)]; rfl
theorem spl_at {a : Int} : ∀ {s : Nat} {vs : List Vl}, (s : Int) ≤ a → a < (s : Int) + vs.length → spl 36 a s vs = vs.take (a - s).toNat ++ prtW (gi vs (a - s)) ++ vs.drop ((a - s).toNat + 1)
 | s, [], h, h' => by simp at h'; omega
 | s, v :: vs, h, h' => by
  simp only [List.length_cons] at h'
  rw [spl]
  by_cases he : (s : Int) = a
  ·rw [if_pos ⟨rfl, he⟩, spl_id (by omega), show a - s = 0 by omega]; rfl
  ·have e2 : gi (v :: vs) (a - s) = gi vs (a - (s + 1 : Nat)) := by
    unfold gi
    have : (a - s).toNat = (a - (s + 1 : Nat)).toNat + 1 := by omega
    rw [this, List.getElem?_cons_succ]
   have e1 : (a - s).toNat = (a - (s + 1 : Nat)).toNat + 1 := by omega
   rw [if_neg (by omega), spl_at (by omega) (by omega), e2, e1, List.take_succ_cons, List.drop_succ_cons]; simp
def Go1 (op a : Int) (s : Nat) (kids : List Nd) (vs : List Vl) : Prop := (sers kids).all nbC = true ∧ (∀ v ∈ vs, Vd v) ∧ ∀ j (h : j < vs.length), op = 36 → ((s + j : Nat) : Int) = a → kindW vs[j] = 4
def RB (t : Nd) (b : Vl) (l : List Vl) (r : Option (Vl × Bool × List Vl)) : Prop :=
 ((ser t).all nbC = true ∧ Vd b ∧ r = some (b, true, l.drop (cntV (ser t)))) ∨ (¬ ((ser t).all nbC = true ∧ Vd b) ∧ ∃ v l', r = some (v, false, l'))
theorem rBuild_loop (self : List Cd → Int → List Vl → Option (Vl × Bool × List Vl)) (k : Nat) (K : List Vl → List Vl → Option (Vl × Bool × List Vl)) {p : List Cd} {i : Nat} {op a : Int} {kids : List Nd} (hat : AtP p i (.mk op a kids)) (hkl : kids.length ≤ 1000000) (hok : ∀ x ∈ kids, OkT k x)
  (hs : ∀ x ∈ kids, ∀ (j : Nat) (l : List Vl), AtP p j x → cntV (ser x) ≤ l.length → RB x (bd k x l).1 l (self p j l)) :
  ∀ (m q n : Nat) (l out : List Vl), q + m = kids.length → m < n → out.length ≤ q * 65536 → cntV (sers (kids.drop q)) ≤ l.length →
   (Go1 op a q (kids.drop q) (bds (bd k) (kids.drop q) l).1 ∧ m_ref11_build_L2 self p i (offs (i + 1) kids) K n l out (q : Int) = K (l.drop (cntV (sers (kids.drop q)))) (out ++ spl op a q (bds (bd k) (kids.drop q) l).1)) ∨
   (¬ Go1 op a q (kids.drop q) (bds (bd k) (kids.drop q) l).1 ∧ ∃ v l', m_ref11_build_L2 self p i (offs (i + 1) kids) K n l out (q : Int) = some (v, false, l')) := by
 intro m
 induction m with
 | zero =>
  intro q n l out hq hn ho hc
  obtain ⟨n, rfl⟩ : ∃ j, n = j + 1 := ⟨n - 1, by omega⟩
  rw [List.drop_eq_nil_of_le (by omega), m_ref11_build_L2, m_ref11_build_B2, if_neg (by rw [offs_len]; omega)]
  refine .inl ⟨⟨by rw [sers_nil]; rfl, fun v hv => (by cases hv), fun j hj => by simp [bds] at hj⟩, by simp [bds, sers_nil, cntV, spl]⟩
 | succ m ih =>
  intro q n l out hq hn ho hc
  obtain ⟨n, rfl⟩ : ∃ j, n = j + 1 := ⟨n - 1, by omega⟩
  have h1 : q < kids.length := by omega
  have hol := offs_len kids (i + 1)
  rw [List.drop_eq_getElem_cons h1, sers_cons, cntV_app] at hc
  have hmem := List.getElem_mem h1
  have hself := hs _ hmem _ l (hat.kid h1) (by omega)
  rw [List.drop_eq_getElem_cons h1, m_ref11_build_L2, m_ref11_build_B2, if_pos (by omega), jn_eq, need_pos (by omega), offs_gi h1]
  have hbds : (bds (bd k) (kids[q] :: kids.drop (q + 1)) l).1 = (bd k kids[q] l).1 :: (bds (bd k) (kids.drop (q + 1)) (bd k kids[q] l).2).1 := rfl
  rw [hbds]
  rcases hself with ⟨e1, e2, e3⟩ | ⟨e1, v, l', e3⟩
  ·have hsnd := bd_snd (l := l) (hok _ hmem) e1
   rw [e3, bnd1_mk, jn_eq, hat.hd, hsnd]
   simp only [Bool.not_true, Bool.false_eq_true, if_false]
   have hlen : cntV (sers (kids.drop (q + 1))) ≤ (l.drop (cntV (ser kids[q]))).length := by simp; omega
   have pl := (prtW_spec (bd k kids[q] l).1).2.1
   by_cases hsp : op = 36 ∧ (q : Int) = a
   ·rw [if_pos hsp.1, decide_eq_true hsp.2, if_pos rfl, rKind, bnd1_mk]
    by_cases h4 : kindW (bd k kids[q] l).1 = 4
    ·rw [if_neg (fun h => h h4), rPartsW, bnd1_mk, need_pos (by omega), i64_succ (by omega)]
     rcases ih (q + 1) n (l.drop (cntV (ser kids[q]))) (out ++ prtW (bd k kids[q] l).1) (by omega) (by omega) (by simp; omega) hlen with ⟨g1, g2⟩ | ⟨g1, g2⟩
     ·refine .inl ⟨⟨by rw [sers_cons, List.all_append, e1, g1.1]; rfl, ?_, ?_⟩, ?_⟩
      ·intro v hv
       rcases List.mem_cons.1 hv with rfl | hv
       ·exact e2
       ·exact g1.2.1 v hv
      ·intro j hj ho' hja
       cases j with
       | zero => exact h4
       | succ j => exact g1.2.2 j (by simpa using hj) ho' (by omega)
      ·rw [g2, sers_cons, cntV_app, List.drop_drop, spl, if_pos hsp, List.append_assoc]
     ·refine .inr ⟨fun hg => g1 ⟨?_, fun v hv => hg.2.1 v (by simp [hv]), fun j hj ho' hja => hg.2.2 (j + 1) (by simpa using hj) ho' (by omega)⟩, g2⟩
      have := hg.1
      rw [sers_cons, List.all_append, Bool.and_eq_true] at this
      exact this.2
    ·rw [if_pos h4]
     exact .inr ⟨fun hg => h4 (hg.2.2 0 (by simp) hsp.1 (by simpa using hsp.2)), _, _, rfl⟩
   ·have hin : ∀ (X Y : Option (Vl × Bool × List Vl)), (if op = 36 then (if decide ((q : Int) = a) = true then X else Y) else Y) = Y := fun X Y => by
     by_cases h36 : op = 36
     ·rw [if_pos h36, decide_eq_false (fun h => hsp ⟨h36, h⟩)]; rfl
     ·rw [if_neg h36]
    rw [hin, need_pos (by simp; omega), i64_succ (by omega)]
    rcases ih (q + 1) n (l.drop (cntV (ser kids[q]))) (out ++ [(bd k kids[q] l).1]) (by omega) (by omega) (by simp; omega) hlen with ⟨g1, g2⟩ | ⟨g1, g2⟩
    ·refine .inl ⟨⟨by rw [sers_cons, List.all_append, e1, g1.1]; rfl, ?_, ?_⟩, ?_⟩
     ·intro v hv
      rcases List.mem_cons.1 hv with rfl | hv
      ·exact e2
      ·exact g1.2.1 v hv
     ·intro j hj ho' hja
      cases j with
      | zero => exact absurd ⟨ho', by simpa using hja⟩ hsp
      | succ j => exact g1.2.2 j (by simpa using hj) ho' (by omega)
     ·rw [g2, sers_cons, cntV_app, List.drop_drop, spl, if_neg hsp, List.append_assoc]
    ·refine .inr ⟨fun hg => g1 ⟨?_, fun v hv => hg.2.1 v (by simp [hv]), fun j hj ho' hja => hg.2.2 (j + 1) (by simpa using hj) ho' (by omega)⟩, g2⟩
     have := hg.1
     rw [sers_cons, List.all_append, Bool.and_eq_true] at this
     exact this.2
  ·rw [e3, bnd1_mk]
   refine .inr ⟨fun hg => e1 ⟨?_, hg.2.1 _ (by simp)⟩, [], l', by simp⟩
   have := hg.1
   rw [sers_cons, List.all_append, Bool.and_eq_true] at this
   exact this.1
theorem rMakeC (c : UInt8) (hc : 3 ≤ c.toNat ∧ c.toNat ≤ 9) (z : Int) (hz : (c.toNat : Int) = z) (l : List Vl) (hl : l.length ≤ 1099511627776) : m_ref9_Make z l = some (cmpd c l) := by rw [← hz]; exact rMake c hc l hl
theorem rDotC {k : Int} (h0 : 0 ≤ k) (h1 : k ≤ 65535) (l : List Vl) (hl : l.length ≤ 68719476736) : m_ref9_Dot k l = some (cmpd 7 (nameW k :: l)) := by
 unfold m_ref9_Dot
 rw [rNameW h0 h1, bnd1_mk, need_pos (by simp; omega), rMakeC 7 (by decide) 7 rfl _ (by simp; omega), bnd1_mk]; rfl
set_option maxRecDepth 10000 in
theorem rBuild {p : List Cd} (hp : p.length ≤ 1048576) : ∀ (k n : Nat) (t : Nd) (i : Nat) (l : List Vl), k < n → OkT k t → AtP p i t → (ser t).length ≤ 100 ∨ (ser t).length ≤ 8192 → cntV (ser t) ≤ l.length → RB t (bd k t l).1 l (m_ref11_build_S n p i l) := by
 intro k
 induction k with
 | zero => intro n t i l _ h; exact absurd h not_ok0
 | succ k ih =>
  intro n t i l hn hok hat hs hc
  obtain ⟨n, rfl⟩ : ∃ j, n = j + 1 := ⟨n - 1, by omega⟩
  have hFU := FU_ge
  have hlt := hat.lt hok.pr
  cases hok with | @mk _ op a kids hf hk =>
  have hpr : ∀ x ∈ kids, Pr x := fun x hx => (hk x hx).pr
  have hkl := sers_len hpr
  unfold RB
  rw [ser_mk] at hs hc ⊢
  rw [ser_mk, List.length_cons] at hlt
  rw [List.length_cons] at hs
  rw [cntV_cons] at hc
  rw [m_ref11_build_S, m_ref11_build_F, need_pos (by omega), hat.hd, bd, List.all_cons, cntV_cons]
  simp only []
  by_cases c1 : op = 30
  ·obtain rfl := fm_kids0 hf (.inl c1)
   rw [if_pos c1] at hc ⊢
   rw [if_pos c1, if_pos c1, need_pos (by omega), need_pos (by omega), rValid, bnd1_mk, sers_nil]
   cases hv : vldB (gi l 0) with
   | true => exact .inl ⟨by simp [nbC, c1], vldB_iff.1 hv, rfl⟩
   | false => exact .inr ⟨fun h => (by rw [vldB_iff.2 h.2] at hv; cases hv), _, _, rfl⟩
  rw [if_neg c1] at hc ⊢
  rw [if_neg c1, if_neg c1]
  by_cases c2 : op = 32
  ·obtain rfl := fm_kids0 hf (.inr (.inr (.inl c2)))
   rw [if_pos c2, if_pos c2, rInt, bnd1_mk, sers_nil]
   exact .inl ⟨by simp [nbC, c2], intW_vd a, rfl⟩
  rw [if_neg c2, if_neg c2]
  by_cases c3 : op = 33
  ·obtain rfl := fm_kids0 hf (.inr (.inr (.inr c3)))
   rw [if_pos c3, if_pos c3, sers_nil]
   refine .inl ⟨by simp [nbC, c3], boolW_vd _, ?_⟩
   unfold m_ref9_Bool boolW
   by_cases h : a = 1 <;> simp [h, bnd1_mk, jn_eq, cntV]
  rw [if_neg c3, if_neg c3]
  refine jn_absP (P := fun r => (_ ∧ _ ∧ r = _) ∨ (_ ∧ ∃ v l', r = some (v, false, l'))) fun K0 hK0 => ?_
  by_cases c4 : op = 31
  ·rw [if_pos c4, decide_eq_true c4, hK0]
   exact .inr ⟨fun h => by simp [nbC, c4] at h, _, _, rfl⟩
  rw [if_neg c4]
  by_cases c5 : op = 40
  ·rw [if_pos c5, decide_eq_true c5, hK0]
   exact .inr ⟨fun h => by simp [nbC, c5] at h, _, _, rfl⟩
  rw [if_neg c5]
  by_cases c6 : op = 39
  ·rw [decide_eq_true c6, hK0]
   exact .inr ⟨fun h => by simp [nbC, c6] at h, _, _, rfl⟩
  rw [decide_eq_false c6, hK0]
  simp only [Bool.false_eq_true, if_false]
  have hnb : nbC (op, a, (kids.length : Int)) = true := by simp [nbC, c4, c5, c6]
  rw [hnb, Bool.true_and, rKids hp hat hpr, bnd1_mk]
  have hops : op = 34 ∨ op = 35 ∨ op = 37 ∨ op = 38 ∨ (op = 36 ∧ 0 ≤ a ∧ a < kids.length) := by
   unfold fmB at hf
   by_cases d1 : op = 34
   ·exact .inl d1
   by_cases d2 : op = 35
   ·exact .inr (.inl d2)
   by_cases d3 : op = 37
   ·exact .inr (.inr (.inl d3))
   by_cases d4 : op = 38
   ·exact .inr (.inr (.inr (.inl d4)))
   by_cases d5 : op = 36
   ·simp [d5] at hf; exact .inr (.inr (.inr (.inr ⟨d5, hf.1, hf.2.1⟩)))
   simp [c1, c2, c3, c4, c5, c6, d1, d2, d3, d4, d5] at hf
  have gl := bds_len (bd k) kids l
  refine jn_absP (P := fun r => (_ ∧ _ ∧ r = _) ∨ (_ ∧ ∃ v l', r = some (v, false, l'))) fun K hK => ?_
  have hloop := rBuild_loop (m_ref11_build_S n) k K hat (by omega) hk (fun x hx j l' hj hc' => ih n x j l' (by omega) (hk x hx) hj (by have := sub_len hx; omega) hc') kids.length 0 FU l [] (by omega) (by omega) (by simp) (by simpa using hc)
  simp only [List.drop_zero, Int.natCast_zero, List.nil_append, Nat.zero_add] at hloop ⊢
  rcases hloop with ⟨g1, g2⟩ | ⟨g1, v, l', g2⟩
  ·rw [g2, g1.1]
   have hsl : (spl op a 0 (bds (bd k) kids l).1).length ≤ 8192 + 65536 := by
    by_cases h36 : op = 36
    ·obtain ⟨a0, a1⟩ : 0 ≤ a ∧ a < kids.length := by omega
     have e0 : a - ((0 : Nat) : Int) = a := by omega
     rw [h36, spl_at (by omega) (by rw [gl]; omega), e0]
     have := (prtW_spec (gi (bds (bd k) kids l).1 a)).2.1
     simp [gl]; omega
    ·rw [spl_id (by omega), gl]; omega
   have hfin : K (l.drop (cntV (sers kids))) (spl op a 0 (bds (bd k) kids l).1) = some (finW op a (bds (bd k) kids l).1, decide (¬ finW op a (bds (bd k) kids l).1 = []), l.drop (cntV (sers kids))) := by
    rw [hK]
    simp only [jn_eq]
    unfold finW
    by_cases d1 : op = 34
    ·rw [if_pos d1, if_pos d1, spl_id (by omega), rMakeC 3 (by decide) 3 rfl _ (by omega), bnd1_mk]
    rw [if_neg d1, if_neg d1]
    by_cases d2 : op = 35
    ·rw [if_pos d2, if_pos d2, decide_eq_true d2, if_pos rfl, spl_id (by omega), rMakeC 4 (by decide) 4 rfl _ (by omega), bnd1_mk]
    rw [if_neg d2, if_neg d2]
    by_cases d3 : op = 36
    ·obtain ⟨a0, a1⟩ : 0 ≤ a ∧ a < kids.length := by omega
     have e0 : a - ((0 : Nat) : Int) = a := by omega
     have h4 : kindW (gi (bds (bd k) kids l).1 a) = 4 := by
      have := g1.2.2 a.toNat (by rw [gl]; omega) d3 (by omega)
      rw [← gi_nat (by rw [gl]; omega), show ((a.toNat : Nat) : Int) = a by omega] at this
      exact this
     rw [decide_eq_true d3, if_pos rfl, if_neg (by omega), if_neg (by omega), if_pos h4]
     subst d3
     rw [rMakeC 4 (by decide) 4 rfl _ (by omega), bnd1_mk, spl_at (by omega) (by rw [gl]; omega), e0]
    rw [decide_eq_false d3]
    simp only [Bool.false_eq_true, if_false]
    rw [spl_id (by omega)]
    by_cases d4 : op = 37
    ·rw [if_pos d4, if_pos d4, rSet _ (by omega), bnd1_mk]
    rw [if_neg d4, if_neg d4]
    have d5 : op = 38 := by omega
    rw [if_pos d5, if_pos d5]
    by_cases h1 : a < 0
    ·rw [if_pos h1, if_pos (show a < 0 ∨ 65536 ≤ a from .inl h1)]; simp
    ·rw [if_neg h1]
     by_cases h2 : 65535 < a
     ·rw [decide_eq_true h2, if_pos rfl, if_pos (show a < 0 ∨ 65536 ≤ a by omega)]; simp
     ·rw [decide_eq_false h2, if_neg (by simp), if_neg (show ¬ (a < 0 ∨ 65536 ≤ a) by omega), rDotC (by omega) (by omega) _ (by omega), bnd1_mk]
   rw [hfin]
   by_cases hne : finW op a (bds (bd k) kids l).1 = []
   ·exact .inr ⟨fun h => h.2.ne hne, _, _, by rw [decide_eq_false (fun h => h hne)]⟩
   ·exact .inl ⟨rfl, fin_ne hne, by rw [decide_eq_true hne]⟩
  ·rw [g2]
   refine .inr ⟨fun h => g1 ⟨h.1, (fin_vd (by rw [gl]; exact hops) h.2).1, fun j hj ho' hja => ?_⟩, v, l', rfl⟩
   have := (fin_vd (by rw [gl]; exact hops) h.2).2 ho'
   rwa [← hja, Nat.zero_add, gi_nat hj] at this
theorem rBuildW (p : List Cd) (l : List Vl) (hl : p.length ≤ 1048576) (hll : l.length ≤ 137438953472) : m_ref11_Build p l = some (buildW p l) := by
 have hFU := FU_ge
 unfold m_ref11_Build buildW m_ref11_build
 simp only [jn_eq]
 rw [rPattern p hl, bnd1_mk]
 cases hp : parse p with
 | none => simp
 | some t =>
  obtain ⟨rfl, hok, h8⟩ := parse_some.1 hp
  simp only [Option.isSome_some, Bool.not_true, Bool.false_eq_true, if_false]
  rw [rVars _ (by omega), bnd1_mk]
  by_cases hc : cntV (ser t) = l.length
  ·rw [decide_eq_false (show ¬ ¬ (l.length : Int) = (cntV (ser t) : Int) by omega)]
   simp only [Bool.false_eq_true, if_false]
   rw [need_pos hll]
   have := rBuild hl 64 FU t 0 l (by omega) hok (AtP.self t) (.inr h8) (by omega)
   rw [Int.natCast_zero] at this
   rcases this with ⟨h1, h2, h3⟩ | ⟨h1, v, l', h3⟩
   ·rw [h3, bnd1_mk]
    simp only [Bool.not_true, Bool.false_eq_true, if_false]
    rw [if_pos ⟨h1, hc, vldB_iff.2 h2⟩]
   ·rw [h3, bnd1_mk]
    simp only [Bool.not_false, if_true]
    rw [if_neg (fun h => h1 ⟨h.1, vldB_iff.1 h.2.2⟩)]
  ·rw [decide_eq_true (show ¬ (l.length : Int) = (cntV (ser t) : Int) by omega), if_pos rfl, if_neg (fun h => hc h.2.1)]
theorem mt_small {p : List Cd} {v : Vl} {l : List Vl} (h : matchW p v = some l) : l.length ≤ 8192 := by
 unfold matchW at h
 split at h
 ·cases h
 ·rename_i t ht
  obtain ⟨rfl, _, h8⟩ := parse_some.1 ht
  split at h
  ·exact Nat.le_trans (mt_len h) h8
  ·cases h
end Go.Proofs.YtpfdeahcjlfijaaGreat
/- What is built is matched, what is matched is built again. -/
namespace Go.Proofs.YtpfdeahcjlfijaaGreat
attribute [local irreducible] FU

theorem cmpd_facts {c : UInt8} (hc : 3 ≤ c.toNat ∧ c.toNat ≤ 9) {l : List Vl} (h : cmpd c l ≠ []) : kindW (cmpd c l) = (c.toNat : Int) ∧ prtW (cmpd c l) = l ∧ Vd (cmpd c l) ∧ ∀ v ∈ l, Vd v := by
 obtain ⟨h1, h2, h3⟩ := cmpd_ne.1 h
 rw [cmpd_yes ⟨h1, h2, h3⟩]
 refine ⟨?_, ?_, h3, h2⟩
 ·unfold kindW; rw [if_pos (vldB_iff.2 h3)]; rfl
 ·unfold prtW; rw [if_pos (vldB_iff.2 h3), prt_raw hc h1 h2]
theorem cmpd_prt {c : UInt8} (hc : 3 ≤ c.toNat ∧ c.toNat ≤ 9) {v : Vl} (hk : kindW v = (c.toNat : Int)) : cmpd c (prtW v) = v := by
 have hv : Vd v := kind_vd (by omega)
 obtain ⟨h1, h2, _, _, h3⟩ := prtW_spec v
 obtain ⟨_, h4⟩ := h3 (by omega) (by omega)
 have h0 : gi v 0 = c := kind_gi hk (fun e => by subst e; simp at hc)
 rw [h0] at h4
 rw [cmpd_yes ⟨h2, h1, by rw [← h4]; exact hv⟩, ← h4]
theorem sort_one {l : List Vl} (h : l.length ≤ 1) : sortW l = l := by
 refine sortW_id ?_
 match l, h with
 | [], _ => exact .nil
 | [x], _ => exact .cons (fun y hy => by cases hy) .nil
theorem num_int {n : Int} (h : -9223372036854775808 ≤ n ∧ n ≤ 9223372036854775807) : kindW (intW n) = 1 ∧ numW (intW n) = n := by
 have hk : kindW (intW n) = 1 := by unfold kindW; rw [if_pos (vldB_iff.2 (intW_vd n))]; rfl
 refine ⟨hk, ?_⟩
 unfold numW; rw [if_pos hk, numV_intW h]
theorem int_num {v : Vl} (h : kindW v = 1) : intW (numW v) = v := by
 rcases kind_shape (v := v) (by omega) with ⟨_, b, hb, rfl⟩ | ⟨h', _⟩ | ⟨h', _⟩ | h'
 ·unfold numW
  rw [if_pos h, numV]
  have hlt := beNat_lt b
  rw [hb] at hlt
  have hlt' : beNat b < 18446744073709551616 := hlt
  have hr : -9223372036854775808 ≤ i64 (beNat b : Int) ∧ i64 (beNat b : Int) ≤ 9223372036854775807 := by
   unfold i64 IntKind.wrap IntKind.bits IntKind.signed
   simp; omega
  have h1 := numV_intW hr
  unfold numV intW at h1
  have hl := beNat_lt (byD (wOf (i64 (beNat b : Int))) 8)
  rw [byD_len] at hl
  have h2 := i64_inj hl hlt' h1
  show (1 : UInt8) :: byD (wOf (i64 (beNat b : Int))) 8 = 1 :: b
  rw [beNat_inj 8 _ _ (byD_len _ 8) hb h2]
 ·omega
 ·omega
 ·omega
theorem num_bool {n : Int} (h : n = 0 ∨ n = 1) : kindW (boolW (decide (n = 1))) = 2 ∧ numW (boolW (decide (n = 1))) = n := by
 have hk : kindW (boolW (decide (n = 1))) = 2 := by
  unfold kindW; rw [if_pos (vldB_iff.2 (boolW_vd _))]
  rcases h with rfl | rfl <;> rfl
 refine ⟨hk, ?_⟩
 unfold numW; rw [if_neg (by omega), if_pos hk]
 rcases h with rfl | rfl <;> rfl
theorem bool_num {v : Vl} {n : Int} (h : kindW v = 2) (hn : numW v = n) : boolW (decide (n = 1)) = v := by
 rcases kind_shape (v := v) (by omega) with ⟨h', _⟩ | ⟨_, b, hb, rfl⟩ | ⟨h', _⟩ | h'
 ·omega
 ·unfold numW at hn
  rw [if_neg (by omega), if_pos h] at hn
  have hn' : ((b.toNat : Nat) : Int) = n := hn
  have : b = 0 ∨ b = 1 := by
   rcases (by omega : b.toNat = 0 ∨ b.toNat = 1) with h | h
   ·left; exact u8_inj (by rw [h]; rfl)
   ·right; exact u8_inj (by rw [h]; rfl)
  rcases this with rfl | rfl
  ·rw [← hn']; rfl
  ·rw [← hn']; rfl
 ·omega
 ·omega
theorem name_kind (n : Int) : kindW (nameW n) = 10 := by
 have hV : Vd (nameW n) := ⟨(nameW_IsV n 0).le (by omega), by simp [nameW]⟩
 unfold kindW; rw [if_pos (vldB_iff.2 hV)]; rfl
theorem num_name {n : Int} (h0 : 0 ≤ n) (h1 : n ≤ 65535) : numW (nameW n) = n := by
 unfold numW
 rw [if_neg (by rw [name_kind]; omega), if_neg (by rw [name_kind]; omega), if_pos (name_kind n)]
 have := nameBytes h0 h1
 show (((u8i (n / 256)).toNat * 256 + (u8i n).toNat : Nat) : Int) = n
 omega
theorem name_num {v : Vl} {n : Int} (h : kindW v = 10) (hn : numW v = n) : nameW n = v := by
 rcases kind_shape (v := v) (by omega) with ⟨h', _⟩ | ⟨h', _⟩ | ⟨_, a, b, rfl⟩ | h'
 ·omega
 ·omega
 ·unfold numW at hn
  rw [if_neg (by omega), if_neg (by omega), if_pos h] at hn
  have hn' : ((a.toNat * 256 + b.toNat : Nat) : Int) = n := hn
  have ha := UInt8.toNat_lt a
  have hb := UInt8.toNat_lt b
  unfold nameW
  have e1 : u8i (n / 256) = a := u8_inj (by rw [← hn', show ((a.toNat * 256 + b.toNat : Nat) : Int) / 256 = ((a.toNat : Nat) : Int) by omega, u8i_nat]; omega)
  have e2 : u8i n = b := u8_inj (by rw [← hn', u8i_nat]; omega)
  rw [e1, e2]
 ·omega

def rngC (c : Cd) : Bool := decide (c.1 = 32 → -9223372036854775808 ≤ c.2.1 ∧ c.2.1 ≤ 9223372036854775807)
theorem mts_build (k : Nat) : ∀ (kids : List Nd) (l : List Vl), (∀ x ∈ kids, OkT k x) → (sers kids).all nbC = true →
  (∀ x ∈ kids, ∀ l, cntV (ser x) ≤ l.length → Vd (bd k x l).1 → mt k x (bd k x l).1 = some (l.take (cntV (ser x)))) → cntV (sers kids) ≤ l.length → (∀ v ∈ (bds (bd k) kids l).1, Vd v) →
  mts (mt k) kids (bds (bd k) kids l).1 = some (l.take (cntV (sers kids)))
 | [], l, _, _, _, _, _ => by simp [bds, mts, sers_nil, cntV]
 | x :: xs, l, hk, hb, h, hc, hv => by
  rw [sers_cons, cntV_app] at hc
  rw [sers_cons, List.all_append, Bool.and_eq_true] at hb
  have hb2 : bds (bd k) (x :: xs) l = ((bd k x l).1 :: (bds (bd k) xs (bd k x l).2).1, (bds (bd k) xs (bd k x l).2).2) := rfl
  rw [hb2] at hv ⊢
  have e := bd_snd (l := l) (hk x (by simp)) hb.1
  simp only [mts]
  rw [h x (by simp) l (by omega) (hv _ (by simp))]
  have := mts_build k xs (bd k x l).2 (fun y hy => hk y (by simp [hy])) hb.2 (fun y hy => h y (by simp [hy])) (by rw [e]; simp; omega) (fun v hv' => hv v (by simp [hv']))
  rw [this, e, sers_cons, cntV_app, List.take_add]
theorem match_build : ∀ (k : Nat) (t : Nd) (l : List Vl), OkT k t → (ser t).all nbC = true → (ser t).all rngC = true → cntV (ser t) ≤ l.length → Vd (bd k t l).1 → mt k t (bd k t l).1 = some (l.take (cntV (ser t)))
 | 0, _, _, h, _, _, _, _ => absurd h not_ok0
 | k + 1, .nil, _, h, _, _, _, _ => by cases h
 | k + 1, .mk op n kids, l, hok, hb, hr, hc, hv => by
  cases hok with | mk hf hk =>
  rw [ser_mk, List.all_cons, Bool.and_eq_true] at hb hr
  rw [ser_mk, cntV_cons] at hc ⊢
  obtain ⟨hb1, hb2⟩ := hb
  obtain ⟨hr1, hr2⟩ := hr
  simp only [nbC, decide_eq_true_eq] at hb1
  rw [bd] at hv ⊢
  rw [mt]
  by_cases c1 : op = 30
  ·obtain rfl := fm_kids0 hf (.inl c1)
   rw [if_pos c1] at hc
   rw [if_pos c1, if_pos c1, if_pos c1, sers_nil]
   obtain ⟨y, l', rfl⟩ : ∃ y l', l = y :: l' := by
    cases l with
    | nil => simp at hc
    | cons y l' => exact ⟨y, l', rfl⟩
   rfl
  rw [if_neg c1] at hc hv ⊢
  rw [if_neg c1, if_neg hb1.1]
  rw [if_neg c1]
  by_cases c2 : op = 32
  ·obtain rfl := fm_kids0 hf (.inr (.inr (.inl c2)))
   simp only [rngC, decide_eq_true_eq] at hr1
   obtain ⟨q1, q2⟩ := num_int (hr1 c2)
   rw [if_pos c2, if_pos c2, if_pos ⟨q1, q2⟩, sers_nil]; rfl
  rw [if_neg c2] at hv ⊢
  rw [if_neg c2]
  by_cases c3 : op = 33
  ·obtain rfl := fm_kids0 hf (.inr (.inr (.inr c3)))
   obtain ⟨q1, q2⟩ := num_bool (n := n) (by subst c3; simp [fmB] at hf; exact hf)
   rw [if_pos c3, if_pos c3, if_pos ⟨q1, q2⟩, sers_nil]; rfl
  rw [if_neg c3] at hv ⊢
  rw [if_neg c3, Nat.zero_add]
  rw [Nat.zero_add] at hc
  have gl := bds_len (bd k) kids l
  have hops : op = 34 ∨ op = 35 ∨ op = 37 ∨ op = 38 ∨ (op = 36 ∧ 0 ≤ n ∧ n < kids.length) := by
   unfold fmB at hf
   by_cases d1 : op = 34
   ·exact .inl d1
   by_cases d2 : op = 35
   ·exact .inr (.inl d2)
   by_cases d3 : op = 37
   ·exact .inr (.inr (.inl d3))
   by_cases d4 : op = 38
   ·exact .inr (.inr (.inr (.inl d4)))
   by_cases d5 : op = 36
   ·simp [d5] at hf; exact .inr (.inr (.inr (.inr ⟨d5, hf.1, hf.2.1⟩)))
   simp [c1, c2, c3, hb1.1, hb1.2.1, hb1.2.2, d1, d2, d3, d4, d5] at hf
  have hv0 : Vd (finW op n (bds (bd k) kids l).1) := hv
  obtain ⟨hvs, hv4⟩ := fin_vd (by rw [gl]; exact hops) hv0
  have key := mts_build k kids l hk hb2 (fun x hx l' h1 h2 => match_build k x l' (hk x hx) (all_sub hb2 x hx) (all_sub hr2 x hx) h1 h2) hc hvs
  have hsub : subP op n kids.length (finW op n (bds (bd k) kids l).1) = some (bds (bd k) kids l).1 := by
   have hne := hv0.ne
   unfold finW at hne ⊢
   unfold subP
   by_cases d1 : op = 34
   ·rw [if_pos d1] at hne ⊢
    obtain ⟨f1, f2, _⟩ := cmpd_facts (by decide) hne
    rw [if_pos d1, if_pos (by rw [f1]; rfl), f2]
   rw [if_neg d1] at hne ⊢
   rw [if_neg d1]
   by_cases d2 : op = 35
   ·rw [if_pos d2] at hne ⊢
    obtain ⟨f1, f2, _⟩ := cmpd_facts (by decide) hne
    rw [if_pos d2, if_pos (by rw [f1]; rfl), f2]
   rw [if_neg d2] at hne ⊢
   rw [if_neg d2]
   by_cases d3 : op = 37
   ·rw [if_pos d3] at hne ⊢
    have hk1 : kids.length ≤ 1 := by subst d3; simp [fmB] at hf; exact hf.1
    unfold setW at hne ⊢
    rw [sort_one (by rw [gl]; exact hk1)] at hne ⊢
    obtain ⟨f1, f2, _⟩ := cmpd_facts (by decide) hne
    rw [if_pos d3, if_pos (by rw [f1]; rfl), f2]
   rw [if_neg d3] at hne ⊢
   rw [if_neg d3]
   by_cases d4 : op = 38
   ·rw [if_pos d4] at hne ⊢
    by_cases c5 : n < 0 ∨ 65536 ≤ n
    ·rw [if_pos c5] at hne; exact absurd rfl hne
    ·rw [if_neg c5] at hne ⊢
     obtain ⟨f1, f2, _⟩ := cmpd_facts (by decide) hne
     rw [if_pos d4, if_pos ⟨by rw [f1]; rfl, by rw [f2]; exact num_name (by omega) (by omega)⟩, f2]; rfl
   rw [if_neg d4] at hne ⊢
   rw [if_neg d4]
   obtain ⟨d5, n0, n1⟩ : op = 36 ∧ 0 ≤ n ∧ n < kids.length := by omega
   have h4 := hv4 d5
   rw [if_pos h4] at hne ⊢
   obtain ⟨f1, f2, _⟩ := cmpd_facts (by decide) hne
   have ew : cmpd 4 (prtW (gi (bds (bd k) kids l).1 n)) = gi (bds (bd k) kids l).1 n := cmpd_prt (by decide) h4
   obtain ⟨ps, hps⟩ : ∃ ps, ps = (bds (bd k) kids l).1 := ⟨_, rfl⟩
   obtain ⟨j, hj⟩ : ∃ j : Nat, n = j := ⟨n.toNat, by omega⟩
   rw [← hps] at gl f1 f2 ew ⊢
   subst hj
   have hjl : j < ps.length := by omega
   rw [gi_nat hjl] at f1 f2 ew ⊢
   rw [Int.toNat_natCast] at f1 f2 ⊢
   obtain ⟨mid, hmid⟩ : ∃ mid, mid = prtW ps[j] := ⟨_, rfl⟩
   rw [← hmid] at f1 f2 ew ⊢
   have hL : (ps.take j ++ mid ++ ps.drop (j + 1)).length = ps.length - 1 + mid.length := by simp; omega
   rw [if_pos d5, if_pos ⟨by rw [f1]; rfl, by rw [f2, hL]; omega⟩, f2, hL]
   have z0 : (ps.take j).length = j := by simp; omega
   have z1 : (ps.take j ++ mid ++ ps.drop (j + 1)).take j = ps.take j := by
    rw [List.append_assoc, List.take_append_of_le_length (by omega), List.take_of_length_le (by omega)]
   have z2 : ((ps.take j ++ mid ++ ps.drop (j + 1)).drop j).take (ps.length - 1 + mid.length - (kids.length - 1)) = mid := by
    rw [List.append_assoc, List.drop_append, z0, List.drop_eq_nil_of_le (by omega), Nat.sub_self, List.drop_zero, List.nil_append, show ps.length - 1 + mid.length - (kids.length - 1) = mid.length by omega, List.take_append_of_le_length (Nat.le_refl _), List.take_of_length_le (Nat.le_refl _)]
   have z3 : (ps.take j ++ mid ++ ps.drop (j + 1)).drop (ps.length - 1 + mid.length - (kids.length - 1 - j)) = ps.drop (j + 1) := by
    rw [List.drop_append, List.length_append, z0, List.drop_eq_nil_of_le (by simp; omega), List.nil_append, show ps.length - 1 + mid.length - (kids.length - 1 - j) - (j + mid.length) = 0 by omega, List.drop_zero]
   rw [z1, z2, z3, ew, ← List.drop_eq_getElem_cons hjl, List.take_append_drop]
  show (match subP op n kids.length (finW op n (bds (bd k) kids l).1) with | none => none | some ps => mts (mt k) kids ps) = _
  rw [hsub]
  exact key

theorem mts_cnt {f : Nd → Vl → Option (List Vl)} : ∀ {kids : List Nd} {ps l : List Vl}, (∀ x ∈ kids, ∀ y l, f x y = some l → l.length = cntV (ser x)) → mts f kids ps = some l → l.length = cntV (sers kids)
 | [], [], l, _, h => by simp only [mts] at h; cases h; rw [sers_nil]; rfl
 | [], _ :: _, l, _, h => by simp only [mts] at h; cases h
 | _ :: _, [], l, _, h => by simp only [mts] at h; cases h
 | x :: xs, y :: ys, l, hf, h => by
  simp only [mts] at h
  split at h
  ·cases h
  ·rename_i a ha
   split at h
   ·cases h
   ·rename_i b hb
    cases h
    rw [List.length_append, hf x (by simp) y a ha, mts_cnt (kids := xs) (ps := ys) (fun z hz => hf z (by simp [hz])) hb, sers_cons, cntV_app]
theorem mt_cnt : ∀ {k : Nat} {t : Nd} {v : Vl} {l : List Vl}, OkT k t → mt k t v = some l → l.length = cntV (ser t)
 | 0, _, _, _, h, _ => absurd h not_ok0
 | k + 1, .nil, _, _, h, _ => by cases h
 | k + 1, .mk op n kids, v, l, hok, h => by
  cases hok with | mk hf hk =>
  rw [mt] at h
  rw [ser_mk, cntV_cons]
  split at h
  ·rename_i c1
   obtain rfl := fm_kids0 hf (.inl c1)
   cases h; rw [if_pos c1, sers_nil]; rfl
  ·rename_i c1
   split at h
   ·rename_i c2
    obtain rfl := fm_kids0 hf (.inr (.inl c2))
    cases h; rw [if_neg c1, sers_nil]; rfl
   split at h
   ·rename_i c2
    obtain rfl := fm_kids0 hf (.inr (.inr (.inl c2)))
    split at h <;> cases h
    rw [if_neg c1, sers_nil]; rfl
   split at h
   ·rename_i c2
    obtain rfl := fm_kids0 hf (.inr (.inr (.inr c2)))
    split at h <;> cases h
    rw [if_neg c1, sers_nil]; rfl
   split at h
   ·cases h
   ·rw [if_neg (show ¬ op = 30 from c1), Nat.zero_add]
    exact mts_cnt (fun x hx y l h => mt_cnt (hk x hx) h) h
theorem bds_match (k : Nat) : ∀ (kids : List Nd) (ps m rest : List Vl), (∀ x ∈ kids, OkT k x) → (sers kids).all nbC = true →
  (∀ x ∈ kids, ∀ v m rest, mt k x v = some m → Vd (bd k x (m ++ rest)).1 → (bd k x (m ++ rest)).1 = v) → mts (mt k) kids ps = some m → (∀ v ∈ (bds (bd k) kids (m ++ rest)).1, Vd v) →
  (bds (bd k) kids (m ++ rest)).1 = ps
 | [], [], _, _, _, _, _, _, _ => rfl
 | [], _ :: _, m, _, _, _, _, h, _ => by simp only [mts] at h; cases h
 | _ :: _, [], m, _, _, _, _, h, _ => by simp only [mts] at h; cases h
 | x :: xs, y :: ys, m, rest, hk, hb, hs, h, hv => by
  rw [sers_cons, List.all_append, Bool.and_eq_true] at hb
  simp only [mts] at h
  split at h
  ·cases h
  ·rename_i a ha
   split at h
   ·cases h
   ·rename_i b hb'
    cases h
    have hb2 : bds (bd k) (x :: xs) (a ++ b ++ rest) = ((bd k x (a ++ b ++ rest)).1 :: (bds (bd k) xs (bd k x (a ++ b ++ rest)).2).1, (bds (bd k) xs (bd k x (a ++ b ++ rest)).2).2) := rfl
    rw [hb2] at hv ⊢
    have e := bd_snd (l := a ++ b ++ rest) (hk x (by simp)) hb.1
    rw [← mt_cnt (hk x (by simp)) ha, List.append_assoc, List.drop_left] at e
    rw [List.append_assoc] at hv ⊢
    rw [e] at hv ⊢
    rw [hs x (by simp) y a (b ++ rest) ha (hv _ (by simp)), bds_match k xs ys b rest (fun z hz => hk z (by simp [hz])) hb.2 (fun z hz => hs z (by simp [hz])) hb' (fun v hv' => hv v (by simp [hv']))]
theorem build_match : ∀ (k : Nat) (t : Nd) (v : Vl) (m rest : List Vl), OkT k t → (ser t).all nbC = true → mt k t v = some m → Vd (bd k t (m ++ rest)).1 → (bd k t (m ++ rest)).1 = v
 | 0, _, _, _, _, h, _, _, _ => absurd h not_ok0
 | k + 1, .nil, _, _, _, h, _, _, _ => by cases h
 | k + 1, .mk op n kids, v, m, rest, hok, hb, hm, hv => by
  cases hok with | mk hf hk =>
  rw [ser_mk, List.all_cons, Bool.and_eq_true] at hb
  obtain ⟨hb1, hb2⟩ := hb
  simp only [nbC, decide_eq_true_eq] at hb1
  rw [mt] at hm
  rw [bd] at hv ⊢
  by_cases c1 : op = 30
  ·rw [if_pos c1] at hm hv ⊢
   cases hm; rfl
  rw [if_neg c1] at hm hv ⊢
  rw [if_neg hb1.1] at hm
  by_cases c2 : op = 32
  ·rw [if_pos c2] at hm hv ⊢
   split at hm
   ·rename_i h
    rw [← h.2]; exact int_num h.1
   ·cases hm
  rw [if_neg c2] at hm hv ⊢
  by_cases c3 : op = 33
  ·rw [if_pos c3] at hm hv ⊢
   split at hm
   ·rename_i h
    exact bool_num h.1 h.2
   ·cases hm
  rw [if_neg c3] at hm hv ⊢
  have hops : op = 34 ∨ op = 35 ∨ op = 37 ∨ op = 38 ∨ (op = 36 ∧ 0 ≤ n ∧ n < kids.length) := by
   unfold fmB at hf
   by_cases d1 : op = 34
   ·exact .inl d1
   by_cases d2 : op = 35
   ·exact .inr (.inl d2)
   by_cases d3 : op = 37
   ·exact .inr (.inr (.inl d3))
   by_cases d4 : op = 38
   ·exact .inr (.inr (.inr (.inl d4)))
   by_cases d5 : op = 36
   ·simp [d5] at hf; exact .inr (.inr (.inr (.inr ⟨d5, hf.1, hf.2.1⟩)))
   simp [c1, c2, c3, hb1.1, hb1.2.1, hb1.2.2, d1, d2, d3, d4, d5] at hf
  have gl := bds_len (bd k) kids (m ++ rest)
  have hv0 : Vd (finW op n (bds (bd k) kids (m ++ rest)).1) := hv
  obtain ⟨hvs, hv4⟩ := fin_vd (by rw [gl]; exact hops) hv0
  split at hm
  ·cases hm
  ·rename_i ps hps
   have e := bds_match k kids ps m rest hk hb2 (fun x hx v m rest h1 h2 => build_match k x v m rest (hk x hx) (all_sub hb2 x hx) h1 h2) hm hvs
   show finW op n (bds (bd k) kids (m ++ rest)).1 = v
   rw [e] at hv0 hv4 gl hvs ⊢
   unfold subP at hps
   unfold finW at hv0 ⊢
   by_cases d1 : op = 34
   ·rw [if_pos d1] at hps ⊢
    split at hps
    ·rename_i h; cases hps; exact cmpd_prt (by decide) h
    ·cases hps
   rw [if_neg d1] at hps hv0 ⊢
   by_cases d2 : op = 35
   ·rw [if_pos d2] at hps ⊢
    split at hps
    ·rename_i h; cases hps; exact cmpd_prt (by decide) h
    ·cases hps
   rw [if_neg d2] at hps hv0 ⊢
   by_cases d3 : op = 37
   ·rw [if_pos d3] at hps ⊢
    split at hps
    ·rename_i h
     cases hps
     unfold setW
     rw [sortW_id (prtW_SLC (decide_eq_true h))]
     exact cmpd_prt (by decide) h
    ·cases hps
   rw [if_neg d3] at hps hv0 ⊢
   by_cases d4 : op = 38
   ·rw [if_pos d4] at hps hv0 ⊢
    split at hps
    ·rename_i h
     cases hps
     by_cases c5 : n < 0 ∨ 65536 ≤ n
     ·rw [if_pos c5] at hv0; exact absurd rfl hv0.ne
     ·rw [if_neg c5]
      have hpos := dot_pos h.1
      obtain ⟨w, ws, hw⟩ : ∃ w ws, prtW v = w :: ws := by
       cases hp : prtW v with
       | nil => rw [hp] at hpos; simp at hpos
       | cons w ws => exact ⟨w, ws, rfl⟩
      have hfm := ((prtW_spec v).2.2.2.2 (by omega) (by omega)).1
      have h0 : gi v 0 = 7 := kind_gi (by rw [h.1]; rfl) (by decide)
      rw [h0, hw] at hfm
      simp [formedB] at hfm
      have hwv : Vd w := (prtW_spec v).1 w (by rw [hw]; simp)
      have hwk : kindW w = 10 := by
       have hne0 : kindW w = ((gi w 0).toNat : Int) := by unfold kindW; rw [if_pos (vldB_iff.2 hwv)]
       rw [hne0]
       have : gi w 0 = 10 := by simpa [gi] using hfm.2
       rw [this]; rfl
      have hnum : numW w = n := by have := h.2; rw [hw] at this; exact this
      rw [hw, List.drop_succ_cons, List.drop_zero, name_num hwk hnum, ← hw]
      exact cmpd_prt (by decide) h.1
    ·cases hps
   rw [if_neg d4] at hps hv0 ⊢
   obtain ⟨d5, n0, n1⟩ : op = 36 ∧ 0 ≤ n ∧ n < kids.length := by omega
   rw [if_pos d5] at hps
   split at hps
   ·rename_i h
    have h4 := hv4 d5
    rw [if_pos h4]
    obtain ⟨L, hL⟩ : ∃ L, L = prtW v := ⟨_, rfl⟩
    obtain ⟨j, hj⟩ : ∃ j : Nat, n = j := ⟨n.toNat, by omega⟩
    subst hj
    rw [← hL, Int.toNat_natCast] at hps
    rw [← hL] at h
    rw [Int.toNat_natCast]
    cases hps
    have z0 : (L.take j).length = j := by simp; omega
    have hg : gi (L.take j ++ cmpd 4 ((L.drop j).take (L.length - (kids.length - 1))) :: L.drop (L.length - (kids.length - 1 - j))) (j : Int) = cmpd 4 ((L.drop j).take (L.length - (kids.length - 1))) := by
     rw [gi_nat (by simp; omega), List.getElem_append_right (by omega)]
     simp [z0]
    rw [hg] at h4 ⊢
    have hne : cmpd 4 ((L.drop j).take (L.length - (kids.length - 1))) ≠ [] := (kind_vd (by omega)).ne
    rw [(cmpd_facts (by decide) hne).2.1]
    have z1 : (L.take j ++ cmpd 4 ((L.drop j).take (L.length - (kids.length - 1))) :: L.drop (L.length - (kids.length - 1 - j))).take j = L.take j := by
     rw [List.take_append_of_le_length (by omega), List.take_of_length_le (by omega)]
    have z2 : (L.take j ++ cmpd 4 ((L.drop j).take (L.length - (kids.length - 1))) :: L.drop (L.length - (kids.length - 1 - j))).drop (j + 1) = L.drop (L.length - (kids.length - 1 - j)) := by
     rw [List.drop_append, z0, List.drop_eq_nil_of_le (by omega), show j + 1 - j = 1 by omega]; rfl
    rw [z1, z2]
    have z3 : L.take j ++ (L.drop j).take (L.length - (kids.length - 1)) ++ L.drop (L.length - (kids.length - 1 - j)) = L := by
     rw [← List.take_add, show j + (L.length - (kids.length - 1)) = L.length - (kids.length - 1 - j) by omega, List.take_append_drop]
    rw [z3, hL]
    exact cmpd_prt (by decide) h.1
   ·cases hps
theorem mts_mem {f : Nd → Vl → Option (List Vl)} {Q : Vl → Prop} : ∀ {kids : List Nd} {ps l : List Vl}, (∀ x ∈ kids, ∀ y ∈ ps, ∀ l, f x y = some l → ∀ z ∈ l, Q z) → mts f kids ps = some l → ∀ z ∈ l, Q z
 | [], [], l, _, h => by simp only [mts] at h; cases h; intro z hz; cases hz
 | [], _ :: _, l, _, h => by simp only [mts] at h; cases h
 | _ :: _, [], l, _, h => by simp only [mts] at h; cases h
 | x :: xs, y :: ys, l, hf, h => by
  simp only [mts] at h
  split at h
  ·cases h
  ·rename_i a ha
   split at h
   ·cases h
   ·rename_i b hb
    cases h
    intro z hz
    rcases List.mem_append.1 hz with hz | hz
    ·exact hf x (by simp) y (by simp) a ha z hz
    ·exact mts_mem (kids := xs) (ps := ys) (fun u hu w hw => hf u (by simp [hu]) w (by simp [hw])) hb z hz
theorem mt_mem' : ∀ {k : Nat} {t : Nd} {v : Vl} {l : List Vl}, mt k t v = some l → v.length ≤ 1048576 → ∀ y ∈ l, y.length ≤ 1048576
 | 0, _, _, _, h, _ => by simp only [mt] at h; cases h
 | k + 1, .nil, _, _, h, _ => by simp only [mt] at h; cases h
 | k + 1, .mk op n kids, v, l, h, hv => by
  rw [mt] at h
  split at h
  ·cases h; intro y hy; rw [List.mem_singleton.1 hy]; exact hv
  split at h
  ·cases h; intro y hy; cases hy
  split at h
  ·split at h <;> cases h; intro y hy; cases hy
  split at h
  ·split at h <;> cases h; intro y hy; cases hy
  split at h
  ·cases h
  ·rename_i ps hps
   have hq : ∀ y ∈ prtW v, y.length ≤ 1048576 := fun y hy => by have := ((prtW_spec v).1 y hy).2; omega
   refine mts_mem (fun x _ y hy l h => mt_mem' h ?_) h
   unfold subP at hps
   split at hps
   ·split at hps <;> cases hps; exact hq y hy
   split at hps
   ·split at hps <;> cases hps; exact hq y hy
   split at hps
   ·split at hps <;> cases hps; exact hq y hy
   split at hps
   ·split at hps <;> cases hps; exact hq y (List.mem_of_mem_drop hy)
   split at hps
   ·split at hps <;> cases hps
    rcases List.mem_append.1 hy with hy | hy
    ·exact hq y (List.mem_of_mem_take hy)
    ·rcases List.mem_cons.1 hy with rfl | hy
     ·exact Nat.le_trans (cmpd_len _ _) (by omega)
     ·exact hq y (List.mem_of_mem_drop hy)
   split at hps
   ·cases hps
    simp at hy
    rw [hy]; exact hv
   ·cases hps
theorem mt_mem {k : Nat} {t : Nd} {v : Vl} {l : List Vl} (h : mt k t v = some l) (hv : True → Vd v) : ∀ y ∈ l, y.length ≤ 1048576 := mt_mem' h (by have := (hv trivial).2; omega)
end Go.Proofs.YtpfdeahcjlfijaaGreat
/- Generated patterns. -/
namespace Go.Proofs.YtpfdeahcjlfijaaGreat
attribute [local irreducible] FU

theorem i64_rng (x : Int) : -9223372036854775808 ≤ i64 x ∧ i64 x ≤ 9223372036854775807 := by
 unfold i64 IntKind.wrap IntKind.bits IntKind.signed
 simp; omega
theorem gNumberR {l : List Int} {i : Int} (h : GS l i) : ∃ v i', m_gen_Choices_Number (l, i) = some (v, (l, i')) ∧ GS l i' ∧ -9223372036854775808 ≤ v ∧ v ≤ 9223372036854775807 := by
 unfold m_gen_Choices_Number
 obtain ⟨y, i1, e1, g1, y0, y1⟩ := gNext h (n := 9) (by omega) (by omega)
 obtain ⟨a, ia, ea, ga, _⟩ := gNext g1 (n := 2) (by omega) (by omega)
 obtain ⟨b, ib, eb, gb, _⟩ := gNext g1 (n := 7) (by omega) (by omega)
 simp only [e1, bnd1_mk, ea, eb]
 split
 ·exact ⟨_, _, rfl, g1, by omega, by omega⟩
 ·split
  ·exact ⟨_, _, rfl, ga, i64_rng _⟩
  ·split
   ·exact ⟨_, _, rfl, ga, i64_rng _⟩
   ·exact ⟨_, _, rfl, gb, i64_rng _⟩
def GT (b : Nat) (t : Nd) : Prop := Pr t ∧ (ser t).length ≤ b ∧ (ser t).all rngC = true
def GP (b : Nat) (l : List Int) (r : Option (List Cd × (List Int × Int))) : Prop := ∃ t i', r = some (ser t, (l, i')) ∧ GS l i' ∧ GT b t
theorem gt_sers {b : Nat} : ∀ {ts : List Nd}, (∀ x ∈ ts, GT b x) → (sers ts).length ≤ ts.length * b ∧ (sers ts).all rngC = true
 | [], _ => by simp [sers_nil]
 | x :: ts, h => by
  obtain ⟨_, h1, h2⟩ := h x (by simp)
  obtain ⟨h3, h4⟩ := gt_sers (ts := ts) (fun y hy => h y (by simp [hy]))
  rw [sers_cons, List.length_append, List.all_append, h2, h4, List.length_cons, Nat.add_mul, Nat.one_mul]
  exact ⟨by omega, rfl⟩
theorem GT.node {b B : Nat} {op n : Int} {ts : List Nd} (hts : ∀ x ∈ ts, GT b x) (hr : op = 32 → -9223372036854775808 ≤ n ∧ n ≤ 9223372036854775807) (hB : 1 + ts.length * b ≤ B) : GT B (.mk op n ts) := by
 obtain ⟨h1, h2⟩ := gt_sers hts
 refine ⟨.mk fun x hx => (hts x hx).1, ?_, ?_⟩
 ·rw [ser_mk, List.length_cons]; omega
 ·rw [ser_mk, List.all_cons, h2, Bool.and_true]
  simp only [rngC, decide_eq_true_eq]; exact hr
theorem gNode {b : Nat} {op n : Int} {ts : List Nd} (hts : ∀ x ∈ ts, GT b x) (hl : ts.length ≤ 100) (hb : b ≤ 10000) : m_law12_node op n (ts.map ser) = some (ser (.mk op n ts)) := by
 obtain ⟨h1, h2⟩ := gt_sers hts
 have : ts.length * b ≤ 100 * 10000 := Nat.mul_le_mul hl hb
 rw [ser_node]
 exact lNode op n _ (by simp; omega) (by rw [← sers_flat]; omega)
theorem GP.node {b B : Nat} {l : List Int} {i' op n : Int} {ts : List Nd} (hts : ∀ x ∈ ts, GT b x) (hl : ts.length ≤ 100) (hb : b ≤ 10000) (hr : op = 32 → -9223372036854775808 ≤ n ∧ n ≤ 9223372036854775807) (hB : 1 + ts.length * b ≤ B) (hg : GS l i') :
  GP B l (bnd1 (m_law12_node op n (ts.map ser)) (fun y => some (y, (l, i')))) := by
 rw [gNode hts hl hb, bnd1_mk]
 exact ⟨_, _, rfl, hg, GT.node hts hr hB⟩
theorem gPat_loop (self : List Int × Int → Int → Option (List Cd × (List Int × Int))) (a1 : Int) (b : Nat) (l : List Int) (hs : ∀ i, GS l i → GP b l (self (l, i) (i64 (a1 - 1)))) (K : List Int → Int → List (List Cd) → Option (List Cd × (List Int × Int))) :
  ∀ (m n : Nat) (i : Int) (ts : List Nd), m < n → GS l i → ts.length + m ≤ 50 → (∀ x ∈ ts, GT b x) → ∃ (i' : Int) (ts' : List Nd), m_law12_pat_L2 self a1 K n l i (ts.map ser) (m : Int) = K l i' (ts'.map ser) ∧ GS l i' ∧ ts'.length = ts.length + m ∧ ∀ x ∈ ts', GT b x := by
 intro m
 induction m with
 | zero =>
  intro n i ts hn hg _ ht
  obtain ⟨n, rfl⟩ : ∃ q, n = q + 1 := ⟨n - 1, by omega⟩
  exact ⟨i, ts, by rw [m_law12_pat_L2, m_law12_pat_B2, if_neg (by omega)], hg, rfl, ht⟩
 | succ m ih =>
  intro n i ts hn hg hl ht
  obtain ⟨n, rfl⟩ : ∃ q, n = q + 1 := ⟨n - 1, by omega⟩
  obtain ⟨t, i1, e1, g1, h1⟩ := hs i hg
  obtain ⟨i', ts', q1, q2, q3, q4⟩ := ih n i1 (ts ++ [t]) (by omega) g1 (by simp; omega) (fun x hx => by
   rcases List.mem_append.1 hx with hx | hx
   ·exact ht x hx
   ·rw [List.mem_singleton.1 hx]; exact h1)
  refine ⟨i', ts', ?_, q2, by rw [q3]; simp; omega, q4⟩
  rw [m_law12_pat_L2, m_law12_pat_B2, if_pos (by omega), e1, bnd1_mk]
  simp only []
  rw [need_pos (by simp; omega), show i64 (((m + 1 : Nat) : Int) - 1) = (m : Int) from by rw [i64_id (by omega)]; omega]
  rw [List.map_append] at q1
  exact q1
theorem take_map_ser (ts : List Nd) (j : Nat) : (ts.map ser).take j = (ts.take j).map ser := by rw [List.map_take]
set_option maxRecDepth 10000 in
theorem gPat_F (self : List Int × Int → Int → Option (List Cd × (List Int × Int))) (a1 : Int) (b : Nat) (hb : 1 ≤ b ∧ b ≤ 1000) (l : List Int) (hs : a1 ≤ 1 ∨ ∀ i, GS l i → GP b l (self (l, i) (i64 (a1 - 1)))) (i : Int) (hg : GS l i) : GP (4 * b + 2) l (m_law12_pat_F self (l, i) a1) := by
 have hFU := FU_ge
 unfold m_law12_pat_F
 simp only []
 obtain ⟨y, i1, e1, g1, y0, y1⟩ := gNext hg (n := 13) (by omega) (by omega)
 rw [e1, bnd1_mk]
 refine jn_absP (P := GP _ l) fun K2 hK2 => ?_
 have leaf : ∀ (op n : Int) (i' : Int), (op = 32 → -9223372036854775808 ≤ n ∧ n ≤ 9223372036854775807) → GS l i' → GP (4 * b + 2) l (bnd1 (m_law12_node op n ([] : List (List Cd))) (fun y => some (y, (l, i')))) := fun op n i' hr hg' =>
  GP.node (ts := []) (b := b) (fun x hx => by cases hx) (by simp) (by omega) hr (by simp) hg'
 have h2 : ∀ x : Int, 0 ≤ x → x < 13 → (4 < x → ∀ i, GS l i → GP b l (self (l, i) (i64 (a1 - 1)))) → GP (4 * b + 2) l (K2 x) := by
  intro x x0 x1 hsx
  rw [hK2]
  refine jn_absP (P := GP _ l) fun K3 hK3 => ?_
  have h3 : ∀ (i' : Int) (ts : List Nd), GS l i' → (∀ x ∈ ts, GT b x) → ts.length ≤ 3 → GP (4 * b + 2) l (K3 l i' (ts.map ser)) := by
   intro i' ts g ht hl
   have hmul : ts.length * b ≤ 3 * b := Nat.mul_le_mul_right _ hl
   have two : ∀ (op : Int), 4 < x → (op ≠ 32) → GP (4 * b + 2) l (bnd1 (self (l, i') (i64 (a1 - 1))) (fun y64 => bnd1 (self (y64.2.1, y64.2.2) (i64 (a1 - 1))) (fun y65 => bnd1 (m_law12_node op 0 [y64.1, y65.1]) (fun y66 => some (y66, (y65.2.1, y65.2.2)))))) := by
    intro op h4 hop
    obtain ⟨t1, i2, e2, g2, k2⟩ := hsx h4 i' g
    obtain ⟨t2, i3, e3, g3, k3⟩ := hsx h4 i2 g2
    simp only [e2, bnd1_mk, e3]
    refine GP.node (ts := [t1, t2]) (b := b) (fun z hz => ?_) (by simp) (by omega) (fun h => absurd h hop) (by simp; omega) g3
    simp at hz
    rcases hz with rfl | rfl
    ·exact k2
    ·exact k3
   rw [hK3]
   simp only [jn_eq]
   by_cases c2 : x = 2
   ·rw [if_pos c2]; exact leaf 31 0 i' (by omega) g
   rw [if_neg c2]
   by_cases c3 : x = 3
   ·rw [if_pos c3]
    obtain ⟨v, i2, e2, g2, v0, v1⟩ := gNumberR g
    simp only [e2, bnd1_mk]
    exact leaf 32 v i2 (fun _ => ⟨v0, v1⟩) g2
   rw [if_neg c3]
   by_cases c4 : x = 4
   ·rw [if_pos c4]
    obtain ⟨v, i2, e2, g2, v0, v1⟩ := gNext g (n := 2) (by omega) (by omega)
    simp only [e2, bnd1_mk]
    exact leaf 33 v i2 (by omega) g2
   rw [if_neg c4]
   by_cases c5 : x = 5
   ·rw [if_pos c5, decide_eq_true c5, if_pos rfl]; exact two 34 (by omega) (by omega)
   rw [if_neg c5]
   by_cases c6 : x = 6
   ·rw [decide_eq_true c6, if_pos rfl]; exact two 34 (by omega) (by omega)
   rw [decide_eq_false c6]
   simp only [Bool.false_eq_true, if_false]
   by_cases c7 : x = 7
   ·rw [if_pos c7]; exact GP.node ht (by omega) (by omega) (by omega) (by omega) g
   rw [if_neg c7]
   have cat : GP (4 * b + 2) l (bnd1 (m_gen_Choices_Next (l, i') (i64 ((List.length (ts.map ser) : Int) + 1))) (fun y69 => need (0 ≤ y69.1 ∧ y69.1 ≤ (List.length (ts.map ser) : Int)) (need ((0 : Int) ≤ y69.1 ∧ y69.1 ≤ (List.length (ts.map ser) : Int)) (need (List.length (List.take (Int.toNat y69.1) (ts.map ser)) ≤ 137438953472) (bnd1 (m_gen_Choices_Next (y69.2.1, y69.2.2) 2) (fun y74 => bnd1 (m_law12_node (i64 (30 + y74.1)) 0 ([] : List (List Cd))) (fun y75 => need (List.length (List.take (Int.toNat y69.1) (ts.map ser)) + List.length [y75] ≤ 137438953472) (need (List.length (List.take (Int.toNat y69.1) (ts.map ser) ++ [y75]) + List.length (List.drop (Int.toNat y69.1) (ts.map ser)) ≤ 137438953472) (bnd1 (m_law12_node 36 y69.1 ((List.take (Int.toNat y69.1) (ts.map ser) ++ [y75]) ++ (List.drop (Int.toNat y69.1) (ts.map ser)))) (fun y80 => some (y80, (y74.2.1, y74.2.2))))))))))))  := by
    rw [List.length_map, i64_id (by omega)]
    obtain ⟨j, i2, e2, g2, j0, j1⟩ := gNext g (n := (ts.length : Int) + 1) (by omega) (by omega)
    obtain ⟨z, i3, e3, g3, z0, z1⟩ := gNext g2 (n := 2) (by omega) (by omega)
    simp only [e2, bnd1_mk, e3]
    rw [need_pos (by omega), need_pos (by omega), need_pos (by simp; omega), i64_id (by omega)]
    have hleaf : m_law12_node (30 + z) 0 ([] : List (List Cd)) = some (ser (.mk (30 + z) 0 [])) := by
     have := gNode (op := 30 + z) (n := 0) (ts := []) (b := b) (fun x hx => by cases hx) (by simp) (by omega)
     exact this
    rw [hleaf, bnd1_mk, need_pos (by simp; omega), need_pos (by simp; omega)]
    have hL : (List.take j.toNat (ts.map ser) ++ [ser (.mk (30 + z) 0 [])]) ++ List.drop j.toNat (ts.map ser) = (ts.take j.toNat ++ [Nd.mk (30 + z) 0 []] ++ ts.drop j.toNat).map ser := by simp
    rw [hL]
    have hlen : (ts.take j.toNat ++ [Nd.mk (30 + z) 0 []] ++ ts.drop j.toNat).length = ts.length + 1 := by simp; omega
    refine GP.node (b := b) (fun q hq => ?_) (by omega) (by omega) (by omega) (by rw [hlen, Nat.add_mul]; omega) g3
    simp only [List.mem_append, List.mem_singleton] at hq
    rcases hq with (hq | rfl) | hq
    ·exact ht q (List.mem_of_mem_take hq)
    ·exact GT.node (b := b) (fun x hx => by cases hx) (by omega) (by simp; omega)
    ·exact ht q (List.mem_of_mem_drop hq)
   by_cases c8 : x = 8
   ·rw [if_pos c8, decide_eq_true c8, if_pos rfl]; exact cat
   rw [if_neg c8]
   by_cases c9 : x = 9
   ·rw [decide_eq_true c9, if_pos rfl]; exact cat
   rw [decide_eq_false c9]
   simp only [Bool.false_eq_true, if_false]
   by_cases c10 : x = 10
   ·rw [if_pos c10, need_pos (by simp; omega), take_map_ser]
    have hml : (ts.take (Int.toNat (min (List.length (ts.map ser) : Int) 1))).length ≤ ts.length := by simp; omega
    refine GP.node (b := b) (fun q hq => ht q (List.mem_of_mem_take hq)) (by omega) (by omega) (by omega) ?_ g
    have := Nat.mul_le_mul_right b hml
    omega
   rw [if_neg c10]
   by_cases c11 : x = 11
   ·rw [if_pos c11]
    obtain ⟨v, i2, e2, g2, v0, v1⟩ := gNext g (n := 3) (by omega) (by omega)
    simp only [e2, bnd1_mk]
    exact GP.node ht (by omega) (by omega) (by omega) (by omega) g2
   rw [if_neg c11]
   by_cases c12 : x = 12
   ·rw [if_pos c12]
    obtain ⟨v, i2, e2, g2, v0, v1⟩ := gNext g (n := 3) (by omega) (by omega)
    obtain ⟨t1, i3, e3, g3, k3⟩ := hsx (by omega) i2 g2
    obtain ⟨t2, i4, e4, g4, k4⟩ := hsx (by omega) i3 g3
    simp only [e2, bnd1_mk, e3, e4]
    rw [need_pos (by simp; omega)]
    refine GP.node (ts := [t1, t2]) (b := b) (fun z hz => ?_) (by simp) (by omega) (fun h => ?_) (by simp; omega) g4
    ·simp at hz
     rcases hz with rfl | rfl
     ·exact k3
     ·exact k4
    ·rcases (by omega : v = 0 ∨ v = 1 ∨ v = 2) with rfl | rfl | rfl <;> simp [gi] at h
   rw [if_neg c12]
   exact leaf 30 0 i' (by omega) g
  by_cases h4 : 4 < x
  ·rw [if_pos h4]
   obtain ⟨m, i2, e2, g2, m0, m1⟩ := gNext g1 (n := 4) (by omega) (by omega)
   simp only [e2, bnd1_mk]
   obtain ⟨i', ts', q1, q2, q3, q4⟩ := gPat_loop self a1 b l (hsx h4) K3 m.toNat FU i2 [] (by omega) g2 (by simp; omega) (fun x hx => by cases hx)
   rw [show ((m.toNat : Nat) : Int) = m by omega] at q1
   rw [List.map_nil] at q1
   rw [q1]
   exact h3 i' ts' q2 q4 (by rw [q3]; simp; omega)
  ·rw [if_neg h4]
   exact h3 i1 [] g1 (fun x hx => by cases hx) (by simp)
 by_cases ha : a1 ≤ 1
 ·rw [if_pos ha]
  have := Int.tmod_lt_of_pos y (show (0 : Int) < 5 by omega)
  have := Int.tmod_nonneg 5 y0
  exact h2 (Int.tmod y 5) (by omega) (by omega) (by omega)
 ·rw [if_neg ha]
  exact h2 _ (by omega) (by omega) (fun _ => hs.resolve_left ha)
theorem gPat3 {l : List Int} {i : Int} (h : GS l i) : GP 106 l (m_law12_pat (l, i) 3) := by
 have hFU := FU_ge
 unfold m_law12_pat
 have s1 : ∀ (n : Nat) (i : Int), 0 < n → GS l i → GP 6 l (m_law12_pat_S n (l, i) 1) := fun n i hn hg => by
  obtain ⟨n, rfl⟩ : ∃ q, n = q + 1 := ⟨n - 1, by omega⟩
  exact gPat_F (m_law12_pat_S n) 1 1 (by omega) l (.inl (by omega)) i hg
 have s2 : ∀ (n : Nat) (i : Int), 1 < n → GS l i → GP 26 l (m_law12_pat_S n (l, i) 2) := fun n i hn hg => by
  obtain ⟨n, rfl⟩ : ∃ q, n = q + 1 := ⟨n - 1, by omega⟩
  exact gPat_F (m_law12_pat_S n) 2 6 (by omega) l (.inr fun i hg => by rw [show i64 ((2 : Int) - 1) = 1 from by rw [i64_id (by omega)]; rfl]; exact s1 n i (by omega) hg) i hg
 obtain ⟨n, hn⟩ : ∃ n, FU = n + 1 := ⟨FU - 1, by omega⟩
 rw [hn]
 exact gPat_F (m_law12_pat_S n) 3 26 (by omega) l (.inr fun i hg => by rw [show i64 ((3 : Int) - 1) = 2 from by rw [i64_id (by omega)]; rfl]; exact s2 n i (by omega) hg) i h
end Go.Proofs.YtpfdeahcjlfijaaGreat
/- The laws of layer 12. -/
namespace Go.Proofs.YtpfdeahcjlfijaaGreat
attribute [local irreducible] FU

theorem buildW_cases (p : List Cd) (l : List Vl) : (∃ t, parse p = some t ∧ p.all nbC = true ∧ cntV p = l.length ∧ Vd (bd 64 t l).1 ∧ buildW p l = ((bd 64 t l).1, true)) ∨ buildW p l = ([], false) := by
 unfold buildW
 cases hp : parse p with
 | none => exact .inr rfl
 | some t =>
  by_cases h : p.all nbC = true ∧ cntV p = l.length ∧ vldB (bd 64 t l).1 = true
  ·exact .inl ⟨t, rfl, h.1, h.2.1, vldB_iff.1 h.2.2, by simp only []; rw [if_pos h]⟩
  ·right; simp only []; rw [if_neg h]
theorem match_of_build {p : List Cd} {l : List Vl} {t : Nd} (hp : parse p = some t) (hb : p.all nbC = true) (hr : p.all rngC = true) (hc : cntV p = l.length) (hv : Vd (bd 64 t l).1) : matchW p (bd 64 t l).1 = some l := by
 obtain ⟨rfl, hok, _⟩ := parse_some.1 hp
 unfold matchW
 rw [hp]
 simp only [vldB_iff.2 hv, if_true]
 rw [match_build 64 t l hok hb hr (by omega) hv, List.take_of_length_le (by omega)]
abbrev PV2 (v : Vl) : Prop := PV 2 48 v
theorem PV2.len {v : Vl} (h : PV2 v) : v.length ≤ 1048576 := by have := h.2; omega
theorem gVal2 {l : List Int} {i : Int} (h : GS l i) : ∃ v i', m_gen_Choices_Value (l, i) 2 = some (v, (l, i')) ∧ GS l i' ∧ PV2 v := gValueP 2 (by omega) l i h
theorem gVal3 {l : List Int} {i : Int} (h : GS l i) : ∃ v i', m_gen_Choices_Value (l, i) 3 = some (v, (l, i')) ∧ GS l i' := by
 obtain ⟨v, i', e, g, _⟩ := gValueP 3 (by omega) l i h
 exact ⟨v, i', e, g⟩
theorem gs_new {c : List Int} (hc : c.length ≤ maxLen ∧ ∀ x ∈ c, (Lit.int .i64 x).wf = true) : GS c 0 := ⟨by omega, by omega, by have := hc.1; unfold maxLen at this; omega⟩

theorem rVars_ser {t : Nd} (h : (ser t).length ≤ 106) : m_ref11_Vars (ser t) = some (cntV (ser t) : Int) := rVars _ (by omega)
theorem patternRebuilds_true (c : List Int) (hc : c.length ≤ maxLen ∧ ∀ x ∈ c, (Lit.int .i64 x).wf = true) : m_law12_PatternRebuilds c = some true := by
 have hFU := FU_ge
 unfold m_law12_PatternRebuilds m_gen_New
 simp only [bnd1_mk]
 obtain ⟨t, i1, e1, g1, k1, k2, k3⟩ := gPat3 (gs_new hc)
 rw [e1, bnd1_mk]
 have hcv := cntV_le (ser t)
 have loop : ∀ (K : List Int → Int → List Vl → Option Bool) (m q n : Nat) (i : Int) (out : List Vl), q + m = cntV (ser t) → m < n → GS c i → out.length = q → (∀ y ∈ out, PV2 y) →
   ∃ i' out', m_law12_PatternRebuilds_L2 (ser t, (c, i1)) K n c i out (q : Int) = K c i' out' ∧ GS c i' ∧ out'.length = cntV (ser t) ∧ ∀ y ∈ out', PV2 y := by
  intro K m
  induction m with
  | zero =>
   intro q n i out hq hn hg ho hy
   obtain ⟨n, rfl⟩ : ∃ j, n = j + 1 := ⟨n - 1, by omega⟩
   exact ⟨i, out, by rw [m_law12_PatternRebuilds_L2, m_law12_PatternRebuilds_B2]; simp only []; rw [rVars_ser k2, bnd1_mk, if_neg (by omega)], hg, by omega, hy⟩
  | succ m ih =>
   intro q n i out hq hn hg ho hy
   obtain ⟨n, rfl⟩ : ∃ j, n = j + 1 := ⟨n - 1, by omega⟩
   obtain ⟨v, i2, e2, g2, pv⟩ := gVal2 hg
   rw [m_law12_PatternRebuilds_L2, m_law12_PatternRebuilds_B2]
   simp only []
   rw [rVars_ser k2, bnd1_mk, if_pos (by omega), e2, bnd1_mk]
   simp only []
   rw [need_pos (by simp; omega), i64_succ (by omega)]
   exact ih (q + 1) n i2 (out ++ [v]) (by omega) (by omega) g2 (by simp; omega) (fun y h => by
    rcases List.mem_append.1 h with h | h
    ·exact hy y h
    ·rw [List.mem_singleton.1 h]; exact pv)
 simp only [jn_eq]
 obtain ⟨i2, l, hl, g2, hll, hy⟩ := loop _ (cntV (ser t)) 0 FU i1 [] (by omega) (by omega) g1 rfl (fun y h => by cases h)
 rw [Int.natCast_zero] at hl
 rw [hl]
 obtain ⟨w, i3, e3, _⟩ := gVal3 g2
 rw [rBuildW _ l (by omega) (by omega), bnd1_mk, e3, bnd1_mk]
 simp only []
 -- what is matched, whichever value it is
 have fin : ∀ (v : Vl) (ok : Bool), (ok = true → ∃ m, matchW (ser t) v = some m) →
   (bnd1 (m_pattern_Match (ser t) v) (fun y34 => if !y34.2 then (bnd1 (m_law12_awake) (fun y37 => if y37 then (if !ok then (some (decide ((List.length y34.1 : Int) = 0))) else (some false)) else (some false))) else (bnd1 (m_pattern_Build (ser t) y34.1) (fun y38 => bnd1 (m_law12_awake) (fun y42 => if y42 then (bnd1 (m_pattern_Vars (ser t)) (fun y43 => if (List.length y34.1 : Int) = y43 then (if !y38.2 then (some true) else (some (decide (y38.1 = v)))) else (some false))) else (some false)))))) = some true := by
  intro v ok hok
  have hM := pMatchW (ser t) v (by omega)
  cases hm : matchW (ser t) v with
  | none =>
   rw [hm] at hM
   cases ok with
   | true => obtain ⟨m, e⟩ := hok rfl; rw [hm] at e; cases e
   | false => rw [hM, bnd1_mk, awake12, bnd1_mk]; simp
  | some m =>
   rw [hm] at hM
   have hms := mt_small hm
   unfold matchW at hm
   split at hm
   ·cases hm
   ·rename_i t' ht'
    obtain ⟨et, hokT, h8⟩ := parse_some.1 ht'
    split at hm
    ·rename_i hvd
     rw [hM, bnd1_mk]
     have hcm : m.length = cntV (ser t) := by rw [et]; exact mt_cnt hokT hm
     have hmem : ∀ y ∈ m, y.length ≤ 1048576 := by
      intro y hy
      exact mt_mem hm (fun h => (vldB_iff.1 hvd)) y hy
     simp only [Bool.not_true, Bool.false_eq_true, if_false]
     rw [pBuildW _ m (by omega) hmem, bnd1_mk, awake12, bnd1_mk]
     simp only [if_true]
     rw [pVars _ (by omega), bnd1_mk, if_pos (by omega)]
     rcases buildW_cases (ser t) m with ⟨t2, h1, h2, h3, h4, h5⟩ | h5
     ·have e2 : t2 = t' := Option.some.inj (h1.symm.trans ht')
      subst e2
      rw [h5]
      simp only [Bool.not_true, Bool.false_eq_true, if_false]
      have := build_match 64 t2 v m [] hokT (by rw [← et]; exact h2) hm (by rw [List.append_nil]; exact h4)
      rw [List.append_nil] at this
      rw [decide_eq_true this]
     ·rw [h5]; rfl
    ·cases hm
 rcases buildW_cases (ser t) l with ⟨t', h1, h2, h3, h4, h5⟩ | h5
 ·rw [h5]
  simp only [Bool.not_true, Bool.false_eq_true, if_false]
  exact fin _ true (fun _ => ⟨l, match_of_build h1 h2 k3 h3 h4⟩)
 ·rw [h5]
  simp only [Bool.not_false, if_true]
  exact fin w false (fun h => by cases h)

theorem OkT.succ {k : Nat} {t : Nd} (h : OkT k t) : OkT (k + 1) t := by
 induction h with | mk hf hk ih => exact .mk hf ih
theorem OkT.le {k j : Nat} {t : Nd} (h : OkT k t) (hj : k ≤ j) : OkT j t := by
 obtain ⟨d, rfl⟩ : ∃ d, j = k + d := ⟨j - k, by omega⟩
 clear hj
 induction d with
 | zero => exact h
 | succ d ih => exact ih.succ
end Go.Proofs.YtpfdeahcjlfijaaGreat
