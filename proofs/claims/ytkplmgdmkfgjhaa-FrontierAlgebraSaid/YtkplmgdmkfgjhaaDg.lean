/- The two decodings answer alike, on every data and at every place. -/
import Derived.Test.YtkplmgdmkfgjhaaDf
namespace Go.Proofs.Ytkplmgdmkfgjhaa
attribute [local irreducible] FU

noncomputable def endF (a0 : List UInt8) (a1 : Int) : Int → Int → List (Int × Int) → Option (List (Int × Int) × Int × Int) := (fun (x8_j8 : Int) (x9_j8 : Int) (x10_j8 : List (Int × Int)) => if ¬ x9_j8 = 0 then (some ([], 0, x9_j8)) else (if (i64 ((List.length a0 : Int) - x8_j8)) < 4 then (some ([], 0, 23)) else (need ((0 : Int) ≤ a1 ∧ a1 ≤ i64 (x8_j8 + 4) ∧ (i64 (x8_j8 + 4)) ≤ (List.length a0 : Int)) (bnd1 (m_codec_Sealed (List.take (Int.toNat (i64 (x8_j8 + 4)) - Int.toNat a1) (List.drop (Int.toNat a1) a0))) (fun y632 => if !y632 then (some ([], 0, 24)) else (jn (fun (x114_j633 : Bool) => if x114_j633 then (some ([], 0, 22)) else (some (x10_j8, i64 (x8_j8 + 4), 0))) (fun k633 => bnd1 (m_frontier_isBlock x10_j8) (fun y637 => if !y637 then (k633 true) else (bnd1 (m_frontier_encode x10_j8) (fun y638 => bnd1 (m_bytes_Equal y638 (List.take (Int.toNat (i64 (x8_j8 + 4)) - Int.toNat a1) (List.drop (Int.toNat a1) a0))) (fun y639 => k633 (!y639))))))))))))
noncomputable def endR (a0 : List UInt8) (a1 : Int) : Int → Int → List (Int × Int) → Option (List (Int × Int) × Int × Int) := (fun (x8_j8 : Int) (x9_j8 : Int) (x10_j8 : List (Int × Int)) => if ¬ x9_j8 = 0 then (some ([], 0, x9_j8)) else (if (List.length a0 : Int) < (i64 (x8_j8 + 4)) then (some ([], 0, 23)) else (need ((0 : Int) ≤ a1 ∧ a1 ≤ x8_j8 ∧ x8_j8 ≤ (List.length a0 : Int)) (bnd1 (m_ref23_Sealed (List.take (Int.toNat x8_j8 - Int.toNat a1) (List.drop (Int.toNat a1) a0))) (fun y163 => need ((0 : Int) ≤ a1 ∧ a1 ≤ i64 (x8_j8 + 4) ∧ (i64 (x8_j8 + 4)) ≤ (List.length a0 : Int)) (if ¬ y163 = (List.take (Int.toNat (i64 (x8_j8 + 4)) - Int.toNat a1) (List.drop (Int.toNat a1) a0)) then (some ([], 0, 24)) else (bnd1 (m_ref35_EncodeBlock x10_j8) (fun y165 => jn (fun (x148_j170 : Bool) => if x148_j170 then (some ([], 0, 22)) else (some (x10_j8, i64 (x8_j8 + 4), 0))) (fun k170 => if ¬ y165.2 = 0 then (k170 true) else (need ((0 : Int) ≤ a1 ∧ a1 ≤ i64 (x8_j8 + 4) ∧ (i64 (x8_j8 + 4)) ≤ (List.length a0 : Int)) (k170 (decide (¬ y165.1 = (List.take (Int.toNat (i64 (x8_j8 + 4)) - Int.toNat a1) (List.drop (Int.toNat a1) a0)))))))))))))))

theorem end_agree (xs : List UInt8) (a1 : Int) (h0 : 0 ≤ a1) (hl : xs.length ≤ 10000000) (xa : Int) (h1 : a1 ≤ xa) (h2 : xa ≤ xs.length) (l : List (Int × Int)) (hll : l.length ≤ 1024) :
    ∃ r : List (Int × Int) × Int × Int, endF xs a1 xa 0 l = some r ∧ endR xs a1 xa 0 l = some r ∧ r.1.length ≤ 1024 := by
  unfold endF endR
  have e1 : i64 (xa + 4) = xa + 4 := i64_id (by omega)
  have e2 : i64 ((List.length xs : Int) - xa) = (List.length xs : Int) - xa := i64_id (by omega)
  simp only [jn_eq, e1, e2, ne_eq, not_true_eq_false, if_false]
  by_cases hs : (List.length xs : Int) < xa + 4
  · rw [if_pos hs, if_pos (by omega)]
    exact ⟨_, rfl, rfl, by simp⟩
  · have n1 : (0 : Int) ≤ a1 ∧ a1 ≤ xa + 4 ∧ xa + 4 ≤ (List.length xs : Int) := by omega
    have n2 : (0 : Int) ≤ a1 ∧ a1 ≤ xa ∧ xa ≤ (List.length xs : Int) := by omega
    rw [if_neg hs, if_neg (by omega)]
    simp only [need_pos n1, need_pos n2]
    obtain ⟨A, rfl⟩ : ∃ A : Nat, a1 = A := ⟨a1.toNat, by omega⟩
    obtain ⟨B, rfl⟩ : ∃ B : Nat, xa = B := ⟨xa.toNat, by omega⟩
    have hs1 : (List.take (Int.toNat ((B : Int) + 4) - Int.toNat (A : Int)) (List.drop (Int.toNat (A : Int)) xs)).length = (List.take (Int.toNat (B : Int) - Int.toNat (A : Int)) (List.drop (Int.toNat (A : Int)) xs)).length + 4 := by
      simp only [List.length_take, List.length_drop]; omega
    obtain ⟨b, q, b1, b2, b3⟩ := sealed_agree (List.take (Int.toNat (B : Int) - Int.toNat (A : Int)) (List.drop (Int.toNat (A : Int)) xs)) (List.take (Int.toNat ((B : Int) + 4) - Int.toNat (A : Int)) (List.drop (Int.toNat (A : Int)) xs)) hs1
      (by rw [List.take_take]; congr 1; simp only [List.length_take, List.length_drop]; omega) (by simp only [List.length_take, List.length_drop]; omega)
    generalize List.take (Int.toNat ((B : Int) + 4) - Int.toNat (A : Int)) (List.drop (Int.toNat (A : Int)) xs) = s at *
    rw [b1, b2, bnd1_mk, bnd1_mk]
    cases b
    · have hq : ¬ q = s := fun h => by simpa using b3.2 h
      simp only [hq, not_false_eq_true, if_true, Bool.not_false]
      exact ⟨_, rfl, rfl, by simp⟩
    · have hq : q = s := b3.1 rfl
      simp only [hq, not_true_eq_false, if_false, Bool.not_true, Bool.false_eq_true]
      obtain ⟨c, c1, c2, c3, c4⟩ := block_agree l (by omega)
      rw [c1, bnd1_mk]
      cases c
      · rw [c4 rfl, bnd1_mk]
        exact ⟨_, rfl, rfl, by simp⟩
      · obtain ⟨r, d1, d2, d2', d3⟩ := c3 rfl
        rw [d1, d3, bnd1_mk, bnd1_mk, m_bytes_Equal, bnd1_mk]
        by_cases hr : r = s
        · exact ⟨(l, (B : Int) + 4, 0), by simp [hr], by simp [hr], hll⟩
        · exact ⟨([], 0, 22), by simp [hr], by simp [hr], by simp⟩

theorem decodeBlock_agree (xs : List UInt8) (hl : xs.length ≤ 10000000) (i : Int) :
    ∃ r : List (Int × Int) × Int × Int, m_frontier_DecodeBlock xs i = some r ∧ m_ref35_DecodeBlock xs i = some r ∧ r.1.length ≤ 1024 := by
  obtain ⟨N, hN⟩ := FU_k 1 (by omega)
  have hFU := FU_ge
  by_cases h0 : i < 0
  · exact ⟨([], 0, 1), by simp [m_frontier_DecodeBlock, jn_eq, h0], by simp [m_ref35_DecodeBlock, jn_eq, h0], by simp⟩
  by_cases h1 : (xs.length : Int) < i
  · exact ⟨([], 0, 1), by simp [m_frontier_DecodeBlock, jn_eq, h0, h1], by simp [m_ref35_DecodeBlock, jn_eq, h0, h1], by simp⟩
  obtain ⟨v, j, j', e, f1, r1, a1, a2⟩ := num_agree xs i (by omega) (by omega) (by omega)
  have bad : ∀ x : Int, x ≠ 0 → ∃ r : List (Int × Int) × Int × Int, m_frontier_DecodeBlock_L14 xs (v, j, e) (endF xs i) FU j x [] 0 = some r ∧ m_ref35_DecodeBlock_L2 xs (v, j', e) (endR xs i) FU j' x [] 0 = some r ∧ r.1.length ≤ 1024 := by
    intro x hx
    rw [hN, dec_exit_f _ _ _ _ _ _ _ _ (Or.inl hx), dec_exit_r _ _ _ _ _ _ _ _ (Or.inl hx)]
    exact ⟨([], 0, x), by simp [endF, hx], by simp [endR, hx], by simp⟩
  have main : ∀ z : Bool, z = (if e = 0 then (if v < 1 then true else decide (1024 < v)) else false) →
      ∃ r : List (Int × Int) × Int × Int, m_frontier_DecodeBlock_L14 xs (v, j, e) (endF xs i) FU j (if z = true then 22 else e) [] 0 = some r ∧ m_ref35_DecodeBlock_L2 xs (v, j', e) (endR xs i) FU j' (if z = true then 22 else e) [] 0 = some r ∧ r.1.length ≤ 1024 := by
    intro z hz
    by_cases hz1 : z = true
    · simp only [if_pos hz1]; exact bad 22 (by omega)
    · simp only [if_neg hz1]
      by_cases he : e = 0
      · subst he
        obtain ⟨rfl, b1, b2, b3, b4⟩ := a1 rfl
        rw [if_pos rfl] at hz
        have hv : 1 ≤ v ∧ v ≤ 1024 := by
          by_cases hv1 : v < 1
          · rw [if_pos hv1] at hz; exact absurd hz hz1
          · rw [if_neg hv1] at hz
            have : ¬ (1024 < v) := fun h => hz1 (by rw [hz]; simp [h])
            omega
        obtain ⟨xa, xb, e, la, lb, q1, q2, q3⟩ := dec_loop xs (by omega) (v, j, 0) (v, j, 0) v.toNat (by omega) (by simp only []; omega) (by simp only []; omega) (endF xs i) (endR xs i) v.toNat 0 FU FU j [] (by omega) (by omega) (by omega) (by omega) b2 rfl (fun p hp => by cases hp)
        rw [Int.natCast_zero] at q1 q2
        rw [q1, q2]
        by_cases he : e = 0
        · subst he
          obtain ⟨rfl, rfl, z1, z2, z3⟩ := q3 rfl
          exact end_agree xs i (by omega) hl xa (by omega) z2 la (by omega)
        · exact ⟨([], 0, e), by simp [endF, he], by simp [endR, he], by simp⟩
      · exact bad e he
  obtain ⟨r, q1, q2, q3⟩ := main _ rfl
  refine ⟨r, ?_, ?_, q3⟩
  · rw [← q1]
    unfold m_frontier_DecodeBlock
    simp only [jn_eq, h0, h1, decide_false, Bool.false_eq_true, if_false, f1, bnd1_mk]
    by_cases he : e = 0
    · subst he
      by_cases hv1 : v < 1
      · simp only [hv1, if_true]; rfl
      · by_cases hv2 : 1024 < v
        · simp only [hv1, hv2, if_true, if_false, decide_true]; rfl
        · simp only [hv1, hv2, if_true, if_false, decide_false, Bool.false_eq_true]; rfl
    · simp only [he, if_false, Bool.false_eq_true]; rfl
  · rw [← q2]
    unfold m_ref35_DecodeBlock
    simp only [jn_eq, h0, h1, decide_false, Bool.false_eq_true, if_false, r1, bnd1_mk]
    by_cases he : e = 0
    · subst he
      by_cases hv1 : v < 1
      · simp only [hv1, if_true]; rfl
      · by_cases hv2 : 1024 < v
        · simp only [hv1, hv2, if_true, if_false, decide_true]; rfl
        · simp only [hv1, hv2, if_true, if_false, decide_false, Bool.false_eq_true]; rfl
    · simp only [he, if_false, Bool.false_eq_true]; rfl

theorem same_loop (l : List (Int × Int)) (hl : l.length ≤ 1099511627776) : ∀ (m i n : Nat), i + m = l.length → m < n → m_law36_same_L2 l l (fun _ => some true) n i = some true := by
  intro m
  induction m with
  | zero =>
    intro i n hi h
    obtain ⟨n, rfl⟩ : ∃ k, n = k + 1 := ⟨n - 1, by omega⟩
    obtain rfl : i = l.length := by omega
    simp [m_law36_same_L2, m_law36_same_B2]
  | succ m ih =>
    intro i n hi h
    obtain ⟨n, rfl⟩ : ∃ k, n = k + 1 := ⟨n - 1, by omega⟩
    have hin : (0 : Int) ≤ (i : Int) ∧ (i : Int) < (l.length : Int) := by omega
    have e5 : i64 ((i : Int) + 1) = ((i + 1 : Nat) : Int) := by rw [i64_id (by omega)]; omega
    rw [m_law36_same_L2, m_law36_same_B2, if_pos hin.2, need_pos hin, need_pos hin, if_neg (by simp), e5]
    exact ih (i + 1) n (by omega) (by omega)
theorem same_refl (l : List (Int × Int)) (hl : l.length ≤ 1099511627776) : m_law36_same l l = some true := by
  have := FU_ge
  unfold m_law36_same
  rw [if_neg (by simp), jn_eq]
  exact same_loop l hl l.length 0 FU (by omega) (by omega)

theorem decodes_true (xs : List UInt8) (hl : xs.length ≤ 10000000) (i : Int) : m_law36_decodes xs i = some true := by
  obtain ⟨r, r1, r2, r3⟩ := decodeBlock_agree xs hl i
  unfold m_law36_decodes
  simp only [jn_eq, r1, r2, bnd1_mk, if_true, same_refl r.1 (by omega)]
end Go.Proofs.Ytkplmgdmkfgjhaa
