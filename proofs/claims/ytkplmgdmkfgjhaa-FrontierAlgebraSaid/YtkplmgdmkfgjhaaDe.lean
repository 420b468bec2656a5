/- The encodings of a block agree. -/
import Derived.Test.YtkplmgdmkfgjhaaDc
import Derived.Test.YtkplmgdmkfgjhaaDd
namespace Go.Proofs.Ytkplmgdmkfgjhaa
attribute [local irreducible] FU

theorem enc_loop (l : List (Int × Int)) (hr : Run l) (hl : l.length ≤ 1024) (K : List UInt8 → Option (List UInt8)) (K' : List UInt8 → Option (List UInt8 × Int)) :
    ∀ (m i n1 n2 : Nat) (ys : List UInt8), i + m = l.length → m < n1 → m < n2 → ys.length + 22 * m ≤ 100000000 →
    ∃ r : List UInt8, r.length ≤ ys.length + 22 * m ∧ m_frontier_encode_L2 l K n1 ys i = K r ∧ m_ref35_EncodeBlock_L2 l K' n2 ys i = K' r := by
  intro m
  induction m with
  | zero =>
    intro i n1 n2 ys hi h1 h2 h3
    obtain ⟨n1, rfl⟩ : ∃ n, n1 = n + 1 := ⟨n1 - 1, by omega⟩
    obtain ⟨n2, rfl⟩ : ∃ n, n2 = n + 1 := ⟨n2 - 1, by omega⟩
    obtain rfl : i = l.length := by omega
    exact ⟨ys, by omega, by simp [m_frontier_encode_L2, m_frontier_encode_B2], by simp [m_ref35_EncodeBlock_L2, m_ref35_EncodeBlock_B2]⟩
  | succ m ih =>
    intro i n1 n2 ys hi h1 h2 h3
    obtain ⟨n1, rfl⟩ : ∃ n, n1 = n + 1 := ⟨n1 - 1, by omega⟩
    obtain ⟨n2, rfl⟩ : ∃ n, n2 = n + 1 := ⟨n2 - 1, by omega⟩
    have hi8 : (i : Int) < (l.length : Int) := by omega
    have e5 : i64 ((i : Int) + 1) = ((i + 1 : Nat) : Int) := by rw [i64_id (by omega)]; omega
    have e6 : i64 ((i : Int) - 1) = (i : Int) - 1 := i64_id (by omega)
    have hin : (0 : Int) ≤ (i : Int) ∧ (i : Int) < (l.length : Int) := by omega
    have hok := hr i (Nat.zero_le _) (by omega)
    rw [m_frontier_encode_L2, m_ref35_EncodeBlock_L2, m_frontier_encode_B2, m_ref35_EncodeBlock_B2, if_pos hi8, if_pos hi8]
    simp only [jn_eq, e5, e6, need_pos hin]
    have fin : ∀ r : List UInt8, r.length ≤ ys.length + 22 → ∃ s : List UInt8, s.length ≤ ys.length + 22 * (m + 1) ∧ m_frontier_encode_L2 l K n1 r ((i + 1 : Nat) : Int) = K s ∧ m_ref35_EncodeBlock_L2 l K' n2 r ((i + 1 : Nat) : Int) = K' s := by
      intro r hrl
      obtain ⟨s, s1, s2, s3⟩ := ih (i + 1) n1 n2 r (by omega) (by omega) (by omega) (by omega)
      exact ⟨s, by omega, s2, s3⟩
    obtain ⟨⟨o1, o2, o3, o4⟩, hlt⟩ := hok
    by_cases h0 : i = 0
    · subst h0
      have hin0 : (0 : Int) ≤ 0 ∧ (0 : Int) < (l.length : Int) := by omega
      simp only [Int.natCast_zero, Int.lt_irrefl, if_false, if_true, need_pos hin0, Bool.false_eq_true, Int.sub_zero] at *
      rw [i64_id (by omega)]
      obtain ⟨u, u1, u2, u3⟩ := uv_agree ys (gi l 0).1 (by omega) (by omega) (by omega)
      obtain ⟨v, v1, v2, v3⟩ := uv_agree u (gi l 0).2 (by omega) (by omega) (by omega)
      simp only [u1, u2, v1, v2, bnd1_mk]
      exact fin v (by omega)
    · have h0' : (0 : Int) < (i : Int) := by omega
      have h0'' : ¬ (i : Int) = 0 := by omega
      have hpr : (0 : Int) ≤ (i : Int) - 1 ∧ (i : Int) - 1 < (l.length : Int) := by omega
      have hlt := hlt (by omega)
      have hokp := (hr (i - 1) (Nat.zero_le _) (by omega)).1
      rw [show ((i - 1 : Nat) : Int) = (i : Int) - 1 by omega] at hokp
      obtain ⟨p1, p2, p3, p4⟩ := hokp
      simp only [if_pos h0', if_neg h0'', need_pos hpr]
      generalize gi l (i : Int) = c at *
      generalize gi l ((i : Int) - 1) = p at *
      obtain ⟨c1, c2⟩ := c
      obtain ⟨q1, q2⟩ := p
      simp only [LtP] at *
      have a1 : i64 (c1 - q1) = c1 - q1 := i64_id (by omega)
      have a2 : i64 (c2 - q2) = c2 - q2 := i64_id (by omega)
      have a3 : i64 (c2 - q2 - 1) = c2 - q2 - 1 := i64_id (by omega)
      simp only [a1, a2, a3]
      obtain ⟨u, u1, u2, u3⟩ := uv_agree ys (c1 - q1) (by omega) (by omega) (by omega)
      by_cases he : c1 = q1
      · subst he
        rw [Int.sub_self] at u1 u2
        obtain ⟨v, v1, v2, v3⟩ := uv_agree u (c2 - q2 - 1) (by omega) (by omega) (by omega)
        simp only [Int.sub_self, u1, u2, v1, v2, bnd1_mk, decide_true, if_true]
        exact fin v (by omega)
      · obtain ⟨v, v1, v2, v3⟩ := uv_agree u c2 (by omega) (by omega) (by omega)
        simp only [u1, u2, v1, v2, bnd1_mk, he, decide_false, Bool.false_eq_true, if_false]
        exact fin v (by omega)

theorem encode_agree (l : List (Int × Int)) (hr : Run l) (hl : l.length ≤ 1024) :
    ∃ r, m_frontier_encode l = some r ∧ r.length ≤ 30000 ∧ 4 ≤ r.length ∧
      bnd1 (m_ref23_Uvarint [] (List.length l : Int)) (fun y9 => jn (fun (x4_j11 : List UInt8) => bnd1 (m_ref23_Sealed x4_j11) (fun y271 => some (y271, 0))) (fun k11 => m_ref35_EncodeBlock_L2 l k11 FU y9 0)) = some (r, 0) := by
  have := FU_ge
  obtain ⟨u, u1, u2, u3⟩ := uv_agree [] (List.length l : Int) (by omega) (by omega) (by simp)
  simp only [List.length_nil] at u3
  obtain ⟨s, s1, s2, s3⟩ := enc_loop l hr hl (fun x3 => bnd1 (m_codec_AppendSum x3 0) (fun y => some y)) (fun x4 => bnd1 (m_ref23_Sealed x4) (fun y271 => some (y271, 0))) l.length 0 FU FU u (by omega) (by omega) (by omega) (by omega)
  obtain ⟨c, c1, c2, c3⟩ := sum_agree s (by omega)
  refine ⟨s ++ sum4 c, ?_, ?_, ?_, ?_⟩
  · unfold m_frontier_encode
    rw [u1, bnd1_mk, jn_eq]
    refine s2.trans ?_
    rw [c2, bnd1_mk]
  · simp [sum4]; omega
  · simp [sum4]
  · rw [u2, bnd1_mk, jn_eq]
    refine s3.trans ?_
    rw [c3, bnd1_mk]

theorem block_agree (l : List (Int × Int)) (hl : l.length ≤ 1099511627776) :
    ∃ b : Bool, m_frontier_isBlock l = some b ∧ (b = true ↔ Run l ∧ 1 ≤ l.length ∧ l.length ≤ 1024) ∧
      (b = true → ∃ r, m_frontier_encode l = some r ∧ r.length ≤ 30000 ∧ 4 ≤ r.length ∧ m_ref35_EncodeBlock l = some (r, 0)) ∧ (b = false → m_ref35_EncodeBlock l = some ([], 1)) := by
  obtain ⟨b, r1, r2, r3⟩ := run_agree l hl
  have hb : m_frontier_isBlock l = some (decide (1 ≤ l.length ∧ l.length ≤ 1024) && b) := by
    unfold m_frontier_isBlock
    simp only [jn_eq, r1, bnd1_mk]
    by_cases h1 : 1 ≤ l.length <;> by_cases h2 : l.length ≤ 1024
    · rw [if_pos (by omega), if_pos (by omega)]; simp [h1, h2]
    · rw [if_pos (by omega), if_neg (by omega)]; simp [h1, h2]
    · rw [if_neg (by omega)]; simp [h1, h2]
    · rw [if_neg (by omega)]; simp [h1, h2]
  refine ⟨_, hb, ?_, ?_, ?_⟩
  · rw [← r3]; simp; constructor <;> intro h <;> simp [h]
  · intro h
    simp at h
    obtain ⟨⟨h1, h2⟩, rfl⟩ := h
    obtain ⟨r, e1, e2, e2', e3⟩ := encode_agree l (r3.1 rfl) h2
    refine ⟨r, e1, e2, e2', ?_⟩
    unfold m_ref35_EncodeBlock
    simp only [jn_eq (κ := Bool → Option (List UInt8 × Int)), r2, bnd1_mk, Bool.not_true, Bool.false_eq_true, if_false]
    rw [if_neg (by omega)]
    rw [show decide ((1024 : Int) < (l.length : Int)) = false by simp; omega]
    exact e3
  · intro h
    unfold m_ref35_EncodeBlock
    simp only [jn_eq, r2, bnd1_mk]
    cases b
    · simp
    · simp only [Bool.not_true, Bool.false_eq_true, if_false]
      simp at h
      by_cases h1 : (l.length : Int) < 1
      · rw [if_pos h1, if_pos trivial]
      · rw [if_neg h1, show decide ((1024 : Int) < (l.length : Int)) = true by simp; omega, if_pos rfl]
end Go.Proofs.Ytkplmgdmkfgjhaa
