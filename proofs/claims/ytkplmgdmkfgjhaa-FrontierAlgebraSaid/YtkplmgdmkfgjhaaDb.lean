/- The two readings of a number agree. -/
import Derived.Test.YtkplmgdmkfgjhaaM
import Derived.Test.YtkplmgdmkfgjhaaDa
namespace Go.Proofs.Ytkplmgdmkfgjhaa
attribute [local irreducible] FU

theorem num_loop (xs : List UInt8) (i : Int) (hi0 : 0 ≤ i) (hl : (xs.length : Int) ≤ 1099511627776) :
    ∀ (m k x n1 n2 : Nat), k + m = 5 → x < 2 ^ (7 * k) → m < n1 → m < n2 → i + k ≤ xs.length →
    ∃ v j j' e : Int, m_frontier_number_L2 xs i (fun _ => some (0, 0, 22)) n1 (x : Int) (k : Int) = some (v, j, e) ∧
      m_ref35_uvarint_L2 xs (fun x1 => some (0, x1, 22)) n2 (i + k) (x : Int) ((2 ^ (7 * k) : Nat) : Int) (k : Int) = some (v, j', e) ∧
      (e = 0 → j = j' ∧ i ≤ j ∧ j ≤ xs.length ∧ 0 ≤ v ∧ v < 34359738368) ∧ (e = 0 ∨ e = 22 ∨ e = 23) := by
  intro m
  induction m with
  | zero =>
    intro k x n1 n2 hk hx h1 h2 hp
    obtain ⟨n1, rfl⟩ : ∃ n, n1 = n + 1 := ⟨n1 - 1, by omega⟩
    obtain ⟨n2, rfl⟩ : ∃ n, n2 = n + 1 := ⟨n2 - 1, by omega⟩
    obtain rfl : k = 5 := by omega
    refine ⟨0, 0, i + 5, 22, ?_, ?_, by simp, by simp⟩
    · simp [m_frontier_number_L2, m_frontier_number_B2]
    · simp [m_ref35_uvarint_L2, m_ref35_uvarint_B2]
  | succ m ih =>
    intro k x n1 n2 hk hx h1 h2 hp
    obtain ⟨n1, rfl⟩ : ∃ n, n1 = n + 1 := ⟨n1 - 1, by omega⟩
    obtain ⟨n2, rfl⟩ : ∃ n, n2 = n + 1 := ⟨n2 - 1, by omega⟩
    have hk5 : (k : Int) < 5 := by omega
    rw [m_frontier_number_L2, m_ref35_uvarint_L2, m_frontier_number_B2, m_ref35_uvarint_B2, if_pos hk5, if_pos hk5]
    have e1 : i64 (i + (k : Int)) = i + k := i64_id (by omega)
    have e2 : i64 (i + (k : Int) + 1) = i + k + 1 := i64_id (by omega)
    have e3 : i64 (i + (k : Int) + 1 - 1) = i + k := by rw [i64_id (by omega)]; omega
    have e4 : i64 (7 * (k : Int)) = ((7 * k : Nat) : Int) := by rw [i64_id (by omega)]; omega
    have e5 : i64 ((k : Int) + 1) = ((k + 1 : Nat) : Int) := by rw [i64_id (by omega)]; omega
    simp only [e1, e2, e3, e4, e5]
    by_cases hend : (xs.length : Int) ≤ i + k
    · rw [if_pos hend, if_pos hend]
      exact ⟨0, 0, i + k, 23, rfl, rfl, by simp, by simp⟩
    · rw [if_neg hend, if_neg hend, need_pos (by omega), need_pos (by omega), need_pos (by omega), need_pos (by omega)]
      generalize gi xs (i + (k : Int)) = b
      have hb := UInt8.toNat_lt b
      have hs : 7 * k ≤ 28 := by omega
      have hp2 : 2 ^ (7 * k) ≤ 2 ^ 28 := Nat.pow_le_pow_right (by omega) hs
      have hp2' : 2 ^ (7 * (k + 1)) = 2 ^ (7 * k) * 128 := by rw [Nat.mul_add, Nat.pow_add]
      have hy : b.toNat % 128 < 128 := Nat.mod_lt _ (by omega)
      have hm : (b.toNat % 128) * 2 ^ (7 * k) ≤ 127 * 2 ^ 28 := Nat.mul_le_mul (by omega) hp2
      have hm' : (b.toNat % 128) * 2 ^ (7 * k) ≤ 127 * 2 ^ (7 * k) := Nat.mul_le_mul (by omega) (Nat.le_refl _)
      have hmin : min (Int.toNat ((7 * k : Nat) : Int)) IntKind.i64.bits = 7 * k := by
        have : IntKind.i64.bits = 64 := rfl
        omega
      have hpc : ((2 : Int) ^ (7 * k)) = ((2 ^ (7 * k) : Nat) : Int) := by simp
      have hv : i64 (((b &&& 127).toNat : Int) * 2 ^ min (Int.toNat ((7 * k : Nat) : Int)) IntKind.i64.bits) = (((b.toNat % 128) * 2 ^ (7 * k) : Nat) : Int) := by
        rw [hmin, u8_and127, hpc, ← Int.natCast_mul, i64_id]
        omega
      have hw : i64 (Int.tmod (b.toNat : Int) 128 * ((2 ^ (7 * k) : Nat) : Int)) = (((b.toNat % 128) * 2 ^ (7 * k) : Nat) : Int) := by
        rw [show Int.tmod (b.toNat : Int) 128 = ((b.toNat % 128 : Nat) : Int) from rfl, ← Int.natCast_mul, i64_id]
        omega
      have hx2 : i64 ((x : Int) + (((b.toNat % 128) * 2 ^ (7 * k) : Nat) : Int)) = ((x + (b.toNat % 128) * 2 ^ (7 * k) : Nat) : Int) := by
        rw [i64_id] <;> omega
      have hsc : i64 (((2 ^ (7 * k) : Nat) : Int) * 128) = ((2 ^ (7 * (k + 1)) : Nat) : Int) := by
        rw [i64_id, hp2'] <;> omega
      simp only [hv, hw, hx2, hsc, bOr_shift x _ _ hx hy hs]
      by_cases hlast : b < 128
      · rw [if_pos hlast, if_pos hlast]
        exact ⟨_, _, _, _, rfl, rfl, fun _ => ⟨rfl, by omega, by omega, by omega, by omega⟩, Or.inl rfl⟩
      · rw [if_neg hlast, if_neg hlast]
        obtain ⟨v, j, j', e, r1, r2, r3, r4⟩ := ih (k + 1) (x + b.toNat % 128 * 2 ^ (7 * k)) n1 n2 (by omega) (by omega) (by omega) (by omega) (by omega)
        refine ⟨v, j, j', e, r1, ?_, r3, r4⟩
        rw [show i + (k : Int) + 1 = i + ((k + 1 : Nat) : Int) by omega]
        exact r2

theorem num_agree (xs : List UInt8) (i : Int) (hi0 : 0 ≤ i) (hi1 : i ≤ xs.length) (hl : (xs.length : Int) ≤ 1099511627776) :
    ∃ v j j' e : Int, m_frontier_number xs i = some (v, j, e) ∧ m_ref35_uvarint xs i = some (v, j', e) ∧
      (e = 0 → j = j' ∧ i ≤ j ∧ j ≤ xs.length ∧ 0 ≤ v ∧ v < 34359738368) ∧ (e = 0 ∨ e = 22 ∨ e = 23) := by
  have := FU_ge
  have h := num_loop xs i hi0 hl 5 0 0 FU FU (by omega) (by simp) (by omega) (by omega) (by simpa using hi1)
  simpa [m_frontier_number, m_ref35_uvarint, jn_eq] using h
end Go.Proofs.Ytkplmgdmkfgjhaa
