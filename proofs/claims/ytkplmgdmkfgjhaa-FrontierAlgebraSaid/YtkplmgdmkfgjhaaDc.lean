/- The sums and the numbers' bytes: the two agree, and are there. -/
import Derived.Test.YtkplmgdmkfgjhaaM
import Derived.Test.YtkplmgdmkfgjhaaDa
namespace Go.Proofs.Ytkplmgdmkfgjhaa
attribute [local irreducible] FU

theorem crc_inner (K K' : Int → Option Int) : ∀ (m i n1 n2 : Nat) (x : Int), i + m = 8 → 0 ≤ x → x < 4294967296 → m < n1 → m < n2 →
    ∃ y, 0 ≤ y ∧ y < 4294967296 ∧ m_codec_Checksum_L14 K n1 x i = K y ∧ m_ref23_Checksum_L14 K' n2 x i = K' y := by
  intro m
  induction m with
  | zero =>
    intro i n1 n2 x hi h0 h1 h2 h3
    obtain ⟨n1, rfl⟩ : ∃ n, n1 = n + 1 := ⟨n1 - 1, by omega⟩
    obtain ⟨n2, rfl⟩ : ∃ n, n2 = n + 1 := ⟨n2 - 1, by omega⟩
    obtain rfl : i = 8 := by omega
    exact ⟨x, h0, h1, by simp [m_codec_Checksum_L14, m_codec_Checksum_B14], by simp [m_ref23_Checksum_L14, m_ref23_Checksum_B14]⟩
  | succ m ih =>
    intro i n1 n2 x hi h0 h1 h2 h3
    obtain ⟨n1, rfl⟩ : ∃ n, n1 = n + 1 := ⟨n1 - 1, by omega⟩
    obtain ⟨n2, rfl⟩ : ∃ n, n2 = n + 1 := ⟨n2 - 1, by omega⟩
    have hi8 : (i : Int) < 8 := by omega
    rw [m_codec_Checksum_L14, m_ref23_Checksum_L14, m_codec_Checksum_B14, m_ref23_Checksum_B14, if_pos hi8, if_pos hi8, jn_eq, jn_eq]
    have e5 : i64 ((i : Int) + 1) = ((i + 1 : Nat) : Int) := by rw [i64_id (by omega)]; omega
    obtain ⟨z, rfl⟩ : ∃ z : Nat, x = z := ⟨x.toNat, by omega⟩
    have ha : bAnd .u32 (z : Int) 1 = ((z % 2 : Nat) : Int) := by
      rw [show (1 : Int) = ((1 : Nat) : Int) from rfl, bAnd32_nat z 1 (by omega) (by omega), Nat.and_one_is_mod]
    have hd : Int.fdiv (z : Int) (2 ^ min (Int.toNat 1) IntKind.u32.bits) = ((z / 2 : Nat) : Int) := by
      rw [show min (Int.toNat 1) IntKind.u32.bits = 1 from rfl, Int.fdiv_eq_ediv_of_nonneg _ (by omega)]; omega
    have ht : Int.tmod (z : Int) 2 = ((z % 2 : Nat) : Int) := rfl
    simp only [ha, hd, ht, e5]
    by_cases hz : z % 2 = 1
    · rw [if_pos (by omega), if_pos (by omega)]
      have hx := bXor_range ((z / 2 : Nat) : Int) 3988292384
      exact ih (i + 1) n1 n2 _ (by omega) hx.1 hx.2 (by omega) (by omega)
    · rw [if_neg (by omega), if_neg (by omega)]
      exact ih (i + 1) n1 n2 _ (by omega) (by omega) (by omega) (by omega) (by omega)

theorem crc_outer (xs : List UInt8) (hl : xs.length ≤ 1099511627776) (K K' : Int → Option Int) : ∀ (m i n1 n2 : Nat) (x : Int), i + m = xs.length → 0 ≤ x → x < 4294967296 → m < n1 → m < n2 →
    ∃ y, 0 ≤ y ∧ y < 4294967296 ∧ m_codec_Checksum_L8 xs K n1 x i = K y ∧ m_ref23_Checksum_L8 xs K' n2 x i = K' y := by
  have hFU := FU_ge
  intro m
  induction m with
  | zero =>
    intro i n1 n2 x hi h0 h1 h2 h3
    obtain ⟨n1, rfl⟩ : ∃ n, n1 = n + 1 := ⟨n1 - 1, by omega⟩
    obtain ⟨n2, rfl⟩ : ∃ n, n2 = n + 1 := ⟨n2 - 1, by omega⟩
    obtain rfl : i = xs.length := by omega
    exact ⟨x, h0, h1, by simp [m_codec_Checksum_L8, m_codec_Checksum_B8], by simp [m_ref23_Checksum_L8, m_ref23_Checksum_B8]⟩
  | succ m ih =>
    intro i n1 n2 x hi h0 h1 h2 h3
    obtain ⟨n1, rfl⟩ : ∃ n, n1 = n + 1 := ⟨n1 - 1, by omega⟩
    obtain ⟨n2, rfl⟩ : ∃ n, n2 = n + 1 := ⟨n2 - 1, by omega⟩
    have hi8 : (i : Int) < (xs.length : Int) := by omega
    rw [m_codec_Checksum_L8, m_ref23_Checksum_L8, m_codec_Checksum_B8, m_ref23_Checksum_B8, if_pos hi8, if_pos hi8, jn_eq, jn_eq, need_pos (by omega), need_pos (by omega)]
    have e5 : i64 ((i : Int) + 1) = ((i + 1 : Nat) : Int) := by rw [i64_id (by omega)]; omega
    simp only [e5]
    have hx := bXor_range x ((gi xs (i : Int)).toNat : Int)
    obtain ⟨y, hy0, hy1, r1, r2⟩ := crc_inner (fun x3 => m_codec_Checksum_L8 xs K n1 x3 ((i + 1 : Nat) : Int)) (fun x3 => m_ref23_Checksum_L8 xs K' n2 x3 ((i + 1 : Nat) : Int)) 8 0 FU FU _ rfl hx.1 hx.2 (by omega) (by omega)
    obtain ⟨w, hw0, hw1, q1, q2⟩ := ih (i + 1) n1 n2 y (by omega) hy0 hy1 (by omega) (by omega)
    exact ⟨w, hw0, hw1, r1.trans q1, r2.trans q2⟩

theorem crc_agree (xs : List UInt8) (hl : xs.length ≤ 1099511627776) : ∃ c, 0 ≤ c ∧ c < 4294967296 ∧ m_codec_Checksum xs = some c ∧ m_ref23_Checksum xs = some c := by
  have hFU := FU_ge
  obtain ⟨y, h0, h1, r1, r2⟩ := crc_outer xs hl (fun x => some (bXor .u32 4294967295 x)) (fun x => some (bXor .u32 4294967295 x)) xs.length 0 FU FU 4294967295 (by omega) (by omega) (by omega) (by omega) (by omega)
  have hx := bXor_range 4294967295 y
  exact ⟨_, hx.1, hx.2, by unfold m_codec_Checksum; rw [jn_eq]; exact r1, by unfold m_ref23_Checksum; rw [jn_eq]; exact r2⟩

theorem uv_loop (K K' : List UInt8 → Int → Option (List UInt8)) (L : Nat) (hL : L ≤ 1099511627)
    (hK : ∀ ys x, 0 ≤ x → x < 128 → ys.length ≤ L → K ys x = K' ys x ∧ ∃ r, K ys x = some r ∧ r.length ≤ ys.length + 1) :
    ∀ (m z n1 n2 : Nat) (ys : List UInt8), z < 2 ^ (7 * m) → m < n1 → m < n2 → z < 2 ^ 63 → ys.length + m ≤ L →
    m_codec_AppendUvarint_L2 K n1 ys (z : Int) = m_ref23_Uvarint_L2 K' n2 ys (z : Int) ∧ ∃ r, m_ref23_Uvarint_L2 K' n2 ys (z : Int) = some r ∧ r.length ≤ ys.length + m + 1 := by
  intro m
  induction m with
  | zero =>
    intro z n1 n2 ys hz h1 h2 h3 hy
    obtain ⟨n1, rfl⟩ : ∃ n, n1 = n + 1 := ⟨n1 - 1, by omega⟩
    obtain ⟨n2, rfl⟩ : ∃ n, n2 = n + 1 := ⟨n2 - 1, by omega⟩
    rw [m_codec_AppendUvarint_L2, m_ref23_Uvarint_L2, m_codec_AppendUvarint_B2, m_ref23_Uvarint_B2, if_neg (by omega), if_neg (by omega)]
    obtain ⟨k1, r, k2, k3⟩ := hK ys z (by omega) (by omega) (by omega)
    exact ⟨k1, r, k1 ▸ k2, by omega⟩
  | succ m ih =>
    intro z n1 n2 ys hz h1 h2 h3 hy
    obtain ⟨n1, rfl⟩ : ∃ n, n1 = n + 1 := ⟨n1 - 1, by omega⟩
    obtain ⟨n2, rfl⟩ : ∃ n, n2 = n + 1 := ⟨n2 - 1, by omega⟩
    rw [m_codec_AppendUvarint_L2, m_ref23_Uvarint_L2, m_codec_AppendUvarint_B2, m_ref23_Uvarint_B2]
    by_cases hc : 128 ≤ (z : Int)
    · rw [if_pos hc, if_pos hc]
      have hb : u8i (bOr .i64 (bAnd .i64 (z : Int) 127) 128) = u8i (i64 (Int.tmod (z : Int) 128 + 128)) := by
        rw [show (127 : Int) = ((127 : Nat) : Int) from rfl, bAnd_nat z 127 (by omega) (by omega), and_127, show (128 : Int) = ((128 : Nat) : Int) from rfl, bOr_nat _ 128 (by omega) (by omega), show Int.tmod (z : Int) ((128 : Nat) : Int) = ((z % 128 : Nat) : Int) from rfl, i64_id (by omega)]
        have := Nat.two_pow_add_eq_or_of_lt (i := 7) (b := z % 128) (by omega) 1
        rw [Nat.or_comm, show (128 : Nat) = 2 ^ 7 * 1 from rfl, ← this]
        congr 1; omega
      have hd : Int.fdiv (z : Int) (2 ^ min (Int.toNat 7) IntKind.i64.bits) = ((z / 128 : Nat) : Int) := by
        rw [show min (Int.toNat 7) IntKind.i64.bits = 7 from rfl, Int.fdiv_eq_ediv_of_nonneg _ (by omega)]; omega
      have ht : i64 (Int.tdiv (z : Int) 128) = ((z / 128 : Nat) : Int) := by
        rw [show Int.tdiv (z : Int) 128 = ((z / 128 : Nat) : Int) from rfl, i64_id (by omega)]
      rw [hb, hd, ht]
      have hlen : (ys ++ [u8i (i64 (Int.tmod (z : Int) 128 + 128))]).length = ys.length + 1 := by simp
      have hp : 2 ^ (7 * (m + 1)) = 2 ^ (7 * m) * 128 := by rw [Nat.mul_add, Nat.pow_add]
      rw [need_pos (by simp; omega), need_pos (by simp; omega)]
      obtain ⟨r1, r, r2, r3⟩ := ih (z / 128) n1 n2 _ (by omega) (by omega) (by omega) (by omega) (by rw [hlen]; omega)
      exact ⟨r1, r, r2, by omega⟩
    · rw [if_neg hc, if_neg hc]
      obtain ⟨k1, r, k2, k3⟩ := hK ys z (by omega) (by omega) (by omega)
      exact ⟨k1, r, k1 ▸ k2, by omega⟩

theorem uv_agree (ys : List UInt8) (x : Int) (h0 : 0 ≤ x) (h1 : x < 9223372036854775808) (hl : ys.length ≤ 1000000000) :
    ∃ r, m_codec_AppendUvarint ys x = some r ∧ m_ref23_Uvarint ys x = some r ∧ r.length ≤ ys.length + 11 := by
  have hFU := FU_ge
  obtain ⟨z, rfl⟩ : ∃ z : Nat, x = z := ⟨x.toNat, by omega⟩
  obtain ⟨r1, r, r2, r3⟩ := uv_loop (fun x0 x1 => need (List.length x0 + List.length [u8i x1] ≤ 137438953472) (some (x0 ++ [u8i x1]))) (fun x0 x1 => need (List.length x0 + List.length [u8i x1] ≤ 137438953472) (some (x0 ++ [u8i x1]))) 1099511627 (by omega)
    (fun ys x _ _ hy => ⟨rfl, ys ++ [u8i x], by rw [need_pos (by simp; omega)], by simp⟩) 10 z FU FU ys (by omega) (by omega) (by omega) (by omega) (by omega)
  refine ⟨r, ?_, ?_, by omega⟩
  · unfold m_codec_AppendUvarint; rw [jn_eq]; exact r1.trans r2
  · unfold m_ref23_Uvarint; rw [jn_eq]; exact r2

def sum4 (c : Int) : List UInt8 := [u8i (Int.fdiv c (2 ^ min (Int.toNat 24) IntKind.u32.bits)), u8i (Int.fdiv c (2 ^ min (Int.toNat 16) IntKind.u32.bits)), u8i (Int.fdiv c (2 ^ min (Int.toNat 8) IntKind.u32.bits)), u8i c]
theorem sum_agree (ys : List UInt8) (hl : ys.length ≤ 1000000000) : ∃ c, m_codec_Checksum ys = some c ∧ m_codec_AppendSum ys 0 = some (ys ++ sum4 c) ∧ m_ref23_Sealed ys = some (ys ++ sum4 c) := by
  obtain ⟨c, _, _, r1, r2⟩ := crc_agree ys (by omega)
  refine ⟨c, r1, ?_, ?_⟩
  · unfold m_codec_AppendSum
    rw [need_pos (by omega), show List.take (Int.toNat (ys.length : Int) - Int.toNat 0) (List.drop (Int.toNat 0) ys) = ys by simp, r1, bnd1_mk, need_pos (by simp; omega)]
    rfl
  · unfold m_ref23_Sealed
    rw [r2, bnd1_mk, need_pos (by simp; omega), need_pos (by simp; omega)]
    rfl
end Go.Proofs.Ytkplmgdmkfgjhaa
