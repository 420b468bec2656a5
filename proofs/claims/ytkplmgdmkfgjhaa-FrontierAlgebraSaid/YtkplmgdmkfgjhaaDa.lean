/- Laws of the words of the models, and of bytes: no program in sight. -/
import Derived.Test.YtkplmgdmkfgjhaaWo
namespace Go.Proofs.Ytkplmgdmkfgjhaa

theorem jn_eq {κ ρ : Type} (k : κ) (m : κ → ρ) : jn k m = m k := by
  have h : jn k m = m k := rfl
  exact h
theorem bnd1_mk {α ρ : Type} (a : α) (k : α → Option ρ) : bnd1 (some a) k = k a := by
  have h : bnd1 (some a) k = k a := rfl
  exact h
theorem bnd1_none {α ρ : Type} (k : α → Option ρ) : bnd1 none k = none := rfl
theorem bnd1_bnd1 {α β ρ : Type} (m : Option α) (f : α → Option β) (g : β → Option ρ) : bnd1 (bnd1 m f) g = bnd1 m (fun a => bnd1 (f a) g) := by cases m <;> rfl
theorem bnd1_ite {α ρ : Type} {p : Prop} [Decidable p] (a b : Option α) (k : α → Option ρ) : bnd1 (if p then a else b) k = if p then bnd1 a k else bnd1 b k := by split <;> rfl
theorem bnd1_need {α ρ : Type} {p : Prop} [Decidable p] (a : Option α) (k : α → Option ρ) : bnd1 (need p a) k = need p (bnd1 a k) := by unfold need; split <;> rfl
theorem need_neg {p : Prop} [Decidable p] {ρ : Type} {m : Option ρ} (h : ¬ p) : need p m = none := if_neg h
theorem FU_ge : 4611686018427387904 ≤ FU := Nat.le_refl _
theorem i64_def (x : Int) : i64 x = IntKind.i64.wrap x := rfl
theorem wrap_i64 (x : Int) (h : -9223372036854775808 ≤ x ∧ x ≤ 9223372036854775807) : IntKind.i64.wrap x = x := i64_id h
theorem wrap_i64_range (x : Int) : -9223372036854775808 ≤ IntKind.i64.wrap x ∧ IntKind.i64.wrap x ≤ 9223372036854775807 := by
  unfold IntKind.wrap IntKind.bits IntKind.signed
  simp; split <;> omega
theorem wrap_u32 (x : Int) : IntKind.u32.wrap x = x % 4294967296 := by
  unfold IntKind.wrap IntKind.bits IntKind.signed
  simp
theorem u8i_nat (n : Nat) : (u8i (n : Int)).toNat = n % 256 := by
  have := u8i_eq (n : Int)
  rw [wrap_u8n] at this
  omega
theorem u8_inj {a b : UInt8} (h : a.toNat = b.toNat) : a = b := UInt8.toNat_inj.1 h
theorem u8i_toNat (a : UInt8) : u8i (a.toNat : Int) = a := u8_inj (by rw [u8i_nat]; have := UInt8.toNat_lt a; omega)
theorem bv_nat (w : Nat) (m : Nat) (h : m < 2 ^ w) : (BitVec.ofInt w (m : Int)).toNat = m := by
  rw [BitVec.toNat_ofInt]
  have h1 : ((m : Int) % (2 ^ w : Nat)) = (m : Int) := Int.emod_eq_of_lt (by omega) (by exact_mod_cast h)
  rw [h1]; rfl
theorem bAnd_nat (m k : Nat) (hm : m < 2 ^ 63) (hk : k < 2 ^ 63) : bAnd .i64 (m : Int) (k : Int) = ((m &&& k : Nat) : Int) := by
  unfold bAnd
  rw [BitVec.toNat_and, show IntKind.i64.bits = 64 from rfl, bv_nat 64 m (by omega), bv_nat 64 k (by omega), wrap_i64]
  have := Nat.and_le_left (n := m) (m := k)
  omega
theorem bOr_nat (m k : Nat) (hm : m < 2 ^ 63) (hk : k < 2 ^ 63) : bOr .i64 (m : Int) (k : Int) = ((m ||| k : Nat) : Int) := by
  unfold bOr
  rw [BitVec.toNat_or, show IntKind.i64.bits = 64 from rfl, bv_nat 64 m (by omega), bv_nat 64 k (by omega), wrap_i64]
  have := Nat.or_lt_two_pow hm hk
  omega
theorem bAnd32_nat (m k : Nat) (hm : m < 2 ^ 32) (hk : k < 2 ^ 32) : bAnd .u32 (m : Int) (k : Int) = ((m &&& k : Nat) : Int) := by
  unfold bAnd
  rw [BitVec.toNat_and, show IntKind.u32.bits = 32 from rfl, bv_nat 32 m (by omega), bv_nat 32 k (by omega), wrap_u32]
  have := Nat.and_le_left (n := m) (m := k)
  omega
theorem bXor_range (x y : Int) : 0 ≤ bXor .u32 x y ∧ bXor .u32 x y < 4294967296 := by
  unfold bXor; rw [wrap_u32]; omega
/-- A further seven bits. -/
theorem bOr_shift (x y s : Nat) (hx : x < 2 ^ s) (hy : y < 128) (hs : s ≤ 28) : bOr .i64 (x : Int) ((y * 2 ^ s : Nat) : Int) = ((x + y * 2 ^ s : Nat) : Int) := by
  have h2 : 2 ^ s ≤ 2 ^ 28 := Nat.pow_le_pow_right (by omega) hs
  have h3 : y * 2 ^ s ≤ 127 * 2 ^ 28 := Nat.mul_le_mul (by omega) h2
  rw [bOr_nat _ _ (by omega) (by omega)]
  have := Nat.two_pow_add_eq_or_of_lt hx y
  rw [Nat.mul_comm] at this
  rw [Nat.or_comm, ← this, Nat.add_comm]
theorem and_127 (m : Nat) : m &&& 127 = m % 128 := Nat.and_two_pow_sub_one_eq_mod m 7
theorem u8_and127 (b : UInt8) : (b &&& 127).toNat = b.toNat % 128 := by
  rw [UInt8.toNat_and]; exact and_127 _
theorem u8_lt128 (b : UInt8) : b < 128 ↔ b.toNat < 128 := by rw [UInt8.lt_iff_toNat_lt]; rfl
theorem tmod_nat (m k : Nat) : Int.tmod (m : Int) (k : Int) = ((m % k : Nat) : Int) := rfl
end Go.Proofs.Ytkplmgdmkfgjhaa
