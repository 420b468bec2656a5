/- Checksums. -/
import Derived.Test.YtkplmgdmkfgjhaaA2
namespace Go.Proofs.Ytkplmgdmkfgjhaa
open Go.RowKit

def crcBit (c : Int) : Int := if c % 2 = 1 then bits .xor .u32 (c / 2) 3988292384 else c / 2
def crcBits : Nat → Int → Int
  | 0, c => c
  | k + 1, c => crcBit (crcBits k c)
def crcByte (c x : Int) : Int := crcBits 8 (bits .xor .u32 c (x % 4294967296))
def crcAll : List Int → Int → Int
  | [], c => c
  | x :: xs, c => crcAll xs (crcByte c x)

theorem bits_u32 (op : BinOp) (x y : Int) : 0 ≤ bits op .u32 x y ∧ bits op .u32 x y ≤ 4294967295 := by
  unfold bits
  split <;> (rw [IntKind.wrap_u32]; omega)

def crcSum (xs : List Int) : Int := bits .xor .u32 IntKind.u32.max (crcAll xs 4294967295)
theorem crcBits_succ (k : Nat) (c : Int) : crcBits (k + 1) c = crcBit (crcBits k c) := rfl
theorem crcBit_odd {c : Int} (h : c % 2 = 1) : crcBit c = bits .xor .u32 (c / 2) 3988292384 := by rw [crcBit, if_pos h]
theorem crcBit_even {c : Int} (h : ¬ c % 2 = 1) : crcBit c = c / 2 := by rw [crcBit, if_neg h]
theorem u32_and_one (y : Int) (h0 : 0 ≤ y) (h1 : y ≤ 4294967295) : bits .and .u32 y 1 = y % 2 := by
  obtain ⟨n, rfl⟩ := Int.eq_ofNat_of_zero_le h0
  rw [show (1 : Int) = ((1 : Nat) : Int) from rfl, u32_and_nat n 1 (by omega) (by omega), nat_mask1]
  omega

set_option maxRecDepth 100000 in
set_option maxHeartbeats 400000 in
theorem cCk_any (A : Option Addr) (c : Nat) (xs : List Int) (w : World) (hx : IntsAt .u8 w w.heap.size A xs) (lx : xs.length ≤ 1099511627776) :
    Calls Try.prog 101 #[.slice A xs.length c] w fun e w' => e = .returned (.int .u32 (crcSum xs)) ∧ w = w' := by
  go_enter Try.func101, Try.ntmps101
  go_wp2
  go_loop [3, 8] (fun s i => ∃ (k : Nat) (z : Int), k ≤ xs.length ∧ i = .int .i64 k ∧ s = .int .u32 z ∧ 0 ≤ z ∧ z ≤ 4294967295 ∧ crcAll xs 4294967295 = crcAll (xs.drop k) z) (fun _ i => xs.length - (intOf i).toNat)
  case atStart => exact ⟨0, 4294967295, by omega, rfl, rfl, by omega, by omega, rfl⟩
  case round =>
    obtain ⟨k, z, hk, rfl, rfl, hz0, hz1, hrel⟩ := hrel
    have HR := Lib.hid hrel
    clear hrel
    by_cases h1 : k < xs.length
    · obtain ⟨x, ex⟩ := getElem?_of_lt xs h1
      obtain ⟨b, off, rfl, hB, hc⟩ := hx (ne_nil_of_lt h1)
      have hc1 := hc k x ex
      have HX := Lib.hid ex
      clear ex hc
      go_wp2
      go_loop [3, 16] (fun s j => ∃ (m : Nat) (y : Int), m ≤ 8 ∧ j = .int .i64 m ∧ s = .int .u32 y ∧ 0 ≤ y ∧ y ≤ 4294967295 ∧ y = crcBits m (bits .xor .u32 z (x % 4294967296))) (fun _ j => 8 - (intOf j).toNat)
      case atStart => exact ⟨0, _, by omega, rfl, rfl, (bits_u32 _ _ _).1, (bits_u32 _ _ _).2, rfl⟩
      case round =>
        obtain ⟨m, y, hm, rfl, rfl, hy0, hy1, hrel⟩ := hrel
        have HY := Lib.hid hrel
        clear hrel
        by_cases h2 : m < 8
        · go_wp2
          · have ho : y % 2 = 1 := by
              have h := ‹(bits .and .u32 y 1 != 0) = true›
              rw [u32_and_one y hy0 hy1] at h
              simp at h
              omega
            go_round
            case rel => exact ⟨m + 1, _, by omega, by go_num, rfl, (bits_u32 _ _ _).1, (bits_u32 _ _ _).2, by rw [crcBits_succ, ← HY.out, crcBit_odd ho]⟩
            case measure => simp [intOf]; omega
          · have ho : ¬ y % 2 = 1 := by
              have h := ‹(bits .and .u32 y 1 != 0) = false›
              rw [u32_and_one y hy0 hy1] at h
              simp at h
              omega
            go_round
            case rel => exact ⟨m + 1, _, by omega, by go_num, rfl, by omega, by omega, by rw [crcBits_succ, ← HY.out, crcBit_even ho]⟩
            case measure => simp [intOf]; omega
        · have hm8 : m = 8 := by omega
          have H8 := Lib.hid hm8
          clear hm8
          go_wp2
          go_round
          case rel => exact ⟨k + 1, y, by omega, by go_num, rfl, hy0, hy1, by rw [HR.out, drop_of_get HX.out, crcAll, crcByte, HY.out, H8.out]⟩
          case measure => simp [intOf]; omega
    · go_wp2
      all_goals
        go_ret
        exact ⟨by rw [crcSum, HR.out, drop_all h1]; rfl, rfl⟩

set_option maxRecDepth 100000 in
set_option maxHeartbeats 400000 in
theorem rCk_any (A : Option Addr) (c : Nat) (xs : List Int) (w : World) (hx : IntsAt .u8 w w.heap.size A xs) (lx : xs.length ≤ 1099511627776) :
    Calls Try.prog 47 #[.slice A xs.length c] w fun e w' => e = .returned (.int .u32 (crcSum xs)) ∧ w = w' := by
  go_enter Try.func47, Try.ntmps47
  go_wp2
  go_loop [3, 4] (fun s i => ∃ (k : Nat) (z : Int), k ≤ xs.length ∧ i = .int .i64 k ∧ s = .int .u32 z ∧ 0 ≤ z ∧ z ≤ 4294967295 ∧ crcAll xs 4294967295 = crcAll (xs.drop k) z) (fun _ i => xs.length - (intOf i).toNat)
  case atStart => exact ⟨0, 4294967295, by omega, rfl, rfl, by omega, by omega, rfl⟩
  case round =>
    obtain ⟨k, z, hk, rfl, rfl, hz0, hz1, hrel⟩ := hrel
    have HR := Lib.hid hrel
    clear hrel
    by_cases h1 : k < xs.length
    · obtain ⟨x, ex⟩ := getElem?_of_lt xs h1
      obtain ⟨b, off, rfl, hB, hc⟩ := hx (ne_nil_of_lt h1)
      have hc1 := hc k x ex
      have HX := Lib.hid ex
      clear ex hc
      go_wp2
      go_loop [3, 5] (fun s j => ∃ (m : Nat) (y : Int), m ≤ 8 ∧ j = .int .i64 m ∧ s = .int .u32 y ∧ 0 ≤ y ∧ y ≤ 4294967295 ∧ y = crcBits m (bits .xor .u32 z (x % 4294967296))) (fun _ j => 8 - (intOf j).toNat)
      case atStart => exact ⟨0, _, by omega, rfl, rfl, (bits_u32 _ _ _).1, (bits_u32 _ _ _).2, rfl⟩
      case round =>
        obtain ⟨m, y, hm, rfl, rfl, hy0, hy1, hrel⟩ := hrel
        have HY := Lib.hid hrel
        clear hrel
        by_cases h2 : m < 8
        · go_wp2
          · have ho : y % 2 = 1 := by simpa using ‹(y % 2 == 1) = true›
            go_round
            case rel => exact ⟨m + 1, _, by omega, by go_num, rfl, (bits_u32 _ _ _).1, (bits_u32 _ _ _).2, by rw [crcBits_succ, ← HY.out, crcBit_odd ho]⟩
            case measure => simp [intOf]; omega
          · have ho : ¬ y % 2 = 1 := by simpa using ‹(y % 2 == 1) = false›
            go_round
            case rel => exact ⟨m + 1, _, by omega, by go_num, rfl, by omega, by omega, by rw [crcBits_succ, ← HY.out, crcBit_even ho]⟩
            case measure => simp [intOf]; omega
        · have hm8 : m = 8 := by omega
          have H8 := Lib.hid hm8
          clear hm8
          go_wp2
          go_round
          case rel => exact ⟨k + 1, y, by omega, by go_num, rfl, hy0, hy1, by rw [HR.out, drop_of_get HX.out, crcAll, crcByte, HY.out, H8.out]⟩
          case measure => simp [intOf]; omega
    · go_wp2
      all_goals
        go_ret
        exact ⟨by rw [crcSum, HR.out, drop_all h1]; rfl, rfl⟩

end Go.Proofs.Ytkplmgdmkfgjhaa
