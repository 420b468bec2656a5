/- Leaves. -/
import Derived.Test.YtkplmgdmkfgjhaaT1
namespace Go.Proofs.Ytkplmgdmkfgjhaa
open Go.RowKit

def cmpL : List Int → List Int → Int
  | [], [] => 0
  | [], _ :: _ => -1
  | _ :: _, [] => 1
  | x :: xs, y :: ys => if cmpI x y = 0 then cmpL xs ys else cmpI x y

set_option maxHeartbeats 400000 in
theorem slCmp_any (A B : Option Addr) (c d : Nat) (xs ys : List Int) (w : World) (hx : IntsAt .i64 w w.heap.size A xs) (hy : IntsAt .i64 w w.heap.size B ys)
    (lx : xs.length ≤ 4611686018427387904) (ly : ys.length ≤ 4611686018427387904) :
    Calls Try.prog 88 #[.slice A xs.length c, .slice B ys.length d] w fun e w' => e = .returned (.int .i64 (cmpL xs ys)) ∧ w = w' := by
  go_enter Try.func88, Try.ntmps88
  go_wp2
  go_loop [11] (fun i => ∃ k : Nat, k ≤ xs.length ∧ k ≤ ys.length ∧ i = .int .i64 k ∧ cmpL xs ys = cmpL (xs.drop k) (ys.drop k)) (fun i => xs.length - (intOf i).toNat)
  case atStart => exact ⟨0, by omega, by omega, rfl, rfl⟩
  case round =>
    obtain ⟨k, hk, hk', rfl, hrel⟩ := hrel
    have HR := Lib.hid hrel
    clear hrel
    by_cases h1 : k < xs.length
    · obtain ⟨x, ex⟩ := getElem?_of_lt xs h1
      obtain ⟨b, off, rfl, hB, hc⟩ := hx (ne_nil_of_lt h1)
      have hc1 := hc k x ex
      have HX := Lib.hid ex
      clear ex hc
      by_cases h2 : k < ys.length
      · obtain ⟨y, ey⟩ := getElem?_of_lt ys h2
        obtain ⟨b2, off2, rfl, hB2, hc2⟩ := hy (ne_nil_of_lt h2)
        have hc3 := hc2 k y ey
        have HY := Lib.hid ey
        clear ey hc2
        go_wp2_with (go_at_call 103; refine (cmp_int _ _ _).mono ?_; rintro e w' ⟨rfl, rfl⟩)
        · have hne : cmpI x y ≠ 0 := by simpa using ‹(cmpI x y != 0) = true›
          go_ret
          exact ⟨ret_int (by rw [HR.out, drop_of_get HX.out, drop_of_get HY.out, cmpL, if_neg hne]), rfl⟩
        · have heq : cmpI x y = 0 := by simpa using ‹(cmpI x y != 0) = false›
          go_round
          case rel => exact ⟨k + 1, by omega, by omega, by go_num, by rw [HR.out, drop_of_get HX.out, drop_of_get HY.out, cmpL, if_pos heq]⟩
          case measure => simp [intOf]; omega
      · go_wp2
        go_ret
        exact ⟨ret_int (by rw [HR.out, drop_of_get HX.out, drop_all h2, cmpL]), rfl⟩
    · go_wp2
      · have h2 : k < ys.length := by omega
        obtain ⟨y, ey⟩ := getElem?_of_lt ys h2
        go_ret
        exact ⟨ret_int (by rw [HR.out, drop_all h1, drop_of_get ey, cmpL]), rfl⟩
      · have h2 : ¬ k < ys.length := by omega
        go_ret
        exact ⟨ret_int (by rw [HR.out, drop_all h1, drop_all h2, cmpL]), rfl⟩

end Go.Proofs.Ytkplmgdmkfgjhaa
