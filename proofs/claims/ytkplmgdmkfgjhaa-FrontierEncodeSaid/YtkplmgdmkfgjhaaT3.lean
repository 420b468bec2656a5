/- compare, the runs. -/
import Derived.Test.YtkplmgdmkfgjhaaT2
namespace Go.Proofs.Ytkplmgdmkfgjhaa
open Go.RowKit

theorem quiet_left {P : Program} {f : FuncId} {args : Array Value} {w : World} {n : Nat} {v : Value}
    (h : Calls P f args (w.drewN n) fun e w' => e = .returned v ∧ w.drewN n = w') : Calls P f args (w.drewN n) fun e w'' => e = .returned v ∧ ∃ m, w'' = w.drewN m :=
  h.mono fun _ _ ⟨he, hm⟩ => ⟨he, n, hm.symm⟩

theorem pair_ints {w : World} {b off : Nat} {B : Nat} {x y : Int} (hb : b < B) (h0 : w.cell? ⟨b, off, none⟩ = some (.int .i64 x)) (h1 : w.cell? ⟨b, off + 1, none⟩ = some (.int .i64 y)) :
    IntsAt .i64 w B (some ⟨b, off, none⟩) [x, y] := fun _ => ⟨b, off, rfl, hb, fun i z hz => by
  match i, hz with
  | 0, hz => simp at hz; subst hz; exact h0
  | 1, hz => simp at hz; subst hz; exact h1⟩

def cmpP (a b : Int × Int) : Int := cmpL [a.1, a.2] [b.1, b.2]

set_option maxHeartbeats 400000 in
theorem fCompare_any (a0 a1 b0 b1 : Int) (w : World) :
    Calls Try.prog 61 #[.agg #[.int .i64 a0, .int .i64 a1], .agg #[.int .i64 b0, .int .i64 b1]] w (Ret (.int .i64 (cmpP (a0, a1) (b0, b1))) w) := by
  go_enter Try.func61, Try.ntmps61
  go_wp2_with fail
  go_quiet ((go_at_call 88; refine quiet_left (slCmp_any _ _ _ _ [a0, a1] [b0, b1] _ (pair_ints (by simp <;> omega) (by simp) (by simp)) (pair_ints (by simp <;> omega) (by simp) (by simp)) (by simp) (by simp))))
  go_wp2
  go_ret
  exact Ret.mk rfl (by (repeat (first | exact Below.refl _ _ | assumption | (refine Below.drew ?_) | (refine below_drewN ?_ _) | (refine below_wext ?_ (by first | omega | (simp <;> omega)) _) | (refine Below.alloc ?_ (by first | omega | (simp <;> omega)) _) | (refine Below.setCell ?_ (by first | omega | (simp <;> omega)) _))))

def runB (less : Int × Int → Int × Int → Bool) (prev : Option (Int × Int)) : List (Int × Int) → Bool
  | [] => true
  | p :: r => (isPairB p && (match prev with | none => true | some q => less q p)) && runB less (some p) r

theorem runB_cons (less : Int × Int → Int × Int → Bool) (prev : Option (Int × Int)) (p : Int × Int) (r : List (Int × Int)) :
    runB less prev (p :: r) = ((isPairB p && (match prev with | none => true | some q => less q p)) && runB less (some p) r) := rfl

set_option maxHeartbeats 400000 in
theorem rIsRun_any (A : Option Addr) (c : Nat) (l : List (Int × Int)) (w : World) (hl : PairsAt w w.heap.size A l) (hn : l.length ≤ 4611686018427387904) :
    Calls Try.prog 40 #[.slice A l.length c] w (Ret (.bool (runB lessP none l)) w) := by
  go_enter Try.func40, Try.ntmps40
  go_wp2
  go_loopw [3] (fun i wr => Below w.heap.size w wr ∧ ∃ k : Nat, k ≤ l.length ∧ i = .int .i64 k ∧ runB lessP none l = runB lessP (if k = 0 then none else l[k-1]?) (l.drop k)) (fun i _ => l.length - (intOf i).toNat)
  case atStart => exact ⟨Below.refl _ _, 0, by omega, rfl, rfl⟩
  case round =>
    obtain ⟨hbw, k, hk, rfl, hrel⟩ := hrel
    have HR := Lib.hid hrel
    clear hrel
    have hsz := hbw.size
    by_cases h1 : k < l.length
    · obtain ⟨⟨x0, x1⟩, ex⟩ := getElem?_of_lt l h1
      obtain ⟨b, off, rfl, hB, hc⟩ := hl (ne_nil_of_lt h1)
      obtain ⟨hc0, hc1⟩ := hc k (x0, x1) ex
      replace hc0 := (hbw.cell (p := ⟨b, _, none⟩) hB).trans hc0
      replace hc1 := (hbw.cell (p := ⟨b, _, none⟩) hB).trans hc1
      have hB' : b < wr.heap.size := by omega
      simp only at hc0 hc1
      have hd := drop_of_get ex
      rw [hd, runB_cons] at HR
      have HX := Lib.hid ex
      have hk0 : (0 : Int) ≤ (k : Int) := by omega
      have hk1 : (k : Int) < (l.length : Int) := by omega
      clear ex
      by_cases hp : isPairB (x0, x1) = true
      · rcases Nat.eq_zero_or_pos k with h0 | h0
        · have g1 : decide ((0 : Int) < (k : Int)) = false := decide_eq_false (by omega)
          have g2 : decide (0 < k) = false := decide_eq_false (by omega)
          have H0 := Lib.hid h0
          clear h0
          go_wp2_with fail
          refine wp_region_ext (by kernel_rfl) (by kernel_rfl) ?_
          repeat (first | go_big_quiet_skip | (go_big_quiet_want; go_big_quiet_op; first | go_big_quiet_on | (apply Exists.intro; refine ⟨fun _ => ?_, ?_⟩; (first | (go_at_call 76; exact calls_wext (rIsPair_any _ _ _))); go_big_quiet_on)))
          refine wpQuiet_nil ?_
          intro _ hw'
          obtain ⟨x, hw''⟩ := hw'
          subst hw''
          go_wp2_with fail
          go_round
          case rel => exact ⟨below_wext hbw hsz x, k + 1, by omega, by go_num, by rw [HR.out, hp, if_pos H0.out, if_neg (by omega), Nat.add_sub_cancel, HX.out]; rfl⟩
          case measure => simp [intOf]; omega
        · obtain ⟨j, rfl⟩ : ∃ j, k = j + 1 := ⟨k - 1, by omega⟩
          obtain ⟨⟨y0, y1⟩, ey⟩ := getElem?_of_lt l (show j < l.length by omega)
          obtain ⟨hd0, hd1⟩ := hc j (y0, y1) ey
          replace hd0 := (hbw.cell (p := ⟨b, _, none⟩) hB).trans hd0
          replace hd1 := (hbw.cell (p := ⟨b, _, none⟩) hB).trans hd1
          simp only at hd0 hd1
          have HY := Lib.hid ey
          clear ey hd hc
          by_cases hq : lessP (y0, y1) (x0, x1) = true
          · go_wp2_with fail
            refine wp_region_ext (by kernel_rfl) (by kernel_rfl) ?_
            repeat (first | go_big_quiet_skip | (go_big_quiet_want; go_big_quiet_op; first | go_big_quiet_on | (apply Exists.intro; refine ⟨fun _ => ?_, ?_⟩; (first | (go_at_call 76; exact calls_wext (rIsPair_any _ _ _)) | (go_at_call 69; exact calls_wext (less_any _ _ _ _ _))); go_big_quiet_on)))
            refine wpQuiet_nil ?_
            intro _ hw'
            obtain ⟨x, hw''⟩ := hw'
            subst hw''
            go_wp2_with fail
            go_round
            case rel => exact ⟨below_wext hbw hsz x, j + 1 + 1, by omega, by go_num, by rw [HR.out, hp, if_neg (by omega), if_neg (by omega), Nat.add_sub_cancel, Nat.add_sub_cancel, HX.out, HY.out]; simp [hq]⟩
            case measure => simp [intOf]; omega
          · have hq' : lessP (y0, y1) (x0, x1) = false := by simpa using hq
            go_wp2_with fail
            refine wp_region_ext (by kernel_rfl) (by kernel_rfl) ?_
            repeat (first | go_big_quiet_skip | (go_big_quiet_want; go_big_quiet_op; first | go_big_quiet_on | (apply Exists.intro; refine ⟨fun _ => ?_, ?_⟩; (first | (go_at_call 76; exact calls_wext (rIsPair_any _ _ _)) | (go_at_call 69; exact calls_wext (less_any _ _ _ _ _))); go_big_quiet_on)))
            refine wpQuiet_nil ?_
            intro _ hw'
            obtain ⟨x, hw''⟩ := hw'
            subst hw''
            go_wp2_with fail
            go_ret
            exact Ret.mk (by rw [HR.out, if_neg (by omega), Nat.add_sub_cancel, HY.out]; simp [hq']) (below_wext hbw hsz x)
      · have hp' : isPairB (x0, x1) = false := by simpa using hp
        go_wp2_with fail
        refine wp_region_ext (by kernel_rfl) (by kernel_rfl) ?_
        repeat (first | go_big_quiet_skip | (go_big_quiet_want; go_big_quiet_op; first | go_big_quiet_on | (apply Exists.intro; refine ⟨fun _ => ?_, ?_⟩; (first | (go_at_call 76; exact calls_wext (rIsPair_any _ _ _))); go_big_quiet_on)))
        refine wpQuiet_nil ?_
        intro _ hw'
        obtain ⟨x, hw''⟩ := hw'
        subst hw''
        go_wp2_with fail
        go_ret
        exact Ret.mk (by rw [HR.out, hp']; simp) (below_wext hbw hsz x)
    · have hd := drop_all h1
      go_wp2_with fail
      go_ret
      exact Ret.mk (by rw [HR.out, hd]; rfl) hbw

end Go.Proofs.Ytkplmgdmkfgjhaa
