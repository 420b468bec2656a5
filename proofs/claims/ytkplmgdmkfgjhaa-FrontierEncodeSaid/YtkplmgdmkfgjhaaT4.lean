/- frontier.isRun, isBlock. -/
import Derived.Test.YtkplmgdmkfgjhaaT3
namespace Go.Proofs.Ytkplmgdmkfgjhaa
open Go.RowKit

theorem cmpP_lt (a b : Int × Int) : (0 ≤ cmpP a b) ↔ lessP a b = false := by
  unfold cmpP lessP
  simp only [cmpL, cmpI]
  by_cases h1 : a.1 < b.1
  · simp [h1]
  · by_cases h2 : b.1 < a.1
    · have h3 : ¬ a.1 = b.1 := by omega
      simp [h1, h2, h3]
    · have h3 : a.1 = b.1 := by omega
      by_cases h4 : a.2 < b.2
      · simp [h3, h4]
      · by_cases h5 : b.2 < a.2 <;> simp [h3, h4, h5]

set_option maxHeartbeats 400000 in
theorem fIsRun_any (A : Option Addr) (c : Nat) (l : List (Int × Int)) (w : World) (hl : PairsAt w w.heap.size A l) (hn : l.length ≤ 4611686018427387904) :
    Calls Try.prog 48 #[.slice A l.length c] w (Ret (.bool (runB lessP none l)) w) := by
  go_enter Try.func48, Try.ntmps48
  go_wp2
  go_loopw [7] (fun i wr => Below w.heap.size w wr ∧ ∃ k : Nat, k ≤ l.length ∧ i = .int .i64 k ∧ runB lessP none l = runB lessP (if k = 0 then none else l[k-1]?) (l.drop k)) (fun i _ => l.length - (intOf i).toNat)
  case atStart => exact ⟨Below.refl _ _, 0, by omega, rfl, rfl⟩
  case round =>
    obtain ⟨hbw, k, hk, rfl, hrel⟩ := hrel
    have HR := Lib.hid hrel
    clear hrel
    have hsz := hbw.size
    by_cases h1 : k < l.length
    · obtain ⟨⟨x0, x1⟩, ex⟩ := getElem?_of_lt l h1
      obtain ⟨b, off, rfl, hB, hc⟩ := hl (ne_nil_of_lt h1)
      obtain ⟨hc0, hc1⟩ := hc k (x0, x1) ex
      replace hc0 := (hbw.cell (p := ⟨b, _, none⟩) hB).trans hc0
      replace hc1 := (hbw.cell (p := ⟨b, _, none⟩) hB).trans hc1
      have hB' : b < wr.heap.size := by omega
      have hB2 : b < wr.heap.size + 1 := by omega
      simp only at hc0 hc1
      have hd := drop_of_get ex
      rw [hd, runB_cons] at HR
      have HX := Lib.hid ex
      have hk0 : (0 : Int) ≤ (k : Int) := by omega
      have hk1 : (k : Int) < (l.length : Int) := by omega
      clear ex
      by_cases hp : isPairB (x0, x1) = true
      · rcases Nat.eq_zero_or_pos k with h0 | h0
        · have g1 : decide ((0 : Int) < (k : Int)) = false := decide_eq_false (by omega)
          have g2 : decide (0 < k) = false := decide_eq_false (by omega)
          have H0 := Lib.hid h0
          clear h0
          go_wp2_with fail
          refine wp_region_ext (by kernel_rfl) (by kernel_rfl) ?_
          repeat (first | go_big_quiet_skip | (go_big_quiet_want; go_big_quiet_op; first | go_big_quiet_on | (apply Exists.intro; refine ⟨fun _ => ?_, ?_⟩; (first | (go_at_call 62; exact calls_wext (fIsPair_any _ _ _))); go_big_quiet_on)))
          refine wpQuiet_nil ?_
          intro _ hw'
          obtain ⟨x, hw''⟩ := hw'
          subst hw''
          go_wp2_with fail
          go_round
          case rel => exact ⟨by (repeat (first | exact Below.refl _ _ | assumption | (refine Below.drew ?_) | (refine below_drewN ?_ _) | (refine below_wext ?_ (by first | omega | (simp <;> omega)) _) | (refine Below.alloc ?_ (by first | omega | (simp <;> omega)) _) | (refine Below.setCell ?_ (by first | omega | (simp <;> omega)) _))), k + 1, by omega, by go_num, by rw [HR.out, hp, if_pos H0.out, if_neg (by omega), Nat.add_sub_cancel, HX.out]; rfl⟩
          case measure => simp [intOf]; omega
        · obtain ⟨j, rfl⟩ : ∃ j, k = j + 1 := ⟨k - 1, by omega⟩
          obtain ⟨⟨y0, y1⟩, ey⟩ := getElem?_of_lt l (show j < l.length by omega)
          obtain ⟨hd0, hd1⟩ := hc j (y0, y1) ey
          replace hd0 := (hbw.cell (p := ⟨b, _, none⟩) hB).trans hd0
          replace hd1 := (hbw.cell (p := ⟨b, _, none⟩) hB).trans hd1
          simp only at hd0 hd1
          have HY := Lib.hid ey
          clear ey hd hc
          by_cases hq : lessP (y0, y1) (x0, x1) = true
          · have g : decide (0 ≤ cmpP (y0, y1) (x0, x1)) = false := decide_eq_false (fun h => by rw [cmpP_lt] at h; rw [h] at hq; cases hq)
            go_wp2_with fail
            refine wp_region_ext (by kernel_rfl) (by kernel_rfl) ?_
            repeat (first | go_big_quiet_skip | (go_big_quiet_want; go_big_quiet_op; first | go_big_quiet_on | (apply Exists.intro; refine ⟨fun _ => ?_, ?_⟩; (first | (go_at_call 62; exact calls_wext (fIsPair_any _ _ _)) | (go_at_call 61; exact calls_wext (fCompare_any _ _ _ _ _))); go_big_quiet_on)))
            refine wpQuiet_nil ?_
            intro _ hw'
            obtain ⟨x, hw''⟩ := hw'
            subst hw''
            go_wp2_with fail
            go_round
            case rel => exact ⟨by (repeat (first | exact Below.refl _ _ | assumption | (refine Below.drew ?_) | (refine below_drewN ?_ _) | (refine below_wext ?_ (by first | omega | (simp <;> omega)) _) | (refine Below.alloc ?_ (by first | omega | (simp <;> omega)) _) | (refine Below.setCell ?_ (by first | omega | (simp <;> omega)) _))), j + 1 + 1, by omega, by go_num, by rw [HR.out, hp, if_neg (by omega), if_neg (by omega), Nat.add_sub_cancel, Nat.add_sub_cancel, HX.out, HY.out]; simp [hq]⟩
            case measure => simp [intOf]; omega
          · have hq' : lessP (y0, y1) (x0, x1) = false := by simpa using hq
            have g : decide (0 ≤ cmpP (y0, y1) (x0, x1)) = true := decide_eq_true ((cmpP_lt _ _).2 hq')
            go_wp2_with fail
            refine wp_region_ext (by kernel_rfl) (by kernel_rfl) ?_
            repeat (first | go_big_quiet_skip | (go_big_quiet_want; go_big_quiet_op; first | go_big_quiet_on | (apply Exists.intro; refine ⟨fun _ => ?_, ?_⟩; (first | (go_at_call 62; exact calls_wext (fIsPair_any _ _ _)) | (go_at_call 61; exact calls_wext (fCompare_any _ _ _ _ _))); go_big_quiet_on)))
            refine wpQuiet_nil ?_
            intro _ hw'
            obtain ⟨x, hw''⟩ := hw'
            subst hw''
            go_wp2_with fail
            go_ret
            exact Ret.mk (by rw [HR.out, if_neg (by omega), Nat.add_sub_cancel, HY.out]; simp [hq']) (by (repeat (first | exact Below.refl _ _ | assumption | (refine Below.drew ?_) | (refine below_drewN ?_ _) | (refine below_wext ?_ (by first | omega | (simp <;> omega)) _) | (refine Below.alloc ?_ (by first | omega | (simp <;> omega)) _) | (refine Below.setCell ?_ (by first | omega | (simp <;> omega)) _))))
      · have hp' : isPairB (x0, x1) = false := by simpa using hp
        go_wp2_with fail
        refine wp_region_ext (by kernel_rfl) (by kernel_rfl) ?_
        repeat (first | go_big_quiet_skip | (go_big_quiet_want; go_big_quiet_op; first | go_big_quiet_on | (apply Exists.intro; refine ⟨fun _ => ?_, ?_⟩; (first | (go_at_call 62; exact calls_wext (fIsPair_any _ _ _))); go_big_quiet_on)))
        refine wpQuiet_nil ?_
        intro _ hw'
        obtain ⟨x, hw''⟩ := hw'
        subst hw''
        go_wp2_with fail
        go_ret
        exact Ret.mk (by rw [HR.out, hp']; simp) (by (repeat (first | exact Below.refl _ _ | assumption | (refine Below.drew ?_) | (refine below_drewN ?_ _) | (refine below_wext ?_ (by first | omega | (simp <;> omega)) _) | (refine Below.alloc ?_ (by first | omega | (simp <;> omega)) _) | (refine Below.setCell ?_ (by first | omega | (simp <;> omega)) _))))
    · have hd := drop_all h1
      go_wp2_with fail
      go_ret
      exact Ret.mk (by rw [HR.out, hd]; rfl) hbw

end Go.Proofs.Ytkplmgdmkfgjhaa
