/- Leaves. -/
import Derived.Test.YtkplmgdmkfgjhaaWds
namespace Go.Proofs.Ytkplmgdmkfgjhaa
open Go.RowKit

set_option maxHeartbeats 400000 in
theorem isNaN_int (a : Int) (w : World) :
    Calls Try.prog 115 #[.int .i64 a] w fun e w' => e = .returned (.bool false) ∧ w = w' := by
  go_enter Try.func115, Try.ntmps115
  go_wp2
  go_ret
  simp

def cmpI (a b : Int) : Int := if a < b then -1 else if b < a then 1 else 0

set_option maxHeartbeats 400000 in
theorem cmp_int (a b : Int) (w : World) :
    Calls Try.prog 103 #[.int .i64 a, .int .i64 b] w fun e w' => e = .returned (.int .i64 (cmpI a b)) ∧ w = w' := by
  unfold cmpI
  go_enter Try.func103, Try.ntmps103
  go_wp2_with (go_at_call 115; refine (isNaN_int _ _).mono ?_; rintro e w' ⟨rfl, rfl⟩)
  · go_ret
    simp [*]
  · go_ret
    simp [*]
  · go_ret
    simp [*]

def lessP (a b : Int × Int) : Bool := decide (a.1 < b.1) || (decide (a.1 = b.1) && decide (a.2 < b.2))

set_option maxHeartbeats 400000 in
theorem less_any (a0 a1 b0 b1 : Int) (w : World) :
    Calls Try.prog 69 #[.agg #[.int .i64 a0, .int .i64 a1], .agg #[.int .i64 b0, .int .i64 b1]] w (Ret (.bool (lessP (a0, a1) (b0, b1))) w) := by
  go_enter Try.func69, Try.ntmps69
  go_wp2
  all_goals
    go_ret
    refine Ret.mk ?_ (by (repeat (first | exact Below.refl _ _ | assumption | (refine Below.drew ?_) | (refine below_drewN ?_ _) | (refine below_wext ?_ (by first | omega | (simp <;> omega)) _) | (refine Below.alloc ?_ (by first | omega | (simp <;> omega)) _) | (refine Below.setCell ?_ (by first | omega | (simp <;> omega)) _))))
    simp [lessP, *]
  all_goals omega

def isPairB (p : Int × Int) : Bool := decide (0 ≤ p.1) && decide (p.1 ≤ 2147483647) && decide (0 ≤ p.2) && decide (p.2 ≤ 2147483647)

set_option maxHeartbeats 400000 in
theorem rIsPair_any (a0 a1 : Int) (w : World) :
    Calls Try.prog 76 #[.agg #[.int .i64 a0, .int .i64 a1]] w (Ret (.bool (isPairB (a0, a1))) w) := by
  go_enter Try.func76, Try.ntmps76
  go_wp2
  all_goals
    go_ret
    refine Ret.mk ?_ (by (repeat (first | exact Below.refl _ _ | assumption | (refine Below.drew ?_) | (refine below_drewN ?_ _) | (refine below_wext ?_ (by first | omega | (simp <;> omega)) _) | (refine Below.alloc ?_ (by first | omega | (simp <;> omega)) _) | (refine Below.setCell ?_ (by first | omega | (simp <;> omega)) _))))
    simp [isPairB, *]
  all_goals omega

set_option maxHeartbeats 400000 in
theorem fIsPair_any (a0 a1 : Int) (w : World) :
    Calls Try.prog 62 #[.agg #[.int .i64 a0, .int .i64 a1]] w (Ret (.bool (isPairB (a0, a1))) w) := by
  go_enter Try.func62, Try.ntmps62
  go_wp2
  all_goals
    go_ret
    refine Ret.mk ?_ (by (repeat (first | exact Below.refl _ _ | assumption | (refine Below.drew ?_) | (refine below_drewN ?_ _) | (refine below_wext ?_ (by first | omega | (simp <;> omega)) _) | (refine Below.alloc ?_ (by first | omega | (simp <;> omega)) _) | (refine Below.setCell ?_ (by first | omega | (simp <;> omega)) _))))
    simp [isPairB, *]
  all_goals omega

end Go.Proofs.Ytkplmgdmkfgjhaa
