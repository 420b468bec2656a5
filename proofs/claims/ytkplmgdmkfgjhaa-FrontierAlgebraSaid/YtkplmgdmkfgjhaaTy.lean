/- Types and their cells, by program. -/
import Derived.Test.YtkplmgdmkfgjhaaCm
import Derived.Test.YtkplmgdmkfgjhaaM
namespace Go.Proofs.Ytkplmgdmkfgjhaa
open Go.RowKit
abbrev c_A2_int (x : Int × Int) : List AV := [.exact (.int .i64 x.1), .exact (.int .i64 x.2)]
theorem len_c_A2_int (x : Int × Int) : (c_A2_int x).length = 2 := rfl
theorem oc_c_A2_int (x : Int × Int) : OneC (c_A2_int x) := (OneC.int (OneC.int OneC.nil))
abbrev c_uint8 (x : UInt8) : List AV := [.exact (.int .u8 (UInt8.toNat x : Int))]
theorem len_c_uint8 (x : UInt8) : (c_uint8 x).length = 1 := rfl
theorem oc_c_uint8 (x : UInt8) : OneC (c_uint8 x) := (OneC.int OneC.nil)
abbrev c_int (x : Int) : List AV := [.exact (.int .i64 x)]
theorem len_c_int (x : Int) : (c_int x).length = 1 := rfl
theorem oc_c_int (x : Int) : OneC (c_int x) := (OneC.int OneC.nil)
abbrev c_cspcheckgen2_Tape (x : (List Int) × Int) : List AV := [.row 1 c_int x.1, .exact (.int .i64 x.2)]
theorem len_c_cspcheckgen2_Tape (x : (List Int) × Int) : (c_cspcheckgen2_Tape x).length = 2 := rfl
theorem oc_c_cspcheckgen2_Tape (x : (List Int) × Int) : OneC (c_cspcheckgen2_Tape x) := (OneC.row (OneC.int OneC.nil))
abbrev c_L_A2_int (x : List (Int × Int)) : List AV := [.row 2 c_A2_int x]
theorem len_c_L_A2_int (x : List (Int × Int)) : (c_L_A2_int x).length = 1 := rfl
theorem oc_c_L_A2_int (x : List (Int × Int)) : OneC (c_L_A2_int x) := (OneC.row OneC.nil)
theorem heq_c_A2_int (x0 x1 y0 y1 : Int) (w : World) : (Op.equal 29 (.agg #[.int .i64 x0, .int .i64 x1]) (.agg #[.int .i64 y0, .int .i64 y1])).run Try.prog w = .ok (decide (x0 = y0 ∧ x1 = y1)) w := by
  have hs : (sizeOf 3).run Try.prog w = .ok 1 w := by kernel_rfl
  have e : ∀ a b : Int, (Op.equalIn 9999 3 (.int .i64 a) (.int .i64 b)).run Try.prog w = .ok (a == b) w := fun a b => run_equalIn_int w 9998 3 .i64 .i64 a b Try.underlying3
  rw [Op.equal, Op.maxDepth, show (10000 : Nat) = 9999 + 1 from rfl]
  rw [show Op.equalIn (9999 + 1) 29 (.agg #[.int .i64 x0, .int .i64 x1]) (.agg #[.int .i64 y0, .int .i64 y1]) = _ from by rw [Op.equalIn]]
  simp only [Sem.run_bind, run_underlying Try.underlying29, Result.andThen_ok, hs]
  have p0 : ∀ (a b : Int) (w : World), (part 3 #[.int .i64 a, .int .i64 b] 0).run Try.prog w = .ok (.int .i64 a) w := fun a b w => run_part1 (by kernel_rfl) rfl
  have p1 : ∀ (a b : Int) (w : World), (part 3 #[.int .i64 a, .int .i64 b] 1).run Try.prog w = .ok (.int .i64 b) w := fun a b w => run_part1 (by kernel_rfl) rfl
  simp [List.range', p0, p1, e]
  by_cases h1 : x0 = y0 <;> by_cases h2 : x1 = y1 <;> simp [h1, h2]
theorem eq_c_A2_int (a b : Int × Int) {M : BSet} {w : World} {vs us : List Value} (h1 : Fit M w (c_A2_int a) vs) (h2 : Fit M w (c_A2_int b) us) : (Op.equal 29 (.agg vs.toArray) (.agg us.toArray)).run Try.prog w = .ok (decide (a = b)) w := eq_pair heq_c_A2_int a b h1 h2
end Go.Proofs.Ytkplmgdmkfgjhaa
