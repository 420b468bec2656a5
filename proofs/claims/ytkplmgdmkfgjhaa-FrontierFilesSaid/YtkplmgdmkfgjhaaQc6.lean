/- Types and their cells, by program. -/
import Derived.Test.YtkplmgdmkfgjhaaQc5
import Derived.Test.YtkplmgdmkfgjhaaQc1
import Derived.Test.YtkplmgdmkfgjhaaQc4
import Derived.Test.YtkplmgdmkfgjhaaQc0
namespace Go.Proofs.Ytkplmgdmkfgjhaa
open Go.RowKit
abbrev c_A2_int (x : Int × Int) : List AV := [.exact (.int .i64 x.1), .exact (.int .i64 x.2)]
theorem len_c_A2_int (x : Int × Int) : (c_A2_int x).length = 2 := rfl
theorem oc_c_A2_int (x : Int × Int) : OneC (c_A2_int x) := (OneC.int (OneC.int OneC.nil))
abbrev c_uint8 (x : UInt8) : List AV := [.exact (.int .u8 (UInt8.toNat x : Int))]
theorem len_c_uint8 (x : UInt8) : (c_uint8 x).length = 1 := rfl
theorem oc_c_uint8 (x : UInt8) : OneC (c_uint8 x) := (OneC.int OneC.nil)
abbrev c_int (x : Int) : List AV := [.exact (.int .i64 x)]
theorem len_c_int (x : Int) : (c_int x).length = 1 := rfl
abbrev c_cspcheckgen2_Tape (x : (List Int) × Int) : List AV := [.row 1 c_int x.1, .exact (.int .i64 x.2)]
abbrev c_cspcheckref35_File (x : (List UInt8) × Int) : List AV := [.row 1 c_uint8 x.1, .exact (.int .i64 x.2)]
theorem len_c_cspcheckref35_File (x : (List UInt8) × Int) : (c_cspcheckref35_File x).length = 2 := rfl
theorem oc_c_cspcheckref35_File (x : (List UInt8) × Int) : OneC (c_cspcheckref35_File x) := (OneC.row (OneC.int OneC.nil))
abbrev c_cspcheckref35_Name (x : (List UInt8) × Int) : List AV := [.exact (.string (bs x.1)), .exact (.int .i64 x.2)]
theorem len_c_cspcheckref35_Name (x : (List UInt8) × Int) : (c_cspcheckref35_Name x).length = 2 := rfl
theorem oc_c_cspcheckref35_Name (x : (List UInt8) × Int) : OneC (c_cspcheckref35_Name x) := (OneC.str (OneC.int OneC.nil))
abbrev c_cspcheckref35_Op (x : Int × (List UInt8) × (List UInt8) × Int) : List AV := [.exact (.int .i64 x.1), .exact (.string (bs x.2.1)), .exact (.string (bs x.2.2.1)), .exact (.int .i64 x.2.2.2)]
theorem len_c_cspcheckref35_Op (x : Int × (List UInt8) × (List UInt8) × Int) : (c_cspcheckref35_Op x).length = 4 := rfl
theorem oc_c_cspcheckref35_Op (x : Int × (List UInt8) × (List UInt8) × Int) : OneC (c_cspcheckref35_Op x) := (OneC.int (OneC.str (OneC.str (OneC.int OneC.nil))))
abbrev c_cspcheckref35_Disk (x : Int × (List ((List UInt8) × Int)) × (List ((List UInt8) × Int)) × (List ((List UInt8) × Int)) × (List (Int × (List UInt8) × (List UInt8) × Int)) × Int × Bool × Int) : List AV := [.exact (.int .i64 x.1), .row 2 c_cspcheckref35_File x.2.1, .row 2 c_cspcheckref35_Name x.2.2.1, .row 2 c_cspcheckref35_Name x.2.2.2.1, .row 4 c_cspcheckref35_Op x.2.2.2.2.1, .exact (.int .i64 x.2.2.2.2.2.1), .exact (.bool x.2.2.2.2.2.2.1), .exact (.int .i64 x.2.2.2.2.2.2.2)]
theorem heq_c_A2_int (x0 x1 y0 y1 : Int) (w : World) : (Op.equal 29 (.agg #[.int .i64 x0, .int .i64 x1]) (.agg #[.int .i64 y0, .int .i64 y1])).run Try.prog w = .ok (decide (x0 = y0 ∧ x1 = y1)) w := by
  have hs : (sizeOf 3).run Try.prog w = .ok 1 w := by kernel_rfl
  have e : ∀ a b : Int, (Op.equalIn 9999 3 (.int .i64 a) (.int .i64 b)).run Try.prog w = .ok (a == b) w := fun a b => run_equalIn_int w 9998 3 .i64 .i64 a b Try.underlying3
  rw [Op.equal, Op.maxDepth, show (10000 : Nat) = 9999 + 1 from rfl]
  rw [show Op.equalIn (9999 + 1) 29 (.agg #[.int .i64 x0, .int .i64 x1]) (.agg #[.int .i64 y0, .int .i64 y1]) = _ from by rw [Op.equalIn]]
  simp only [Sem.run_bind, run_underlying Try.underlying29, Result.andThen_ok, hs]
  have p0 : ∀ (a b : Int) (w : World), (part 3 #[.int .i64 a, .int .i64 b] 0).run Try.prog w = .ok (.int .i64 a) w := fun a b w => run_part1 (by kernel_rfl) rfl
  have p1 : ∀ (a b : Int) (w : World), (part 3 #[.int .i64 a, .int .i64 b] 1).run Try.prog w = .ok (.int .i64 b) w := fun a b w => run_part1 (by kernel_rfl) rfl
  simp [List.range', p0, p1, e]
  by_cases h1 : x0 = y0 <;> by_cases h2 : x1 = y1 <;> simp [h1, h2]
theorem eq_c_A2_int (a b : Int × Int) {M : BSet} {w : World} {vs us : List Value} (h1 : Fit M w (c_A2_int a) vs) (h2 : Fit M w (c_A2_int b) us) : (Op.equal 29 (.agg vs.toArray) (.agg us.toArray)).run Try.prog w = .ok (decide (a = b)) w := eq_pair heq_c_A2_int a b h1 h2
end Go.Proofs.Ytkplmgdmkfgjhaa
/- slices.SortFunc at pairs under compare: the contract, by the shelf's. -/
namespace Go.Proofs.Ytkplmgdmkfgjhaa
open Go.RowKit Go.Sort

end Go.Proofs.Ytkplmgdmkfgjhaa
/- The functions compute their models, by program. -/
namespace Go.Proofs.Ytkplmgdmkfgjhaa
open Go.RowKit
attribute [local irreducible] AV.exact AV.top AV.row AV.ptr AV.agg AV.tup AV.eptr AV.fn AV.nilq AV.nilqn opA opB opM opR Quiet Loud Reads wpG awp den Sub SubU Pure Fun vecI vecT boxI CellsAll CellsOf OneC LEs LEss
set_option maxRecDepth 100000

set_option maxHeartbeats 4000000 in
theorem m_ref35_Less_ok (a0 : Int × Int) (a1 : Int × Int) (r : Bool) (h : m_ref35_Less a0 a1 = some r) : Pure Try.prog 69 [(.agg (c_A2_int a0)), (.agg (c_A2_int a1))] (.exact (.bool r)) := by
  unfold m_ref35_Less at h
  refine Pure.ofFun (fun_of_awp Try.func69 rfl Try.ntmps69 (by simp) rfl (res1 rfl) fun E hE => k_end ?_)
  refine k_seq ?_
  refine k_reg .free hmixP (by kernel_rfl) ?_
  refine G_q rfl (op_box (c := c_A2_int a0) rfl CellsOf.agg ?_)
  refine G_q rfl (op_box (c := c_A2_int a1) rfl CellsOf.agg ?_)
  refine G_q rfl (op_assign (av := .exact (.bool false)) rfl ?_)
  refine G_nil ?_
  refine kC_normal ?_
  refine k_join1_0 h (fun (x4_j1 : Bool) => (AF.put AF0 (some 4) (.exact (.bool x4_j1)))) (fun (x4_j1 : Bool) => []) (fun k1 h => ?_) (fun x4_j1 h => ?_)
  · refine k_reg .free hmixP (by kernel_rfl) ?_
    refine G_q rfl (op_indexArr_ptr (m := 2) (n := 1) (c' := (List.drop 0 (c_A2_int a0))) (by kernel_rfl) rfl rfl (by decide) (by decide) rfl ?_)
    refine G_q rfl (op_load1p (a := .exact (.int .i64 a0.1)) (by kernel_rfl) rfl rfl ?_)
    refine G_q rfl (op_indexArr_ptr (m := 2) (n := 1) (c' := (List.drop 0 (c_A2_int a1))) (by kernel_rfl) rfl rfl (by decide) (by decide) rfl ?_)
    refine G_q rfl (op_load1p (a := .exact (.int .i64 a1.1)) (by kernel_rfl) rfl rfl ?_)
    refine G_q rfl (op_lss rfl rfl ?_)
    refine G_q rfl (op_move (av := .exact (.bool (decide (a0.1 < a1.1)))) rfl ?_)
    refine G_split (p := a0.1 < a1.1) 10 rfl (fun hc => ?_) (fun hc => ?_)
    · replace h := ite_t h hc
      refine G_n rfl rfl ?_
      refine G_n rfl rfl ?_
      refine G_n rfl rfl ?_
      refine G_n rfl rfl ?_
      refine G_n rfl rfl ?_
      refine G_n rfl rfl ?_
      refine G_u rfl rfl ?_
      refine G_u rfl rfl ?_
      refine G_u rfl rfl ?_
      refine G_u rfl rfl ?_
      refine G_u rfl rfl ?_
      refine G_n rfl rfl ?_
      refine G_q rfl (op_pick_t rfl (av := .exact (.bool true)) rfl ?_)
      refine G_q rfl (op_assign (av := .exact (.bool true)) rfl ?_)
      refine G_nil ?_
      refine kI_normal ⟨_, h, ?_⟩
      exact Sub.of_le (AF.le_put (AV.le_eq rfl) (AF.le_top _))
    · replace h := ite_f h hc
      refine Gy_q rfl rfl rfl (op_indexArr_ptr (m := 2) (n := 1) (c' := (List.drop 0 (c_A2_int a0))) (by kernel_rfl) rfl rfl (by decide) (by decide) rfl ?_)
      refine Gy_q rfl rfl rfl (op_load1p (a := .exact (.int .i64 a0.1)) (by kernel_rfl) rfl rfl ?_)
      refine Gy_q rfl rfl rfl (op_indexArr_ptr (m := 2) (n := 1) (c' := (List.drop 0 (c_A2_int a1))) (by kernel_rfl) rfl rfl (by decide) (by decide) rfl ?_)
      refine Gy_q rfl rfl rfl (op_load1p (a := .exact (.int .i64 a1.1)) (by kernel_rfl) rfl rfl ?_)
      refine Gy_q rfl rfl rfl (op_eql rfl rfl ?_)
      refine Gy_q rfl rfl rfl (op_move (av := .exact (.bool (decide (a0.1 = a1.1)))) rfl ?_)
      refine G_split (p := a0.1 = a1.1) 16 rfl (fun hc => ?_) (fun hc => ?_)
      · replace h := ite_t h hc
        refine Gy_q rfl rfl rfl (op_indexArr_ptr (m := 2) (n := 1) (c' := (List.drop 1 (c_A2_int a0))) (by kernel_rfl) rfl rfl (by decide) (by decide) rfl ?_)
        refine Gy_q rfl rfl rfl (op_load1p (a := .exact (.int .i64 a0.2)) (by kernel_rfl) rfl rfl ?_)
        refine Gy_q rfl rfl rfl (op_indexArr_ptr (m := 2) (n := 1) (c' := (List.drop 1 (c_A2_int a1))) (by kernel_rfl) rfl rfl (by decide) (by decide) rfl ?_)
        refine Gy_q rfl rfl rfl (op_load1p (a := .exact (.int .i64 a1.2)) (by kernel_rfl) rfl rfl ?_)
        refine Gy_q rfl rfl rfl (op_lss rfl rfl ?_)
        refine Gy_q rfl rfl rfl (op_pick_t rfl (av := .exact (.bool (decide (a0.2 < a1.2)))) rfl ?_)
        refine G_q rfl (op_pick_f rfl (av := .exact (.bool (decide (a0.2 < a1.2)))) rfl ?_)
        refine G_q rfl (op_assign (av := .exact (.bool (decide (a0.2 < a1.2)))) rfl ?_)
        refine G_nil ?_
        refine kI_normal ⟨_, h, ?_⟩
        exact Sub.of_le (AF.le_put (AV.le_eq rfl) (AF.le_top _))
      · replace h := ite_f h hc
        refine G_n rfl rfl ?_
        refine G_n rfl rfl ?_
        refine G_n rfl rfl ?_
        refine G_n rfl rfl ?_
        refine G_n rfl rfl ?_
        refine Gy_q rfl rfl rfl (op_pick_f rfl (av := .exact (.bool false)) rfl ?_)
        refine G_q rfl (op_pick_f rfl (av := .exact (.bool false)) rfl ?_)
        refine G_q rfl (op_assign (av := .exact (.bool false)) rfl ?_)
        refine G_nil ?_
        refine kI_normal ⟨_, h, ?_⟩
        exact Sub.of_le (AF.le_put (AV.le_eq rfl) (AF.le_top _))
  · refine k_ret ?_
    obtain rfl := Option.some.inj h
    refine kP_any (endN (af' := (AF.put AF0 (some 4) (.exact (.bool x4_j1)))) (σ' := []) _ rfl ?_ ⟨rfl, rfl⟩)
    exact Sub.of_le (AF.le_put (AV.le_eq rfl) (AF.le_top _))
set_option maxHeartbeats 4000000 in
theorem m_ref35_Add_ok (a0 : List (Int × Int)) (a1 : Int × Int) (r : (List (Int × Int))) (h : m_ref35_Add a0 a1 = some r) : Pure Try.prog 78 [(.row 2 c_A2_int a0), (.agg (c_A2_int a1))] (.row 2 c_A2_int r) := by
  unfold m_ref35_Add at h
  refine Pure.ofFun (fun_of_awp Try.func78 rfl Try.ntmps78 (by simp) rfl (res1 rfl) fun E hE => k_end ?_)
  refine k_seq ?_
  refine k_reg .free hmixP (by kernel_rfl) ?_
  refine G_q rfl (op_box (c := c_A2_int a1) rfl CellsOf.agg ?_)
  refine G_q rfl (op_assign (av := .exact (.slice none 0 0)) rfl ?_)
  refine G_nil ?_
  refine kC_normal ?_
  refine k_seq ?_
  refine k_reg .free hmixP (by kernel_rfl) ?_
  refine G_q rfl (op_assign (av := .exact (.int .i64 0)) rfl ?_)
  refine G_nil ?_
  refine kC_normal ?_
  refine k_join1_0 h (fun (x5_j1 : Int) => (AF.put (AF.put (AF.put AF0 (some 0) (.row 2 c_A2_int a0)) (some 3) (.ptr (c_A2_int a1))) (some 5) (.exact (.int .i64 x5_j1)))) (fun (x5_j1 : Int) => []) (fun k1 h => ?_) (fun x5_j1 h => ?_)
  · refine k_block ?_
    refine k_loop1_0 (m_ref35_Add_L2 a0 a1 k1) (m_ref35_Add_B2 a0 a1 k1) (fun _ => rfl) (fun m _ => rfl) h (fun (x5_l2 : Int) => (AF.put (AF.put (AF.put AF0 (some 0) (.row 2 c_A2_int a0)) (some 3) (.ptr (c_A2_int a1))) (some 5) (.exact (.int .i64 x5_l2)))) (fun (x5_l2 : Int) => []) ?_ (fun rec2 x5_l2 h => ?_)
    · exact Sub.of_le (AF.le_put (AV.le_eq rfl) (AF.le_put (AV.le_eq rfl) (AF.le_put (AV.le_eq rfl) (AF.le_top _))))
    · unfold m_ref35_Add_B2 at h
      refine k_seq ?_
      refine k_join1_0 h (fun (x18_j64 : Bool) => (AF.put (AF.put (AF.put (AF.put AF0 (some 0) (.row 2 c_A2_int a0)) (some 3) (.ptr (c_A2_int a1))) (some 5) (.exact (.int .i64 x5_l2))) (some 18) (.exact (.bool x18_j64)))) (fun (x18_j64 : Bool) => []) (fun k64 h => ?_) (fun x18_j64 h => ?_)
      · refine k_plan [] [(0, 0), (0, 1), (0, 2), (0, 3), (0, 4), (0, 5), (0, 6), (0, 7), (0, 8), (0, 9), (0, 10), (0, 11)] hmixP (by kernel_rfl) ?_
        refine P_q no34_0 rfl (op_move (av := .exact (.int .i64 x5_l2)) rfl ?_)
        refine P_q no34_0 rfl (op_move (av := .row 2 c_A2_int a0) rfl ?_)
        refine P_q no34_0 rfl (op_len_row (by kernel_rfl) rfl ?_)
        refine P_q no34_0 rfl (op_lss rfl rfl ?_)
        refine P_q no34_0 rfl (op_move (av := .exact (.bool (decide (x5_l2 < (List.length a0 : Int))))) rfl ?_)
        refine P_split (p := x5_l2 < (List.length a0 : Int)) 11 rfl (fun hc => ?_) (fun hc => ?_)
        · replace h := ite_t h hc
          refine Py_q no34_0 rfl rfl rfl (op_move (av := .row 2 c_A2_int a0) rfl ?_)
          refine Py_q no34_0 rfl rfl rfl (op_move (av := .exact (.int .i64 x5_l2)) rfl ?_)
          obtain ⟨n67, h⟩ := need_some h
          refine Py_q no34_0 rfl rfl rfl (op_index_row (by kernel_rfl) rfl rfl n67.1 n67.2 ?_)
          refine Py_q no34_0 rfl rfl rfl (op_loadNp (m := 2) (c' := c_A2_int (gi a0 x5_l2)) (by kernel_rfl) rfl rfl rfl ?_)
          refine Py_q no34_0 rfl rfl rfl (op_loadNp (m := 2) (c' := c_A2_int a1) (by kernel_rfl) rfl rfl rfl ?_)
          obtain ⟨y68, hy68, h⟩ := bnd1_some h
          refine Py_q no34_0 rfl rfl rfl (op_pure (m_ref35_Less_ok _ _ _ hy68) Try.func69 (by kernel_rfl) (LEs.cons (AV.le_eq rfl) (LEs.cons (AV.le_eq rfl) LEs.nil)) ?_)
          refine P_q no34_0 rfl (op_pick_t rfl (av := .exact (.bool y68)) rfl ?_)
          refine P_nil ?_
          refine kI_normal ⟨_, h, ?_⟩
          exact Sub.of_le (AF.le_put (AV.le_eq rfl) (AF.le_put (AV.le_eq rfl) (AF.le_put (AV.le_eq rfl) (AF.le_put (AV.le_eq rfl) (AF.le_top _)))))
        · replace h := ite_f h hc
          refine P_n no34_0 rfl rfl rfl ?_
          refine P_n no34_0 rfl rfl rfl ?_
          refine P_n no34_0 rfl rfl rfl ?_
          refine P_n no34_0 rfl rfl rfl ?_
          refine P_n no34_0 rfl rfl rfl ?_
          refine P_n no34_0 rfl rfl rfl ?_
          refine P_q no34_0 rfl (op_pick_f rfl (av := .exact (.bool false)) rfl ?_)
          refine P_nil ?_
          refine kI_normal ⟨_, h, ?_⟩
          exact Sub.of_le (AF.le_put (AV.le_eq rfl) (AF.le_put (AV.le_eq rfl) (AF.le_put (AV.le_eq rfl) (AF.le_put (AV.le_eq rfl) (AF.le_top _)))))
      · refine k_cond_b (c := x18_j64) rfl (fun hc => ?_) (fun hc => ?_)
        · replace h := ite_t h hc
          refine k_skip ?_
          refine kC_normal ?_
          refine k_block ?_
          refine k_reg .free hmixP (by kernel_rfl) ?_
          refine G_q rfl (op_move (av := .exact (.int .i64 x5_l2)) rfl ?_)
          refine G_q rfl (op_add rfl rfl rfl ?_)
          refine G_q rfl (op_assign (av := .exact (.int .i64 (i64 (x5_l2 + 1)))) rfl ?_)
          refine G_nil ?_
          refine kB_normal ?_
          refine kI_normal ⟨_, h, ?_⟩
          exact Sub.of_le (AF.le_put (AV.le_eq rfl) (AF.le_put (AV.le_eq rfl) (AF.le_put (AV.le_eq rfl) (AF.le_top _))))
        · replace h := ite_f h hc
          refine k_exit ?_
          refine kC_exit ?_
          refine kI_exit ?_
          refine kB_exit ?_
          refine kI_normal ⟨_, h, ?_⟩
          exact Sub.of_le (AF.le_put (AV.le_eq rfl) (AF.le_put (AV.le_eq rfl) (AF.le_put (AV.le_eq rfl) (AF.le_top _))))
  · refine k_seq ?_
    refine k_join1_0 h (fun (x32_j73 : Bool) => (AF.put (AF.put (AF.put (AF.put AF0 (some 0) (.row 2 c_A2_int a0)) (some 3) (.ptr (c_A2_int a1))) (some 5) (.exact (.int .i64 x5_j1))) (some 32) (.exact (.bool x32_j73)))) (fun (x32_j73 : Bool) => []) (fun k73 h => ?_) (fun x32_j73 h => ?_)
    · refine k_plan [] [(0, 0), (0, 1), (0, 2), (0, 3), (0, 4), (0, 5), (0, 6), (0, 7), (0, 8), (0, 9), (0, 10), (0, 11)] hmixP (by kernel_rfl) ?_
      refine P_q no34_0 rfl (op_move (av := .exact (.int .i64 x5_j1)) rfl ?_)
      refine P_q no34_0 rfl (op_move (av := .row 2 c_A2_int a0) rfl ?_)
      refine P_q no34_0 rfl (op_len_row (by kernel_rfl) rfl ?_)
      refine P_q no34_0 rfl (op_lss rfl rfl ?_)
      refine P_q no34_0 rfl (op_move (av := .exact (.bool (decide (x5_j1 < (List.length a0 : Int))))) rfl ?_)
      refine P_split (p := x5_j1 < (List.length a0 : Int)) 25 rfl (fun hc => ?_) (fun hc => ?_)
      · replace h := ite_t h hc
        refine Py_q no34_0 rfl rfl rfl (op_move (av := .row 2 c_A2_int a0) rfl ?_)
        refine Py_q no34_0 rfl rfl rfl (op_move (av := .exact (.int .i64 x5_j1)) rfl ?_)
        obtain ⟨n75, h⟩ := need_some h
        refine Py_q no34_0 rfl rfl rfl (op_index_row (by kernel_rfl) rfl rfl n75.1 n75.2 ?_)
        refine Py_q no34_0 rfl rfl rfl (op_loadNp (m := 2) (c' := c_A2_int (gi a0 x5_j1)) (by kernel_rfl) rfl rfl rfl ?_)
        refine Py_q no34_0 rfl rfl rfl (op_loadNp (m := 2) (c' := c_A2_int a1) (by kernel_rfl) rfl rfl rfl ?_)
        refine Py_q no34_0 rfl rfl rfl (op_eqlA (a := (gi a0 x5_j1)) (b := a1) (by kernel_rfl) (eq_c_A2_int _ _) rfl rfl ?_)
        refine P_q no34_0 rfl (op_pick_t rfl (av := .exact (.bool (decide ((gi a0 x5_j1) = a1)))) rfl ?_)
        refine P_nil ?_
        refine kI_normal ⟨_, h, ?_⟩
        exact Sub.of_le (AF.le_put (AV.le_eq rfl) (AF.le_put (AV.le_eq rfl) (AF.le_put (AV.le_eq rfl) (AF.le_put (AV.le_eq rfl) (AF.le_top _)))))
      · replace h := ite_f h hc
        refine P_n no34_0 rfl rfl rfl ?_
        refine P_n no34_0 rfl rfl rfl ?_
        refine P_n no34_0 rfl rfl rfl ?_
        refine P_n no34_0 rfl rfl rfl ?_
        refine P_n no34_0 rfl rfl rfl ?_
        refine P_n no34_0 rfl rfl rfl ?_
        refine P_q no34_0 rfl (op_pick_f rfl (av := .exact (.bool false)) rfl ?_)
        refine P_nil ?_
        refine kI_normal ⟨_, h, ?_⟩
        exact Sub.of_le (AF.le_put (AV.le_eq rfl) (AF.le_put (AV.le_eq rfl) (AF.le_put (AV.le_eq rfl) (AF.le_put (AV.le_eq rfl) (AF.le_top _)))))
    · refine k_cond_b (c := x32_j73) rfl (fun hc => ?_) (fun hc => ?_)
      · replace h := ite_t h hc
        refine k_seq ?_
        refine k_reg .free hmixP (by kernel_rfl) ?_
        refine G_q rfl (op_move (av := .row 2 c_A2_int a0) rfl ?_)
        refine G_q rfl (op_assign (av := .row 2 c_A2_int a0) rfl ?_)
        refine G_nil ?_
        refine kC_normal ?_
        refine k_ret ?_
        refine kC_ret ?_
        obtain rfl := Option.some.inj h
        refine kP_any (endN (af' := (AF.put AF0 (some 4) (.row 2 c_A2_int a0))) (σ' := []) _ rfl ?_ ⟨rfl, rfl⟩)
        exact Sub.of_le (AF.le_put (AV.le_eq rfl) (AF.le_top _))
      · replace h := ite_f h hc
        refine k_skip ?_
        refine kC_normal ?_
        refine k_seq ?_
        refine k_reg .free hmixP (by kernel_rfl) ?_
        refine G_l rfl (op_lit0I (enc := c_A2_int) (n := 2) (by kernel_rfl) (fun v76 => ?_))
        refine G_q rfl (op_move (av := .row 2 c_A2_int a0) rfl ?_)
        refine G_q rfl (op_move (av := .exact (.int .i64 x5_j1)) rfl ?_)
        obtain ⟨n77, h⟩ := need_some h
        refine G_q rfl (op_slice_rowt (by kernel_rfl) rfl bnd_none (bnd_some rfl) (Int.le_refl 0) n77.1 n77.2 ?_)
        obtain ⟨n78, h⟩ := need_some h
        refine G_l rfl (op_appT (by kernel_rfl) rfl rfl oc_c_A2_int n78 (fun v79 => ?_))
        refine G_q rfl (op_assign (av := .exact v79) rfl ?_)
        refine G_nil ?_
        refine kC_normal ?_
        refine k_seq ?_
        refine k_reg .free hmixP (by kernel_rfl) ?_
        refine G_q rfl (op_move (av := .exact v79) rfl ?_)
        refine G_q rfl (op_loadNp (m := 2) (c' := c_A2_int a1) (by kernel_rfl) rfl rfl rfl ?_)
        refine G_q rfl (op_litT (n := 2) (enc := c_A2_int) [a1] (CellsAll.cons rfl CellsOf.agg CellsAll.nil) rfl (by kernel_rfl) (LEss.cons (LEs.cons (AV.le_eq rfl) (LEs.cons (AV.le_eq rfl) LEs.nil)) LEss.nil) ?_)
        obtain ⟨n80, h⟩ := need_some h
        refine G_l rfl (op_appT (by kernel_rfl) rfl rfl oc_c_A2_int n80 (fun v81 => ?_))
        refine G_q rfl (op_assign (av := .exact v81) rfl ?_)
        refine G_nil ?_
        refine kC_normal ?_
        refine k_seq ?_
        refine k_reg .free hmixP (by kernel_rfl) ?_
        refine G_q rfl (op_move (av := .exact v81) rfl ?_)
        refine G_q rfl (op_move (av := .row 2 c_A2_int a0) rfl ?_)
        refine G_q rfl (op_move (av := .exact (.int .i64 x5_j1)) rfl ?_)
        obtain ⟨n82, h⟩ := need_some h
        refine G_q rfl (op_slice_rowd (by kernel_rfl) rfl (bnd_some rfl) bnd_none n82.1 n82.2 (Int.le_refl _) ?_)
        obtain ⟨n83, h⟩ := need_some h
        refine G_l rfl (op_appT (by kernel_rfl) rfl rfl oc_c_A2_int n83 (fun v84 => ?_))
        refine G_q rfl (op_assign (av := .exact v84) rfl ?_)
        refine G_nil ?_
        refine kC_normal ?_
        refine k_ret ?_
        obtain rfl := Option.some.inj h
        refine kP_any (endN (af' := (AF.put AF0 (some 4) (.row 2 c_A2_int (((([] : List (Int × Int)) ++ (List.take (Int.toNat x5_j1) a0)) ++ [a1]) ++ (List.drop (Int.toNat x5_j1) a0))))) (σ' := []) _ rfl ?_ ⟨rfl, rfl⟩)
        refine Sub.trans (SubU.to (SubU.freezeT (s := 4) rfl len_c_A2_int)) ?_
        exact Sub.of_le (AF.le_put (AV.le_eq rfl) (AF.le_top _))
set_option maxHeartbeats 4000000 in
theorem m_ref35_isPair_ok (a0 : Int × Int) (r : Bool) (h : m_ref35_isPair a0 = some r) : Pure Try.prog 76 [(.agg (c_A2_int a0))] (.exact (.bool r)) := by
  unfold m_ref35_isPair at h
  refine Pure.ofFun (fun_of_awp Try.func76 rfl Try.ntmps76 (by simp) rfl (res1 rfl) fun E hE => k_end ?_)
  refine k_seq ?_
  refine k_reg .free hmixP (by kernel_rfl) ?_
  refine G_q rfl (op_box (c := c_A2_int a0) rfl CellsOf.agg ?_)
  refine G_q rfl (op_assign (av := .exact (.bool false)) rfl ?_)
  refine G_nil ?_
  refine kC_normal ?_
  refine k_join1_0 h (fun (x2_j1 : Bool) => (AF.put AF0 (some 2) (.exact (.bool x2_j1)))) (fun (x2_j1 : Bool) => []) (fun k1 h => ?_) (fun x2_j1 h => ?_)
  · refine k_reg .free hmixP (by kernel_rfl) ?_
    refine G_q rfl (op_indexArr_ptr (m := 2) (n := 1) (c' := (List.drop 0 (c_A2_int a0))) (by kernel_rfl) rfl rfl (by decide) (by decide) rfl ?_)
    refine G_q rfl (op_load1p (a := .exact (.int .i64 a0.1)) (by kernel_rfl) rfl rfl ?_)
    refine G_q rfl (op_geq rfl rfl ?_)
    refine G_q rfl (op_move (av := .exact (.bool (decide (0 ≤ a0.1)))) rfl ?_)
    refine G_split (p := 0 ≤ a0.1) 6 rfl (fun hc => ?_) (fun hc => ?_)
    · replace h := ite_t h hc
      refine Gy_q rfl rfl rfl (op_indexArr_ptr (m := 2) (n := 1) (c' := (List.drop 0 (c_A2_int a0))) (by kernel_rfl) rfl rfl (by decide) (by decide) rfl ?_)
      refine Gy_q rfl rfl rfl (op_load1p (a := .exact (.int .i64 a0.1)) (by kernel_rfl) rfl rfl ?_)
      refine Gy_q rfl rfl rfl (op_leq rfl rfl ?_)
      refine G_q rfl (op_pick_t rfl (av := .exact (.bool (decide (a0.1 ≤ 2147483647)))) rfl ?_)
      refine G_q rfl (op_move (av := .exact (.bool (decide (a0.1 ≤ 2147483647)))) rfl ?_)
      refine G_split (p := a0.1 ≤ 2147483647) 11 rfl (fun hc => ?_) (fun hc => ?_)
      · replace h := ite_t h hc
        refine Gy_q rfl rfl rfl (op_indexArr_ptr (m := 2) (n := 1) (c' := (List.drop 1 (c_A2_int a0))) (by kernel_rfl) rfl rfl (by decide) (by decide) rfl ?_)
        refine Gy_q rfl rfl rfl (op_load1p (a := .exact (.int .i64 a0.2)) (by kernel_rfl) rfl rfl ?_)
        refine Gy_q rfl rfl rfl (op_geq rfl rfl ?_)
        refine G_q rfl (op_pick_t rfl (av := .exact (.bool (decide (0 ≤ a0.2)))) rfl ?_)
        refine G_q rfl (op_move (av := .exact (.bool (decide (0 ≤ a0.2)))) rfl ?_)
        refine G_split (p := 0 ≤ a0.2) 16 rfl (fun hc => ?_) (fun hc => ?_)
        · replace h := ite_t h hc
          refine Gy_q rfl rfl rfl (op_indexArr_ptr (m := 2) (n := 1) (c' := (List.drop 1 (c_A2_int a0))) (by kernel_rfl) rfl rfl (by decide) (by decide) rfl ?_)
          refine Gy_q rfl rfl rfl (op_load1p (a := .exact (.int .i64 a0.2)) (by kernel_rfl) rfl rfl ?_)
          refine Gy_q rfl rfl rfl (op_leq rfl rfl ?_)
          refine G_q rfl (op_pick_t rfl (av := .exact (.bool (decide (a0.2 ≤ 2147483647)))) rfl ?_)
          refine G_q rfl (op_assign (av := .exact (.bool (decide (a0.2 ≤ 2147483647)))) rfl ?_)
          refine G_nil ?_
          refine kI_normal ⟨_, h, ?_⟩
          exact Sub.of_le (AF.le_put (AV.le_eq rfl) (AF.le_top _))
        · replace h := ite_f h hc
          refine G_n rfl rfl ?_
          refine G_n rfl rfl ?_
          refine G_n rfl rfl ?_
          refine G_q rfl (op_pick_f rfl (av := .exact (.bool false)) rfl ?_)
          refine G_q rfl (op_assign (av := .exact (.bool false)) rfl ?_)
          refine G_nil ?_
          refine kI_normal ⟨_, h, ?_⟩
          exact Sub.of_le (AF.le_put (AV.le_eq rfl) (AF.le_top _))
      · replace h := ite_f h hc
        refine G_n rfl rfl ?_
        refine G_n rfl rfl ?_
        refine G_n rfl rfl ?_
        refine G_q rfl (op_pick_f rfl (av := .exact (.bool false)) rfl ?_)
        refine G_q rfl (op_move (av := .exact (.bool false)) rfl ?_)
        refine G_n rfl rfl ?_
        refine G_n rfl rfl ?_
        refine G_n rfl rfl ?_
        refine G_q rfl (op_pick_f rfl (av := .exact (.bool false)) rfl ?_)
        refine G_q rfl (op_assign (av := .exact (.bool false)) rfl ?_)
        refine G_nil ?_
        refine kI_normal ⟨_, h, ?_⟩
        exact Sub.of_le (AF.le_put (AV.le_eq rfl) (AF.le_top _))
    · replace h := ite_f h hc
      refine G_n rfl rfl ?_
      refine G_n rfl rfl ?_
      refine G_n rfl rfl ?_
      refine G_q rfl (op_pick_f rfl (av := .exact (.bool false)) rfl ?_)
      refine G_q rfl (op_move (av := .exact (.bool false)) rfl ?_)
      refine G_n rfl rfl ?_
      refine G_n rfl rfl ?_
      refine G_n rfl rfl ?_
      refine G_q rfl (op_pick_f rfl (av := .exact (.bool false)) rfl ?_)
      refine G_q rfl (op_move (av := .exact (.bool false)) rfl ?_)
      refine G_n rfl rfl ?_
      refine G_n rfl rfl ?_
      refine G_n rfl rfl ?_
      refine G_q rfl (op_pick_f rfl (av := .exact (.bool false)) rfl ?_)
      refine G_q rfl (op_assign (av := .exact (.bool false)) rfl ?_)
      refine G_nil ?_
      refine kI_normal ⟨_, h, ?_⟩
      exact Sub.of_le (AF.le_put (AV.le_eq rfl) (AF.le_top _))
  · refine k_ret ?_
    obtain rfl := Option.some.inj h
    refine kP_any (endN (af' := (AF.put AF0 (some 2) (.exact (.bool x2_j1)))) (σ' := []) _ rfl ?_ ⟨rfl, rfl⟩)
    exact Sub.of_le (AF.le_put (AV.le_eq rfl) (AF.le_top _))
set_option maxHeartbeats 4000000 in
theorem m_ref35_Sorted_ok (a0 : List (Int × Int)) (r : (List (Int × Int))) (h : m_ref35_Sorted a0 = some r) : Pure Try.prog 42 [(.row 2 c_A2_int a0)] (.row 2 c_A2_int r) := by
  unfold m_ref35_Sorted at h
  refine Pure.ofFun (fun_of_awp Try.func42 rfl Try.ntmps42 (by simp) rfl (res1 rfl) fun E hE => k_end ?_)
  refine k_seq ?_
  refine k_reg .free hmixP (by kernel_rfl) ?_
  refine G_q rfl (op_assign (av := .exact (.slice none 0 0)) rfl ?_)
  refine G_nil ?_
  refine kC_normal ?_
  refine k_seq ?_
  refine k_reg .free hmixP (by kernel_rfl) ?_
  refine G_q rfl (op_assign (av := .exact (.slice none 0 0)) rfl ?_)
  refine G_nil ?_
  refine kC_normal ?_
  refine k_join0_0 h ((AF.put (AF.put AF0 (some 0) (.row 2 c_A2_int a0)) (some 3) (.exact (.slice none 0 0)))) ([]) (fun k1 h => ?_) (fun  h => ?_)
  · refine k_seq ?_
    refine k_reg .free hmixP (by kernel_rfl) ?_
    refine G_q rfl (op_assign (av := .exact (.int .i64 0)) rfl ?_)
    refine G_nil ?_
    refine kC_normal ?_
    refine k_block ?_
    refine k_loop1_0 (m_ref35_Sorted_L2 a0 k1) (m_ref35_Sorted_B2 a0 k1) (fun _ => rfl) (fun m _ => rfl) h (fun (x4_l2 : Int) => (AF.put (AF.put (AF.put AF0 (some 0) (.row 2 c_A2_int a0)) (some 3) (.exact (.slice none 0 0))) (some 4) (.exact (.int .i64 x4_l2)))) (fun (x4_l2 : Int) => []) ?_ (fun rec2 x4_l2 h => ?_)
    · exact Sub.of_le (AF.le_put (AV.le_eq rfl) (AF.le_put (AV.le_eq rfl) (AF.le_put (AV.le_eq rfl) (AF.le_top _))))
    · unfold m_ref35_Sorted_B2 at h
      refine k_seq ?_
      refine k_seq ?_
      refine k_reg .free hmixP (by kernel_rfl) ?_
      refine G_q rfl (op_move (av := .exact (.int .i64 x4_l2)) rfl ?_)
      refine G_q rfl (op_move (av := .row 2 c_A2_int a0) rfl ?_)
      refine G_q rfl (op_len_row (by kernel_rfl) rfl ?_)
      refine G_q rfl (op_lss rfl rfl ?_)
      refine G_nil ?_
      refine kC_normal ?_
      refine k_cond_d (p := x4_l2 < (List.length a0 : Int)) rfl (fun hc => ?_) (fun hc => ?_)
      · replace h := ite_t h hc
        refine k_skip ?_
        refine kC_normal ?_
        refine k_seq ?_
        refine k_block ?_
        refine k_seq ?_
        refine k_reg .free hmixP (by kernel_rfl) ?_
        refine G_q rfl (op_move (av := .row 2 c_A2_int a0) rfl ?_)
        refine G_q rfl (op_move (av := .exact (.int .i64 x4_l2)) rfl ?_)
        obtain ⟨n13, h⟩ := need_some h
        refine G_q rfl (op_index_row (by kernel_rfl) rfl rfl n13.1 n13.2 ?_)
        refine G_q rfl (op_loadNp (m := 2) (c' := c_A2_int (gi a0 x4_l2)) (by kernel_rfl) rfl rfl rfl ?_)
        obtain ⟨y14, hy14, h⟩ := bnd1_some h
        refine G_q rfl (op_pure (m_ref35_isPair_ok _ _ hy14) Try.func76 (by kernel_rfl) (LEs.cons (AV.le_eq rfl) LEs.nil) ?_)
        refine G_q rfl (op_not rfl ?_)
        refine G_nil ?_
        refine kC_normal ?_
        refine k_cond_b (c := !y14) rfl (fun hc => ?_) (fun hc => ?_)
        · replace h := ite_t h hc
          refine k_seq ?_
          refine k_reg .free hmixP (by kernel_rfl) ?_
          refine G_q rfl (op_assign (av := .exact (.slice none 0 0)) rfl ?_)
          refine G_nil ?_
          refine kC_normal ?_
          refine k_ret ?_
          refine kB_ret ?_
          refine kC_ret ?_
          refine kI_ret ?_
          refine kB_ret ?_
          refine kI_ret ?_
          obtain rfl := Option.some.inj h
          refine kP_any (endN (af' := (AF.put AF0 (some 2) (.row 2 c_A2_int []))) (σ' := []) _ rfl ?_ ⟨rfl, rfl⟩)
          exact Sub.of_le (AF.le_put (row_nil (by decide)) (AF.le_top _))
        · replace h := ite_f h hc
          refine k_skip ?_
          refine kB_normal ?_
          refine kC_normal ?_
          refine k_reg .free hmixP (by kernel_rfl) ?_
          refine G_q rfl (op_move (av := .exact (.int .i64 x4_l2)) rfl ?_)
          refine G_q rfl (op_add rfl rfl rfl ?_)
          refine G_q rfl (op_assign (av := .exact (.int .i64 (i64 (x4_l2 + 1)))) rfl ?_)
          refine G_nil ?_
          refine kI_normal ⟨_, h, ?_⟩
          exact Sub.of_le (AF.le_put (AV.le_eq rfl) (AF.le_put (AV.le_eq rfl) (AF.le_put (AV.le_eq rfl) (AF.le_top _))))
      · replace h := ite_f h hc
        refine k_exit ?_
        refine kC_exit ?_
        refine kI_exit ?_
        refine kB_exit ?_
        refine kI_normal ⟨h, ?_⟩
        exact Sub.of_le (AF.le_put (AV.le_eq rfl) (AF.le_put (AV.le_eq rfl) (AF.le_top _)))
  · refine k_join1_0 h (fun (x3_j15 : List (Int × Int)) => (AF.put AF0 (some 3) (.row 2 c_A2_int x3_j15))) (fun (x3_j15 : List (Int × Int)) => []) (fun k15 h => ?_) (fun x3_j15 h => ?_)
    · refine k_seq ?_
      refine k_reg .free hmixP (by kernel_rfl) ?_
      refine G_q rfl (op_assign (av := .exact (.int .i64 0)) rfl ?_)
      refine G_nil ?_
      refine kC_normal ?_
      refine k_block ?_
      refine k_loop2_0 (m_ref35_Sorted_L4 a0 k15) (m_ref35_Sorted_B4 a0 k15) (fun _ _ => rfl) (fun m _ _ => rfl) h (fun (x3_l4 : List (Int × Int)) (x5_l4 : Int) => (AF.put (AF.put (AF.put AF0 (some 0) (.row 2 c_A2_int a0)) (some 3) (.row 2 c_A2_int x3_l4)) (some 5) (.exact (.int .i64 x5_l4)))) (fun (x3_l4 : List (Int × Int)) (x5_l4 : Int) => []) ?_ (fun rec4 x3_l4 x5_l4 h => ?_)
      · exact Sub.of_le (AF.le_put (AV.le_eq rfl) (AF.le_put (row_nil (by decide)) (AF.le_put (AV.le_eq rfl) (AF.le_top _))))
      · unfold m_ref35_Sorted_B4 at h
        refine k_seq ?_
        refine k_seq ?_
        refine k_reg .free hmixP (by kernel_rfl) ?_
        refine G_q rfl (op_move (av := .exact (.int .i64 x5_l4)) rfl ?_)
        refine G_q rfl (op_move (av := .row 2 c_A2_int a0) rfl ?_)
        refine G_q rfl (op_len_row (by kernel_rfl) rfl ?_)
        refine G_q rfl (op_lss rfl rfl ?_)
        refine G_nil ?_
        refine kC_normal ?_
        refine k_cond_d (p := x5_l4 < (List.length a0 : Int)) rfl (fun hc => ?_) (fun hc => ?_)
        · replace h := ite_t h hc
          refine k_skip ?_
          refine kC_normal ?_
          refine k_seq ?_
          refine k_block ?_
          refine k_reg .free hmixP (by kernel_rfl) ?_
          refine G_q rfl (op_move (av := .row 2 c_A2_int x3_l4) rfl ?_)
          refine G_q rfl (op_move (av := .row 2 c_A2_int a0) rfl ?_)
          refine G_q rfl (op_move (av := .exact (.int .i64 x5_l4)) rfl ?_)
          obtain ⟨n27, h⟩ := need_some h
          refine G_q rfl (op_index_row (by kernel_rfl) rfl rfl n27.1 n27.2 ?_)
          refine G_q rfl (op_loadNp (m := 2) (c' := c_A2_int (gi a0 x5_l4)) (by kernel_rfl) rfl rfl rfl ?_)
          obtain ⟨y28, hy28, h⟩ := bnd1_some h
          refine G_q rfl (op_pure (m_ref35_Add_ok _ _ _ hy28) Try.func78 (by kernel_rfl) (LEs.cons (AV.le_eq rfl) (LEs.cons (AV.le_eq rfl) LEs.nil)) ?_)
          refine G_q rfl (op_assign (av := .row 2 c_A2_int y28) rfl ?_)
          refine G_nil ?_
          refine kB_normal ?_
          refine kC_normal ?_
          refine k_reg .free hmixP (by kernel_rfl) ?_
          refine G_q rfl (op_move (av := .exact (.int .i64 x5_l4)) rfl ?_)
          refine G_q rfl (op_add rfl rfl rfl ?_)
          refine G_q rfl (op_assign (av := .exact (.int .i64 (i64 (x5_l4 + 1)))) rfl ?_)
          refine G_nil ?_
          refine kI_normal ⟨_, _, h, ?_⟩
          exact Sub.of_le (AF.le_put (AV.le_eq rfl) (AF.le_put (AV.le_eq rfl) (AF.le_put (AV.le_eq rfl) (AF.le_top _))))
        · replace h := ite_f h hc
          refine k_exit ?_
          refine kC_exit ?_
          refine kI_exit ?_
          refine kB_exit ?_
          refine kI_normal ⟨_, h, ?_⟩
          exact Sub.of_le (AF.le_put (AV.le_eq rfl) (AF.le_top _))
    · refine k_seq ?_
      refine k_reg .free hmixP (by kernel_rfl) ?_
      refine G_q rfl (op_move (av := .row 2 c_A2_int x3_j15) rfl ?_)
      refine G_q rfl (op_assign (av := .row 2 c_A2_int x3_j15) rfl ?_)
      refine G_nil ?_
      refine kC_normal ?_
      refine k_ret ?_
      obtain rfl := Option.some.inj h
      refine kP_any (endN (af' := (AF.put AF0 (some 2) (.row 2 c_A2_int x3_j15))) (σ' := []) _ rfl ?_ ⟨rfl, rfl⟩)
      exact Sub.of_le (AF.le_put (AV.le_eq rfl) (AF.le_top _))
set_option maxHeartbeats 4000000 in
theorem m_frontier_number_ok (a0 : List UInt8) (a1 : Int) (r : Int × Int × Int) (h : m_frontier_number a0 a1 = some r) : Pure Try.prog 79 [(.row 1 c_uint8 a0), (.exact (.int .i64 a1))] (.tup [.exact (.int .i64 r.1), .exact (.int .i64 r.2.1), .exact (.int .i64 r.2.2)]) := by
  unfold m_frontier_number at h
  refine Pure.ofFun (fun_of_awp Try.func79 rfl Try.ntmps79 (by simp) rfl (res3 rfl) fun E hE => k_end ?_)
  refine k_seq ?_
  refine k_reg .free hmixP (by kernel_rfl) ?_
  refine G_q rfl (op_assign (av := .exact (.int .i64 0)) rfl ?_)
  refine G_q rfl (op_assign (av := .exact (.int .i64 0)) rfl ?_)
  refine G_q rfl (op_assign (av := .exact (.int .i64 0)) rfl ?_)
  refine G_nil ?_
  refine kC_normal ?_
  refine k_seq ?_
  refine k_reg .free hmixP (by kernel_rfl) ?_
  refine G_q rfl (op_assign (av := .exact (.int .i64 0)) rfl ?_)
  refine G_nil ?_
  refine kC_normal ?_
  refine k_join0_0 h (AF0) ([]) (fun k1 h => ?_) (fun  h => ?_)
  · refine k_seq ?_
    refine k_reg .free hmixP (by kernel_rfl) ?_
    refine G_q rfl (op_move (av := .exact (.int .i64 0)) rfl ?_)
    refine G_nil ?_
    refine kC_normal ?_
    refine k_block ?_
    refine k_loop2_0 (m_frontier_number_L2 a0 a1 k1) (m_frontier_number_B2 a0 a1 k1) (fun _ _ => rfl) (fun m _ _ => rfl) h (fun (x7_l2 : Int) (x10_l2 : Int) => (AF.put (AF.put (AF.put (AF.put AF0 (some 0) (.row 1 c_uint8 a0)) (some 1) (.exact (.int .i64 a1))) (some 7) (.exact (.int .i64 x7_l2))) (some 10) (.exact (.int .i64 x10_l2)))) (fun (x7_l2 : Int) (x10_l2 : Int) => []) ?_ (fun rec2 x7_l2 x10_l2 h => ?_)
    · exact Sub.of_le (AF.le_put (AV.le_eq rfl) (AF.le_put (AV.le_eq rfl) (AF.le_put (AV.le_eq rfl) (AF.le_put (AV.le_eq rfl) (AF.le_top _)))))
    · unfold m_frontier_number_B2 at h
      refine k_seq ?_
      refine k_reg .free hmixP (by kernel_rfl) ?_
      refine G_q rfl (op_lss rfl rfl ?_)
      refine G_nil ?_
      refine kC_normal ?_
      refine k_seq ?_
      refine k_cond_d (p := x10_l2 < 5) rfl (fun hc => ?_) (fun hc => ?_)
      · replace h := ite_t h hc
        refine k_skip ?_
        refine kC_normal ?_
        refine k_seq ?_
        refine k_block ?_
        refine k_seq ?_
        refine k_reg .free hmixP (by kernel_rfl) ?_
        refine G_q rfl (op_move (av := .exact (.int .i64 x10_l2)) rfl ?_)
        refine G_q rfl (op_assign (av := .exact (.int .i64 x10_l2)) rfl ?_)
        refine G_nil ?_
        refine kC_normal ?_
        refine k_seq ?_
        refine k_seq ?_
        refine k_reg .free hmixP (by kernel_rfl) ?_
        refine G_q rfl (op_move (av := .exact (.int .i64 a1)) rfl ?_)
        refine G_q rfl (op_move (av := .exact (.int .i64 x10_l2)) rfl ?_)
        refine G_q rfl (op_add rfl rfl rfl ?_)
        refine G_q rfl (op_move (av := .row 1 c_uint8 a0) rfl ?_)
        refine G_q rfl (op_len_row (by kernel_rfl) rfl ?_)
        refine G_q rfl (op_geq rfl rfl ?_)
        refine G_nil ?_
        refine kC_normal ?_
        refine k_cond_d (p := (List.length a0 : Int) ≤ (i64 (a1 + x10_l2))) rfl (fun hc => ?_) (fun hc => ?_)
        · replace h := ite_t h hc
          refine k_seq ?_
          refine k_reg .free hmixP (by kernel_rfl) ?_
          refine G_q rfl (op_assign (av := .exact (.int .i64 0)) rfl ?_)
          refine G_q rfl (op_assign (av := .exact (.int .i64 0)) rfl ?_)
          refine G_q rfl (op_assign (av := .exact (.int .i64 23)) rfl ?_)
          refine G_nil ?_
          refine kC_normal ?_
          refine k_ret ?_
          refine kC_ret ?_
          refine kB_ret ?_
          refine kC_ret ?_
          refine kI_ret ?_
          refine kB_ret ?_
          refine kI_ret ?_
          obtain rfl := Option.some.inj h
          refine kP_any (endN (af' := (AF.put (AF.put (AF.put AF0 (some 4) (.exact (.int .i64 0))) (some 5) (.exact (.int .i64 0))) (some 6) (.exact (.int .i64 23)))) (σ' := []) _ rfl ?_ ⟨rfl, rfl⟩)
          exact Sub.of_le (AF.le_put (AV.le_eq rfl) (AF.le_put (AV.le_eq rfl) (AF.le_put (AV.le_eq rfl) (AF.le_top _))))
        · replace h := ite_f h hc
          refine k_skip ?_
          refine kC_normal ?_
          refine k_seq ?_
          refine k_reg .free hmixP (by kernel_rfl) ?_
          refine G_q rfl (op_move (av := .row 1 c_uint8 a0) rfl ?_)
          refine G_q rfl (op_move (av := .exact (.int .i64 a1)) rfl ?_)
          refine G_q rfl (op_move (av := .exact (.int .i64 x10_l2)) rfl ?_)
          refine G_q rfl (op_add rfl rfl rfl ?_)
          obtain ⟨n13, h⟩ := need_some h
          refine G_q rfl (op_index_row (by kernel_rfl) rfl rfl n13.1 n13.2 ?_)
          refine G_q rfl (op_load1p (a := .exact (.int .u8 (UInt8.toNat (gi a0 (i64 (a1 + x10_l2))) : Int))) (by kernel_rfl) rfl rfl ?_)
          refine G_q rfl (op_assign (av := .exact (.int .u8 (UInt8.toNat (gi a0 (i64 (a1 + x10_l2))) : Int))) rfl ?_)
          refine G_nil ?_
          refine kC_normal ?_
          refine k_seq ?_
          refine k_reg .free hmixP (by kernel_rfl) ?_
          refine G_q rfl (op_move (av := .exact (.int .i64 x7_l2)) rfl ?_)
          refine G_q rfl (op_move (av := .exact (.int .u8 (UInt8.toNat (gi a0 (i64 (a1 + x10_l2))) : Int))) rfl ?_)
          refine G_q rfl (op_andU (a := (gi a0 (i64 (a1 + x10_l2)))) (b := 127) rfl rfl ?_)
          refine G_q rfl (op_convInt (k := .i64) (r := (UInt8.toNat ((gi a0 (i64 (a1 + x10_l2))) &&& 127) : Int)) (by kernel_rfl) rfl (wrap_u8 rfl _) ?_)
          refine G_q rfl (op_move (av := .exact (.int .i64 x10_l2)) rfl ?_)
          refine G_q rfl (op_mul rfl rfl rfl ?_)
          obtain ⟨n14, h⟩ := need_some h
          refine G_q rfl (op_shl rfl rfl n14 rfl ?_)
          refine G_q rfl (op_or rfl rfl rfl ?_)
          refine G_q rfl (op_assign (av := .exact (.int .i64 (bOr .i64 x7_l2 (i64 ((UInt8.toNat ((gi a0 (i64 (a1 + x10_l2))) &&& 127) : Int) * 2 ^ min (Int.toNat (i64 (7 * x10_l2))) IntKind.i64.bits))))) rfl ?_)
          refine G_nil ?_
          refine kC_normal ?_
          refine k_seq ?_
          refine k_reg .free hmixP (by kernel_rfl) ?_
          refine G_q rfl (op_move (av := .exact (.int .u8 (UInt8.toNat (gi a0 (i64 (a1 + x10_l2))) : Int))) rfl ?_)
          refine G_q rfl (op_lssU (a := (gi a0 (i64 (a1 + x10_l2)))) (b := 128) rfl rfl ?_)
          refine G_nil ?_
          refine kC_normal ?_
          refine k_cond_d (p := (gi a0 (i64 (a1 + x10_l2))) < 128) rfl (fun hc => ?_) (fun hc => ?_)
          · replace h := ite_t h hc
            refine k_seq ?_
            refine k_reg .free hmixP (by kernel_rfl) ?_
            refine G_q rfl (op_move (av := .exact (.int .i64 (bOr .i64 x7_l2 (i64 ((UInt8.toNat ((gi a0 (i64 (a1 + x10_l2))) &&& 127) : Int) * 2 ^ min (Int.toNat (i64 (7 * x10_l2))) IntKind.i64.bits))))) rfl ?_)
            refine G_q rfl (op_move (av := .exact (.int .i64 a1)) rfl ?_)
            refine G_q rfl (op_move (av := .exact (.int .i64 x10_l2)) rfl ?_)
            refine G_q rfl (op_add rfl rfl rfl ?_)
            refine G_q rfl (op_add rfl rfl rfl ?_)
            refine G_q rfl (op_assign (av := .exact (.int .i64 (bOr .i64 x7_l2 (i64 ((UInt8.toNat ((gi a0 (i64 (a1 + x10_l2))) &&& 127) : Int) * 2 ^ min (Int.toNat (i64 (7 * x10_l2))) IntKind.i64.bits))))) rfl ?_)
            refine G_q rfl (op_assign (av := .exact (.int .i64 (i64 ((i64 (a1 + x10_l2)) + 1)))) rfl ?_)
            refine G_q rfl (op_assign (av := .exact (.int .i64 0)) rfl ?_)
            refine G_nil ?_
            refine kC_normal ?_
            refine k_ret ?_
            refine kB_ret ?_
            refine kC_ret ?_
            refine kI_ret ?_
            refine kB_ret ?_
            refine kI_ret ?_
            obtain rfl := Option.some.inj h
            refine kP_any (endN (af' := (AF.put (AF.put (AF.put AF0 (some 4) (.exact (.int .i64 (bOr .i64 x7_l2 (i64 ((UInt8.toNat ((gi a0 (i64 (a1 + x10_l2))) &&& 127) : Int) * 2 ^ min (Int.toNat (i64 (7 * x10_l2))) IntKind.i64.bits)))))) (some 5) (.exact (.int .i64 (i64 ((i64 (a1 + x10_l2)) + 1))))) (some 6) (.exact (.int .i64 0)))) (σ' := []) _ rfl ?_ ⟨rfl, rfl⟩)
            exact Sub.of_le (AF.le_put (AV.le_eq rfl) (AF.le_put (AV.le_eq rfl) (AF.le_put (AV.le_eq rfl) (AF.le_top _))))
          · replace h := ite_f h hc
            refine k_skip ?_
            refine kB_normal ?_
            refine kC_normal ?_
            refine k_reg .free hmixP (by kernel_rfl) ?_
            refine G_q rfl (op_add rfl rfl rfl ?_)
            refine G_q rfl (op_move (av := .exact (.int .i64 (i64 (x10_l2 + 1)))) rfl ?_)
            refine G_nil ?_
            refine kI_normal ⟨_, _, h, ?_⟩
            exact Sub.of_le (AF.le_put (AV.le_eq rfl) (AF.le_put (AV.le_eq rfl) (AF.le_put (AV.le_eq rfl) (AF.le_put (AV.le_eq rfl) (AF.le_top _)))))
      · replace h := ite_f h hc
        refine k_exit ?_
        refine kC_exit ?_
        refine kI_exit ?_
        refine kB_exit ?_
        refine kI_normal ⟨h, ?_⟩
        exact Sub.of_le (AF.le_top _)
  · refine k_seq ?_
    refine k_reg .free hmixP (by kernel_rfl) ?_
    refine G_q rfl (op_assign (av := .exact (.int .i64 0)) rfl ?_)
    refine G_q rfl (op_assign (av := .exact (.int .i64 0)) rfl ?_)
    refine G_q rfl (op_assign (av := .exact (.int .i64 22)) rfl ?_)
    refine G_nil ?_
    refine kC_normal ?_
    refine k_ret ?_
    obtain rfl := Option.some.inj h
    refine kP_any (endN (af' := (AF.put (AF.put (AF.put AF0 (some 4) (.exact (.int .i64 0))) (some 5) (.exact (.int .i64 0))) (some 6) (.exact (.int .i64 22)))) (σ' := []) _ rfl ?_ ⟨rfl, rfl⟩)
    exact Sub.of_le (AF.le_put (AV.le_eq rfl) (AF.le_put (AV.le_eq rfl) (AF.le_put (AV.le_eq rfl) (AF.le_top _))))
set_option maxHeartbeats 4000000 in
theorem m_ref35_uvarint_ok (a0 : List UInt8) (a1 : Int) (r : Int × Int × Int) (h : m_ref35_uvarint a0 a1 = some r) : Pure Try.prog 82 [(.row 1 c_uint8 a0), (.exact (.int .i64 a1))] (.tup [.exact (.int .i64 r.1), .exact (.int .i64 r.2.1), .exact (.int .i64 r.2.2)]) := by
  unfold m_ref35_uvarint at h
  refine Pure.ofFun (fun_of_awp Try.func82 rfl Try.ntmps82 (by simp) rfl (res3 rfl) fun E hE => k_end ?_)
  refine k_seq ?_
  refine k_reg .free hmixP (by kernel_rfl) ?_
  refine G_q rfl (op_assign (av := .exact (.int .i64 0)) rfl ?_)
  refine G_q rfl (op_assign (av := .exact (.int .i64 0)) rfl ?_)
  refine G_q rfl (op_assign (av := .exact (.int .i64 0)) rfl ?_)
  refine G_nil ?_
  refine kC_normal ?_
  refine k_seq ?_
  refine k_reg .free hmixP (by kernel_rfl) ?_
  refine G_q rfl (op_assign (av := .exact (.int .i64 0)) rfl ?_)
  refine G_q rfl (op_assign (av := .exact (.int .i64 1)) rfl ?_)
  refine G_nil ?_
  refine kC_normal ?_
  refine k_join1_0 h (fun (x1_j1 : Int) => (AF.put AF0 (some 1) (.exact (.int .i64 x1_j1)))) (fun (x1_j1 : Int) => []) (fun k1 h => ?_) (fun x1_j1 h => ?_)
  · refine k_seq ?_
    refine k_reg .free hmixP (by kernel_rfl) ?_
    refine G_q rfl (op_assign (av := .exact (.int .i64 0)) rfl ?_)
    refine G_nil ?_
    refine kC_normal ?_
    refine k_block ?_
    refine k_loop4_0 (m_ref35_uvarint_L2 a0 k1) (m_ref35_uvarint_B2 a0 k1) (fun _ _ _ _ => rfl) (fun m _ _ _ _ => rfl) h (fun (x1_l2 : Int) (x7_l2 : Int) (x8_l2 : Int) (x9_l2 : Int) => (AF.put (AF.put (AF.put (AF.put (AF.put AF0 (some 0) (.row 1 c_uint8 a0)) (some 1) (.exact (.int .i64 x1_l2))) (some 7) (.exact (.int .i64 x7_l2))) (some 8) (.exact (.int .i64 x8_l2))) (some 9) (.exact (.int .i64 x9_l2)))) (fun (x1_l2 : Int) (x7_l2 : Int) (x8_l2 : Int) (x9_l2 : Int) => []) ?_ (fun rec2 x1_l2 x7_l2 x8_l2 x9_l2 h => ?_)
    · exact Sub.of_le (AF.le_put (AV.le_eq rfl) (AF.le_put (AV.le_eq rfl) (AF.le_put (AV.le_eq rfl) (AF.le_put (AV.le_eq rfl) (AF.le_put (AV.le_eq rfl) (AF.le_top _))))))
    · unfold m_ref35_uvarint_B2 at h
      refine k_seq ?_
      refine k_seq ?_
      refine k_reg .free hmixP (by kernel_rfl) ?_
      refine G_q rfl (op_move (av := .exact (.int .i64 x9_l2)) rfl ?_)
      refine G_q rfl (op_lss rfl rfl ?_)
      refine G_nil ?_
      refine kC_normal ?_
      refine k_cond_d (p := x9_l2 < 5) rfl (fun hc => ?_) (fun hc => ?_)
      · replace h := ite_t h hc
        refine k_skip ?_
        refine kC_normal ?_
        refine k_seq ?_
        refine k_block ?_
        refine k_seq ?_
        refine k_seq ?_
        refine k_reg .free hmixP (by kernel_rfl) ?_
        refine G_q rfl (op_move (av := .exact (.int .i64 x1_l2)) rfl ?_)
        refine G_q rfl (op_move (av := .row 1 c_uint8 a0) rfl ?_)
        refine G_q rfl (op_len_row (by kernel_rfl) rfl ?_)
        refine G_q rfl (op_geq rfl rfl ?_)
        refine G_nil ?_
        refine kC_normal ?_
        refine k_cond_d (p := (List.length a0 : Int) ≤ x1_l2) rfl (fun hc => ?_) (fun hc => ?_)
        · replace h := ite_t h hc
          refine k_seq ?_
          refine k_reg .free hmixP (by kernel_rfl) ?_
          refine G_q rfl (op_move (av := .exact (.int .i64 x1_l2)) rfl ?_)
          refine G_q rfl (op_assign (av := .exact (.int .i64 0)) rfl ?_)
          refine G_q rfl (op_assign (av := .exact (.int .i64 x1_l2)) rfl ?_)
          refine G_q rfl (op_assign (av := .exact (.int .i64 23)) rfl ?_)
          refine G_nil ?_
          refine kC_normal ?_
          refine k_ret ?_
          refine kC_ret ?_
          refine kB_ret ?_
          refine kC_ret ?_
          refine kI_ret ?_
          refine kB_ret ?_
          refine kI_ret ?_
          obtain rfl := Option.some.inj h
          refine kP_any (endN (af' := (AF.put (AF.put (AF.put AF0 (some 4) (.exact (.int .i64 0))) (some 5) (.exact (.int .i64 x1_l2))) (some 6) (.exact (.int .i64 23)))) (σ' := []) _ rfl ?_ ⟨rfl, rfl⟩)
          exact Sub.of_le (AF.le_put (AV.le_eq rfl) (AF.le_put (AV.le_eq rfl) (AF.le_put (AV.le_eq rfl) (AF.le_top _))))
        · replace h := ite_f h hc
          refine k_skip ?_
          refine kC_normal ?_
          refine k_seq ?_
          refine k_reg .free hmixP (by kernel_rfl) ?_
          refine G_q rfl (op_move (av := .exact (.int .i64 x7_l2)) rfl ?_)
          refine G_q rfl (op_move (av := .row 1 c_uint8 a0) rfl ?_)
          refine G_q rfl (op_move (av := .exact (.int .i64 x1_l2)) rfl ?_)
          obtain ⟨n13, h⟩ := need_some h
          refine G_q rfl (op_index_row (by kernel_rfl) rfl rfl n13.1 n13.2 ?_)
          refine G_q rfl (op_load1p (a := .exact (.int .u8 (UInt8.toNat (gi a0 x1_l2) : Int))) (by kernel_rfl) rfl rfl ?_)
          refine G_q rfl (op_convInt (k := .i64) (r := (UInt8.toNat (gi a0 x1_l2) : Int)) (by kernel_rfl) rfl (wrap_u8 rfl _) ?_)
          refine G_q rfl (op_rem rfl rfl (by decide) rfl ?_)
          refine G_q rfl (op_move (av := .exact (.int .i64 x8_l2)) rfl ?_)
          refine G_q rfl (op_mul rfl rfl rfl ?_)
          refine G_q rfl (op_add rfl rfl rfl ?_)
          refine G_q rfl (op_assign (av := .exact (.int .i64 (i64 (x7_l2 + (i64 ((Int.tmod (UInt8.toNat (gi a0 x1_l2) : Int) 128) * x8_l2)))))) rfl ?_)
          refine G_nil ?_
          refine kC_normal ?_
          refine k_seq ?_
          refine k_reg .free hmixP (by kernel_rfl) ?_
          refine G_q rfl (op_move (av := .exact (.int .i64 x8_l2)) rfl ?_)
          refine G_q rfl (op_mul rfl rfl rfl ?_)
          refine G_q rfl (op_assign (av := .exact (.int .i64 (i64 (x8_l2 * 128)))) rfl ?_)
          refine G_nil ?_
          refine kC_normal ?_
          refine k_seq ?_
          refine k_reg .free hmixP (by kernel_rfl) ?_
          refine G_q rfl (op_move (av := .exact (.int .i64 x1_l2)) rfl ?_)
          refine G_q rfl (op_add rfl rfl rfl ?_)
          refine G_q rfl (op_assign (av := .exact (.int .i64 (i64 (x1_l2 + 1)))) rfl ?_)
          refine G_nil ?_
          refine kC_normal ?_
          refine k_seq ?_
          refine k_reg .free hmixP (by kernel_rfl) ?_
          refine G_q rfl (op_move (av := .row 1 c_uint8 a0) rfl ?_)
          refine G_q rfl (op_move (av := .exact (.int .i64 (i64 (x1_l2 + 1)))) rfl ?_)
          refine G_q rfl (op_sub rfl rfl rfl ?_)
          obtain ⟨n14, h⟩ := need_some h
          refine G_q rfl (op_index_row (by kernel_rfl) rfl rfl n14.1 n14.2 ?_)
          refine G_q rfl (op_load1p (a := .exact (.int .u8 (UInt8.toNat (gi a0 (i64 ((i64 (x1_l2 + 1)) - 1))) : Int))) (by kernel_rfl) rfl rfl ?_)
          refine G_q rfl (op_lssU (a := (gi a0 (i64 ((i64 (x1_l2 + 1)) - 1)))) (b := 128) rfl rfl ?_)
          refine G_nil ?_
          refine kC_normal ?_
          refine k_cond_d (p := (gi a0 (i64 ((i64 (x1_l2 + 1)) - 1))) < 128) rfl (fun hc => ?_) (fun hc => ?_)
          · replace h := ite_t h hc
            refine k_seq ?_
            refine k_reg .free hmixP (by kernel_rfl) ?_
            refine G_q rfl (op_move (av := .exact (.int .i64 (i64 (x7_l2 + (i64 ((Int.tmod (UInt8.toNat (gi a0 x1_l2) : Int) 128) * x8_l2)))))) rfl ?_)
            refine G_q rfl (op_move (av := .exact (.int .i64 (i64 (x1_l2 + 1)))) rfl ?_)
            refine G_q rfl (op_assign (av := .exact (.int .i64 (i64 (x7_l2 + (i64 ((Int.tmod (UInt8.toNat (gi a0 x1_l2) : Int) 128) * x8_l2)))))) rfl ?_)
            refine G_q rfl (op_assign (av := .exact (.int .i64 (i64 (x1_l2 + 1)))) rfl ?_)
            refine G_q rfl (op_assign (av := .exact (.int .i64 0)) rfl ?_)
            refine G_nil ?_
            refine kC_normal ?_
            refine k_ret ?_
            refine kB_ret ?_
            refine kC_ret ?_
            refine kI_ret ?_
            refine kB_ret ?_
            refine kI_ret ?_
            obtain rfl := Option.some.inj h
            refine kP_any (endN (af' := (AF.put (AF.put (AF.put AF0 (some 4) (.exact (.int .i64 (i64 (x7_l2 + (i64 ((Int.tmod (UInt8.toNat (gi a0 x1_l2) : Int) 128) * x8_l2))))))) (some 5) (.exact (.int .i64 (i64 (x1_l2 + 1))))) (some 6) (.exact (.int .i64 0)))) (σ' := []) _ rfl ?_ ⟨rfl, rfl⟩)
            exact Sub.of_le (AF.le_put (AV.le_eq rfl) (AF.le_put (AV.le_eq rfl) (AF.le_put (AV.le_eq rfl) (AF.le_top _))))
          · replace h := ite_f h hc
            refine k_skip ?_
            refine kB_normal ?_
            refine kC_normal ?_
            refine k_reg .free hmixP (by kernel_rfl) ?_
            refine G_q rfl (op_move (av := .exact (.int .i64 x9_l2)) rfl ?_)
            refine G_q rfl (op_add rfl rfl rfl ?_)
            refine G_q rfl (op_assign (av := .exact (.int .i64 (i64 (x9_l2 + 1)))) rfl ?_)
            refine G_nil ?_
            refine kI_normal ⟨_, _, _, _, h, ?_⟩
            exact Sub.of_le (AF.le_put (AV.le_eq rfl) (AF.le_put (AV.le_eq rfl) (AF.le_put (AV.le_eq rfl) (AF.le_put (AV.le_eq rfl) (AF.le_put (AV.le_eq rfl) (AF.le_top _))))))
      · replace h := ite_f h hc
        refine k_exit ?_
        refine kC_exit ?_
        refine kI_exit ?_
        refine kB_exit ?_
        refine kI_normal ⟨_, h, ?_⟩
        exact Sub.of_le (AF.le_put (AV.le_eq rfl) (AF.le_top _))
  · refine k_seq ?_
    refine k_reg .free hmixP (by kernel_rfl) ?_
    refine G_q rfl (op_move (av := .exact (.int .i64 x1_j1)) rfl ?_)
    refine G_q rfl (op_assign (av := .exact (.int .i64 0)) rfl ?_)
    refine G_q rfl (op_assign (av := .exact (.int .i64 x1_j1)) rfl ?_)
    refine G_q rfl (op_assign (av := .exact (.int .i64 22)) rfl ?_)
    refine G_nil ?_
    refine kC_normal ?_
    refine k_ret ?_
    obtain rfl := Option.some.inj h
    refine kP_any (endN (af' := (AF.put (AF.put (AF.put AF0 (some 4) (.exact (.int .i64 0))) (some 5) (.exact (.int .i64 x1_j1))) (some 6) (.exact (.int .i64 22)))) (σ' := []) _ rfl ?_ ⟨rfl, rfl⟩)
    exact Sub.of_le (AF.le_put (AV.le_eq rfl) (AF.le_put (AV.le_eq rfl) (AF.le_put (AV.le_eq rfl) (AF.le_top _))))
set_option maxHeartbeats 4000000 in
theorem m_codec_Checksum_ok (a0 : List UInt8) (r : Int) (h : m_codec_Checksum a0 = some r) : Pure Try.prog 101 [(.row 1 c_uint8 a0)] (.exact (.int .u32 r)) := by
  unfold m_codec_Checksum at h
  refine Pure.ofFun (fun_of_awp Try.func101 rfl Try.ntmps101 (by simp) rfl (res1 rfl) fun E hE => k_end ?_)
  refine k_seq ?_
  refine k_reg .free hmixP (by kernel_rfl) ?_
  refine G_q rfl (op_assign (av := .exact (.int .u32 0)) rfl ?_)
  refine G_nil ?_
  refine kC_normal ?_
  refine k_seq ?_
  refine k_reg .free hmixP (by kernel_rfl) ?_
  refine G_q rfl (op_assign (av := .exact (.int .u32 4294967295)) rfl ?_)
  refine G_nil ?_
  refine kC_normal ?_
  refine k_join1_0 h (fun (x3_j1 : Int) => (AF.put AF0 (some 3) (.exact (.int .u32 x3_j1)))) (fun (x3_j1 : Int) => []) (fun k1 h => ?_) (fun x3_j1 h => ?_)
  · refine k_seq ?_
    refine k_reg .free hmixP (by kernel_rfl) ?_
    refine G_q rfl (op_move (av := .row 1 c_uint8 a0) rfl ?_)
    refine G_q rfl (op_len_row (by kernel_rfl) rfl ?_)
    refine G_q rfl (op_move (av := .exact (.int .i64 0)) rfl ?_)
    refine G_nil ?_
    refine kC_normal ?_
    refine k_block ?_
    refine k_loop2_0 (m_codec_Checksum_L8 a0 k1) (m_codec_Checksum_B8 a0 k1) (fun _ _ => rfl) (fun m _ _ => rfl) h (fun (x3_l8 : Int) (x8_l8 : Int) => (AF.put (AF.put (AF.put (AF.put AF0 (some 3) (.exact (.int .u32 x3_l8))) (some 6) (.row 1 c_uint8 a0)) (some 7) (.exact (.int .i64 (List.length a0 : Int)))) (some 8) (.exact (.int .i64 x8_l8)))) (fun (x3_l8 : Int) (x8_l8 : Int) => []) ?_ (fun rec8 x3_l8 x8_l8 h => ?_)
    · exact Sub.of_le (AF.le_put (AV.le_eq rfl) (AF.le_put (AV.le_eq rfl) (AF.le_put (AV.le_eq rfl) (AF.le_put (AV.le_eq rfl) (AF.le_top _)))))
    · unfold m_codec_Checksum_B8 at h
      refine k_seq ?_
      refine k_reg .free hmixP (by kernel_rfl) ?_
      refine G_q rfl (op_lss rfl rfl ?_)
      refine G_nil ?_
      refine kC_normal ?_
      refine k_seq ?_
      refine k_cond_d (p := x8_l8 < (List.length a0 : Int)) rfl (fun hc => ?_) (fun hc => ?_)
      · replace h := ite_t h hc
        refine k_skip ?_
        refine kC_normal ?_
        refine k_join1_0 h (fun (x3_j58 : Int) => (AF.put (AF.put (AF.put (AF.put AF0 (some 3) (.exact (.int .u32 x3_j58))) (some 6) (.row 1 c_uint8 a0)) (some 7) (.exact (.int .i64 (List.length a0 : Int)))) (some 8) (.exact (.int .i64 x8_l8)))) (fun (x3_j58 : Int) => []) (fun k58 h => ?_) (fun x3_j58 h => ?_)
        · refine k_block ?_
          refine k_seq ?_
          refine k_reg .free hmixP (by kernel_rfl) ?_
          obtain ⟨n64, h⟩ := need_some h
          refine G_q rfl (op_index_row (by kernel_rfl) rfl rfl n64.1 n64.2 ?_)
          refine G_q rfl (op_load1p (a := .exact (.int .u8 (UInt8.toNat (gi a0 x8_l8) : Int))) (by kernel_rfl) rfl rfl ?_)
          refine G_q rfl (op_assign (av := .exact (.int .u8 (UInt8.toNat (gi a0 x8_l8) : Int))) rfl ?_)
          refine G_nil ?_
          refine kC_normal ?_
          refine k_seq ?_
          refine k_reg .free hmixP (by kernel_rfl) ?_
          refine G_q rfl (op_move (av := .exact (.int .u32 x3_l8)) rfl ?_)
          refine G_q rfl (op_move (av := .exact (.int .u8 (UInt8.toNat (gi a0 x8_l8) : Int))) rfl ?_)
          refine G_q rfl (op_convInt (k := .u32) (r := (UInt8.toNat (gi a0 x8_l8) : Int)) (by kernel_rfl) rfl (wrap_u8 rfl _) ?_)
          refine G_q rfl (op_xor rfl rfl rfl ?_)
          refine G_q rfl (op_assign (av := .exact (.int .u32 (bXor .u32 x3_l8 (UInt8.toNat (gi a0 x8_l8) : Int)))) rfl ?_)
          refine G_nil ?_
          refine kC_normal ?_
          refine k_seq ?_
          refine k_reg .free hmixP (by kernel_rfl) ?_
          refine G_q rfl (op_move (av := .exact (.int .i64 0)) rfl ?_)
          refine G_nil ?_
          refine kC_normal ?_
          refine k_block ?_
          refine k_loop2_0 (m_codec_Checksum_L14 k58) (m_codec_Checksum_B14 k58) (fun _ _ => rfl) (fun m _ _ => rfl) h (fun (x3_l14 : Int) (x16_l14 : Int) => (AF.put (AF.put (AF.put (AF.put (AF.put AF0 (some 3) (.exact (.int .u32 x3_l14))) (some 6) (.row 1 c_uint8 a0)) (some 7) (.exact (.int .i64 (List.length a0 : Int)))) (some 8) (.exact (.int .i64 x8_l8))) (some 16) (.exact (.int .i64 x16_l14)))) (fun (x3_l14 : Int) (x16_l14 : Int) => []) ?_ (fun rec14 x3_l14 x16_l14 h => ?_)
          · exact Sub.of_le (AF.le_put (AV.le_eq rfl) (AF.le_put (AV.le_eq rfl) (AF.le_put (AV.le_eq rfl) (AF.le_put (AV.le_eq rfl) (AF.le_put (AV.le_eq rfl) (AF.le_top _))))))
          · unfold m_codec_Checksum_B14 at h
            refine k_seq ?_
            refine k_reg .free hmixP (by kernel_rfl) ?_
            refine G_q rfl (op_lss rfl rfl ?_)
            refine G_nil ?_
            refine kC_normal ?_
            refine k_seq ?_
            refine k_cond_d (p := x16_l14 < 8) rfl (fun hc => ?_) (fun hc => ?_)
            · replace h := ite_t h hc
              refine k_skip ?_
              refine kC_normal ?_
              refine k_join1_0 h (fun (x3_j67 : Int) => (AF.put (AF.put (AF.put (AF.put (AF.put AF0 (some 3) (.exact (.int .u32 x3_j67))) (some 6) (.row 1 c_uint8 a0)) (some 7) (.exact (.int .i64 (List.length a0 : Int)))) (some 8) (.exact (.int .i64 x8_l8))) (some 16) (.exact (.int .i64 x16_l14)))) (fun (x3_j67 : Int) => []) (fun k67 h => ?_) (fun x3_j67 h => ?_)
              · refine k_block ?_
                refine k_seq ?_
                refine k_reg .free hmixP (by kernel_rfl) ?_
                refine G_q rfl (op_move (av := .exact (.int .u32 x3_l14)) rfl ?_)
                refine G_q rfl (op_and rfl rfl rfl ?_)
                refine G_q rfl (op_neq rfl rfl ?_)
                refine G_nil ?_
                refine kC_normal ?_
                refine k_cond_d (p := ¬ (bAnd .u32 x3_l14 1) = 0) rfl (fun hc => ?_) (fun hc => ?_)
                · replace h := ite_t h hc
                  refine k_reg .free hmixP (by kernel_rfl) ?_
                  refine G_q rfl (op_move (av := .exact (.int .u32 x3_l14)) rfl ?_)
                  refine G_q rfl (op_shr rfl rfl (by decide) rfl ?_)
                  refine G_q rfl (op_xor rfl rfl rfl ?_)
                  refine G_q rfl (op_assign (av := .exact (.int .u32 (bXor .u32 (Int.fdiv x3_l14 (2 ^ min (Int.toNat 1) IntKind.u32.bits)) 3988292384))) rfl ?_)
                  refine G_nil ?_
                  refine kB_normal ?_
                  refine kI_normal ⟨_, h, ?_⟩
                  exact Sub.of_le (AF.le_put (AV.le_eq rfl) (AF.le_put (AV.le_eq rfl) (AF.le_put (AV.le_eq rfl) (AF.le_put (AV.le_eq rfl) (AF.le_put (AV.le_eq rfl) (AF.le_top _))))))
                · replace h := ite_f h hc
                  refine k_reg .free hmixP (by kernel_rfl) ?_
                  refine G_q rfl (op_move (av := .exact (.int .u32 x3_l14)) rfl ?_)
                  refine G_q rfl (op_shr rfl rfl (by decide) rfl ?_)
                  refine G_q rfl (op_assign (av := .exact (.int .u32 (Int.fdiv x3_l14 (2 ^ min (Int.toNat 1) IntKind.u32.bits)))) rfl ?_)
                  refine G_nil ?_
                  refine kB_normal ?_
                  refine kI_normal ⟨_, h, ?_⟩
                  exact Sub.of_le (AF.le_put (AV.le_eq rfl) (AF.le_put (AV.le_eq rfl) (AF.le_put (AV.le_eq rfl) (AF.le_put (AV.le_eq rfl) (AF.le_put (AV.le_eq rfl) (AF.le_top _))))))
              · refine k_reg .free hmixP (by kernel_rfl) ?_
                refine G_q rfl (op_add rfl rfl rfl ?_)
                refine G_q rfl (op_move (av := .exact (.int .i64 (i64 (x16_l14 + 1)))) rfl ?_)
                refine G_nil ?_
                refine kI_normal ⟨_, _, h, ?_⟩
                exact Sub.of_le (AF.le_put (AV.le_eq rfl) (AF.le_put (AV.le_eq rfl) (AF.le_put (AV.le_eq rfl) (AF.le_put (AV.le_eq rfl) (AF.le_put (AV.le_eq rfl) (AF.le_top _))))))
            · replace h := ite_f h hc
              refine k_exit ?_
              refine kC_exit ?_
              refine kI_exit ?_
              refine kB_exit ?_
              refine kB_normal ?_
              refine kI_normal ⟨_, h, ?_⟩
              exact Sub.of_le (AF.le_put (AV.le_eq rfl) (AF.le_put (AV.le_eq rfl) (AF.le_put (AV.le_eq rfl) (AF.le_put (AV.le_eq rfl) (AF.le_top _)))))
        · refine k_reg .free hmixP (by kernel_rfl) ?_
          refine G_q rfl (op_add rfl rfl rfl ?_)
          refine G_q rfl (op_move (av := .exact (.int .i64 (i64 (x8_l8 + 1)))) rfl ?_)
          refine G_nil ?_
          refine kI_normal ⟨_, _, h, ?_⟩
          exact Sub.of_le (AF.le_put (AV.le_eq rfl) (AF.le_put (AV.le_eq rfl) (AF.le_put (AV.le_eq rfl) (AF.le_put (AV.le_eq rfl) (AF.le_top _)))))
      · replace h := ite_f h hc
        refine k_exit ?_
        refine kC_exit ?_
        refine kI_exit ?_
        refine kB_exit ?_
        refine kI_normal ⟨_, h, ?_⟩
        exact Sub.of_le (AF.le_put (AV.le_eq rfl) (AF.le_top _))
  · refine k_seq ?_
    refine k_reg .free hmixP (by kernel_rfl) ?_
    refine G_q rfl (op_move (av := .exact (.int .u32 x3_j1)) rfl ?_)
    refine G_q rfl (op_com (m := 4294967295) rfl rfl ?_)
    refine G_q rfl (op_assign (av := .exact (.int .u32 (bXor .u32 4294967295 x3_j1))) rfl ?_)
    refine G_nil ?_
    refine kC_normal ?_
    refine k_ret ?_
    obtain rfl := Option.some.inj h
    refine kP_any (endN (af' := (AF.put AF0 (some 2) (.exact (.int .u32 (bXor .u32 4294967295 x3_j1))))) (σ' := []) _ rfl ?_ ⟨rfl, rfl⟩)
    exact Sub.of_le (AF.le_put (AV.le_eq rfl) (AF.le_top _))
set_option maxHeartbeats 4000000 in
theorem m_codec_Sealed_ok (a0 : List UInt8) (r : Bool) (h : m_codec_Sealed a0 = some r) : Pure Try.prog 80 [(.row 1 c_uint8 a0)] (.exact (.bool r)) := by
  unfold m_codec_Sealed at h
  refine Pure.ofFun (fun_of_awp Try.func80 rfl Try.ntmps80 (by simp) rfl (res1 rfl) fun E hE => k_end ?_)
  refine k_seq ?_
  refine k_reg .free hmixP (by kernel_rfl) ?_
  refine G_q rfl (op_assign (av := .exact (.bool false)) rfl ?_)
  refine G_nil ?_
  refine kC_normal ?_
  refine k_seq ?_
  refine k_reg .free hmixP (by kernel_rfl) ?_
  refine G_q rfl (op_move (av := .row 1 c_uint8 a0) rfl ?_)
  refine G_q rfl (op_len_row (by kernel_rfl) rfl ?_)
  refine G_q rfl (op_sub rfl rfl rfl ?_)
  refine G_q rfl (op_assign (av := .exact (.int .i64 (i64 ((List.length a0 : Int) - 4)))) rfl ?_)
  refine G_nil ?_
  refine kC_normal ?_
  refine k_seq ?_
  refine k_seq ?_
  refine k_reg .free hmixP (by kernel_rfl) ?_
  refine G_q rfl (op_move (av := .exact (.int .i64 (i64 ((List.length a0 : Int) - 4)))) rfl ?_)
  refine G_q rfl (op_lss rfl rfl ?_)
  refine G_nil ?_
  refine kC_normal ?_
  refine k_cond_d (p := (i64 ((List.length a0 : Int) - 4)) < 0) rfl (fun hc => ?_) (fun hc => ?_)
  · replace h := ite_t h hc
    refine k_seq ?_
    refine k_reg .free hmixP (by kernel_rfl) ?_
    refine G_q rfl (op_assign (av := .exact (.bool false)) rfl ?_)
    refine G_nil ?_
    refine kC_normal ?_
    refine k_ret ?_
    refine kC_ret ?_
    obtain rfl := Option.some.inj h
    refine kP_any (endN (af' := (AF.put AF0 (some 2) (.exact (.bool false)))) (σ' := []) _ rfl ?_ ⟨rfl, rfl⟩)
    exact Sub.of_le (AF.le_put (AV.le_eq rfl) (AF.le_top _))
  · replace h := ite_f h hc
    refine k_skip ?_
    refine kC_normal ?_
    refine k_seq ?_
    refine k_reg .free hmixP (by kernel_rfl) ?_
    refine G_q rfl (op_move (av := .row 1 c_uint8 a0) rfl ?_)
    refine G_q rfl (op_move (av := .exact (.int .i64 (i64 ((List.length a0 : Int) - 4)))) rfl ?_)
    obtain ⟨n1, h⟩ := need_some h
    refine G_q rfl (op_slice_rowt (by kernel_rfl) rfl bnd_none (bnd_some rfl) (Int.le_refl 0) n1.1 n1.2 ?_)
    obtain ⟨y2, hy2, h⟩ := bnd1_some h
    refine G_q rfl (op_pure (m_codec_Checksum_ok _ _ hy2) Try.func101 (by kernel_rfl) (LEs.cons (AV.le_eq rfl) LEs.nil) ?_)
    refine G_q rfl (op_assign (av := .exact (.int .u32 y2)) rfl ?_)
    refine G_nil ?_
    refine kC_normal ?_
    refine k_join1_0 h (fun (x2_j3 : Bool) => (AF.put AF0 (some 2) (.exact (.bool x2_j3)))) (fun (x2_j3 : Bool) => []) (fun k3 h => ?_) (fun x2_j3 h => ?_)
    · refine k_reg .free hmixP (by kernel_rfl) ?_
      refine G_q rfl (op_move (av := .row 1 c_uint8 a0) rfl ?_)
      refine G_q rfl (op_move (av := .exact (.int .i64 (i64 ((List.length a0 : Int) - 4)))) rfl ?_)
      obtain ⟨n8, h⟩ := need_some h
      refine G_q rfl (op_index_row (by kernel_rfl) rfl rfl n8.1 n8.2 ?_)
      refine G_q rfl (op_load1p (a := .exact (.int .u8 (UInt8.toNat (gi a0 (i64 ((List.length a0 : Int) - 4))) : Int))) (by kernel_rfl) rfl rfl ?_)
      refine G_q rfl (op_move (av := .exact (.int .u32 y2)) rfl ?_)
      refine G_q rfl (op_shr rfl rfl (by decide) rfl ?_)
      refine G_q rfl (op_convInt (k := .u8) (r := (UInt8.toNat (u8i (Int.fdiv y2 (2 ^ min (Int.toNat 24) IntKind.u32.bits))) : Int)) (by kernel_rfl) rfl (u8i_eq _) ?_)
      refine G_q rfl (op_eqlU (a := (gi a0 (i64 ((List.length a0 : Int) - 4)))) (b := (u8i (Int.fdiv y2 (2 ^ min (Int.toNat 24) IntKind.u32.bits)))) rfl rfl ?_)
      refine G_q rfl (op_move (av := .exact (.bool (decide ((gi a0 (i64 ((List.length a0 : Int) - 4))) = (u8i (Int.fdiv y2 (2 ^ min (Int.toNat 24) IntKind.u32.bits))))))) rfl ?_)
      refine G_split (p := (gi a0 (i64 ((List.length a0 : Int) - 4))) = (u8i (Int.fdiv y2 (2 ^ min (Int.toNat 24) IntKind.u32.bits)))) 22 rfl (fun hc => ?_) (fun hc => ?_)
      · replace h := ite_t h hc
        refine Gy_q rfl rfl rfl (op_move (av := .row 1 c_uint8 a0) rfl ?_)
        refine Gy_q rfl rfl rfl (op_move (av := .exact (.int .i64 (i64 ((List.length a0 : Int) - 4)))) rfl ?_)
        refine Gy_q rfl rfl rfl (op_add rfl rfl rfl ?_)
        obtain ⟨n9, h⟩ := need_some h
        refine Gy_q rfl rfl rfl (op_index_row (by kernel_rfl) rfl rfl n9.1 n9.2 ?_)
        refine Gy_q rfl rfl rfl (op_load1p (a := .exact (.int .u8 (UInt8.toNat (gi a0 (i64 ((i64 ((List.length a0 : Int) - 4)) + 1))) : Int))) (by kernel_rfl) rfl rfl ?_)
        refine Gy_q rfl rfl rfl (op_move (av := .exact (.int .u32 y2)) rfl ?_)
        refine Gy_q rfl rfl rfl (op_shr rfl rfl (by decide) rfl ?_)
        refine Gy_q rfl rfl rfl (op_convInt (k := .u8) (r := (UInt8.toNat (u8i (Int.fdiv y2 (2 ^ min (Int.toNat 16) IntKind.u32.bits))) : Int)) (by kernel_rfl) rfl (u8i_eq _) ?_)
        refine Gy_q rfl rfl rfl (op_eqlU (a := (gi a0 (i64 ((i64 ((List.length a0 : Int) - 4)) + 1)))) (b := (u8i (Int.fdiv y2 (2 ^ min (Int.toNat 16) IntKind.u32.bits)))) rfl rfl ?_)
        refine G_q rfl (op_pick_t rfl (av := .exact (.bool (decide ((gi a0 (i64 ((i64 ((List.length a0 : Int) - 4)) + 1))) = (u8i (Int.fdiv y2 (2 ^ min (Int.toNat 16) IntKind.u32.bits))))))) rfl ?_)
        refine G_q rfl (op_move (av := .exact (.bool (decide ((gi a0 (i64 ((i64 ((List.length a0 : Int) - 4)) + 1))) = (u8i (Int.fdiv y2 (2 ^ min (Int.toNat 16) IntKind.u32.bits))))))) rfl ?_)
        refine G_split (p := (gi a0 (i64 ((i64 ((List.length a0 : Int) - 4)) + 1))) = (u8i (Int.fdiv y2 (2 ^ min (Int.toNat 16) IntKind.u32.bits)))) 33 rfl (fun hc => ?_) (fun hc => ?_)
        · replace h := ite_t h hc
          refine Gy_q rfl rfl rfl (op_move (av := .row 1 c_uint8 a0) rfl ?_)
          refine Gy_q rfl rfl rfl (op_move (av := .exact (.int .i64 (i64 ((List.length a0 : Int) - 4)))) rfl ?_)
          refine Gy_q rfl rfl rfl (op_add rfl rfl rfl ?_)
          obtain ⟨n10, h⟩ := need_some h
          refine Gy_q rfl rfl rfl (op_index_row (by kernel_rfl) rfl rfl n10.1 n10.2 ?_)
          refine Gy_q rfl rfl rfl (op_load1p (a := .exact (.int .u8 (UInt8.toNat (gi a0 (i64 ((i64 ((List.length a0 : Int) - 4)) + 2))) : Int))) (by kernel_rfl) rfl rfl ?_)
          refine Gy_q rfl rfl rfl (op_move (av := .exact (.int .u32 y2)) rfl ?_)
          refine Gy_q rfl rfl rfl (op_shr rfl rfl (by decide) rfl ?_)
          refine Gy_q rfl rfl rfl (op_convInt (k := .u8) (r := (UInt8.toNat (u8i (Int.fdiv y2 (2 ^ min (Int.toNat 8) IntKind.u32.bits))) : Int)) (by kernel_rfl) rfl (u8i_eq _) ?_)
          refine Gy_q rfl rfl rfl (op_eqlU (a := (gi a0 (i64 ((i64 ((List.length a0 : Int) - 4)) + 2)))) (b := (u8i (Int.fdiv y2 (2 ^ min (Int.toNat 8) IntKind.u32.bits)))) rfl rfl ?_)
          refine G_q rfl (op_pick_t rfl (av := .exact (.bool (decide ((gi a0 (i64 ((i64 ((List.length a0 : Int) - 4)) + 2))) = (u8i (Int.fdiv y2 (2 ^ min (Int.toNat 8) IntKind.u32.bits))))))) rfl ?_)
          refine G_q rfl (op_move (av := .exact (.bool (decide ((gi a0 (i64 ((i64 ((List.length a0 : Int) - 4)) + 2))) = (u8i (Int.fdiv y2 (2 ^ min (Int.toNat 8) IntKind.u32.bits))))))) rfl ?_)
          refine G_split (p := (gi a0 (i64 ((i64 ((List.length a0 : Int) - 4)) + 2))) = (u8i (Int.fdiv y2 (2 ^ min (Int.toNat 8) IntKind.u32.bits)))) 44 rfl (fun hc => ?_) (fun hc => ?_)
          · replace h := ite_t h hc
            refine Gy_q rfl rfl rfl (op_move (av := .row 1 c_uint8 a0) rfl ?_)
            refine Gy_q rfl rfl rfl (op_move (av := .exact (.int .i64 (i64 ((List.length a0 : Int) - 4)))) rfl ?_)
            refine Gy_q rfl rfl rfl (op_add rfl rfl rfl ?_)
            obtain ⟨n11, h⟩ := need_some h
            refine Gy_q rfl rfl rfl (op_index_row (by kernel_rfl) rfl rfl n11.1 n11.2 ?_)
            refine Gy_q rfl rfl rfl (op_load1p (a := .exact (.int .u8 (UInt8.toNat (gi a0 (i64 ((i64 ((List.length a0 : Int) - 4)) + 3))) : Int))) (by kernel_rfl) rfl rfl ?_)
            refine Gy_q rfl rfl rfl (op_move (av := .exact (.int .u32 y2)) rfl ?_)
            refine Gy_q rfl rfl rfl (op_convInt (k := .u8) (r := (UInt8.toNat (u8i y2) : Int)) (by kernel_rfl) rfl (u8i_eq _) ?_)
            refine Gy_q rfl rfl rfl (op_eqlU (a := (gi a0 (i64 ((i64 ((List.length a0 : Int) - 4)) + 3)))) (b := (u8i y2)) rfl rfl ?_)
            refine G_q rfl (op_pick_t rfl (av := .exact (.bool (decide ((gi a0 (i64 ((i64 ((List.length a0 : Int) - 4)) + 3))) = (u8i y2))))) rfl ?_)
            refine G_q rfl (op_assign (av := .exact (.bool (decide ((gi a0 (i64 ((i64 ((List.length a0 : Int) - 4)) + 3))) = (u8i y2))))) rfl ?_)
            refine G_nil ?_
            refine kI_normal ⟨_, h, ?_⟩
            exact Sub.of_le (AF.le_put (AV.le_eq rfl) (AF.le_top _))
          · replace h := ite_f h hc
            refine G_n rfl rfl ?_
            refine G_n rfl rfl ?_
            refine G_n rfl rfl ?_
            refine G_n rfl rfl ?_
            refine G_n rfl rfl ?_
            refine G_n rfl rfl ?_
            refine G_n rfl rfl ?_
            refine G_n rfl rfl ?_
            refine G_q rfl (op_pick_f rfl (av := .exact (.bool false)) rfl ?_)
            refine G_q rfl (op_assign (av := .exact (.bool false)) rfl ?_)
            refine G_nil ?_
            refine kI_normal ⟨_, h, ?_⟩
            exact Sub.of_le (AF.le_put (AV.le_eq rfl) (AF.le_top _))
        · replace h := ite_f h hc
          refine G_n rfl rfl ?_
          refine G_n rfl rfl ?_
          refine G_n rfl rfl ?_
          refine G_n rfl rfl ?_
          refine G_n rfl rfl ?_
          refine G_n rfl rfl ?_
          refine G_n rfl rfl ?_
          refine G_n rfl rfl ?_
          refine G_n rfl rfl ?_
          refine G_q rfl (op_pick_f rfl (av := .exact (.bool false)) rfl ?_)
          refine G_q rfl (op_move (av := .exact (.bool false)) rfl ?_)
          refine G_n rfl rfl ?_
          refine G_n rfl rfl ?_
          refine G_n rfl rfl ?_
          refine G_n rfl rfl ?_
          refine G_n rfl rfl ?_
          refine G_n rfl rfl ?_
          refine G_n rfl rfl ?_
          refine G_n rfl rfl ?_
          refine G_q rfl (op_pick_f rfl (av := .exact (.bool false)) rfl ?_)
          refine G_q rfl (op_assign (av := .exact (.bool false)) rfl ?_)
          refine G_nil ?_
          refine kI_normal ⟨_, h, ?_⟩
          exact Sub.of_le (AF.le_put (AV.le_eq rfl) (AF.le_top _))
      · replace h := ite_f h hc
        refine G_n rfl rfl ?_
        refine G_n rfl rfl ?_
        refine G_n rfl rfl ?_
        refine G_n rfl rfl ?_
        refine G_n rfl rfl ?_
        refine G_n rfl rfl ?_
        refine G_n rfl rfl ?_
        refine G_n rfl rfl ?_
        refine G_n rfl rfl ?_
        refine G_q rfl (op_pick_f rfl (av := .exact (.bool false)) rfl ?_)
        refine G_q rfl (op_move (av := .exact (.bool false)) rfl ?_)
        refine G_n rfl rfl ?_
        refine G_n rfl rfl ?_
        refine G_n rfl rfl ?_
        refine G_n rfl rfl ?_
        refine G_n rfl rfl ?_
        refine G_n rfl rfl ?_
        refine G_n rfl rfl ?_
        refine G_n rfl rfl ?_
        refine G_n rfl rfl ?_
        refine G_q rfl (op_pick_f rfl (av := .exact (.bool false)) rfl ?_)
        refine G_q rfl (op_move (av := .exact (.bool false)) rfl ?_)
        refine G_n rfl rfl ?_
        refine G_n rfl rfl ?_
        refine G_n rfl rfl ?_
        refine G_n rfl rfl ?_
        refine G_n rfl rfl ?_
        refine G_n rfl rfl ?_
        refine G_n rfl rfl ?_
        refine G_n rfl rfl ?_
        refine G_q rfl (op_pick_f rfl (av := .exact (.bool false)) rfl ?_)
        refine G_q rfl (op_assign (av := .exact (.bool false)) rfl ?_)
        refine G_nil ?_
        refine kI_normal ⟨_, h, ?_⟩
        exact Sub.of_le (AF.le_put (AV.le_eq rfl) (AF.le_top _))
    · refine k_ret ?_
      obtain rfl := Option.some.inj h
      refine kP_any (endN (af' := (AF.put AF0 (some 2) (.exact (.bool x2_j3)))) (σ' := []) _ rfl ?_ ⟨rfl, rfl⟩)
      exact Sub.of_le (AF.le_put (AV.le_eq rfl) (AF.le_top _))
set_option maxHeartbeats 4000000 in
theorem m_frontier_isPair_ok (a0 : Int × Int) (r : Bool) (h : m_frontier_isPair a0 = some r) : Pure Try.prog 62 [(.agg (c_A2_int a0))] (.exact (.bool r)) := by
  unfold m_frontier_isPair at h
  refine Pure.ofFun (fun_of_awp Try.func62 rfl Try.ntmps62 (by simp) rfl (res1 rfl) fun E hE => k_end ?_)
  refine k_seq ?_
  refine k_reg .free hmixP (by kernel_rfl) ?_
  refine G_q rfl (op_box (c := c_A2_int a0) rfl CellsOf.agg ?_)
  refine G_q rfl (op_assign (av := .exact (.bool false)) rfl ?_)
  refine G_nil ?_
  refine kC_normal ?_
  refine k_join1_0 h (fun (x2_j1 : Bool) => (AF.put AF0 (some 2) (.exact (.bool x2_j1)))) (fun (x2_j1 : Bool) => []) (fun k1 h => ?_) (fun x2_j1 h => ?_)
  · refine k_reg .free hmixP (by kernel_rfl) ?_
    refine G_q rfl (op_indexArr_ptr (m := 2) (n := 1) (c' := (List.drop 0 (c_A2_int a0))) (by kernel_rfl) rfl rfl (by decide) (by decide) rfl ?_)
    refine G_q rfl (op_load1p (a := .exact (.int .i64 a0.1)) (by kernel_rfl) rfl rfl ?_)
    refine G_q rfl (op_geq rfl rfl ?_)
    refine G_q rfl (op_move (av := .exact (.bool (decide (0 ≤ a0.1)))) rfl ?_)
    refine G_split (p := 0 ≤ a0.1) 6 rfl (fun hc => ?_) (fun hc => ?_)
    · replace h := ite_t h hc
      refine Gy_q rfl rfl rfl (op_indexArr_ptr (m := 2) (n := 1) (c' := (List.drop 1 (c_A2_int a0))) (by kernel_rfl) rfl rfl (by decide) (by decide) rfl ?_)
      refine Gy_q rfl rfl rfl (op_load1p (a := .exact (.int .i64 a0.2)) (by kernel_rfl) rfl rfl ?_)
      refine Gy_q rfl rfl rfl (op_geq rfl rfl ?_)
      refine G_q rfl (op_pick_t rfl (av := .exact (.bool (decide (0 ≤ a0.2)))) rfl ?_)
      refine G_q rfl (op_move (av := .exact (.bool (decide (0 ≤ a0.2)))) rfl ?_)
      refine G_split (p := 0 ≤ a0.2) 11 rfl (fun hc => ?_) (fun hc => ?_)
      · replace h := ite_t h hc
        refine Gy_q rfl rfl rfl (op_indexArr_ptr (m := 2) (n := 1) (c' := (List.drop 0 (c_A2_int a0))) (by kernel_rfl) rfl rfl (by decide) (by decide) rfl ?_)
        refine Gy_q rfl rfl rfl (op_load1p (a := .exact (.int .i64 a0.1)) (by kernel_rfl) rfl rfl ?_)
        refine Gy_q rfl rfl rfl (op_leq rfl rfl ?_)
        refine G_q rfl (op_pick_t rfl (av := .exact (.bool (decide (a0.1 ≤ 2147483647)))) rfl ?_)
        refine G_q rfl (op_move (av := .exact (.bool (decide (a0.1 ≤ 2147483647)))) rfl ?_)
        refine G_split (p := a0.1 ≤ 2147483647) 16 rfl (fun hc => ?_) (fun hc => ?_)
        · replace h := ite_t h hc
          refine Gy_q rfl rfl rfl (op_indexArr_ptr (m := 2) (n := 1) (c' := (List.drop 1 (c_A2_int a0))) (by kernel_rfl) rfl rfl (by decide) (by decide) rfl ?_)
          refine Gy_q rfl rfl rfl (op_load1p (a := .exact (.int .i64 a0.2)) (by kernel_rfl) rfl rfl ?_)
          refine Gy_q rfl rfl rfl (op_leq rfl rfl ?_)
          refine G_q rfl (op_pick_t rfl (av := .exact (.bool (decide (a0.2 ≤ 2147483647)))) rfl ?_)
          refine G_q rfl (op_assign (av := .exact (.bool (decide (a0.2 ≤ 2147483647)))) rfl ?_)
          refine G_nil ?_
          refine kI_normal ⟨_, h, ?_⟩
          exact Sub.of_le (AF.le_put (AV.le_eq rfl) (AF.le_top _))
        · replace h := ite_f h hc
          refine G_n rfl rfl ?_
          refine G_n rfl rfl ?_
          refine G_n rfl rfl ?_
          refine G_q rfl (op_pick_f rfl (av := .exact (.bool false)) rfl ?_)
          refine G_q rfl (op_assign (av := .exact (.bool false)) rfl ?_)
          refine G_nil ?_
          refine kI_normal ⟨_, h, ?_⟩
          exact Sub.of_le (AF.le_put (AV.le_eq rfl) (AF.le_top _))
      · replace h := ite_f h hc
        refine G_n rfl rfl ?_
        refine G_n rfl rfl ?_
        refine G_n rfl rfl ?_
        refine G_q rfl (op_pick_f rfl (av := .exact (.bool false)) rfl ?_)
        refine G_q rfl (op_move (av := .exact (.bool false)) rfl ?_)
        refine G_n rfl rfl ?_
        refine G_n rfl rfl ?_
        refine G_n rfl rfl ?_
        refine G_q rfl (op_pick_f rfl (av := .exact (.bool false)) rfl ?_)
        refine G_q rfl (op_assign (av := .exact (.bool false)) rfl ?_)
        refine G_nil ?_
        refine kI_normal ⟨_, h, ?_⟩
        exact Sub.of_le (AF.le_put (AV.le_eq rfl) (AF.le_top _))
    · replace h := ite_f h hc
      refine G_n rfl rfl ?_
      refine G_n rfl rfl ?_
      refine G_n rfl rfl ?_
      refine G_q rfl (op_pick_f rfl (av := .exact (.bool false)) rfl ?_)
      refine G_q rfl (op_move (av := .exact (.bool false)) rfl ?_)
      refine G_n rfl rfl ?_
      refine G_n rfl rfl ?_
      refine G_n rfl rfl ?_
      refine G_q rfl (op_pick_f rfl (av := .exact (.bool false)) rfl ?_)
      refine G_q rfl (op_move (av := .exact (.bool false)) rfl ?_)
      refine G_n rfl rfl ?_
      refine G_n rfl rfl ?_
      refine G_n rfl rfl ?_
      refine G_q rfl (op_pick_f rfl (av := .exact (.bool false)) rfl ?_)
      refine G_q rfl (op_assign (av := .exact (.bool false)) rfl ?_)
      refine G_nil ?_
      refine kI_normal ⟨_, h, ?_⟩
      exact Sub.of_le (AF.le_put (AV.le_eq rfl) (AF.le_top _))
  · refine k_ret ?_
    obtain rfl := Option.some.inj h
    refine kP_any (endN (af' := (AF.put AF0 (some 2) (.exact (.bool x2_j1)))) (σ' := []) _ rfl ?_ ⟨rfl, rfl⟩)
    exact Sub.of_le (AF.le_put (AV.le_eq rfl) (AF.le_top _))
set_option maxHeartbeats 4000000 in
theorem m_cmp_isNaN_int_ok (a0 : Int) (r : Bool) (h : m_cmp_isNaN_int a0 = some r) : Pure Try.prog 115 [(.exact (.int .i64 a0))] (.exact (.bool r)) := by
  unfold m_cmp_isNaN_int at h
  refine Pure.ofFun (fun_of_awp Try.func115 rfl Try.ntmps115 (by simp) rfl (res1 rfl) fun E hE => k_end ?_)
  refine k_seq ?_
  refine k_reg .free hmixP (by kernel_rfl) ?_
  refine G_q rfl (op_assign (av := .exact (.bool false)) rfl ?_)
  refine G_nil ?_
  refine kC_normal ?_
  refine k_seq ?_
  refine k_reg .free hmixP (by kernel_rfl) ?_
  refine G_q rfl (op_move (av := .exact (.int .i64 a0)) rfl ?_)
  refine G_q rfl (op_move (av := .exact (.int .i64 a0)) rfl ?_)
  refine G_q rfl (op_neq rfl rfl ?_)
  refine G_q rfl (op_assign (av := .exact (.bool (decide (¬ a0 = a0)))) rfl ?_)
  refine G_nil ?_
  refine kC_normal ?_
  refine k_ret ?_
  obtain rfl := Option.some.inj h
  refine kP_any (endN (af' := (AF.put AF0 (some 2) (.exact (.bool (decide (¬ a0 = a0)))))) (σ' := []) _ rfl ?_ ⟨rfl, rfl⟩)
  exact Sub.of_le (AF.le_put (AV.le_eq rfl) (AF.le_top _))
set_option maxHeartbeats 4000000 in
theorem m_cmp_Compare_int_ok (a0 : Int) (a1 : Int) (r : Int) (h : m_cmp_Compare_int a0 a1 = some r) : Pure Try.prog 103 [(.exact (.int .i64 a0)), (.exact (.int .i64 a1))] (.exact (.int .i64 r)) := by
  unfold m_cmp_Compare_int at h
  refine Pure.ofFun (fun_of_awp Try.func103 rfl Try.ntmps103 (by simp) rfl (res1 rfl) fun E hE => k_end ?_)
  refine k_seq ?_
  refine k_reg .free hmixP (by kernel_rfl) ?_
  refine G_q rfl (op_assign (av := .exact (.int .i64 0)) rfl ?_)
  refine G_nil ?_
  refine kC_normal ?_
  refine k_seq ?_
  refine k_reg .free hmixP (by kernel_rfl) ?_
  refine G_q rfl (op_move (av := .exact (.int .i64 a0)) rfl ?_)
  obtain ⟨y1, hy1, h⟩ := bnd1_some h
  refine G_q rfl (op_pure (m_cmp_isNaN_int_ok _ _ hy1) Try.func115 (by kernel_rfl) (LEs.cons (AV.le_eq rfl) LEs.nil) ?_)
  refine G_q rfl (op_assign (av := .exact (.bool y1)) rfl ?_)
  refine G_nil ?_
  refine kC_normal ?_
  refine k_seq ?_
  refine k_reg .free hmixP (by kernel_rfl) ?_
  refine G_q rfl (op_move (av := .exact (.int .i64 a1)) rfl ?_)
  obtain ⟨y2, hy2, h⟩ := bnd1_some h
  refine G_q rfl (op_pure (m_cmp_isNaN_int_ok _ _ hy2) Try.func115 (by kernel_rfl) (LEs.cons (AV.le_eq rfl) LEs.nil) ?_)
  refine G_q rfl (op_assign (av := .exact (.bool y2)) rfl ?_)
  refine G_nil ?_
  refine kC_normal ?_
  refine k_seq ?_
  refine k_seq ?_
  refine k_reg .free hmixP (by kernel_rfl) ?_
  refine G_q rfl (op_move (av := .exact (.bool y1)) rfl ?_)
  refine G_nil ?_
  refine kC_normal ?_
  refine k_cond_b (c := y1) rfl (fun hc => ?_) (fun hc => ?_)
  · replace h := ite_t h hc
    refine k_seq ?_
    refine k_seq ?_
    refine k_reg .free hmixP (by kernel_rfl) ?_
    refine G_q rfl (op_move (av := .exact (.bool y2)) rfl ?_)
    refine G_nil ?_
    refine kC_normal ?_
    refine k_cond_b (c := y2) rfl (fun hc => ?_) (fun hc => ?_)
    · replace h := ite_t h hc
      refine k_seq ?_
      refine k_reg .free hmixP (by kernel_rfl) ?_
      refine G_q rfl (op_assign (av := .exact (.int .i64 0)) rfl ?_)
      refine G_nil ?_
      refine kC_normal ?_
      refine k_ret ?_
      refine kC_ret ?_
      refine kC_ret ?_
      obtain rfl := Option.some.inj h
      refine kP_any (endN (af' := (AF.put AF0 (some 4) (.exact (.int .i64 0)))) (σ' := []) _ rfl ?_ ⟨rfl, rfl⟩)
      exact Sub.of_le (AF.le_put (AV.le_eq rfl) (AF.le_top _))
    · replace h := ite_f h hc
      refine k_skip ?_
      refine kC_normal ?_
      refine k_seq ?_
      refine k_reg .free hmixP (by kernel_rfl) ?_
      refine G_q rfl (op_assign (av := .exact (.int .i64 (-1))) rfl ?_)
      refine G_nil ?_
      refine kC_normal ?_
      refine k_ret ?_
      refine kC_ret ?_
      obtain rfl := Option.some.inj h
      refine kP_any (endN (af' := (AF.put AF0 (some 4) (.exact (.int .i64 (-1))))) (σ' := []) _ rfl ?_ ⟨rfl, rfl⟩)
      exact Sub.of_le (AF.le_put (AV.le_eq rfl) (AF.le_top _))
  · replace h := ite_f h hc
    refine k_skip ?_
    refine kC_normal ?_
    refine k_seq ?_
    refine k_seq ?_
    refine k_reg .free hmixP (by kernel_rfl) ?_
    refine G_q rfl (op_move (av := .exact (.bool y2)) rfl ?_)
    refine G_nil ?_
    refine kC_normal ?_
    refine k_cond_b (c := y2) rfl (fun hc => ?_) (fun hc => ?_)
    · replace h := ite_t h hc
      refine k_seq ?_
      refine k_reg .free hmixP (by kernel_rfl) ?_
      refine G_q rfl (op_assign (av := .exact (.int .i64 1)) rfl ?_)
      refine G_nil ?_
      refine kC_normal ?_
      refine k_ret ?_
      refine kC_ret ?_
      obtain rfl := Option.some.inj h
      refine kP_any (endN (af' := (AF.put AF0 (some 4) (.exact (.int .i64 1)))) (σ' := []) _ rfl ?_ ⟨rfl, rfl⟩)
      exact Sub.of_le (AF.le_put (AV.le_eq rfl) (AF.le_top _))
    · replace h := ite_f h hc
      refine k_skip ?_
      refine kC_normal ?_
      refine k_seq ?_
      refine k_seq ?_
      refine k_reg .free hmixP (by kernel_rfl) ?_
      refine G_q rfl (op_move (av := .exact (.int .i64 a0)) rfl ?_)
      refine G_q rfl (op_move (av := .exact (.int .i64 a1)) rfl ?_)
      refine G_q rfl (op_lss rfl rfl ?_)
      refine G_nil ?_
      refine kC_normal ?_
      refine k_cond_d (p := a0 < a1) rfl (fun hc => ?_) (fun hc => ?_)
      · replace h := ite_t h hc
        refine k_seq ?_
        refine k_reg .free hmixP (by kernel_rfl) ?_
        refine G_q rfl (op_assign (av := .exact (.int .i64 (-1))) rfl ?_)
        refine G_nil ?_
        refine kC_normal ?_
        refine k_ret ?_
        refine kC_ret ?_
        obtain rfl := Option.some.inj h
        refine kP_any (endN (af' := (AF.put AF0 (some 4) (.exact (.int .i64 (-1))))) (σ' := []) _ rfl ?_ ⟨rfl, rfl⟩)
        exact Sub.of_le (AF.le_put (AV.le_eq rfl) (AF.le_top _))
      · replace h := ite_f h hc
        refine k_skip ?_
        refine kC_normal ?_
        refine k_seq ?_
        refine k_seq ?_
        refine k_reg .free hmixP (by kernel_rfl) ?_
        refine G_q rfl (op_move (av := .exact (.int .i64 a0)) rfl ?_)
        refine G_q rfl (op_move (av := .exact (.int .i64 a1)) rfl ?_)
        refine G_q rfl (op_gtr rfl rfl ?_)
        refine G_nil ?_
        refine kC_normal ?_
        refine k_cond_d (p := a1 < a0) rfl (fun hc => ?_) (fun hc => ?_)
        · replace h := ite_t h hc
          refine k_seq ?_
          refine k_reg .free hmixP (by kernel_rfl) ?_
          refine G_q rfl (op_assign (av := .exact (.int .i64 1)) rfl ?_)
          refine G_nil ?_
          refine kC_normal ?_
          refine k_ret ?_
          refine kC_ret ?_
          obtain rfl := Option.some.inj h
          refine kP_any (endN (af' := (AF.put AF0 (some 4) (.exact (.int .i64 1)))) (σ' := []) _ rfl ?_ ⟨rfl, rfl⟩)
          exact Sub.of_le (AF.le_put (AV.le_eq rfl) (AF.le_top _))
        · replace h := ite_f h hc
          refine k_skip ?_
          refine kC_normal ?_
          refine k_seq ?_
          refine k_reg .free hmixP (by kernel_rfl) ?_
          refine G_q rfl (op_assign (av := .exact (.int .i64 0)) rfl ?_)
          refine G_nil ?_
          refine kC_normal ?_
          refine k_ret ?_
          obtain rfl := Option.some.inj h
          refine kP_any (endN (af' := (AF.put AF0 (some 4) (.exact (.int .i64 0)))) (σ' := []) _ rfl ?_ ⟨rfl, rfl⟩)
          exact Sub.of_le (AF.le_put (AV.le_eq rfl) (AF.le_top _))
end Go.Proofs.Ytkplmgdmkfgjhaa
/- The functions compute their models, by program. -/
namespace Go.Proofs.Ytkplmgdmkfgjhaa
open Go.RowKit
attribute [local irreducible] AV.exact AV.top AV.row AV.ptr AV.agg AV.tup AV.eptr AV.fn AV.nilq AV.nilqn opA opB opM opR Quiet Loud Reads wpG awp den Sub SubU Pure Fun vecI vecT boxI CellsAll CellsOf OneC LEs LEss
set_option maxRecDepth 100000

set_option maxHeartbeats 4000000 in
theorem m_slices_Compare_L_int_int_ok (a0 : List Int) (a1 : List Int) (r : Int) (h : m_slices_Compare_L_int_int a0 a1 = some r) : Pure Try.prog 88 [(.row 1 c_int a0), (.row 1 c_int a1)] (.exact (.int .i64 r)) := by
  unfold m_slices_Compare_L_int_int at h
  refine Pure.ofFun (fun_of_awp Try.func88 rfl Try.ntmps88 (by simp) rfl (res1 rfl) fun E hE => k_end ?_)
  refine k_seq ?_
  refine k_reg .free hmixP (by kernel_rfl) ?_
  refine G_q rfl (op_assign (av := .exact (.int .i64 0)) rfl ?_)
  refine G_nil ?_
  refine kC_normal ?_
  refine k_join0_0 h ((AF.put (AF.put AF0 (some 0) (.row 1 c_int a0)) (some 1) (.row 1 c_int a1))) ([]) (fun k1 h => ?_) (fun  h => ?_)
  · refine k_seq ?_
    refine k_reg .free hmixP (by kernel_rfl) ?_
    refine G_q rfl (op_move (av := .row 1 c_int a0) rfl ?_)
    refine G_q rfl (op_len_row (by kernel_rfl) rfl ?_)
    refine G_q rfl (op_move (av := .exact (.int .i64 0)) rfl ?_)
    refine G_nil ?_
    refine kC_normal ?_
    refine k_block ?_
    refine k_loop1_0 (m_slices_Compare_L_int_int_L2 a0 a1 k1) (m_slices_Compare_L_int_int_B2 a0 a1 k1) (fun _ => rfl) (fun m _ => rfl) h (fun (x11_l2 : Int) => (AF.put (AF.put (AF.put (AF.put (AF.put AF0 (some 0) (.row 1 c_int a0)) (some 1) (.row 1 c_int a1)) (some 9) (.row 1 c_int a0)) (some 10) (.exact (.int .i64 (List.length a0 : Int)))) (some 11) (.exact (.int .i64 x11_l2)))) (fun (x11_l2 : Int) => []) ?_ (fun rec2 x11_l2 h => ?_)
    · exact Sub.of_le (AF.le_put (AV.le_eq rfl) (AF.le_put (AV.le_eq rfl) (AF.le_put (AV.le_eq rfl) (AF.le_put (AV.le_eq rfl) (AF.le_put (AV.le_eq rfl) (AF.le_top _))))))
    · unfold m_slices_Compare_L_int_int_B2 at h
      refine k_seq ?_
      refine k_reg .free hmixP (by kernel_rfl) ?_
      refine G_q rfl (op_lss rfl rfl ?_)
      refine G_nil ?_
      refine kC_normal ?_
      refine k_seq ?_
      refine k_cond_d (p := x11_l2 < (List.length a0 : Int)) rfl (fun hc => ?_) (fun hc => ?_)
      · replace h := ite_t h hc
        refine k_skip ?_
        refine kC_normal ?_
        refine k_seq ?_
        refine k_block ?_
        refine k_seq ?_
        refine k_reg .free hmixP (by kernel_rfl) ?_
        refine G_q rfl (op_move (av := .exact (.int .i64 x11_l2)) rfl ?_)
        obtain ⟨n18, h⟩ := need_some h
        refine G_q rfl (op_index_row (by kernel_rfl) rfl rfl n18.1 n18.2 ?_)
        refine G_q rfl (op_load1p (a := .exact (.int .i64 (gi a0 x11_l2))) (by kernel_rfl) rfl rfl ?_)
        refine G_q rfl (op_assign (av := .exact (.int .i64 x11_l2)) rfl ?_)
        refine G_q rfl (op_assign (av := .exact (.int .i64 (gi a0 x11_l2))) rfl ?_)
        refine G_nil ?_
        refine kC_normal ?_
        refine k_seq ?_
        refine k_seq ?_
        refine k_reg .free hmixP (by kernel_rfl) ?_
        refine G_q rfl (op_move (av := .exact (.int .i64 x11_l2)) rfl ?_)
        refine G_q rfl (op_move (av := .row 1 c_int a1) rfl ?_)
        refine G_q rfl (op_len_row (by kernel_rfl) rfl ?_)
        refine G_q rfl (op_geq rfl rfl ?_)
        refine G_nil ?_
        refine kC_normal ?_
        refine k_cond_d (p := (List.length a1 : Int) ≤ x11_l2) rfl (fun hc => ?_) (fun hc => ?_)
        · replace h := ite_t h hc
          refine k_seq ?_
          refine k_reg .free hmixP (by kernel_rfl) ?_
          refine G_q rfl (op_assign (av := .exact (.int .i64 1)) rfl ?_)
          refine G_nil ?_
          refine kC_normal ?_
          refine k_ret ?_
          refine kC_ret ?_
          refine kB_ret ?_
          refine kC_ret ?_
          refine kI_ret ?_
          refine kB_ret ?_
          refine kI_ret ?_
          obtain rfl := Option.some.inj h
          refine kP_any (endN (af' := (AF.put AF0 (some 4) (.exact (.int .i64 1)))) (σ' := []) _ rfl ?_ ⟨rfl, rfl⟩)
          exact Sub.of_le (AF.le_put (AV.le_eq rfl) (AF.le_top _))
        · replace h := ite_f h hc
          refine k_skip ?_
          refine kC_normal ?_
          refine k_seq ?_
          refine k_reg .free hmixP (by kernel_rfl) ?_
          refine G_q rfl (op_move (av := .row 1 c_int a1) rfl ?_)
          refine G_q rfl (op_move (av := .exact (.int .i64 x11_l2)) rfl ?_)
          obtain ⟨n19, h⟩ := need_some h
          refine G_q rfl (op_index_row (by kernel_rfl) rfl rfl n19.1 n19.2 ?_)
          refine G_q rfl (op_load1p (a := .exact (.int .i64 (gi a1 x11_l2))) (by kernel_rfl) rfl rfl ?_)
          refine G_q rfl (op_assign (av := .exact (.int .i64 (gi a1 x11_l2))) rfl ?_)
          refine G_nil ?_
          refine kC_normal ?_
          refine k_seq ?_
          refine k_reg .free hmixP (by kernel_rfl) ?_
          refine G_q rfl (op_move (av := .exact (.int .i64 (gi a0 x11_l2))) rfl ?_)
          refine G_q rfl (op_move (av := .exact (.int .i64 (gi a1 x11_l2))) rfl ?_)
          obtain ⟨y20, hy20, h⟩ := bnd1_some h
          refine G_q rfl (op_pure (m_cmp_Compare_int_ok _ _ _ hy20) Try.func103 (by kernel_rfl) (LEs.cons (AV.le_eq rfl) (LEs.cons (AV.le_eq rfl) LEs.nil)) ?_)
          refine G_q rfl (op_assign (av := .exact (.int .i64 y20)) rfl ?_)
          refine G_nil ?_
          refine kC_normal ?_
          refine k_seq ?_
          refine k_reg .free hmixP (by kernel_rfl) ?_
          refine G_q rfl (op_move (av := .exact (.int .i64 y20)) rfl ?_)
          refine G_q rfl (op_neq rfl rfl ?_)
          refine G_nil ?_
          refine kC_normal ?_
          refine k_cond_d (p := ¬ y20 = 0) rfl (fun hc => ?_) (fun hc => ?_)
          · replace h := ite_t h hc
            refine k_seq ?_
            refine k_reg .free hmixP (by kernel_rfl) ?_
            refine G_q rfl (op_move (av := .exact (.int .i64 y20)) rfl ?_)
            refine G_q rfl (op_assign (av := .exact (.int .i64 y20)) rfl ?_)
            refine G_nil ?_
            refine kC_normal ?_
            refine k_ret ?_
            refine kB_ret ?_
            refine kC_ret ?_
            refine kI_ret ?_
            refine kB_ret ?_
            refine kI_ret ?_
            obtain rfl := Option.some.inj h
            refine kP_any (endN (af' := (AF.put AF0 (some 4) (.exact (.int .i64 y20)))) (σ' := []) _ rfl ?_ ⟨rfl, rfl⟩)
            exact Sub.of_le (AF.le_put (AV.le_eq rfl) (AF.le_top _))
          · replace h := ite_f h hc
            refine k_skip ?_
            refine kB_normal ?_
            refine kC_normal ?_
            refine k_reg .free hmixP (by kernel_rfl) ?_
            refine G_q rfl (op_add rfl rfl rfl ?_)
            refine G_q rfl (op_move (av := .exact (.int .i64 (i64 (x11_l2 + 1)))) rfl ?_)
            refine G_nil ?_
            refine kI_normal ⟨_, h, ?_⟩
            exact Sub.of_le (AF.le_put (AV.le_eq rfl) (AF.le_put (AV.le_eq rfl) (AF.le_put (AV.le_eq rfl) (AF.le_put (AV.le_eq rfl) (AF.le_put (AV.le_eq rfl) (AF.le_top _))))))
      · replace h := ite_f h hc
        refine k_exit ?_
        refine kC_exit ?_
        refine kI_exit ?_
        refine kB_exit ?_
        refine kI_normal ⟨h, ?_⟩
        exact Sub.of_le (AF.le_put (AV.le_eq rfl) (AF.le_put (AV.le_eq rfl) (AF.le_top _)))
  · refine k_seq ?_
    refine k_seq ?_
    refine k_reg .free hmixP (by kernel_rfl) ?_
    refine G_q rfl (op_move (av := .row 1 c_int a0) rfl ?_)
    refine G_q rfl (op_len_row (by kernel_rfl) rfl ?_)
    refine G_q rfl (op_move (av := .row 1 c_int a1) rfl ?_)
    refine G_q rfl (op_len_row (by kernel_rfl) rfl ?_)
    refine G_q rfl (op_lss rfl rfl ?_)
    refine G_nil ?_
    refine kC_normal ?_
    refine k_cond_d (p := (List.length a0 : Int) < (List.length a1 : Int)) rfl (fun hc => ?_) (fun hc => ?_)
    · replace h := ite_t h hc
      refine k_seq ?_
      refine k_reg .free hmixP (by kernel_rfl) ?_
      refine G_q rfl (op_assign (av := .exact (.int .i64 (-1))) rfl ?_)
      refine G_nil ?_
      refine kC_normal ?_
      refine k_ret ?_
      refine kC_ret ?_
      obtain rfl := Option.some.inj h
      refine kP_any (endN (af' := (AF.put AF0 (some 4) (.exact (.int .i64 (-1))))) (σ' := []) _ rfl ?_ ⟨rfl, rfl⟩)
      exact Sub.of_le (AF.le_put (AV.le_eq rfl) (AF.le_top _))
    · replace h := ite_f h hc
      refine k_skip ?_
      refine kC_normal ?_
      refine k_seq ?_
      refine k_reg .free hmixP (by kernel_rfl) ?_
      refine G_q rfl (op_assign (av := .exact (.int .i64 0)) rfl ?_)
      refine G_nil ?_
      refine kC_normal ?_
      refine k_ret ?_
      obtain rfl := Option.some.inj h
      refine kP_any (endN (af' := (AF.put AF0 (some 4) (.exact (.int .i64 0)))) (σ' := []) _ rfl ?_ ⟨rfl, rfl⟩)
      exact Sub.of_le (AF.le_put (AV.le_eq rfl) (AF.le_top _))
set_option maxHeartbeats 4000000 in
theorem m_frontier_compare_ok (a0 : Int × Int) (a1 : Int × Int) (r : Int) (h : m_frontier_compare a0 a1 = some r) : Pure Try.prog 61 [(.agg (c_A2_int a0)), (.agg (c_A2_int a1))] (.exact (.int .i64 r)) := by
  unfold m_frontier_compare at h
  refine Pure.ofFun (fun_of_awp Try.func61 rfl Try.ntmps61 (by simp) rfl (res1 rfl) fun E hE => k_end ?_)
  refine k_seq ?_
  refine k_reg .free hmixP (by kernel_rfl) ?_
  refine G_q rfl (op_box (c := c_A2_int a0) rfl CellsOf.agg ?_)
  refine G_q rfl (op_box (c := c_A2_int a1) rfl CellsOf.agg ?_)
  refine G_q rfl (op_assign (av := .exact (.int .i64 0)) rfl ?_)
  refine G_nil ?_
  refine kC_normal ?_
  refine k_seq ?_
  refine k_plan [] [(0, 0), (0, 1), (0, 2), (0, 3)] hmixP (by kernel_rfl) ?_
  refine P_q no34_0 rfl (op_slice_ptr (m := 2) (n := 1) (enc := c_int) [a0.1, a0.2] (by kernel_rfl) (by decide) rfl rfl rfl len_c_int ?_)
  refine P_q no34_0 rfl (op_slice_ptr (m := 2) (n := 1) (enc := c_int) [a1.1, a1.2] (by kernel_rfl) (by decide) rfl rfl rfl len_c_int ?_)
  obtain ⟨y1, hy1, h⟩ := bnd1_some h
  refine P_q no34_0 rfl (op_pure (m_slices_Compare_L_int_int_ok _ _ _ hy1) Try.func88 (by kernel_rfl) (LEs.cons (AV.le_eq rfl) (LEs.cons (AV.le_eq rfl) LEs.nil)) ?_)
  refine P_q no34_0 rfl (op_assign (av := .exact (.int .i64 y1)) rfl ?_)
  refine P_nil ?_
  refine kC_normal ?_
  refine k_ret ?_
  obtain rfl := Option.some.inj h
  refine kP_any (endN (af' := (AF.put AF0 (some 4) (.exact (.int .i64 y1)))) (σ' := []) _ rfl ?_ ⟨rfl, rfl⟩)
  exact Sub.of_le (AF.le_put (AV.le_eq rfl) (AF.le_top _))
set_option maxHeartbeats 4000000 in
theorem m_frontier_isRun_ok (a0 : List (Int × Int)) (r : Bool) (h : m_frontier_isRun a0 = some r) : Pure Try.prog 48 [(.row 2 c_A2_int a0)] (.exact (.bool r)) := by
  unfold m_frontier_isRun at h
  refine Pure.ofFun (fun_of_awp Try.func48 rfl Try.ntmps48 (by simp) rfl (res1 rfl) fun E hE => k_end ?_)
  refine k_seq ?_
  refine k_reg .free hmixP (by kernel_rfl) ?_
  refine G_q rfl (op_assign (av := .exact (.bool false)) rfl ?_)
  refine G_nil ?_
  refine kC_normal ?_
  refine k_join0_0 h (AF0) ([]) (fun k1 h => ?_) (fun  h => ?_)
  · refine k_seq ?_
    refine k_reg .free hmixP (by kernel_rfl) ?_
    refine G_q rfl (op_move (av := .row 2 c_A2_int a0) rfl ?_)
    refine G_q rfl (op_len_row (by kernel_rfl) rfl ?_)
    refine G_q rfl (op_move (av := .exact (.int .i64 0)) rfl ?_)
    refine G_nil ?_
    refine kC_normal ?_
    refine k_block ?_
    refine k_loop1_0 (m_frontier_isRun_L2 a0 k1) (m_frontier_isRun_B2 a0 k1) (fun _ => rfl) (fun m _ => rfl) h (fun (x7_l2 : Int) => (AF.put (AF.put (AF.put (AF.put AF0 (some 0) (.row 2 c_A2_int a0)) (some 5) (.row 2 c_A2_int a0)) (some 6) (.exact (.int .i64 (List.length a0 : Int)))) (some 7) (.exact (.int .i64 x7_l2)))) (fun (x7_l2 : Int) => []) ?_ (fun rec2 x7_l2 h => ?_)
    · exact Sub.of_le (AF.le_put (AV.le_eq rfl) (AF.le_put (AV.le_eq rfl) (AF.le_put (AV.le_eq rfl) (AF.le_put (AV.le_eq rfl) (AF.le_top _)))))
    · unfold m_frontier_isRun_B2 at h
      refine k_seq ?_
      refine k_reg .free hmixP (by kernel_rfl) ?_
      refine G_q rfl (op_lss rfl rfl ?_)
      refine G_nil ?_
      refine kC_normal ?_
      refine k_seq ?_
      refine k_cond_d (p := x7_l2 < (List.length a0 : Int)) rfl (fun hc => ?_) (fun hc => ?_)
      · replace h := ite_t h hc
        refine k_skip ?_
        refine kC_normal ?_
        refine k_seq ?_
        refine k_block ?_
        refine k_seq ?_
        refine k_reg .free hmixP (by kernel_rfl) ?_
        refine G_q rfl (op_move (av := .exact (.int .i64 x7_l2)) rfl ?_)
        obtain ⟨n108, h⟩ := need_some h
        refine G_q rfl (op_index_row (by kernel_rfl) rfl rfl n108.1 n108.2 ?_)
        refine G_q rfl (op_loadNp (m := 2) (c' := c_A2_int (gi a0 x7_l2)) (by kernel_rfl) rfl rfl rfl ?_)
        refine G_l rfl (op_alloc (c := [.exact (.int .i64 ((0, 0).1)), .exact (.int .i64 ((0, 0).2))]) rfl (LEs.cons (AV.le_eq rfl) (LEs.cons (AV.le_eq rfl) LEs.nil)) (fun b109 => ?_))
        refine G_q rfl (op_assign (av := .exact (.int .i64 x7_l2)) rfl ?_)
        refine G_l rfl (op_store_box (c' := [.exact (.int .i64 ((gi a0 x7_l2).1)), .exact (.int .i64 ((gi a0 x7_l2).2))]) (c3 := [.exact (.int .i64 ((gi a0 x7_l2).1)), .exact (.int .i64 ((gi a0 x7_l2).2))]) rfl rfl CellsOf.agg (LEs.cons (AV.le_eq rfl) (LEs.cons (AV.le_eq rfl) LEs.nil)) (oc_c_A2_int _) (by kernel_rfl) (Nat.le_of_ble_eq_true rfl) rfl ?_)
        refine G_nil ?_
        refine kC_normal ?_
        refine k_join1_0 h (fun (x28_j110 : Bool) => (AF.put (AF.put (AF.put (AF.put (AF.put AF0 (some 0) (.row 2 c_A2_int a0)) (some 5) (.row 2 c_A2_int a0)) (some 6) (.exact (.int .i64 (List.length a0 : Int)))) (some 7) (.exact (.int .i64 x7_l2))) (some 28) (.exact (.bool x28_j110)))) (fun (x28_j110 : Bool) => []) (fun k110 h => ?_) (fun x28_j110 h => ?_)
        · refine k_plan [] [(1, 0), (0, 1), (0, 2), (0, 3), (0, 4), (0, 5), (0, 6), (0, 7), (0, 8), (0, 9), (0, 10), (0, 11), (1, 12), (0, 13), (0, 14), (0, 15), (0, 16)] hmixP (by kernel_rfl) ?_
          refine P_r rfl (op_load_boxN (m := 2) (c' := c_A2_int ((gi a0 x7_l2).1, (gi a0 x7_l2).2)) (by kernel_rfl) rfl rfl rfl ?_)
          obtain ⟨y114, hy114, h⟩ := bnd1_some h
          refine P_q no34_0 rfl (op_pure (m_frontier_isPair_ok _ _ hy114) Try.func62 (by kernel_rfl) (LEs.cons (AV.le_eq rfl) LEs.nil) ?_)
          refine P_q no34_0 rfl (op_not rfl ?_)
          refine P_q no34_0 rfl (op_move (av := .exact (.bool (!y114))) rfl ?_)
          refine P_splitB (c := !y114) 15 rfl (fun hc => ?_) (fun hc => ?_)
          · replace h := ite_t h hc
            refine P_n no34_0 rfl rfl rfl ?_
            refine P_n no34_0 rfl rfl rfl ?_
            refine P_n no34_0 rfl rfl rfl ?_
            refine P_u no34_0 rfl rfl rfl ?_
            refine P_u no34_0 rfl rfl rfl ?_
            refine P_u no34_0 rfl rfl rfl ?_
            refine P_u no34_0 rfl rfl rfl ?_
            refine P_u no34_0 rfl rfl rfl ?_
            refine P_u no34_1 rfl rfl rfl ?_
            refine P_u no34_0 rfl rfl rfl ?_
            refine P_u no34_0 rfl rfl rfl ?_
            refine P_n no34_0 rfl rfl rfl ?_
            refine P_q no34_0 rfl (op_pick_t rfl (av := .exact (.bool true)) rfl ?_)
            refine P_nil ?_
            refine kI_normal ⟨_, h, ?_⟩
            refine Sub.trans (SubU.to SubU.drop) ?_
            exact Sub.of_le (AF.le_put (AV.le_eq rfl) (AF.le_put (AV.le_eq rfl) (AF.le_put (AV.le_eq rfl) (AF.le_put (AV.le_eq rfl) (AF.le_put (AV.le_eq rfl) (AF.le_top _))))))
          · replace h := ite_f h hc
            refine Py_q no34_0 rfl rfl rfl (op_move (av := .exact (.int .i64 x7_l2)) rfl ?_)
            refine Py_q no34_0 rfl rfl rfl (op_gtr rfl rfl ?_)
            refine Py_q no34_0 rfl rfl rfl (op_move (av := .exact (.bool (decide (0 < x7_l2)))) rfl ?_)
            refine P_split (p := 0 < x7_l2) 18 rfl (fun hc => ?_) (fun hc => ?_)
            · replace h := ite_t h hc
              refine Py_q no34_0 rfl rfl rfl (op_move (av := .row 2 c_A2_int a0) rfl ?_)
              refine Py_q no34_0 rfl rfl rfl (op_move (av := .exact (.int .i64 x7_l2)) rfl ?_)
              refine Py_q no34_0 rfl rfl rfl (op_sub rfl rfl rfl ?_)
              obtain ⟨n115, h⟩ := need_some h
              refine Py_q no34_0 rfl rfl rfl (op_index_row (by kernel_rfl) rfl rfl n115.1 n115.2 ?_)
              refine Py_q no34_0 rfl rfl rfl (op_loadNp (m := 2) (c' := c_A2_int (gi a0 (i64 (x7_l2 - 1)))) (by kernel_rfl) rfl rfl rfl ?_)
              refine Py_r rfl rfl rfl (op_load_boxN (m := 2) (c' := c_A2_int ((gi a0 x7_l2).1, (gi a0 x7_l2).2)) (by kernel_rfl) rfl rfl rfl ?_)
              obtain ⟨y116, hy116, h⟩ := bnd1_some h
              refine Py_q no34_0 rfl rfl rfl (op_pure (m_frontier_compare_ok _ _ _ hy116) Try.func61 (by kernel_rfl) (LEs.cons (AV.le_eq rfl) (LEs.cons (AV.le_eq rfl) LEs.nil)) ?_)
              refine Py_q no34_0 rfl rfl rfl (op_geq rfl rfl ?_)
              refine Py_q no34_0 rfl rfl rfl (op_pick_t rfl (av := .exact (.bool (decide (0 ≤ y116)))) rfl ?_)
              refine P_q no34_0 rfl (op_pick_f rfl (av := .exact (.bool (decide (0 ≤ y116)))) rfl ?_)
              refine P_nil ?_
              refine kI_normal ⟨_, h, ?_⟩
              refine Sub.trans (SubU.to SubU.drop) ?_
              exact Sub.of_le (AF.le_put (AV.le_eq rfl) (AF.le_put (AV.le_eq rfl) (AF.le_put (AV.le_eq rfl) (AF.le_put (AV.le_eq rfl) (AF.le_put (AV.le_eq rfl) (AF.le_top _))))))
            · replace h := ite_f h hc
              refine P_n no34_0 rfl rfl rfl ?_
              refine P_n no34_0 rfl rfl rfl ?_
              refine P_n no34_0 rfl rfl rfl ?_
              refine P_n no34_0 rfl rfl rfl ?_
              refine P_n no34_0 rfl rfl rfl ?_
              refine P_n no34_1 rfl rfl rfl ?_
              refine P_n no34_0 rfl rfl rfl ?_
              refine P_n no34_0 rfl rfl rfl ?_
              refine Py_q no34_0 rfl rfl rfl (op_pick_f rfl (av := .exact (.bool false)) rfl ?_)
              refine P_q no34_0 rfl (op_pick_f rfl (av := .exact (.bool false)) rfl ?_)
              refine P_nil ?_
              refine kI_normal ⟨_, h, ?_⟩
              refine Sub.trans (SubU.to SubU.drop) ?_
              exact Sub.of_le (AF.le_put (AV.le_eq rfl) (AF.le_put (AV.le_eq rfl) (AF.le_put (AV.le_eq rfl) (AF.le_put (AV.le_eq rfl) (AF.le_put (AV.le_eq rfl) (AF.le_top _))))))
        · refine k_cond_b (c := x28_j110) rfl (fun hc => ?_) (fun hc => ?_)
          · replace h := ite_t h hc
            refine k_seq ?_
            refine k_reg .free hmixP (by kernel_rfl) ?_
            refine G_q rfl (op_assign (av := .exact (.bool false)) rfl ?_)
            refine G_nil ?_
            refine kC_normal ?_
            refine k_ret ?_
            refine kB_ret ?_
            refine kC_ret ?_
            refine kI_ret ?_
            refine kB_ret ?_
            refine kI_ret ?_
            obtain rfl := Option.some.inj h
            refine kP_any (endN (af' := (AF.put AF0 (some 2) (.exact (.bool false)))) (σ' := []) _ rfl ?_ ⟨rfl, rfl⟩)
            exact Sub.of_le (AF.le_put (AV.le_eq rfl) (AF.le_top _))
          · replace h := ite_f h hc
            refine k_skip ?_
            refine kB_normal ?_
            refine kC_normal ?_
            refine k_reg .free hmixP (by kernel_rfl) ?_
            refine G_q rfl (op_add rfl rfl rfl ?_)
            refine G_q rfl (op_move (av := .exact (.int .i64 (i64 (x7_l2 + 1)))) rfl ?_)
            refine G_nil ?_
            refine kI_normal ⟨_, h, ?_⟩
            exact Sub.of_le (AF.le_put (AV.le_eq rfl) (AF.le_put (AV.le_eq rfl) (AF.le_put (AV.le_eq rfl) (AF.le_put (AV.le_eq rfl) (AF.le_top _)))))
      · replace h := ite_f h hc
        refine k_exit ?_
        refine kC_exit ?_
        refine kI_exit ?_
        refine kB_exit ?_
        refine kI_normal ⟨h, ?_⟩
        exact Sub.of_le (AF.le_top _)
  · refine k_seq ?_
    refine k_reg .free hmixP (by kernel_rfl) ?_
    refine G_q rfl (op_assign (av := .exact (.bool true)) rfl ?_)
    refine G_nil ?_
    refine kC_normal ?_
    refine k_ret ?_
    obtain rfl := Option.some.inj h
    refine kP_any (endN (af' := (AF.put AF0 (some 2) (.exact (.bool true)))) (σ' := []) _ rfl ?_ ⟨rfl, rfl⟩)
    exact Sub.of_le (AF.le_put (AV.le_eq rfl) (AF.le_top _))
set_option maxHeartbeats 4000000 in
theorem m_frontier_isBlock_ok (a0 : List (Int × Int)) (r : Bool) (h : m_frontier_isBlock a0 = some r) : Pure Try.prog 77 [(.row 2 c_A2_int a0)] (.exact (.bool r)) := by
  unfold m_frontier_isBlock at h
  refine Pure.ofFun (fun_of_awp Try.func77 rfl Try.ntmps77 (by simp) rfl (res1 rfl) fun E hE => k_end ?_)
  refine k_seq ?_
  refine k_reg .free hmixP (by kernel_rfl) ?_
  refine G_q rfl (op_assign (av := .exact (.bool false)) rfl ?_)
  refine G_nil ?_
  refine kC_normal ?_
  refine k_join1_0 h (fun (x2_j1 : Bool) => (AF.put AF0 (some 2) (.exact (.bool x2_j1)))) (fun (x2_j1 : Bool) => []) (fun k1 h => ?_) (fun x2_j1 h => ?_)
  · refine k_reg .free hmixP (by kernel_rfl) ?_
    refine G_q rfl (op_move (av := .row 2 c_A2_int a0) rfl ?_)
    refine G_q rfl (op_len_row (by kernel_rfl) rfl ?_)
    refine G_q rfl (op_geq rfl rfl ?_)
    refine G_q rfl (op_move (av := .exact (.bool (decide (1 ≤ (List.length a0 : Int))))) rfl ?_)
    refine G_split (p := 1 ≤ (List.length a0 : Int)) 6 rfl (fun hc => ?_) (fun hc => ?_)
    · replace h := ite_t h hc
      refine Gy_q rfl rfl rfl (op_move (av := .row 2 c_A2_int a0) rfl ?_)
      refine Gy_q rfl rfl rfl (op_len_row (by kernel_rfl) rfl ?_)
      refine Gy_q rfl rfl rfl (op_leq rfl rfl ?_)
      refine G_q rfl (op_pick_t rfl (av := .exact (.bool (decide ((List.length a0 : Int) ≤ 1024)))) rfl ?_)
      refine G_q rfl (op_move (av := .exact (.bool (decide ((List.length a0 : Int) ≤ 1024)))) rfl ?_)
      refine G_split (p := (List.length a0 : Int) ≤ 1024) 11 rfl (fun hc => ?_) (fun hc => ?_)
      · replace h := ite_t h hc
        refine Gy_q rfl rfl rfl (op_move (av := .row 2 c_A2_int a0) rfl ?_)
        obtain ⟨y3, hy3, h⟩ := bnd1_some h
        refine Gy_q rfl rfl rfl (op_pure (m_frontier_isRun_ok _ _ hy3) Try.func48 (by kernel_rfl) (LEs.cons (AV.le_eq rfl) LEs.nil) ?_)
        refine G_q rfl (op_pick_t rfl (av := .exact (.bool y3)) rfl ?_)
        refine G_q rfl (op_assign (av := .exact (.bool y3)) rfl ?_)
        refine G_nil ?_
        refine kI_normal ⟨_, h, ?_⟩
        exact Sub.of_le (AF.le_put (AV.le_eq rfl) (AF.le_top _))
      · replace h := ite_f h hc
        refine G_n rfl rfl ?_
        refine G_n rfl rfl ?_
        refine G_q rfl (op_pick_f rfl (av := .exact (.bool false)) rfl ?_)
        refine G_q rfl (op_assign (av := .exact (.bool false)) rfl ?_)
        refine G_nil ?_
        refine kI_normal ⟨_, h, ?_⟩
        exact Sub.of_le (AF.le_put (AV.le_eq rfl) (AF.le_top _))
    · replace h := ite_f h hc
      refine G_n rfl rfl ?_
      refine G_n rfl rfl ?_
      refine G_n rfl rfl ?_
      refine G_q rfl (op_pick_f rfl (av := .exact (.bool false)) rfl ?_)
      refine G_q rfl (op_move (av := .exact (.bool false)) rfl ?_)
      refine G_n rfl rfl ?_
      refine G_n rfl rfl ?_
      refine G_q rfl (op_pick_f rfl (av := .exact (.bool false)) rfl ?_)
      refine G_q rfl (op_assign (av := .exact (.bool false)) rfl ?_)
      refine G_nil ?_
      refine kI_normal ⟨_, h, ?_⟩
      exact Sub.of_le (AF.le_put (AV.le_eq rfl) (AF.le_top _))
  · refine k_ret ?_
    obtain rfl := Option.some.inj h
    refine kP_any (endN (af' := (AF.put AF0 (some 2) (.exact (.bool x2_j1)))) (σ' := []) _ rfl ?_ ⟨rfl, rfl⟩)
    exact Sub.of_le (AF.le_put (AV.le_eq rfl) (AF.le_top _))
set_option maxHeartbeats 4000000 in
theorem m_codec_AppendUvarint_ok {w0 : Value} (a0 : List UInt8) (a1 : Int) (r : (List UInt8)) (h : m_codec_AppendUvarint a0 a1 = some r) : Fun Try.prog 83 [(.exact w0), (.exact (.int .i64 a1))] [vecT Try.prog 32 1 c_uint8 w0 a0] (fun a s => ∃ z0, a = .exact z0 ∧ s = [vecT Try.prog 32 1 c_uint8 z0 r]) := by
  unfold m_codec_AppendUvarint at h
  refine fun_of_awp Try.func83 rfl Try.ntmps83 (by simp) rfl (res1 rfl) fun E hE => k_end ?_
  refine k_seq ?_
  refine k_reg .free hmixP (by kernel_rfl) ?_
  refine G_q rfl (op_assign (av := .exact (.slice none 0 0)) rfl ?_)
  refine G_nil ?_
  refine kC_normal ?_
  refine k_join2_1 h (fun (x0_j1 : List UInt8) (x1_j1 : Int) (v0_j1 : Value) => (AF.put (AF.put AF0 (some 0) (.exact v0_j1)) (some 1) (.exact (.int .i64 x1_j1)))) (fun (x0_j1 : List UInt8) (x1_j1 : Int) (v0_j1 : Value) => [vecT Try.prog 32 1 c_uint8 v0_j1 x0_j1]) (fun k1 h => ?_) (fun x0_j1 x1_j1 v0_j1 h => ?_)
  · refine k_block ?_
    refine k_loop2_1 (m_codec_AppendUvarint_L2 k1) (m_codec_AppendUvarint_B2 k1) (fun _ _ => rfl) (fun m _ _ => rfl) h (fun (x0_l2 : List UInt8) (x1_l2 : Int) (v0_l2 : Value) => (AF.put (AF.put AF0 (some 0) (.exact v0_l2)) (some 1) (.exact (.int .i64 x1_l2)))) (fun (x0_l2 : List UInt8) (x1_l2 : Int) (v0_l2 : Value) => [vecT Try.prog 32 1 c_uint8 v0_l2 x0_l2]) w0 ?_ (fun rec2 x0_l2 x1_l2 v0_l2 h => ?_)
    · exact Sub.of_le (AF.le_put (AV.le_eq rfl) (AF.le_put (AV.le_eq rfl) (AF.le_top _)))
    · unfold m_codec_AppendUvarint_B2 at h
      refine k_seq ?_
      refine k_seq ?_
      refine k_reg .free hmixP (by kernel_rfl) ?_
      refine G_q rfl (op_move (av := .exact (.int .i64 x1_l2)) rfl ?_)
      refine G_q rfl (op_geq rfl rfl ?_)
      refine G_nil ?_
      refine kC_normal ?_
      refine k_cond_d (p := 128 ≤ x1_l2) rfl (fun hc => ?_) (fun hc => ?_)
      · replace h := ite_t h hc
        refine k_skip ?_
        refine kC_normal ?_
        refine k_block ?_
        refine k_seq ?_
        refine k_reg .free hmixP (by kernel_rfl) ?_
        refine G_q rfl (op_move (av := .exact v0_l2) rfl ?_)
        refine G_q rfl (op_move (av := .exact (.int .i64 x1_l2)) rfl ?_)
        refine G_q rfl (op_and rfl rfl rfl ?_)
        refine G_q rfl (op_or rfl rfl rfl ?_)
        refine G_q rfl (op_convInt (k := .u8) (r := (UInt8.toNat (u8i (bOr .i64 (bAnd .i64 x1_l2 127) 128)) : Int)) (by kernel_rfl) rfl (u8i_eq _) ?_)
        refine G_q rfl (op_litT (n := 1) (enc := c_uint8) [u8i (bOr .i64 (bAnd .i64 x1_l2 127) 128)] (CellsAll.cons rfl CellsOf.int CellsAll.nil) rfl (by kernel_rfl) (LEss.cons (LEs.cons (AV.le_eq rfl) LEs.nil) LEss.nil) ?_)
        obtain ⟨n13, h⟩ := need_some h
        refine G_l rfl (op_appT (by kernel_rfl) rfl rfl oc_c_uint8 n13 (fun v14 => ?_))
        refine G_q rfl (op_assign (av := .exact v14) rfl ?_)
        refine G_nil ?_
        refine kC_normal ?_
        refine k_reg .free hmixP (by kernel_rfl) ?_
        refine G_q rfl (op_move (av := .exact (.int .i64 x1_l2)) rfl ?_)
        refine G_q rfl (op_shr rfl rfl (by decide) rfl ?_)
        refine G_q rfl (op_assign (av := .exact (.int .i64 (Int.fdiv x1_l2 (2 ^ min (Int.toNat 7) IntKind.i64.bits)))) rfl ?_)
        refine G_nil ?_
        refine kB_normal ?_
        refine kI_normal ⟨_, _, v14, h, ?_⟩
        exact Sub.of_le (AF.le_put (AV.le_eq rfl) (AF.le_put (AV.le_eq rfl) (AF.le_top _)))
      · replace h := ite_f h hc
        refine k_exit ?_
        refine kC_exit ?_
        refine kI_exit ?_
        refine kB_exit ?_
        refine kI_normal ⟨_, _, v0_l2, h, ?_⟩
        exact Sub.of_le (AF.le_put (AV.le_eq rfl) (AF.le_put (AV.le_eq rfl) (AF.le_top _)))
  · refine k_seq ?_
    refine k_reg .free hmixP (by kernel_rfl) ?_
    refine G_q rfl (op_move (av := .exact v0_j1) rfl ?_)
    refine G_q rfl (op_move (av := .exact (.int .i64 x1_j1)) rfl ?_)
    refine G_q rfl (op_convInt (k := .u8) (r := (UInt8.toNat (u8i x1_j1) : Int)) (by kernel_rfl) rfl (u8i_eq _) ?_)
    refine G_q rfl (op_litT (n := 1) (enc := c_uint8) [u8i x1_j1] (CellsAll.cons rfl CellsOf.int CellsAll.nil) rfl (by kernel_rfl) (LEss.cons (LEs.cons (AV.le_eq rfl) LEs.nil) LEss.nil) ?_)
    obtain ⟨n15, h⟩ := need_some h
    refine G_l rfl (op_appT (by kernel_rfl) rfl rfl oc_c_uint8 n15 (fun v16 => ?_))
    refine G_q rfl (op_assign (av := .exact v16) rfl ?_)
    refine G_nil ?_
    refine kC_normal ?_
    refine k_ret ?_
    obtain rfl := Option.some.inj h
    refine kP_any (endN (af' := (AF.put AF0 (some 4) (.exact v16))) (σ' := [vecT Try.prog 32 1 c_uint8 v16 (x0_j1 ++ [u8i x1_j1])]) _ rfl ?_ ⟨v16, rfl, rfl⟩)
    exact Sub.of_le (AF.le_put (AV.le_eq rfl) (AF.le_top _))
set_option maxHeartbeats 4000000 in
theorem m_codec_AppendSum_ok {w0 : Value} (a0 : List UInt8) (a1 : Int) (r : (List UInt8)) (h : m_codec_AppendSum a0 a1 = some r) : Fun Try.prog 84 [(.exact w0), (.exact (.int .i64 a1))] [vecT Try.prog 32 1 c_uint8 w0 a0] (fun a s => ∃ z0, a = .exact z0 ∧ s = [vecT Try.prog 32 1 c_uint8 z0 r]) := by
  unfold m_codec_AppendSum at h
  refine fun_of_awp Try.func84 rfl Try.ntmps84 (by simp) rfl (res1 rfl) fun E hE => k_end ?_
  refine k_seq ?_
  refine k_reg .free hmixP (by kernel_rfl) ?_
  refine G_q rfl (op_assign (av := .exact (.slice none 0 0)) rfl ?_)
  refine G_nil ?_
  refine kC_normal ?_
  refine k_seq ?_
  refine k_reg .free hmixP (by kernel_rfl) ?_
  refine G_q rfl (op_move (av := .exact w0) rfl ?_)
  refine G_q rfl (op_move (av := .exact (.int .i64 a1)) rfl ?_)
  obtain ⟨n1, h⟩ := need_some h
  refine G_r rfl (op_slice_vec (by kernel_rfl) rfl (bnd_some rfl) bnd_none n1.1 n1.2.1 n1.2.2 ?_)
  obtain ⟨y2, hy2, h⟩ := bnd1_some h
  refine G_r rfl (op_borrow (m_codec_Checksum_ok _ _ hy2) Try.func101 (by kernel_rfl) MI.exact (Bors.cons (Bor.vsub (List.Mem.head _) len_c_uint8 (by have hh := n1; first | omega | (simp only [i64] at hh; omega) | (simp only [i64] at hh ⊢; omega))) Bors.nil) ?_)
  refine G_q rfl (op_assign (av := .exact (.int .u32 y2)) rfl ?_)
  refine G_nil ?_
  refine kC_normal ?_
  refine k_seq ?_
  refine k_reg .free hmixP (by kernel_rfl) ?_
  refine G_q rfl (op_move (av := .exact w0) rfl ?_)
  refine G_q rfl (op_move (av := .exact (.int .u32 y2)) rfl ?_)
  refine G_q rfl (op_shr rfl rfl (by decide) rfl ?_)
  refine G_q rfl (op_convInt (k := .u8) (r := (UInt8.toNat (u8i (Int.fdiv y2 (2 ^ min (Int.toNat 24) IntKind.u32.bits))) : Int)) (by kernel_rfl) rfl (u8i_eq _) ?_)
  refine G_q rfl (op_move (av := .exact (.int .u32 y2)) rfl ?_)
  refine G_q rfl (op_shr rfl rfl (by decide) rfl ?_)
  refine G_q rfl (op_convInt (k := .u8) (r := (UInt8.toNat (u8i (Int.fdiv y2 (2 ^ min (Int.toNat 16) IntKind.u32.bits))) : Int)) (by kernel_rfl) rfl (u8i_eq _) ?_)
  refine G_q rfl (op_move (av := .exact (.int .u32 y2)) rfl ?_)
  refine G_q rfl (op_shr rfl rfl (by decide) rfl ?_)
  refine G_q rfl (op_convInt (k := .u8) (r := (UInt8.toNat (u8i (Int.fdiv y2 (2 ^ min (Int.toNat 8) IntKind.u32.bits))) : Int)) (by kernel_rfl) rfl (u8i_eq _) ?_)
  refine G_q rfl (op_move (av := .exact (.int .u32 y2)) rfl ?_)
  refine G_q rfl (op_convInt (k := .u8) (r := (UInt8.toNat (u8i y2) : Int)) (by kernel_rfl) rfl (u8i_eq _) ?_)
  refine G_q rfl (op_litT (n := 1) (enc := c_uint8) [u8i (Int.fdiv y2 (2 ^ min (Int.toNat 24) IntKind.u32.bits)), u8i (Int.fdiv y2 (2 ^ min (Int.toNat 16) IntKind.u32.bits)), u8i (Int.fdiv y2 (2 ^ min (Int.toNat 8) IntKind.u32.bits)), u8i y2] (CellsAll.cons rfl CellsOf.int (CellsAll.cons rfl CellsOf.int (CellsAll.cons rfl CellsOf.int (CellsAll.cons rfl CellsOf.int CellsAll.nil)))) rfl (by kernel_rfl) (LEss.cons (LEs.cons (AV.le_eq rfl) LEs.nil) (LEss.cons (LEs.cons (AV.le_eq rfl) LEs.nil) (LEss.cons (LEs.cons (AV.le_eq rfl) LEs.nil) (LEss.cons (LEs.cons (AV.le_eq rfl) LEs.nil) LEss.nil)))) ?_)
  obtain ⟨n3, h⟩ := need_some h
  refine G_l rfl (op_appT (by kernel_rfl) rfl rfl oc_c_uint8 n3 (fun v4 => ?_))
  refine G_q rfl (op_assign (av := .exact v4) rfl ?_)
  refine G_nil ?_
  refine kC_normal ?_
  refine k_ret ?_
  obtain rfl := Option.some.inj h
  refine kP_any (endN (af' := (AF.put AF0 (some 4) (.exact v4))) (σ' := [vecT Try.prog 32 1 c_uint8 v4 (a0 ++ [u8i (Int.fdiv y2 (2 ^ min (Int.toNat 24) IntKind.u32.bits)), u8i (Int.fdiv y2 (2 ^ min (Int.toNat 16) IntKind.u32.bits)), u8i (Int.fdiv y2 (2 ^ min (Int.toNat 8) IntKind.u32.bits)), u8i y2])]) _ rfl ?_ ⟨v4, rfl, rfl⟩)
  exact Sub.of_le (AF.le_put (AV.le_eq rfl) (AF.le_top _))
set_option maxHeartbeats 4000000 in
theorem m_frontier_encode_ok (a0 : List (Int × Int)) (r : (List UInt8)) (h : m_frontier_encode a0 = some r) : Pure Try.prog 49 [(.row 2 c_A2_int a0)] (.row 1 c_uint8 r) := by
  unfold m_frontier_encode at h
  refine Pure.ofFun (fun_of_awp Try.func49 rfl Try.ntmps49 (by simp) rfl (res1 rfl) fun E hE => k_end ?_)
  refine k_seq ?_
  refine k_reg .free hmixP (by kernel_rfl) ?_
  refine G_q rfl (op_assign (av := .exact (.slice none 0 0)) rfl ?_)
  refine G_nil ?_
  refine kC_normal ?_
  refine k_seq ?_
  refine k_reg .free hmixP (by kernel_rfl) ?_
  refine G_q rfl (op_move (av := .row 2 c_A2_int a0) rfl ?_)
  refine G_q rfl (op_len_row (by kernel_rfl) rfl ?_)
  refine G_sub rfl (SubU.nilT (P := Try.prog) (t := 32) (n := 1) (enc := c_uint8)) ?_
  obtain ⟨y2, hy2, h⟩ := bnd1_some h
  refine G_l rfl (op_fun_1_1_1 (m_codec_AppendUvarint_ok _ _ _ hy2) Try.func83 (by kernel_rfl) (LEs.cons (AV.le_eq rfl) (LEs.cons (AV.le_eq rfl) LEs.nil)) (fun v3 => ?_))
  refine G_q rfl (op_assign (av := .exact v3) rfl ?_)
  refine G_nil ?_
  refine kC_normal ?_
  refine k_join1_1 h (fun (x3_j4 : List UInt8) (v3_j4 : Value) => (AF.put AF0 (some 3) (.exact v3_j4))) (fun (x3_j4 : List UInt8) (v3_j4 : Value) => [vecT Try.prog 32 1 c_uint8 v3_j4 x3_j4]) (fun k4 h => ?_) (fun x3_j4 v3_j4 h => ?_)
  · refine k_seq ?_
    refine k_reg .free hmixP (by kernel_rfl) ?_
    refine G_q rfl (op_move (av := .row 2 c_A2_int a0) rfl ?_)
    refine G_q rfl (op_len_row (by kernel_rfl) rfl ?_)
    refine G_q rfl (op_move (av := .exact (.int .i64 0)) rfl ?_)
    refine G_nil ?_
    refine kC_normal ?_
    refine k_block ?_
    refine k_loop2_1 (m_frontier_encode_L2 a0 k4) (m_frontier_encode_B2 a0 k4) (fun _ _ => rfl) (fun m _ _ => rfl) h (fun (x3_l2 : List UInt8) (x12_l2 : Int) (v3_l2 : Value) => (AF.put (AF.put (AF.put (AF.put (AF.put AF0 (some 0) (.row 2 c_A2_int a0)) (some 3) (.exact v3_l2)) (some 10) (.row 2 c_A2_int a0)) (some 11) (.exact (.int .i64 (List.length a0 : Int)))) (some 12) (.exact (.int .i64 x12_l2)))) (fun (x3_l2 : List UInt8) (x12_l2 : Int) (v3_l2 : Value) => [vecT Try.prog 32 1 c_uint8 v3_l2 x3_l2]) v3 ?_ (fun rec2 x3_l2 x12_l2 v3_l2 h => ?_)
    · exact Sub.of_le (AF.le_put (AV.le_eq rfl) (AF.le_put (AV.le_eq rfl) (AF.le_put (AV.le_eq rfl) (AF.le_put (AV.le_eq rfl) (AF.le_put (AV.le_eq rfl) (AF.le_top _))))))
    · unfold m_frontier_encode_B2 at h
      refine k_seq ?_
      refine k_reg .free hmixP (by kernel_rfl) ?_
      refine G_q rfl (op_lss rfl rfl ?_)
      refine G_nil ?_
      refine kC_normal ?_
      refine k_seq ?_
      refine k_cond_d (p := x12_l2 < (List.length a0 : Int)) rfl (fun hc => ?_) (fun hc => ?_)
      · replace h := ite_t h hc
        refine k_skip ?_
        refine kC_normal ?_
        refine k_join1_1 h (fun (x3_j141 : List UInt8) (v3_j141 : Value) => (AF.put (AF.put (AF.put (AF.put (AF.put AF0 (some 0) (.row 2 c_A2_int a0)) (some 3) (.exact v3_j141)) (some 10) (.row 2 c_A2_int a0)) (some 11) (.exact (.int .i64 (List.length a0 : Int)))) (some 12) (.exact (.int .i64 x12_l2)))) (fun (x3_j141 : List UInt8) (v3_j141 : Value) => [vecT Try.prog 32 1 c_uint8 v3_j141 x3_j141]) (fun k141 h => ?_) (fun x3_j141 v3_j141 h => ?_)
        · refine k_block ?_
          refine k_seq ?_
          refine k_reg .free hmixP (by kernel_rfl) ?_
          refine G_q rfl (op_move (av := .exact (.int .i64 x12_l2)) rfl ?_)
          obtain ⟨n155, h⟩ := need_some h
          refine G_q rfl (op_index_row (by kernel_rfl) rfl rfl n155.1 n155.2 ?_)
          refine G_q rfl (op_loadNp (m := 2) (c' := c_A2_int (gi a0 x12_l2)) (by kernel_rfl) rfl rfl rfl ?_)
          refine G_l rfl (op_alloc (c := [.exact (.int .i64 ((0, 0).1)), .exact (.int .i64 ((0, 0).2))]) rfl (LEs.cons (AV.le_eq rfl) (LEs.cons (AV.le_eq rfl) LEs.nil)) (fun b156 => ?_))
          refine G_q rfl (op_assign (av := .exact (.int .i64 x12_l2)) rfl ?_)
          refine G_l rfl (op_store_box (c' := [.exact (.int .i64 ((gi a0 x12_l2).1)), .exact (.int .i64 ((gi a0 x12_l2).2))]) (c3 := [.exact (.int .i64 ((gi a0 x12_l2).1)), .exact (.int .i64 ((gi a0 x12_l2).2))]) rfl rfl CellsOf.agg (LEs.cons (AV.le_eq rfl) (LEs.cons (AV.le_eq rfl) LEs.nil)) (oc_c_A2_int _) (by kernel_rfl) (Nat.le_of_ble_eq_true rfl) rfl ?_)
          refine G_nil ?_
          refine kC_normal ?_
          refine k_seq ?_
          refine k_reg .free hmixP (by kernel_rfl) ?_
          refine G_q rfl (op_bld (c' := c_A2_int (0, 0)) CellsAll.nil rfl (LEs.cons (AV.le_eq rfl) (LEs.cons (AV.le_eq rfl) LEs.nil)) ?_)
          refine G_l rfl (op_alloc (c := [.exact (.int .i64 ((0, 0).1)), .exact (.int .i64 ((0, 0).2))]) rfl (LEs.cons (AV.le_eq rfl) (LEs.cons (AV.le_eq rfl) LEs.nil)) (fun b157 => ?_))
          refine G_l rfl (op_store_box (c' := [.exact (.int .i64 ((0, 0).1)), .exact (.int .i64 ((0, 0).2))]) (c3 := [.exact (.int .i64 ((0, 0).1)), .exact (.int .i64 ((0, 0).2))]) rfl rfl CellsOf.agg (LEs.cons (AV.le_eq rfl) (LEs.cons (AV.le_eq rfl) LEs.nil)) (oc_c_A2_int _) (by kernel_rfl) (Nat.le_of_ble_eq_true rfl) rfl ?_)
          refine G_nil ?_
          refine kC_normal ?_
          refine k_join2_0 h (fun (x6_0_j158 : Int) (x6_1_j158 : Int) => (AF.put (AF.put (AF.put (AF.put (AF.put (AF.put (AF.put (AF.put AF0 (some 0) (.row 2 c_A2_int a0)) (some 3) (.exact v3_l2)) (some 4) (.exact (.int .i64 x12_l2))) (some 5) (pA b156 0)) (some 6) (pA b157 0)) (some 10) (.row 2 c_A2_int a0)) (some 11) (.exact (.int .i64 (List.length a0 : Int)))) (some 12) (.exact (.int .i64 x12_l2)))) (fun (x6_0_j158 : Int) (x6_1_j158 : Int) => [vecT Try.prog 32 1 c_uint8 v3_l2 x3_l2, boxI 29 b156 [.exact (.int .i64 ((gi a0 x12_l2).1)), .exact (.int .i64 ((gi a0 x12_l2).2))], boxI 29 b157 [.exact (.int .i64 x6_0_j158), .exact (.int .i64 x6_1_j158)]]) (fun k158 h => ?_) (fun x6_0_j158 x6_1_j158 h => ?_)
          · refine k_seq ?_
            refine k_reg .free hmixP (by kernel_rfl) ?_
            refine G_q rfl (op_move (av := .exact (.int .i64 x12_l2)) rfl ?_)
            refine G_q rfl (op_gtr rfl rfl ?_)
            refine G_nil ?_
            refine kC_normal ?_
            refine k_cond_d (p := 0 < x12_l2) rfl (fun hc => ?_) (fun hc => ?_)
            · replace h := ite_t h hc
              refine k_reg .free hmixP (by kernel_rfl) ?_
              refine G_q rfl (op_move (av := .row 2 c_A2_int a0) rfl ?_)
              refine G_q rfl (op_move (av := .exact (.int .i64 x12_l2)) rfl ?_)
              refine G_q rfl (op_sub rfl rfl rfl ?_)
              obtain ⟨n160, h⟩ := need_some h
              refine G_q rfl (op_index_row (by kernel_rfl) rfl rfl n160.1 n160.2 ?_)
              refine G_q rfl (op_loadNp (m := 2) (c' := c_A2_int (gi a0 (i64 (x12_l2 - 1)))) (by kernel_rfl) rfl rfl rfl ?_)
              refine G_l rfl (op_store_box (c' := [.exact (.int .i64 ((gi a0 (i64 (x12_l2 - 1))).1)), .exact (.int .i64 ((gi a0 (i64 (x12_l2 - 1))).2))]) (c3 := [.exact (.int .i64 ((gi a0 (i64 (x12_l2 - 1))).1)), .exact (.int .i64 ((gi a0 (i64 (x12_l2 - 1))).2))]) rfl rfl CellsOf.agg (LEs.cons (AV.le_eq rfl) (LEs.cons (AV.le_eq rfl) LEs.nil)) (oc_c_A2_int _) (by kernel_rfl) (Nat.le_of_ble_eq_true rfl) rfl ?_)
              refine G_nil ?_
              refine kI_normal ⟨_, _, h, ?_⟩
              refine Sub.trans (SubU.to SubU.f1) ?_
              refine Sub.trans (SubU.to SubU.f2) ?_
              exact Sub.of_le (AF.le_put (AV.le_eq rfl) (AF.le_put (AV.le_eq rfl) (AF.le_put (AV.le_eq rfl) (AF.le_put (AV.le_eq rfl) (AF.le_put (AV.le_eq rfl) (AF.le_put (AV.le_eq rfl) (AF.le_put (AV.le_eq rfl) (AF.le_put (AV.le_eq rfl) (AF.le_top _)))))))))
            · replace h := ite_f h hc
              refine k_skip ?_
              refine kI_normal ⟨_, _, h, ?_⟩
              refine Sub.trans (SubU.to SubU.f1) ?_
              refine Sub.trans (SubU.to SubU.f2) ?_
              exact Sub.of_le (AF.le_put (AV.le_eq rfl) (AF.le_put (AV.le_eq rfl) (AF.le_put (AV.le_eq rfl) (AF.le_put (AV.le_eq rfl) (AF.le_put (AV.le_eq rfl) (AF.le_put (AV.le_eq rfl) (AF.le_put (AV.le_eq rfl) (AF.le_put (AV.le_eq rfl) (AF.le_top _)))))))))
          · refine k_seq ?_
            refine k_reg .free hmixP (by kernel_rfl) ?_
            refine G_q rfl (op_move (av := .exact v3_l2) rfl ?_)
            refine G_q rfl (op_indexArr (m := 2) (n := 1) (by kernel_rfl) rfl rfl (by decide) (by decide) ?_)
            refine G_r rfl (opR_f1 (op_load_box1 (a := .exact (.int .i64 ((gi a0 x12_l2).1))) (by kernel_rfl) rfl rfl ?_))
            refine G_q rfl (op_indexArr (m := 2) (n := 1) (by kernel_rfl) rfl rfl (by decide) (by decide) ?_)
            refine G_r rfl (opR_f2 (op_load_box1 (a := .exact (.int .i64 x6_0_j158)) (by kernel_rfl) rfl rfl ?_))
            refine G_q rfl (op_sub rfl rfl rfl ?_)
            obtain ⟨y161, hy161, h⟩ := bnd1_some h
            refine G_l rfl (op_fun_1_1_1 (m_codec_AppendUvarint_ok _ _ _ hy161) Try.func83 (by kernel_rfl) (LEs.cons (AV.le_eq rfl) (LEs.cons (AV.le_eq rfl) LEs.nil)) (fun v162 => ?_))
            refine G_q rfl (op_assign (av := .exact v162) rfl ?_)
            refine G_nil ?_
            refine kC_normal ?_
            refine k_join1_0 h (fun (x40_j163 : Bool) => (AF.put (AF.put (AF.put (AF.put (AF.put (AF.put (AF.put (AF.put AF0 (some 0) (.row 2 c_A2_int a0)) (some 3) (.exact v162)) (some 5) (pA b156 0)) (some 6) (pA b157 0)) (some 10) (.row 2 c_A2_int a0)) (some 11) (.exact (.int .i64 (List.length a0 : Int)))) (some 12) (.exact (.int .i64 x12_l2))) (some 40) (.exact (.bool x40_j163)))) (fun (x40_j163 : Bool) => [vecT Try.prog 32 1 c_uint8 v162 y161, boxI 29 b156 [.exact (.int .i64 ((gi a0 x12_l2).1)), .exact (.int .i64 ((gi a0 x12_l2).2))], boxI 29 b157 [.exact (.int .i64 x6_0_j158), .exact (.int .i64 x6_1_j158)]]) (fun k163 h => ?_) (fun x40_j163 h => ?_)
            · refine k_reg .free hmixP (by kernel_rfl) ?_
              refine G_q rfl (op_move (av := .exact (.int .i64 x12_l2)) rfl ?_)
              refine G_q rfl (op_gtr rfl rfl ?_)
              refine G_q rfl (op_move (av := .exact (.bool (decide (0 < x12_l2)))) rfl ?_)
              refine G_split (p := 0 < x12_l2) 34 rfl (fun hc => ?_) (fun hc => ?_)
              · replace h := ite_t h hc
                refine Gy_q rfl rfl rfl (op_indexArr (m := 2) (n := 1) (by kernel_rfl) rfl rfl (by decide) (by decide) ?_)
                refine Gy_r rfl rfl rfl (opR_f1 (op_load_box1 (a := .exact (.int .i64 ((gi a0 x12_l2).1))) (by kernel_rfl) rfl rfl ?_))
                refine Gy_q rfl rfl rfl (op_indexArr (m := 2) (n := 1) (by kernel_rfl) rfl rfl (by decide) (by decide) ?_)
                refine Gy_r rfl rfl rfl (opR_f2 (op_load_box1 (a := .exact (.int .i64 x6_0_j158)) (by kernel_rfl) rfl rfl ?_))
                refine Gy_q rfl rfl rfl (op_eql rfl rfl ?_)
                refine G_q rfl (op_pick_t rfl (av := .exact (.bool (decide (((gi a0 x12_l2).1) = x6_0_j158)))) rfl ?_)
                refine G_nil ?_
                refine kI_normal ⟨_, h, ?_⟩
                exact Sub.of_le (AF.le_put (AV.le_eq rfl) (AF.le_put (AV.le_eq rfl) (AF.le_put (AV.le_eq rfl) (AF.le_put (AV.le_eq rfl) (AF.le_put (AV.le_eq rfl) (AF.le_put (AV.le_eq rfl) (AF.le_put (AV.le_eq rfl) (AF.le_put (AV.le_eq rfl) (AF.le_top _)))))))))
              · replace h := ite_f h hc
                refine G_n rfl rfl ?_
                refine G_n rfl rfl ?_
                refine G_n rfl rfl ?_
                refine G_n rfl rfl ?_
                refine G_n rfl rfl ?_
                refine G_q rfl (op_pick_f rfl (av := .exact (.bool false)) rfl ?_)
                refine G_nil ?_
                refine kI_normal ⟨_, h, ?_⟩
                exact Sub.of_le (AF.le_put (AV.le_eq rfl) (AF.le_put (AV.le_eq rfl) (AF.le_put (AV.le_eq rfl) (AF.le_put (AV.le_eq rfl) (AF.le_put (AV.le_eq rfl) (AF.le_put (AV.le_eq rfl) (AF.le_put (AV.le_eq rfl) (AF.le_put (AV.le_eq rfl) (AF.le_top _)))))))))
            · refine k_cond_b (c := x40_j163) rfl (fun hc => ?_) (fun hc => ?_)
              · replace h := ite_t h hc
                refine k_reg .free hmixP (by kernel_rfl) ?_
                refine G_q rfl (op_move (av := .exact v162) rfl ?_)
                refine G_q rfl (op_indexArr (m := 2) (n := 1) (by kernel_rfl) rfl rfl (by decide) (by decide) ?_)
                refine G_r rfl (opR_f1 (op_load_box1 (a := .exact (.int .i64 ((gi a0 x12_l2).2))) (by kernel_rfl) rfl rfl ?_))
                refine G_q rfl (op_indexArr (m := 2) (n := 1) (by kernel_rfl) rfl rfl (by decide) (by decide) ?_)
                refine G_r rfl (opR_f2 (op_load_box1 (a := .exact (.int .i64 x6_1_j158)) (by kernel_rfl) rfl rfl ?_))
                refine G_q rfl (op_sub rfl rfl rfl ?_)
                refine G_q rfl (op_sub rfl rfl rfl ?_)
                obtain ⟨y164, hy164, h⟩ := bnd1_some h
                refine G_l rfl (op_fun_1_1_1 (m_codec_AppendUvarint_ok _ _ _ hy164) Try.func83 (by kernel_rfl) (LEs.cons (AV.le_eq rfl) (LEs.cons (AV.le_eq rfl) LEs.nil)) (fun v165 => ?_))
                refine G_q rfl (op_assign (av := .exact v165) rfl ?_)
                refine G_nil ?_
                refine kB_normal ?_
                refine kI_normal ⟨_, v165, h, ?_⟩
                refine Sub.trans (SubU.to SubU.f1) ?_
                refine Sub.trans (SubU.to SubU.drop) ?_
                refine Sub.trans (SubU.to SubU.f1) ?_
                refine Sub.trans (SubU.to SubU.drop) ?_
                exact Sub.of_le (AF.le_put (AV.le_eq rfl) (AF.le_put (AV.le_eq rfl) (AF.le_put (AV.le_eq rfl) (AF.le_put (AV.le_eq rfl) (AF.le_put (AV.le_eq rfl) (AF.le_top _))))))
              · replace h := ite_f h hc
                refine k_reg .free hmixP (by kernel_rfl) ?_
                refine G_q rfl (op_move (av := .exact v162) rfl ?_)
                refine G_q rfl (op_indexArr (m := 2) (n := 1) (by kernel_rfl) rfl rfl (by decide) (by decide) ?_)
                refine G_r rfl (opR_f1 (op_load_box1 (a := .exact (.int .i64 ((gi a0 x12_l2).2))) (by kernel_rfl) rfl rfl ?_))
                obtain ⟨y166, hy166, h⟩ := bnd1_some h
                refine G_l rfl (op_fun_1_1_1 (m_codec_AppendUvarint_ok _ _ _ hy166) Try.func83 (by kernel_rfl) (LEs.cons (AV.le_eq rfl) (LEs.cons (AV.le_eq rfl) LEs.nil)) (fun v167 => ?_))
                refine G_q rfl (op_assign (av := .exact v167) rfl ?_)
                refine G_nil ?_
                refine kB_normal ?_
                refine kI_normal ⟨_, v167, h, ?_⟩
                refine Sub.trans (SubU.to SubU.f1) ?_
                refine Sub.trans (SubU.to SubU.drop) ?_
                refine Sub.trans (SubU.to SubU.f1) ?_
                refine Sub.trans (SubU.to SubU.drop) ?_
                exact Sub.of_le (AF.le_put (AV.le_eq rfl) (AF.le_put (AV.le_eq rfl) (AF.le_put (AV.le_eq rfl) (AF.le_put (AV.le_eq rfl) (AF.le_put (AV.le_eq rfl) (AF.le_top _))))))
        · refine k_reg .free hmixP (by kernel_rfl) ?_
          refine G_q rfl (op_add rfl rfl rfl ?_)
          refine G_q rfl (op_move (av := .exact (.int .i64 (i64 (x12_l2 + 1)))) rfl ?_)
          refine G_nil ?_
          refine kI_normal ⟨_, _, v3_j141, h, ?_⟩
          exact Sub.of_le (AF.le_put (AV.le_eq rfl) (AF.le_put (AV.le_eq rfl) (AF.le_put (AV.le_eq rfl) (AF.le_put (AV.le_eq rfl) (AF.le_put (AV.le_eq rfl) (AF.le_top _))))))
      · replace h := ite_f h hc
        refine k_exit ?_
        refine kC_exit ?_
        refine kI_exit ?_
        refine kB_exit ?_
        refine kI_normal ⟨_, v3_l2, h, ?_⟩
        exact Sub.of_le (AF.le_put (AV.le_eq rfl) (AF.le_top _))
  · refine k_seq ?_
    refine k_reg .free hmixP (by kernel_rfl) ?_
    refine G_q rfl (op_move (av := .exact v3_j4) rfl ?_)
    obtain ⟨y168, hy168, h⟩ := bnd1_some h
    refine G_l rfl (op_fun_1_1_1 (m_codec_AppendSum_ok _ _ _ hy168) Try.func84 (by kernel_rfl) (LEs.cons (AV.le_eq rfl) (LEs.cons (AV.le_eq rfl) LEs.nil)) (fun v169 => ?_))
    refine G_q rfl (op_assign (av := .exact v169) rfl ?_)
    refine G_nil ?_
    refine kC_normal ?_
    refine k_ret ?_
    obtain rfl := Option.some.inj h
    refine kP_any (endN (af' := (AF.put AF0 (some 2) (.row 1 c_uint8 y168))) (σ' := []) _ rfl ?_ ⟨rfl, rfl⟩)
    refine Sub.trans (SubU.to (SubU.freezeT (s := 2) rfl len_c_uint8)) ?_
    exact Sub.of_le (AF.le_put (AV.le_eq rfl) (AF.le_top _))
set_option maxHeartbeats 4000000 in
theorem m_bytes_Equal_ok (a0 : List UInt8) (a1 : List UInt8) (r : Bool) (h : m_bytes_Equal a0 a1 = some r) : Pure Try.prog 81 [(.row 1 c_uint8 a0), (.row 1 c_uint8 a1)] (.exact (.bool r)) := by
  unfold m_bytes_Equal at h
  refine Pure.ofFun (fun_of_awp Try.func81 rfl Try.ntmps81 (by simp) rfl (res1 rfl) fun E hE => k_end ?_)
  refine k_seq ?_
  refine k_reg .free hmixP (by kernel_rfl) ?_
  refine G_q rfl (op_assign (av := .exact (.bool false)) rfl ?_)
  refine G_nil ?_
  refine kC_normal ?_
  refine k_seq ?_
  refine k_reg .free hmixP (by kernel_rfl) ?_
  refine G_q rfl (op_move (av := .row 1 c_uint8 a0) rfl ?_)
  refine G_q rfl (op_bytesS rfl (by kernel_rfl) rfl ?_)
  refine G_q rfl (op_move (av := .row 1 c_uint8 a1) rfl ?_)
  refine G_q rfl (op_bytesS rfl (by kernel_rfl) rfl ?_)
  refine G_q rfl (op_eqlS rfl rfl ?_)
  refine G_q rfl (op_assign (av := .exact (.bool (decide (a0 = a1)))) rfl ?_)
  refine G_nil ?_
  refine kC_normal ?_
  refine k_ret ?_
  obtain rfl := Option.some.inj h
  refine kP_any (endN (af' := (AF.put AF0 (some 4) (.exact (.bool (decide (a0 = a1)))))) (σ' := []) _ rfl ?_ ⟨rfl, rfl⟩)
  exact Sub.of_le (AF.le_put (AV.le_eq rfl) (AF.le_top _))
set_option maxHeartbeats 4000000 in
theorem m_frontier_DecodeBlock_ok (a0 : List UInt8) (a1 : Int) (r : (List (Int × Int)) × Int × Int) (h : m_frontier_DecodeBlock a0 a1 = some r) : Pure Try.prog 45 [(.row 1 c_uint8 a0), (.exact (.int .i64 a1))] (.tup [.row 2 c_A2_int r.1, .exact (.int .i64 r.2.1), .exact (.int .i64 r.2.2)]) := by
  unfold m_frontier_DecodeBlock at h
  refine Pure.ofFun (fun_of_awp Try.func45 rfl Try.ntmps45 (by simp) rfl (res3 rfl) fun E hE => k_end ?_)
  refine k_seq ?_
  refine k_reg .free hmixP (by kernel_rfl) ?_
  refine G_q rfl (op_assign (av := .exact (.slice none 0 0)) rfl ?_)
  refine G_q rfl (op_assign (av := .exact (.int .i64 0)) rfl ?_)
  refine G_q rfl (op_assign (av := .exact (.int .i64 0)) rfl ?_)
  refine G_nil ?_
  refine kC_normal ?_
  refine k_seq ?_
  refine k_join1_0 h (fun (x23_j3 : Bool) => (AF.put (AF.put (AF.put AF0 (some 0) (.row 1 c_uint8 a0)) (some 1) (.exact (.int .i64 a1))) (some 23) (.exact (.bool x23_j3)))) (fun (x23_j3 : Bool) => []) (fun k3 h => ?_) (fun x23_j3 h => ?_)
  · refine k_reg .free hmixP (by kernel_rfl) ?_
    refine G_q rfl (op_move (av := .exact (.int .i64 a1)) rfl ?_)
    refine G_q rfl (op_lss rfl rfl ?_)
    refine G_q rfl (op_move (av := .exact (.bool (decide (a1 < 0)))) rfl ?_)
    refine G_split (p := a1 < 0) 18 rfl (fun hc => ?_) (fun hc => ?_)
    · replace h := ite_t h hc
      refine G_n rfl rfl ?_
      refine G_n rfl rfl ?_
      refine G_n rfl rfl ?_
      refine G_n rfl rfl ?_
      refine G_q rfl (op_pick_t rfl (av := .exact (.bool true)) rfl ?_)
      refine G_nil ?_
      refine kI_normal ⟨_, h, ?_⟩
      exact Sub.of_le (AF.le_put (AV.le_eq rfl) (AF.le_put (AV.le_eq rfl) (AF.le_put (AV.le_eq rfl) (AF.le_top _))))
    · replace h := ite_f h hc
      refine Gy_q rfl rfl rfl (op_move (av := .exact (.int .i64 a1)) rfl ?_)
      refine Gy_q rfl rfl rfl (op_move (av := .row 1 c_uint8 a0) rfl ?_)
      refine Gy_q rfl rfl rfl (op_len_row (by kernel_rfl) rfl ?_)
      refine Gy_q rfl rfl rfl (op_gtr rfl rfl ?_)
      refine G_q rfl (op_pick_f rfl (av := .exact (.bool (decide ((List.length a0 : Int) < a1)))) rfl ?_)
      refine G_nil ?_
      refine kI_normal ⟨_, h, ?_⟩
      exact Sub.of_le (AF.le_put (AV.le_eq rfl) (AF.le_put (AV.le_eq rfl) (AF.le_put (AV.le_eq rfl) (AF.le_top _))))
  · refine k_cond_b (c := x23_j3) rfl (fun hc => ?_) (fun hc => ?_)
    · replace h := ite_t h hc
      refine k_seq ?_
      refine k_reg .free hmixP (by kernel_rfl) ?_
      refine G_q rfl (op_assign (av := .exact (.slice none 0 0)) rfl ?_)
      refine G_q rfl (op_assign (av := .exact (.int .i64 0)) rfl ?_)
      refine G_q rfl (op_assign (av := .exact (.int .i64 1)) rfl ?_)
      refine G_nil ?_
      refine kC_normal ?_
      refine k_ret ?_
      refine kC_ret ?_
      obtain rfl := Option.some.inj h
      refine kP_any (endN (af' := (AF.put (AF.put (AF.put AF0 (some 4) (.row 2 c_A2_int [])) (some 5) (.exact (.int .i64 0))) (some 6) (.exact (.int .i64 1)))) (σ' := []) _ rfl ?_ ⟨rfl, rfl⟩)
      exact Sub.of_le (AF.le_put (AV.le_eq rfl) (AF.le_put (AV.le_eq rfl) (AF.le_put (row_nil (by decide)) (AF.le_top _))))
    · replace h := ite_f h hc
      refine k_skip ?_
      refine kC_normal ?_
      refine k_seq ?_
      refine k_reg .free hmixP (by kernel_rfl) ?_
      refine G_q rfl (op_move (av := .row 1 c_uint8 a0) rfl ?_)
      refine G_q rfl (op_move (av := .exact (.int .i64 a1)) rfl ?_)
      obtain ⟨y4, hy4, h⟩ := bnd1_some h
      refine G_q rfl (op_pure (m_frontier_number_ok _ _ _ hy4) Try.func79 (by kernel_rfl) (LEs.cons (AV.le_eq rfl) (LEs.cons (AV.le_eq rfl) LEs.nil)) ?_)
      refine G_q rfl (op_move (av := .tup [.exact (.int .i64 y4.1), .exact (.int .i64 y4.2.1), .exact (.int .i64 y4.2.2)]) rfl ?_)
      refine G_q rfl (op_extract (av := .exact (.int .i64 y4.1)) rfl rfl ?_)
      refine G_q rfl (op_extract (av := .exact (.int .i64 y4.2.1)) rfl rfl ?_)
      refine G_q rfl (op_extract (av := .exact (.int .i64 y4.2.2)) rfl rfl ?_)
      refine G_q rfl (op_assign (av := .exact (.int .i64 y4.1)) rfl ?_)
      refine G_q rfl (op_assign (av := .exact (.int .i64 y4.2.1)) rfl ?_)
      refine G_q rfl (op_assign (av := .exact (.int .i64 y4.2.2)) rfl ?_)
      refine G_nil ?_
      refine kC_normal ?_
      refine k_join1_0 h (fun (x9_j5 : Int) => (AF.put (AF.put (AF.put (AF.put (AF.put AF0 (some 0) (.row 1 c_uint8 a0)) (some 1) (.exact (.int .i64 a1))) (some 7) (.exact (.int .i64 y4.1))) (some 8) (.exact (.int .i64 y4.2.1))) (some 9) (.exact (.int .i64 x9_j5)))) (fun (x9_j5 : Int) => []) (fun k5 h => ?_) (fun x9_j5 h => ?_)
      · refine k_join1_0 h (fun (x40_j7 : Bool) => (AF.put (AF.put (AF.put (AF.put (AF.put (AF.put AF0 (some 0) (.row 1 c_uint8 a0)) (some 1) (.exact (.int .i64 a1))) (some 7) (.exact (.int .i64 y4.1))) (some 8) (.exact (.int .i64 y4.2.1))) (some 9) (.exact (.int .i64 y4.2.2))) (some 40) (.exact (.bool x40_j7)))) (fun (x40_j7 : Bool) => []) (fun k7 h => ?_) (fun x40_j7 h => ?_)
        · refine k_reg .free hmixP (by kernel_rfl) ?_
          refine G_q rfl (op_move (av := .exact (.int .i64 y4.2.2)) rfl ?_)
          refine G_q rfl (op_eql rfl rfl ?_)
          refine G_q rfl (op_move (av := .exact (.bool (decide (y4.2.2 = 0)))) rfl ?_)
          refine G_split (p := y4.2.2 = 0) 33 rfl (fun hc => ?_) (fun hc => ?_)
          · replace h := ite_t h hc
            refine Gy_q rfl rfl rfl (op_move (av := .exact (.int .i64 y4.1)) rfl ?_)
            refine Gy_q rfl rfl rfl (op_lss rfl rfl ?_)
            refine Gy_q rfl rfl rfl (op_move (av := .exact (.bool (decide (y4.1 < 1)))) rfl ?_)
            refine G_split (p := y4.1 < 1) 36 rfl (fun hc => ?_) (fun hc => ?_)
            · replace h := ite_t h hc
              refine G_n rfl rfl ?_
              refine G_n rfl rfl ?_
              refine Gy_q rfl rfl rfl (op_pick_t rfl (av := .exact (.bool true)) rfl ?_)
              refine G_q rfl (op_pick_t rfl (av := .exact (.bool true)) rfl ?_)
              refine G_nil ?_
              refine kI_normal ⟨_, h, ?_⟩
              exact Sub.of_le (AF.le_put (AV.le_eq rfl) (AF.le_put (AV.le_eq rfl) (AF.le_put (AV.le_eq rfl) (AF.le_put (AV.le_eq rfl) (AF.le_put (AV.le_eq rfl) (AF.le_put (AV.le_eq rfl) (AF.le_top _)))))))
            · replace h := ite_f h hc
              refine Gy_q rfl rfl rfl (op_move (av := .exact (.int .i64 y4.1)) rfl ?_)
              refine Gy_q rfl rfl rfl (op_gtr rfl rfl ?_)
              refine Gy_q rfl rfl rfl (op_pick_f rfl (av := .exact (.bool (decide (1024 < y4.1)))) rfl ?_)
              refine G_q rfl (op_pick_t rfl (av := .exact (.bool (decide (1024 < y4.1)))) rfl ?_)
              refine G_nil ?_
              refine kI_normal ⟨_, h, ?_⟩
              exact Sub.of_le (AF.le_put (AV.le_eq rfl) (AF.le_put (AV.le_eq rfl) (AF.le_put (AV.le_eq rfl) (AF.le_put (AV.le_eq rfl) (AF.le_put (AV.le_eq rfl) (AF.le_put (AV.le_eq rfl) (AF.le_top _)))))))
          · replace h := ite_f h hc
            refine G_n rfl rfl ?_
            refine G_n rfl rfl ?_
            refine G_n rfl rfl ?_
            refine G_u rfl rfl ?_
            refine G_u rfl rfl ?_
            refine G_n rfl rfl ?_
            refine G_q rfl (op_pick_f rfl (av := .exact (.bool false)) rfl ?_)
            refine G_nil ?_
            refine kI_normal ⟨_, h, ?_⟩
            exact Sub.of_le (AF.le_put (AV.le_eq rfl) (AF.le_put (AV.le_eq rfl) (AF.le_put (AV.le_eq rfl) (AF.le_put (AV.le_eq rfl) (AF.le_put (AV.le_eq rfl) (AF.le_put (AV.le_eq rfl) (AF.le_top _)))))))
        · refine k_cond_b (c := x40_j7) rfl (fun hc => ?_) (fun hc => ?_)
          · replace h := ite_t h hc
            refine k_reg .free hmixP (by kernel_rfl) ?_
            refine G_q rfl (op_assign (av := .exact (.int .i64 22)) rfl ?_)
            refine G_nil ?_
            refine kI_normal ⟨_, h, ?_⟩
            exact Sub.of_le (AF.le_put (AV.le_eq rfl) (AF.le_put (AV.le_eq rfl) (AF.le_put (AV.le_eq rfl) (AF.le_put (AV.le_eq rfl) (AF.le_put (AV.le_eq rfl) (AF.le_top _))))))
          · replace h := ite_f h hc
            refine k_skip ?_
            refine kI_normal ⟨_, h, ?_⟩
            exact Sub.of_le (AF.le_put (AV.le_eq rfl) (AF.le_put (AV.le_eq rfl) (AF.le_put (AV.le_eq rfl) (AF.le_put (AV.le_eq rfl) (AF.le_put (AV.le_eq rfl) (AF.le_top _))))))
      · refine k_seq ?_
        refine k_reg .free hmixP (by kernel_rfl) ?_
        refine G_q rfl (op_assign (av := .exact (.slice none 0 0)) rfl ?_)
        refine G_nil ?_
        refine kC_normal ?_
        refine k_join3_1 h (fun (x8_j8 : Int) (x9_j8 : Int) (x10_j8 : List (Int × Int)) (v10_j8 : Value) => (AF.put (AF.put (AF.put (AF.put (AF.put AF0 (some 0) (.row 1 c_uint8 a0)) (some 1) (.exact (.int .i64 a1))) (some 8) (.exact (.int .i64 x8_j8))) (some 9) (.exact (.int .i64 x9_j8))) (some 10) (.exact v10_j8))) (fun (x8_j8 : Int) (x9_j8 : Int) (x10_j8 : List (Int × Int)) (v10_j8 : Value) => [vecT Try.prog 23 2 c_A2_int v10_j8 x10_j8]) (fun k8 h => ?_) (fun x8_j8 x9_j8 x10_j8 v10_j8 h => ?_)
        · refine k_seq ?_
          refine k_reg .free hmixP (by kernel_rfl) ?_
          refine G_q rfl (op_assign (av := .exact (.int .i64 0)) rfl ?_)
          refine G_nil ?_
          refine kC_normal ?_
          refine k_block ?_
          refine k_loop4_1 (m_frontier_DecodeBlock_L14 a0 y4 k8) (m_frontier_DecodeBlock_B14 a0 y4 k8) (fun _ _ _ _ => rfl) (fun m _ _ _ _ => rfl) h (fun (x8_l14 : Int) (x9_l14 : Int) (x10_l14 : List (Int × Int)) (x11_l14 : Int) (v10_l14 : Value) => (AF.put (AF.put (AF.put (AF.put (AF.put (AF.put (AF.put AF0 (some 0) (.row 1 c_uint8 a0)) (some 1) (.exact (.int .i64 a1))) (some 7) (.exact (.int .i64 y4.1))) (some 8) (.exact (.int .i64 x8_l14))) (some 9) (.exact (.int .i64 x9_l14))) (some 10) (.exact v10_l14)) (some 11) (.exact (.int .i64 x11_l14)))) (fun (x8_l14 : Int) (x9_l14 : Int) (x10_l14 : List (Int × Int)) (x11_l14 : Int) (v10_l14 : Value) => [vecT Try.prog 23 2 c_A2_int v10_l14 x10_l14]) (.slice none 0 0) ?_ (fun rec14 x8_l14 x9_l14 x10_l14 x11_l14 v10_l14 h => ?_)
          · refine Sub.trans (SubU.to (SubU.nilT (P := Try.prog) (t := 23) (n := 2) (enc := c_A2_int))) ?_
            exact Sub.of_le (AF.le_put (AV.le_eq rfl) (AF.le_put (AV.le_eq rfl) (AF.le_put (AV.le_eq rfl) (AF.le_put (AV.le_eq rfl) (AF.le_put (AV.le_eq rfl) (AF.le_put (AV.le_eq rfl) (AF.le_put (AV.le_eq rfl) (AF.le_top _))))))))
          · unfold m_frontier_DecodeBlock_B14 at h
            refine k_seq ?_
            refine k_join1_0 h (fun (x47_j518 : Bool) => (AF.put (AF.put (AF.put (AF.put (AF.put (AF.put (AF.put (AF.put AF0 (some 0) (.row 1 c_uint8 a0)) (some 1) (.exact (.int .i64 a1))) (some 7) (.exact (.int .i64 y4.1))) (some 8) (.exact (.int .i64 x8_l14))) (some 9) (.exact (.int .i64 x9_l14))) (some 10) (.exact v10_l14)) (some 11) (.exact (.int .i64 x11_l14))) (some 47) (.exact (.bool x47_j518)))) (fun (x47_j518 : Bool) => [vecT Try.prog 23 2 c_A2_int v10_l14 x10_l14]) (fun k518 h => ?_) (fun x47_j518 h => ?_)
            · refine k_reg .free hmixP (by kernel_rfl) ?_
              refine G_q rfl (op_move (av := .exact (.int .i64 x11_l14)) rfl ?_)
              refine G_q rfl (op_move (av := .exact (.int .i64 y4.1)) rfl ?_)
              refine G_q rfl (op_lss rfl rfl ?_)
              refine G_q rfl (op_move (av := .exact (.bool (decide (x11_l14 < y4.1)))) rfl ?_)
              refine G_split (p := x11_l14 < y4.1) 44 rfl (fun hc => ?_) (fun hc => ?_)
              · replace h := ite_t h hc
                refine Gy_q rfl rfl rfl (op_move (av := .exact (.int .i64 x9_l14)) rfl ?_)
                refine Gy_q rfl rfl rfl (op_eql rfl rfl ?_)
                refine G_q rfl (op_pick_t rfl (av := .exact (.bool (decide (x9_l14 = 0)))) rfl ?_)
                refine G_nil ?_
                refine kI_normal ⟨_, h, ?_⟩
                exact Sub.of_le (AF.le_put (AV.le_eq rfl) (AF.le_put (AV.le_eq rfl) (AF.le_put (AV.le_eq rfl) (AF.le_put (AV.le_eq rfl) (AF.le_put (AV.le_eq rfl) (AF.le_put (AV.le_eq rfl) (AF.le_put (AV.le_eq rfl) (AF.le_put (AV.le_eq rfl) (AF.le_top _)))))))))
              · replace h := ite_f h hc
                refine G_n rfl rfl ?_
                refine G_n rfl rfl ?_
                refine G_q rfl (op_pick_f rfl (av := .exact (.bool false)) rfl ?_)
                refine G_nil ?_
                refine kI_normal ⟨_, h, ?_⟩
                exact Sub.of_le (AF.le_put (AV.le_eq rfl) (AF.le_put (AV.le_eq rfl) (AF.le_put (AV.le_eq rfl) (AF.le_put (AV.le_eq rfl) (AF.le_put (AV.le_eq rfl) (AF.le_put (AV.le_eq rfl) (AF.le_put (AV.le_eq rfl) (AF.le_put (AV.le_eq rfl) (AF.le_top _)))))))))
            · refine k_cond_b (c := x47_j518) rfl (fun hc => ?_) (fun hc => ?_)
              · replace h := ite_t h hc
                refine k_skip ?_
                refine kC_normal ?_
                refine k_join3_1 h (fun (x8_j519 : Int) (x9_j519 : Int) (x10_j519 : List (Int × Int)) (v10_j519 : Value) => (AF.put (AF.put (AF.put (AF.put (AF.put (AF.put (AF.put AF0 (some 0) (.row 1 c_uint8 a0)) (some 1) (.exact (.int .i64 a1))) (some 7) (.exact (.int .i64 y4.1))) (some 8) (.exact (.int .i64 x8_j519))) (some 9) (.exact (.int .i64 x9_j519))) (some 10) (.exact v10_j519)) (some 11) (.exact (.int .i64 x11_l14)))) (fun (x8_j519 : Int) (x9_j519 : Int) (x10_j519 : List (Int × Int)) (v10_j519 : Value) => [vecT Try.prog 23 2 c_A2_int v10_j519 x10_j519]) (fun k519 h => ?_) (fun x8_j519 x9_j519 x10_j519 v10_j519 h => ?_)
                · refine k_block ?_
                  refine k_seq ?_
                  refine k_reg .free hmixP (by kernel_rfl) ?_
                  refine G_l rfl (op_alloc (c := [.exact (.int .i64 ((0, 0).1)), .exact (.int .i64 ((0, 0).2))]) rfl (LEs.cons (AV.le_eq rfl) (LEs.cons (AV.le_eq rfl) LEs.nil)) (fun b571 => ?_))
                  refine G_nil ?_
                  refine kC_normal ?_
                  refine k_join4_0 h (fun (x8_j572 : Int) (x9_j572 : Int) (x12_0_j572 : Int) (x12_1_j572 : Int) => (AF.put (AF.put (AF.put (AF.put (AF.put (AF.put (AF.put (AF.put AF0 (some 0) (.row 1 c_uint8 a0)) (some 1) (.exact (.int .i64 a1))) (some 7) (.exact (.int .i64 y4.1))) (some 8) (.exact (.int .i64 x8_j572))) (some 9) (.exact (.int .i64 x9_j572))) (some 10) (.exact v10_l14)) (some 11) (.exact (.int .i64 x11_l14))) (some 12) (pA b571 0))) (fun (x8_j572 : Int) (x9_j572 : Int) (x12_0_j572 : Int) (x12_1_j572 : Int) => [vecT Try.prog 23 2 c_A2_int v10_l14 x10_l14, boxI 29 b571 [.exact (.int .i64 x12_0_j572), .exact (.int .i64 x12_1_j572)]]) (fun k572 h => ?_) (fun x8_j572 x9_j572 x12_0_j572 x12_1_j572 h => ?_)
                  · refine k_seq ?_
                    refine k_reg .free hmixP (by kernel_rfl) ?_
                    refine G_q rfl (op_assign (av := .exact (.int .i64 0)) rfl ?_)
                    refine G_nil ?_
                    refine kC_normal ?_
                    refine k_block ?_
                    refine k_loop5_0 (m_frontier_DecodeBlock_L26 a0 k572) (m_frontier_DecodeBlock_B26 a0 k572) (fun _ _ _ _ _ => rfl) (fun m _ _ _ _ _ => rfl) h (fun (x8_l26 : Int) (x9_l26 : Int) (x12_0_l26 : Int) (x12_1_l26 : Int) (x13_l26 : Int) => (AF.put (AF.put (AF.put (AF.put (AF.put (AF.put (AF.put (AF.put (AF.put AF0 (some 0) (.row 1 c_uint8 a0)) (some 1) (.exact (.int .i64 a1))) (some 7) (.exact (.int .i64 y4.1))) (some 8) (.exact (.int .i64 x8_l26))) (some 9) (.exact (.int .i64 x9_l26))) (some 10) (.exact v10_l14)) (some 11) (.exact (.int .i64 x11_l14))) (some 12) (pA b571 0)) (some 13) (.exact (.int .i64 x13_l26)))) (fun (x8_l26 : Int) (x9_l26 : Int) (x12_0_l26 : Int) (x12_1_l26 : Int) (x13_l26 : Int) => [vecT Try.prog 23 2 c_A2_int v10_l14 x10_l14, boxI 29 b571 [.exact (.int .i64 x12_0_l26), .exact (.int .i64 x12_1_l26)]]) ?_ (fun rec26 x8_l26 x9_l26 x12_0_l26 x12_1_l26 x13_l26 h => ?_)
                    · refine Sub.trans (SubU.to SubU.f1) ?_
                      exact Sub.of_le (AF.le_put (AV.le_eq rfl) (AF.le_put (AV.le_eq rfl) (AF.le_put (AV.le_eq rfl) (AF.le_put (AV.le_eq rfl) (AF.le_put (AV.le_eq rfl) (AF.le_put (AV.le_eq rfl) (AF.le_put (AV.le_eq rfl) (AF.le_put (AV.le_eq rfl) (AF.le_put (AV.le_eq rfl) (AF.le_top _))))))))))
                    · unfold m_frontier_DecodeBlock_B26 at h
                      refine k_seq ?_
                      refine k_join1_0 h (fun (x55_j609 : Bool) => (AF.put (AF.put (AF.put (AF.put (AF.put (AF.put (AF.put (AF.put (AF.put (AF.put AF0 (some 0) (.row 1 c_uint8 a0)) (some 1) (.exact (.int .i64 a1))) (some 7) (.exact (.int .i64 y4.1))) (some 8) (.exact (.int .i64 x8_l26))) (some 9) (.exact (.int .i64 x9_l26))) (some 10) (.exact v10_l14)) (some 11) (.exact (.int .i64 x11_l14))) (some 12) (pA b571 0)) (some 13) (.exact (.int .i64 x13_l26))) (some 55) (.exact (.bool x55_j609)))) (fun (x55_j609 : Bool) => [vecT Try.prog 23 2 c_A2_int v10_l14 x10_l14, boxI 29 b571 [.exact (.int .i64 x12_0_l26), .exact (.int .i64 x12_1_l26)]]) (fun k609 h => ?_) (fun x55_j609 h => ?_)
                      · refine k_reg .free hmixP (by kernel_rfl) ?_
                        refine G_q rfl (op_move (av := .exact (.int .i64 x13_l26)) rfl ?_)
                        refine G_q rfl (op_lss rfl rfl ?_)
                        refine G_q rfl (op_move (av := .exact (.bool (decide (x13_l26 < 2)))) rfl ?_)
                        refine G_split (p := x13_l26 < 2) 52 rfl (fun hc => ?_) (fun hc => ?_)
                        · replace h := ite_t h hc
                          refine Gy_q rfl rfl rfl (op_move (av := .exact (.int .i64 x9_l26)) rfl ?_)
                          refine Gy_q rfl rfl rfl (op_eql rfl rfl ?_)
                          refine G_q rfl (op_pick_t rfl (av := .exact (.bool (decide (x9_l26 = 0)))) rfl ?_)
                          refine G_nil ?_
                          refine kI_normal ⟨_, h, ?_⟩
                          exact Sub.of_le (AF.le_put (AV.le_eq rfl) (AF.le_put (AV.le_eq rfl) (AF.le_put (AV.le_eq rfl) (AF.le_put (AV.le_eq rfl) (AF.le_put (AV.le_eq rfl) (AF.le_put (AV.le_eq rfl) (AF.le_put (AV.le_eq rfl) (AF.le_put (AV.le_eq rfl) (AF.le_put (AV.le_eq rfl) (AF.le_put (AV.le_eq rfl) (AF.le_top _)))))))))))
                        · replace h := ite_f h hc
                          refine G_n rfl rfl ?_
                          refine G_n rfl rfl ?_
                          refine G_q rfl (op_pick_f rfl (av := .exact (.bool false)) rfl ?_)
                          refine G_nil ?_
                          refine kI_normal ⟨_, h, ?_⟩
                          exact Sub.of_le (AF.le_put (AV.le_eq rfl) (AF.le_put (AV.le_eq rfl) (AF.le_put (AV.le_eq rfl) (AF.le_put (AV.le_eq rfl) (AF.le_put (AV.le_eq rfl) (AF.le_put (AV.le_eq rfl) (AF.le_put (AV.le_eq rfl) (AF.le_put (AV.le_eq rfl) (AF.le_put (AV.le_eq rfl) (AF.le_put (AV.le_eq rfl) (AF.le_top _)))))))))))
                      · refine k_cond_b (c := x55_j609) rfl (fun hc => ?_) (fun hc => ?_)
                        · replace h := ite_t h hc
                          refine k_skip ?_
                          refine kC_normal ?_
                          refine k_seq ?_
                          refine k_block ?_
                          refine k_reg .free hmixP (by kernel_rfl) ?_
                          refine G_q rfl (op_move (av := .exact (.int .i64 x13_l26)) rfl ?_)
                          refine G_q rfl (op_move (av := .row 1 c_uint8 a0) rfl ?_)
                          refine G_q rfl (op_move (av := .exact (.int .i64 x8_l26)) rfl ?_)
                          obtain ⟨y610, hy610, h⟩ := bnd1_some h
                          refine G_q rfl (op_pure (m_frontier_number_ok _ _ _ hy610) Try.func79 (by kernel_rfl) (LEs.cons (AV.le_eq rfl) (LEs.cons (AV.le_eq rfl) LEs.nil)) ?_)
                          refine G_q rfl (op_move (av := .tup [.exact (.int .i64 y610.1), .exact (.int .i64 y610.2.1), .exact (.int .i64 y610.2.2)]) rfl ?_)
                          refine G_q rfl (op_extract (av := .exact (.int .i64 y610.1)) rfl rfl ?_)
                          refine G_q rfl (op_extract (av := .exact (.int .i64 y610.2.1)) rfl rfl ?_)
                          refine G_q rfl (op_extract (av := .exact (.int .i64 y610.2.2)) rfl rfl ?_)
                          obtain ⟨n611, h⟩ := need_some h
                          refine G_q rfl (op_indexArr (m := 2) (n := 1) (by kernel_rfl) rfl rfl n611.1 n611.2 ?_)
                          refine G_l rfl (opB_f1 (op_store_box (c' := [.exact (.int .i64 y610.1)]) (c3 := [.exact (.int .i64 (if x13_l26 = 0 then y610.1 else x12_0_l26)), .exact (.int .i64 (if x13_l26 = 0 then x12_1_l26 else y610.1))]) rfl rfl CellsOf.int (LEs.cons (AV.le_eq rfl) LEs.nil) (OneC.int OneC.nil) (by kernel_rfl) (set2_le n611.1 n611.2) (set2 n611.1 n611.2) ?_))
                          refine G_q rfl (op_assign (av := .exact (.int .i64 y610.2.1)) rfl ?_)
                          refine G_q rfl (op_assign (av := .exact (.int .i64 y610.2.2)) rfl ?_)
                          refine G_nil ?_
                          refine kB_normal ?_
                          refine kC_normal ?_
                          refine k_reg .free hmixP (by kernel_rfl) ?_
                          refine G_q rfl (op_move (av := .exact (.int .i64 x13_l26)) rfl ?_)
                          refine G_q rfl (op_add rfl rfl rfl ?_)
                          refine G_q rfl (op_assign (av := .exact (.int .i64 (i64 (x13_l26 + 1)))) rfl ?_)
                          refine G_nil ?_
                          refine kI_normal ⟨_, _, _, _, _, h, ?_⟩
                          refine Sub.trans (SubU.to SubU.f1) ?_
                          exact Sub.of_le (AF.le_put (AV.le_eq rfl) (AF.le_put (AV.le_eq rfl) (AF.le_put (AV.le_eq rfl) (AF.le_put (AV.le_eq rfl) (AF.le_put (AV.le_eq rfl) (AF.le_put (AV.le_eq rfl) (AF.le_put (AV.le_eq rfl) (AF.le_put (AV.le_eq rfl) (AF.le_put (AV.le_eq rfl) (AF.le_top _))))))))))
                        · replace h := ite_f h hc
                          refine k_exit ?_
                          refine kC_exit ?_
                          refine kI_exit ?_
                          refine kB_exit ?_
                          refine kI_normal ⟨_, _, _, _, h, ?_⟩
                          exact Sub.of_le (AF.le_put (AV.le_eq rfl) (AF.le_put (AV.le_eq rfl) (AF.le_put (AV.le_eq rfl) (AF.le_put (AV.le_eq rfl) (AF.le_put (AV.le_eq rfl) (AF.le_put (AV.le_eq rfl) (AF.le_put (AV.le_eq rfl) (AF.le_put (AV.le_eq rfl) (AF.le_top _)))))))))
                  · refine k_join2_0 h (fun (x12_0_j612 : Int) (x12_1_j612 : Int) => (AF.put (AF.put (AF.put (AF.put (AF.put (AF.put (AF.put (AF.put AF0 (some 0) (.row 1 c_uint8 a0)) (some 1) (.exact (.int .i64 a1))) (some 7) (.exact (.int .i64 y4.1))) (some 8) (.exact (.int .i64 x8_j572))) (some 9) (.exact (.int .i64 x9_j572))) (some 10) (.exact v10_l14)) (some 11) (.exact (.int .i64 x11_l14))) (some 12) (pA b571 0))) (fun (x12_0_j612 : Int) (x12_1_j612 : Int) => [vecT Try.prog 23 2 c_A2_int v10_l14 x10_l14, boxI 29 b571 [.exact (.int .i64 x12_0_j612), .exact (.int .i64 x12_1_j612)]]) (fun k612 h => ?_) (fun x12_0_j612 x12_1_j612 h => ?_)
                    · refine k_seq ?_
                      refine k_reg .free hmixP (by kernel_rfl) ?_
                      refine G_q rfl (op_move (av := .exact (.int .i64 x11_l14)) rfl ?_)
                      refine G_q rfl (op_gtr rfl rfl ?_)
                      refine G_nil ?_
                      refine kC_normal ?_
                      refine k_cond_d (p := 0 < x11_l14) rfl (fun hc => ?_) (fun hc => ?_)
                      · replace h := ite_t h hc
                        refine k_seq ?_
                        refine k_reg .free hmixP (by kernel_rfl) ?_
                        refine G_q rfl (op_move (av := .exact v10_l14) rfl ?_)
                        refine G_q rfl (op_move (av := .exact (.int .i64 x11_l14)) rfl ?_)
                        refine G_q rfl (op_sub rfl rfl rfl ?_)
                        obtain ⟨n616, h⟩ := need_some h
                        refine G_r rfl (op_index_vec (by kernel_rfl) rfl rfl n616.1 n616.2 ?_)
                        refine G_r rfl (op_load_vecN (i := i64 (x11_l14 - 1)) (o := 0) (m := 2) (c' := c_A2_int (gi x10_l14 (i64 (x11_l14 - 1)))) (by kernel_rfl) len_c_A2_int rfl n616.1 n616.2 rfl rfl ?_)
                        refine G_l rfl (op_alloc (c := [.exact (.int .i64 ((0, 0).1)), .exact (.int .i64 ((0, 0).2))]) rfl (LEs.cons (AV.le_eq rfl) (LEs.cons (AV.le_eq rfl) LEs.nil)) (fun b617 => ?_))
                        refine G_l rfl (op_store_box (c' := [.exact (.int .i64 ((gi x10_l14 (i64 (x11_l14 - 1))).1)), .exact (.int .i64 ((gi x10_l14 (i64 (x11_l14 - 1))).2))]) (c3 := [.exact (.int .i64 ((gi x10_l14 (i64 (x11_l14 - 1))).1)), .exact (.int .i64 ((gi x10_l14 (i64 (x11_l14 - 1))).2))]) rfl rfl CellsOf.agg (LEs.cons (AV.le_eq rfl) (LEs.cons (AV.le_eq rfl) LEs.nil)) (oc_c_A2_int _) (by kernel_rfl) (Nat.le_of_ble_eq_true rfl) rfl ?_)
                        refine G_nil ?_
                        refine kC_normal ?_
                        refine k_join1_0 h (fun (x12_1_j618 : Int) => (AF.put (AF.put (AF.put (AF.put (AF.put (AF.put (AF.put (AF.put (AF.put AF0 (some 0) (.row 1 c_uint8 a0)) (some 1) (.exact (.int .i64 a1))) (some 7) (.exact (.int .i64 y4.1))) (some 8) (.exact (.int .i64 x8_j572))) (some 9) (.exact (.int .i64 x9_j572))) (some 10) (.exact v10_l14)) (some 11) (.exact (.int .i64 x11_l14))) (some 12) (pA b571 0)) (some 14) (pA b617 0))) (fun (x12_1_j618 : Int) => [vecT Try.prog 23 2 c_A2_int v10_l14 x10_l14, boxI 29 b571 [.exact (.int .i64 x12_0_j572), .exact (.int .i64 x12_1_j618)], boxI 29 b617 [.exact (.int .i64 ((gi x10_l14 (i64 (x11_l14 - 1))).1)), .exact (.int .i64 ((gi x10_l14 (i64 (x11_l14 - 1))).2))]]) (fun k618 h => ?_) (fun x12_1_j618 h => ?_)
                        · refine k_seq ?_
                          refine k_reg .free hmixP (by kernel_rfl) ?_
                          refine G_q rfl (op_indexArr (m := 2) (n := 1) (by kernel_rfl) rfl rfl (by decide) (by decide) ?_)
                          refine G_r rfl (opR_f2 (op_load_box1 (a := .exact (.int .i64 x12_0_j572)) (by kernel_rfl) rfl rfl ?_))
                          refine G_q rfl (op_eql rfl rfl ?_)
                          refine G_nil ?_
                          refine kC_normal ?_
                          refine k_cond_d (p := x12_0_j572 = 0) rfl (fun hc => ?_) (fun hc => ?_)
                          · replace h := ite_t h hc
                            refine k_reg .free hmixP (by kernel_rfl) ?_
                            refine G_q rfl (op_indexArr (m := 2) (n := 1) (by kernel_rfl) rfl rfl (by decide) (by decide) ?_)
                            refine G_r rfl (opR_f2 (op_load_box1 (a := .exact (.int .i64 x12_1_j572)) (by kernel_rfl) rfl rfl ?_))
                            refine G_q rfl (op_indexArr (m := 2) (n := 1) (by kernel_rfl) rfl rfl (by decide) (by decide) ?_)
                            refine G_r rfl (op_load_box1 (a := .exact (.int .i64 ((gi x10_l14 (i64 (x11_l14 - 1))).2))) (by kernel_rfl) rfl rfl ?_)
                            refine G_q rfl (op_add rfl rfl rfl ?_)
                            refine G_q rfl (op_add rfl rfl rfl ?_)
                            refine G_q rfl (op_indexArr (m := 2) (n := 1) (by kernel_rfl) rfl rfl (by decide) (by decide) ?_)
                            refine G_l rfl (opB_f2 (op_store_box (c' := [.exact (.int .i64 (i64 (x12_1_j572 + (i64 (((gi x10_l14 (i64 (x11_l14 - 1))).2) + 1)))))]) (c3 := [.exact (.int .i64 x12_0_j572), .exact (.int .i64 (i64 (x12_1_j572 + (i64 (((gi x10_l14 (i64 (x11_l14 - 1))).2) + 1)))))]) rfl rfl CellsOf.int (LEs.cons (AV.le_eq rfl) LEs.nil) (OneC.int OneC.nil) (by kernel_rfl) (Nat.le_of_ble_eq_true rfl) rfl ?_))
                            refine G_nil ?_
                            refine kI_normal ⟨_, h, ?_⟩
                            refine Sub.trans (SubU.to SubU.f1) ?_
                            refine Sub.trans (SubU.to SubU.f1) ?_
                            refine Sub.trans (SubU.to SubU.f2) ?_
                            exact Sub.of_le (AF.le_put (AV.le_eq rfl) (AF.le_put (AV.le_eq rfl) (AF.le_put (AV.le_eq rfl) (AF.le_put (AV.le_eq rfl) (AF.le_put (AV.le_eq rfl) (AF.le_put (AV.le_eq rfl) (AF.le_put (AV.le_eq rfl) (AF.le_put (AV.le_eq rfl) (AF.le_put (AV.le_eq rfl) (AF.le_top _))))))))))
                          · replace h := ite_f h hc
                            refine k_skip ?_
                            refine kI_normal ⟨_, h, ?_⟩
                            refine Sub.trans (SubU.to SubU.f2) ?_
                            refine Sub.trans (SubU.to SubU.f2) ?_
                            exact Sub.of_le (AF.le_put (AV.le_eq rfl) (AF.le_put (AV.le_eq rfl) (AF.le_put (AV.le_eq rfl) (AF.le_put (AV.le_eq rfl) (AF.le_put (AV.le_eq rfl) (AF.le_put (AV.le_eq rfl) (AF.le_put (AV.le_eq rfl) (AF.le_put (AV.le_eq rfl) (AF.le_put (AV.le_eq rfl) (AF.le_top _))))))))))
                        · refine k_reg .free hmixP (by kernel_rfl) ?_
                          refine G_q rfl (op_indexArr (m := 2) (n := 1) (by kernel_rfl) rfl rfl (by decide) (by decide) ?_)
                          refine G_r rfl (opR_f1 (op_load_box1 (a := .exact (.int .i64 x12_0_j572)) (by kernel_rfl) rfl rfl ?_))
                          refine G_q rfl (op_indexArr (m := 2) (n := 1) (by kernel_rfl) rfl rfl (by decide) (by decide) ?_)
                          refine G_r rfl (opR_f2 (op_load_box1 (a := .exact (.int .i64 ((gi x10_l14 (i64 (x11_l14 - 1))).1))) (by kernel_rfl) rfl rfl ?_))
                          refine G_q rfl (op_add rfl rfl rfl ?_)
                          refine G_q rfl (op_indexArr (m := 2) (n := 1) (by kernel_rfl) rfl rfl (by decide) (by decide) ?_)
                          refine G_l rfl (opB_f1 (op_store_box (c' := [.exact (.int .i64 (i64 (x12_0_j572 + ((gi x10_l14 (i64 (x11_l14 - 1))).1))))]) (c3 := [.exact (.int .i64 (i64 (x12_0_j572 + ((gi x10_l14 (i64 (x11_l14 - 1))).1)))), .exact (.int .i64 x12_1_j618)]) rfl rfl CellsOf.int (LEs.cons (AV.le_eq rfl) LEs.nil) (OneC.int OneC.nil) (by kernel_rfl) (Nat.le_of_ble_eq_true rfl) rfl ?_))
                          refine G_nil ?_
                          refine kI_normal ⟨_, _, h, ?_⟩
                          refine Sub.trans (SubU.to SubU.f2) ?_
                          refine Sub.trans (SubU.to SubU.drop) ?_
                          refine Sub.trans (SubU.to SubU.f1) ?_
                          exact Sub.of_le (AF.le_put (AV.le_eq rfl) (AF.le_put (AV.le_eq rfl) (AF.le_put (AV.le_eq rfl) (AF.le_put (AV.le_eq rfl) (AF.le_put (AV.le_eq rfl) (AF.le_put (AV.le_eq rfl) (AF.le_put (AV.le_eq rfl) (AF.le_put (AV.le_eq rfl) (AF.le_top _)))))))))
                      · replace h := ite_f h hc
                        refine k_skip ?_
                        refine kI_normal ⟨_, _, h, ?_⟩
                        exact Sub.of_le (AF.le_put (AV.le_eq rfl) (AF.le_put (AV.le_eq rfl) (AF.le_put (AV.le_eq rfl) (AF.le_put (AV.le_eq rfl) (AF.le_put (AV.le_eq rfl) (AF.le_put (AV.le_eq rfl) (AF.le_put (AV.le_eq rfl) (AF.le_put (AV.le_eq rfl) (AF.le_top _)))))))))
                    · refine k_reg .free hmixP (by kernel_rfl) ?_
                      refine G_q rfl (op_move (av := .exact v10_l14) rfl ?_)
                      refine G_r rfl (opR_f1 (op_load_boxN (m := 2) (c' := c_A2_int (x12_0_j612, x12_1_j612)) (by kernel_rfl) rfl rfl rfl ?_))
                      refine G_q rfl (op_litT (n := 2) (enc := c_A2_int) [(x12_0_j612, x12_1_j612)] (CellsAll.cons rfl CellsOf.agg CellsAll.nil) rfl (by kernel_rfl) (LEss.cons (LEs.cons (AV.le_eq rfl) (LEs.cons (AV.le_eq rfl) LEs.nil)) LEss.nil) ?_)
                      obtain ⟨n619, h⟩ := need_some h
                      refine G_l rfl (op_appT (by kernel_rfl) rfl rfl oc_c_A2_int n619 (fun v620 => ?_))
                      refine G_q rfl (op_assign (av := .exact v620) rfl ?_)
                      refine G_nil ?_
                      refine kB_normal ?_
                      refine kI_normal ⟨_, _, _, v620, h, ?_⟩
                      refine Sub.trans (SubU.to SubU.f1) ?_
                      refine Sub.trans (SubU.to SubU.drop) ?_
                      exact Sub.of_le (AF.le_put (AV.le_eq rfl) (AF.le_put (AV.le_eq rfl) (AF.le_put (AV.le_eq rfl) (AF.le_put (AV.le_eq rfl) (AF.le_put (AV.le_eq rfl) (AF.le_put (AV.le_eq rfl) (AF.le_put (AV.le_eq rfl) (AF.le_top _))))))))
                · refine k_reg .free hmixP (by kernel_rfl) ?_
                  refine G_q rfl (op_move (av := .exact (.int .i64 x11_l14)) rfl ?_)
                  refine G_q rfl (op_add rfl rfl rfl ?_)
                  refine G_q rfl (op_assign (av := .exact (.int .i64 (i64 (x11_l14 + 1)))) rfl ?_)
                  refine G_nil ?_
                  refine kI_normal ⟨_, _, _, _, v10_j519, h, ?_⟩
                  exact Sub.of_le (AF.le_put (AV.le_eq rfl) (AF.le_put (AV.le_eq rfl) (AF.le_put (AV.le_eq rfl) (AF.le_put (AV.le_eq rfl) (AF.le_put (AV.le_eq rfl) (AF.le_put (AV.le_eq rfl) (AF.le_put (AV.le_eq rfl) (AF.le_top _))))))))
              · replace h := ite_f h hc
                refine k_exit ?_
                refine kC_exit ?_
                refine kI_exit ?_
                refine kB_exit ?_
                refine kI_normal ⟨_, _, _, v10_l14, h, ?_⟩
                exact Sub.of_le (AF.le_put (AV.le_eq rfl) (AF.le_put (AV.le_eq rfl) (AF.le_put (AV.le_eq rfl) (AF.le_put (AV.le_eq rfl) (AF.le_put (AV.le_eq rfl) (AF.le_top _))))))
        · refine k_seq ?_
          refine k_block ?_
          refine k_seq ?_
          refine k_reg .free hmixP (by kernel_rfl) ?_
          refine G_q rfl (op_move (av := .exact (.int .i64 x9_j8)) rfl ?_)
          refine G_q rfl (op_neq rfl rfl ?_)
          refine G_q rfl (op_assign (av := .exact (.bool (decide (¬ x9_j8 = 0)))) rfl ?_)
          refine G_nil ?_
          refine kC_normal ?_
          refine k_cond_d (p := ¬ x9_j8 = 0) rfl (fun hc => ?_) (fun hc => ?_)
          · replace h := ite_t h hc
            refine k_seq ?_
            refine k_reg .free hmixP (by kernel_rfl) ?_
            refine G_q rfl (op_move (av := .exact (.int .i64 x9_j8)) rfl ?_)
            refine G_q rfl (op_assign (av := .exact (.slice none 0 0)) rfl ?_)
            refine G_q rfl (op_assign (av := .exact (.int .i64 0)) rfl ?_)
            refine G_q rfl (op_assign (av := .exact (.int .i64 x9_j8)) rfl ?_)
            refine G_nil ?_
            refine kC_normal ?_
            refine k_ret ?_
            refine kB_ret ?_
            refine kC_ret ?_
            obtain rfl := Option.some.inj h
            refine kP_any (endN (af' := (AF.put (AF.put (AF.put AF0 (some 4) (.row 2 c_A2_int [])) (some 5) (.exact (.int .i64 0))) (some 6) (.exact (.int .i64 x9_j8)))) (σ' := []) _ rfl ?_ ⟨rfl, rfl⟩)
            refine Sub.trans (SubU.to SubU.drop) ?_
            exact Sub.of_le (AF.le_put (AV.le_eq rfl) (AF.le_put (AV.le_eq rfl) (AF.le_put (row_nil (by decide)) (AF.le_top _))))
          · replace h := ite_f h hc
            refine k_seq ?_
            refine k_reg .free hmixP (by kernel_rfl) ?_
            refine G_q rfl (op_move (av := .row 1 c_uint8 a0) rfl ?_)
            refine G_q rfl (op_len_row (by kernel_rfl) rfl ?_)
            refine G_q rfl (op_move (av := .exact (.int .i64 x8_j8)) rfl ?_)
            refine G_q rfl (op_sub rfl rfl rfl ?_)
            refine G_q rfl (op_lss rfl rfl ?_)
            refine G_q rfl (op_assign (av := .exact (.bool (decide ((i64 ((List.length a0 : Int) - x8_j8)) < 4)))) rfl ?_)
            refine G_nil ?_
            refine kC_normal ?_
            refine k_cond_d (p := (i64 ((List.length a0 : Int) - x8_j8)) < 4) rfl (fun hc => ?_) (fun hc => ?_)
            · replace h := ite_t h hc
              refine k_seq ?_
              refine k_reg .free hmixP (by kernel_rfl) ?_
              refine G_q rfl (op_assign (av := .exact (.slice none 0 0)) rfl ?_)
              refine G_q rfl (op_assign (av := .exact (.int .i64 0)) rfl ?_)
              refine G_q rfl (op_assign (av := .exact (.int .i64 23)) rfl ?_)
              refine G_nil ?_
              refine kC_normal ?_
              refine k_ret ?_
              refine kB_ret ?_
              refine kC_ret ?_
              obtain rfl := Option.some.inj h
              refine kP_any (endN (af' := (AF.put (AF.put (AF.put AF0 (some 4) (.row 2 c_A2_int [])) (some 5) (.exact (.int .i64 0))) (some 6) (.exact (.int .i64 23)))) (σ' := []) _ rfl ?_ ⟨rfl, rfl⟩)
              refine Sub.trans (SubU.to SubU.drop) ?_
              exact Sub.of_le (AF.le_put (AV.le_eq rfl) (AF.le_put (AV.le_eq rfl) (AF.le_put (row_nil (by decide)) (AF.le_top _))))
            · replace h := ite_f h hc
              refine k_skip ?_
              refine kB_normal ?_
              refine kC_normal ?_
              refine k_seq ?_
              refine k_reg .free hmixP (by kernel_rfl) ?_
              refine G_q rfl (op_move (av := .exact (.int .i64 x8_j8)) rfl ?_)
              refine G_q rfl (op_add rfl rfl rfl ?_)
              refine G_q rfl (op_assign (av := .exact (.int .i64 (i64 (x8_j8 + 4)))) rfl ?_)
              refine G_nil ?_
              refine kC_normal ?_
              refine k_seq ?_
              refine k_seq ?_
              refine k_reg .free hmixP (by kernel_rfl) ?_
              refine G_q rfl (op_move (av := .row 1 c_uint8 a0) rfl ?_)
              refine G_q rfl (op_move (av := .exact (.int .i64 a1)) rfl ?_)
              refine G_q rfl (op_move (av := .exact (.int .i64 (i64 (x8_j8 + 4)))) rfl ?_)
              obtain ⟨n631, h⟩ := need_some h
              refine G_q rfl (op_slice_row (by kernel_rfl) rfl (bnd_some rfl) (bnd_some rfl) n631.1 n631.2.1 n631.2.2 ?_)
              refine G_q rfl (op_assign (av := .row 1 c_uint8 (List.take (Int.toNat (i64 (x8_j8 + 4)) - Int.toNat a1) (List.drop (Int.toNat a1) a0))) rfl ?_)
              refine G_nil ?_
              refine kC_normal ?_
              refine k_block ?_
              refine k_seq ?_
              refine k_reg .free hmixP (by kernel_rfl) ?_
              refine G_q rfl (op_move (av := .row 1 c_uint8 (List.take (Int.toNat (i64 (x8_j8 + 4)) - Int.toNat a1) (List.drop (Int.toNat a1) a0))) rfl ?_)
              obtain ⟨y632, hy632, h⟩ := bnd1_some h
              refine G_q rfl (op_pure (m_codec_Sealed_ok _ _ hy632) Try.func80 (by kernel_rfl) (LEs.cons (AV.le_eq rfl) LEs.nil) ?_)
              refine G_q rfl (op_not rfl ?_)
              refine G_q rfl (op_assign (av := .exact (.bool (!y632))) rfl ?_)
              refine G_nil ?_
              refine kC_normal ?_
              refine k_cond_b (c := !y632) rfl (fun hc => ?_) (fun hc => ?_)
              · replace h := ite_t h hc
                refine k_seq ?_
                refine k_reg .free hmixP (by kernel_rfl) ?_
                refine G_q rfl (op_assign (av := .exact (.slice none 0 0)) rfl ?_)
                refine G_q rfl (op_assign (av := .exact (.int .i64 0)) rfl ?_)
                refine G_q rfl (op_assign (av := .exact (.int .i64 24)) rfl ?_)
                refine G_nil ?_
                refine kC_normal ?_
                refine k_ret ?_
                refine kB_ret ?_
                refine kC_ret ?_
                obtain rfl := Option.some.inj h
                refine kP_any (endN (af' := (AF.put (AF.put (AF.put AF0 (some 4) (.row 2 c_A2_int [])) (some 5) (.exact (.int .i64 0))) (some 6) (.exact (.int .i64 24)))) (σ' := []) _ rfl ?_ ⟨rfl, rfl⟩)
                refine Sub.trans (SubU.to SubU.drop) ?_
                exact Sub.of_le (AF.le_put (AV.le_eq rfl) (AF.le_put (AV.le_eq rfl) (AF.le_put (row_nil (by decide)) (AF.le_top _))))
              · replace h := ite_f h hc
                refine k_join1_0 h (fun (x114_j633 : Bool) => (AF.put (AF.put (AF.put AF0 (some 8) (.exact (.int .i64 (i64 (x8_j8 + 4))))) (some 10) (.row 2 c_A2_int x10_j8)) (some 114) (.exact (.bool x114_j633)))) (fun (x114_j633 : Bool) => []) (fun k633 h => ?_) (fun x114_j633 h => ?_)
                · refine k_reg .free hmixP (by kernel_rfl) ?_
                  refine G_q rfl (op_move (av := .exact v10_j8) rfl ?_)
                  refine G_sub rfl (SubU.freezeT2 (s1 := 10) (s2 := 115) rfl rfl len_c_A2_int) ?_
                  obtain ⟨y637, hy637, h⟩ := bnd1_some h
                  refine G_q rfl (op_pure (m_frontier_isBlock_ok _ _ hy637) Try.func77 (by kernel_rfl) (LEs.cons (AV.le_eq rfl) LEs.nil) ?_)
                  refine G_q rfl (op_not rfl ?_)
                  refine G_q rfl (op_move (av := .exact (.bool (!y637))) rfl ?_)
                  refine G_splitB (c := !y637) 118 rfl (fun hc => ?_) (fun hc => ?_)
                  · replace h := ite_t h hc
                    refine G_n rfl rfl ?_
                    refine G_n rfl rfl ?_
                    refine G_n rfl rfl ?_
                    refine G_n rfl rfl ?_
                    refine G_n rfl rfl ?_
                    refine G_q rfl (op_pick_t rfl (av := .exact (.bool true)) rfl ?_)
                    refine G_q rfl (op_assign (av := .exact (.bool true)) rfl ?_)
                    refine G_nil ?_
                    refine kI_normal ⟨_, h, ?_⟩
                    exact Sub.of_le (AF.le_put (AV.le_eq rfl) (AF.le_put (AV.le_eq rfl) (AF.le_put (AV.le_eq rfl) (AF.le_top _))))
                  · replace h := ite_f h hc
                    refine Gy_q rfl rfl rfl (op_move (av := .row 2 c_A2_int x10_j8) rfl ?_)
                    obtain ⟨y638, hy638, h⟩ := bnd1_some h
                    refine Gy_q rfl rfl rfl (op_pure (m_frontier_encode_ok _ _ hy638) Try.func49 (by kernel_rfl) (LEs.cons (AV.le_eq rfl) LEs.nil) ?_)
                    refine Gy_q rfl rfl rfl (op_move (av := .row 1 c_uint8 (List.take (Int.toNat (i64 (x8_j8 + 4)) - Int.toNat a1) (List.drop (Int.toNat a1) a0))) rfl ?_)
                    obtain ⟨y639, hy639, h⟩ := bnd1_some h
                    refine Gy_q rfl rfl rfl (op_pure (m_bytes_Equal_ok _ _ _ hy639) Try.func81 (by kernel_rfl) (LEs.cons (AV.le_eq rfl) (LEs.cons (AV.le_eq rfl) LEs.nil)) ?_)
                    refine Gy_q rfl rfl rfl (op_not rfl ?_)
                    refine G_q rfl (op_pick_f rfl (av := .exact (.bool (!y639))) rfl ?_)
                    refine G_q rfl (op_assign (av := .exact (.bool (!y639))) rfl ?_)
                    refine G_nil ?_
                    refine kI_normal ⟨_, h, ?_⟩
                    exact Sub.of_le (AF.le_put (AV.le_eq rfl) (AF.le_put (AV.le_eq rfl) (AF.le_put (AV.le_eq rfl) (AF.le_top _))))
                · refine k_cond_b (c := x114_j633) rfl (fun hc => ?_) (fun hc => ?_)
                  · replace h := ite_t h hc
                    refine k_seq ?_
                    refine k_reg .free hmixP (by kernel_rfl) ?_
                    refine G_q rfl (op_assign (av := .exact (.slice none 0 0)) rfl ?_)
                    refine G_q rfl (op_assign (av := .exact (.int .i64 0)) rfl ?_)
                    refine G_q rfl (op_assign (av := .exact (.int .i64 22)) rfl ?_)
                    refine G_nil ?_
                    refine kC_normal ?_
                    refine k_ret ?_
                    refine kB_ret ?_
                    refine kC_ret ?_
                    obtain rfl := Option.some.inj h
                    refine kP_any (endN (af' := (AF.put (AF.put (AF.put AF0 (some 4) (.row 2 c_A2_int [])) (some 5) (.exact (.int .i64 0))) (some 6) (.exact (.int .i64 22)))) (σ' := []) _ rfl ?_ ⟨rfl, rfl⟩)
                    exact Sub.of_le (AF.le_put (AV.le_eq rfl) (AF.le_put (AV.le_eq rfl) (AF.le_put (row_nil (by decide)) (AF.le_top _))))
                  · replace h := ite_f h hc
                    refine k_skip ?_
                    refine kB_normal ?_
                    refine kC_normal ?_
                    refine k_seq ?_
                    refine k_reg .free hmixP (by kernel_rfl) ?_
                    refine G_q rfl (op_move (av := .row 2 c_A2_int x10_j8) rfl ?_)
                    refine G_q rfl (op_move (av := .exact (.int .i64 (i64 (x8_j8 + 4)))) rfl ?_)
                    refine G_q rfl (op_assign (av := .row 2 c_A2_int x10_j8) rfl ?_)
                    refine G_q rfl (op_assign (av := .exact (.int .i64 (i64 (x8_j8 + 4)))) rfl ?_)
                    refine G_q rfl (op_assign (av := .exact (.int .i64 0)) rfl ?_)
                    refine G_nil ?_
                    refine kC_normal ?_
                    refine k_ret ?_
                    obtain rfl := Option.some.inj h
                    refine kP_any (endN (af' := (AF.put (AF.put (AF.put AF0 (some 4) (.row 2 c_A2_int x10_j8)) (some 5) (.exact (.int .i64 (i64 (x8_j8 + 4))))) (some 6) (.exact (.int .i64 0)))) (σ' := []) _ rfl ?_ ⟨rfl, rfl⟩)
                    exact Sub.of_le (AF.le_put (AV.le_eq rfl) (AF.le_put (AV.le_eq rfl) (AF.le_put (AV.le_eq rfl) (AF.le_top _))))
set_option maxHeartbeats 4000000 in
theorem m_ref23_Checksum_ok (a0 : List UInt8) (r : Int) (h : m_ref23_Checksum a0 = some r) : Pure Try.prog 47 [(.row 1 c_uint8 a0)] (.exact (.int .u32 r)) := by
  unfold m_ref23_Checksum at h
  refine Pure.ofFun (fun_of_awp Try.func47 rfl Try.ntmps47 (by simp) rfl (res1 rfl) fun E hE => k_end ?_)
  refine k_seq ?_
  refine k_reg .free hmixP (by kernel_rfl) ?_
  refine G_q rfl (op_assign (av := .exact (.int .u32 0)) rfl ?_)
  refine G_nil ?_
  refine kC_normal ?_
  refine k_seq ?_
  refine k_reg .free hmixP (by kernel_rfl) ?_
  refine G_q rfl (op_assign (av := .exact (.int .u32 4294967295)) rfl ?_)
  refine G_nil ?_
  refine kC_normal ?_
  refine k_join1_0 h (fun (x3_j1 : Int) => (AF.put AF0 (some 3) (.exact (.int .u32 x3_j1)))) (fun (x3_j1 : Int) => []) (fun k1 h => ?_) (fun x3_j1 h => ?_)
  · refine k_seq ?_
    refine k_reg .free hmixP (by kernel_rfl) ?_
    refine G_q rfl (op_assign (av := .exact (.int .i64 0)) rfl ?_)
    refine G_nil ?_
    refine kC_normal ?_
    refine k_block ?_
    refine k_loop2_0 (m_ref23_Checksum_L8 a0 k1) (m_ref23_Checksum_B8 a0 k1) (fun _ _ => rfl) (fun m _ _ => rfl) h (fun (x3_l8 : Int) (x4_l8 : Int) => (AF.put (AF.put (AF.put AF0 (some 0) (.row 1 c_uint8 a0)) (some 3) (.exact (.int .u32 x3_l8))) (some 4) (.exact (.int .i64 x4_l8)))) (fun (x3_l8 : Int) (x4_l8 : Int) => []) ?_ (fun rec8 x3_l8 x4_l8 h => ?_)
    · exact Sub.of_le (AF.le_put (AV.le_eq rfl) (AF.le_put (AV.le_eq rfl) (AF.le_put (AV.le_eq rfl) (AF.le_top _))))
    · unfold m_ref23_Checksum_B8 at h
      refine k_seq ?_
      refine k_seq ?_
      refine k_reg .free hmixP (by kernel_rfl) ?_
      refine G_q rfl (op_move (av := .exact (.int .i64 x4_l8)) rfl ?_)
      refine G_q rfl (op_move (av := .row 1 c_uint8 a0) rfl ?_)
      refine G_q rfl (op_len_row (by kernel_rfl) rfl ?_)
      refine G_q rfl (op_lss rfl rfl ?_)
      refine G_nil ?_
      refine kC_normal ?_
      refine k_cond_d (p := x4_l8 < (List.length a0 : Int)) rfl (fun hc => ?_) (fun hc => ?_)
      · replace h := ite_t h hc
        refine k_skip ?_
        refine kC_normal ?_
        refine k_join1_0 h (fun (x3_j58 : Int) => (AF.put (AF.put (AF.put AF0 (some 0) (.row 1 c_uint8 a0)) (some 3) (.exact (.int .u32 x3_j58))) (some 4) (.exact (.int .i64 x4_l8)))) (fun (x3_j58 : Int) => []) (fun k58 h => ?_) (fun x3_j58 h => ?_)
        · refine k_block ?_
          refine k_seq ?_
          refine k_reg .free hmixP (by kernel_rfl) ?_
          refine G_q rfl (op_move (av := .exact (.int .u32 x3_l8)) rfl ?_)
          refine G_q rfl (op_move (av := .row 1 c_uint8 a0) rfl ?_)
          refine G_q rfl (op_move (av := .exact (.int .i64 x4_l8)) rfl ?_)
          obtain ⟨n64, h⟩ := need_some h
          refine G_q rfl (op_index_row (by kernel_rfl) rfl rfl n64.1 n64.2 ?_)
          refine G_q rfl (op_load1p (a := .exact (.int .u8 (UInt8.toNat (gi a0 x4_l8) : Int))) (by kernel_rfl) rfl rfl ?_)
          refine G_q rfl (op_convInt (k := .u32) (r := (UInt8.toNat (gi a0 x4_l8) : Int)) (by kernel_rfl) rfl (wrap_u8 rfl _) ?_)
          refine G_q rfl (op_xor rfl rfl rfl ?_)
          refine G_q rfl (op_assign (av := .exact (.int .u32 (bXor .u32 x3_l8 (UInt8.toNat (gi a0 x4_l8) : Int)))) rfl ?_)
          refine G_nil ?_
          refine kC_normal ?_
          refine k_seq ?_
          refine k_reg .free hmixP (by kernel_rfl) ?_
          refine G_q rfl (op_assign (av := .exact (.int .i64 0)) rfl ?_)
          refine G_nil ?_
          refine kC_normal ?_
          refine k_block ?_
          refine k_loop2_0 (m_ref23_Checksum_L14 k58) (m_ref23_Checksum_B14 k58) (fun _ _ => rfl) (fun m _ _ => rfl) h (fun (x3_l14 : Int) (x5_l14 : Int) => (AF.put (AF.put (AF.put (AF.put AF0 (some 0) (.row 1 c_uint8 a0)) (some 3) (.exact (.int .u32 x3_l14))) (some 4) (.exact (.int .i64 x4_l8))) (some 5) (.exact (.int .i64 x5_l14)))) (fun (x3_l14 : Int) (x5_l14 : Int) => []) ?_ (fun rec14 x3_l14 x5_l14 h => ?_)
          · exact Sub.of_le (AF.le_put (AV.le_eq rfl) (AF.le_put (AV.le_eq rfl) (AF.le_put (AV.le_eq rfl) (AF.le_put (AV.le_eq rfl) (AF.le_top _)))))
          · unfold m_ref23_Checksum_B14 at h
            refine k_seq ?_
            refine k_seq ?_
            refine k_reg .free hmixP (by kernel_rfl) ?_
            refine G_q rfl (op_move (av := .exact (.int .i64 x5_l14)) rfl ?_)
            refine G_q rfl (op_lss rfl rfl ?_)
            refine G_nil ?_
            refine kC_normal ?_
            refine k_cond_d (p := x5_l14 < 8) rfl (fun hc => ?_) (fun hc => ?_)
            · replace h := ite_t h hc
              refine k_skip ?_
              refine kC_normal ?_
              refine k_join1_0 h (fun (x3_j67 : Int) => (AF.put (AF.put (AF.put (AF.put AF0 (some 0) (.row 1 c_uint8 a0)) (some 3) (.exact (.int .u32 x3_j67))) (some 4) (.exact (.int .i64 x4_l8))) (some 5) (.exact (.int .i64 x5_l14)))) (fun (x3_j67 : Int) => []) (fun k67 h => ?_) (fun x3_j67 h => ?_)
              · refine k_block ?_
                refine k_seq ?_
                refine k_reg .free hmixP (by kernel_rfl) ?_
                refine G_q rfl (op_move (av := .exact (.int .u32 x3_l14)) rfl ?_)
                refine G_q rfl (op_rem rfl rfl (by decide) rfl ?_)
                refine G_q rfl (op_eql rfl rfl ?_)
                refine G_nil ?_
                refine kC_normal ?_
                refine k_cond_d (p := (Int.tmod x3_l14 2) = 1) rfl (fun hc => ?_) (fun hc => ?_)
                · replace h := ite_t h hc
                  refine k_reg .free hmixP (by kernel_rfl) ?_
                  refine G_q rfl (op_move (av := .exact (.int .u32 x3_l14)) rfl ?_)
                  refine G_q rfl (op_shr rfl rfl (by decide) rfl ?_)
                  refine G_q rfl (op_xor rfl rfl rfl ?_)
                  refine G_q rfl (op_assign (av := .exact (.int .u32 (bXor .u32 (Int.fdiv x3_l14 (2 ^ min (Int.toNat 1) IntKind.u32.bits)) 3988292384))) rfl ?_)
                  refine G_nil ?_
                  refine kB_normal ?_
                  refine kI_normal ⟨_, h, ?_⟩
                  exact Sub.of_le (AF.le_put (AV.le_eq rfl) (AF.le_put (AV.le_eq rfl) (AF.le_put (AV.le_eq rfl) (AF.le_put (AV.le_eq rfl) (AF.le_top _)))))
                · replace h := ite_f h hc
                  refine k_reg .free hmixP (by kernel_rfl) ?_
                  refine G_q rfl (op_move (av := .exact (.int .u32 x3_l14)) rfl ?_)
                  refine G_q rfl (op_shr rfl rfl (by decide) rfl ?_)
                  refine G_q rfl (op_assign (av := .exact (.int .u32 (Int.fdiv x3_l14 (2 ^ min (Int.toNat 1) IntKind.u32.bits)))) rfl ?_)
                  refine G_nil ?_
                  refine kB_normal ?_
                  refine kI_normal ⟨_, h, ?_⟩
                  exact Sub.of_le (AF.le_put (AV.le_eq rfl) (AF.le_put (AV.le_eq rfl) (AF.le_put (AV.le_eq rfl) (AF.le_put (AV.le_eq rfl) (AF.le_top _)))))
              · refine k_reg .free hmixP (by kernel_rfl) ?_
                refine G_q rfl (op_move (av := .exact (.int .i64 x5_l14)) rfl ?_)
                refine G_q rfl (op_add rfl rfl rfl ?_)
                refine G_q rfl (op_assign (av := .exact (.int .i64 (i64 (x5_l14 + 1)))) rfl ?_)
                refine G_nil ?_
                refine kI_normal ⟨_, _, h, ?_⟩
                exact Sub.of_le (AF.le_put (AV.le_eq rfl) (AF.le_put (AV.le_eq rfl) (AF.le_put (AV.le_eq rfl) (AF.le_put (AV.le_eq rfl) (AF.le_top _)))))
            · replace h := ite_f h hc
              refine k_exit ?_
              refine kC_exit ?_
              refine kI_exit ?_
              refine kB_exit ?_
              refine kB_normal ?_
              refine kI_normal ⟨_, h, ?_⟩
              exact Sub.of_le (AF.le_put (AV.le_eq rfl) (AF.le_put (AV.le_eq rfl) (AF.le_put (AV.le_eq rfl) (AF.le_top _))))
        · refine k_reg .free hmixP (by kernel_rfl) ?_
          refine G_q rfl (op_move (av := .exact (.int .i64 x4_l8)) rfl ?_)
          refine G_q rfl (op_add rfl rfl rfl ?_)
          refine G_q rfl (op_assign (av := .exact (.int .i64 (i64 (x4_l8 + 1)))) rfl ?_)
          refine G_nil ?_
          refine kI_normal ⟨_, _, h, ?_⟩
          exact Sub.of_le (AF.le_put (AV.le_eq rfl) (AF.le_put (AV.le_eq rfl) (AF.le_put (AV.le_eq rfl) (AF.le_top _))))
      · replace h := ite_f h hc
        refine k_exit ?_
        refine kC_exit ?_
        refine kI_exit ?_
        refine kB_exit ?_
        refine kI_normal ⟨_, h, ?_⟩
        exact Sub.of_le (AF.le_put (AV.le_eq rfl) (AF.le_top _))
  · refine k_seq ?_
    refine k_reg .free hmixP (by kernel_rfl) ?_
    refine G_q rfl (op_move (av := .exact (.int .u32 x3_j1)) rfl ?_)
    refine G_q rfl (op_com (m := 4294967295) rfl rfl ?_)
    refine G_q rfl (op_assign (av := .exact (.int .u32 (bXor .u32 4294967295 x3_j1))) rfl ?_)
    refine G_nil ?_
    refine kC_normal ?_
    refine k_ret ?_
    obtain rfl := Option.some.inj h
    refine kP_any (endN (af' := (AF.put AF0 (some 2) (.exact (.int .u32 (bXor .u32 4294967295 x3_j1))))) (σ' := []) _ rfl ?_ ⟨rfl, rfl⟩)
    exact Sub.of_le (AF.le_put (AV.le_eq rfl) (AF.le_top _))
set_option maxHeartbeats 4000000 in
theorem m_ref23_Sealed_ok (a0 : List UInt8) (r : (List UInt8)) (h : m_ref23_Sealed a0 = some r) : Pure Try.prog 20 [(.row 1 c_uint8 a0)] (.row 1 c_uint8 r) := by
  unfold m_ref23_Sealed at h
  refine Pure.ofFun (fun_of_awp Try.func20 rfl Try.ntmps20 (by simp) rfl (res1 rfl) fun E hE => k_end ?_)
  refine k_seq ?_
  refine k_reg .free hmixP (by kernel_rfl) ?_
  refine G_q rfl (op_assign (av := .exact (.slice none 0 0)) rfl ?_)
  refine G_nil ?_
  refine kC_normal ?_
  refine k_seq ?_
  refine k_reg .free hmixP (by kernel_rfl) ?_
  refine G_q rfl (op_move (av := .row 1 c_uint8 a0) rfl ?_)
  obtain ⟨y1, hy1, h⟩ := bnd1_some h
  refine G_q rfl (op_pure (m_ref23_Checksum_ok _ _ hy1) Try.func47 (by kernel_rfl) (LEs.cons (AV.le_eq rfl) LEs.nil) ?_)
  refine G_q rfl (op_assign (av := .exact (.int .u32 y1)) rfl ?_)
  refine G_nil ?_
  refine kC_normal ?_
  refine k_seq ?_
  refine k_reg .free hmixP (by kernel_rfl) ?_
  refine G_l rfl (op_lit0I (enc := c_uint8) (n := 1) (by kernel_rfl) (fun v2 => ?_))
  refine G_q rfl (op_move (av := .row 1 c_uint8 a0) rfl ?_)
  obtain ⟨n3, h⟩ := need_some h
  refine G_l rfl (op_appT (by kernel_rfl) rfl rfl oc_c_uint8 n3 (fun v4 => ?_))
  refine G_q rfl (op_move (av := .exact (.int .u32 y1)) rfl ?_)
  refine G_q rfl (op_shr rfl rfl (by decide) rfl ?_)
  refine G_q rfl (op_convInt (k := .u8) (r := (UInt8.toNat (u8i (Int.fdiv y1 (2 ^ min (Int.toNat 24) IntKind.u32.bits))) : Int)) (by kernel_rfl) rfl (u8i_eq _) ?_)
  refine G_q rfl (op_move (av := .exact (.int .u32 y1)) rfl ?_)
  refine G_q rfl (op_shr rfl rfl (by decide) rfl ?_)
  refine G_q rfl (op_convInt (k := .u8) (r := (UInt8.toNat (u8i (Int.fdiv y1 (2 ^ min (Int.toNat 16) IntKind.u32.bits))) : Int)) (by kernel_rfl) rfl (u8i_eq _) ?_)
  refine G_q rfl (op_move (av := .exact (.int .u32 y1)) rfl ?_)
  refine G_q rfl (op_shr rfl rfl (by decide) rfl ?_)
  refine G_q rfl (op_convInt (k := .u8) (r := (UInt8.toNat (u8i (Int.fdiv y1 (2 ^ min (Int.toNat 8) IntKind.u32.bits))) : Int)) (by kernel_rfl) rfl (u8i_eq _) ?_)
  refine G_q rfl (op_move (av := .exact (.int .u32 y1)) rfl ?_)
  refine G_q rfl (op_convInt (k := .u8) (r := (UInt8.toNat (u8i y1) : Int)) (by kernel_rfl) rfl (u8i_eq _) ?_)
  refine G_q rfl (op_litT (n := 1) (enc := c_uint8) [u8i (Int.fdiv y1 (2 ^ min (Int.toNat 24) IntKind.u32.bits)), u8i (Int.fdiv y1 (2 ^ min (Int.toNat 16) IntKind.u32.bits)), u8i (Int.fdiv y1 (2 ^ min (Int.toNat 8) IntKind.u32.bits)), u8i y1] (CellsAll.cons rfl CellsOf.int (CellsAll.cons rfl CellsOf.int (CellsAll.cons rfl CellsOf.int (CellsAll.cons rfl CellsOf.int CellsAll.nil)))) rfl (by kernel_rfl) (LEss.cons (LEs.cons (AV.le_eq rfl) LEs.nil) (LEss.cons (LEs.cons (AV.le_eq rfl) LEs.nil) (LEss.cons (LEs.cons (AV.le_eq rfl) LEs.nil) (LEss.cons (LEs.cons (AV.le_eq rfl) LEs.nil) LEss.nil)))) ?_)
  obtain ⟨n5, h⟩ := need_some h
  refine G_l rfl (op_appT (by kernel_rfl) rfl rfl oc_c_uint8 n5 (fun v6 => ?_))
  refine G_q rfl (op_assign (av := .exact v6) rfl ?_)
  refine G_nil ?_
  refine kC_normal ?_
  refine k_ret ?_
  obtain rfl := Option.some.inj h
  refine kP_any (endN (af' := (AF.put AF0 (some 2) (.row 1 c_uint8 ((([] : List UInt8) ++ a0) ++ [u8i (Int.fdiv y1 (2 ^ min (Int.toNat 24) IntKind.u32.bits)), u8i (Int.fdiv y1 (2 ^ min (Int.toNat 16) IntKind.u32.bits)), u8i (Int.fdiv y1 (2 ^ min (Int.toNat 8) IntKind.u32.bits)), u8i y1])))) (σ' := []) _ rfl ?_ ⟨rfl, rfl⟩)
  refine Sub.trans (SubU.to (SubU.freezeT (s := 2) rfl len_c_uint8)) ?_
  exact Sub.of_le (AF.le_put (AV.le_eq rfl) (AF.le_top _))
set_option maxHeartbeats 4000000 in
theorem m_ref35_IsRun_ok (a0 : List (Int × Int)) (r : Bool) (h : m_ref35_IsRun a0 = some r) : Pure Try.prog 40 [(.row 2 c_A2_int a0)] (.exact (.bool r)) := by
  unfold m_ref35_IsRun at h
  refine Pure.ofFun (fun_of_awp Try.func40 rfl Try.ntmps40 (by simp) rfl (res1 rfl) fun E hE => k_end ?_)
  refine k_seq ?_
  refine k_reg .free hmixP (by kernel_rfl) ?_
  refine G_q rfl (op_assign (av := .exact (.bool false)) rfl ?_)
  refine G_nil ?_
  refine kC_normal ?_
  refine k_join0_0 h (AF0) ([]) (fun k1 h => ?_) (fun  h => ?_)
  · refine k_seq ?_
    refine k_reg .free hmixP (by kernel_rfl) ?_
    refine G_q rfl (op_assign (av := .exact (.int .i64 0)) rfl ?_)
    refine G_nil ?_
    refine kC_normal ?_
    refine k_block ?_
    refine k_loop1_0 (m_ref35_IsRun_L2 a0 k1) (m_ref35_IsRun_B2 a0 k1) (fun _ => rfl) (fun m _ => rfl) h (fun (x3_l2 : Int) => (AF.put (AF.put AF0 (some 0) (.row 2 c_A2_int a0)) (some 3) (.exact (.int .i64 x3_l2)))) (fun (x3_l2 : Int) => []) ?_ (fun rec2 x3_l2 h => ?_)
    · exact Sub.of_le (AF.le_put (AV.le_eq rfl) (AF.le_put (AV.le_eq rfl) (AF.le_top _)))
    · unfold m_ref35_IsRun_B2 at h
      refine k_seq ?_
      refine k_seq ?_
      refine k_reg .free hmixP (by kernel_rfl) ?_
      refine G_q rfl (op_move (av := .exact (.int .i64 x3_l2)) rfl ?_)
      refine G_q rfl (op_move (av := .row 2 c_A2_int a0) rfl ?_)
      refine G_q rfl (op_len_row (by kernel_rfl) rfl ?_)
      refine G_q rfl (op_lss rfl rfl ?_)
      refine G_nil ?_
      refine kC_normal ?_
      refine k_cond_d (p := x3_l2 < (List.length a0 : Int)) rfl (fun hc => ?_) (fun hc => ?_)
      · replace h := ite_t h hc
        refine k_skip ?_
        refine kC_normal ?_
        refine k_seq ?_
        refine k_block ?_
        refine k_join1_0 h (fun (x32_j130 : Bool) => (AF.put (AF.put (AF.put AF0 (some 0) (.row 2 c_A2_int a0)) (some 3) (.exact (.int .i64 x3_l2))) (some 32) (.exact (.bool x32_j130)))) (fun (x32_j130 : Bool) => []) (fun k130 h => ?_) (fun x32_j130 h => ?_)
        · refine k_plan [] [(0, 0), (0, 1), (0, 2), (0, 3), (0, 4), (0, 5), (0, 6), (0, 7), (0, 8), (0, 9), (0, 10), (0, 11), (0, 12), (0, 13), (0, 14), (0, 15), (0, 16), (0, 17), (0, 18), (0, 19), (0, 20), (0, 21), (0, 22)] hmixP (by kernel_rfl) ?_
          refine P_q no34_0 rfl (op_move (av := .row 2 c_A2_int a0) rfl ?_)
          refine P_q no34_0 rfl (op_move (av := .exact (.int .i64 x3_l2)) rfl ?_)
          obtain ⟨n136, h⟩ := need_some h
          refine P_q no34_0 rfl (op_index_row (by kernel_rfl) rfl rfl n136.1 n136.2 ?_)
          refine P_q no34_0 rfl (op_loadNp (m := 2) (c' := c_A2_int (gi a0 x3_l2)) (by kernel_rfl) rfl rfl rfl ?_)
          obtain ⟨y137, hy137, h⟩ := bnd1_some h
          refine P_q no34_0 rfl (op_pure (m_ref35_isPair_ok _ _ hy137) Try.func76 (by kernel_rfl) (LEs.cons (AV.le_eq rfl) LEs.nil) ?_)
          refine P_q no34_0 rfl (op_not rfl ?_)
          refine P_q no34_0 rfl (op_move (av := .exact (.bool (!y137))) rfl ?_)
          refine P_splitB (c := !y137) 16 rfl (fun hc => ?_) (fun hc => ?_)
          · replace h := ite_t h hc
            refine P_n no34_0 rfl rfl rfl ?_
            refine P_n no34_0 rfl rfl rfl ?_
            refine P_n no34_0 rfl rfl rfl ?_
            refine P_u no34_0 rfl rfl rfl ?_
            refine P_u no34_0 rfl rfl rfl ?_
            refine P_u no34_0 rfl rfl rfl ?_
            refine P_u no34_0 rfl rfl rfl ?_
            refine P_u no34_0 rfl rfl rfl ?_
            refine P_u no34_0 rfl rfl rfl ?_
            refine P_u no34_0 rfl rfl rfl ?_
            refine P_u no34_0 rfl rfl rfl ?_
            refine P_u no34_0 rfl rfl rfl ?_
            refine P_u no34_0 rfl rfl rfl ?_
            refine P_u no34_0 rfl rfl rfl ?_
            refine P_n no34_0 rfl rfl rfl ?_
            refine P_q no34_0 rfl (op_pick_t rfl (av := .exact (.bool true)) rfl ?_)
            refine P_nil ?_
            refine kI_normal ⟨_, h, ?_⟩
            exact Sub.of_le (AF.le_put (AV.le_eq rfl) (AF.le_put (AV.le_eq rfl) (AF.le_put (AV.le_eq rfl) (AF.le_top _))))
          · replace h := ite_f h hc
            refine Py_q no34_0 rfl rfl rfl (op_move (av := .exact (.int .i64 x3_l2)) rfl ?_)
            refine Py_q no34_0 rfl rfl rfl (op_gtr rfl rfl ?_)
            refine Py_q no34_0 rfl rfl rfl (op_move (av := .exact (.bool (decide (0 < x3_l2)))) rfl ?_)
            refine P_split (p := 0 < x3_l2) 19 rfl (fun hc => ?_) (fun hc => ?_)
            · replace h := ite_t h hc
              refine Py_q no34_0 rfl rfl rfl (op_move (av := .row 2 c_A2_int a0) rfl ?_)
              refine Py_q no34_0 rfl rfl rfl (op_move (av := .exact (.int .i64 x3_l2)) rfl ?_)
              refine Py_q no34_0 rfl rfl rfl (op_sub rfl rfl rfl ?_)
              obtain ⟨n138, h⟩ := need_some h
              refine Py_q no34_0 rfl rfl rfl (op_index_row (by kernel_rfl) rfl rfl n138.1 n138.2 ?_)
              refine Py_q no34_0 rfl rfl rfl (op_loadNp (m := 2) (c' := c_A2_int (gi a0 (i64 (x3_l2 - 1)))) (by kernel_rfl) rfl rfl rfl ?_)
              refine Py_q no34_0 rfl rfl rfl (op_move (av := .row 2 c_A2_int a0) rfl ?_)
              refine Py_q no34_0 rfl rfl rfl (op_move (av := .exact (.int .i64 x3_l2)) rfl ?_)
              obtain ⟨n139, h⟩ := need_some h
              refine Py_q no34_0 rfl rfl rfl (op_index_row (by kernel_rfl) rfl rfl n139.1 n139.2 ?_)
              refine Py_q no34_0 rfl rfl rfl (op_loadNp (m := 2) (c' := c_A2_int (gi a0 x3_l2)) (by kernel_rfl) rfl rfl rfl ?_)
              obtain ⟨y140, hy140, h⟩ := bnd1_some h
              refine Py_q no34_0 rfl rfl rfl (op_pure (m_ref35_Less_ok _ _ _ hy140) Try.func69 (by kernel_rfl) (LEs.cons (AV.le_eq rfl) (LEs.cons (AV.le_eq rfl) LEs.nil)) ?_)
              refine Py_q no34_0 rfl rfl rfl (op_not rfl ?_)
              refine Py_q no34_0 rfl rfl rfl (op_pick_t rfl (av := .exact (.bool (!y140))) rfl ?_)
              refine P_q no34_0 rfl (op_pick_f rfl (av := .exact (.bool (!y140))) rfl ?_)
              refine P_nil ?_
              refine kI_normal ⟨_, h, ?_⟩
              exact Sub.of_le (AF.le_put (AV.le_eq rfl) (AF.le_put (AV.le_eq rfl) (AF.le_put (AV.le_eq rfl) (AF.le_top _))))
            · replace h := ite_f h hc
              refine P_n no34_0 rfl rfl rfl ?_
              refine P_n no34_0 rfl rfl rfl ?_
              refine P_n no34_0 rfl rfl rfl ?_
              refine P_n no34_0 rfl rfl rfl ?_
              refine P_n no34_0 rfl rfl rfl ?_
              refine P_n no34_0 rfl rfl rfl ?_
              refine P_n no34_0 rfl rfl rfl ?_
              refine P_n no34_0 rfl rfl rfl ?_
              refine P_n no34_0 rfl rfl rfl ?_
              refine P_n no34_0 rfl rfl rfl ?_
              refine P_n no34_0 rfl rfl rfl ?_
              refine Py_q no34_0 rfl rfl rfl (op_pick_f rfl (av := .exact (.bool false)) rfl ?_)
              refine P_q no34_0 rfl (op_pick_f rfl (av := .exact (.bool false)) rfl ?_)
              refine P_nil ?_
              refine kI_normal ⟨_, h, ?_⟩
              exact Sub.of_le (AF.le_put (AV.le_eq rfl) (AF.le_put (AV.le_eq rfl) (AF.le_put (AV.le_eq rfl) (AF.le_top _))))
        · refine k_cond_b (c := x32_j130) rfl (fun hc => ?_) (fun hc => ?_)
          · replace h := ite_t h hc
            refine k_seq ?_
            refine k_reg .free hmixP (by kernel_rfl) ?_
            refine G_q rfl (op_assign (av := .exact (.bool false)) rfl ?_)
            refine G_nil ?_
            refine kC_normal ?_
            refine k_ret ?_
            refine kB_ret ?_
            refine kC_ret ?_
            refine kI_ret ?_
            refine kB_ret ?_
            refine kI_ret ?_
            obtain rfl := Option.some.inj h
            refine kP_any (endN (af' := (AF.put AF0 (some 2) (.exact (.bool false)))) (σ' := []) _ rfl ?_ ⟨rfl, rfl⟩)
            exact Sub.of_le (AF.le_put (AV.le_eq rfl) (AF.le_top _))
          · replace h := ite_f h hc
            refine k_skip ?_
            refine kB_normal ?_
            refine kC_normal ?_
            refine k_reg .free hmixP (by kernel_rfl) ?_
            refine G_q rfl (op_move (av := .exact (.int .i64 x3_l2)) rfl ?_)
            refine G_q rfl (op_add rfl rfl rfl ?_)
            refine G_q rfl (op_assign (av := .exact (.int .i64 (i64 (x3_l2 + 1)))) rfl ?_)
            refine G_nil ?_
            refine kI_normal ⟨_, h, ?_⟩
            exact Sub.of_le (AF.le_put (AV.le_eq rfl) (AF.le_put (AV.le_eq rfl) (AF.le_top _)))
      · replace h := ite_f h hc
        refine k_exit ?_
        refine kC_exit ?_
        refine kI_exit ?_
        refine kB_exit ?_
        refine kI_normal ⟨h, ?_⟩
        exact Sub.of_le (AF.le_top _)
  · refine k_seq ?_
    refine k_reg .free hmixP (by kernel_rfl) ?_
    refine G_q rfl (op_assign (av := .exact (.bool true)) rfl ?_)
    refine G_nil ?_
    refine kC_normal ?_
    refine k_ret ?_
    obtain rfl := Option.some.inj h
    refine kP_any (endN (af' := (AF.put AF0 (some 2) (.exact (.bool true)))) (σ' := []) _ rfl ?_ ⟨rfl, rfl⟩)
    exact Sub.of_le (AF.le_put (AV.le_eq rfl) (AF.le_top _))
end Go.Proofs.Ytkplmgdmkfgjhaa
