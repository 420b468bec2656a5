/- The functions compute their models, by program. -/
import Derived.Test.YtkplmgdmkfgjhaaSh
namespace Go.Proofs.Ytkplmgdmkfgjhaa
open Go.RowKit
attribute [local irreducible] AV.exact AV.top AV.row AV.ptr AV.agg AV.tup AV.eptr AV.fn AV.nilq AV.nilqn opA opB opM opR Quiet Loud Reads wpG awp den Sub SubU Pure Fun vecI vecT boxI CellsAll CellsOf OneC LEs LEss
set_option maxRecDepth 100000

set_option maxHeartbeats 4000000 in
theorem m_ref35_Has_ok (a0 : List (Int × Int)) (a1 : Int × Int) (r : Bool) (h : m_ref35_Has a0 a1 = some r) : Pure Try.prog 44 [(.row 2 c_A2_int a0), (.agg (c_A2_int a1))] (.exact (.bool r)) := by
  unfold m_ref35_Has at h
  refine Pure.ofFun (fun_of_awp Try.func44 rfl Try.ntmps44 (by simp) rfl (res1 rfl) fun E hE => k_end ?_)
  refine k_seq ?_
  refine k_reg .free hmixP (by kernel_rfl) ?_
  refine G_q rfl (op_box (c := c_A2_int a1) rfl CellsOf.agg ?_)
  refine G_q rfl (op_assign (av := .exact (.bool false)) rfl ?_)
  refine G_nil ?_
  refine kC_normal ?_
  refine k_join0_0 h (AF0) ([]) (fun k1 h => ?_) (fun  h => ?_)
  · refine k_seq ?_
    refine k_reg .free hmixP (by kernel_rfl) ?_
    refine G_q rfl (op_assign (av := .exact (.int .i64 0)) rfl ?_)
    refine G_nil ?_
    refine kC_normal ?_
    refine k_block ?_
    refine k_loop1_0 (m_ref35_Has_L2 a0 a1 k1) (m_ref35_Has_B2 a0 a1 k1) (fun _ => rfl) (fun m _ => rfl) h (fun (x5_l2 : Int) => (AF.put (AF.put (AF.put AF0 (some 0) (.row 2 c_A2_int a0)) (some 3) (.ptr (c_A2_int a1))) (some 5) (.exact (.int .i64 x5_l2)))) (fun (x5_l2 : Int) => []) ?_ (fun rec2 x5_l2 h => ?_)
    · exact Sub.of_le (AF.le_put (AV.le_eq rfl) (AF.le_put (AV.le_eq rfl) (AF.le_put (AV.le_eq rfl) (AF.le_top _))))
    · unfold m_ref35_Has_B2 at h
      refine k_seq ?_
      refine k_seq ?_
      refine k_reg .free hmixP (by kernel_rfl) ?_
      refine G_q rfl (op_move (av := .exact (.int .i64 x5_l2)) rfl ?_)
      refine G_q rfl (op_move (av := .row 2 c_A2_int a0) rfl ?_)
      refine G_q rfl (op_len_row (by kernel_rfl) rfl ?_)
      refine G_q rfl (op_lss rfl rfl ?_)
      refine G_nil ?_
      refine kC_normal ?_
      refine k_cond_d (p := x5_l2 < (List.length a0 : Int)) rfl (fun hc => ?_) (fun hc => ?_)
      · replace h := ite_t h hc
        refine k_skip ?_
        refine kC_normal ?_
        refine k_seq ?_
        refine k_block ?_
        refine k_seq ?_
        refine k_plan [] [(0, 0), (0, 1), (0, 2), (0, 3), (0, 4), (0, 5)] hmixP (by kernel_rfl) ?_
        refine P_q no34_0 rfl (op_move (av := .row 2 c_A2_int a0) rfl ?_)
        refine P_q no34_0 rfl (op_move (av := .exact (.int .i64 x5_l2)) rfl ?_)
        obtain ⟨n8, h⟩ := need_some h
        refine P_q no34_0 rfl (op_index_row (by kernel_rfl) rfl rfl n8.1 n8.2 ?_)
        refine P_q no34_0 rfl (op_loadNp (m := 2) (c' := c_A2_int (gi a0 x5_l2)) (by kernel_rfl) rfl rfl rfl ?_)
        refine P_q no34_0 rfl (op_loadNp (m := 2) (c' := c_A2_int a1) (by kernel_rfl) rfl rfl rfl ?_)
        refine P_q no34_0 rfl (op_eqlA (a := (gi a0 x5_l2)) (b := a1) (by kernel_rfl) (eq_c_A2_int _ _) rfl rfl ?_)
        refine P_nil ?_
        refine kC_normal ?_
        refine k_cond_d (p := (gi a0 x5_l2) = a1) rfl (fun hc => ?_) (fun hc => ?_)
        · replace h := ite_t h hc
          refine k_seq ?_
          refine k_reg .free hmixP (by kernel_rfl) ?_
          refine G_q rfl (op_assign (av := .exact (.bool true)) rfl ?_)
          refine G_nil ?_
          refine kC_normal ?_
          refine k_ret ?_
          refine kB_ret ?_
          refine kC_ret ?_
          refine kI_ret ?_
          refine kB_ret ?_
          refine kI_ret ?_
          obtain rfl := Option.some.inj h
          refine kP_any (endN (af' := (AF.put AF0 (some 4) (.exact (.bool true)))) (σ' := []) _ rfl ?_ ⟨rfl, rfl⟩)
          exact Sub.of_le (AF.le_put (AV.le_eq rfl) (AF.le_top _))
        · replace h := ite_f h hc
          refine k_skip ?_
          refine kB_normal ?_
          refine kC_normal ?_
          refine k_reg .free hmixP (by kernel_rfl) ?_
          refine G_q rfl (op_move (av := .exact (.int .i64 x5_l2)) rfl ?_)
          refine G_q rfl (op_add rfl rfl rfl ?_)
          refine G_q rfl (op_assign (av := .exact (.int .i64 (i64 (x5_l2 + 1)))) rfl ?_)
          refine G_nil ?_
          refine kI_normal ⟨_, h, ?_⟩
          exact Sub.of_le (AF.le_put (AV.le_eq rfl) (AF.le_put (AV.le_eq rfl) (AF.le_put (AV.le_eq rfl) (AF.le_top _))))
      · replace h := ite_f h hc
        refine k_exit ?_
        refine kC_exit ?_
        refine kI_exit ?_
        refine kB_exit ?_
        refine kI_normal ⟨h, ?_⟩
        exact Sub.of_le (AF.le_top _)
  · refine k_seq ?_
    refine k_reg .free hmixP (by kernel_rfl) ?_
    refine G_q rfl (op_assign (av := .exact (.bool false)) rfl ?_)
    refine G_nil ?_
    refine kC_normal ?_
    refine k_ret ?_
    obtain rfl := Option.some.inj h
    refine kP_any (endN (af' := (AF.put AF0 (some 4) (.exact (.bool false)))) (σ' := []) _ rfl ?_ ⟨rfl, rfl⟩)
    exact Sub.of_le (AF.le_put (AV.le_eq rfl) (AF.le_top _))
set_option maxHeartbeats 4000000 in
theorem m_ref35_Less_ok (a0 : Int × Int) (a1 : Int × Int) (r : Bool) (h : m_ref35_Less a0 a1 = some r) : Pure Try.prog 69 [(.agg (c_A2_int a0)), (.agg (c_A2_int a1))] (.exact (.bool r)) := by
  unfold m_ref35_Less at h
  refine Pure.ofFun (fun_of_awp Try.func69 rfl Try.ntmps69 (by simp) rfl (res1 rfl) fun E hE => k_end ?_)
  refine k_seq ?_
  refine k_reg .free hmixP (by kernel_rfl) ?_
  refine G_q rfl (op_box (c := c_A2_int a0) rfl CellsOf.agg ?_)
  refine G_q rfl (op_box (c := c_A2_int a1) rfl CellsOf.agg ?_)
  refine G_q rfl (op_assign (av := .exact (.bool false)) rfl ?_)
  refine G_nil ?_
  refine kC_normal ?_
  refine k_join1_0 h (fun (x4_j1 : Bool) => (AF.put AF0 (some 4) (.exact (.bool x4_j1)))) (fun (x4_j1 : Bool) => []) (fun k1 h => ?_) (fun x4_j1 h => ?_)
  · refine k_reg .free hmixP (by kernel_rfl) ?_
    refine G_q rfl (op_indexArr_ptr (m := 2) (n := 1) (c' := (List.drop 0 (c_A2_int a0))) (by kernel_rfl) rfl rfl (by decide) (by decide) rfl ?_)
    refine G_q rfl (op_load1p (a := .exact (.int .i64 a0.1)) (by kernel_rfl) rfl rfl ?_)
    refine G_q rfl (op_indexArr_ptr (m := 2) (n := 1) (c' := (List.drop 0 (c_A2_int a1))) (by kernel_rfl) rfl rfl (by decide) (by decide) rfl ?_)
    refine G_q rfl (op_load1p (a := .exact (.int .i64 a1.1)) (by kernel_rfl) rfl rfl ?_)
    refine G_q rfl (op_lss rfl rfl ?_)
    refine G_q rfl (op_move (av := .exact (.bool (decide (a0.1 < a1.1)))) rfl ?_)
    refine G_split (p := a0.1 < a1.1) 10 rfl (fun hc => ?_) (fun hc => ?_)
    · replace h := ite_t h hc
      refine G_n rfl rfl ?_
      refine G_n rfl rfl ?_
      refine G_n rfl rfl ?_
      refine G_n rfl rfl ?_
      refine G_n rfl rfl ?_
      refine G_n rfl rfl ?_
      refine G_u rfl rfl ?_
      refine G_u rfl rfl ?_
      refine G_u rfl rfl ?_
      refine G_u rfl rfl ?_
      refine G_u rfl rfl ?_
      refine G_n rfl rfl ?_
      refine G_q rfl (op_pick_t rfl (av := .exact (.bool true)) rfl ?_)
      refine G_q rfl (op_assign (av := .exact (.bool true)) rfl ?_)
      refine G_nil ?_
      refine kI_normal ⟨_, h, ?_⟩
      exact Sub.of_le (AF.le_put (AV.le_eq rfl) (AF.le_top _))
    · replace h := ite_f h hc
      refine Gy_q rfl rfl rfl (op_indexArr_ptr (m := 2) (n := 1) (c' := (List.drop 0 (c_A2_int a0))) (by kernel_rfl) rfl rfl (by decide) (by decide) rfl ?_)
      refine Gy_q rfl rfl rfl (op_load1p (a := .exact (.int .i64 a0.1)) (by kernel_rfl) rfl rfl ?_)
      refine Gy_q rfl rfl rfl (op_indexArr_ptr (m := 2) (n := 1) (c' := (List.drop 0 (c_A2_int a1))) (by kernel_rfl) rfl rfl (by decide) (by decide) rfl ?_)
      refine Gy_q rfl rfl rfl (op_load1p (a := .exact (.int .i64 a1.1)) (by kernel_rfl) rfl rfl ?_)
      refine Gy_q rfl rfl rfl (op_eql rfl rfl ?_)
      refine Gy_q rfl rfl rfl (op_move (av := .exact (.bool (decide (a0.1 = a1.1)))) rfl ?_)
      refine G_split (p := a0.1 = a1.1) 16 rfl (fun hc => ?_) (fun hc => ?_)
      · replace h := ite_t h hc
        refine Gy_q rfl rfl rfl (op_indexArr_ptr (m := 2) (n := 1) (c' := (List.drop 1 (c_A2_int a0))) (by kernel_rfl) rfl rfl (by decide) (by decide) rfl ?_)
        refine Gy_q rfl rfl rfl (op_load1p (a := .exact (.int .i64 a0.2)) (by kernel_rfl) rfl rfl ?_)
        refine Gy_q rfl rfl rfl (op_indexArr_ptr (m := 2) (n := 1) (c' := (List.drop 1 (c_A2_int a1))) (by kernel_rfl) rfl rfl (by decide) (by decide) rfl ?_)
        refine Gy_q rfl rfl rfl (op_load1p (a := .exact (.int .i64 a1.2)) (by kernel_rfl) rfl rfl ?_)
        refine Gy_q rfl rfl rfl (op_lss rfl rfl ?_)
        refine Gy_q rfl rfl rfl (op_pick_t rfl (av := .exact (.bool (decide (a0.2 < a1.2)))) rfl ?_)
        refine G_q rfl (op_pick_f rfl (av := .exact (.bool (decide (a0.2 < a1.2)))) rfl ?_)
        refine G_q rfl (op_assign (av := .exact (.bool (decide (a0.2 < a1.2)))) rfl ?_)
        refine G_nil ?_
        refine kI_normal ⟨_, h, ?_⟩
        exact Sub.of_le (AF.le_put (AV.le_eq rfl) (AF.le_top _))
      · replace h := ite_f h hc
        refine G_n rfl rfl ?_
        refine G_n rfl rfl ?_
        refine G_n rfl rfl ?_
        refine G_n rfl rfl ?_
        refine G_n rfl rfl ?_
        refine Gy_q rfl rfl rfl (op_pick_f rfl (av := .exact (.bool false)) rfl ?_)
        refine G_q rfl (op_pick_f rfl (av := .exact (.bool false)) rfl ?_)
        refine G_q rfl (op_assign (av := .exact (.bool false)) rfl ?_)
        refine G_nil ?_
        refine kI_normal ⟨_, h, ?_⟩
        exact Sub.of_le (AF.le_put (AV.le_eq rfl) (AF.le_top _))
  · refine k_ret ?_
    obtain rfl := Option.some.inj h
    refine kP_any (endN (af' := (AF.put AF0 (some 4) (.exact (.bool x4_j1)))) (σ' := []) _ rfl ?_ ⟨rfl, rfl⟩)
    exact Sub.of_le (AF.le_put (AV.le_eq rfl) (AF.le_top _))
set_option maxHeartbeats 4000000 in
theorem m_ref35_Add_ok {w0 : Value} (a0 : List (Int × Int)) (a1 : Int × Int) (r : (List (Int × Int))) (h : m_ref35_Add a0 a1 = some r) : Fun Try.prog 78 [(.exact w0), (.agg (c_A2_int a1))] [vecT Try.prog 23 2 c_A2_int w0 a0] (fun a s => ∃ z0, a = .exact z0 ∧ s = [vecT Try.prog 23 2 c_A2_int z0 r]) := by
  unfold m_ref35_Add at h
  refine fun_of_awp Try.func78 rfl Try.ntmps78 (by simp) rfl (res1 rfl) fun E hE => k_end ?_
  refine k_seq ?_
  refine k_reg .free hmixP (by kernel_rfl) ?_
  refine G_q rfl (op_box (c := c_A2_int a1) rfl CellsOf.agg ?_)
  refine G_q rfl (op_assign (av := .exact (.slice none 0 0)) rfl ?_)
  refine G_nil ?_
  refine kC_normal ?_
  refine k_seq ?_
  refine k_reg .free hmixP (by kernel_rfl) ?_
  refine G_q rfl (op_assign (av := .exact (.int .i64 0)) rfl ?_)
  refine G_nil ?_
  refine kC_normal ?_
  refine k_join1_0 h (fun (x5_j1 : Int) => (AF.put (AF.put (AF.put AF0 (some 0) (.exact w0)) (some 3) (.ptr (c_A2_int a1))) (some 5) (.exact (.int .i64 x5_j1)))) (fun (x5_j1 : Int) => [vecT Try.prog 23 2 c_A2_int w0 a0]) (fun k1 h => ?_) (fun x5_j1 h => ?_)
  · refine k_block ?_
    refine k_loop1_0 (m_ref35_Add_L2 a0 a1 k1) (m_ref35_Add_B2 a0 a1 k1) (fun _ => rfl) (fun m _ => rfl) h (fun (x5_l2 : Int) => (AF.put (AF.put (AF.put AF0 (some 0) (.exact w0)) (some 3) (.ptr (c_A2_int a1))) (some 5) (.exact (.int .i64 x5_l2)))) (fun (x5_l2 : Int) => [vecT Try.prog 23 2 c_A2_int w0 a0]) ?_ (fun rec2 x5_l2 h => ?_)
    · exact Sub.of_le (AF.le_put (AV.le_eq rfl) (AF.le_put (AV.le_eq rfl) (AF.le_put (AV.le_eq rfl) (AF.le_top _))))
    · unfold m_ref35_Add_B2 at h
      refine k_seq ?_
      refine k_join1_0 h (fun (x18_j64 : Bool) => (AF.put (AF.put (AF.put (AF.put AF0 (some 0) (.exact w0)) (some 3) (.ptr (c_A2_int a1))) (some 5) (.exact (.int .i64 x5_l2))) (some 18) (.exact (.bool x18_j64)))) (fun (x18_j64 : Bool) => [vecT Try.prog 23 2 c_A2_int w0 a0]) (fun k64 h => ?_) (fun x18_j64 h => ?_)
      · refine k_plan [] [(0, 0), (0, 1), (1, 2), (0, 3), (0, 4), (0, 5), (0, 6), (0, 9), (1, 7), (1, 8), (0, 10), (0, 11)] hmixP (by kernel_rfl) ?_
        refine P_q no34_0 rfl (op_move (av := .exact (.int .i64 x5_l2)) rfl ?_)
        refine P_q no34_0 rfl (op_move (av := .exact w0) rfl ?_)
        refine P_r rfl (op_len_vec (by kernel_rfl) rfl ?_)
        refine P_q no34_0 rfl (op_lss rfl rfl ?_)
        refine P_q no34_0 rfl (op_move (av := .exact (.bool (decide (x5_l2 < (List.length a0 : Int))))) rfl ?_)
        refine P_split (p := x5_l2 < (List.length a0 : Int)) 11 rfl (fun hc => ?_) (fun hc => ?_)
        · replace h := ite_t h hc
          refine Py_q no34_0 rfl rfl rfl (op_move (av := .exact w0) rfl ?_)
          refine Py_q no34_0 rfl rfl rfl (op_move (av := .exact (.int .i64 x5_l2)) rfl ?_)
          refine Py_q no34_0 rfl rfl rfl (op_loadNp (m := 2) (c' := c_A2_int a1) (by kernel_rfl) rfl rfl rfl ?_)
          obtain ⟨n67, h⟩ := need_some h
          refine Py_r rfl rfl rfl (op_index_vec (by kernel_rfl) rfl rfl n67.1 n67.2 ?_)
          refine Py_r rfl rfl rfl (op_load_vecN (i := x5_l2) (o := 0) (m := 2) (c' := c_A2_int (gi a0 x5_l2)) (by kernel_rfl) len_c_A2_int rfl n67.1 n67.2 rfl rfl ?_)
          obtain ⟨y68, hy68, h⟩ := bnd1_some h
          refine Py_q no34_0 rfl rfl rfl (op_pure (m_ref35_Less_ok _ _ _ hy68) Try.func69 (by kernel_rfl) (LEs.cons (AV.le_eq rfl) (LEs.cons (AV.le_eq rfl) LEs.nil)) ?_)
          refine P_q no34_0 rfl (op_pick_t rfl (av := .exact (.bool y68)) rfl ?_)
          refine P_nil ?_
          refine kI_normal ⟨_, h, ?_⟩
          exact Sub.of_le (AF.le_put (AV.le_eq rfl) (AF.le_put (AV.le_eq rfl) (AF.le_put (AV.le_eq rfl) (AF.le_put (AV.le_eq rfl) (AF.le_top _)))))
        · replace h := ite_f h hc
          refine P_n no34_0 rfl rfl rfl ?_
          refine P_n no34_0 rfl rfl rfl ?_
          refine P_n no34_0 rfl rfl rfl ?_
          refine P_n no34_1 rfl rfl rfl ?_
          refine P_n no34_1 rfl rfl rfl ?_
          refine P_n no34_0 rfl rfl rfl ?_
          refine P_q no34_0 rfl (op_pick_f rfl (av := .exact (.bool false)) rfl ?_)
          refine P_nil ?_
          refine kI_normal ⟨_, h, ?_⟩
          exact Sub.of_le (AF.le_put (AV.le_eq rfl) (AF.le_put (AV.le_eq rfl) (AF.le_put (AV.le_eq rfl) (AF.le_put (AV.le_eq rfl) (AF.le_top _)))))
      · refine k_cond_b (c := x18_j64) rfl (fun hc => ?_) (fun hc => ?_)
        · replace h := ite_t h hc
          refine k_skip ?_
          refine kC_normal ?_
          refine k_block ?_
          refine k_reg .free hmixP (by kernel_rfl) ?_
          refine G_q rfl (op_move (av := .exact (.int .i64 x5_l2)) rfl ?_)
          refine G_q rfl (op_add rfl rfl rfl ?_)
          refine G_q rfl (op_assign (av := .exact (.int .i64 (i64 (x5_l2 + 1)))) rfl ?_)
          refine G_nil ?_
          refine kB_normal ?_
          refine kI_normal ⟨_, h, ?_⟩
          exact Sub.of_le (AF.le_put (AV.le_eq rfl) (AF.le_put (AV.le_eq rfl) (AF.le_put (AV.le_eq rfl) (AF.le_top _))))
        · replace h := ite_f h hc
          refine k_exit ?_
          refine kC_exit ?_
          refine kI_exit ?_
          refine kB_exit ?_
          refine kI_normal ⟨_, h, ?_⟩
          exact Sub.of_le (AF.le_put (AV.le_eq rfl) (AF.le_put (AV.le_eq rfl) (AF.le_put (AV.le_eq rfl) (AF.le_top _))))
  · refine k_seq ?_
    refine k_join1_0 h (fun (x32_j73 : Bool) => (AF.put (AF.put (AF.put (AF.put AF0 (some 0) (.exact w0)) (some 3) (.ptr (c_A2_int a1))) (some 5) (.exact (.int .i64 x5_j1))) (some 32) (.exact (.bool x32_j73)))) (fun (x32_j73 : Bool) => [vecT Try.prog 23 2 c_A2_int w0 a0]) (fun k73 h => ?_) (fun x32_j73 h => ?_)
    · refine k_plan [] [(0, 0), (0, 1), (1, 2), (0, 3), (0, 4), (0, 5), (0, 6), (0, 9), (1, 7), (1, 8), (0, 10), (0, 11)] hmixP (by kernel_rfl) ?_
      refine P_q no34_0 rfl (op_move (av := .exact (.int .i64 x5_j1)) rfl ?_)
      refine P_q no34_0 rfl (op_move (av := .exact w0) rfl ?_)
      refine P_r rfl (op_len_vec (by kernel_rfl) rfl ?_)
      refine P_q no34_0 rfl (op_lss rfl rfl ?_)
      refine P_q no34_0 rfl (op_move (av := .exact (.bool (decide (x5_j1 < (List.length a0 : Int))))) rfl ?_)
      refine P_split (p := x5_j1 < (List.length a0 : Int)) 25 rfl (fun hc => ?_) (fun hc => ?_)
      · replace h := ite_t h hc
        refine Py_q no34_0 rfl rfl rfl (op_move (av := .exact w0) rfl ?_)
        refine Py_q no34_0 rfl rfl rfl (op_move (av := .exact (.int .i64 x5_j1)) rfl ?_)
        refine Py_q no34_0 rfl rfl rfl (op_loadNp (m := 2) (c' := c_A2_int a1) (by kernel_rfl) rfl rfl rfl ?_)
        obtain ⟨n75, h⟩ := need_some h
        refine Py_r rfl rfl rfl (op_index_vec (by kernel_rfl) rfl rfl n75.1 n75.2 ?_)
        refine Py_r rfl rfl rfl (op_load_vecN (i := x5_j1) (o := 0) (m := 2) (c' := c_A2_int (gi a0 x5_j1)) (by kernel_rfl) len_c_A2_int rfl n75.1 n75.2 rfl rfl ?_)
        refine Py_q no34_0 rfl rfl rfl (op_eqlA (a := (gi a0 x5_j1)) (b := a1) (by kernel_rfl) (eq_c_A2_int _ _) rfl rfl ?_)
        refine P_q no34_0 rfl (op_pick_t rfl (av := .exact (.bool (decide ((gi a0 x5_j1) = a1)))) rfl ?_)
        refine P_nil ?_
        refine kI_normal ⟨_, h, ?_⟩
        exact Sub.of_le (AF.le_put (AV.le_eq rfl) (AF.le_put (AV.le_eq rfl) (AF.le_put (AV.le_eq rfl) (AF.le_put (AV.le_eq rfl) (AF.le_top _)))))
      · replace h := ite_f h hc
        refine P_n no34_0 rfl rfl rfl ?_
        refine P_n no34_0 rfl rfl rfl ?_
        refine P_n no34_0 rfl rfl rfl ?_
        refine P_n no34_1 rfl rfl rfl ?_
        refine P_n no34_1 rfl rfl rfl ?_
        refine P_n no34_0 rfl rfl rfl ?_
        refine P_q no34_0 rfl (op_pick_f rfl (av := .exact (.bool false)) rfl ?_)
        refine P_nil ?_
        refine kI_normal ⟨_, h, ?_⟩
        exact Sub.of_le (AF.le_put (AV.le_eq rfl) (AF.le_put (AV.le_eq rfl) (AF.le_put (AV.le_eq rfl) (AF.le_put (AV.le_eq rfl) (AF.le_top _)))))
    · refine k_cond_b (c := x32_j73) rfl (fun hc => ?_) (fun hc => ?_)
      · replace h := ite_t h hc
        refine k_seq ?_
        refine k_reg .free hmixP (by kernel_rfl) ?_
        refine G_q rfl (op_move (av := .exact w0) rfl ?_)
        refine G_q rfl (op_assign (av := .exact w0) rfl ?_)
        refine G_nil ?_
        refine kC_normal ?_
        refine k_ret ?_
        refine kC_ret ?_
        obtain rfl := Option.some.inj h
        refine kP_any (endN (af' := (AF.put AF0 (some 4) (.exact w0))) (σ' := [vecT Try.prog 23 2 c_A2_int w0 a0]) _ rfl ?_ ⟨w0, rfl, rfl⟩)
        exact Sub.of_le (AF.le_put (AV.le_eq rfl) (AF.le_top _))
      · replace h := ite_f h hc
        refine k_skip ?_
        refine kC_normal ?_
        refine k_seq ?_
        refine k_reg .free hmixP (by kernel_rfl) ?_
        refine G_l rfl (op_lit0I (enc := c_A2_int) (n := 2) (by kernel_rfl) (fun v76 => ?_))
        refine G_q rfl (op_move (av := .exact w0) rfl ?_)
        refine G_q rfl (op_move (av := .exact (.int .i64 x5_j1)) rfl ?_)
        refine G_sub rfl (SubU.trans SubU.f1 (SubU.freezeT2 (s1 := 0) (s2 := 35) rfl rfl len_c_A2_int)) ?_
        obtain ⟨n77, h⟩ := need_some h
        refine G_q rfl (op_slice_rowt (by kernel_rfl) rfl bnd_none (bnd_some rfl) (Int.le_refl 0) n77.1 n77.2 ?_)
        obtain ⟨n78, h⟩ := need_some h
        refine G_l rfl (op_appT (by kernel_rfl) rfl rfl oc_c_A2_int n78 (fun v79 => ?_))
        refine G_q rfl (op_assign (av := .exact v79) rfl ?_)
        refine G_nil ?_
        refine kC_normal ?_
        refine k_seq ?_
        refine k_reg .free hmixP (by kernel_rfl) ?_
        refine G_q rfl (op_move (av := .exact v79) rfl ?_)
        refine G_q rfl (op_loadNp (m := 2) (c' := c_A2_int a1) (by kernel_rfl) rfl rfl rfl ?_)
        refine G_q rfl (op_litT (n := 2) (enc := c_A2_int) [a1] (CellsAll.cons rfl CellsOf.agg CellsAll.nil) rfl (by kernel_rfl) (LEss.cons (LEs.cons (AV.le_eq rfl) (LEs.cons (AV.le_eq rfl) LEs.nil)) LEss.nil) ?_)
        obtain ⟨n80, h⟩ := need_some h
        refine G_l rfl (op_appT (by kernel_rfl) rfl rfl oc_c_A2_int n80 (fun v81 => ?_))
        refine G_q rfl (op_assign (av := .exact v81) rfl ?_)
        refine G_nil ?_
        refine kC_normal ?_
        refine k_seq ?_
        refine k_reg .free hmixP (by kernel_rfl) ?_
        refine G_q rfl (op_move (av := .exact v81) rfl ?_)
        refine G_q rfl (op_move (av := .row 2 c_A2_int a0) rfl ?_)
        refine G_q rfl (op_move (av := .exact (.int .i64 x5_j1)) rfl ?_)
        obtain ⟨n82, h⟩ := need_some h
        refine G_q rfl (op_slice_rowd (by kernel_rfl) rfl (bnd_some rfl) bnd_none n82.1 n82.2 (Int.le_refl _) ?_)
        obtain ⟨n83, h⟩ := need_some h
        refine G_l rfl (op_appT (by kernel_rfl) rfl rfl oc_c_A2_int n83 (fun v84 => ?_))
        refine G_q rfl (op_assign (av := .exact v84) rfl ?_)
        refine G_nil ?_
        refine kC_normal ?_
        refine k_ret ?_
        obtain rfl := Option.some.inj h
        refine kP_any (endN (af' := (AF.put AF0 (some 4) (.exact v84))) (σ' := [vecT Try.prog 23 2 c_A2_int v84 (((([] : List (Int × Int)) ++ (List.take (Int.toNat x5_j1) a0)) ++ [a1]) ++ (List.drop (Int.toNat x5_j1) a0))]) _ rfl ?_ ⟨v84, rfl, rfl⟩)
        exact Sub.of_le (AF.le_put (AV.le_eq rfl) (AF.le_top _))
set_option maxHeartbeats 4000000 in
theorem m_ref35_isPair_ok (a0 : Int × Int) (r : Bool) (h : m_ref35_isPair a0 = some r) : Pure Try.prog 76 [(.agg (c_A2_int a0))] (.exact (.bool r)) := by
  unfold m_ref35_isPair at h
  refine Pure.ofFun (fun_of_awp Try.func76 rfl Try.ntmps76 (by simp) rfl (res1 rfl) fun E hE => k_end ?_)
  refine k_seq ?_
  refine k_reg .free hmixP (by kernel_rfl) ?_
  refine G_q rfl (op_box (c := c_A2_int a0) rfl CellsOf.agg ?_)
  refine G_q rfl (op_assign (av := .exact (.bool false)) rfl ?_)
  refine G_nil ?_
  refine kC_normal ?_
  refine k_join1_0 h (fun (x2_j1 : Bool) => (AF.put AF0 (some 2) (.exact (.bool x2_j1)))) (fun (x2_j1 : Bool) => []) (fun k1 h => ?_) (fun x2_j1 h => ?_)
  · refine k_reg .free hmixP (by kernel_rfl) ?_
    refine G_q rfl (op_indexArr_ptr (m := 2) (n := 1) (c' := (List.drop 0 (c_A2_int a0))) (by kernel_rfl) rfl rfl (by decide) (by decide) rfl ?_)
    refine G_q rfl (op_load1p (a := .exact (.int .i64 a0.1)) (by kernel_rfl) rfl rfl ?_)
    refine G_q rfl (op_geq rfl rfl ?_)
    refine G_q rfl (op_move (av := .exact (.bool (decide (0 ≤ a0.1)))) rfl ?_)
    refine G_split (p := 0 ≤ a0.1) 6 rfl (fun hc => ?_) (fun hc => ?_)
    · replace h := ite_t h hc
      refine Gy_q rfl rfl rfl (op_indexArr_ptr (m := 2) (n := 1) (c' := (List.drop 0 (c_A2_int a0))) (by kernel_rfl) rfl rfl (by decide) (by decide) rfl ?_)
      refine Gy_q rfl rfl rfl (op_load1p (a := .exact (.int .i64 a0.1)) (by kernel_rfl) rfl rfl ?_)
      refine Gy_q rfl rfl rfl (op_leq rfl rfl ?_)
      refine G_q rfl (op_pick_t rfl (av := .exact (.bool (decide (a0.1 ≤ 2147483647)))) rfl ?_)
      refine G_q rfl (op_move (av := .exact (.bool (decide (a0.1 ≤ 2147483647)))) rfl ?_)
      refine G_split (p := a0.1 ≤ 2147483647) 11 rfl (fun hc => ?_) (fun hc => ?_)
      · replace h := ite_t h hc
        refine Gy_q rfl rfl rfl (op_indexArr_ptr (m := 2) (n := 1) (c' := (List.drop 1 (c_A2_int a0))) (by kernel_rfl) rfl rfl (by decide) (by decide) rfl ?_)
        refine Gy_q rfl rfl rfl (op_load1p (a := .exact (.int .i64 a0.2)) (by kernel_rfl) rfl rfl ?_)
        refine Gy_q rfl rfl rfl (op_geq rfl rfl ?_)
        refine G_q rfl (op_pick_t rfl (av := .exact (.bool (decide (0 ≤ a0.2)))) rfl ?_)
        refine G_q rfl (op_move (av := .exact (.bool (decide (0 ≤ a0.2)))) rfl ?_)
        refine G_split (p := 0 ≤ a0.2) 16 rfl (fun hc => ?_) (fun hc => ?_)
        · replace h := ite_t h hc
          refine Gy_q rfl rfl rfl (op_indexArr_ptr (m := 2) (n := 1) (c' := (List.drop 1 (c_A2_int a0))) (by kernel_rfl) rfl rfl (by decide) (by decide) rfl ?_)
          refine Gy_q rfl rfl rfl (op_load1p (a := .exact (.int .i64 a0.2)) (by kernel_rfl) rfl rfl ?_)
          refine Gy_q rfl rfl rfl (op_leq rfl rfl ?_)
          refine G_q rfl (op_pick_t rfl (av := .exact (.bool (decide (a0.2 ≤ 2147483647)))) rfl ?_)
          refine G_q rfl (op_assign (av := .exact (.bool (decide (a0.2 ≤ 2147483647)))) rfl ?_)
          refine G_nil ?_
          refine kI_normal ⟨_, h, ?_⟩
          exact Sub.of_le (AF.le_put (AV.le_eq rfl) (AF.le_top _))
        · replace h := ite_f h hc
          refine G_n rfl rfl ?_
          refine G_n rfl rfl ?_
          refine G_n rfl rfl ?_
          refine G_q rfl (op_pick_f rfl (av := .exact (.bool false)) rfl ?_)
          refine G_q rfl (op_assign (av := .exact (.bool false)) rfl ?_)
          refine G_nil ?_
          refine kI_normal ⟨_, h, ?_⟩
          exact Sub.of_le (AF.le_put (AV.le_eq rfl) (AF.le_top _))
      · replace h := ite_f h hc
        refine G_n rfl rfl ?_
        refine G_n rfl rfl ?_
        refine G_n rfl rfl ?_
        refine G_q rfl (op_pick_f rfl (av := .exact (.bool false)) rfl ?_)
        refine G_q rfl (op_move (av := .exact (.bool false)) rfl ?_)
        refine G_n rfl rfl ?_
        refine G_n rfl rfl ?_
        refine G_n rfl rfl ?_
        refine G_q rfl (op_pick_f rfl (av := .exact (.bool false)) rfl ?_)
        refine G_q rfl (op_assign (av := .exact (.bool false)) rfl ?_)
        refine G_nil ?_
        refine kI_normal ⟨_, h, ?_⟩
        exact Sub.of_le (AF.le_put (AV.le_eq rfl) (AF.le_top _))
    · replace h := ite_f h hc
      refine G_n rfl rfl ?_
      refine G_n rfl rfl ?_
      refine G_n rfl rfl ?_
      refine G_q rfl (op_pick_f rfl (av := .exact (.bool false)) rfl ?_)
      refine G_q rfl (op_move (av := .exact (.bool false)) rfl ?_)
      refine G_n rfl rfl ?_
      refine G_n rfl rfl ?_
      refine G_n rfl rfl ?_
      refine G_q rfl (op_pick_f rfl (av := .exact (.bool false)) rfl ?_)
      refine G_q rfl (op_move (av := .exact (.bool false)) rfl ?_)
      refine G_n rfl rfl ?_
      refine G_n rfl rfl ?_
      refine G_n rfl rfl ?_
      refine G_q rfl (op_pick_f rfl (av := .exact (.bool false)) rfl ?_)
      refine G_q rfl (op_assign (av := .exact (.bool false)) rfl ?_)
      refine G_nil ?_
      refine kI_normal ⟨_, h, ?_⟩
      exact Sub.of_le (AF.le_put (AV.le_eq rfl) (AF.le_top _))
  · refine k_ret ?_
    obtain rfl := Option.some.inj h
    refine kP_any (endN (af' := (AF.put AF0 (some 2) (.exact (.bool x2_j1)))) (σ' := []) _ rfl ?_ ⟨rfl, rfl⟩)
    exact Sub.of_le (AF.le_put (AV.le_eq rfl) (AF.le_top _))
set_option maxHeartbeats 4000000 in
theorem m_ref35_Sorted_ok (a0 : List (Int × Int)) (r : (List (Int × Int))) (h : m_ref35_Sorted a0 = some r) : Fun Try.prog 42 [(.row 2 c_A2_int a0)] [] (fun a s => ∃ z0, a = .exact z0 ∧ s = [vecT Try.prog 23 2 c_A2_int z0 r]) := by
  unfold m_ref35_Sorted at h
  refine fun_of_awp Try.func42 rfl Try.ntmps42 (by simp) rfl (res1 rfl) fun E hE => k_end ?_
  refine k_seq ?_
  refine k_reg .free hmixP (by kernel_rfl) ?_
  refine G_q rfl (op_assign (av := .exact (.slice none 0 0)) rfl ?_)
  refine G_nil ?_
  refine kC_normal ?_
  refine k_seq ?_
  refine k_reg .free hmixP (by kernel_rfl) ?_
  refine G_q rfl (op_assign (av := .exact (.slice none 0 0)) rfl ?_)
  refine G_nil ?_
  refine kC_normal ?_
  refine k_join0_0 h ((AF.put (AF.put AF0 (some 0) (.row 2 c_A2_int a0)) (some 3) (.exact (.slice none 0 0)))) ([]) (fun k1 h => ?_) (fun  h => ?_)
  · refine k_seq ?_
    refine k_reg .free hmixP (by kernel_rfl) ?_
    refine G_q rfl (op_assign (av := .exact (.int .i64 0)) rfl ?_)
    refine G_nil ?_
    refine kC_normal ?_
    refine k_block ?_
    refine k_loop1_0 (m_ref35_Sorted_L2 a0 k1) (m_ref35_Sorted_B2 a0 k1) (fun _ => rfl) (fun m _ => rfl) h (fun (x4_l2 : Int) => (AF.put (AF.put (AF.put AF0 (some 0) (.row 2 c_A2_int a0)) (some 3) (.exact (.slice none 0 0))) (some 4) (.exact (.int .i64 x4_l2)))) (fun (x4_l2 : Int) => []) ?_ (fun rec2 x4_l2 h => ?_)
    · exact Sub.of_le (AF.le_put (AV.le_eq rfl) (AF.le_put (AV.le_eq rfl) (AF.le_put (AV.le_eq rfl) (AF.le_top _))))
    · unfold m_ref35_Sorted_B2 at h
      refine k_seq ?_
      refine k_seq ?_
      refine k_reg .free hmixP (by kernel_rfl) ?_
      refine G_q rfl (op_move (av := .exact (.int .i64 x4_l2)) rfl ?_)
      refine G_q rfl (op_move (av := .row 2 c_A2_int a0) rfl ?_)
      refine G_q rfl (op_len_row (by kernel_rfl) rfl ?_)
      refine G_q rfl (op_lss rfl rfl ?_)
      refine G_nil ?_
      refine kC_normal ?_
      refine k_cond_d (p := x4_l2 < (List.length a0 : Int)) rfl (fun hc => ?_) (fun hc => ?_)
      · replace h := ite_t h hc
        refine k_skip ?_
        refine kC_normal ?_
        refine k_seq ?_
        refine k_block ?_
        refine k_seq ?_
        refine k_reg .free hmixP (by kernel_rfl) ?_
        refine G_q rfl (op_move (av := .row 2 c_A2_int a0) rfl ?_)
        refine G_q rfl (op_move (av := .exact (.int .i64 x4_l2)) rfl ?_)
        obtain ⟨n13, h⟩ := need_some h
        refine G_q rfl (op_index_row (by kernel_rfl) rfl rfl n13.1 n13.2 ?_)
        refine G_q rfl (op_loadNp (m := 2) (c' := c_A2_int (gi a0 x4_l2)) (by kernel_rfl) rfl rfl rfl ?_)
        obtain ⟨y14, hy14, h⟩ := bnd1_some h
        refine G_q rfl (op_pure (m_ref35_isPair_ok _ _ hy14) Try.func76 (by kernel_rfl) (LEs.cons (AV.le_eq rfl) LEs.nil) ?_)
        refine G_q rfl (op_not rfl ?_)
        refine G_nil ?_
        refine kC_normal ?_
        refine k_cond_b (c := !y14) rfl (fun hc => ?_) (fun hc => ?_)
        · replace h := ite_t h hc
          refine k_seq ?_
          refine k_reg .free hmixP (by kernel_rfl) ?_
          refine G_q rfl (op_assign (av := .exact (.slice none 0 0)) rfl ?_)
          refine G_nil ?_
          refine kC_normal ?_
          refine k_ret ?_
          refine kB_ret ?_
          refine kC_ret ?_
          refine kI_ret ?_
          refine kB_ret ?_
          refine kI_ret ?_
          obtain rfl := Option.some.inj h
          refine kP_any (endN (af' := (AF.put AF0 (some 2) (.exact (.slice none 0 0)))) (σ' := [vecT Try.prog 23 2 c_A2_int (.slice none 0 0) []]) _ rfl ?_ ⟨(.slice none 0 0), rfl, rfl⟩)
          refine Sub.trans (SubU.to (SubU.nilT (P := Try.prog) (t := 23) (n := 2) (enc := c_A2_int))) ?_
          exact Sub.of_le (AF.le_put (AV.le_eq rfl) (AF.le_top _))
        · replace h := ite_f h hc
          refine k_skip ?_
          refine kB_normal ?_
          refine kC_normal ?_
          refine k_reg .free hmixP (by kernel_rfl) ?_
          refine G_q rfl (op_move (av := .exact (.int .i64 x4_l2)) rfl ?_)
          refine G_q rfl (op_add rfl rfl rfl ?_)
          refine G_q rfl (op_assign (av := .exact (.int .i64 (i64 (x4_l2 + 1)))) rfl ?_)
          refine G_nil ?_
          refine kI_normal ⟨_, h, ?_⟩
          exact Sub.of_le (AF.le_put (AV.le_eq rfl) (AF.le_put (AV.le_eq rfl) (AF.le_put (AV.le_eq rfl) (AF.le_top _))))
      · replace h := ite_f h hc
        refine k_exit ?_
        refine kC_exit ?_
        refine kI_exit ?_
        refine kB_exit ?_
        refine kI_normal ⟨h, ?_⟩
        exact Sub.of_le (AF.le_put (AV.le_eq rfl) (AF.le_put (AV.le_eq rfl) (AF.le_top _)))
  · refine k_join1_1 h (fun (x3_j15 : List (Int × Int)) (v3_j15 : Value) => (AF.put AF0 (some 3) (.exact v3_j15))) (fun (x3_j15 : List (Int × Int)) (v3_j15 : Value) => [vecT Try.prog 23 2 c_A2_int v3_j15 x3_j15]) (fun k15 h => ?_) (fun x3_j15 v3_j15 h => ?_)
    · refine k_seq ?_
      refine k_reg .free hmixP (by kernel_rfl) ?_
      refine G_q rfl (op_assign (av := .exact (.int .i64 0)) rfl ?_)
      refine G_nil ?_
      refine kC_normal ?_
      refine k_block ?_
      refine k_loop2_1 (m_ref35_Sorted_L4 a0 k15) (m_ref35_Sorted_B4 a0 k15) (fun _ _ => rfl) (fun m _ _ => rfl) h (fun (x3_l4 : List (Int × Int)) (x5_l4 : Int) (v3_l4 : Value) => (AF.put (AF.put (AF.put AF0 (some 0) (.row 2 c_A2_int a0)) (some 3) (.exact v3_l4)) (some 5) (.exact (.int .i64 x5_l4)))) (fun (x3_l4 : List (Int × Int)) (x5_l4 : Int) (v3_l4 : Value) => [vecT Try.prog 23 2 c_A2_int v3_l4 x3_l4]) (.slice none 0 0) ?_ (fun rec4 x3_l4 x5_l4 v3_l4 h => ?_)
      · refine Sub.trans (SubU.to (SubU.nilT (P := Try.prog) (t := 23) (n := 2) (enc := c_A2_int))) ?_
        exact Sub.of_le (AF.le_put (AV.le_eq rfl) (AF.le_put (AV.le_eq rfl) (AF.le_put (AV.le_eq rfl) (AF.le_top _))))
      · unfold m_ref35_Sorted_B4 at h
        refine k_seq ?_
        refine k_seq ?_
        refine k_reg .free hmixP (by kernel_rfl) ?_
        refine G_q rfl (op_move (av := .exact (.int .i64 x5_l4)) rfl ?_)
        refine G_q rfl (op_move (av := .row 2 c_A2_int a0) rfl ?_)
        refine G_q rfl (op_len_row (by kernel_rfl) rfl ?_)
        refine G_q rfl (op_lss rfl rfl ?_)
        refine G_nil ?_
        refine kC_normal ?_
        refine k_cond_d (p := x5_l4 < (List.length a0 : Int)) rfl (fun hc => ?_) (fun hc => ?_)
        · replace h := ite_t h hc
          refine k_skip ?_
          refine kC_normal ?_
          refine k_seq ?_
          refine k_block ?_
          refine k_reg .free hmixP (by kernel_rfl) ?_
          refine G_q rfl (op_move (av := .exact v3_l4) rfl ?_)
          refine G_q rfl (op_move (av := .row 2 c_A2_int a0) rfl ?_)
          refine G_q rfl (op_move (av := .exact (.int .i64 x5_l4)) rfl ?_)
          obtain ⟨n34, h⟩ := need_some h
          refine G_q rfl (op_index_row (by kernel_rfl) rfl rfl n34.1 n34.2 ?_)
          refine G_q rfl (op_loadNp (m := 2) (c' := c_A2_int (gi a0 x5_l4)) (by kernel_rfl) rfl rfl rfl ?_)
          obtain ⟨y35, hy35, h⟩ := bnd1_some h
          refine G_l rfl (op_fun_1_1_1 (m_ref35_Add_ok _ _ _ hy35) Try.func78 (by kernel_rfl) (LEs.cons (AV.le_eq rfl) (LEs.cons (AV.le_eq rfl) LEs.nil)) (fun v36 => ?_))
          refine G_q rfl (op_assign (av := .exact v36) rfl ?_)
          refine G_nil ?_
          refine kB_normal ?_
          refine kC_normal ?_
          refine k_reg .free hmixP (by kernel_rfl) ?_
          refine G_q rfl (op_move (av := .exact (.int .i64 x5_l4)) rfl ?_)
          refine G_q rfl (op_add rfl rfl rfl ?_)
          refine G_q rfl (op_assign (av := .exact (.int .i64 (i64 (x5_l4 + 1)))) rfl ?_)
          refine G_nil ?_
          refine kI_normal ⟨_, _, v36, h, ?_⟩
          exact Sub.of_le (AF.le_put (AV.le_eq rfl) (AF.le_put (AV.le_eq rfl) (AF.le_put (AV.le_eq rfl) (AF.le_top _))))
        · replace h := ite_f h hc
          refine k_exit ?_
          refine kC_exit ?_
          refine kI_exit ?_
          refine kB_exit ?_
          refine kI_normal ⟨_, v3_l4, h, ?_⟩
          exact Sub.of_le (AF.le_put (AV.le_eq rfl) (AF.le_top _))
    · refine k_seq ?_
      refine k_reg .free hmixP (by kernel_rfl) ?_
      refine G_q rfl (op_move (av := .exact v3_j15) rfl ?_)
      refine G_q rfl (op_assign (av := .exact v3_j15) rfl ?_)
      refine G_nil ?_
      refine kC_normal ?_
      refine k_ret ?_
      obtain rfl := Option.some.inj h
      refine kP_any (endN (af' := (AF.put AF0 (some 2) (.exact v3_j15))) (σ' := [vecT Try.prog 23 2 c_A2_int v3_j15 x3_j15]) _ rfl ?_ ⟨v3_j15, rfl, rfl⟩)
      exact Sub.of_le (AF.le_put (AV.le_eq rfl) (AF.le_top _))
theorem m_ref35_Sorted_fz (a0 : List (Int × Int)) (r : (List (Int × Int))) (h : m_ref35_Sorted a0 = some r) : Pure Try.prog 42 [(.row 2 c_A2_int a0)] (.row 2 c_A2_int r) := Pure.ofOwn len_c_A2_int (m_ref35_Sorted_ok a0 r h)
set_option maxHeartbeats 4000000 in
theorem m_frontier_number_ok (a0 : List UInt8) (a1 : Int) (r : Int × Int × Int) (h : m_frontier_number a0 a1 = some r) : Pure Try.prog 79 [(.row 1 c_uint8 a0), (.exact (.int .i64 a1))] (.tup [.exact (.int .i64 r.1), .exact (.int .i64 r.2.1), .exact (.int .i64 r.2.2)]) := by
  unfold m_frontier_number at h
  refine Pure.ofFun (fun_of_awp Try.func79 rfl Try.ntmps79 (by simp) rfl (res3 rfl) fun E hE => k_end ?_)
  refine k_seq ?_
  refine k_reg .free hmixP (by kernel_rfl) ?_
  refine G_q rfl (op_assign (av := .exact (.int .i64 0)) rfl ?_)
  refine G_q rfl (op_assign (av := .exact (.int .i64 0)) rfl ?_)
  refine G_q rfl (op_assign (av := .exact (.int .i64 0)) rfl ?_)
  refine G_nil ?_
  refine kC_normal ?_
  refine k_seq ?_
  refine k_reg .free hmixP (by kernel_rfl) ?_
  refine G_q rfl (op_assign (av := .exact (.int .i64 0)) rfl ?_)
  refine G_nil ?_
  refine kC_normal ?_
  refine k_join0_0 h (AF0) ([]) (fun k1 h => ?_) (fun  h => ?_)
  · refine k_seq ?_
    refine k_reg .free hmixP (by kernel_rfl) ?_
    refine G_q rfl (op_move (av := .exact (.int .i64 0)) rfl ?_)
    refine G_nil ?_
    refine kC_normal ?_
    refine k_block ?_
    refine k_loop2_0 (m_frontier_number_L2 a0 a1 k1) (m_frontier_number_B2 a0 a1 k1) (fun _ _ => rfl) (fun m _ _ => rfl) h (fun (x7_l2 : Int) (x10_l2 : Int) => (AF.put (AF.put (AF.put (AF.put AF0 (some 0) (.row 1 c_uint8 a0)) (some 1) (.exact (.int .i64 a1))) (some 7) (.exact (.int .i64 x7_l2))) (some 10) (.exact (.int .i64 x10_l2)))) (fun (x7_l2 : Int) (x10_l2 : Int) => []) ?_ (fun rec2 x7_l2 x10_l2 h => ?_)
    · exact Sub.of_le (AF.le_put (AV.le_eq rfl) (AF.le_put (AV.le_eq rfl) (AF.le_put (AV.le_eq rfl) (AF.le_put (AV.le_eq rfl) (AF.le_top _)))))
    · unfold m_frontier_number_B2 at h
      refine k_seq ?_
      refine k_reg .free hmixP (by kernel_rfl) ?_
      refine G_q rfl (op_lss rfl rfl ?_)
      refine G_nil ?_
      refine kC_normal ?_
      refine k_seq ?_
      refine k_cond_d (p := x10_l2 < 5) rfl (fun hc => ?_) (fun hc => ?_)
      · replace h := ite_t h hc
        refine k_skip ?_
        refine kC_normal ?_
        refine k_seq ?_
        refine k_block ?_
        refine k_seq ?_
        refine k_reg .free hmixP (by kernel_rfl) ?_
        refine G_q rfl (op_move (av := .exact (.int .i64 x10_l2)) rfl ?_)
        refine G_q rfl (op_assign (av := .exact (.int .i64 x10_l2)) rfl ?_)
        refine G_nil ?_
        refine kC_normal ?_
        refine k_seq ?_
        refine k_seq ?_
        refine k_reg .free hmixP (by kernel_rfl) ?_
        refine G_q rfl (op_move (av := .exact (.int .i64 a1)) rfl ?_)
        refine G_q rfl (op_move (av := .exact (.int .i64 x10_l2)) rfl ?_)
        refine G_q rfl (op_add rfl rfl rfl ?_)
        refine G_q rfl (op_move (av := .row 1 c_uint8 a0) rfl ?_)
        refine G_q rfl (op_len_row (by kernel_rfl) rfl ?_)
        refine G_q rfl (op_geq rfl rfl ?_)
        refine G_nil ?_
        refine kC_normal ?_
        refine k_cond_d (p := (List.length a0 : Int) ≤ (i64 (a1 + x10_l2))) rfl (fun hc => ?_) (fun hc => ?_)
        · replace h := ite_t h hc
          refine k_seq ?_
          refine k_reg .free hmixP (by kernel_rfl) ?_
          refine G_q rfl (op_assign (av := .exact (.int .i64 0)) rfl ?_)
          refine G_q rfl (op_assign (av := .exact (.int .i64 0)) rfl ?_)
          refine G_q rfl (op_assign (av := .exact (.int .i64 23)) rfl ?_)
          refine G_nil ?_
          refine kC_normal ?_
          refine k_ret ?_
          refine kC_ret ?_
          refine kB_ret ?_
          refine kC_ret ?_
          refine kI_ret ?_
          refine kB_ret ?_
          refine kI_ret ?_
          obtain rfl := Option.some.inj h
          refine kP_any (endN (af' := (AF.put (AF.put (AF.put AF0 (some 4) (.exact (.int .i64 0))) (some 5) (.exact (.int .i64 0))) (some 6) (.exact (.int .i64 23)))) (σ' := []) _ rfl ?_ ⟨rfl, rfl⟩)
          exact Sub.of_le (AF.le_put (AV.le_eq rfl) (AF.le_put (AV.le_eq rfl) (AF.le_put (AV.le_eq rfl) (AF.le_top _))))
        · replace h := ite_f h hc
          refine k_skip ?_
          refine kC_normal ?_
          refine k_seq ?_
          refine k_reg .free hmixP (by kernel_rfl) ?_
          refine G_q rfl (op_move (av := .row 1 c_uint8 a0) rfl ?_)
          refine G_q rfl (op_move (av := .exact (.int .i64 a1)) rfl ?_)
          refine G_q rfl (op_move (av := .exact (.int .i64 x10_l2)) rfl ?_)
          refine G_q rfl (op_add rfl rfl rfl ?_)
          obtain ⟨n13, h⟩ := need_some h
          refine G_q rfl (op_index_row (by kernel_rfl) rfl rfl n13.1 n13.2 ?_)
          refine G_q rfl (op_load1p (a := .exact (.int .u8 (UInt8.toNat (gi a0 (i64 (a1 + x10_l2))) : Int))) (by kernel_rfl) rfl rfl ?_)
          refine G_q rfl (op_assign (av := .exact (.int .u8 (UInt8.toNat (gi a0 (i64 (a1 + x10_l2))) : Int))) rfl ?_)
          refine G_nil ?_
          refine kC_normal ?_
          refine k_seq ?_
          refine k_reg .free hmixP (by kernel_rfl) ?_
          refine G_q rfl (op_move (av := .exact (.int .i64 x7_l2)) rfl ?_)
          refine G_q rfl (op_move (av := .exact (.int .u8 (UInt8.toNat (gi a0 (i64 (a1 + x10_l2))) : Int))) rfl ?_)
          refine G_q rfl (op_andU (a := (gi a0 (i64 (a1 + x10_l2)))) (b := 127) rfl rfl ?_)
          refine G_q rfl (op_convInt (k := .i64) (r := (UInt8.toNat ((gi a0 (i64 (a1 + x10_l2))) &&& 127) : Int)) (by kernel_rfl) rfl (wrap_u8 rfl _) ?_)
          refine G_q rfl (op_move (av := .exact (.int .i64 x10_l2)) rfl ?_)
          refine G_q rfl (op_mul rfl rfl rfl ?_)
          obtain ⟨n14, h⟩ := need_some h
          refine G_q rfl (op_shl rfl rfl n14 rfl ?_)
          refine G_q rfl (op_or rfl rfl rfl ?_)
          refine G_q rfl (op_assign (av := .exact (.int .i64 (bOr .i64 x7_l2 (i64 ((UInt8.toNat ((gi a0 (i64 (a1 + x10_l2))) &&& 127) : Int) * 2 ^ min (Int.toNat (i64 (7 * x10_l2))) IntKind.i64.bits))))) rfl ?_)
          refine G_nil ?_
          refine kC_normal ?_
          refine k_seq ?_
          refine k_reg .free hmixP (by kernel_rfl) ?_
          refine G_q rfl (op_move (av := .exact (.int .u8 (UInt8.toNat (gi a0 (i64 (a1 + x10_l2))) : Int))) rfl ?_)
          refine G_q rfl (op_lssU (a := (gi a0 (i64 (a1 + x10_l2)))) (b := 128) rfl rfl ?_)
          refine G_nil ?_
          refine kC_normal ?_
          refine k_cond_d (p := (gi a0 (i64 (a1 + x10_l2))) < 128) rfl (fun hc => ?_) (fun hc => ?_)
          · replace h := ite_t h hc
            refine k_seq ?_
            refine k_reg .free hmixP (by kernel_rfl) ?_
            refine G_q rfl (op_move (av := .exact (.int .i64 (bOr .i64 x7_l2 (i64 ((UInt8.toNat ((gi a0 (i64 (a1 + x10_l2))) &&& 127) : Int) * 2 ^ min (Int.toNat (i64 (7 * x10_l2))) IntKind.i64.bits))))) rfl ?_)
            refine G_q rfl (op_move (av := .exact (.int .i64 a1)) rfl ?_)
            refine G_q rfl (op_move (av := .exact (.int .i64 x10_l2)) rfl ?_)
            refine G_q rfl (op_add rfl rfl rfl ?_)
            refine G_q rfl (op_add rfl rfl rfl ?_)
            refine G_q rfl (op_assign (av := .exact (.int .i64 (bOr .i64 x7_l2 (i64 ((UInt8.toNat ((gi a0 (i64 (a1 + x10_l2))) &&& 127) : Int) * 2 ^ min (Int.toNat (i64 (7 * x10_l2))) IntKind.i64.bits))))) rfl ?_)
            refine G_q rfl (op_assign (av := .exact (.int .i64 (i64 ((i64 (a1 + x10_l2)) + 1)))) rfl ?_)
            refine G_q rfl (op_assign (av := .exact (.int .i64 0)) rfl ?_)
            refine G_nil ?_
            refine kC_normal ?_
            refine k_ret ?_
            refine kB_ret ?_
            refine kC_ret ?_
            refine kI_ret ?_
            refine kB_ret ?_
            refine kI_ret ?_
            obtain rfl := Option.some.inj h
            refine kP_any (endN (af' := (AF.put (AF.put (AF.put AF0 (some 4) (.exact (.int .i64 (bOr .i64 x7_l2 (i64 ((UInt8.toNat ((gi a0 (i64 (a1 + x10_l2))) &&& 127) : Int) * 2 ^ min (Int.toNat (i64 (7 * x10_l2))) IntKind.i64.bits)))))) (some 5) (.exact (.int .i64 (i64 ((i64 (a1 + x10_l2)) + 1))))) (some 6) (.exact (.int .i64 0)))) (σ' := []) _ rfl ?_ ⟨rfl, rfl⟩)
            exact Sub.of_le (AF.le_put (AV.le_eq rfl) (AF.le_put (AV.le_eq rfl) (AF.le_put (AV.le_eq rfl) (AF.le_top _))))
          · replace h := ite_f h hc
            refine k_skip ?_
            refine kB_normal ?_
            refine kC_normal ?_
            refine k_reg .free hmixP (by kernel_rfl) ?_
            refine G_q rfl (op_add rfl rfl rfl ?_)
            refine G_q rfl (op_move (av := .exact (.int .i64 (i64 (x10_l2 + 1)))) rfl ?_)
            refine G_nil ?_
            refine kI_normal ⟨_, _, h, ?_⟩
            exact Sub.of_le (AF.le_put (AV.le_eq rfl) (AF.le_put (AV.le_eq rfl) (AF.le_put (AV.le_eq rfl) (AF.le_put (AV.le_eq rfl) (AF.le_top _)))))
      · replace h := ite_f h hc
        refine k_exit ?_
        refine kC_exit ?_
        refine kI_exit ?_
        refine kB_exit ?_
        refine kI_normal ⟨h, ?_⟩
        exact Sub.of_le (AF.le_top _)
  · refine k_seq ?_
    refine k_reg .free hmixP (by kernel_rfl) ?_
    refine G_q rfl (op_assign (av := .exact (.int .i64 0)) rfl ?_)
    refine G_q rfl (op_assign (av := .exact (.int .i64 0)) rfl ?_)
    refine G_q rfl (op_assign (av := .exact (.int .i64 22)) rfl ?_)
    refine G_nil ?_
    refine kC_normal ?_
    refine k_ret ?_
    obtain rfl := Option.some.inj h
    refine kP_any (endN (af' := (AF.put (AF.put (AF.put AF0 (some 4) (.exact (.int .i64 0))) (some 5) (.exact (.int .i64 0))) (some 6) (.exact (.int .i64 22)))) (σ' := []) _ rfl ?_ ⟨rfl, rfl⟩)
    exact Sub.of_le (AF.le_put (AV.le_eq rfl) (AF.le_put (AV.le_eq rfl) (AF.le_put (AV.le_eq rfl) (AF.le_top _))))
set_option maxHeartbeats 4000000 in
theorem m_ref35_uvarint_ok (a0 : List UInt8) (a1 : Int) (r : Int × Int × Int) (h : m_ref35_uvarint a0 a1 = some r) : Pure Try.prog 82 [(.row 1 c_uint8 a0), (.exact (.int .i64 a1))] (.tup [.exact (.int .i64 r.1), .exact (.int .i64 r.2.1), .exact (.int .i64 r.2.2)]) := by
  unfold m_ref35_uvarint at h
  refine Pure.ofFun (fun_of_awp Try.func82 rfl Try.ntmps82 (by simp) rfl (res3 rfl) fun E hE => k_end ?_)
  refine k_seq ?_
  refine k_reg .free hmixP (by kernel_rfl) ?_
  refine G_q rfl (op_assign (av := .exact (.int .i64 0)) rfl ?_)
  refine G_q rfl (op_assign (av := .exact (.int .i64 0)) rfl ?_)
  refine G_q rfl (op_assign (av := .exact (.int .i64 0)) rfl ?_)
  refine G_nil ?_
  refine kC_normal ?_
  refine k_seq ?_
  refine k_reg .free hmixP (by kernel_rfl) ?_
  refine G_q rfl (op_assign (av := .exact (.int .i64 0)) rfl ?_)
  refine G_q rfl (op_assign (av := .exact (.int .i64 1)) rfl ?_)
  refine G_nil ?_
  refine kC_normal ?_
  refine k_join1_0 h (fun (x1_j1 : Int) => (AF.put AF0 (some 1) (.exact (.int .i64 x1_j1)))) (fun (x1_j1 : Int) => []) (fun k1 h => ?_) (fun x1_j1 h => ?_)
  · refine k_seq ?_
    refine k_reg .free hmixP (by kernel_rfl) ?_
    refine G_q rfl (op_assign (av := .exact (.int .i64 0)) rfl ?_)
    refine G_nil ?_
    refine kC_normal ?_
    refine k_block ?_
    refine k_loop4_0 (m_ref35_uvarint_L2 a0 k1) (m_ref35_uvarint_B2 a0 k1) (fun _ _ _ _ => rfl) (fun m _ _ _ _ => rfl) h (fun (x1_l2 : Int) (x7_l2 : Int) (x8_l2 : Int) (x9_l2 : Int) => (AF.put (AF.put (AF.put (AF.put (AF.put AF0 (some 0) (.row 1 c_uint8 a0)) (some 1) (.exact (.int .i64 x1_l2))) (some 7) (.exact (.int .i64 x7_l2))) (some 8) (.exact (.int .i64 x8_l2))) (some 9) (.exact (.int .i64 x9_l2)))) (fun (x1_l2 : Int) (x7_l2 : Int) (x8_l2 : Int) (x9_l2 : Int) => []) ?_ (fun rec2 x1_l2 x7_l2 x8_l2 x9_l2 h => ?_)
    · exact Sub.of_le (AF.le_put (AV.le_eq rfl) (AF.le_put (AV.le_eq rfl) (AF.le_put (AV.le_eq rfl) (AF.le_put (AV.le_eq rfl) (AF.le_put (AV.le_eq rfl) (AF.le_top _))))))
    · unfold m_ref35_uvarint_B2 at h
      refine k_seq ?_
      refine k_seq ?_
      refine k_reg .free hmixP (by kernel_rfl) ?_
      refine G_q rfl (op_move (av := .exact (.int .i64 x9_l2)) rfl ?_)
      refine G_q rfl (op_lss rfl rfl ?_)
      refine G_nil ?_
      refine kC_normal ?_
      refine k_cond_d (p := x9_l2 < 5) rfl (fun hc => ?_) (fun hc => ?_)
      · replace h := ite_t h hc
        refine k_skip ?_
        refine kC_normal ?_
        refine k_seq ?_
        refine k_block ?_
        refine k_seq ?_
        refine k_seq ?_
        refine k_reg .free hmixP (by kernel_rfl) ?_
        refine G_q rfl (op_move (av := .exact (.int .i64 x1_l2)) rfl ?_)
        refine G_q rfl (op_move (av := .row 1 c_uint8 a0) rfl ?_)
        refine G_q rfl (op_len_row (by kernel_rfl) rfl ?_)
        refine G_q rfl (op_geq rfl rfl ?_)
        refine G_nil ?_
        refine kC_normal ?_
        refine k_cond_d (p := (List.length a0 : Int) ≤ x1_l2) rfl (fun hc => ?_) (fun hc => ?_)
        · replace h := ite_t h hc
          refine k_seq ?_
          refine k_reg .free hmixP (by kernel_rfl) ?_
          refine G_q rfl (op_move (av := .exact (.int .i64 x1_l2)) rfl ?_)
          refine G_q rfl (op_assign (av := .exact (.int .i64 0)) rfl ?_)
          refine G_q rfl (op_assign (av := .exact (.int .i64 x1_l2)) rfl ?_)
          refine G_q rfl (op_assign (av := .exact (.int .i64 23)) rfl ?_)
          refine G_nil ?_
          refine kC_normal ?_
          refine k_ret ?_
          refine kC_ret ?_
          refine kB_ret ?_
          refine kC_ret ?_
          refine kI_ret ?_
          refine kB_ret ?_
          refine kI_ret ?_
          obtain rfl := Option.some.inj h
          refine kP_any (endN (af' := (AF.put (AF.put (AF.put AF0 (some 4) (.exact (.int .i64 0))) (some 5) (.exact (.int .i64 x1_l2))) (some 6) (.exact (.int .i64 23)))) (σ' := []) _ rfl ?_ ⟨rfl, rfl⟩)
          exact Sub.of_le (AF.le_put (AV.le_eq rfl) (AF.le_put (AV.le_eq rfl) (AF.le_put (AV.le_eq rfl) (AF.le_top _))))
        · replace h := ite_f h hc
          refine k_skip ?_
          refine kC_normal ?_
          refine k_seq ?_
          refine k_reg .free hmixP (by kernel_rfl) ?_
          refine G_q rfl (op_move (av := .exact (.int .i64 x7_l2)) rfl ?_)
          refine G_q rfl (op_move (av := .row 1 c_uint8 a0) rfl ?_)
          refine G_q rfl (op_move (av := .exact (.int .i64 x1_l2)) rfl ?_)
          obtain ⟨n13, h⟩ := need_some h
          refine G_q rfl (op_index_row (by kernel_rfl) rfl rfl n13.1 n13.2 ?_)
          refine G_q rfl (op_load1p (a := .exact (.int .u8 (UInt8.toNat (gi a0 x1_l2) : Int))) (by kernel_rfl) rfl rfl ?_)
          refine G_q rfl (op_convInt (k := .i64) (r := (UInt8.toNat (gi a0 x1_l2) : Int)) (by kernel_rfl) rfl (wrap_u8 rfl _) ?_)
          refine G_q rfl (op_rem rfl rfl (by decide) rfl ?_)
          refine G_q rfl (op_move (av := .exact (.int .i64 x8_l2)) rfl ?_)
          refine G_q rfl (op_mul rfl rfl rfl ?_)
          refine G_q rfl (op_add rfl rfl rfl ?_)
          refine G_q rfl (op_assign (av := .exact (.int .i64 (i64 (x7_l2 + (i64 ((Int.tmod (UInt8.toNat (gi a0 x1_l2) : Int) 128) * x8_l2)))))) rfl ?_)
          refine G_nil ?_
          refine kC_normal ?_
          refine k_seq ?_
          refine k_reg .free hmixP (by kernel_rfl) ?_
          refine G_q rfl (op_move (av := .exact (.int .i64 x8_l2)) rfl ?_)
          refine G_q rfl (op_mul rfl rfl rfl ?_)
          refine G_q rfl (op_assign (av := .exact (.int .i64 (i64 (x8_l2 * 128)))) rfl ?_)
          refine G_nil ?_
          refine kC_normal ?_
          refine k_seq ?_
          refine k_reg .free hmixP (by kernel_rfl) ?_
          refine G_q rfl (op_move (av := .exact (.int .i64 x1_l2)) rfl ?_)
          refine G_q rfl (op_add rfl rfl rfl ?_)
          refine G_q rfl (op_assign (av := .exact (.int .i64 (i64 (x1_l2 + 1)))) rfl ?_)
          refine G_nil ?_
          refine kC_normal ?_
          refine k_seq ?_
          refine k_reg .free hmixP (by kernel_rfl) ?_
          refine G_q rfl (op_move (av := .row 1 c_uint8 a0) rfl ?_)
          refine G_q rfl (op_move (av := .exact (.int .i64 (i64 (x1_l2 + 1)))) rfl ?_)
          refine G_q rfl (op_sub rfl rfl rfl ?_)
          obtain ⟨n14, h⟩ := need_some h
          refine G_q rfl (op_index_row (by kernel_rfl) rfl rfl n14.1 n14.2 ?_)
          refine G_q rfl (op_load1p (a := .exact (.int .u8 (UInt8.toNat (gi a0 (i64 ((i64 (x1_l2 + 1)) - 1))) : Int))) (by kernel_rfl) rfl rfl ?_)
          refine G_q rfl (op_lssU (a := (gi a0 (i64 ((i64 (x1_l2 + 1)) - 1)))) (b := 128) rfl rfl ?_)
          refine G_nil ?_
          refine kC_normal ?_
          refine k_cond_d (p := (gi a0 (i64 ((i64 (x1_l2 + 1)) - 1))) < 128) rfl (fun hc => ?_) (fun hc => ?_)
          · replace h := ite_t h hc
            refine k_seq ?_
            refine k_reg .free hmixP (by kernel_rfl) ?_
            refine G_q rfl (op_move (av := .exact (.int .i64 (i64 (x7_l2 + (i64 ((Int.tmod (UInt8.toNat (gi a0 x1_l2) : Int) 128) * x8_l2)))))) rfl ?_)
            refine G_q rfl (op_move (av := .exact (.int .i64 (i64 (x1_l2 + 1)))) rfl ?_)
            refine G_q rfl (op_assign (av := .exact (.int .i64 (i64 (x7_l2 + (i64 ((Int.tmod (UInt8.toNat (gi a0 x1_l2) : Int) 128) * x8_l2)))))) rfl ?_)
            refine G_q rfl (op_assign (av := .exact (.int .i64 (i64 (x1_l2 + 1)))) rfl ?_)
            refine G_q rfl (op_assign (av := .exact (.int .i64 0)) rfl ?_)
            refine G_nil ?_
            refine kC_normal ?_
            refine k_ret ?_
            refine kB_ret ?_
            refine kC_ret ?_
            refine kI_ret ?_
            refine kB_ret ?_
            refine kI_ret ?_
            obtain rfl := Option.some.inj h
            refine kP_any (endN (af' := (AF.put (AF.put (AF.put AF0 (some 4) (.exact (.int .i64 (i64 (x7_l2 + (i64 ((Int.tmod (UInt8.toNat (gi a0 x1_l2) : Int) 128) * x8_l2))))))) (some 5) (.exact (.int .i64 (i64 (x1_l2 + 1))))) (some 6) (.exact (.int .i64 0)))) (σ' := []) _ rfl ?_ ⟨rfl, rfl⟩)
            exact Sub.of_le (AF.le_put (AV.le_eq rfl) (AF.le_put (AV.le_eq rfl) (AF.le_put (AV.le_eq rfl) (AF.le_top _))))
          · replace h := ite_f h hc
            refine k_skip ?_
            refine kB_normal ?_
            refine kC_normal ?_
            refine k_reg .free hmixP (by kernel_rfl) ?_
            refine G_q rfl (op_move (av := .exact (.int .i64 x9_l2)) rfl ?_)
            refine G_q rfl (op_add rfl rfl rfl ?_)
            refine G_q rfl (op_assign (av := .exact (.int .i64 (i64 (x9_l2 + 1)))) rfl ?_)
            refine G_nil ?_
            refine kI_normal ⟨_, _, _, _, h, ?_⟩
            exact Sub.of_le (AF.le_put (AV.le_eq rfl) (AF.le_put (AV.le_eq rfl) (AF.le_put (AV.le_eq rfl) (AF.le_put (AV.le_eq rfl) (AF.le_put (AV.le_eq rfl) (AF.le_top _))))))
      · replace h := ite_f h hc
        refine k_exit ?_
        refine kC_exit ?_
        refine kI_exit ?_
        refine kB_exit ?_
        refine kI_normal ⟨_, h, ?_⟩
        exact Sub.of_le (AF.le_put (AV.le_eq rfl) (AF.le_top _))
  · refine k_seq ?_
    refine k_reg .free hmixP (by kernel_rfl) ?_
    refine G_q rfl (op_move (av := .exact (.int .i64 x1_j1)) rfl ?_)
    refine G_q rfl (op_assign (av := .exact (.int .i64 0)) rfl ?_)
    refine G_q rfl (op_assign (av := .exact (.int .i64 x1_j1)) rfl ?_)
    refine G_q rfl (op_assign (av := .exact (.int .i64 22)) rfl ?_)
    refine G_nil ?_
    refine kC_normal ?_
    refine k_ret ?_
    obtain rfl := Option.some.inj h
    refine kP_any (endN (af' := (AF.put (AF.put (AF.put AF0 (some 4) (.exact (.int .i64 0))) (some 5) (.exact (.int .i64 x1_j1))) (some 6) (.exact (.int .i64 22)))) (σ' := []) _ rfl ?_ ⟨rfl, rfl⟩)
    exact Sub.of_le (AF.le_put (AV.le_eq rfl) (AF.le_put (AV.le_eq rfl) (AF.le_put (AV.le_eq rfl) (AF.le_top _))))
set_option maxHeartbeats 4000000 in
theorem m_codec_Checksum_ok (a0 : List UInt8) (r : Int) (h : m_codec_Checksum a0 = some r) : Pure Try.prog 101 [(.row 1 c_uint8 a0)] (.exact (.int .u32 r)) := by
  unfold m_codec_Checksum at h
  refine Pure.ofFun (fun_of_awp Try.func101 rfl Try.ntmps101 (by simp) rfl (res1 rfl) fun E hE => k_end ?_)
  refine k_seq ?_
  refine k_reg .free hmixP (by kernel_rfl) ?_
  refine G_q rfl (op_assign (av := .exact (.int .u32 0)) rfl ?_)
  refine G_nil ?_
  refine kC_normal ?_
  refine k_seq ?_
  refine k_reg .free hmixP (by kernel_rfl) ?_
  refine G_q rfl (op_assign (av := .exact (.int .u32 4294967295)) rfl ?_)
  refine G_nil ?_
  refine kC_normal ?_
  refine k_join1_0 h (fun (x3_j1 : Int) => (AF.put AF0 (some 3) (.exact (.int .u32 x3_j1)))) (fun (x3_j1 : Int) => []) (fun k1 h => ?_) (fun x3_j1 h => ?_)
  · refine k_seq ?_
    refine k_reg .free hmixP (by kernel_rfl) ?_
    refine G_q rfl (op_move (av := .row 1 c_uint8 a0) rfl ?_)
    refine G_q rfl (op_len_row (by kernel_rfl) rfl ?_)
    refine G_q rfl (op_move (av := .exact (.int .i64 0)) rfl ?_)
    refine G_nil ?_
    refine kC_normal ?_
    refine k_block ?_
    refine k_loop2_0 (m_codec_Checksum_L8 a0 k1) (m_codec_Checksum_B8 a0 k1) (fun _ _ => rfl) (fun m _ _ => rfl) h (fun (x3_l8 : Int) (x8_l8 : Int) => (AF.put (AF.put (AF.put (AF.put AF0 (some 3) (.exact (.int .u32 x3_l8))) (some 6) (.row 1 c_uint8 a0)) (some 7) (.exact (.int .i64 (List.length a0 : Int)))) (some 8) (.exact (.int .i64 x8_l8)))) (fun (x3_l8 : Int) (x8_l8 : Int) => []) ?_ (fun rec8 x3_l8 x8_l8 h => ?_)
    · exact Sub.of_le (AF.le_put (AV.le_eq rfl) (AF.le_put (AV.le_eq rfl) (AF.le_put (AV.le_eq rfl) (AF.le_put (AV.le_eq rfl) (AF.le_top _)))))
    · unfold m_codec_Checksum_B8 at h
      refine k_seq ?_
      refine k_reg .free hmixP (by kernel_rfl) ?_
      refine G_q rfl (op_lss rfl rfl ?_)
      refine G_nil ?_
      refine kC_normal ?_
      refine k_seq ?_
      refine k_cond_d (p := x8_l8 < (List.length a0 : Int)) rfl (fun hc => ?_) (fun hc => ?_)
      · replace h := ite_t h hc
        refine k_skip ?_
        refine kC_normal ?_
        refine k_join1_0 h (fun (x3_j58 : Int) => (AF.put (AF.put (AF.put (AF.put AF0 (some 3) (.exact (.int .u32 x3_j58))) (some 6) (.row 1 c_uint8 a0)) (some 7) (.exact (.int .i64 (List.length a0 : Int)))) (some 8) (.exact (.int .i64 x8_l8)))) (fun (x3_j58 : Int) => []) (fun k58 h => ?_) (fun x3_j58 h => ?_)
        · refine k_block ?_
          refine k_seq ?_
          refine k_reg .free hmixP (by kernel_rfl) ?_
          obtain ⟨n64, h⟩ := need_some h
          refine G_q rfl (op_index_row (by kernel_rfl) rfl rfl n64.1 n64.2 ?_)
          refine G_q rfl (op_load1p (a := .exact (.int .u8 (UInt8.toNat (gi a0 x8_l8) : Int))) (by kernel_rfl) rfl rfl ?_)
          refine G_q rfl (op_assign (av := .exact (.int .u8 (UInt8.toNat (gi a0 x8_l8) : Int))) rfl ?_)
          refine G_nil ?_
          refine kC_normal ?_
          refine k_seq ?_
          refine k_reg .free hmixP (by kernel_rfl) ?_
          refine G_q rfl (op_move (av := .exact (.int .u32 x3_l8)) rfl ?_)
          refine G_q rfl (op_move (av := .exact (.int .u8 (UInt8.toNat (gi a0 x8_l8) : Int))) rfl ?_)
          refine G_q rfl (op_convInt (k := .u32) (r := (UInt8.toNat (gi a0 x8_l8) : Int)) (by kernel_rfl) rfl (wrap_u8 rfl _) ?_)
          refine G_q rfl (op_xor rfl rfl rfl ?_)
          refine G_q rfl (op_assign (av := .exact (.int .u32 (bXor .u32 x3_l8 (UInt8.toNat (gi a0 x8_l8) : Int)))) rfl ?_)
          refine G_nil ?_
          refine kC_normal ?_
          refine k_seq ?_
          refine k_reg .free hmixP (by kernel_rfl) ?_
          refine G_q rfl (op_move (av := .exact (.int .i64 0)) rfl ?_)
          refine G_nil ?_
          refine kC_normal ?_
          refine k_block ?_
          refine k_loop2_0 (m_codec_Checksum_L14 k58) (m_codec_Checksum_B14 k58) (fun _ _ => rfl) (fun m _ _ => rfl) h (fun (x3_l14 : Int) (x16_l14 : Int) => (AF.put (AF.put (AF.put (AF.put (AF.put AF0 (some 3) (.exact (.int .u32 x3_l14))) (some 6) (.row 1 c_uint8 a0)) (some 7) (.exact (.int .i64 (List.length a0 : Int)))) (some 8) (.exact (.int .i64 x8_l8))) (some 16) (.exact (.int .i64 x16_l14)))) (fun (x3_l14 : Int) (x16_l14 : Int) => []) ?_ (fun rec14 x3_l14 x16_l14 h => ?_)
          · exact Sub.of_le (AF.le_put (AV.le_eq rfl) (AF.le_put (AV.le_eq rfl) (AF.le_put (AV.le_eq rfl) (AF.le_put (AV.le_eq rfl) (AF.le_put (AV.le_eq rfl) (AF.le_top _))))))
          · unfold m_codec_Checksum_B14 at h
            refine k_seq ?_
            refine k_reg .free hmixP (by kernel_rfl) ?_
            refine G_q rfl (op_lss rfl rfl ?_)
            refine G_nil ?_
            refine kC_normal ?_
            refine k_seq ?_
            refine k_cond_d (p := x16_l14 < 8) rfl (fun hc => ?_) (fun hc => ?_)
            · replace h := ite_t h hc
              refine k_skip ?_
              refine kC_normal ?_
              refine k_join1_0 h (fun (x3_j67 : Int) => (AF.put (AF.put (AF.put (AF.put (AF.put AF0 (some 3) (.exact (.int .u32 x3_j67))) (some 6) (.row 1 c_uint8 a0)) (some 7) (.exact (.int .i64 (List.length a0 : Int)))) (some 8) (.exact (.int .i64 x8_l8))) (some 16) (.exact (.int .i64 x16_l14)))) (fun (x3_j67 : Int) => []) (fun k67 h => ?_) (fun x3_j67 h => ?_)
              · refine k_block ?_
                refine k_seq ?_
                refine k_reg .free hmixP (by kernel_rfl) ?_
                refine G_q rfl (op_move (av := .exact (.int .u32 x3_l14)) rfl ?_)
                refine G_q rfl (op_and rfl rfl rfl ?_)
                refine G_q rfl (op_neq rfl rfl ?_)
                refine G_nil ?_
                refine kC_normal ?_
                refine k_cond_d (p := ¬ (bAnd .u32 x3_l14 1) = 0) rfl (fun hc => ?_) (fun hc => ?_)
                · replace h := ite_t h hc
                  refine k_reg .free hmixP (by kernel_rfl) ?_
                  refine G_q rfl (op_move (av := .exact (.int .u32 x3_l14)) rfl ?_)
                  refine G_q rfl (op_shr rfl rfl (by decide) rfl ?_)
                  refine G_q rfl (op_xor rfl rfl rfl ?_)
                  refine G_q rfl (op_assign (av := .exact (.int .u32 (bXor .u32 (Int.fdiv x3_l14 (2 ^ min (Int.toNat 1) IntKind.u32.bits)) 3988292384))) rfl ?_)
                  refine G_nil ?_
                  refine kB_normal ?_
                  refine kI_normal ⟨_, h, ?_⟩
                  exact Sub.of_le (AF.le_put (AV.le_eq rfl) (AF.le_put (AV.le_eq rfl) (AF.le_put (AV.le_eq rfl) (AF.le_put (AV.le_eq rfl) (AF.le_put (AV.le_eq rfl) (AF.le_top _))))))
                · replace h := ite_f h hc
                  refine k_reg .free hmixP (by kernel_rfl) ?_
                  refine G_q rfl (op_move (av := .exact (.int .u32 x3_l14)) rfl ?_)
                  refine G_q rfl (op_shr rfl rfl (by decide) rfl ?_)
                  refine G_q rfl (op_assign (av := .exact (.int .u32 (Int.fdiv x3_l14 (2 ^ min (Int.toNat 1) IntKind.u32.bits)))) rfl ?_)
                  refine G_nil ?_
                  refine kB_normal ?_
                  refine kI_normal ⟨_, h, ?_⟩
                  exact Sub.of_le (AF.le_put (AV.le_eq rfl) (AF.le_put (AV.le_eq rfl) (AF.le_put (AV.le_eq rfl) (AF.le_put (AV.le_eq rfl) (AF.le_put (AV.le_eq rfl) (AF.le_top _))))))
              · refine k_reg .free hmixP (by kernel_rfl) ?_
                refine G_q rfl (op_add rfl rfl rfl ?_)
                refine G_q rfl (op_move (av := .exact (.int .i64 (i64 (x16_l14 + 1)))) rfl ?_)
                refine G_nil ?_
                refine kI_normal ⟨_, _, h, ?_⟩
                exact Sub.of_le (AF.le_put (AV.le_eq rfl) (AF.le_put (AV.le_eq rfl) (AF.le_put (AV.le_eq rfl) (AF.le_put (AV.le_eq rfl) (AF.le_put (AV.le_eq rfl) (AF.le_top _))))))
            · replace h := ite_f h hc
              refine k_exit ?_
              refine kC_exit ?_
              refine kI_exit ?_
              refine kB_exit ?_
              refine kB_normal ?_
              refine kI_normal ⟨_, h, ?_⟩
              exact Sub.of_le (AF.le_put (AV.le_eq rfl) (AF.le_put (AV.le_eq rfl) (AF.le_put (AV.le_eq rfl) (AF.le_put (AV.le_eq rfl) (AF.le_top _)))))
        · refine k_reg .free hmixP (by kernel_rfl) ?_
          refine G_q rfl (op_add rfl rfl rfl ?_)
          refine G_q rfl (op_move (av := .exact (.int .i64 (i64 (x8_l8 + 1)))) rfl ?_)
          refine G_nil ?_
          refine kI_normal ⟨_, _, h, ?_⟩
          exact Sub.of_le (AF.le_put (AV.le_eq rfl) (AF.le_put (AV.le_eq rfl) (AF.le_put (AV.le_eq rfl) (AF.le_put (AV.le_eq rfl) (AF.le_top _)))))
      · replace h := ite_f h hc
        refine k_exit ?_
        refine kC_exit ?_
        refine kI_exit ?_
        refine kB_exit ?_
        refine kI_normal ⟨_, h, ?_⟩
        exact Sub.of_le (AF.le_put (AV.le_eq rfl) (AF.le_top _))
  · refine k_seq ?_
    refine k_reg .free hmixP (by kernel_rfl) ?_
    refine G_q rfl (op_move (av := .exact (.int .u32 x3_j1)) rfl ?_)
    refine G_q rfl (op_com (m := 4294967295) rfl rfl ?_)
    refine G_q rfl (op_assign (av := .exact (.int .u32 (bXor .u32 4294967295 x3_j1))) rfl ?_)
    refine G_nil ?_
    refine kC_normal ?_
    refine k_ret ?_
    obtain rfl := Option.some.inj h
    refine kP_any (endN (af' := (AF.put AF0 (some 2) (.exact (.int .u32 (bXor .u32 4294967295 x3_j1))))) (σ' := []) _ rfl ?_ ⟨rfl, rfl⟩)
    exact Sub.of_le (AF.le_put (AV.le_eq rfl) (AF.le_top _))
set_option maxHeartbeats 4000000 in
theorem m_codec_Sealed_ok (a0 : List UInt8) (r : Bool) (h : m_codec_Sealed a0 = some r) : Pure Try.prog 80 [(.row 1 c_uint8 a0)] (.exact (.bool r)) := by
  unfold m_codec_Sealed at h
  refine Pure.ofFun (fun_of_awp Try.func80 rfl Try.ntmps80 (by simp) rfl (res1 rfl) fun E hE => k_end ?_)
  refine k_seq ?_
  refine k_reg .free hmixP (by kernel_rfl) ?_
  refine G_q rfl (op_assign (av := .exact (.bool false)) rfl ?_)
  refine G_nil ?_
  refine kC_normal ?_
  refine k_seq ?_
  refine k_reg .free hmixP (by kernel_rfl) ?_
  refine G_q rfl (op_move (av := .row 1 c_uint8 a0) rfl ?_)
  refine G_q rfl (op_len_row (by kernel_rfl) rfl ?_)
  refine G_q rfl (op_sub rfl rfl rfl ?_)
  refine G_q rfl (op_assign (av := .exact (.int .i64 (i64 ((List.length a0 : Int) - 4)))) rfl ?_)
  refine G_nil ?_
  refine kC_normal ?_
  refine k_seq ?_
  refine k_seq ?_
  refine k_reg .free hmixP (by kernel_rfl) ?_
  refine G_q rfl (op_move (av := .exact (.int .i64 (i64 ((List.length a0 : Int) - 4)))) rfl ?_)
  refine G_q rfl (op_lss rfl rfl ?_)
  refine G_nil ?_
  refine kC_normal ?_
  refine k_cond_d (p := (i64 ((List.length a0 : Int) - 4)) < 0) rfl (fun hc => ?_) (fun hc => ?_)
  · replace h := ite_t h hc
    refine k_seq ?_
    refine k_reg .free hmixP (by kernel_rfl) ?_
    refine G_q rfl (op_assign (av := .exact (.bool false)) rfl ?_)
    refine G_nil ?_
    refine kC_normal ?_
    refine k_ret ?_
    refine kC_ret ?_
    obtain rfl := Option.some.inj h
    refine kP_any (endN (af' := (AF.put AF0 (some 2) (.exact (.bool false)))) (σ' := []) _ rfl ?_ ⟨rfl, rfl⟩)
    exact Sub.of_le (AF.le_put (AV.le_eq rfl) (AF.le_top _))
  · replace h := ite_f h hc
    refine k_skip ?_
    refine kC_normal ?_
    refine k_seq ?_
    refine k_reg .free hmixP (by kernel_rfl) ?_
    refine G_q rfl (op_move (av := .row 1 c_uint8 a0) rfl ?_)
    refine G_q rfl (op_move (av := .exact (.int .i64 (i64 ((List.length a0 : Int) - 4)))) rfl ?_)
    obtain ⟨n1, h⟩ := need_some h
    refine G_q rfl (op_slice_rowt (by kernel_rfl) rfl bnd_none (bnd_some rfl) (Int.le_refl 0) n1.1 n1.2 ?_)
    obtain ⟨y2, hy2, h⟩ := bnd1_some h
    refine G_q rfl (op_pure (m_codec_Checksum_ok _ _ hy2) Try.func101 (by kernel_rfl) (LEs.cons (AV.le_eq rfl) LEs.nil) ?_)
    refine G_q rfl (op_assign (av := .exact (.int .u32 y2)) rfl ?_)
    refine G_nil ?_
    refine kC_normal ?_
    refine k_join1_0 h (fun (x2_j3 : Bool) => (AF.put AF0 (some 2) (.exact (.bool x2_j3)))) (fun (x2_j3 : Bool) => []) (fun k3 h => ?_) (fun x2_j3 h => ?_)
    · refine k_reg .free hmixP (by kernel_rfl) ?_
      refine G_q rfl (op_move (av := .row 1 c_uint8 a0) rfl ?_)
      refine G_q rfl (op_move (av := .exact (.int .i64 (i64 ((List.length a0 : Int) - 4)))) rfl ?_)
      obtain ⟨n8, h⟩ := need_some h
      refine G_q rfl (op_index_row (by kernel_rfl) rfl rfl n8.1 n8.2 ?_)
      refine G_q rfl (op_load1p (a := .exact (.int .u8 (UInt8.toNat (gi a0 (i64 ((List.length a0 : Int) - 4))) : Int))) (by kernel_rfl) rfl rfl ?_)
      refine G_q rfl (op_move (av := .exact (.int .u32 y2)) rfl ?_)
      refine G_q rfl (op_shr rfl rfl (by decide) rfl ?_)
      refine G_q rfl (op_convInt (k := .u8) (r := (UInt8.toNat (u8i (Int.fdiv y2 (2 ^ min (Int.toNat 24) IntKind.u32.bits))) : Int)) (by kernel_rfl) rfl (u8i_eq _) ?_)
      refine G_q rfl (op_eqlU (a := (gi a0 (i64 ((List.length a0 : Int) - 4)))) (b := (u8i (Int.fdiv y2 (2 ^ min (Int.toNat 24) IntKind.u32.bits)))) rfl rfl ?_)
      refine G_q rfl (op_move (av := .exact (.bool (decide ((gi a0 (i64 ((List.length a0 : Int) - 4))) = (u8i (Int.fdiv y2 (2 ^ min (Int.toNat 24) IntKind.u32.bits))))))) rfl ?_)
      refine G_split (p := (gi a0 (i64 ((List.length a0 : Int) - 4))) = (u8i (Int.fdiv y2 (2 ^ min (Int.toNat 24) IntKind.u32.bits)))) 22 rfl (fun hc => ?_) (fun hc => ?_)
      · replace h := ite_t h hc
        refine Gy_q rfl rfl rfl (op_move (av := .row 1 c_uint8 a0) rfl ?_)
        refine Gy_q rfl rfl rfl (op_move (av := .exact (.int .i64 (i64 ((List.length a0 : Int) - 4)))) rfl ?_)
        refine Gy_q rfl rfl rfl (op_add rfl rfl rfl ?_)
        obtain ⟨n9, h⟩ := need_some h
        refine Gy_q rfl rfl rfl (op_index_row (by kernel_rfl) rfl rfl n9.1 n9.2 ?_)
        refine Gy_q rfl rfl rfl (op_load1p (a := .exact (.int .u8 (UInt8.toNat (gi a0 (i64 ((i64 ((List.length a0 : Int) - 4)) + 1))) : Int))) (by kernel_rfl) rfl rfl ?_)
        refine Gy_q rfl rfl rfl (op_move (av := .exact (.int .u32 y2)) rfl ?_)
        refine Gy_q rfl rfl rfl (op_shr rfl rfl (by decide) rfl ?_)
        refine Gy_q rfl rfl rfl (op_convInt (k := .u8) (r := (UInt8.toNat (u8i (Int.fdiv y2 (2 ^ min (Int.toNat 16) IntKind.u32.bits))) : Int)) (by kernel_rfl) rfl (u8i_eq _) ?_)
        refine Gy_q rfl rfl rfl (op_eqlU (a := (gi a0 (i64 ((i64 ((List.length a0 : Int) - 4)) + 1)))) (b := (u8i (Int.fdiv y2 (2 ^ min (Int.toNat 16) IntKind.u32.bits)))) rfl rfl ?_)
        refine G_q rfl (op_pick_t rfl (av := .exact (.bool (decide ((gi a0 (i64 ((i64 ((List.length a0 : Int) - 4)) + 1))) = (u8i (Int.fdiv y2 (2 ^ min (Int.toNat 16) IntKind.u32.bits))))))) rfl ?_)
        refine G_q rfl (op_move (av := .exact (.bool (decide ((gi a0 (i64 ((i64 ((List.length a0 : Int) - 4)) + 1))) = (u8i (Int.fdiv y2 (2 ^ min (Int.toNat 16) IntKind.u32.bits))))))) rfl ?_)
        refine G_split (p := (gi a0 (i64 ((i64 ((List.length a0 : Int) - 4)) + 1))) = (u8i (Int.fdiv y2 (2 ^ min (Int.toNat 16) IntKind.u32.bits)))) 33 rfl (fun hc => ?_) (fun hc => ?_)
        · replace h := ite_t h hc
          refine Gy_q rfl rfl rfl (op_move (av := .row 1 c_uint8 a0) rfl ?_)
          refine Gy_q rfl rfl rfl (op_move (av := .exact (.int .i64 (i64 ((List.length a0 : Int) - 4)))) rfl ?_)
          refine Gy_q rfl rfl rfl (op_add rfl rfl rfl ?_)
          obtain ⟨n10, h⟩ := need_some h
          refine Gy_q rfl rfl rfl (op_index_row (by kernel_rfl) rfl rfl n10.1 n10.2 ?_)
          refine Gy_q rfl rfl rfl (op_load1p (a := .exact (.int .u8 (UInt8.toNat (gi a0 (i64 ((i64 ((List.length a0 : Int) - 4)) + 2))) : Int))) (by kernel_rfl) rfl rfl ?_)
          refine Gy_q rfl rfl rfl (op_move (av := .exact (.int .u32 y2)) rfl ?_)
          refine Gy_q rfl rfl rfl (op_shr rfl rfl (by decide) rfl ?_)
          refine Gy_q rfl rfl rfl (op_convInt (k := .u8) (r := (UInt8.toNat (u8i (Int.fdiv y2 (2 ^ min (Int.toNat 8) IntKind.u32.bits))) : Int)) (by kernel_rfl) rfl (u8i_eq _) ?_)
          refine Gy_q rfl rfl rfl (op_eqlU (a := (gi a0 (i64 ((i64 ((List.length a0 : Int) - 4)) + 2)))) (b := (u8i (Int.fdiv y2 (2 ^ min (Int.toNat 8) IntKind.u32.bits)))) rfl rfl ?_)
          refine G_q rfl (op_pick_t rfl (av := .exact (.bool (decide ((gi a0 (i64 ((i64 ((List.length a0 : Int) - 4)) + 2))) = (u8i (Int.fdiv y2 (2 ^ min (Int.toNat 8) IntKind.u32.bits))))))) rfl ?_)
          refine G_q rfl (op_move (av := .exact (.bool (decide ((gi a0 (i64 ((i64 ((List.length a0 : Int) - 4)) + 2))) = (u8i (Int.fdiv y2 (2 ^ min (Int.toNat 8) IntKind.u32.bits))))))) rfl ?_)
          refine G_split (p := (gi a0 (i64 ((i64 ((List.length a0 : Int) - 4)) + 2))) = (u8i (Int.fdiv y2 (2 ^ min (Int.toNat 8) IntKind.u32.bits)))) 44 rfl (fun hc => ?_) (fun hc => ?_)
          · replace h := ite_t h hc
            refine Gy_q rfl rfl rfl (op_move (av := .row 1 c_uint8 a0) rfl ?_)
            refine Gy_q rfl rfl rfl (op_move (av := .exact (.int .i64 (i64 ((List.length a0 : Int) - 4)))) rfl ?_)
            refine Gy_q rfl rfl rfl (op_add rfl rfl rfl ?_)
            obtain ⟨n11, h⟩ := need_some h
            refine Gy_q rfl rfl rfl (op_index_row (by kernel_rfl) rfl rfl n11.1 n11.2 ?_)
            refine Gy_q rfl rfl rfl (op_load1p (a := .exact (.int .u8 (UInt8.toNat (gi a0 (i64 ((i64 ((List.length a0 : Int) - 4)) + 3))) : Int))) (by kernel_rfl) rfl rfl ?_)
            refine Gy_q rfl rfl rfl (op_move (av := .exact (.int .u32 y2)) rfl ?_)
            refine Gy_q rfl rfl rfl (op_convInt (k := .u8) (r := (UInt8.toNat (u8i y2) : Int)) (by kernel_rfl) rfl (u8i_eq _) ?_)
            refine Gy_q rfl rfl rfl (op_eqlU (a := (gi a0 (i64 ((i64 ((List.length a0 : Int) - 4)) + 3)))) (b := (u8i y2)) rfl rfl ?_)
            refine G_q rfl (op_pick_t rfl (av := .exact (.bool (decide ((gi a0 (i64 ((i64 ((List.length a0 : Int) - 4)) + 3))) = (u8i y2))))) rfl ?_)
            refine G_q rfl (op_assign (av := .exact (.bool (decide ((gi a0 (i64 ((i64 ((List.length a0 : Int) - 4)) + 3))) = (u8i y2))))) rfl ?_)
            refine G_nil ?_
            refine kI_normal ⟨_, h, ?_⟩
            exact Sub.of_le (AF.le_put (AV.le_eq rfl) (AF.le_top _))
          · replace h := ite_f h hc
            refine G_n rfl rfl ?_
            refine G_n rfl rfl ?_
            refine G_n rfl rfl ?_
            refine G_n rfl rfl ?_
            refine G_n rfl rfl ?_
            refine G_n rfl rfl ?_
            refine G_n rfl rfl ?_
            refine G_n rfl rfl ?_
            refine G_q rfl (op_pick_f rfl (av := .exact (.bool false)) rfl ?_)
            refine G_q rfl (op_assign (av := .exact (.bool false)) rfl ?_)
            refine G_nil ?_
            refine kI_normal ⟨_, h, ?_⟩
            exact Sub.of_le (AF.le_put (AV.le_eq rfl) (AF.le_top _))
        · replace h := ite_f h hc
          refine G_n rfl rfl ?_
          refine G_n rfl rfl ?_
          refine G_n rfl rfl ?_
          refine G_n rfl rfl ?_
          refine G_n rfl rfl ?_
          refine G_n rfl rfl ?_
          refine G_n rfl rfl ?_
          refine G_n rfl rfl ?_
          refine G_n rfl rfl ?_
          refine G_q rfl (op_pick_f rfl (av := .exact (.bool false)) rfl ?_)
          refine G_q rfl (op_move (av := .exact (.bool false)) rfl ?_)
          refine G_n rfl rfl ?_
          refine G_n rfl rfl ?_
          refine G_n rfl rfl ?_
          refine G_n rfl rfl ?_
          refine G_n rfl rfl ?_
          refine G_n rfl rfl ?_
          refine G_n rfl rfl ?_
          refine G_n rfl rfl ?_
          refine G_q rfl (op_pick_f rfl (av := .exact (.bool false)) rfl ?_)
          refine G_q rfl (op_assign (av := .exact (.bool false)) rfl ?_)
          refine G_nil ?_
          refine kI_normal ⟨_, h, ?_⟩
          exact Sub.of_le (AF.le_put (AV.le_eq rfl) (AF.le_top _))
      · replace h := ite_f h hc
        refine G_n rfl rfl ?_
        refine G_n rfl rfl ?_
        refine G_n rfl rfl ?_
        refine G_n rfl rfl ?_
        refine G_n rfl rfl ?_
        refine G_n rfl rfl ?_
        refine G_n rfl rfl ?_
        refine G_n rfl rfl ?_
        refine G_n rfl rfl ?_
        refine G_q rfl (op_pick_f rfl (av := .exact (.bool false)) rfl ?_)
        refine G_q rfl (op_move (av := .exact (.bool false)) rfl ?_)
        refine G_n rfl rfl ?_
        refine G_n rfl rfl ?_
        refine G_n rfl rfl ?_
        refine G_n rfl rfl ?_
        refine G_n rfl rfl ?_
        refine G_n rfl rfl ?_
        refine G_n rfl rfl ?_
        refine G_n rfl rfl ?_
        refine G_n rfl rfl ?_
        refine G_q rfl (op_pick_f rfl (av := .exact (.bool false)) rfl ?_)
        refine G_q rfl (op_move (av := .exact (.bool false)) rfl ?_)
        refine G_n rfl rfl ?_
        refine G_n rfl rfl ?_
        refine G_n rfl rfl ?_
        refine G_n rfl rfl ?_
        refine G_n rfl rfl ?_
        refine G_n rfl rfl ?_
        refine G_n rfl rfl ?_
        refine G_n rfl rfl ?_
        refine G_q rfl (op_pick_f rfl (av := .exact (.bool false)) rfl ?_)
        refine G_q rfl (op_assign (av := .exact (.bool false)) rfl ?_)
        refine G_nil ?_
        refine kI_normal ⟨_, h, ?_⟩
        exact Sub.of_le (AF.le_put (AV.le_eq rfl) (AF.le_top _))
    · refine k_ret ?_
      obtain rfl := Option.some.inj h
      refine kP_any (endN (af' := (AF.put AF0 (some 2) (.exact (.bool x2_j3)))) (σ' := []) _ rfl ?_ ⟨rfl, rfl⟩)
      exact Sub.of_le (AF.le_put (AV.le_eq rfl) (AF.le_top _))
set_option maxHeartbeats 4000000 in
theorem m_frontier_isPair_ok (a0 : Int × Int) (r : Bool) (h : m_frontier_isPair a0 = some r) : Pure Try.prog 62 [(.agg (c_A2_int a0))] (.exact (.bool r)) := by
  unfold m_frontier_isPair at h
  refine Pure.ofFun (fun_of_awp Try.func62 rfl Try.ntmps62 (by simp) rfl (res1 rfl) fun E hE => k_end ?_)
  refine k_seq ?_
  refine k_reg .free hmixP (by kernel_rfl) ?_
  refine G_q rfl (op_box (c := c_A2_int a0) rfl CellsOf.agg ?_)
  refine G_q rfl (op_assign (av := .exact (.bool false)) rfl ?_)
  refine G_nil ?_
  refine kC_normal ?_
  refine k_join1_0 h (fun (x2_j1 : Bool) => (AF.put AF0 (some 2) (.exact (.bool x2_j1)))) (fun (x2_j1 : Bool) => []) (fun k1 h => ?_) (fun x2_j1 h => ?_)
  · refine k_reg .free hmixP (by kernel_rfl) ?_
    refine G_q rfl (op_indexArr_ptr (m := 2) (n := 1) (c' := (List.drop 0 (c_A2_int a0))) (by kernel_rfl) rfl rfl (by decide) (by decide) rfl ?_)
    refine G_q rfl (op_load1p (a := .exact (.int .i64 a0.1)) (by kernel_rfl) rfl rfl ?_)
    refine G_q rfl (op_geq rfl rfl ?_)
    refine G_q rfl (op_move (av := .exact (.bool (decide (0 ≤ a0.1)))) rfl ?_)
    refine G_split (p := 0 ≤ a0.1) 6 rfl (fun hc => ?_) (fun hc => ?_)
    · replace h := ite_t h hc
      refine Gy_q rfl rfl rfl (op_indexArr_ptr (m := 2) (n := 1) (c' := (List.drop 1 (c_A2_int a0))) (by kernel_rfl) rfl rfl (by decide) (by decide) rfl ?_)
      refine Gy_q rfl rfl rfl (op_load1p (a := .exact (.int .i64 a0.2)) (by kernel_rfl) rfl rfl ?_)
      refine Gy_q rfl rfl rfl (op_geq rfl rfl ?_)
      refine G_q rfl (op_pick_t rfl (av := .exact (.bool (decide (0 ≤ a0.2)))) rfl ?_)
      refine G_q rfl (op_move (av := .exact (.bool (decide (0 ≤ a0.2)))) rfl ?_)
      refine G_split (p := 0 ≤ a0.2) 11 rfl (fun hc => ?_) (fun hc => ?_)
      · replace h := ite_t h hc
        refine Gy_q rfl rfl rfl (op_indexArr_ptr (m := 2) (n := 1) (c' := (List.drop 0 (c_A2_int a0))) (by kernel_rfl) rfl rfl (by decide) (by decide) rfl ?_)
        refine Gy_q rfl rfl rfl (op_load1p (a := .exact (.int .i64 a0.1)) (by kernel_rfl) rfl rfl ?_)
        refine Gy_q rfl rfl rfl (op_leq rfl rfl ?_)
        refine G_q rfl (op_pick_t rfl (av := .exact (.bool (decide (a0.1 ≤ 2147483647)))) rfl ?_)
        refine G_q rfl (op_move (av := .exact (.bool (decide (a0.1 ≤ 2147483647)))) rfl ?_)
        refine G_split (p := a0.1 ≤ 2147483647) 16 rfl (fun hc => ?_) (fun hc => ?_)
        · replace h := ite_t h hc
          refine Gy_q rfl rfl rfl (op_indexArr_ptr (m := 2) (n := 1) (c' := (List.drop 1 (c_A2_int a0))) (by kernel_rfl) rfl rfl (by decide) (by decide) rfl ?_)
          refine Gy_q rfl rfl rfl (op_load1p (a := .exact (.int .i64 a0.2)) (by kernel_rfl) rfl rfl ?_)
          refine Gy_q rfl rfl rfl (op_leq rfl rfl ?_)
          refine G_q rfl (op_pick_t rfl (av := .exact (.bool (decide (a0.2 ≤ 2147483647)))) rfl ?_)
          refine G_q rfl (op_assign (av := .exact (.bool (decide (a0.2 ≤ 2147483647)))) rfl ?_)
          refine G_nil ?_
          refine kI_normal ⟨_, h, ?_⟩
          exact Sub.of_le (AF.le_put (AV.le_eq rfl) (AF.le_top _))
        · replace h := ite_f h hc
          refine G_n rfl rfl ?_
          refine G_n rfl rfl ?_
          refine G_n rfl rfl ?_
          refine G_q rfl (op_pick_f rfl (av := .exact (.bool false)) rfl ?_)
          refine G_q rfl (op_assign (av := .exact (.bool false)) rfl ?_)
          refine G_nil ?_
          refine kI_normal ⟨_, h, ?_⟩
          exact Sub.of_le (AF.le_put (AV.le_eq rfl) (AF.le_top _))
      · replace h := ite_f h hc
        refine G_n rfl rfl ?_
        refine G_n rfl rfl ?_
        refine G_n rfl rfl ?_
        refine G_q rfl (op_pick_f rfl (av := .exact (.bool false)) rfl ?_)
        refine G_q rfl (op_move (av := .exact (.bool false)) rfl ?_)
        refine G_n rfl rfl ?_
        refine G_n rfl rfl ?_
        refine G_n rfl rfl ?_
        refine G_q rfl (op_pick_f rfl (av := .exact (.bool false)) rfl ?_)
        refine G_q rfl (op_assign (av := .exact (.bool false)) rfl ?_)
        refine G_nil ?_
        refine kI_normal ⟨_, h, ?_⟩
        exact Sub.of_le (AF.le_put (AV.le_eq rfl) (AF.le_top _))
    · replace h := ite_f h hc
      refine G_n rfl rfl ?_
      refine G_n rfl rfl ?_
      refine G_n rfl rfl ?_
      refine G_q rfl (op_pick_f rfl (av := .exact (.bool false)) rfl ?_)
      refine G_q rfl (op_move (av := .exact (.bool false)) rfl ?_)
      refine G_n rfl rfl ?_
      refine G_n rfl rfl ?_
      refine G_n rfl rfl ?_
      refine G_q rfl (op_pick_f rfl (av := .exact (.bool false)) rfl ?_)
      refine G_q rfl (op_move (av := .exact (.bool false)) rfl ?_)
      refine G_n rfl rfl ?_
      refine G_n rfl rfl ?_
      refine G_n rfl rfl ?_
      refine G_q rfl (op_pick_f rfl (av := .exact (.bool false)) rfl ?_)
      refine G_q rfl (op_assign (av := .exact (.bool false)) rfl ?_)
      refine G_nil ?_
      refine kI_normal ⟨_, h, ?_⟩
      exact Sub.of_le (AF.le_put (AV.le_eq rfl) (AF.le_top _))
  · refine k_ret ?_
    obtain rfl := Option.some.inj h
    refine kP_any (endN (af' := (AF.put AF0 (some 2) (.exact (.bool x2_j1)))) (σ' := []) _ rfl ?_ ⟨rfl, rfl⟩)
    exact Sub.of_le (AF.le_put (AV.le_eq rfl) (AF.le_top _))
set_option maxHeartbeats 4000000 in
theorem m_cmp_isNaN_int_ok (a0 : Int) (r : Bool) (h : m_cmp_isNaN_int a0 = some r) : Pure Try.prog 115 [(.exact (.int .i64 a0))] (.exact (.bool r)) := by
  unfold m_cmp_isNaN_int at h
  refine Pure.ofFun (fun_of_awp Try.func115 rfl Try.ntmps115 (by simp) rfl (res1 rfl) fun E hE => k_end ?_)
  refine k_seq ?_
  refine k_reg .free hmixP (by kernel_rfl) ?_
  refine G_q rfl (op_assign (av := .exact (.bool false)) rfl ?_)
  refine G_nil ?_
  refine kC_normal ?_
  refine k_seq ?_
  refine k_reg .free hmixP (by kernel_rfl) ?_
  refine G_q rfl (op_move (av := .exact (.int .i64 a0)) rfl ?_)
  refine G_q rfl (op_move (av := .exact (.int .i64 a0)) rfl ?_)
  refine G_q rfl (op_neq rfl rfl ?_)
  refine G_q rfl (op_assign (av := .exact (.bool (decide (¬ a0 = a0)))) rfl ?_)
  refine G_nil ?_
  refine kC_normal ?_
  refine k_ret ?_
  obtain rfl := Option.some.inj h
  refine kP_any (endN (af' := (AF.put AF0 (some 2) (.exact (.bool (decide (¬ a0 = a0)))))) (σ' := []) _ rfl ?_ ⟨rfl, rfl⟩)
  exact Sub.of_le (AF.le_put (AV.le_eq rfl) (AF.le_top _))
set_option maxHeartbeats 4000000 in
theorem m_cmp_Compare_int_ok (a0 : Int) (a1 : Int) (r : Int) (h : m_cmp_Compare_int a0 a1 = some r) : Pure Try.prog 103 [(.exact (.int .i64 a0)), (.exact (.int .i64 a1))] (.exact (.int .i64 r)) := by
  unfold m_cmp_Compare_int at h
  refine Pure.ofFun (fun_of_awp Try.func103 rfl Try.ntmps103 (by simp) rfl (res1 rfl) fun E hE => k_end ?_)
  refine k_seq ?_
  refine k_reg .free hmixP (by kernel_rfl) ?_
  refine G_q rfl (op_assign (av := .exact (.int .i64 0)) rfl ?_)
  refine G_nil ?_
  refine kC_normal ?_
  refine k_seq ?_
  refine k_reg .free hmixP (by kernel_rfl) ?_
  refine G_q rfl (op_move (av := .exact (.int .i64 a0)) rfl ?_)
  obtain ⟨y1, hy1, h⟩ := bnd1_some h
  refine G_q rfl (op_pure (m_cmp_isNaN_int_ok _ _ hy1) Try.func115 (by kernel_rfl) (LEs.cons (AV.le_eq rfl) LEs.nil) ?_)
  refine G_q rfl (op_assign (av := .exact (.bool y1)) rfl ?_)
  refine G_nil ?_
  refine kC_normal ?_
  refine k_seq ?_
  refine k_reg .free hmixP (by kernel_rfl) ?_
  refine G_q rfl (op_move (av := .exact (.int .i64 a1)) rfl ?_)
  obtain ⟨y2, hy2, h⟩ := bnd1_some h
  refine G_q rfl (op_pure (m_cmp_isNaN_int_ok _ _ hy2) Try.func115 (by kernel_rfl) (LEs.cons (AV.le_eq rfl) LEs.nil) ?_)
  refine G_q rfl (op_assign (av := .exact (.bool y2)) rfl ?_)
  refine G_nil ?_
  refine kC_normal ?_
  refine k_seq ?_
  refine k_seq ?_
  refine k_reg .free hmixP (by kernel_rfl) ?_
  refine G_q rfl (op_move (av := .exact (.bool y1)) rfl ?_)
  refine G_nil ?_
  refine kC_normal ?_
  refine k_cond_b (c := y1) rfl (fun hc => ?_) (fun hc => ?_)
  · replace h := ite_t h hc
    refine k_seq ?_
    refine k_seq ?_
    refine k_reg .free hmixP (by kernel_rfl) ?_
    refine G_q rfl (op_move (av := .exact (.bool y2)) rfl ?_)
    refine G_nil ?_
    refine kC_normal ?_
    refine k_cond_b (c := y2) rfl (fun hc => ?_) (fun hc => ?_)
    · replace h := ite_t h hc
      refine k_seq ?_
      refine k_reg .free hmixP (by kernel_rfl) ?_
      refine G_q rfl (op_assign (av := .exact (.int .i64 0)) rfl ?_)
      refine G_nil ?_
      refine kC_normal ?_
      refine k_ret ?_
      refine kC_ret ?_
      refine kC_ret ?_
      obtain rfl := Option.some.inj h
      refine kP_any (endN (af' := (AF.put AF0 (some 4) (.exact (.int .i64 0)))) (σ' := []) _ rfl ?_ ⟨rfl, rfl⟩)
      exact Sub.of_le (AF.le_put (AV.le_eq rfl) (AF.le_top _))
    · replace h := ite_f h hc
      refine k_skip ?_
      refine kC_normal ?_
      refine k_seq ?_
      refine k_reg .free hmixP (by kernel_rfl) ?_
      refine G_q rfl (op_assign (av := .exact (.int .i64 (-1))) rfl ?_)
      refine G_nil ?_
      refine kC_normal ?_
      refine k_ret ?_
      refine kC_ret ?_
      obtain rfl := Option.some.inj h
      refine kP_any (endN (af' := (AF.put AF0 (some 4) (.exact (.int .i64 (-1))))) (σ' := []) _ rfl ?_ ⟨rfl, rfl⟩)
      exact Sub.of_le (AF.le_put (AV.le_eq rfl) (AF.le_top _))
  · replace h := ite_f h hc
    refine k_skip ?_
    refine kC_normal ?_
    refine k_seq ?_
    refine k_seq ?_
    refine k_reg .free hmixP (by kernel_rfl) ?_
    refine G_q rfl (op_move (av := .exact (.bool y2)) rfl ?_)
    refine G_nil ?_
    refine kC_normal ?_
    refine k_cond_b (c := y2) rfl (fun hc => ?_) (fun hc => ?_)
    · replace h := ite_t h hc
      refine k_seq ?_
      refine k_reg .free hmixP (by kernel_rfl) ?_
      refine G_q rfl (op_assign (av := .exact (.int .i64 1)) rfl ?_)
      refine G_nil ?_
      refine kC_normal ?_
      refine k_ret ?_
      refine kC_ret ?_
      obtain rfl := Option.some.inj h
      refine kP_any (endN (af' := (AF.put AF0 (some 4) (.exact (.int .i64 1)))) (σ' := []) _ rfl ?_ ⟨rfl, rfl⟩)
      exact Sub.of_le (AF.le_put (AV.le_eq rfl) (AF.le_top _))
    · replace h := ite_f h hc
      refine k_skip ?_
      refine kC_normal ?_
      refine k_seq ?_
      refine k_seq ?_
      refine k_reg .free hmixP (by kernel_rfl) ?_
      refine G_q rfl (op_move (av := .exact (.int .i64 a0)) rfl ?_)
      refine G_q rfl (op_move (av := .exact (.int .i64 a1)) rfl ?_)
      refine G_q rfl (op_lss rfl rfl ?_)
      refine G_nil ?_
      refine kC_normal ?_
      refine k_cond_d (p := a0 < a1) rfl (fun hc => ?_) (fun hc => ?_)
      · replace h := ite_t h hc
        refine k_seq ?_
        refine k_reg .free hmixP (by kernel_rfl) ?_
        refine G_q rfl (op_assign (av := .exact (.int .i64 (-1))) rfl ?_)
        refine G_nil ?_
        refine kC_normal ?_
        refine k_ret ?_
        refine kC_ret ?_
        obtain rfl := Option.some.inj h
        refine kP_any (endN (af' := (AF.put AF0 (some 4) (.exact (.int .i64 (-1))))) (σ' := []) _ rfl ?_ ⟨rfl, rfl⟩)
        exact Sub.of_le (AF.le_put (AV.le_eq rfl) (AF.le_top _))
      · replace h := ite_f h hc
        refine k_skip ?_
        refine kC_normal ?_
        refine k_seq ?_
        refine k_seq ?_
        refine k_reg .free hmixP (by kernel_rfl) ?_
        refine G_q rfl (op_move (av := .exact (.int .i64 a0)) rfl ?_)
        refine G_q rfl (op_move (av := .exact (.int .i64 a1)) rfl ?_)
        refine G_q rfl (op_gtr rfl rfl ?_)
        refine G_nil ?_
        refine kC_normal ?_
        refine k_cond_d (p := a1 < a0) rfl (fun hc => ?_) (fun hc => ?_)
        · replace h := ite_t h hc
          refine k_seq ?_
          refine k_reg .free hmixP (by kernel_rfl) ?_
          refine G_q rfl (op_assign (av := .exact (.int .i64 1)) rfl ?_)
          refine G_nil ?_
          refine kC_normal ?_
          refine k_ret ?_
          refine kC_ret ?_
          obtain rfl := Option.some.inj h
          refine kP_any (endN (af' := (AF.put AF0 (some 4) (.exact (.int .i64 1)))) (σ' := []) _ rfl ?_ ⟨rfl, rfl⟩)
          exact Sub.of_le (AF.le_put (AV.le_eq rfl) (AF.le_top _))
        · replace h := ite_f h hc
          refine k_skip ?_
          refine kC_normal ?_
          refine k_seq ?_
          refine k_reg .free hmixP (by kernel_rfl) ?_
          refine G_q rfl (op_assign (av := .exact (.int .i64 0)) rfl ?_)
          refine G_nil ?_
          refine kC_normal ?_
          refine k_ret ?_
          obtain rfl := Option.some.inj h
          refine kP_any (endN (af' := (AF.put AF0 (some 4) (.exact (.int .i64 0)))) (σ' := []) _ rfl ?_ ⟨rfl, rfl⟩)
          exact Sub.of_le (AF.le_put (AV.le_eq rfl) (AF.le_top _))
end Go.Proofs.Ytkplmgdmkfgjhaa
