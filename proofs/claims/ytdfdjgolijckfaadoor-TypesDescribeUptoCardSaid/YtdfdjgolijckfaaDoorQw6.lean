/- The functions compute their models, by program. -/
import Derived.Test.YtdfdjgolijckfaaDoorQw5
namespace Go.Proofs.YtdfdjgolijckfaaDoor
open Go.RowKit
attribute [local irreducible] AV.exact AV.top AV.row AV.ptr AV.agg AV.tup AV.eptr AV.fn AV.nilq AV.nilqn opA opB opM opR Quiet Loud Reads wpG awp den Sub SubU Pure Fun vecI vecT boxI CellsAll CellsOf OneC LEs LEss
set_option maxRecDepth 100000

set_option maxHeartbeats 4000000 in
theorem m_types_Equal_ok (a0 : List (Int × Int × Int)) (a1 : List (Int × Int × Int)) (r : Bool) (h : m_types_Equal a0 a1 = some r) : Pure Tryd.prog 31 [(.row 3 c_api_TypeNode a0), (.row 3 c_api_TypeNode a1)] (.exact (.bool r)) := by
  unfold m_types_Equal at h
  refine Pure.ofFun (fun_of_awp Tryd.func31 rfl Tryd.ntmps31 (by simp) rfl (res1 rfl) fun E hE => k_end ?_)
  refine k_seq ?_
  refine k_reg .free hmixP (by kernel_rfl) ?_
  refine G_q rfl (op_assign (av := .exact (.bool false)) rfl ?_)
  refine G_nil ?_
  refine kC_normal ?_
  refine k_seq ?_
  refine k_reg .free hmixP (by kernel_rfl) ?_
  refine G_q rfl (op_move (av := .row 3 c_api_TypeNode a0) rfl ?_)
  refine G_q rfl (op_move (av := .row 3 c_api_TypeNode a1) rfl ?_)
  obtain ⟨y1, hy1, h⟩ := bnd1_some h
  refine G_q rfl (op_pure (m_slices_Equal_L_api_TypeNode_api_TypeNode_ok _ _ _ hy1) Tryd.func65 (by kernel_rfl) (LEs.cons (AV.le_eq rfl) (LEs.cons (AV.le_eq rfl) LEs.nil)) ?_)
  refine G_q rfl (op_assign (av := .exact (.bool y1)) rfl ?_)
  refine G_nil ?_
  refine kC_normal ?_
  refine k_ret ?_
  obtain rfl := Option.some.inj h
  refine kP_any (endN (af' := (AF.put AF0 (some 4) (.exact (.bool y1)))) (σ' := []) _ rfl ?_ ⟨rfl, rfl⟩)
  exact Sub.of_le (AF.le_put (AV.le_eq rfl) (AF.le_top _))
set_option maxHeartbeats 4000000 in
theorem m_help_Equal_int_ok (a0 : List Int) (a1 : List Int) (r : Bool) (h : m_help_Equal_int a0 a1 = some r) : Pure Tryd.prog 32 [(.row 1 c_int a0), (.row 1 c_int a1)] (.exact (.bool r)) := by
  unfold m_help_Equal_int at h
  refine Pure.ofFun (fun_of_awp Tryd.func32 rfl Tryd.ntmps32 (by simp) rfl (res1 rfl) fun E hE => k_end ?_)
  refine k_seq ?_
  refine k_reg .free hmixP (by kernel_rfl) ?_
  refine G_q rfl (op_assign (av := .exact (.bool false)) rfl ?_)
  refine G_nil ?_
  refine kC_normal ?_
  refine k_seq ?_
  refine k_seq ?_
  refine k_reg .free hmixP (by kernel_rfl) ?_
  refine G_q rfl (op_move (av := .row 1 c_int a0) rfl ?_)
  refine G_q rfl (op_len_row (by kernel_rfl) rfl ?_)
  refine G_q rfl (op_move (av := .row 1 c_int a1) rfl ?_)
  refine G_q rfl (op_len_row (by kernel_rfl) rfl ?_)
  refine G_q rfl (op_neq rfl rfl ?_)
  refine G_nil ?_
  refine kC_normal ?_
  refine k_cond_d (p := ¬ (List.length a0 : Int) = (List.length a1 : Int)) rfl (fun hc => ?_) (fun hc => ?_)
  · replace h := ite_t h hc
    refine k_seq ?_
    refine k_reg .free hmixP (by kernel_rfl) ?_
    refine G_q rfl (op_assign (av := .exact (.bool false)) rfl ?_)
    refine G_nil ?_
    refine kC_normal ?_
    refine k_ret ?_
    refine kC_ret ?_
    obtain rfl := Option.some.inj h
    refine kP_any (endN (af' := (AF.put AF0 (some 4) (.exact (.bool false)))) (σ' := []) _ rfl ?_ ⟨rfl, rfl⟩)
    exact Sub.of_le (AF.le_put (AV.le_eq rfl) (AF.le_top _))
  · replace h := ite_f h hc
    refine k_skip ?_
    refine kC_normal ?_
    refine k_join0_0 h (AF0) ([]) (fun k1 h => ?_) (fun  h => ?_)
    · refine k_seq ?_
      refine k_reg .free hmixP (by kernel_rfl) ?_
      refine G_q rfl (op_assign (av := .exact (.int .i64 0)) rfl ?_)
      refine G_nil ?_
      refine kC_normal ?_
      refine k_block ?_
      refine k_loop1_0 (m_help_Equal_int_L2 a0 a1 k1) (m_help_Equal_int_B2 a0 a1 k1) (fun _ => rfl) (fun m _ => rfl) h (fun (x5_l2 : Int) => (AF.put (AF.put (AF.put AF0 (some 0) (.row 1 c_int a0)) (some 1) (.row 1 c_int a1)) (some 5) (.exact (.int .i64 x5_l2)))) (fun (x5_l2 : Int) => []) ?_ (fun rec2 x5_l2 h => ?_)
      · exact Sub.of_le (AF.le_put (AV.le_eq rfl) (AF.le_put (AV.le_eq rfl) (AF.le_put (AV.le_eq rfl) (AF.le_top _))))
      · unfold m_help_Equal_int_B2 at h
        refine k_seq ?_
        refine k_seq ?_
        refine k_reg .free hmixP (by kernel_rfl) ?_
        refine G_q rfl (op_move (av := .exact (.int .i64 x5_l2)) rfl ?_)
        refine G_q rfl (op_move (av := .row 1 c_int a0) rfl ?_)
        refine G_q rfl (op_len_row (by kernel_rfl) rfl ?_)
        refine G_q rfl (op_lss rfl rfl ?_)
        refine G_nil ?_
        refine kC_normal ?_
        refine k_cond_d (p := x5_l2 < (List.length a0 : Int)) rfl (fun hc => ?_) (fun hc => ?_)
        · replace h := ite_t h hc
          refine k_skip ?_
          refine kC_normal ?_
          refine k_seq ?_
          refine k_block ?_
          refine k_seq ?_
          refine k_plan [] [(0, 0), (0, 1), (0, 2), (0, 3), (0, 4), (0, 5), (0, 6), (0, 7), (0, 8)] hmixP (by kernel_rfl) ?_
          refine P_q no34_0 rfl (op_move (av := .row 1 c_int a0) rfl ?_)
          refine P_q no34_0 rfl (op_move (av := .exact (.int .i64 x5_l2)) rfl ?_)
          obtain ⟨n13, h⟩ := need_some h
          refine P_q no34_0 rfl (op_index_row (by kernel_rfl) rfl rfl n13.1 n13.2 ?_)
          refine P_q no34_0 rfl (op_load1p (a := .exact (.int .i64 (gi a0 x5_l2))) (by kernel_rfl) rfl rfl ?_)
          refine P_q no34_0 rfl (op_move (av := .row 1 c_int a1) rfl ?_)
          refine P_q no34_0 rfl (op_move (av := .exact (.int .i64 x5_l2)) rfl ?_)
          obtain ⟨n14, h⟩ := need_some h
          refine P_q no34_0 rfl (op_index_row (by kernel_rfl) rfl rfl n14.1 n14.2 ?_)
          refine P_q no34_0 rfl (op_load1p (a := .exact (.int .i64 (gi a1 x5_l2))) (by kernel_rfl) rfl rfl ?_)
          refine P_q no34_0 rfl (op_neq rfl rfl ?_)
          refine P_nil ?_
          refine kC_normal ?_
          refine k_cond_d (p := ¬ (gi a0 x5_l2) = (gi a1 x5_l2)) rfl (fun hc => ?_) (fun hc => ?_)
          · replace h := ite_t h hc
            refine k_seq ?_
            refine k_reg .free hmixP (by kernel_rfl) ?_
            refine G_q rfl (op_assign (av := .exact (.bool false)) rfl ?_)
            refine G_nil ?_
            refine kC_normal ?_
            refine k_ret ?_
            refine kB_ret ?_
            refine kC_ret ?_
            refine kI_ret ?_
            refine kB_ret ?_
            refine kI_ret ?_
            obtain rfl := Option.some.inj h
            refine kP_any (endN (af' := (AF.put AF0 (some 4) (.exact (.bool false)))) (σ' := []) _ rfl ?_ ⟨rfl, rfl⟩)
            exact Sub.of_le (AF.le_put (AV.le_eq rfl) (AF.le_top _))
          · replace h := ite_f h hc
            refine k_skip ?_
            refine kB_normal ?_
            refine kC_normal ?_
            refine k_reg .free hmixP (by kernel_rfl) ?_
            refine G_q rfl (op_move (av := .exact (.int .i64 x5_l2)) rfl ?_)
            refine G_q rfl (op_add rfl rfl rfl ?_)
            refine G_q rfl (op_assign (av := .exact (.int .i64 (i64 (x5_l2 + 1)))) rfl ?_)
            refine G_nil ?_
            refine kI_normal ⟨_, h, ?_⟩
            exact Sub.of_le (AF.le_put (AV.le_eq rfl) (AF.le_put (AV.le_eq rfl) (AF.le_put (AV.le_eq rfl) (AF.le_top _))))
        · replace h := ite_f h hc
          refine k_exit ?_
          refine kC_exit ?_
          refine kI_exit ?_
          refine kB_exit ?_
          refine kI_normal ⟨h, ?_⟩
          exact Sub.of_le (AF.le_top _)
    · refine k_seq ?_
      refine k_reg .free hmixP (by kernel_rfl) ?_
      refine G_q rfl (op_assign (av := .exact (.bool true)) rfl ?_)
      refine G_nil ?_
      refine kC_normal ?_
      refine k_ret ?_
      obtain rfl := Option.some.inj h
      refine kP_any (endN (af' := (AF.put AF0 (some 4) (.exact (.bool true)))) (σ' := []) _ rfl ?_ ⟨rfl, rfl⟩)
      exact Sub.of_le (AF.le_put (AV.le_eq rfl) (AF.le_top _))
set_option maxHeartbeats 4000000 in
theorem m_ref6_Canon_ok (a0 : List (Int × Int × Int)) (r : (List (Int × Int × Int))) (h : m_ref6_Canon a0 = some r) : Pure Tryd.prog 35 [(.row 3 c_api_TypeNode a0)] (.row 3 c_api_TypeNode r) := by
  unfold m_ref6_Canon at h
  refine Pure.ofFun (fun_of_awp Tryd.func35 rfl Tryd.ntmps35 (by simp) rfl (res1 rfl) fun E hE => k_end ?_)
  refine k_seq ?_
  refine k_reg .free hmixP (by kernel_rfl) ?_
  refine G_q rfl (op_assign (av := .exact (.slice none 0 0)) rfl ?_)
  refine G_nil ?_
  refine kC_normal ?_
  refine k_seq ?_
  refine k_seq ?_
  refine k_reg .free hmixP (by kernel_rfl) ?_
  refine G_q rfl (op_move (av := .row 3 c_api_TypeNode a0) rfl ?_)
  obtain ⟨y1, hy1, h⟩ := bnd1_some h
  refine G_q rfl (op_pure (m_ref6_ValidType_ok _ _ hy1) Tryd.func30 (by kernel_rfl) (LEs.cons (AV.le_eq rfl) LEs.nil) ?_)
  refine G_q rfl (op_not rfl ?_)
  refine G_nil ?_
  refine kC_normal ?_
  refine k_cond_b (c := !y1) rfl (fun hc => ?_) (fun hc => ?_)
  · replace h := ite_t h hc
    refine k_seq ?_
    refine k_reg .free hmixP (by kernel_rfl) ?_
    refine G_q rfl (op_assign (av := .exact (.slice none 0 0)) rfl ?_)
    refine G_nil ?_
    refine kC_normal ?_
    refine k_ret ?_
    refine kC_ret ?_
    obtain rfl := Option.some.inj h
    refine kP_any (endN (af' := (AF.put AF0 (some 2) (.row 3 c_api_TypeNode []))) (σ' := []) _ rfl ?_ ⟨rfl, rfl⟩)
    exact Sub.of_le (AF.le_put (row_nil (by decide)) (AF.le_top _))
  · replace h := ite_f h hc
    refine k_skip ?_
    refine kC_normal ?_
    refine k_seq ?_
    refine k_reg .free hmixP (by kernel_rfl) ?_
    refine G_q rfl (op_move (av := .row 3 c_api_TypeNode a0) rfl ?_)
    obtain ⟨y2, hy2, h⟩ := bnd1_some h
    refine G_q rfl (op_pure (m_ref6_Vars_ok _ _ hy2) Tryd.func20 (by kernel_rfl) (LEs.cons (AV.le_eq rfl) LEs.nil) ?_)
    refine G_q rfl (op_assign (av := .row 1 c_int y2) rfl ?_)
    refine G_nil ?_
    refine kC_normal ?_
    refine k_seq ?_
    refine k_reg .free hmixP (by kernel_rfl) ?_
    refine G_q rfl (op_move (av := .row 3 c_api_TypeNode a0) rfl ?_)
    obtain ⟨n3, h⟩ := need_some h
    refine G_l rfl (op_appN (enc := c_api_TypeNode) (by kernel_rfl) rfl rfl oc_c_api_TypeNode n3 (fun v4 => ?_))
    refine G_q rfl (op_assign (av := .exact v4) rfl ?_)
    refine G_nil ?_
    refine kC_normal ?_
    refine k_join1_0 h (fun (x4_j5 : List (Int × Int × Int)) => (AF.put AF0 (some 4) (.exact v4))) (fun (x4_j5 : List (Int × Int × Int)) => [vecT Tryd.prog 22 3 c_api_TypeNode v4 x4_j5]) (fun k5 h => ?_) (fun x4_j5 h => ?_)
    · refine k_seq ?_
      refine k_reg .free hmixP (by kernel_rfl) ?_
      refine G_q rfl (op_assign (av := .exact (.int .i64 0)) rfl ?_)
      refine G_nil ?_
      refine kC_normal ?_
      refine k_block ?_
      refine k_loop2_0 (m_ref6_Canon_L8 a0 y2 k5) (m_ref6_Canon_B8 a0 y2 k5) (fun _ _ => rfl) (fun m _ _ => rfl) h (fun (x4_l8 : List (Int × Int × Int)) (x5_l8 : Int) => (AF.put (AF.put (AF.put (AF.put AF0 (some 0) (.row 3 c_api_TypeNode a0)) (some 3) (.row 1 c_int y2)) (some 4) (.exact v4)) (some 5) (.exact (.int .i64 x5_l8)))) (fun (x4_l8 : List (Int × Int × Int)) (x5_l8 : Int) => [vecT Tryd.prog 22 3 c_api_TypeNode v4 x4_l8]) ?_ (fun rec8 x4_l8 x5_l8 h => ?_)
      · exact Sub.of_le (AF.le_put (AV.le_eq rfl) (AF.le_put (AV.le_eq rfl) (AF.le_put (AV.le_eq rfl) (AF.le_put (AV.le_eq rfl) (AF.le_top _)))))
      · unfold m_ref6_Canon_B8 at h
        refine k_seq ?_
        refine k_seq ?_
        refine k_reg .free hmixP (by kernel_rfl) ?_
        refine G_q rfl (op_move (av := .exact (.int .i64 x5_l8)) rfl ?_)
        refine G_q rfl (op_move (av := .exact v4) rfl ?_)
        refine G_r rfl (op_len_vec (by kernel_rfl) rfl ?_)
        refine G_q rfl (op_lss rfl rfl ?_)
        refine G_nil ?_
        refine kC_normal ?_
        refine k_cond_d (p := x5_l8 < (List.length x4_l8 : Int)) rfl (fun hc => ?_) (fun hc => ?_)
        · replace h := ite_t h hc
          refine k_skip ?_
          refine kC_normal ?_
          refine k_join1_0 h (fun (x4_j442 : List (Int × Int × Int)) => (AF.put (AF.put (AF.put (AF.put AF0 (some 0) (.row 3 c_api_TypeNode a0)) (some 3) (.row 1 c_int y2)) (some 4) (.exact v4)) (some 5) (.exact (.int .i64 x5_l8)))) (fun (x4_j442 : List (Int × Int × Int)) => [vecT Tryd.prog 22 3 c_api_TypeNode v4 x4_j442]) (fun k442 h => ?_) (fun x4_j442 h => ?_)
          · refine k_block ?_
            refine k_seq ?_
            refine k_reg .free hmixP (by kernel_rfl) ?_
            refine G_q rfl (op_assign (av := .exact (.int .i64 0)) rfl ?_)
            refine G_nil ?_
            refine kC_normal ?_
            refine k_block ?_
            refine k_loop2_0 (m_ref6_Canon_L14 a0 y2 x5_l8 k442) (m_ref6_Canon_B14 a0 y2 x5_l8 k442) (fun _ _ => rfl) (fun m _ _ => rfl) h (fun (x4_l14 : List (Int × Int × Int)) (x6_l14 : Int) => (AF.put (AF.put (AF.put (AF.put (AF.put AF0 (some 0) (.row 3 c_api_TypeNode a0)) (some 3) (.row 1 c_int y2)) (some 4) (.exact v4)) (some 5) (.exact (.int .i64 x5_l8))) (some 6) (.exact (.int .i64 x6_l14)))) (fun (x4_l14 : List (Int × Int × Int)) (x6_l14 : Int) => [vecT Tryd.prog 22 3 c_api_TypeNode v4 x4_l14]) ?_ (fun rec14 x4_l14 x6_l14 h => ?_)
            · exact Sub.of_le (AF.le_put (AV.le_eq rfl) (AF.le_put (AV.le_eq rfl) (AF.le_put (AV.le_eq rfl) (AF.le_put (AV.le_eq rfl) (AF.le_put (AV.le_eq rfl) (AF.le_top _))))))
            · unfold m_ref6_Canon_B14 at h
              refine k_seq ?_
              refine k_join1_0 h (fun (x31_j518 : Bool) => (AF.put (AF.put (AF.put (AF.put (AF.put (AF.put AF0 (some 0) (.row 3 c_api_TypeNode a0)) (some 3) (.row 1 c_int y2)) (some 4) (.exact v4)) (some 5) (.exact (.int .i64 x5_l8))) (some 6) (.exact (.int .i64 x6_l14))) (some 31) (.exact (.bool x31_j518)))) (fun (x31_j518 : Bool) => [vecT Tryd.prog 22 3 c_api_TypeNode v4 x4_l14]) (fun k518 h => ?_) (fun x31_j518 h => ?_)
              · refine k_reg .free hmixP (by kernel_rfl) ?_
                refine G_q rfl (op_move (av := .exact v4) rfl ?_)
                refine G_q rfl (op_move (av := .exact (.int .i64 x5_l8)) rfl ?_)
                obtain ⟨n520, h⟩ := need_some h
                refine G_r rfl (op_index_vec (by kernel_rfl) rfl rfl n520.1 n520.2 ?_)
                refine G_q rfl (op_field_eptr (o := 0) (by kernel_rfl) rfl ?_)
                refine G_r rfl (op_load_vec1 (i := x5_l8) (o := 0) (a := .exact (.int .i64 ((gi x4_l14 x5_l8).1))) (by kernel_rfl) len_c_api_TypeNode rfl n520.1 n520.2 rfl ?_)
                refine G_q rfl (op_eql rfl rfl ?_)
                refine G_q rfl (op_move (av := .exact (.bool (decide (((gi x4_l14 x5_l8).1) = 1)))) rfl ?_)
                refine G_split (p := ((gi x4_l14 x5_l8).1) = 1) 26 rfl (fun hc => ?_) (fun hc => ?_)
                · replace h := ite_t h hc
                  refine Gy_q rfl rfl rfl (op_move (av := .exact (.int .i64 x6_l14)) rfl ?_)
                  refine Gy_q rfl rfl rfl (op_move (av := .row 1 c_int y2) rfl ?_)
                  refine Gy_q rfl rfl rfl (op_len_row (by kernel_rfl) rfl ?_)
                  refine Gy_q rfl rfl rfl (op_lss rfl rfl ?_)
                  refine G_q rfl (op_pick_t rfl (av := .exact (.bool (decide (x6_l14 < (List.length y2 : Int))))) rfl ?_)
                  refine G_nil ?_
                  refine kI_normal ⟨_, h, ?_⟩
                  exact Sub.of_le (AF.le_put (AV.le_eq rfl) (AF.le_put (AV.le_eq rfl) (AF.le_put (AV.le_eq rfl) (AF.le_put (AV.le_eq rfl) (AF.le_put (AV.le_eq rfl) (AF.le_put (AV.le_eq rfl) (AF.le_top _)))))))
                · replace h := ite_f h hc
                  refine G_n rfl rfl ?_
                  refine G_n rfl rfl ?_
                  refine G_n rfl rfl ?_
                  refine G_n rfl rfl ?_
                  refine G_q rfl (op_pick_f rfl (av := .exact (.bool false)) rfl ?_)
                  refine G_nil ?_
                  refine kI_normal ⟨_, h, ?_⟩
                  exact Sub.of_le (AF.le_put (AV.le_eq rfl) (AF.le_put (AV.le_eq rfl) (AF.le_put (AV.le_eq rfl) (AF.le_put (AV.le_eq rfl) (AF.le_put (AV.le_eq rfl) (AF.le_put (AV.le_eq rfl) (AF.le_top _)))))))
              · refine k_cond_b (c := x31_j518) rfl (fun hc => ?_) (fun hc => ?_)
                · replace h := ite_t h hc
                  refine k_skip ?_
                  refine kC_normal ?_
                  refine k_join1_0 h (fun (x4_j521 : List (Int × Int × Int)) => (AF.put (AF.put (AF.put (AF.put (AF.put AF0 (some 0) (.row 3 c_api_TypeNode a0)) (some 3) (.row 1 c_int y2)) (some 4) (.exact v4)) (some 5) (.exact (.int .i64 x5_l8))) (some 6) (.exact (.int .i64 x6_l14)))) (fun (x4_j521 : List (Int × Int × Int)) => [vecT Tryd.prog 22 3 c_api_TypeNode v4 x4_j521]) (fun k521 h => ?_) (fun x4_j521 h => ?_)
                  · refine k_block ?_
                    refine k_seq ?_
                    refine k_plan [] [(0, 0), (0, 1), (0, 2), (0, 3), (0, 4), (0, 5), (0, 6), (0, 7), (0, 8), (0, 9)] hmixP (by kernel_rfl) ?_
                    refine P_q no34_0 rfl (op_move (av := .row 1 c_int y2) rfl ?_)
                    refine P_q no34_0 rfl (op_move (av := .exact (.int .i64 x6_l14)) rfl ?_)
                    obtain ⟨n525, h⟩ := need_some h
                    refine P_q no34_0 rfl (op_index_row (by kernel_rfl) rfl rfl n525.1 n525.2 ?_)
                    refine P_q no34_0 rfl (op_load1p (a := .exact (.int .i64 (gi y2 x6_l14))) (by kernel_rfl) rfl rfl ?_)
                    refine P_q no34_0 rfl (op_move (av := .row 3 c_api_TypeNode a0) rfl ?_)
                    refine P_q no34_0 rfl (op_move (av := .exact (.int .i64 x5_l8)) rfl ?_)
                    obtain ⟨n526, h⟩ := need_some h
                    refine P_q no34_0 rfl (op_index_row (by kernel_rfl) rfl rfl n526.1 n526.2 ?_)
                    refine P_q no34_0 rfl (op_fieldAddr_ptr (o := 1) (c' := (List.drop 1 (c_api_TypeNode (gi a0 x5_l8)))) (by kernel_rfl) rfl rfl ?_)
                    refine P_q no34_0 rfl (op_load1p (a := .exact (.int .i64 ((gi a0 x5_l8).2.1))) (by kernel_rfl) rfl rfl ?_)
                    refine P_q no34_0 rfl (op_eql rfl rfl ?_)
                    refine P_nil ?_
                    refine kC_normal ?_
                    refine k_cond_d (p := (gi y2 x6_l14) = ((gi a0 x5_l8).2.1)) rfl (fun hc => ?_) (fun hc => ?_)
                    · replace h := ite_t h hc
                      refine k_reg .free hmixP (by kernel_rfl) ?_
                      refine G_q rfl (op_move (av := .exact v4) rfl ?_)
                      refine G_q rfl (op_move (av := .exact (.int .i64 x5_l8)) rfl ?_)
                      refine G_q rfl (op_move (av := .exact (.int .i64 x6_l14)) rfl ?_)
                      obtain ⟨n527, h⟩ := need_some h
                      refine G_r rfl (op_index_vec (by kernel_rfl) rfl rfl n527.1 n527.2 ?_)
                      refine G_q rfl (op_field_eptr (o := 1) (by kernel_rfl) rfl ?_)
                      refine G_l rfl (op_store_vec (i := x5_l8) (o := 1) (z := ((gi x4_l14 x5_l8).1, x6_l14, (gi x4_l14 x5_l8).2.2)) (c' := [.exact (.int .i64 x6_l14)]) (by kernel_rfl) len_c_api_TypeNode rfl n527.1 n527.2 rfl CellsOf.int (LEs.cons (AV.le_eq rfl) LEs.nil) (OneC.int OneC.nil) (by kernel_rfl) (Nat.le_of_ble_eq_true rfl) rfl ?_)
                      refine G_nil ?_
                      refine kB_normal ?_
                      refine kI_normal ⟨_, h, ?_⟩
                      exact Sub.of_le (AF.le_put (AV.le_eq rfl) (AF.le_put (AV.le_eq rfl) (AF.le_put (AV.le_eq rfl) (AF.le_put (AV.le_eq rfl) (AF.le_put (AV.le_eq rfl) (AF.le_top _))))))
                    · replace h := ite_f h hc
                      refine k_skip ?_
                      refine kB_normal ?_
                      refine kI_normal ⟨_, h, ?_⟩
                      exact Sub.of_le (AF.le_put (AV.le_eq rfl) (AF.le_put (AV.le_eq rfl) (AF.le_put (AV.le_eq rfl) (AF.le_put (AV.le_eq rfl) (AF.le_put (AV.le_eq rfl) (AF.le_top _))))))
                  · refine k_reg .free hmixP (by kernel_rfl) ?_
                    refine G_q rfl (op_move (av := .exact (.int .i64 x6_l14)) rfl ?_)
                    refine G_q rfl (op_add rfl rfl rfl ?_)
                    refine G_q rfl (op_assign (av := .exact (.int .i64 (i64 (x6_l14 + 1)))) rfl ?_)
                    refine G_nil ?_
                    refine kI_normal ⟨_, _, h, ?_⟩
                    exact Sub.of_le (AF.le_put (AV.le_eq rfl) (AF.le_put (AV.le_eq rfl) (AF.le_put (AV.le_eq rfl) (AF.le_put (AV.le_eq rfl) (AF.le_put (AV.le_eq rfl) (AF.le_top _))))))
                · replace h := ite_f h hc
                  refine k_exit ?_
                  refine kC_exit ?_
                  refine kI_exit ?_
                  refine kB_exit ?_
                  refine kB_normal ?_
                  refine kI_normal ⟨_, h, ?_⟩
                  exact Sub.of_le (AF.le_put (AV.le_eq rfl) (AF.le_put (AV.le_eq rfl) (AF.le_put (AV.le_eq rfl) (AF.le_put (AV.le_eq rfl) (AF.le_top _)))))
          · refine k_reg .free hmixP (by kernel_rfl) ?_
            refine G_q rfl (op_move (av := .exact (.int .i64 x5_l8)) rfl ?_)
            refine G_q rfl (op_add rfl rfl rfl ?_)
            refine G_q rfl (op_assign (av := .exact (.int .i64 (i64 (x5_l8 + 1)))) rfl ?_)
            refine G_nil ?_
            refine kI_normal ⟨_, _, h, ?_⟩
            exact Sub.of_le (AF.le_put (AV.le_eq rfl) (AF.le_put (AV.le_eq rfl) (AF.le_put (AV.le_eq rfl) (AF.le_put (AV.le_eq rfl) (AF.le_top _)))))
        · replace h := ite_f h hc
          refine k_exit ?_
          refine kC_exit ?_
          refine kI_exit ?_
          refine kB_exit ?_
          refine kI_normal ⟨_, h, ?_⟩
          exact Sub.of_le (AF.le_put (AV.le_eq rfl) (AF.le_top _))
    · refine k_seq ?_
      refine k_reg .free hmixP (by kernel_rfl) ?_
      refine G_q rfl (op_move (av := .exact v4) rfl ?_)
      refine G_q rfl (op_assign (av := .exact v4) rfl ?_)
      refine G_nil ?_
      refine kC_normal ?_
      refine k_ret ?_
      obtain rfl := Option.some.inj h
      refine kP_any (endN (af' := (AF.put AF0 (some 2) (.row 3 c_api_TypeNode x4_j5))) (σ' := []) _ rfl ?_ ⟨rfl, rfl⟩)
      refine Sub.trans (SubU.to (SubU.freezeT (s := 2) rfl len_c_api_TypeNode)) ?_
      exact Sub.of_le (AF.le_put (AV.le_eq rfl) (AF.le_top _))
set_option maxHeartbeats 4000000 in
theorem m_ref6_digits_ok (a0 : Int) (r : (List UInt8)) (h : m_ref6_digits a0 = some r) : Pure Tryd.prog 88 [(.exact (.int .i64 a0))] (.exact (.string (bs r))) := by
  unfold m_ref6_digits at h
  refine Pure.ofFun (fun_of_awp Tryd.func88 rfl Tryd.ntmps88 (by simp) rfl (res1 rfl) fun E hE => k_end ?_)
  refine k_seq ?_
  refine k_reg .free hmixP (by kernel_rfl) ?_
  refine G_q rfl (op_assign (av := .exact (.string (bs ([] : List UInt8)))) rfl ?_)
  refine G_nil ?_
  refine kC_normal ?_
  refine k_seq ?_
  refine k_reg .free hmixP (by kernel_rfl) ?_
  refine G_q rfl (op_move (av := .exact (.int .i64 a0)) rfl ?_)
  refine G_q rfl (op_rem rfl rfl (by decide) rfl ?_)
  refine G_q rfl (op_move (av := .exact (.int .i64 a0)) rfl ?_)
  refine G_q rfl (op_rem rfl rfl (by decide) rfl ?_)
  refine G_q rfl (op_add rfl rfl rfl ?_)
  obtain ⟨n1, h⟩ := need_some h
  refine G_q rfl (op_slice_str (by kernel_rfl) rfl (bnd_some rfl) (bnd_some rfl) n1.1 n1.2.1 n1.2.2 ?_)
  refine G_q rfl (op_assign (av := .exact (.string (bs (List.take (Int.toNat (i64 ((Int.tmod a0 10) + 1)) - Int.toNat (Int.tmod a0 10)) (List.drop (Int.toNat (Int.tmod a0 10)) [48, 49, 50, 51, 52, 53, 54, 55, 56, 57]))))) rfl ?_)
  refine G_nil ?_
  refine kC_normal ?_
  refine k_join1_0 h (fun (x3_j2 : List UInt8) => (AF.put AF0 (some 3) (.exact (.string (bs x3_j2))))) (fun (x3_j2 : List UInt8) => []) (fun k2 h => ?_) (fun x3_j2 h => ?_)
  · refine k_seq ?_
    refine k_reg .free hmixP (by kernel_rfl) ?_
    refine G_q rfl (op_move (av := .exact (.int .i64 a0)) rfl ?_)
    refine G_q rfl (op_quo rfl rfl (by decide) rfl ?_)
    refine G_q rfl (op_assign (av := .exact (.int .i64 (i64 (Int.tdiv a0 10)))) rfl ?_)
    refine G_nil ?_
    refine kC_normal ?_
    refine k_block ?_
    refine k_loop2_0 (m_ref6_digits_L2 k2) (m_ref6_digits_B2 k2) (fun _ _ => rfl) (fun m _ _ => rfl) h (fun (x0_l2 : Int) (x3_l2 : List UInt8) => (AF.put (AF.put AF0 (some 0) (.exact (.int .i64 x0_l2))) (some 3) (.exact (.string (bs x3_l2))))) (fun (x0_l2 : Int) (x3_l2 : List UInt8) => []) ?_ (fun rec2 x0_l2 x3_l2 h => ?_)
    · exact Sub.of_le (AF.le_put (AV.le_eq rfl) (AF.le_put (AV.le_eq rfl) (AF.le_top _)))
    · unfold m_ref6_digits_B2 at h
      refine k_seq ?_
      refine k_seq ?_
      refine k_reg .free hmixP (by kernel_rfl) ?_
      refine G_q rfl (op_move (av := .exact (.int .i64 x0_l2)) rfl ?_)
      refine G_q rfl (op_gtr rfl rfl ?_)
      refine G_nil ?_
      refine kC_normal ?_
      refine k_cond_d (p := 0 < x0_l2) rfl (fun hc => ?_) (fun hc => ?_)
      · replace h := ite_t h hc
        refine k_skip ?_
        refine kC_normal ?_
        refine k_seq ?_
        refine k_block ?_
        refine k_reg .free hmixP (by kernel_rfl) ?_
        refine G_q rfl (op_move (av := .exact (.int .i64 x0_l2)) rfl ?_)
        refine G_q rfl (op_rem rfl rfl (by decide) rfl ?_)
        refine G_q rfl (op_move (av := .exact (.int .i64 x0_l2)) rfl ?_)
        refine G_q rfl (op_rem rfl rfl (by decide) rfl ?_)
        refine G_q rfl (op_add rfl rfl rfl ?_)
        obtain ⟨n14, h⟩ := need_some h
        refine G_q rfl (op_slice_str (by kernel_rfl) rfl (bnd_some rfl) (bnd_some rfl) n14.1 n14.2.1 n14.2.2 ?_)
        refine G_q rfl (op_move (av := .exact (.string (bs x3_l2))) rfl ?_)
        obtain ⟨n15, h⟩ := need_some h
        refine G_q rfl (op_addS n15 rfl rfl ?_)
        refine G_q rfl (op_assign (av := .exact (.string (bs ((List.take (Int.toNat (i64 ((Int.tmod x0_l2 10) + 1)) - Int.toNat (Int.tmod x0_l2 10)) (List.drop (Int.toNat (Int.tmod x0_l2 10)) [48, 49, 50, 51, 52, 53, 54, 55, 56, 57])) ++ x3_l2)))) rfl ?_)
        refine G_nil ?_
        refine kB_normal ?_
        refine kC_normal ?_
        refine k_reg .free hmixP (by kernel_rfl) ?_
        refine G_q rfl (op_move (av := .exact (.int .i64 x0_l2)) rfl ?_)
        refine G_q rfl (op_quo rfl rfl (by decide) rfl ?_)
        refine G_q rfl (op_assign (av := .exact (.int .i64 (i64 (Int.tdiv x0_l2 10)))) rfl ?_)
        refine G_nil ?_
        refine kI_normal ⟨_, _, h, ?_⟩
        exact Sub.of_le (AF.le_put (AV.le_eq rfl) (AF.le_put (AV.le_eq rfl) (AF.le_top _)))
      · replace h := ite_f h hc
        refine k_exit ?_
        refine kC_exit ?_
        refine kI_exit ?_
        refine kB_exit ?_
        refine kI_normal ⟨_, h, ?_⟩
        exact Sub.of_le (AF.le_put (AV.le_eq rfl) (AF.le_top _))
  · refine k_seq ?_
    refine k_reg .free hmixP (by kernel_rfl) ?_
    refine G_q rfl (op_move (av := .exact (.string (bs x3_j2))) rfl ?_)
    refine G_q rfl (op_assign (av := .exact (.string (bs x3_j2))) rfl ?_)
    refine G_nil ?_
    refine kC_normal ?_
    refine k_ret ?_
    obtain rfl := Option.some.inj h
    refine kP_any (endN (af' := (AF.put AF0 (some 2) (.exact (.string (bs x3_j2))))) (σ' := []) _ rfl ?_ ⟨rfl, rfl⟩)
    exact Sub.of_le (AF.le_put (AV.le_eq rfl) (AF.le_top _))
set_option maxHeartbeats 4000000 in
theorem m_ref6_comma_ok (a0 : List (List UInt8)) (r : (List UInt8)) (h : m_ref6_comma a0 = some r) : Pure Tryd.prog 89 [(.row 1 c_string a0)] (.exact (.string (bs r))) := by
  unfold m_ref6_comma at h
  refine Pure.ofFun (fun_of_awp Tryd.func89 rfl Tryd.ntmps89 (by simp) rfl (res1 rfl) fun E hE => k_end ?_)
  refine k_seq ?_
  refine k_reg .free hmixP (by kernel_rfl) ?_
  refine G_q rfl (op_assign (av := .exact (.string (bs ([] : List UInt8)))) rfl ?_)
  refine G_nil ?_
  refine kC_normal ?_
  refine k_seq ?_
  refine k_reg .free hmixP (by kernel_rfl) ?_
  refine G_q rfl (op_assign (av := .exact (.string (bs ([] : List UInt8)))) rfl ?_)
  refine G_nil ?_
  refine kC_normal ?_
  refine k_join1_0 h (fun (x3_j1 : List UInt8) => (AF.put AF0 (some 3) (.exact (.string (bs x3_j1))))) (fun (x3_j1 : List UInt8) => []) (fun k1 h => ?_) (fun x3_j1 h => ?_)
  · refine k_seq ?_
    refine k_reg .free hmixP (by kernel_rfl) ?_
    refine G_q rfl (op_assign (av := .exact (.int .i64 0)) rfl ?_)
    refine G_nil ?_
    refine kC_normal ?_
    refine k_block ?_
    refine k_loop2_0 (m_ref6_comma_L2 a0 k1) (m_ref6_comma_B2 a0 k1) (fun _ _ => rfl) (fun m _ _ => rfl) h (fun (x3_l2 : List UInt8) (x4_l2 : Int) => (AF.put (AF.put (AF.put AF0 (some 0) (.row 1 c_string a0)) (some 3) (.exact (.string (bs x3_l2)))) (some 4) (.exact (.int .i64 x4_l2)))) (fun (x3_l2 : List UInt8) (x4_l2 : Int) => []) ?_ (fun rec2 x3_l2 x4_l2 h => ?_)
    · exact Sub.of_le (AF.le_put (AV.le_eq rfl) (AF.le_put (AV.le_eq rfl) (AF.le_put (AV.le_eq rfl) (AF.le_top _))))
    · unfold m_ref6_comma_B2 at h
      refine k_seq ?_
      refine k_seq ?_
      refine k_reg .free hmixP (by kernel_rfl) ?_
      refine G_q rfl (op_move (av := .exact (.int .i64 x4_l2)) rfl ?_)
      refine G_q rfl (op_move (av := .row 1 c_string a0) rfl ?_)
      refine G_q rfl (op_len_row (by kernel_rfl) rfl ?_)
      refine G_q rfl (op_lss rfl rfl ?_)
      refine G_nil ?_
      refine kC_normal ?_
      refine k_cond_d (p := x4_l2 < (List.length a0 : Int)) rfl (fun hc => ?_) (fun hc => ?_)
      · replace h := ite_t h hc
        refine k_skip ?_
        refine kC_normal ?_
        refine k_seq ?_
        refine k_block ?_
        refine k_join1_0 h (fun (x3_j64 : List UInt8) => (AF.put (AF.put (AF.put AF0 (some 0) (.row 1 c_string a0)) (some 3) (.exact (.string (bs x3_j64)))) (some 4) (.exact (.int .i64 x4_l2)))) (fun (x3_j64 : List UInt8) => []) (fun k64 h => ?_) (fun x3_j64 h => ?_)
        · refine k_seq ?_
          refine k_reg .free hmixP (by kernel_rfl) ?_
          refine G_q rfl (op_move (av := .exact (.int .i64 x4_l2)) rfl ?_)
          refine G_q rfl (op_gtr rfl rfl ?_)
          refine G_nil ?_
          refine kC_normal ?_
          refine k_cond_d (p := 0 < x4_l2) rfl (fun hc => ?_) (fun hc => ?_)
          · replace h := ite_t h hc
            refine k_reg .free hmixP (by kernel_rfl) ?_
            refine G_q rfl (op_move (av := .exact (.string (bs x3_l2))) rfl ?_)
            obtain ⟨n66, h⟩ := need_some h
            refine G_q rfl (op_addS n66 rfl rfl ?_)
            refine G_q rfl (op_assign (av := .exact (.string (bs (x3_l2 ++ [44, 32])))) rfl ?_)
            refine G_nil ?_
            refine kI_normal ⟨_, h, ?_⟩
            exact Sub.of_le (AF.le_put (AV.le_eq rfl) (AF.le_put (AV.le_eq rfl) (AF.le_put (AV.le_eq rfl) (AF.le_top _))))
          · replace h := ite_f h hc
            refine k_skip ?_
            refine kI_normal ⟨_, h, ?_⟩
            exact Sub.of_le (AF.le_put (AV.le_eq rfl) (AF.le_put (AV.le_eq rfl) (AF.le_put (AV.le_eq rfl) (AF.le_top _))))
        · refine k_reg .free hmixP (by kernel_rfl) ?_
          refine G_q rfl (op_move (av := .exact (.string (bs x3_j64))) rfl ?_)
          refine G_q rfl (op_move (av := .row 1 c_string a0) rfl ?_)
          refine G_q rfl (op_move (av := .exact (.int .i64 x4_l2)) rfl ?_)
          obtain ⟨n67, h⟩ := need_some h
          refine G_q rfl (op_index_row (by kernel_rfl) rfl rfl n67.1 n67.2 ?_)
          refine G_q rfl (op_load1p (a := .exact (.string (bs (gi a0 x4_l2)))) (by kernel_rfl) rfl rfl ?_)
          obtain ⟨n68, h⟩ := need_some h
          refine G_q rfl (op_addS n68 rfl rfl ?_)
          refine G_q rfl (op_assign (av := .exact (.string (bs (x3_j64 ++ (gi a0 x4_l2))))) rfl ?_)
          refine G_nil ?_
          refine kB_normal ?_
          refine kC_normal ?_
          refine k_reg .free hmixP (by kernel_rfl) ?_
          refine G_q rfl (op_move (av := .exact (.int .i64 x4_l2)) rfl ?_)
          refine G_q rfl (op_add rfl rfl rfl ?_)
          refine G_q rfl (op_assign (av := .exact (.int .i64 (i64 (x4_l2 + 1)))) rfl ?_)
          refine G_nil ?_
          refine kI_normal ⟨_, _, h, ?_⟩
          exact Sub.of_le (AF.le_put (AV.le_eq rfl) (AF.le_put (AV.le_eq rfl) (AF.le_put (AV.le_eq rfl) (AF.le_top _))))
      · replace h := ite_f h hc
        refine k_exit ?_
        refine kC_exit ?_
        refine kI_exit ?_
        refine kB_exit ?_
        refine kI_normal ⟨_, h, ?_⟩
        exact Sub.of_le (AF.le_put (AV.le_eq rfl) (AF.le_top _))
  · refine k_seq ?_
    refine k_reg .free hmixP (by kernel_rfl) ?_
    refine G_q rfl (op_move (av := .exact (.string (bs x3_j1))) rfl ?_)
    refine G_q rfl (op_assign (av := .exact (.string (bs x3_j1))) rfl ?_)
    refine G_nil ?_
    refine kC_normal ?_
    refine k_ret ?_
    obtain rfl := Option.some.inj h
    refine kP_any (endN (af' := (AF.put AF0 (some 2) (.exact (.string (bs x3_j1))))) (σ' := []) _ rfl ?_ ⟨rfl, rfl⟩)
    exact Sub.of_le (AF.le_put (AV.le_eq rfl) (AF.le_top _))
set_option maxHeartbeats 4000000 in
theorem m_ref6_text_F_ok (self_ref6_text : (List (Int × Int × Int)) → (List (List UInt8)) → Option (List UInt8)) (hself_ref6_text : ∀ (a0 : List (Int × Int × Int)) (a1 : List (List UInt8)) (r : (List UInt8)), self_ref6_text a0 a1 = some r → Pure Tryd.prog 69 [(.row 3 c_api_TypeNode a0), (.row 1 c_string a1)] (.exact (.string (bs r)))) (a0 : List (Int × Int × Int)) (a1 : List (List UInt8)) (r : (List UInt8)) (h : m_ref6_text_F self_ref6_text a0 a1 = some r) : Pure Tryd.prog 69 [(.row 3 c_api_TypeNode a0), (.row 1 c_string a1)] (.exact (.string (bs r))) := by
  unfold m_ref6_text_F at h
  refine Pure.ofFun (fun_of_awp Tryd.func69 rfl Tryd.ntmps69 (by simp) rfl (res1 rfl) fun E hE => k_end ?_)
  refine k_seq ?_
  refine k_reg .free hmixP (by kernel_rfl) ?_
  refine G_q rfl (op_assign (av := .exact (.string (bs ([] : List UInt8)))) rfl ?_)
  refine G_nil ?_
  refine kC_normal ?_
  refine k_seq ?_
  refine k_reg .free hmixP (by kernel_rfl) ?_
  refine G_q rfl (op_move (av := .row 3 c_api_TypeNode a0) rfl ?_)
  obtain ⟨y1, hy1, h⟩ := bnd1_some h
  refine G_q rfl (op_pure (m_ref6_parts_ok _ _ hy1) Tryd.func87 (by kernel_rfl) (LEs.cons (AV.le_eq rfl) LEs.nil) ?_)
  refine G_q rfl (op_assign (av := .row 1 c_L_api_TypeNode y1) rfl ?_)
  refine G_nil ?_
  refine kC_normal ?_
  refine k_seq ?_
  refine k_reg .free hmixP (by kernel_rfl) ?_
  refine G_q rfl (op_assign (av := .exact (.slice none 0 0)) rfl ?_)
  refine G_nil ?_
  refine kC_normal ?_
  refine k_join1_1 h (fun (x6_j2 : List (List UInt8)) (v6_j2 : Value) => (AF.put (AF.put (AF.put AF0 (some 0) (.row 3 c_api_TypeNode a0)) (some 1) (.row 1 c_string a1)) (some 6) (.exact v6_j2))) (fun (x6_j2 : List (List UInt8)) (v6_j2 : Value) => [vecT Tryd.prog 54 1 c_string v6_j2 x6_j2]) (fun k2 h => ?_) (fun x6_j2 v6_j2 h => ?_)
  · refine k_seq ?_
    refine k_reg .free hmixP (by kernel_rfl) ?_
    refine G_q rfl (op_assign (av := .exact (.int .i64 0)) rfl ?_)
    refine G_nil ?_
    refine kC_normal ?_
    refine k_block ?_
    refine k_loop2_1 (m_ref6_text_L2 self_ref6_text a1 y1 k2) (m_ref6_text_B2 self_ref6_text a1 y1 k2) (fun _ _ => rfl) (fun m _ _ => rfl) h (fun (x6_l2 : List (List UInt8)) (x7_l2 : Int) (v6_l2 : Value) => (AF.put (AF.put (AF.put (AF.put (AF.put AF0 (some 0) (.row 3 c_api_TypeNode a0)) (some 1) (.row 1 c_string a1)) (some 5) (.row 1 c_L_api_TypeNode y1)) (some 6) (.exact v6_l2)) (some 7) (.exact (.int .i64 x7_l2)))) (fun (x6_l2 : List (List UInt8)) (x7_l2 : Int) (v6_l2 : Value) => [vecT Tryd.prog 54 1 c_string v6_l2 x6_l2]) (.slice none 0 0) ?_ (fun rec2 x6_l2 x7_l2 v6_l2 h => ?_)
    · refine Sub.trans (SubU.to (SubU.nilT (P := Tryd.prog) (t := 54) (n := 1) (enc := c_string))) ?_
      exact Sub.of_le (AF.le_put (AV.le_eq rfl) (AF.le_put (AV.le_eq rfl) (AF.le_put (AV.le_eq rfl) (AF.le_put (AV.le_eq rfl) (AF.le_put (AV.le_eq rfl) (AF.le_top _))))))
    · unfold m_ref6_text_B2 at h
      refine k_seq ?_
      refine k_seq ?_
      refine k_reg .free hmixP (by kernel_rfl) ?_
      refine G_q rfl (op_move (av := .exact (.int .i64 x7_l2)) rfl ?_)
      refine G_q rfl (op_move (av := .row 1 c_L_api_TypeNode y1) rfl ?_)
      refine G_q rfl (op_len_row (by kernel_rfl) rfl ?_)
      refine G_q rfl (op_lss rfl rfl ?_)
      refine G_nil ?_
      refine kC_normal ?_
      refine k_cond_d (p := x7_l2 < (List.length y1 : Int)) rfl (fun hc => ?_) (fun hc => ?_)
      · replace h := ite_t h hc
        refine k_skip ?_
        refine kC_normal ?_
        refine k_seq ?_
        refine k_block ?_
        refine k_reg .free hmixP (by kernel_rfl) ?_
        refine G_q rfl (op_move (av := .exact v6_l2) rfl ?_)
        refine G_q rfl (op_move (av := .row 1 c_L_api_TypeNode y1) rfl ?_)
        refine G_q rfl (op_move (av := .exact (.int .i64 x7_l2)) rfl ?_)
        obtain ⟨n24, h⟩ := need_some h
        refine G_q rfl (op_index_row (by kernel_rfl) rfl rfl n24.1 n24.2 ?_)
        refine G_q rfl (op_load1p (a := .row 3 c_api_TypeNode (gi y1 x7_l2)) (by kernel_rfl) rfl rfl ?_)
        refine G_q rfl (op_move (av := .row 1 c_string a1) rfl ?_)
        obtain ⟨y25, hy25, h⟩ := bnd1_some h
        refine G_q rfl (op_pure (hself_ref6_text _ _ _ hy25) Tryd.func69 (by kernel_rfl) (LEs.cons (AV.le_eq rfl) (LEs.cons (AV.le_eq rfl) LEs.nil)) ?_)
        refine G_q rfl (op_litT (n := 1) (enc := c_string) [y25] (CellsAll.cons rfl CellsOf.str CellsAll.nil) rfl (by kernel_rfl) (LEss.cons (LEs.cons (AV.le_eq rfl) LEs.nil) LEss.nil) ?_)
        obtain ⟨n26, h⟩ := need_some h
        refine G_l rfl (op_appT (by kernel_rfl) rfl rfl oc_c_string n26 (fun v27 => ?_))
        refine G_q rfl (op_assign (av := .exact v27) rfl ?_)
        refine G_nil ?_
        refine kB_normal ?_
        refine kC_normal ?_
        refine k_reg .free hmixP (by kernel_rfl) ?_
        refine G_q rfl (op_move (av := .exact (.int .i64 x7_l2)) rfl ?_)
        refine G_q rfl (op_add rfl rfl rfl ?_)
        refine G_q rfl (op_assign (av := .exact (.int .i64 (i64 (x7_l2 + 1)))) rfl ?_)
        refine G_nil ?_
        refine kI_normal ⟨_, _, v27, h, ?_⟩
        exact Sub.of_le (AF.le_put (AV.le_eq rfl) (AF.le_put (AV.le_eq rfl) (AF.le_put (AV.le_eq rfl) (AF.le_put (AV.le_eq rfl) (AF.le_put (AV.le_eq rfl) (AF.le_top _))))))
      · replace h := ite_f h hc
        refine k_exit ?_
        refine kC_exit ?_
        refine kI_exit ?_
        refine kB_exit ?_
        refine kI_normal ⟨_, v6_l2, h, ?_⟩
        exact Sub.of_le (AF.le_put (AV.le_eq rfl) (AF.le_put (AV.le_eq rfl) (AF.le_put (AV.le_eq rfl) (AF.le_top _))))
  · refine k_seq ?_
    refine k_seq ?_
    refine k_reg .free hmixP (by kernel_rfl) ?_
    refine G_q rfl (op_move (av := .row 3 c_api_TypeNode a0) rfl ?_)
    obtain ⟨n28, h⟩ := need_some h
    refine G_q rfl (op_index_row (by kernel_rfl) rfl rfl n28.1 n28.2 ?_)
    refine G_q rfl (op_fieldAddr_ptr (o := 0) (c' := (List.drop 0 (c_api_TypeNode (gi a0 0)))) (by kernel_rfl) rfl rfl ?_)
    refine G_q rfl (op_load1p (a := .exact (.int .i64 ((gi a0 0).1))) (by kernel_rfl) rfl rfl ?_)
    refine G_nil ?_
    refine kC_normal ?_
    refine k_block ?_
    refine k_seq ?_
    refine k_reg .free hmixP (by kernel_rfl) ?_
    refine G_q rfl (op_eql rfl rfl ?_)
    refine G_q rfl (op_assign (av := .exact (.bool (decide (((gi a0 0).1) = 1)))) rfl ?_)
    refine G_nil ?_
    refine kC_normal ?_
    refine k_cond_d (p := ((gi a0 0).1) = 1) rfl (fun hc => ?_) (fun hc => ?_)
    · replace h := ite_t h hc
      refine k_seq ?_
      refine k_reg .free hmixP (by kernel_rfl) ?_
      refine G_q rfl (op_move (av := .row 3 c_api_TypeNode a0) rfl ?_)
      obtain ⟨n29, h⟩ := need_some h
      refine G_q rfl (op_index_row (by kernel_rfl) rfl rfl n29.1 n29.2 ?_)
      refine G_q rfl (op_fieldAddr_ptr (o := 1) (c' := (List.drop 1 (c_api_TypeNode (gi a0 0)))) (by kernel_rfl) rfl rfl ?_)
      refine G_q rfl (op_load1p (a := .exact (.int .i64 ((gi a0 0).2.1))) (by kernel_rfl) rfl rfl ?_)
      obtain ⟨y30, hy30, h⟩ := bnd1_some h
      refine G_q rfl (op_pure (m_ref6_digits_ok _ _ hy30) Tryd.func88 (by kernel_rfl) (LEs.cons (AV.le_eq rfl) LEs.nil) ?_)
      obtain ⟨n31, h⟩ := need_some h
      refine G_q rfl (op_addS n31 rfl rfl ?_)
      refine G_q rfl (op_assign (av := .exact (.string (bs ([116] ++ y30)))) rfl ?_)
      refine G_nil ?_
      refine kC_normal ?_
      refine k_ret ?_
      refine kB_ret ?_
      refine kC_ret ?_
      obtain rfl := Option.some.inj h
      refine kP_any (endN (af' := (AF.put AF0 (some 4) (.exact (.string (bs ([116] ++ y30)))))) (σ' := []) _ rfl ?_ ⟨rfl, rfl⟩)
      refine Sub.trans (SubU.to SubU.drop) ?_
      exact Sub.of_le (AF.le_put (AV.le_eq rfl) (AF.le_top _))
    · replace h := ite_f h hc
      refine k_seq ?_
      refine k_reg .free hmixP (by kernel_rfl) ?_
      refine G_q rfl (op_eql rfl rfl ?_)
      refine G_q rfl (op_assign (av := .exact (.bool (decide (((gi a0 0).1) = 2)))) rfl ?_)
      refine G_nil ?_
      refine kC_normal ?_
      refine k_cond_d (p := ((gi a0 0).1) = 2) rfl (fun hc => ?_) (fun hc => ?_)
      · replace h := ite_t h hc
        refine k_seq ?_
        refine k_reg .free hmixP (by kernel_rfl) ?_
        refine G_q rfl (op_assign (av := .exact (.string (bs [73, 110, 116]))) rfl ?_)
        refine G_nil ?_
        refine kC_normal ?_
        refine k_ret ?_
        refine kB_ret ?_
        refine kC_ret ?_
        obtain rfl := Option.some.inj h
        refine kP_any (endN (af' := (AF.put AF0 (some 4) (.exact (.string (bs [73, 110, 116]))))) (σ' := []) _ rfl ?_ ⟨rfl, rfl⟩)
        refine Sub.trans (SubU.to SubU.drop) ?_
        exact Sub.of_le (AF.le_put (AV.le_eq rfl) (AF.le_top _))
      · replace h := ite_f h hc
        refine k_seq ?_
        refine k_reg .free hmixP (by kernel_rfl) ?_
        refine G_q rfl (op_eql rfl rfl ?_)
        refine G_q rfl (op_assign (av := .exact (.bool (decide (((gi a0 0).1) = 3)))) rfl ?_)
        refine G_nil ?_
        refine kC_normal ?_
        refine k_cond_d (p := ((gi a0 0).1) = 3) rfl (fun hc => ?_) (fun hc => ?_)
        · replace h := ite_t h hc
          refine k_seq ?_
          refine k_reg .free hmixP (by kernel_rfl) ?_
          refine G_q rfl (op_assign (av := .exact (.string (bs [66, 111, 111, 108]))) rfl ?_)
          refine G_nil ?_
          refine kC_normal ?_
          refine k_ret ?_
          refine kB_ret ?_
          refine kC_ret ?_
          obtain rfl := Option.some.inj h
          refine kP_any (endN (af' := (AF.put AF0 (some 4) (.exact (.string (bs [66, 111, 111, 108]))))) (σ' := []) _ rfl ?_ ⟨rfl, rfl⟩)
          refine Sub.trans (SubU.to SubU.drop) ?_
          exact Sub.of_le (AF.le_put (AV.le_eq rfl) (AF.le_top _))
        · replace h := ite_f h hc
          refine k_seq ?_
          refine k_reg .free hmixP (by kernel_rfl) ?_
          refine G_q rfl (op_eql rfl rfl ?_)
          refine G_q rfl (op_assign (av := .exact (.bool (decide (((gi a0 0).1) = 4)))) rfl ?_)
          refine G_nil ?_
          refine kC_normal ?_
          refine k_cond_d (p := ((gi a0 0).1) = 4) rfl (fun hc => ?_) (fun hc => ?_)
          · replace h := ite_t h hc
            refine k_seq ?_
            refine k_reg .free hmixP (by kernel_rfl) ?_
            refine G_q rfl (op_assign (av := .exact (.string (bs [69, 118, 101, 110, 116]))) rfl ?_)
            refine G_nil ?_
            refine kC_normal ?_
            refine k_ret ?_
            refine kB_ret ?_
            refine kC_ret ?_
            obtain rfl := Option.some.inj h
            refine kP_any (endN (af' := (AF.put AF0 (some 4) (.exact (.string (bs [69, 118, 101, 110, 116]))))) (σ' := []) _ rfl ?_ ⟨rfl, rfl⟩)
            refine Sub.trans (SubU.to SubU.drop) ?_
            exact Sub.of_le (AF.le_put (AV.le_eq rfl) (AF.le_top _))
          · replace h := ite_f h hc
            refine k_seq ?_
            refine k_reg .free hmixP (by kernel_rfl) ?_
            refine G_q rfl (op_eql rfl rfl ?_)
            refine G_q rfl (op_assign (av := .exact (.bool (decide (((gi a0 0).1) = 5)))) rfl ?_)
            refine G_nil ?_
            refine kC_normal ?_
            refine k_cond_d (p := ((gi a0 0).1) = 5) rfl (fun hc => ?_) (fun hc => ?_)
            · replace h := ite_t h hc
              refine k_seq ?_
              refine k_reg .free hmixP (by kernel_rfl) ?_
              refine G_q rfl (op_assign (av := .exact (.string (bs [80, 114, 111, 99]))) rfl ?_)
              refine G_nil ?_
              refine kC_normal ?_
              refine k_ret ?_
              refine kB_ret ?_
              refine kC_ret ?_
              obtain rfl := Option.some.inj h
              refine kP_any (endN (af' := (AF.put AF0 (some 4) (.exact (.string (bs [80, 114, 111, 99]))))) (σ' := []) _ rfl ?_ ⟨rfl, rfl⟩)
              refine Sub.trans (SubU.to SubU.drop) ?_
              exact Sub.of_le (AF.le_put (AV.le_eq rfl) (AF.le_top _))
            · replace h := ite_f h hc
              refine k_seq ?_
              refine k_reg .free hmixP (by kernel_rfl) ?_
              refine G_q rfl (op_eql rfl rfl ?_)
              refine G_q rfl (op_assign (av := .exact (.bool (decide (((gi a0 0).1) = 6)))) rfl ?_)
              refine G_nil ?_
              refine kC_normal ?_
              refine k_cond_d (p := ((gi a0 0).1) = 6) rfl (fun hc => ?_) (fun hc => ?_)
              · replace h := ite_t h hc
                refine k_seq ?_
                refine k_seq ?_
                refine k_reg .free hmixP (by kernel_rfl) ?_
                refine G_q rfl (op_move (av := .row 3 c_api_TypeNode a0) rfl ?_)
                obtain ⟨n32, h⟩ := need_some h
                refine G_q rfl (op_index_row (by kernel_rfl) rfl rfl n32.1 n32.2 ?_)
                refine G_q rfl (op_fieldAddr_ptr (o := 1) (c' := (List.drop 1 (c_api_TypeNode (gi a0 0)))) (by kernel_rfl) rfl rfl ?_)
                refine G_q rfl (op_load1p (a := .exact (.int .i64 ((gi a0 0).2.1))) (by kernel_rfl) rfl rfl ?_)
                refine G_q rfl (op_move (av := .row 1 c_string a1) rfl ?_)
                refine G_q rfl (op_len_row (by kernel_rfl) rfl ?_)
                refine G_q rfl (op_lss rfl rfl ?_)
                refine G_nil ?_
                refine kC_normal ?_
                refine k_cond_d (p := ((gi a0 0).2.1) < (List.length a1 : Int)) rfl (fun hc => ?_) (fun hc => ?_)
                · replace h := ite_t h hc
                  refine k_seq ?_
                  refine k_reg .free hmixP (by kernel_rfl) ?_
                  refine G_q rfl (op_move (av := .row 1 c_string a1) rfl ?_)
                  refine G_q rfl (op_move (av := .row 3 c_api_TypeNode a0) rfl ?_)
                  obtain ⟨n33, h⟩ := need_some h
                  refine G_q rfl (op_index_row (by kernel_rfl) rfl rfl n33.1 n33.2 ?_)
                  refine G_q rfl (op_fieldAddr_ptr (o := 1) (c' := (List.drop 1 (c_api_TypeNode (gi a0 0)))) (by kernel_rfl) rfl rfl ?_)
                  refine G_q rfl (op_load1p (a := .exact (.int .i64 ((gi a0 0).2.1))) (by kernel_rfl) rfl rfl ?_)
                  obtain ⟨n34, h⟩ := need_some h
                  refine G_q rfl (op_index_row (by kernel_rfl) rfl rfl n34.1 n34.2 ?_)
                  refine G_q rfl (op_load1p (a := .exact (.string (bs (gi a1 ((gi a0 0).2.1))))) (by kernel_rfl) rfl rfl ?_)
                  refine G_q rfl (op_assign (av := .exact (.string (bs (gi a1 ((gi a0 0).2.1))))) rfl ?_)
                  refine G_nil ?_
                  refine kC_normal ?_
                  refine k_ret ?_
                  refine kC_ret ?_
                  refine kB_ret ?_
                  refine kC_ret ?_
                  obtain rfl := Option.some.inj h
                  refine kP_any (endN (af' := (AF.put AF0 (some 4) (.exact (.string (bs (gi a1 ((gi a0 0).2.1))))))) (σ' := []) _ rfl ?_ ⟨rfl, rfl⟩)
                  refine Sub.trans (SubU.to SubU.drop) ?_
                  exact Sub.of_le (AF.le_put (AV.le_eq rfl) (AF.le_top _))
                · replace h := ite_f h hc
                  refine k_skip ?_
                  refine kC_normal ?_
                  refine k_seq ?_
                  refine k_reg .free hmixP (by kernel_rfl) ?_
                  refine G_q rfl (op_move (av := .row 3 c_api_TypeNode a0) rfl ?_)
                  obtain ⟨n35, h⟩ := need_some h
                  refine G_q rfl (op_index_row (by kernel_rfl) rfl rfl n35.1 n35.2 ?_)
                  refine G_q rfl (op_fieldAddr_ptr (o := 1) (c' := (List.drop 1 (c_api_TypeNode (gi a0 0)))) (by kernel_rfl) rfl rfl ?_)
                  refine G_q rfl (op_load1p (a := .exact (.int .i64 ((gi a0 0).2.1))) (by kernel_rfl) rfl rfl ?_)
                  obtain ⟨y36, hy36, h⟩ := bnd1_some h
                  refine G_q rfl (op_pure (m_ref6_digits_ok _ _ hy36) Tryd.func88 (by kernel_rfl) (LEs.cons (AV.le_eq rfl) LEs.nil) ?_)
                  obtain ⟨n37, h⟩ := need_some h
                  refine G_q rfl (op_addS n37 rfl rfl ?_)
                  refine G_q rfl (op_assign (av := .exact (.string (bs ([68] ++ y36)))) rfl ?_)
                  refine G_nil ?_
                  refine kC_normal ?_
                  refine k_ret ?_
                  refine kB_ret ?_
                  refine kC_ret ?_
                  obtain rfl := Option.some.inj h
                  refine kP_any (endN (af' := (AF.put AF0 (some 4) (.exact (.string (bs ([68] ++ y36)))))) (σ' := []) _ rfl ?_ ⟨rfl, rfl⟩)
                  refine Sub.trans (SubU.to SubU.drop) ?_
                  exact Sub.of_le (AF.le_put (AV.le_eq rfl) (AF.le_top _))
              · replace h := ite_f h hc
                refine k_seq ?_
                refine k_reg .free hmixP (by kernel_rfl) ?_
                refine G_q rfl (op_eql rfl rfl ?_)
                refine G_q rfl (op_assign (av := .exact (.bool (decide (((gi a0 0).1) = 7)))) rfl ?_)
                refine G_nil ?_
                refine kC_normal ?_
                refine k_cond_d (p := ((gi a0 0).1) = 7) rfl (fun hc => ?_) (fun hc => ?_)
                · replace h := ite_t h hc
                  refine k_seq ?_
                  refine k_reg .free hmixP (by kernel_rfl) ?_
                  refine G_q rfl (op_move (av := .exact v6_j2) rfl ?_)
                  obtain ⟨n38, h⟩ := need_some h
                  refine G_r rfl (op_index_vec (by kernel_rfl) rfl rfl n38.1 n38.2 ?_)
                  refine G_r rfl (op_load_vec1 (i := 0) (o := 0) (a := .exact (.string (bs (gi x6_j2 0)))) (by kernel_rfl) len_c_string rfl n38.1 n38.2 rfl ?_)
                  obtain ⟨n39, h⟩ := need_some h
                  refine G_q rfl (op_addS n39 rfl rfl ?_)
                  obtain ⟨n40, h⟩ := need_some h
                  refine G_q rfl (op_addS n40 rfl rfl ?_)
                  refine G_q rfl (op_assign (av := .exact (.string (bs (([60] ++ (gi x6_j2 0)) ++ [62])))) rfl ?_)
                  refine G_nil ?_
                  refine kC_normal ?_
                  refine k_ret ?_
                  refine kB_ret ?_
                  refine kC_ret ?_
                  obtain rfl := Option.some.inj h
                  refine kP_any (endN (af' := (AF.put AF0 (some 4) (.exact (.string (bs (([60] ++ (gi x6_j2 0)) ++ [62])))))) (σ' := []) _ rfl ?_ ⟨rfl, rfl⟩)
                  refine Sub.trans (SubU.to SubU.drop) ?_
                  exact Sub.of_le (AF.le_put (AV.le_eq rfl) (AF.le_top _))
                · replace h := ite_f h hc
                  refine k_seq ?_
                  refine k_reg .free hmixP (by kernel_rfl) ?_
                  refine G_q rfl (op_eql rfl rfl ?_)
                  refine G_q rfl (op_assign (av := .exact (.bool (decide (((gi a0 0).1) = 8)))) rfl ?_)
                  refine G_nil ?_
                  refine kC_normal ?_
                  refine k_cond_d (p := ((gi a0 0).1) = 8) rfl (fun hc => ?_) (fun hc => ?_)
                  · replace h := ite_t h hc
                    refine k_seq ?_
                    refine k_reg .free hmixP (by kernel_rfl) ?_
                    refine G_q rfl (op_move (av := .exact v6_j2) rfl ?_)
                    obtain ⟨n41, h⟩ := need_some h
                    refine G_r rfl (op_index_vec (by kernel_rfl) rfl rfl n41.1 n41.2 ?_)
                    refine G_r rfl (op_load_vec1 (i := 0) (o := 0) (a := .exact (.string (bs (gi x6_j2 0)))) (by kernel_rfl) len_c_string rfl n41.1 n41.2 rfl ?_)
                    obtain ⟨n42, h⟩ := need_some h
                    refine G_q rfl (op_addS n42 rfl rfl ?_)
                    obtain ⟨n43, h⟩ := need_some h
                    refine G_q rfl (op_addS n43 rfl rfl ?_)
                    refine G_q rfl (op_assign (av := .exact (.string (bs (([123] ++ (gi x6_j2 0)) ++ [125])))) rfl ?_)
                    refine G_nil ?_
                    refine kC_normal ?_
                    refine k_ret ?_
                    refine kB_ret ?_
                    refine kC_ret ?_
                    obtain rfl := Option.some.inj h
                    refine kP_any (endN (af' := (AF.put AF0 (some 4) (.exact (.string (bs (([123] ++ (gi x6_j2 0)) ++ [125])))))) (σ' := []) _ rfl ?_ ⟨rfl, rfl⟩)
                    refine Sub.trans (SubU.to SubU.drop) ?_
                    exact Sub.of_le (AF.le_put (AV.le_eq rfl) (AF.le_top _))
                  · replace h := ite_f h hc
                    refine k_seq ?_
                    refine k_reg .free hmixP (by kernel_rfl) ?_
                    refine G_q rfl (op_eql rfl rfl ?_)
                    refine G_q rfl (op_assign (av := .exact (.bool (decide (((gi a0 0).1) = 9)))) rfl ?_)
                    refine G_nil ?_
                    refine kC_normal ?_
                    refine k_cond_d (p := ((gi a0 0).1) = 9) rfl (fun hc => ?_) (fun hc => ?_)
                    · replace h := ite_t h hc
                      refine k_seq ?_
                      refine k_plan [] [(0, 0), (0, 5), (1, 1), (1, 2), (0, 3), (0, 4), (1, 6), (1, 7), (0, 8), (0, 9), (0, 10)] hmixP (by kernel_rfl) ?_
                      refine P_q no34_0 rfl (op_move (av := .exact v6_j2) rfl ?_)
                      refine P_q no34_0 rfl (op_move (av := .exact v6_j2) rfl ?_)
                      obtain ⟨n44, h⟩ := need_some h
                      refine P_r rfl (op_index_vec (by kernel_rfl) rfl rfl n44.1 n44.2 ?_)
                      refine P_r rfl (op_load_vec1 (i := 0) (o := 0) (a := .exact (.string (bs (gi x6_j2 0)))) (by kernel_rfl) len_c_string rfl n44.1 n44.2 rfl ?_)
                      obtain ⟨n45, h⟩ := need_some h
                      refine P_q no34_0 rfl (op_addS n45 rfl rfl ?_)
                      obtain ⟨n46, h⟩ := need_some h
                      refine P_q no34_0 rfl (op_addS n46 rfl rfl ?_)
                      obtain ⟨n47, h⟩ := need_some h
                      refine P_r rfl (op_index_vec (by kernel_rfl) rfl rfl n47.1 n47.2 ?_)
                      refine P_r rfl (op_load_vec1 (i := 1) (o := 0) (a := .exact (.string (bs (gi x6_j2 1)))) (by kernel_rfl) len_c_string rfl n47.1 n47.2 rfl ?_)
                      obtain ⟨n48, h⟩ := need_some h
                      refine P_q no34_0 rfl (op_addS n48 rfl rfl ?_)
                      obtain ⟨n49, h⟩ := need_some h
                      refine P_q no34_0 rfl (op_addS n49 rfl rfl ?_)
                      refine P_q no34_0 rfl (op_assign (av := .exact (.string (bs (((([40, 124] ++ (gi x6_j2 0)) ++ [32, 61, 62, 32]) ++ (gi x6_j2 1)) ++ [124, 41])))) rfl ?_)
                      refine P_nil ?_
                      refine kC_normal ?_
                      refine k_ret ?_
                      refine kB_ret ?_
                      refine kC_ret ?_
                      obtain rfl := Option.some.inj h
                      refine kP_any (endN (af' := (AF.put AF0 (some 4) (.exact (.string (bs (((([40, 124] ++ (gi x6_j2 0)) ++ [32, 61, 62, 32]) ++ (gi x6_j2 1)) ++ [124, 41])))))) (σ' := []) _ rfl ?_ ⟨rfl, rfl⟩)
                      refine Sub.trans (SubU.to SubU.drop) ?_
                      exact Sub.of_le (AF.le_put (AV.le_eq rfl) (AF.le_top _))
                    · replace h := ite_f h hc
                      refine k_seq ?_
                      refine k_reg .free hmixP (by kernel_rfl) ?_
                      refine G_q rfl (op_eql rfl rfl ?_)
                      refine G_q rfl (op_assign (av := .exact (.bool (decide (((gi a0 0).1) = 12)))) rfl ?_)
                      refine G_nil ?_
                      refine kC_normal ?_
                      refine k_cond_d (p := ((gi a0 0).1) = 12) rfl (fun hc => ?_) (fun hc => ?_)
                      · replace h := ite_t h hc
                        refine k_seq ?_
                        refine k_plan [] [(0, 0), (0, 5), (1, 1), (1, 2), (0, 3), (0, 4), (1, 6), (1, 7), (0, 8), (0, 9), (0, 10)] hmixP (by kernel_rfl) ?_
                        refine P_q no34_0 rfl (op_move (av := .exact v6_j2) rfl ?_)
                        refine P_q no34_0 rfl (op_move (av := .exact v6_j2) rfl ?_)
                        obtain ⟨n50, h⟩ := need_some h
                        refine P_r rfl (op_index_vec (by kernel_rfl) rfl rfl n50.1 n50.2 ?_)
                        refine P_r rfl (op_load_vec1 (i := 0) (o := 0) (a := .exact (.string (bs (gi x6_j2 0)))) (by kernel_rfl) len_c_string rfl n50.1 n50.2 rfl ?_)
                        obtain ⟨n51, h⟩ := need_some h
                        refine P_q no34_0 rfl (op_addS n51 rfl rfl ?_)
                        obtain ⟨n52, h⟩ := need_some h
                        refine P_q no34_0 rfl (op_addS n52 rfl rfl ?_)
                        obtain ⟨n53, h⟩ := need_some h
                        refine P_r rfl (op_index_vec (by kernel_rfl) rfl rfl n53.1 n53.2 ?_)
                        refine P_r rfl (op_load_vec1 (i := 1) (o := 0) (a := .exact (.string (bs (gi x6_j2 1)))) (by kernel_rfl) len_c_string rfl n53.1 n53.2 rfl ?_)
                        obtain ⟨n54, h⟩ := need_some h
                        refine P_q no34_0 rfl (op_addS n54 rfl rfl ?_)
                        obtain ⟨n55, h⟩ := need_some h
                        refine P_q no34_0 rfl (op_addS n55 rfl rfl ?_)
                        refine P_q no34_0 rfl (op_assign (av := .exact (.string (bs (((([40] ++ (gi x6_j2 0)) ++ [46]) ++ (gi x6_j2 1)) ++ [41])))) rfl ?_)
                        refine P_nil ?_
                        refine kC_normal ?_
                        refine k_ret ?_
                        refine kB_ret ?_
                        refine kC_ret ?_
                        obtain rfl := Option.some.inj h
                        refine kP_any (endN (af' := (AF.put AF0 (some 4) (.exact (.string (bs (((([40] ++ (gi x6_j2 0)) ++ [46]) ++ (gi x6_j2 1)) ++ [41])))))) (σ' := []) _ rfl ?_ ⟨rfl, rfl⟩)
                        refine Sub.trans (SubU.to SubU.drop) ?_
                        exact Sub.of_le (AF.le_put (AV.le_eq rfl) (AF.le_top _))
                      · replace h := ite_f h hc
                        refine k_seq ?_
                        refine k_reg .free hmixP (by kernel_rfl) ?_
                        refine G_q rfl (op_eql rfl rfl ?_)
                        refine G_q rfl (op_assign (av := .exact (.bool (decide (((gi a0 0).1) = 13)))) rfl ?_)
                        refine G_nil ?_
                        refine kC_normal ?_
                        refine k_cond_d (p := ((gi a0 0).1) = 13) rfl (fun hc => ?_) (fun hc => ?_)
                        · replace h := ite_t h hc
                          refine k_seq ?_
                          refine k_plan [] [(0, 0), (0, 5), (1, 1), (1, 2), (0, 3), (0, 4), (1, 6), (1, 7), (0, 8), (0, 9), (0, 10)] hmixP (by kernel_rfl) ?_
                          refine P_q no34_0 rfl (op_move (av := .exact v6_j2) rfl ?_)
                          refine P_q no34_0 rfl (op_move (av := .exact v6_j2) rfl ?_)
                          obtain ⟨n56, h⟩ := need_some h
                          refine P_r rfl (op_index_vec (by kernel_rfl) rfl rfl n56.1 n56.2 ?_)
                          refine P_r rfl (op_load_vec1 (i := 0) (o := 0) (a := .exact (.string (bs (gi x6_j2 0)))) (by kernel_rfl) len_c_string rfl n56.1 n56.2 rfl ?_)
                          obtain ⟨n57, h⟩ := need_some h
                          refine P_q no34_0 rfl (op_addS n57 rfl rfl ?_)
                          obtain ⟨n58, h⟩ := need_some h
                          refine P_q no34_0 rfl (op_addS n58 rfl rfl ?_)
                          obtain ⟨n59, h⟩ := need_some h
                          refine P_r rfl (op_index_vec (by kernel_rfl) rfl rfl n59.1 n59.2 ?_)
                          refine P_r rfl (op_load_vec1 (i := 1) (o := 0) (a := .exact (.string (bs (gi x6_j2 1)))) (by kernel_rfl) len_c_string rfl n59.1 n59.2 rfl ?_)
                          obtain ⟨n60, h⟩ := need_some h
                          refine P_q no34_0 rfl (op_addS n60 rfl rfl ?_)
                          obtain ⟨n61, h⟩ := need_some h
                          refine P_q no34_0 rfl (op_addS n61 rfl rfl ?_)
                          refine P_q no34_0 rfl (op_assign (av := .exact (.string (bs (((([40] ++ (gi x6_j2 0)) ++ [32, 61, 62, 32]) ++ (gi x6_j2 1)) ++ [41])))) rfl ?_)
                          refine P_nil ?_
                          refine kC_normal ?_
                          refine k_ret ?_
                          refine kB_ret ?_
                          refine kC_ret ?_
                          obtain rfl := Option.some.inj h
                          refine kP_any (endN (af' := (AF.put AF0 (some 4) (.exact (.string (bs (((([40] ++ (gi x6_j2 0)) ++ [32, 61, 62, 32]) ++ (gi x6_j2 1)) ++ [41])))))) (σ' := []) _ rfl ?_ ⟨rfl, rfl⟩)
                          refine Sub.trans (SubU.to SubU.drop) ?_
                          exact Sub.of_le (AF.le_put (AV.le_eq rfl) (AF.le_top _))
                        · replace h := ite_f h hc
                          refine k_seq ?_
                          refine k_reg .free hmixP (by kernel_rfl) ?_
                          refine G_q rfl (op_eql rfl rfl ?_)
                          refine G_q rfl (op_assign (av := .exact (.bool (decide (((gi a0 0).1) = 10)))) rfl ?_)
                          refine G_nil ?_
                          refine kC_normal ?_
                          refine k_cond_d (p := ((gi a0 0).1) = 10) rfl (fun hc => ?_) (fun hc => ?_)
                          · replace h := ite_t h hc
                            refine k_seq ?_
                            refine k_reg .free hmixP (by kernel_rfl) ?_
                            refine G_q rfl (op_move (av := .exact v6_j2) rfl ?_)
                            refine G_sub rfl (SubU.freezeT2 (s1 := 6) (s2 := 119) rfl rfl len_c_string) ?_
                            obtain ⟨y62, hy62, h⟩ := bnd1_some h
                            refine G_q rfl (op_pure (m_ref6_comma_ok _ _ hy62) Tryd.func89 (by kernel_rfl) (LEs.cons (AV.le_eq rfl) LEs.nil) ?_)
                            obtain ⟨n63, h⟩ := need_some h
                            refine G_q rfl (op_addS n63 rfl rfl ?_)
                            obtain ⟨n64, h⟩ := need_some h
                            refine G_q rfl (op_addS n64 rfl rfl ?_)
                            refine G_q rfl (op_assign (av := .exact (.string (bs (([40] ++ y62) ++ [41])))) rfl ?_)
                            refine G_nil ?_
                            refine kC_normal ?_
                            refine k_ret ?_
                            refine kB_ret ?_
                            refine kC_ret ?_
                            obtain rfl := Option.some.inj h
                            refine kP_any (endN (af' := (AF.put AF0 (some 4) (.exact (.string (bs (([40] ++ y62) ++ [41])))))) (σ' := []) _ rfl ?_ ⟨rfl, rfl⟩)
                            exact Sub.of_le (AF.le_put (AV.le_eq rfl) (AF.le_top _))
                          · replace h := ite_f h hc
                            refine k_skip ?_
                            refine kB_normal ?_
                            refine kC_normal ?_
                            refine k_seq ?_
                            refine awp_sub (SubU.to (SubU.freezeT (s := 6) rfl len_c_string)) ?_
                            refine k_plan [] [(0, 0), (0, 1), (0, 2), (0, 3), (0, 4), (0, 5), (0, 6), (0, 7), (0, 8), (0, 9), (0, 10), (0, 11), (0, 12), (0, 13), (0, 14), (0, 15)] hmixP (by kernel_rfl) ?_
                            refine P_q no34_0 rfl (op_move (av := .row 1 c_string x6_j2) rfl ?_)
                            refine P_q no34_0 rfl (op_move (av := .row 1 c_string x6_j2) rfl ?_)
                            refine P_q no34_0 rfl (op_len_row (by kernel_rfl) rfl ?_)
                            refine P_q no34_0 rfl (op_sub rfl rfl rfl ?_)
                            obtain ⟨n65, h⟩ := need_some h
                            refine P_q no34_0 rfl (op_slice_rowt (by kernel_rfl) rfl bnd_none (bnd_some rfl) (Int.le_refl 0) n65.1 n65.2 ?_)
                            obtain ⟨y66, hy66, h⟩ := bnd1_some h
                            refine P_q no34_0 rfl (op_pure (m_ref6_comma_ok _ _ hy66) Tryd.func89 (by kernel_rfl) (LEs.cons (AV.le_eq rfl) LEs.nil) ?_)
                            obtain ⟨n67, h⟩ := need_some h
                            refine P_q no34_0 rfl (op_addS n67 rfl rfl ?_)
                            obtain ⟨n68, h⟩ := need_some h
                            refine P_q no34_0 rfl (op_addS n68 rfl rfl ?_)
                            refine P_q no34_0 rfl (op_move (av := .row 1 c_string x6_j2) rfl ?_)
                            refine P_q no34_0 rfl (op_move (av := .row 1 c_string x6_j2) rfl ?_)
                            refine P_q no34_0 rfl (op_len_row (by kernel_rfl) rfl ?_)
                            refine P_q no34_0 rfl (op_sub rfl rfl rfl ?_)
                            obtain ⟨n69, h⟩ := need_some h
                            refine P_q no34_0 rfl (op_index_row (by kernel_rfl) rfl rfl n69.1 n69.2 ?_)
                            refine P_q no34_0 rfl (op_load1p (a := .exact (.string (bs (gi x6_j2 (i64 ((List.length x6_j2 : Int) - 1)))))) (by kernel_rfl) rfl rfl ?_)
                            obtain ⟨n70, h⟩ := need_some h
                            refine P_q no34_0 rfl (op_addS n70 rfl rfl ?_)
                            refine P_q no34_0 rfl (op_assign (av := .exact (.string (bs ((([40] ++ y66) ++ [41, 32, 45, 62, 32]) ++ (gi x6_j2 (i64 ((List.length x6_j2 : Int) - 1))))))) rfl ?_)
                            refine P_nil ?_
                            refine kC_normal ?_
                            refine k_ret ?_
                            obtain rfl := Option.some.inj h
                            refine kP_any (endN (af' := (AF.put AF0 (some 4) (.exact (.string (bs ((([40] ++ y66) ++ [41, 32, 45, 62, 32]) ++ (gi x6_j2 (i64 ((List.length x6_j2 : Int) - 1))))))))) (σ' := []) _ rfl ?_ ⟨rfl, rfl⟩)
                            exact Sub.of_le (AF.le_put (AV.le_eq rfl) (AF.le_top _))
set_option maxHeartbeats 4000000 in
theorem m_ref6_text_S_ok : ∀ n : Nat, (∀ (a0 : List (Int × Int × Int)) (a1 : List (List UInt8)) (r : (List UInt8)), m_ref6_text_S n a0 a1 = some r → Pure Tryd.prog 69 [(.row 3 c_api_TypeNode a0), (.row 1 c_string a1)] (.exact (.string (bs r))))
  | 0 => (fun _ _ _ h => by have h' : (none : Option _) = some _ := h; cases h')
  | n + 1 => by
    have ih := m_ref6_text_S_ok n
    exact fun a0 a1 r h => m_ref6_text_F_ok (m_ref6_text_S n) ih a0 a1 r h
theorem m_ref6_text_ok (a0 : List (Int × Int × Int)) (a1 : List (List UInt8)) (r : (List UInt8)) (h : m_ref6_text a0 a1 = some r) : Pure Tryd.prog 69 [(.row 3 c_api_TypeNode a0), (.row 1 c_string a1)] (.exact (.string (bs r))) := (m_ref6_text_S_ok FU) a0 a1 r h
set_option maxHeartbeats 4000000 in
theorem m_ref6_Format_ok (a0 : List (Int × Int × Int)) (a1 : List (List UInt8)) (r : (List UInt8)) (h : m_ref6_Format a0 a1 = some r) : Pure Tryd.prog 37 [(.row 3 c_api_TypeNode a0), (.row 1 c_string a1)] (.exact (.string (bs r))) := by
  unfold m_ref6_Format at h
  refine Pure.ofFun (fun_of_awp Tryd.func37 rfl Tryd.ntmps37 (by simp) rfl (res1 rfl) fun E hE => k_end ?_)
  refine k_seq ?_
  refine k_reg .free hmixP (by kernel_rfl) ?_
  refine G_q rfl (op_assign (av := .exact (.string (bs ([] : List UInt8)))) rfl ?_)
  refine G_nil ?_
  refine kC_normal ?_
  refine k_seq ?_
  refine k_seq ?_
  refine k_reg .free hmixP (by kernel_rfl) ?_
  refine G_q rfl (op_move (av := .row 3 c_api_TypeNode a0) rfl ?_)
  obtain ⟨y1, hy1, h⟩ := bnd1_some h
  refine G_q rfl (op_pure (m_ref6_ValidType_ok _ _ hy1) Tryd.func30 (by kernel_rfl) (LEs.cons (AV.le_eq rfl) LEs.nil) ?_)
  refine G_q rfl (op_not rfl ?_)
  refine G_nil ?_
  refine kC_normal ?_
  refine k_cond_b (c := !y1) rfl (fun hc => ?_) (fun hc => ?_)
  · replace h := ite_t h hc
    refine k_seq ?_
    refine k_reg .free hmixP (by kernel_rfl) ?_
    refine G_q rfl (op_assign (av := .exact (.string (bs ([] : List UInt8)))) rfl ?_)
    refine G_nil ?_
    refine kC_normal ?_
    refine k_ret ?_
    refine kC_ret ?_
    obtain rfl := Option.some.inj h
    refine kP_any (endN (af' := (AF.put AF0 (some 4) (.exact (.string (bs ([] : List UInt8)))))) (σ' := []) _ rfl ?_ ⟨rfl, rfl⟩)
    exact Sub.of_le (AF.le_put (AV.le_eq rfl) (AF.le_top _))
  · replace h := ite_f h hc
    refine k_skip ?_
    refine kC_normal ?_
    refine k_seq ?_
    refine k_reg .free hmixP (by kernel_rfl) ?_
    refine G_q rfl (op_move (av := .row 3 c_api_TypeNode a0) rfl ?_)
    refine G_q rfl (op_move (av := .row 1 c_string a1) rfl ?_)
    obtain ⟨y2, hy2, h⟩ := bnd1_some h
    refine G_q rfl (op_pure (m_ref6_text_ok _ _ _ hy2) Tryd.func69 (by kernel_rfl) (LEs.cons (AV.le_eq rfl) (LEs.cons (AV.le_eq rfl) LEs.nil)) ?_)
    refine G_q rfl (op_assign (av := .exact (.string (bs y2))) rfl ?_)
    refine G_nil ?_
    refine kC_normal ?_
    refine k_ret ?_
    obtain rfl := Option.some.inj h
    refine kP_any (endN (af' := (AF.put AF0 (some 4) (.exact (.string (bs y2))))) (σ' := []) _ rfl ?_ ⟨rfl, rfl⟩)
    exact Sub.of_le (AF.le_put (AV.le_eq rfl) (AF.le_top _))
set_option maxHeartbeats 4000000 in
theorem m_law7_TypesDescribe_ok (a0 : List (Int × Int × Int)) (a1 : List Int) (a2 : List (List UInt8)) (r : Bool) (h : m_law7_TypesDescribe a0 a1 a2 = some r) : Fun Tryd.prog 9 [(.row 3 c_api_TypeNode a0), (.row 1 c_int a1), (.row 1 c_string a2)] [tabI] (fun a s => a = .exact (.bool r) ∧ s = [tabI]) := by
  unfold m_law7_TypesDescribe at h
  refine fun_of_awp Tryd.func9 rfl Tryd.ntmps9 (by simp) rfl (res1 rfl) fun E hE => k_end ?_
  refine k_seq ?_
  refine k_reg .free hmixP (by kernel_rfl) ?_
  refine G_q rfl (op_assign (av := .exact (.bool false)) rfl ?_)
  refine G_nil ?_
  refine kC_normal ?_
  refine k_seq ?_
  refine k_reg .free hmixP (by kernel_rfl) ?_
  refine G_q rfl (op_move (av := .row 1 c_int a1) rfl ?_)
  obtain ⟨y1, hy1, h⟩ := bnd1_some h
  refine G_l rfl (op_fun_0_1_1 (m_gen_New_ok _ _ hy1) Tryd.func15 (by kernel_rfl) (LEs.cons (AV.le_eq rfl) LEs.nil) (fun b2 => ?_))
  obtain ⟨y3, hy3, h⟩ := bnd1_some h
  refine G_l rfl (op_fun_1_1_2 (m_law7_typ_ok _ _ _ _ hy3) Tryd.func14 (by kernel_rfl) (LEs.cons (AV.le_eq rfl) (LEs.cons (AV.le_eq rfl) (LEs.cons (AV.le_eq rfl) LEs.nil))) (fun v4 => ?_))
  refine G_q rfl (op_assign (av := .exact v4) rfl ?_)
  refine G_nil ?_
  refine kC_normal ?_
  refine k_join0_0 h (AF0) ([tabI]) (fun k5 h => ?_) (fun  h => ?_)
  · refine k_seq ?_
    refine k_reg .free hmixP (by kernel_rfl) ?_
    refine G_q rfl (op_assign (av := .exact (.int .i64 0)) rfl ?_)
    refine G_nil ?_
    refine kC_normal ?_
    refine k_block ?_
    refine k_loop3_0 (m_law7_TypesDescribe_L2 a2 k5) (m_law7_TypesDescribe_B2 a2 k5) (fun _ _ _ => rfl) (fun m _ _ _ => rfl) h (fun (x0_l2 : List (Int × Int × Int)) (x7_l2 : List (Int × Int × Int)) (x8_l2 : Int) => (AF.put (AF.put (AF.put (AF.put AF0 (some 0) (.row 3 c_api_TypeNode x0_l2)) (some 2) (.row 1 c_string a2)) (some 7) (.row 3 c_api_TypeNode x7_l2)) (some 8) (.exact (.int .i64 x8_l2)))) (fun (x0_l2 : List (Int × Int × Int)) (x7_l2 : List (Int × Int × Int)) (x8_l2 : Int) => [tabI]) ?_ (fun rec2 x0_l2 x7_l2 x8_l2 h => ?_)
    · refine Sub.trans (SubU.to (SubU.freezeT (s := 7) rfl len_c_api_TypeNode)) ?_
      refine Sub.trans (SubU.to SubU.drop) ?_
      exact Sub.of_le (AF.le_put (AV.le_eq rfl) (AF.le_put (AV.le_eq rfl) (AF.le_put (AV.le_eq rfl) (AF.le_put (AV.le_eq rfl) (AF.le_top _)))))
    · unfold m_law7_TypesDescribe_B2 at h
      refine k_seq ?_
      refine k_seq ?_
      refine k_reg .free hmixP (by kernel_rfl) ?_
      refine G_q rfl (op_move (av := .exact (.int .i64 x8_l2)) rfl ?_)
      refine G_q rfl (op_lss rfl rfl ?_)
      refine G_nil ?_
      refine kC_normal ?_
      refine k_cond_d (p := x8_l2 < 2) rfl (fun hc => ?_) (fun hc => ?_)
      · replace h := ite_t h hc
        refine k_skip ?_
        refine kC_normal ?_
        refine k_seq ?_
        refine k_block ?_
        refine k_seq ?_
        refine k_join1_0 h (fun (x54_j600 : Bool) => (AF.put (AF.put (AF.put (AF.put AF0 (some 2) (.row 1 c_string a2)) (some 7) (.row 3 c_api_TypeNode x7_l2)) (some 8) (.exact (.int .i64 x8_l2))) (some 54) (.exact (.bool x54_j600)))) (fun (x54_j600 : Bool) => [tabI]) (fun k600 h => ?_) (fun x54_j600 h => ?_)
        · refine k_reg .free hmixP (by kernel_rfl) ?_
          refine G_q rfl (op_move (av := .row 3 c_api_TypeNode x0_l2) rfl ?_)
          obtain ⟨y613, hy613, h⟩ := bnd1_some h
          refine G_q rfl (op_pure (m_types_Valid_ok _ _ hy613) Tryd.func29 (by kernel_rfl) (LEs.cons (AV.le_eq rfl) LEs.nil) ?_)
          refine G_q rfl (op_move (av := .row 3 c_api_TypeNode x0_l2) rfl ?_)
          obtain ⟨y614, hy614, h⟩ := bnd1_some h
          refine G_q rfl (op_pure (m_ref6_ValidType_ok _ _ hy614) Tryd.func30 (by kernel_rfl) (LEs.cons (AV.le_eq rfl) LEs.nil) ?_)
          refine G_q rfl (op_neqB (a := y613) (b := y614) (by kernel_rfl) rfl rfl ?_)
          refine G_q rfl (op_move (av := .exact (.bool (decide (¬ y613 = y614)))) rfl ?_)
          refine G_split (p := ¬ y613 = y614) 21 rfl (fun hc => ?_) (fun hc => ?_)
          · replace h := ite_t h hc
            refine G_n rfl rfl ?_
            refine G_n rfl rfl ?_
            refine G_n rfl rfl ?_
            refine G_n rfl rfl ?_
            refine G_n rfl rfl ?_
            refine G_n rfl rfl ?_
            refine G_n rfl rfl ?_
            refine G_q rfl (op_pick_t rfl (av := .exact (.bool true)) rfl ?_)
            refine G_q rfl (op_move (av := .exact (.bool true)) rfl ?_)
            refine G_n rfl rfl ?_
            refine G_n rfl rfl ?_
            refine G_n rfl rfl ?_
            refine G_n rfl rfl ?_
            refine G_n rfl rfl ?_
            refine G_n rfl rfl ?_
            refine G_q rfl (op_pick_t rfl (av := .exact (.bool true)) rfl ?_)
            refine G_q rfl (op_move (av := .exact (.bool true)) rfl ?_)
            refine G_n rfl rfl ?_
            refine G_n rfl rfl ?_
            refine G_n rfl rfl ?_
            refine G_n rfl rfl ?_
            refine G_n rfl rfl ?_
            refine G_n rfl rfl ?_
            refine G_q rfl (op_pick_t rfl (av := .exact (.bool true)) rfl ?_)
            refine G_q rfl (op_move (av := .exact (.bool true)) rfl ?_)
            refine G_n rfl rfl ?_
            refine G_n rfl rfl ?_
            refine G_n rfl rfl ?_
            refine G_n rfl rfl ?_
            refine G_n rfl rfl ?_
            refine G_n rfl rfl ?_
            refine G_n rfl rfl ?_
            refine G_q rfl (op_pick_t rfl (av := .exact (.bool true)) rfl ?_)
            refine G_nil ?_
            refine kI_normal ⟨_, h, ?_⟩
            exact Sub.of_le (AF.le_put (AV.le_eq rfl) (AF.le_put (AV.le_eq rfl) (AF.le_put (AV.le_eq rfl) (AF.le_put (AV.le_eq rfl) (AF.le_top _)))))
          · replace h := ite_f h hc
            refine Gy_q rfl rfl rfl (op_move (av := .row 3 c_api_TypeNode x0_l2) rfl ?_)
            refine Gy_q rfl rfl rfl (op_move (av := .row 3 c_api_TypeNode x7_l2) rfl ?_)
            obtain ⟨y615, hy615, h⟩ := bnd1_some h
            refine Gy_q rfl rfl rfl (op_pure (m_types_Equal_ok _ _ _ hy615) Tryd.func31 (by kernel_rfl) (LEs.cons (AV.le_eq rfl) (LEs.cons (AV.le_eq rfl) LEs.nil)) ?_)
            refine Gy_q rfl rfl rfl (op_move (av := .row 3 c_api_TypeNode x0_l2) rfl ?_)
            refine Gy_q rfl rfl rfl (op_move (av := .row 3 c_api_TypeNode x7_l2) rfl ?_)
            obtain ⟨y616, hy616, h⟩ := bnd1_some h
            refine Gy_q rfl rfl rfl (op_pure (m_ref6_Equal_ok _ _ _ hy616) Tryd.func23 (by kernel_rfl) (LEs.cons (AV.le_eq rfl) (LEs.cons (AV.le_eq rfl) LEs.nil)) ?_)
            refine Gy_q rfl rfl rfl (op_neqB (a := y615) (b := y616) (by kernel_rfl) rfl rfl ?_)
            refine G_q rfl (op_pick_f rfl (av := .exact (.bool (decide (¬ y615 = y616)))) rfl ?_)
            refine G_q rfl (op_move (av := .exact (.bool (decide (¬ y615 = y616)))) rfl ?_)
            refine G_split (p := ¬ y615 = y616) 30 rfl (fun hc => ?_) (fun hc => ?_)
            · replace h := ite_t h hc
              refine G_n rfl rfl ?_
              refine G_n rfl rfl ?_
              refine G_n rfl rfl ?_
              refine G_n rfl rfl ?_
              refine G_n rfl rfl ?_
              refine G_n rfl rfl ?_
              refine G_q rfl (op_pick_t rfl (av := .exact (.bool true)) rfl ?_)
              refine G_q rfl (op_move (av := .exact (.bool true)) rfl ?_)
              refine G_n rfl rfl ?_
              refine G_n rfl rfl ?_
              refine G_n rfl rfl ?_
              refine G_n rfl rfl ?_
              refine G_n rfl rfl ?_
              refine G_n rfl rfl ?_
              refine G_q rfl (op_pick_t rfl (av := .exact (.bool true)) rfl ?_)
              refine G_q rfl (op_move (av := .exact (.bool true)) rfl ?_)
              refine G_n rfl rfl ?_
              refine G_n rfl rfl ?_
              refine G_n rfl rfl ?_
              refine G_n rfl rfl ?_
              refine G_n rfl rfl ?_
              refine G_n rfl rfl ?_
              refine G_n rfl rfl ?_
              refine G_q rfl (op_pick_t rfl (av := .exact (.bool true)) rfl ?_)
              refine G_nil ?_
              refine kI_normal ⟨_, h, ?_⟩
              exact Sub.of_le (AF.le_put (AV.le_eq rfl) (AF.le_put (AV.le_eq rfl) (AF.le_put (AV.le_eq rfl) (AF.le_put (AV.le_eq rfl) (AF.le_top _)))))
            · replace h := ite_f h hc
              refine Gy_q rfl rfl rfl (op_move (av := .row 3 c_api_TypeNode x0_l2) rfl ?_)
              obtain ⟨y617, hy617, h⟩ := bnd1_some h
              refine Gy_q rfl rfl rfl (op_pure (m_types_Vars_ok _ _ hy617) Tryd.func33 (by kernel_rfl) (LEs.cons (AV.le_eq rfl) LEs.nil) ?_)
              refine Gy_q rfl rfl rfl (op_move (av := .row 3 c_api_TypeNode x0_l2) rfl ?_)
              obtain ⟨y618, hy618, h⟩ := bnd1_some h
              refine Gy_q rfl rfl rfl (op_pure (m_ref6_Vars_ok _ _ hy618) Tryd.func20 (by kernel_rfl) (LEs.cons (AV.le_eq rfl) LEs.nil) ?_)
              obtain ⟨y619, hy619, h⟩ := bnd1_some h
              refine Gy_q rfl rfl rfl (op_pure (m_help_Equal_int_ok _ _ _ hy619) Tryd.func32 (by kernel_rfl) (LEs.cons (AV.le_eq rfl) (LEs.cons (AV.le_eq rfl) LEs.nil)) ?_)
              refine Gy_q rfl rfl rfl (op_not rfl ?_)
              refine G_q rfl (op_pick_f rfl (av := .exact (.bool (!y619))) rfl ?_)
              refine G_q rfl (op_move (av := .exact (.bool (!y619))) rfl ?_)
              refine G_splitB (c := !y619) 38 rfl (fun hc => ?_) (fun hc => ?_)
              · replace h := ite_t h hc
                refine G_n rfl rfl ?_
                refine G_n rfl rfl ?_
                refine G_n rfl rfl ?_
                refine G_n rfl rfl ?_
                refine G_n rfl rfl ?_
                refine G_n rfl rfl ?_
                refine G_q rfl (op_pick_t rfl (av := .exact (.bool true)) rfl ?_)
                refine G_q rfl (op_move (av := .exact (.bool true)) rfl ?_)
                refine G_n rfl rfl ?_
                refine G_n rfl rfl ?_
                refine G_n rfl rfl ?_
                refine G_n rfl rfl ?_
                refine G_n rfl rfl ?_
                refine G_n rfl rfl ?_
                refine G_n rfl rfl ?_
                refine G_q rfl (op_pick_t rfl (av := .exact (.bool true)) rfl ?_)
                refine G_nil ?_
                refine kI_normal ⟨_, h, ?_⟩
                exact Sub.of_le (AF.le_put (AV.le_eq rfl) (AF.le_put (AV.le_eq rfl) (AF.le_put (AV.le_eq rfl) (AF.le_put (AV.le_eq rfl) (AF.le_top _)))))
              · replace h := ite_f h hc
                refine Gy_q rfl rfl rfl (op_move (av := .row 3 c_api_TypeNode x0_l2) rfl ?_)
                obtain ⟨y620, hy620, h⟩ := bnd1_some h
                refine Gy_q rfl rfl rfl (op_pure (m_types_Canon_ok _ _ hy620) Tryd.func34 (by kernel_rfl) (LEs.cons (AV.le_eq rfl) LEs.nil) ?_)
                refine Gy_q rfl rfl rfl (op_move (av := .row 3 c_api_TypeNode x0_l2) rfl ?_)
                obtain ⟨y621, hy621, h⟩ := bnd1_some h
                refine Gy_q rfl rfl rfl (op_pure (m_ref6_Canon_ok _ _ hy621) Tryd.func35 (by kernel_rfl) (LEs.cons (AV.le_eq rfl) LEs.nil) ?_)
                obtain ⟨y622, hy622, h⟩ := bnd1_some h
                refine Gy_q rfl rfl rfl (op_pure (m_help_Equal_api_TypeNode_ok _ _ _ hy622) Tryd.func21 (by kernel_rfl) (LEs.cons (AV.le_eq rfl) (LEs.cons (AV.le_eq rfl) LEs.nil)) ?_)
                refine Gy_q rfl rfl rfl (op_not rfl ?_)
                refine G_q rfl (op_pick_f rfl (av := .exact (.bool (!y622))) rfl ?_)
                refine G_q rfl (op_move (av := .exact (.bool (!y622))) rfl ?_)
                refine G_splitB (c := !y622) 46 rfl (fun hc => ?_) (fun hc => ?_)
                · replace h := ite_t h hc
                  refine G_n rfl rfl ?_
                  refine G_n rfl rfl ?_
                  refine G_n rfl rfl ?_
                  refine G_n rfl rfl ?_
                  refine G_n rfl rfl ?_
                  refine G_n rfl rfl ?_
                  refine G_n rfl rfl ?_
                  refine G_q rfl (op_pick_t rfl (av := .exact (.bool true)) rfl ?_)
                  refine G_nil ?_
                  refine kI_normal ⟨_, h, ?_⟩
                  exact Sub.of_le (AF.le_put (AV.le_eq rfl) (AF.le_put (AV.le_eq rfl) (AF.le_put (AV.le_eq rfl) (AF.le_put (AV.le_eq rfl) (AF.le_top _)))))
                · replace h := ite_f h hc
                  refine Gy_q rfl rfl rfl (op_move (av := .row 3 c_api_TypeNode x0_l2) rfl ?_)
                  refine Gy_q rfl rfl rfl (op_move (av := .row 1 c_string a2) rfl ?_)
                  obtain ⟨y623, hy623, h⟩ := bnd1_some h
                  refine Gy_l rfl rfl rfl (op_fun_1_0_1 (m_types_Format_ok _ _ _ hy623) Tryd.func36 (by kernel_rfl) (LEs.cons (AV.le_eq rfl) (LEs.cons (AV.le_eq rfl) LEs.nil)) ?_)
                  refine Gy_q rfl rfl rfl (op_move (av := .row 3 c_api_TypeNode x0_l2) rfl ?_)
                  refine Gy_q rfl rfl rfl (op_move (av := .row 1 c_string a2) rfl ?_)
                  obtain ⟨y624, hy624, h⟩ := bnd1_some h
                  refine Gy_q rfl rfl rfl (op_pure (m_ref6_Format_ok _ _ _ hy624) Tryd.func37 (by kernel_rfl) (LEs.cons (AV.le_eq rfl) (LEs.cons (AV.le_eq rfl) LEs.nil)) ?_)
                  refine Gy_q rfl rfl rfl (op_neqS rfl rfl ?_)
                  refine G_q rfl (op_pick_f rfl (av := .exact (.bool (decide (¬ y623 = y624)))) rfl ?_)
                  refine G_nil ?_
                  refine kI_normal ⟨_, h, ?_⟩
                  exact Sub.of_le (AF.le_put (AV.le_eq rfl) (AF.le_put (AV.le_eq rfl) (AF.le_put (AV.le_eq rfl) (AF.le_put (AV.le_eq rfl) (AF.le_top _)))))
        · refine k_cond_b (c := x54_j600) rfl (fun hc => ?_) (fun hc => ?_)
          · replace h := ite_t h hc
            refine k_seq ?_
            refine k_reg .free hmixP (by kernel_rfl) ?_
            refine G_q rfl (op_assign (av := .exact (.bool false)) rfl ?_)
            refine G_nil ?_
            refine kC_normal ?_
            refine k_ret ?_
            refine kC_ret ?_
            refine kB_ret ?_
            refine kC_ret ?_
            refine kI_ret ?_
            refine kB_ret ?_
            refine kI_ret ?_
            obtain rfl := Option.some.inj h
            refine kP_any (endN (af' := (AF.put AF0 (some 6) (.exact (.bool false)))) (σ' := [tabI]) _ rfl ?_ ⟨rfl, rfl⟩)
            exact Sub.of_le (AF.le_put (AV.le_eq rfl) (AF.le_top _))
          · replace h := ite_f h hc
            refine k_skip ?_
            refine kC_normal ?_
            refine k_reg .free hmixP (by kernel_rfl) ?_
            refine G_q rfl (op_move (av := .row 3 c_api_TypeNode x7_l2) rfl ?_)
            refine G_q rfl (op_assign (av := .row 3 c_api_TypeNode x7_l2) rfl ?_)
            refine G_nil ?_
            refine kB_normal ?_
            refine kC_normal ?_
            refine k_reg .free hmixP (by kernel_rfl) ?_
            refine G_q rfl (op_move (av := .exact (.int .i64 x8_l2)) rfl ?_)
            refine G_q rfl (op_add rfl rfl rfl ?_)
            refine G_q rfl (op_assign (av := .exact (.int .i64 (i64 (x8_l2 + 1)))) rfl ?_)
            refine G_nil ?_
            refine kI_normal ⟨_, _, _, h, ?_⟩
            exact Sub.of_le (AF.le_put (AV.le_eq rfl) (AF.le_put (AV.le_eq rfl) (AF.le_put (AV.le_eq rfl) (AF.le_put (AV.le_eq rfl) (AF.le_top _)))))
      · replace h := ite_f h hc
        refine k_exit ?_
        refine kC_exit ?_
        refine kI_exit ?_
        refine kB_exit ?_
        refine kI_normal ⟨h, ?_⟩
        exact Sub.of_le (AF.le_top _)
  · refine k_seq ?_
    refine k_reg .free hmixP (by kernel_rfl) ?_
    obtain ⟨y625, hy625, h⟩ := bnd1_some h
    refine G_l rfl (op_fun_1_0_1 (m_law7_awake_ok _ hy625) Tryd.func16 (by kernel_rfl) LEs.nil ?_)
    refine G_q rfl (op_assign (av := .exact (.bool y625)) rfl ?_)
    refine G_nil ?_
    refine kC_normal ?_
    refine k_ret ?_
    obtain rfl := Option.some.inj h
    refine kP_any (endN (af' := (AF.put AF0 (some 6) (.exact (.bool y625)))) (σ' := [tabI]) _ rfl ?_ ⟨rfl, rfl⟩)
    exact Sub.of_le (AF.le_put (AV.le_eq rfl) (AF.le_top _))
end Go.Proofs.YtdfdjgolijckfaaDoor
