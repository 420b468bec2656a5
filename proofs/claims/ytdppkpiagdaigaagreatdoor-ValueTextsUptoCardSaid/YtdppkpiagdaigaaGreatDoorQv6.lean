/- The functions compute their models, by program. -/
import Derived.Test.YtdppkpiagdaigaaGreatDoorQv5
namespace Go.Proofs.YtdppkpiagdaigaaGreatDoor
open Go.RowKit
attribute [local irreducible] AV.exact AV.top AV.row AV.ptr AV.agg AV.tup AV.eptr AV.fn AV.nilq AV.nilqn opA opB opM opR Quiet Loud Reads wpG awp den Sub SubU Pure Fun vecI vecT boxI CellsAll CellsOf OneC LEs LEss
set_option maxRecDepth 100000

set_option maxHeartbeats 4000000 in
theorem m_ref9_Dot_ok (a0 : Int) (a1 : List (List UInt8)) (r : (List UInt8)) (h : m_ref9_Dot a0 a1 = some r) : Pure Tryz.prog 37 [(.exact (.int .i64 a0)), (.row 1 c_api_Value a1)] (.exact (.string (bs r))) := by
  unfold m_ref9_Dot at h
  refine Pure.ofFun (fun_of_awp Tryz.func37 rfl Tryz.ntmps37 (by simp) rfl (res1 rfl) fun E hE => k_end ?_)
  refine k_seq ?_
  refine k_reg .free hmixP (by kernel_rfl) ?_
  refine G_q rfl (op_assign (av := .exact (.string (bs ([] : List UInt8)))) rfl ?_)
  refine G_nil ?_
  refine kC_normal ?_
  refine k_seq ?_
  refine k_reg .free hmixP (by kernel_rfl) ?_
  refine G_q rfl (op_move (av := .exact (.int .i64 a0)) rfl ?_)
  obtain ⟨y1, hy1, h⟩ := bnd1_some h
  refine G_q rfl (op_pure (m_ref9_Name_ok _ _ hy1) Tryz.func31 (by kernel_rfl) (LEs.cons (AV.le_eq rfl) LEs.nil) ?_)
  refine G_l rfl (op_litI (n := 1) (enc := c_api_Value) [y1] (by kernel_rfl) (CellsAll.cons rfl CellsOf.str CellsAll.nil) rfl (by kernel_rfl) (LEss.cons (LEs.cons (AV.le_eq rfl) LEs.nil) LEss.nil) (fun v2 => ?_))
  refine G_q rfl (op_move (av := .row 1 c_api_Value a1) rfl ?_)
  obtain ⟨n3, h⟩ := need_some h
  refine G_l rfl (op_appT (by kernel_rfl) rfl rfl oc_c_api_Value n3 (fun v4 => ?_))
  refine G_sub rfl (SubU.freezeT (s := 9) rfl len_c_api_Value) ?_
  obtain ⟨y5, hy5, h⟩ := bnd1_some h
  refine G_q rfl (op_pure (m_ref9_Make_ok _ _ _ hy5) Tryz.func33 (by kernel_rfl) (LEs.cons (AV.le_eq rfl) (LEs.cons (AV.le_eq rfl) LEs.nil)) ?_)
  refine G_q rfl (op_assign (av := .exact (.string (bs y5))) rfl ?_)
  refine G_nil ?_
  refine kC_normal ?_
  refine k_ret ?_
  obtain rfl := Option.some.inj h
  refine kP_any (endN (af' := (AF.put AF0 (some 4) (.exact (.string (bs y5))))) (σ' := []) _ rfl ?_ ⟨rfl, rfl⟩)
  exact Sub.of_le (AF.le_put (AV.le_eq rfl) (AF.le_top _))
set_option maxHeartbeats 4000000 in
theorem m_ref9_Map_ok (a0 : List (List UInt8)) (a1 : List (List UInt8)) (r : (List UInt8)) (h : m_ref9_Map a0 a1 = some r) : Pure Tryz.prog 36 [(.row 1 c_api_Value a0), (.row 1 c_api_Value a1)] (.exact (.string (bs r))) := by
  unfold m_ref9_Map at h
  refine Pure.ofFun (fun_of_awp Tryz.func36 rfl Tryz.ntmps36 (by simp) rfl (res1 rfl) fun E hE => k_end ?_)
  refine k_seq ?_
  refine k_reg .free hmixP (by kernel_rfl) ?_
  refine G_q rfl (op_assign (av := .exact (.string (bs ([] : List UInt8)))) rfl ?_)
  refine G_nil ?_
  refine kC_normal ?_
  refine k_seq ?_
  refine k_join1_0 h (fun (x23_j7 : Bool) => (AF.put (AF.put (AF.put AF0 (some 0) (.row 1 c_api_Value a0)) (some 1) (.row 1 c_api_Value a1)) (some 23) (.exact (.bool x23_j7)))) (fun (x23_j7 : Bool) => []) (fun k7 h => ?_) (fun x23_j7 h => ?_)
  · refine k_reg .free hmixP (by kernel_rfl) ?_
    refine G_q rfl (op_move (av := .row 1 c_api_Value a0) rfl ?_)
    refine G_q rfl (op_len_row (by kernel_rfl) rfl ?_)
    refine G_q rfl (op_move (av := .row 1 c_api_Value a1) rfl ?_)
    refine G_q rfl (op_len_row (by kernel_rfl) rfl ?_)
    refine G_q rfl (op_neq rfl rfl ?_)
    refine G_q rfl (op_move (av := .exact (.bool (decide (¬ (List.length a0 : Int) = (List.length a1 : Int))))) rfl ?_)
    refine G_split (p := ¬ (List.length a0 : Int) = (List.length a1 : Int)) 14 rfl (fun hc => ?_) (fun hc => ?_)
    · replace h := ite_t h hc
      refine G_n rfl rfl ?_
      refine G_n rfl rfl ?_
      refine G_n rfl rfl ?_
      refine G_q rfl (op_pick_t rfl (av := .exact (.bool true)) rfl ?_)
      refine G_q rfl (op_move (av := .exact (.bool true)) rfl ?_)
      refine G_n rfl rfl ?_
      refine G_n rfl rfl ?_
      refine G_n rfl rfl ?_
      refine G_q rfl (op_pick_t rfl (av := .exact (.bool true)) rfl ?_)
      refine G_nil ?_
      refine kI_normal ⟨_, h, ?_⟩
      exact Sub.of_le (AF.le_put (AV.le_eq rfl) (AF.le_put (AV.le_eq rfl) (AF.le_put (AV.le_eq rfl) (AF.le_top _))))
    · replace h := ite_f h hc
      refine Gy_q rfl rfl rfl (op_move (av := .row 1 c_api_Value a0) rfl ?_)
      obtain ⟨y10, hy10, h⟩ := bnd1_some h
      refine Gy_q rfl rfl rfl (op_pure (m_ref9_all_ok _ _ hy10) Tryz.func62 (by kernel_rfl) (LEs.cons (AV.le_eq rfl) LEs.nil) ?_)
      refine Gy_q rfl rfl rfl (op_not rfl ?_)
      refine G_q rfl (op_pick_f rfl (av := .exact (.bool (!y10))) rfl ?_)
      refine G_q rfl (op_move (av := .exact (.bool (!y10))) rfl ?_)
      refine G_splitB (c := !y10) 19 rfl (fun hc => ?_) (fun hc => ?_)
      · replace h := ite_t h hc
        refine G_n rfl rfl ?_
        refine G_n rfl rfl ?_
        refine G_n rfl rfl ?_
        refine G_q rfl (op_pick_t rfl (av := .exact (.bool true)) rfl ?_)
        refine G_nil ?_
        refine kI_normal ⟨_, h, ?_⟩
        exact Sub.of_le (AF.le_put (AV.le_eq rfl) (AF.le_put (AV.le_eq rfl) (AF.le_put (AV.le_eq rfl) (AF.le_top _))))
      · replace h := ite_f h hc
        refine Gy_q rfl rfl rfl (op_move (av := .row 1 c_api_Value a1) rfl ?_)
        obtain ⟨y11, hy11, h⟩ := bnd1_some h
        refine Gy_q rfl rfl rfl (op_pure (m_ref9_all_ok _ _ hy11) Tryz.func62 (by kernel_rfl) (LEs.cons (AV.le_eq rfl) LEs.nil) ?_)
        refine Gy_q rfl rfl rfl (op_not rfl ?_)
        refine G_q rfl (op_pick_f rfl (av := .exact (.bool (!y11))) rfl ?_)
        refine G_nil ?_
        refine kI_normal ⟨_, h, ?_⟩
        exact Sub.of_le (AF.le_put (AV.le_eq rfl) (AF.le_put (AV.le_eq rfl) (AF.le_put (AV.le_eq rfl) (AF.le_top _))))
  · refine k_cond_b (c := x23_j7) rfl (fun hc => ?_) (fun hc => ?_)
    · replace h := ite_t h hc
      refine k_seq ?_
      refine k_reg .free hmixP (by kernel_rfl) ?_
      refine G_q rfl (op_assign (av := .exact (.string (bs ([] : List UInt8)))) rfl ?_)
      refine G_nil ?_
      refine kC_normal ?_
      refine k_ret ?_
      refine kC_ret ?_
      obtain rfl := Option.some.inj h
      refine kP_any (endN (af' := (AF.put AF0 (some 4) (.exact (.string (bs ([] : List UInt8)))))) (σ' := []) _ rfl ?_ ⟨rfl, rfl⟩)
      exact Sub.of_le (AF.le_put (AV.le_eq rfl) (AF.le_top _))
    · replace h := ite_f h hc
      refine k_skip ?_
      refine kC_normal ?_
      refine k_seq ?_
      refine k_reg .free hmixP (by kernel_rfl) ?_
      refine G_q rfl (op_move (av := .row 1 c_api_Value a0) rfl ?_)
      obtain ⟨y12, hy12, h⟩ := bnd1_some h
      refine G_q rfl (op_pure (m_ref9_Sort_ok _ _ hy12) Tryz.func24 (by kernel_rfl) (LEs.cons (AV.le_eq rfl) LEs.nil) ?_)
      refine G_q rfl (op_assign (av := .row 1 c_api_Value y12) rfl ?_)
      refine G_nil ?_
      refine kC_normal ?_
      refine k_seq ?_
      refine k_seq ?_
      refine k_reg .free hmixP (by kernel_rfl) ?_
      refine G_q rfl (op_move (av := .row 1 c_api_Value y12) rfl ?_)
      refine G_q rfl (op_len_row (by kernel_rfl) rfl ?_)
      refine G_q rfl (op_move (av := .row 1 c_api_Value a0) rfl ?_)
      refine G_q rfl (op_len_row (by kernel_rfl) rfl ?_)
      refine G_q rfl (op_neq rfl rfl ?_)
      refine G_nil ?_
      refine kC_normal ?_
      refine k_cond_d (p := ¬ (List.length y12 : Int) = (List.length a0 : Int)) rfl (fun hc => ?_) (fun hc => ?_)
      · replace h := ite_t h hc
        refine k_seq ?_
        refine k_reg .free hmixP (by kernel_rfl) ?_
        refine G_q rfl (op_assign (av := .exact (.string (bs ([] : List UInt8)))) rfl ?_)
        refine G_nil ?_
        refine kC_normal ?_
        refine k_ret ?_
        refine kC_ret ?_
        obtain rfl := Option.some.inj h
        refine kP_any (endN (af' := (AF.put AF0 (some 4) (.exact (.string (bs ([] : List UInt8)))))) (σ' := []) _ rfl ?_ ⟨rfl, rfl⟩)
        exact Sub.of_le (AF.le_put (AV.le_eq rfl) (AF.le_top _))
      · replace h := ite_f h hc
        refine k_skip ?_
        refine kC_normal ?_
        refine k_seq ?_
        refine k_reg .free hmixP (by kernel_rfl) ?_
        refine G_q rfl (op_assign (av := .exact (.slice none 0 0)) rfl ?_)
        refine G_nil ?_
        refine kC_normal ?_
        refine k_join1_1 h (fun (x6_j13 : List (List UInt8)) (v6_j13 : Value) => (AF.put AF0 (some 6) (.exact v6_j13))) (fun (x6_j13 : List (List UInt8)) (v6_j13 : Value) => [vecT Tryz.prog 27 1 c_api_Value v6_j13 x6_j13]) (fun k13 h => ?_) (fun x6_j13 v6_j13 h => ?_)
        · refine k_seq ?_
          refine k_reg .free hmixP (by kernel_rfl) ?_
          refine G_q rfl (op_assign (av := .exact (.int .i64 0)) rfl ?_)
          refine G_nil ?_
          refine kC_normal ?_
          refine k_block ?_
          refine k_loop2_1 (m_ref9_Map_L8 a0 a1 y12 k13) (m_ref9_Map_B8 a0 a1 y12 k13) (fun _ _ => rfl) (fun m _ _ => rfl) h (fun (x6_l8 : List (List UInt8)) (x7_l8 : Int) (v6_l8 : Value) => (AF.put (AF.put (AF.put (AF.put (AF.put AF0 (some 0) (.row 1 c_api_Value a0)) (some 1) (.row 1 c_api_Value a1)) (some 5) (.row 1 c_api_Value y12)) (some 6) (.exact v6_l8)) (some 7) (.exact (.int .i64 x7_l8)))) (fun (x6_l8 : List (List UInt8)) (x7_l8 : Int) (v6_l8 : Value) => [vecT Tryz.prog 27 1 c_api_Value v6_l8 x6_l8]) (.slice none 0 0) ?_ (fun rec8 x6_l8 x7_l8 v6_l8 h => ?_)
          · refine Sub.trans (SubU.to (SubU.nilT (P := Tryz.prog) (t := 27) (n := 1) (enc := c_api_Value))) ?_
            exact Sub.of_le (AF.le_put (AV.le_eq rfl) (AF.le_put (AV.le_eq rfl) (AF.le_put (AV.le_eq rfl) (AF.le_put (AV.le_eq rfl) (AF.le_put (AV.le_eq rfl) (AF.le_top _))))))
          · unfold m_ref9_Map_B8 at h
            refine k_seq ?_
            refine k_seq ?_
            refine k_reg .free hmixP (by kernel_rfl) ?_
            refine G_q rfl (op_move (av := .exact (.int .i64 x7_l8)) rfl ?_)
            refine G_q rfl (op_move (av := .row 1 c_api_Value y12) rfl ?_)
            refine G_q rfl (op_len_row (by kernel_rfl) rfl ?_)
            refine G_q rfl (op_lss rfl rfl ?_)
            refine G_nil ?_
            refine kC_normal ?_
            refine k_cond_d (p := x7_l8 < (List.length y12 : Int)) rfl (fun hc => ?_) (fun hc => ?_)
            · replace h := ite_t h hc
              refine k_skip ?_
              refine kC_normal ?_
              refine k_join1_1 h (fun (x6_j420 : List (List UInt8)) (v6_j420 : Value) => (AF.put (AF.put (AF.put (AF.put (AF.put AF0 (some 0) (.row 1 c_api_Value a0)) (some 1) (.row 1 c_api_Value a1)) (some 5) (.row 1 c_api_Value y12)) (some 6) (.exact v6_j420)) (some 7) (.exact (.int .i64 x7_l8)))) (fun (x6_j420 : List (List UInt8)) (v6_j420 : Value) => [vecT Tryz.prog 27 1 c_api_Value v6_j420 x6_j420]) (fun k420 h => ?_) (fun x6_j420 v6_j420 h => ?_)
              · refine k_block ?_
                refine k_seq ?_
                refine k_reg .free hmixP (by kernel_rfl) ?_
                refine G_q rfl (op_assign (av := .exact (.int .i64 0)) rfl ?_)
                refine G_nil ?_
                refine kC_normal ?_
                refine k_block ?_
                refine k_loop2_1 (m_ref9_Map_L14 a0 a1 y12 x7_l8 k420) (m_ref9_Map_B14 a0 a1 y12 x7_l8 k420) (fun _ _ => rfl) (fun m _ _ => rfl) h (fun (x6_l14 : List (List UInt8)) (x8_l14 : Int) (v6_l14 : Value) => (AF.put (AF.put (AF.put (AF.put (AF.put (AF.put AF0 (some 0) (.row 1 c_api_Value a0)) (some 1) (.row 1 c_api_Value a1)) (some 5) (.row 1 c_api_Value y12)) (some 6) (.exact v6_l14)) (some 7) (.exact (.int .i64 x7_l8))) (some 8) (.exact (.int .i64 x8_l14)))) (fun (x6_l14 : List (List UInt8)) (x8_l14 : Int) (v6_l14 : Value) => [vecT Tryz.prog 27 1 c_api_Value v6_l14 x6_l14]) v6_l8 ?_ (fun rec14 x6_l14 x8_l14 v6_l14 h => ?_)
                · exact Sub.of_le (AF.le_put (AV.le_eq rfl) (AF.le_put (AV.le_eq rfl) (AF.le_put (AV.le_eq rfl) (AF.le_put (AV.le_eq rfl) (AF.le_put (AV.le_eq rfl) (AF.le_put (AV.le_eq rfl) (AF.le_top _)))))))
                · unfold m_ref9_Map_B14 at h
                  refine k_seq ?_
                  refine k_seq ?_
                  refine k_reg .free hmixP (by kernel_rfl) ?_
                  refine G_q rfl (op_move (av := .exact (.int .i64 x8_l14)) rfl ?_)
                  refine G_q rfl (op_move (av := .row 1 c_api_Value a0) rfl ?_)
                  refine G_q rfl (op_len_row (by kernel_rfl) rfl ?_)
                  refine G_q rfl (op_lss rfl rfl ?_)
                  refine G_nil ?_
                  refine kC_normal ?_
                  refine k_cond_d (p := x8_l14 < (List.length a0 : Int)) rfl (fun hc => ?_) (fun hc => ?_)
                  · replace h := ite_t h hc
                    refine k_skip ?_
                    refine kC_normal ?_
                    refine k_join1_1 h (fun (x6_j487 : List (List UInt8)) (v6_j487 : Value) => (AF.put (AF.put (AF.put (AF.put (AF.put (AF.put AF0 (some 0) (.row 1 c_api_Value a0)) (some 1) (.row 1 c_api_Value a1)) (some 5) (.row 1 c_api_Value y12)) (some 6) (.exact v6_j487)) (some 7) (.exact (.int .i64 x7_l8))) (some 8) (.exact (.int .i64 x8_l14)))) (fun (x6_j487 : List (List UInt8)) (v6_j487 : Value) => [vecT Tryz.prog 27 1 c_api_Value v6_j487 x6_j487]) (fun k487 h => ?_) (fun x6_j487 v6_j487 h => ?_)
                    · refine k_block ?_
                      refine k_seq ?_
                      refine k_plan [] [(0, 0), (0, 1), (0, 2), (0, 3), (0, 4), (0, 5), (0, 6), (0, 7), (0, 8)] hmixP (by kernel_rfl) ?_
                      refine P_q no34_0 rfl (op_move (av := .row 1 c_api_Value a0) rfl ?_)
                      refine P_q no34_0 rfl (op_move (av := .exact (.int .i64 x8_l14)) rfl ?_)
                      obtain ⟨n494, h⟩ := need_some h
                      refine P_q no34_0 rfl (op_index_row (by kernel_rfl) rfl rfl n494.1 n494.2 ?_)
                      refine P_q no34_0 rfl (op_load1p (a := .exact (.string (bs (gi a0 x8_l14)))) (by kernel_rfl) rfl rfl ?_)
                      refine P_q no34_0 rfl (op_move (av := .row 1 c_api_Value y12) rfl ?_)
                      refine P_q no34_0 rfl (op_move (av := .exact (.int .i64 x7_l8)) rfl ?_)
                      obtain ⟨n495, h⟩ := need_some h
                      refine P_q no34_0 rfl (op_index_row (by kernel_rfl) rfl rfl n495.1 n495.2 ?_)
                      refine P_q no34_0 rfl (op_load1p (a := .exact (.string (bs (gi y12 x7_l8)))) (by kernel_rfl) rfl rfl ?_)
                      refine P_q no34_0 rfl (op_eqlS rfl rfl ?_)
                      refine P_nil ?_
                      refine kC_normal ?_
                      refine k_cond_d (p := (gi a0 x8_l14) = (gi y12 x7_l8)) rfl (fun hc => ?_) (fun hc => ?_)
                      · replace h := ite_t h hc
                        refine k_plan [] [(0, 0), (0, 1), (0, 2), (0, 3), (0, 4), (0, 5), (0, 6), (0, 7), (0, 8), (0, 9), (2, 10), (0, 11)] hmixP (by kernel_rfl) ?_
                        refine P_q no34_0 rfl (op_move (av := .exact v6_l14) rfl ?_)
                        refine P_q no34_0 rfl (op_move (av := .row 1 c_api_Value y12) rfl ?_)
                        refine P_q no34_0 rfl (op_move (av := .exact (.int .i64 x7_l8)) rfl ?_)
                        obtain ⟨n496, h⟩ := need_some h
                        refine P_q no34_0 rfl (op_index_row (by kernel_rfl) rfl rfl n496.1 n496.2 ?_)
                        refine P_q no34_0 rfl (op_load1p (a := .exact (.string (bs (gi y12 x7_l8)))) (by kernel_rfl) rfl rfl ?_)
                        refine P_q no34_0 rfl (op_move (av := .row 1 c_api_Value a1) rfl ?_)
                        refine P_q no34_0 rfl (op_move (av := .exact (.int .i64 x8_l14)) rfl ?_)
                        obtain ⟨n497, h⟩ := need_some h
                        refine P_q no34_0 rfl (op_index_row (by kernel_rfl) rfl rfl n497.1 n497.2 ?_)
                        refine P_q no34_0 rfl (op_load1p (a := .exact (.string (bs (gi a1 x8_l14)))) (by kernel_rfl) rfl rfl ?_)
                        refine P_q no34_0 rfl (op_litT (n := 1) (enc := c_api_Value) [gi y12 x7_l8, gi a1 x8_l14] (CellsAll.cons rfl CellsOf.str (CellsAll.cons rfl CellsOf.str CellsAll.nil)) rfl (by kernel_rfl) (LEss.cons (LEs.cons (AV.le_eq rfl) LEs.nil) (LEss.cons (LEs.cons (AV.le_eq rfl) LEs.nil) LEss.nil)) ?_)
                        obtain ⟨n498, h⟩ := need_some h
                        refine P_l rfl (op_appT (by kernel_rfl) rfl rfl oc_c_api_Value n498 (fun v499 => ?_))
                        refine P_q no34_0 rfl (op_assign (av := .exact v499) rfl ?_)
                        refine P_nil ?_
                        refine kB_normal ?_
                        refine kI_normal ⟨_, v499, h, ?_⟩
                        exact Sub.of_le (AF.le_put (AV.le_eq rfl) (AF.le_put (AV.le_eq rfl) (AF.le_put (AV.le_eq rfl) (AF.le_put (AV.le_eq rfl) (AF.le_put (AV.le_eq rfl) (AF.le_put (AV.le_eq rfl) (AF.le_top _)))))))
                      · replace h := ite_f h hc
                        refine k_skip ?_
                        refine kB_normal ?_
                        refine kI_normal ⟨_, v6_l14, h, ?_⟩
                        exact Sub.of_le (AF.le_put (AV.le_eq rfl) (AF.le_put (AV.le_eq rfl) (AF.le_put (AV.le_eq rfl) (AF.le_put (AV.le_eq rfl) (AF.le_put (AV.le_eq rfl) (AF.le_put (AV.le_eq rfl) (AF.le_top _)))))))
                    · refine k_reg .free hmixP (by kernel_rfl) ?_
                      refine G_q rfl (op_move (av := .exact (.int .i64 x8_l14)) rfl ?_)
                      refine G_q rfl (op_add rfl rfl rfl ?_)
                      refine G_q rfl (op_assign (av := .exact (.int .i64 (i64 (x8_l14 + 1)))) rfl ?_)
                      refine G_nil ?_
                      refine kI_normal ⟨_, _, v6_j487, h, ?_⟩
                      exact Sub.of_le (AF.le_put (AV.le_eq rfl) (AF.le_put (AV.le_eq rfl) (AF.le_put (AV.le_eq rfl) (AF.le_put (AV.le_eq rfl) (AF.le_put (AV.le_eq rfl) (AF.le_put (AV.le_eq rfl) (AF.le_top _)))))))
                  · replace h := ite_f h hc
                    refine k_exit ?_
                    refine kC_exit ?_
                    refine kI_exit ?_
                    refine kB_exit ?_
                    refine kB_normal ?_
                    refine kI_normal ⟨_, v6_l14, h, ?_⟩
                    exact Sub.of_le (AF.le_put (AV.le_eq rfl) (AF.le_put (AV.le_eq rfl) (AF.le_put (AV.le_eq rfl) (AF.le_put (AV.le_eq rfl) (AF.le_put (AV.le_eq rfl) (AF.le_top _))))))
              · refine k_reg .free hmixP (by kernel_rfl) ?_
                refine G_q rfl (op_move (av := .exact (.int .i64 x7_l8)) rfl ?_)
                refine G_q rfl (op_add rfl rfl rfl ?_)
                refine G_q rfl (op_assign (av := .exact (.int .i64 (i64 (x7_l8 + 1)))) rfl ?_)
                refine G_nil ?_
                refine kI_normal ⟨_, _, v6_j420, h, ?_⟩
                exact Sub.of_le (AF.le_put (AV.le_eq rfl) (AF.le_put (AV.le_eq rfl) (AF.le_put (AV.le_eq rfl) (AF.le_put (AV.le_eq rfl) (AF.le_put (AV.le_eq rfl) (AF.le_top _))))))
            · replace h := ite_f h hc
              refine k_exit ?_
              refine kC_exit ?_
              refine kI_exit ?_
              refine kB_exit ?_
              refine kI_normal ⟨_, v6_l8, h, ?_⟩
              exact Sub.of_le (AF.le_put (AV.le_eq rfl) (AF.le_top _))
        · refine k_seq ?_
          refine k_reg .free hmixP (by kernel_rfl) ?_
          refine G_q rfl (op_move (av := .exact v6_j13) rfl ?_)
          refine G_sub rfl (SubU.freezeT2 (s1 := 6) (s2 := 63) rfl rfl len_c_api_Value) ?_
          obtain ⟨y500, hy500, h⟩ := bnd1_some h
          refine G_q rfl (op_pure (m_ref9_compound_ok _ _ _ hy500) Tryz.func63 (by kernel_rfl) (LEs.cons (AV.le_eq rfl) (LEs.cons (AV.le_eq rfl) LEs.nil)) ?_)
          refine G_q rfl (op_assign (av := .exact (.string (bs y500))) rfl ?_)
          refine G_nil ?_
          refine kC_normal ?_
          refine k_ret ?_
          obtain rfl := Option.some.inj h
          refine kP_any (endN (af' := (AF.put AF0 (some 4) (.exact (.string (bs y500))))) (σ' := []) _ rfl ?_ ⟨rfl, rfl⟩)
          exact Sub.of_le (AF.le_put (AV.le_eq rfl) (AF.le_top _))
set_option maxHeartbeats 4000000 in
theorem m_ref9_eight_ok (a0 : Int) (r : (List UInt8)) (h : m_ref9_eight a0 = some r) : Pure Tryz.prog 59 [(.exact (.int .i64 a0))] (.exact (.string (bs r))) := by
  unfold m_ref9_eight at h
  refine Pure.ofFun (fun_of_awp Tryz.func59 rfl Tryz.ntmps59 (by simp) rfl (res1 rfl) fun E hE => k_end ?_)
  refine k_seq ?_
  refine k_reg .free hmixP (by kernel_rfl) ?_
  refine G_q rfl (op_assign (av := .exact (.string (bs ([] : List UInt8)))) rfl ?_)
  refine G_nil ?_
  refine kC_normal ?_
  refine k_seq ?_
  refine k_reg .free hmixP (by kernel_rfl) ?_
  obtain ⟨n1, h⟩ := need_some h
  refine G_l rfl (op_make (enc := c_uint8) (zr := (0 : UInt8)) (by kernel_rfl) rfl rfl n1.1 n1.2 len_c_uint8 Tryz.zeroValue5 (fun _ _ => (Fit.ex Fit.nil0)) (fun v2 => ?_))
  refine G_q rfl (op_assign (av := .exact v2) rfl ?_)
  refine G_nil ?_
  refine kC_normal ?_
  refine k_join1_0 h (fun (x3_j3 : List UInt8) => (AF.put AF0 (some 3) (.exact v2))) (fun (x3_j3 : List UInt8) => [vecT Tryz.prog 60 1 c_uint8 v2 x3_j3]) (fun k3 h => ?_) (fun x3_j3 h => ?_)
  · refine k_seq ?_
    refine k_reg .free hmixP (by kernel_rfl) ?_
    refine G_q rfl (op_assign (av := .exact (.int .i64 0)) rfl ?_)
    refine G_nil ?_
    refine kC_normal ?_
    refine k_block ?_
    refine k_loop2_0 (m_ref9_eight_L2 a0 k3) (m_ref9_eight_B2 a0 k3) (fun _ _ => rfl) (fun m _ _ => rfl) h (fun (x3_l2 : List UInt8) (x4_l2 : Int) => (AF.put (AF.put (AF.put AF0 (some 0) (.exact (.int .i64 a0))) (some 3) (.exact v2)) (some 4) (.exact (.int .i64 x4_l2)))) (fun (x3_l2 : List UInt8) (x4_l2 : Int) => [vecT Tryz.prog 60 1 c_uint8 v2 x3_l2]) ?_ (fun rec2 x3_l2 x4_l2 h => ?_)
    · exact Sub.of_le (AF.le_put (AV.le_eq rfl) (AF.le_put (AV.le_eq rfl) (AF.le_put (AV.le_eq rfl) (AF.le_top _))))
    · unfold m_ref9_eight_B2 at h
      refine k_seq ?_
      refine k_seq ?_
      refine k_reg .free hmixP (by kernel_rfl) ?_
      refine G_q rfl (op_move (av := .exact (.int .i64 x4_l2)) rfl ?_)
      refine G_q rfl (op_lss rfl rfl ?_)
      refine G_nil ?_
      refine kC_normal ?_
      refine k_cond_d (p := x4_l2 < 8) rfl (fun hc => ?_) (fun hc => ?_)
      · replace h := ite_t h hc
        refine k_skip ?_
        refine kC_normal ?_
        refine k_seq ?_
        refine k_block ?_
        refine k_reg .free hmixP (by kernel_rfl) ?_
        refine G_q rfl (op_move (av := .exact v2) rfl ?_)
        refine G_q rfl (op_move (av := .exact (.int .i64 x4_l2)) rfl ?_)
        refine G_q rfl (op_sub rfl rfl rfl ?_)
        refine G_q rfl (op_move (av := .exact (.int .i64 a0)) rfl ?_)
        refine G_q rfl (op_convInt (k := .u64) (by kernel_rfl) rfl rfl ?_)
        refine G_q rfl (op_move (av := .exact (.int .i64 x4_l2)) rfl ?_)
        refine G_q rfl (op_mul rfl rfl rfl ?_)
        refine G_q rfl (op_convInt (k := .u64) (by kernel_rfl) rfl rfl ?_)
        obtain ⟨n15, h⟩ := need_some h
        refine G_q rfl (op_shr rfl rfl n15 rfl ?_)
        refine G_q rfl (op_convInt (k := .u8) (r := (UInt8.toNat (u8i (Int.fdiv (IntKind.u64.wrap (a0)) (2 ^ min (Int.toNat (IntKind.u64.wrap (i64 (8 * x4_l2)))) IntKind.u64.bits))) : Int)) (by kernel_rfl) rfl (u8i_eq _) ?_)
        obtain ⟨n16, h⟩ := need_some h
        refine G_r rfl (op_index_vec (by kernel_rfl) rfl rfl n16.1 n16.2 ?_)
        refine G_l rfl (op_store_vec (i := i64 (7 - x4_l2)) (o := 0) (z := u8i (Int.fdiv (IntKind.u64.wrap (a0)) (2 ^ min (Int.toNat (IntKind.u64.wrap (i64 (8 * x4_l2)))) IntKind.u64.bits))) (c' := [.exact (.int .u8 (UInt8.toNat (u8i (Int.fdiv (IntKind.u64.wrap (a0)) (2 ^ min (Int.toNat (IntKind.u64.wrap (i64 (8 * x4_l2)))) IntKind.u64.bits))) : Int))]) (by kernel_rfl) len_c_uint8 rfl n16.1 n16.2 rfl CellsOf.int (LEs.cons (AV.le_eq rfl) LEs.nil) (OneC.int OneC.nil) (by kernel_rfl) (Nat.le_of_ble_eq_true rfl) rfl ?_)
        refine G_nil ?_
        refine kB_normal ?_
        refine kC_normal ?_
        refine k_reg .free hmixP (by kernel_rfl) ?_
        refine G_q rfl (op_move (av := .exact (.int .i64 x4_l2)) rfl ?_)
        refine G_q rfl (op_add rfl rfl rfl ?_)
        refine G_q rfl (op_assign (av := .exact (.int .i64 (i64 (x4_l2 + 1)))) rfl ?_)
        refine G_nil ?_
        refine kI_normal ⟨_, _, h, ?_⟩
        exact Sub.of_le (AF.le_put (AV.le_eq rfl) (AF.le_put (AV.le_eq rfl) (AF.le_put (AV.le_eq rfl) (AF.le_top _))))
      · replace h := ite_f h hc
        refine k_exit ?_
        refine kC_exit ?_
        refine kI_exit ?_
        refine kB_exit ?_
        refine kI_normal ⟨_, h, ?_⟩
        exact Sub.of_le (AF.le_put (AV.le_eq rfl) (AF.le_top _))
  · refine k_seq ?_
    refine k_reg .free hmixP (by kernel_rfl) ?_
    refine G_q rfl (op_move (av := .exact v2) rfl ?_)
    refine G_r rfl (op_bytesS_bor rfl (by kernel_rfl) (Bor.vec (List.Mem.head _) len_c_uint8) ?_)
    refine G_q rfl (op_assign (av := .exact (.string (bs x3_j3))) rfl ?_)
    refine G_nil ?_
    refine kC_normal ?_
    refine k_ret ?_
    obtain rfl := Option.some.inj h
    refine kP_any (endN (af' := (AF.put AF0 (some 2) (.exact (.string (bs x3_j3))))) (σ' := []) _ rfl ?_ ⟨rfl, rfl⟩)
    refine Sub.trans (SubU.to SubU.drop) ?_
    exact Sub.of_le (AF.le_put (AV.le_eq rfl) (AF.le_top _))
set_option maxHeartbeats 4000000 in
theorem m_ref9_Int_ok (a0 : Int) (r : (List UInt8)) (h : m_ref9_Int a0 = some r) : Pure Tryz.prog 27 [(.exact (.int .i64 a0))] (.exact (.string (bs r))) := by
  unfold m_ref9_Int at h
  refine Pure.ofFun (fun_of_awp Tryz.func27 rfl Tryz.ntmps27 (by simp) rfl (res1 rfl) fun E hE => k_end ?_)
  refine k_seq ?_
  refine k_reg .free hmixP (by kernel_rfl) ?_
  refine G_q rfl (op_assign (av := .exact (.string (bs ([] : List UInt8)))) rfl ?_)
  refine G_nil ?_
  refine kC_normal ?_
  refine k_seq ?_
  refine k_plan [] [(0, 0), (0, 1), (0, 2), (0, 3), (0, 4), (0, 5)] hmixP (by kernel_rfl) ?_
  refine P_q no34_0 rfl (op_litT (n := 1) (enc := c_uint8) [1] (CellsAll.cons rfl CellsOf.int CellsAll.nil) rfl (by kernel_rfl) (LEss.cons (LEs.cons (AV.le_eq rfl) LEs.nil) LEss.nil) ?_)
  refine P_q no34_0 rfl (op_bytesS rfl (by kernel_rfl) rfl ?_)
  refine P_q no34_0 rfl (op_move (av := .exact (.int .i64 a0)) rfl ?_)
  obtain ⟨y1, hy1, h⟩ := bnd1_some h
  refine P_q no34_0 rfl (op_pure (m_ref9_eight_ok _ _ hy1) Tryz.func59 (by kernel_rfl) (LEs.cons (AV.le_eq rfl) LEs.nil) ?_)
  obtain ⟨n2, h⟩ := need_some h
  refine P_q no34_0 rfl (op_addS n2 rfl rfl ?_)
  refine P_q no34_0 rfl (op_assign (av := .exact (.string (bs ([1] ++ y1)))) rfl ?_)
  refine P_nil ?_
  refine kC_normal ?_
  refine k_ret ?_
  obtain rfl := Option.some.inj h
  refine kP_any (endN (af' := (AF.put AF0 (some 2) (.exact (.string (bs ([1] ++ y1)))))) (σ' := []) _ rfl ?_ ⟨rfl, rfl⟩)
  exact Sub.of_le (AF.le_put (AV.le_eq rfl) (AF.le_top _))
set_option maxHeartbeats 4000000 in
theorem m_ref9_Numbered_ok (a0 : Int) (a1 : Int) (a2 : List (List UInt8)) (r : (List UInt8)) (h : m_ref9_Numbered a0 a1 a2 = some r) : Pure Tryz.prog 41 [(.exact (.int .i64 a0)), (.exact (.int .i64 a1)), (.row 1 c_api_Value a2)] (.exact (.string (bs r))) := by
  unfold m_ref9_Numbered at h
  refine Pure.ofFun (fun_of_awp Tryz.func41 rfl Tryz.ntmps41 (by simp) rfl (res1 rfl) fun E hE => k_end ?_)
  refine k_seq ?_
  refine k_reg .free hmixP (by kernel_rfl) ?_
  refine G_q rfl (op_assign (av := .exact (.string (bs ([] : List UInt8)))) rfl ?_)
  refine G_nil ?_
  refine kC_normal ?_
  refine k_seq ?_
  refine k_reg .free hmixP (by kernel_rfl) ?_
  refine G_q rfl (op_move (av := .exact (.int .i64 a0)) rfl ?_)
  refine G_q rfl (op_move (av := .exact (.int .i64 a1)) rfl ?_)
  obtain ⟨y1, hy1, h⟩ := bnd1_some h
  refine G_q rfl (op_pure (m_ref9_Int_ok _ _ hy1) Tryz.func27 (by kernel_rfl) (LEs.cons (AV.le_eq rfl) LEs.nil) ?_)
  refine G_l rfl (op_litI (n := 1) (enc := c_api_Value) [y1] (by kernel_rfl) (CellsAll.cons rfl CellsOf.str CellsAll.nil) rfl (by kernel_rfl) (LEss.cons (LEs.cons (AV.le_eq rfl) LEs.nil) LEss.nil) (fun v2 => ?_))
  refine G_q rfl (op_move (av := .row 1 c_api_Value a2) rfl ?_)
  obtain ⟨n3, h⟩ := need_some h
  refine G_l rfl (op_appT (by kernel_rfl) rfl rfl oc_c_api_Value n3 (fun v4 => ?_))
  refine G_sub rfl (SubU.freezeT (s := 12) rfl len_c_api_Value) ?_
  obtain ⟨y5, hy5, h⟩ := bnd1_some h
  refine G_q rfl (op_pure (m_ref9_Make_ok _ _ _ hy5) Tryz.func33 (by kernel_rfl) (LEs.cons (AV.le_eq rfl) (LEs.cons (AV.le_eq rfl) LEs.nil)) ?_)
  refine G_q rfl (op_assign (av := .exact (.string (bs y5))) rfl ?_)
  refine G_nil ?_
  refine kC_normal ?_
  refine k_ret ?_
  obtain rfl := Option.some.inj h
  refine kP_any (endN (af' := (AF.put AF0 (some 6) (.exact (.string (bs y5))))) (σ' := []) _ rfl ?_ ⟨rfl, rfl⟩)
  exact Sub.of_le (AF.le_put (AV.le_eq rfl) (AF.le_top _))
set_option maxHeartbeats 4000000 in
theorem m_gen_Choices_Number_ok {w0 : Nat} (a0 : (List Int) × Int) (r : Int × ((List Int) × Int)) (h : m_gen_Choices_Number a0 = some r) : Fun Tryz.prog 42 [(pA w0 0)] [boxI 53 w0 [.row 1 c_int a0.1, .exact (.int .i64 a0.2)]] (fun a s => a = .exact (.int .i64 r.1) ∧ s = [boxI 53 w0 [.row 1 c_int r.2.1, .exact (.int .i64 r.2.2)]]) := by
  unfold m_gen_Choices_Number at h
  refine fun_of_awp Tryz.func42 rfl Tryz.ntmps42 (by simp) rfl (res1 rfl) fun E hE => k_end ?_
  refine k_seq ?_
  refine k_reg .free hmixP (by kernel_rfl) ?_
  refine G_q rfl (op_assign (av := .exact (.int .i64 0)) rfl ?_)
  refine G_nil ?_
  refine kC_normal ?_
  refine k_seq ?_
  refine k_seq ?_
  refine k_reg .free hmixP (by kernel_rfl) ?_
  refine G_q rfl (op_move (av := pA w0 0) rfl ?_)
  obtain ⟨y1, hy1, h⟩ := bnd1_some h
  refine G_l rfl (op_fun_1_0_1 (m_gen_Choices_Next_ok _ _ _ hy1) Tryz.func15 (by kernel_rfl) (LEs.cons (AV.le_eq rfl) (LEs.cons (AV.le_eq rfl) LEs.nil)) ?_)
  refine G_nil ?_
  refine kC_normal ?_
  refine k_block ?_
  refine k_seq ?_
  refine k_reg .free hmixP (by kernel_rfl) ?_
  refine G_q rfl (op_eql rfl rfl ?_)
  refine G_q rfl (op_assign (av := .exact (.bool (decide (y1.1 = 6)))) rfl ?_)
  refine G_nil ?_
  refine kC_normal ?_
  refine k_cond_d (p := y1.1 = 6) rfl (fun hc => ?_) (fun hc => ?_)
  · replace h := ite_t h hc
    refine k_seq ?_
    refine k_reg .free hmixP (by kernel_rfl) ?_
    refine G_q rfl (op_assign (av := .exact (.int .i64 (-1))) rfl ?_)
    refine G_nil ?_
    refine kC_normal ?_
    refine k_ret ?_
    refine kB_ret ?_
    refine kC_ret ?_
    obtain rfl := Option.some.inj h
    refine kP_any (endN (af' := (AF.put AF0 (some 2) (.exact (.int .i64 (-1))))) (σ' := [boxI 53 w0 [.row 1 c_int y1.2.1, .exact (.int .i64 y1.2.2)]]) _ rfl ?_ ⟨rfl, rfl⟩)
    exact Sub.of_le (AF.le_put (AV.le_eq rfl) (AF.le_top _))
  · replace h := ite_f h hc
    refine k_seq ?_
    refine k_reg .free hmixP (by kernel_rfl) ?_
    refine G_q rfl (op_eql rfl rfl ?_)
    refine G_q rfl (op_assign (av := .exact (.bool (decide (y1.1 = 7)))) rfl ?_)
    refine G_nil ?_
    refine kC_normal ?_
    refine k_cond_d (p := y1.1 = 7) rfl (fun hc => ?_) (fun hc => ?_)
    · replace h := ite_t h hc
      refine k_seq ?_
      refine k_reg .free hmixP (by kernel_rfl) ?_
      refine G_q rfl (op_move (av := pA w0 0) rfl ?_)
      obtain ⟨y2, hy2, h⟩ := bnd1_some h
      refine G_l rfl (op_fun_1_0_1 (m_gen_Choices_Next_ok _ _ _ hy2) Tryz.func15 (by kernel_rfl) (LEs.cons (AV.le_eq rfl) (LEs.cons (AV.le_eq rfl) LEs.nil)) ?_)
      refine G_q rfl (op_sub rfl rfl rfl ?_)
      refine G_q rfl (op_assign (av := .exact (.int .i64 (i64 (9223372036854775807 - y2.1)))) rfl ?_)
      refine G_nil ?_
      refine kC_normal ?_
      refine k_ret ?_
      refine kB_ret ?_
      refine kC_ret ?_
      obtain rfl := Option.some.inj h
      refine kP_any (endN (af' := (AF.put AF0 (some 2) (.exact (.int .i64 (i64 (9223372036854775807 - y2.1)))))) (σ' := [boxI 53 w0 [.row 1 c_int y2.2.1, .exact (.int .i64 y2.2.2)]]) _ rfl ?_ ⟨rfl, rfl⟩)
      exact Sub.of_le (AF.le_put (AV.le_eq rfl) (AF.le_top _))
    · replace h := ite_f h hc
      refine k_seq ?_
      refine k_reg .free hmixP (by kernel_rfl) ?_
      refine G_q rfl (op_eql rfl rfl ?_)
      refine G_q rfl (op_assign (av := .exact (.bool (decide (y1.1 = 8)))) rfl ?_)
      refine G_nil ?_
      refine kC_normal ?_
      refine k_cond_d (p := y1.1 = 8) rfl (fun hc => ?_) (fun hc => ?_)
      · replace h := ite_t h hc
        refine k_seq ?_
        refine k_reg .free hmixP (by kernel_rfl) ?_
        refine G_q rfl (op_move (av := pA w0 0) rfl ?_)
        obtain ⟨y3, hy3, h⟩ := bnd1_some h
        refine G_l rfl (op_fun_1_0_1 (m_gen_Choices_Next_ok _ _ _ hy3) Tryz.func15 (by kernel_rfl) (LEs.cons (AV.le_eq rfl) (LEs.cons (AV.le_eq rfl) LEs.nil)) ?_)
        refine G_q rfl (op_add rfl rfl rfl ?_)
        refine G_q rfl (op_assign (av := .exact (.int .i64 (i64 ((-9223372036854775808) + y3.1)))) rfl ?_)
        refine G_nil ?_
        refine kC_normal ?_
        refine k_ret ?_
        refine kB_ret ?_
        refine kC_ret ?_
        obtain rfl := Option.some.inj h
        refine kP_any (endN (af' := (AF.put AF0 (some 2) (.exact (.int .i64 (i64 ((-9223372036854775808) + y3.1)))))) (σ' := [boxI 53 w0 [.row 1 c_int y3.2.1, .exact (.int .i64 y3.2.2)]]) _ rfl ?_ ⟨rfl, rfl⟩)
        exact Sub.of_le (AF.le_put (AV.le_eq rfl) (AF.le_top _))
      · replace h := ite_f h hc
        refine k_skip ?_
        refine kB_normal ?_
        refine kC_normal ?_
        refine k_seq ?_
        refine k_reg .free hmixP (by kernel_rfl) ?_
        refine G_q rfl (op_move (av := pA w0 0) rfl ?_)
        obtain ⟨y4, hy4, h⟩ := bnd1_some h
        refine G_l rfl (op_fun_1_0_1 (m_gen_Choices_Next_ok _ _ _ hy4) Tryz.func15 (by kernel_rfl) (LEs.cons (AV.le_eq rfl) (LEs.cons (AV.le_eq rfl) LEs.nil)) ?_)
        refine G_q rfl (op_sub rfl rfl rfl ?_)
        refine G_q rfl (op_assign (av := .exact (.int .i64 (i64 (y4.1 - 2)))) rfl ?_)
        refine G_nil ?_
        refine kC_normal ?_
        refine k_ret ?_
        obtain rfl := Option.some.inj h
        refine kP_any (endN (af' := (AF.put AF0 (some 2) (.exact (.int .i64 (i64 (y4.1 - 2)))))) (σ' := [boxI 53 w0 [.row 1 c_int y4.2.1, .exact (.int .i64 y4.2.2)]]) _ rfl ?_ ⟨rfl, rfl⟩)
        exact Sub.of_le (AF.le_put (AV.le_eq rfl) (AF.le_top _))
set_option maxHeartbeats 4000000 in
theorem m_gen_Choices_Value_F_ok {w0 : Nat} (self_gen_Choices_Value : ((List Int) × Int) → Int → Option ((List UInt8) × ((List Int) × Int))) (hself_gen_Choices_Value : ∀ ⦃w0 : Nat⦄ (a0 : (List Int) × Int) (a1 : Int) (r : (List UInt8) × ((List Int) × Int)), self_gen_Choices_Value a0 a1 = some r → Fun Tryz.prog 9 [(pA w0 0), (.exact (.int .i64 a1))] [boxI 53 w0 [.row 1 c_int a0.1, .exact (.int .i64 a0.2)]] (fun a s => a = .exact (.string (bs r.1)) ∧ s = [boxI 53 w0 [.row 1 c_int r.2.1, .exact (.int .i64 r.2.2)]])) (a0 : (List Int) × Int) (a1 : Int) (r : (List UInt8) × ((List Int) × Int)) (h : m_gen_Choices_Value_F self_gen_Choices_Value a0 a1 = some r) : Fun Tryz.prog 9 [(pA w0 0), (.exact (.int .i64 a1))] [boxI 53 w0 [.row 1 c_int a0.1, .exact (.int .i64 a0.2)]] (fun a s => a = .exact (.string (bs r.1)) ∧ s = [boxI 53 w0 [.row 1 c_int r.2.1, .exact (.int .i64 r.2.2)]]) := by
  unfold m_gen_Choices_Value_F at h
  refine fun_of_awp Tryz.func9 rfl Tryz.ntmps9 (by simp) rfl (res1 rfl) fun E hE => k_end ?_
  refine k_seq ?_
  refine k_reg .free hmixP (by kernel_rfl) ?_
  refine G_q rfl (op_assign (av := .exact (.string (bs ([] : List UInt8)))) rfl ?_)
  refine G_nil ?_
  refine kC_normal ?_
  refine k_seq ?_
  refine k_reg .free hmixP (by kernel_rfl) ?_
  refine G_q rfl (op_move (av := pA w0 0) rfl ?_)
  obtain ⟨y1, hy1, h⟩ := bnd1_some h
  refine G_l rfl (op_fun_1_0_1 (m_gen_Choices_Next_ok _ _ _ hy1) Tryz.func15 (by kernel_rfl) (LEs.cons (AV.le_eq rfl) (LEs.cons (AV.le_eq rfl) LEs.nil)) ?_)
  refine G_q rfl (op_assign (av := .exact (.int .i64 y1.1)) rfl ?_)
  refine G_nil ?_
  refine kC_normal ?_
  refine k_join1_0 h (fun (x5_j2 : Int) => (AF.put (AF.put (AF.put AF0 (some 0) (pA w0 0)) (some 1) (.exact (.int .i64 a1))) (some 5) (.exact (.int .i64 x5_j2)))) (fun (x5_j2 : Int) => [boxI 53 w0 [.row 1 c_int y1.2.1, .exact (.int .i64 y1.2.2)]]) (fun k2 h => ?_) (fun x5_j2 h => ?_)
  · refine k_seq ?_
    refine k_reg .free hmixP (by kernel_rfl) ?_
    refine G_q rfl (op_move (av := .exact (.int .i64 a1)) rfl ?_)
    refine G_q rfl (op_leq rfl rfl ?_)
    refine G_nil ?_
    refine kC_normal ?_
    refine k_cond_d (p := a1 ≤ 1) rfl (fun hc => ?_) (fun hc => ?_)
    · replace h := ite_t h hc
      refine k_reg .free hmixP (by kernel_rfl) ?_
      refine G_q rfl (op_move (av := .exact (.int .i64 y1.1)) rfl ?_)
      refine G_q rfl (op_rem rfl rfl (by decide) rfl ?_)
      refine G_q rfl (op_assign (av := .exact (.int .i64 (Int.tmod y1.1 3))) rfl ?_)
      refine G_nil ?_
      refine kI_normal ⟨_, h, ?_⟩
      exact Sub.of_le (AF.le_put (AV.le_eq rfl) (AF.le_put (AV.le_eq rfl) (AF.le_put (AV.le_eq rfl) (AF.le_top _))))
    · replace h := ite_f h hc
      refine k_skip ?_
      refine kI_normal ⟨_, h, ?_⟩
      exact Sub.of_le (AF.le_put (AV.le_eq rfl) (AF.le_put (AV.le_eq rfl) (AF.le_put (AV.le_eq rfl) (AF.le_top _))))
  · refine k_join0_0 h ((AF.put AF0 (some 0) (pA w0 0))) ([boxI 53 w0 [.row 1 c_int y1.2.1, .exact (.int .i64 y1.2.2)]]) (fun k3 h => ?_) (fun  h => ?_)
    · refine k_seq ?_
      refine k_reg .free hmixP (by kernel_rfl) ?_
      refine G_q rfl (op_move (av := .exact (.int .i64 x5_j2)) rfl ?_)
      refine G_nil ?_
      refine kC_normal ?_
      refine k_block ?_
      refine k_seq ?_
      refine k_reg .free hmixP (by kernel_rfl) ?_
      refine G_q rfl (op_eql rfl rfl ?_)
      refine G_q rfl (op_assign (av := .exact (.bool (decide (x5_j2 = 1)))) rfl ?_)
      refine G_nil ?_
      refine kC_normal ?_
      refine k_cond_d (p := x5_j2 = 1) rfl (fun hc => ?_) (fun hc => ?_)
      · replace h := ite_t h hc
        refine k_seq ?_
        refine k_reg .free hmixP (by kernel_rfl) ?_
        refine G_q rfl (op_move (av := pA w0 0) rfl ?_)
        obtain ⟨y45, hy45, h⟩ := bnd1_some h
        refine G_l rfl (op_fun_1_0_1 (m_gen_Choices_Next_ok _ _ _ hy45) Tryz.func15 (by kernel_rfl) (LEs.cons (AV.le_eq rfl) (LEs.cons (AV.le_eq rfl) LEs.nil)) ?_)
        refine G_q rfl (op_eql rfl rfl ?_)
        obtain ⟨y46, hy46, h⟩ := bnd1_some h
        refine G_q rfl (op_pure (m_ref9_Bool_ok _ _ hy46) Tryz.func29 (by kernel_rfl) (LEs.cons (AV.le_eq rfl) LEs.nil) ?_)
        refine G_q rfl (op_assign (av := .exact (.string (bs y46))) rfl ?_)
        refine G_nil ?_
        refine kC_normal ?_
        refine k_ret ?_
        refine kB_ret ?_
        refine kI_ret ?_
        obtain rfl := Option.some.inj h
        refine kP_any (endN (af' := (AF.put AF0 (some 4) (.exact (.string (bs y46))))) (σ' := [boxI 53 w0 [.row 1 c_int y45.2.1, .exact (.int .i64 y45.2.2)]]) _ rfl ?_ ⟨rfl, rfl⟩)
        exact Sub.of_le (AF.le_put (AV.le_eq rfl) (AF.le_top _))
      · replace h := ite_f h hc
        refine k_seq ?_
        refine k_reg .free hmixP (by kernel_rfl) ?_
        refine G_q rfl (op_eql rfl rfl ?_)
        refine G_q rfl (op_assign (av := .exact (.bool (decide (x5_j2 = 2)))) rfl ?_)
        refine G_nil ?_
        refine kC_normal ?_
        refine k_cond_d (p := x5_j2 = 2) rfl (fun hc => ?_) (fun hc => ?_)
        · replace h := ite_t h hc
          refine k_seq ?_
          refine k_reg .free hmixP (by kernel_rfl) ?_
          refine G_q rfl (op_move (av := pA w0 0) rfl ?_)
          obtain ⟨y47, hy47, h⟩ := bnd1_some h
          refine G_l rfl (op_fun_1_0_1 (m_gen_Choices_Next_ok _ _ _ hy47) Tryz.func15 (by kernel_rfl) (LEs.cons (AV.le_eq rfl) (LEs.cons (AV.le_eq rfl) LEs.nil)) ?_)
          obtain ⟨y48, hy48, h⟩ := bnd1_some h
          refine G_q rfl (op_pure (m_ref9_Name_ok _ _ hy48) Tryz.func31 (by kernel_rfl) (LEs.cons (AV.le_eq rfl) LEs.nil) ?_)
          refine G_q rfl (op_assign (av := .exact (.string (bs y48))) rfl ?_)
          refine G_nil ?_
          refine kC_normal ?_
          refine k_ret ?_
          refine kB_ret ?_
          refine kI_ret ?_
          obtain rfl := Option.some.inj h
          refine kP_any (endN (af' := (AF.put AF0 (some 4) (.exact (.string (bs y48))))) (σ' := [boxI 53 w0 [.row 1 c_int y47.2.1, .exact (.int .i64 y47.2.2)]]) _ rfl ?_ ⟨rfl, rfl⟩)
          exact Sub.of_le (AF.le_put (AV.le_eq rfl) (AF.le_top _))
        · replace h := ite_f h hc
          refine k_seq ?_
          refine k_reg .free hmixP (by kernel_rfl) ?_
          refine G_q rfl (op_eql rfl rfl ?_)
          refine G_q rfl (op_assign (av := .exact (.bool (decide (x5_j2 = 3)))) rfl ?_)
          refine G_nil ?_
          refine kC_normal ?_
          refine k_cond_d (p := x5_j2 = 3) rfl (fun hc => ?_) (fun hc => ?_)
          · replace h := ite_t h hc
            refine k_seq ?_
            refine k_reg .free hmixP (by kernel_rfl) ?_
            refine G_q rfl (op_move (av := pA w0 0) rfl ?_)
            refine G_q rfl (op_move (av := .exact (.int .i64 a1)) rfl ?_)
            refine G_q rfl (op_sub rfl rfl rfl ?_)
            obtain ⟨y49, hy49, h⟩ := bnd1_some h
            refine G_l rfl (op_fun_1_0_1 (hself_gen_Choices_Value _ _ _ hy49) Tryz.func9 (by kernel_rfl) (LEs.cons (AV.le_eq rfl) (LEs.cons (AV.le_eq rfl) LEs.nil)) ?_)
            refine G_q rfl (op_move (av := pA w0 0) rfl ?_)
            refine G_q rfl (op_move (av := .exact (.int .i64 a1)) rfl ?_)
            refine G_q rfl (op_sub rfl rfl rfl ?_)
            obtain ⟨y50, hy50, h⟩ := bnd1_some h
            refine G_l rfl (op_fun_1_0_1 (hself_gen_Choices_Value _ _ _ hy50) Tryz.func9 (by kernel_rfl) (LEs.cons (AV.le_eq rfl) (LEs.cons (AV.le_eq rfl) LEs.nil)) ?_)
            refine G_q rfl (op_litT (n := 1) (enc := c_api_Value) [y49.1, y50.1] (CellsAll.cons rfl CellsOf.str (CellsAll.cons rfl CellsOf.str CellsAll.nil)) rfl (by kernel_rfl) (LEss.cons (LEs.cons (AV.le_eq rfl) LEs.nil) (LEss.cons (LEs.cons (AV.le_eq rfl) LEs.nil) LEss.nil)) ?_)
            obtain ⟨y51, hy51, h⟩ := bnd1_some h
            refine G_q rfl (op_pure (m_ref9_Make_ok _ _ _ hy51) Tryz.func33 (by kernel_rfl) (LEs.cons (AV.le_eq rfl) (LEs.cons (AV.le_eq rfl) LEs.nil)) ?_)
            refine G_q rfl (op_assign (av := .exact (.string (bs y51))) rfl ?_)
            refine G_nil ?_
            refine kC_normal ?_
            refine k_ret ?_
            refine kB_ret ?_
            refine kI_ret ?_
            obtain rfl := Option.some.inj h
            refine kP_any (endN (af' := (AF.put AF0 (some 4) (.exact (.string (bs y51))))) (σ' := [boxI 53 w0 [.row 1 c_int y50.2.1, .exact (.int .i64 y50.2.2)]]) _ rfl ?_ ⟨rfl, rfl⟩)
            exact Sub.of_le (AF.le_put (AV.le_eq rfl) (AF.le_top _))
          · replace h := ite_f h hc
            refine k_seq ?_
            refine k_reg .free hmixP (by kernel_rfl) ?_
            refine G_q rfl (op_eql rfl rfl ?_)
            refine G_q rfl (op_assign (av := .exact (.bool (decide (x5_j2 = 4)))) rfl ?_)
            refine G_nil ?_
            refine kC_normal ?_
            refine k_cond_d (p := x5_j2 = 4) rfl (fun hc => ?_) (fun hc => ?_)
            · replace h := ite_t h hc
              refine k_seq ?_
              refine k_reg .free hmixP (by kernel_rfl) ?_
              refine G_q rfl (op_move (av := pA w0 0) rfl ?_)
              refine G_q rfl (op_move (av := .exact (.int .i64 a1)) rfl ?_)
              refine G_q rfl (op_sub rfl rfl rfl ?_)
              obtain ⟨y52, hy52, h⟩ := bnd1_some h
              refine G_l rfl (op_fun_1_0_1 (m_gen_Choices_Values_ok self_gen_Choices_Value hself_gen_Choices_Value _ _ _ _ hy52) Tryz.func14 (by kernel_rfl) (LEs.cons (AV.le_eq rfl) (LEs.cons (AV.le_eq rfl) (LEs.cons (AV.le_eq rfl) LEs.nil))) ?_)
              obtain ⟨y53, hy53, h⟩ := bnd1_some h
              refine G_q rfl (op_pure (m_ref9_Make_ok _ _ _ hy53) Tryz.func33 (by kernel_rfl) (LEs.cons (AV.le_eq rfl) (LEs.cons (AV.le_eq rfl) LEs.nil)) ?_)
              refine G_q rfl (op_assign (av := .exact (.string (bs y53))) rfl ?_)
              refine G_nil ?_
              refine kC_normal ?_
              refine k_ret ?_
              refine kB_ret ?_
              refine kI_ret ?_
              obtain rfl := Option.some.inj h
              refine kP_any (endN (af' := (AF.put AF0 (some 4) (.exact (.string (bs y53))))) (σ' := [boxI 53 w0 [.row 1 c_int y52.2.1, .exact (.int .i64 y52.2.2)]]) _ rfl ?_ ⟨rfl, rfl⟩)
              exact Sub.of_le (AF.le_put (AV.le_eq rfl) (AF.le_top _))
            · replace h := ite_f h hc
              refine k_seq ?_
              refine k_reg .free hmixP (by kernel_rfl) ?_
              refine G_q rfl (op_eql rfl rfl ?_)
              refine G_q rfl (op_assign (av := .exact (.bool (decide (x5_j2 = 5)))) rfl ?_)
              refine G_nil ?_
              refine kC_normal ?_
              refine k_cond_d (p := x5_j2 = 5) rfl (fun hc => ?_) (fun hc => ?_)
              · replace h := ite_t h hc
                refine k_seq ?_
                refine k_reg .free hmixP (by kernel_rfl) ?_
                refine G_q rfl (op_move (av := pA w0 0) rfl ?_)
                refine G_q rfl (op_move (av := .exact (.int .i64 a1)) rfl ?_)
                refine G_q rfl (op_sub rfl rfl rfl ?_)
                obtain ⟨y54, hy54, h⟩ := bnd1_some h
                refine G_l rfl (op_fun_1_0_1 (m_gen_Choices_Values_ok self_gen_Choices_Value hself_gen_Choices_Value _ _ _ _ hy54) Tryz.func14 (by kernel_rfl) (LEs.cons (AV.le_eq rfl) (LEs.cons (AV.le_eq rfl) (LEs.cons (AV.le_eq rfl) LEs.nil))) ?_)
                obtain ⟨y55, hy55, h⟩ := bnd1_some h
                refine G_q rfl (op_pure (m_ref9_Set_ok _ _ hy55) Tryz.func34 (by kernel_rfl) (LEs.cons (AV.le_eq rfl) LEs.nil) ?_)
                refine G_q rfl (op_assign (av := .exact (.string (bs y55))) rfl ?_)
                refine G_nil ?_
                refine kC_normal ?_
                refine k_ret ?_
                refine kB_ret ?_
                refine kI_ret ?_
                obtain rfl := Option.some.inj h
                refine kP_any (endN (af' := (AF.put AF0 (some 4) (.exact (.string (bs y55))))) (σ' := [boxI 53 w0 [.row 1 c_int y54.2.1, .exact (.int .i64 y54.2.2)]]) _ rfl ?_ ⟨rfl, rfl⟩)
                exact Sub.of_le (AF.le_put (AV.le_eq rfl) (AF.le_top _))
              · replace h := ite_f h hc
                refine k_seq ?_
                refine k_reg .free hmixP (by kernel_rfl) ?_
                refine G_q rfl (op_eql rfl rfl ?_)
                refine G_q rfl (op_assign (av := .exact (.bool (decide (x5_j2 = 6)))) rfl ?_)
                refine G_nil ?_
                refine kC_normal ?_
                refine k_cond_d (p := x5_j2 = 6) rfl (fun hc => ?_) (fun hc => ?_)
                · replace h := ite_t h hc
                  refine k_seq ?_
                  refine k_reg .free hmixP (by kernel_rfl) ?_
                  refine G_q rfl (op_move (av := pA w0 0) rfl ?_)
                  obtain ⟨y56, hy56, h⟩ := bnd1_some h
                  refine G_l rfl (op_fun_1_0_1 (m_gen_Choices_Next_ok _ _ _ hy56) Tryz.func15 (by kernel_rfl) (LEs.cons (AV.le_eq rfl) (LEs.cons (AV.le_eq rfl) LEs.nil)) ?_)
                  refine G_q rfl (op_move (av := pA w0 0) rfl ?_)
                  refine G_q rfl (op_move (av := .exact (.int .i64 a1)) rfl ?_)
                  refine G_q rfl (op_sub rfl rfl rfl ?_)
                  obtain ⟨y57, hy57, h⟩ := bnd1_some h
                  refine G_l rfl (op_fun_1_0_1 (m_gen_Choices_Values_ok self_gen_Choices_Value hself_gen_Choices_Value _ _ _ _ hy57) Tryz.func14 (by kernel_rfl) (LEs.cons (AV.le_eq rfl) (LEs.cons (AV.le_eq rfl) (LEs.cons (AV.le_eq rfl) LEs.nil))) ?_)
                  obtain ⟨y58, hy58, h⟩ := bnd1_some h
                  refine G_q rfl (op_pure (m_ref9_Dot_ok _ _ _ hy58) Tryz.func37 (by kernel_rfl) (LEs.cons (AV.le_eq rfl) (LEs.cons (AV.le_eq rfl) LEs.nil)) ?_)
                  refine G_q rfl (op_assign (av := .exact (.string (bs y58))) rfl ?_)
                  refine G_nil ?_
                  refine kC_normal ?_
                  refine k_ret ?_
                  refine kB_ret ?_
                  refine kI_ret ?_
                  obtain rfl := Option.some.inj h
                  refine kP_any (endN (af' := (AF.put AF0 (some 4) (.exact (.string (bs y58))))) (σ' := [boxI 53 w0 [.row 1 c_int y57.2.1, .exact (.int .i64 y57.2.2)]]) _ rfl ?_ ⟨rfl, rfl⟩)
                  exact Sub.of_le (AF.le_put (AV.le_eq rfl) (AF.le_top _))
                · replace h := ite_f h hc
                  refine k_seq ?_
                  refine k_reg .free hmixP (by kernel_rfl) ?_
                  refine G_q rfl (op_eql rfl rfl ?_)
                  refine G_q rfl (op_assign (av := .exact (.bool (decide (x5_j2 = 7)))) rfl ?_)
                  refine G_nil ?_
                  refine kC_normal ?_
                  refine k_cond_d (p := x5_j2 = 7) rfl (fun hc => ?_) (fun hc => ?_)
                  · replace h := ite_t h hc
                    refine k_seq ?_
                    refine k_reg .free hmixP (by kernel_rfl) ?_
                    refine G_q rfl (op_move (av := pA w0 0) rfl ?_)
                    refine G_q rfl (op_move (av := .exact (.int .i64 a1)) rfl ?_)
                    refine G_q rfl (op_sub rfl rfl rfl ?_)
                    obtain ⟨y59, hy59, h⟩ := bnd1_some h
                    refine G_l rfl (op_fun_1_0_1 (m_gen_Choices_Values_ok self_gen_Choices_Value hself_gen_Choices_Value _ _ _ _ hy59) Tryz.func14 (by kernel_rfl) (LEs.cons (AV.le_eq rfl) (LEs.cons (AV.le_eq rfl) (LEs.cons (AV.le_eq rfl) LEs.nil))) ?_)
                    obtain ⟨y60, hy60, h⟩ := bnd1_some h
                    refine G_q rfl (op_pure (m_ref9_Sort_ok _ _ hy60) Tryz.func24 (by kernel_rfl) (LEs.cons (AV.le_eq rfl) LEs.nil) ?_)
                    refine G_q rfl (op_assign (av := .row 1 c_api_Value y60) rfl ?_)
                    refine G_nil ?_
                    refine kC_normal ?_
                    refine k_seq ?_
                    refine k_reg .free hmixP (by kernel_rfl) ?_
                    refine G_q rfl (op_assign (av := .exact (.slice none 0 0)) rfl ?_)
                    refine G_nil ?_
                    refine kC_normal ?_
                    refine k_join3_1 h (fun (x0_0_j61 : List Int) (x0_1_j61 : Int) (x7_j61 : List (List UInt8)) (v7_j61 : Value) => (AF.put (AF.put (AF.put AF0 (some 0) (pA w0 0)) (some 6) (.row 1 c_api_Value y60)) (some 7) (.exact v7_j61))) (fun (x0_0_j61 : List Int) (x0_1_j61 : Int) (x7_j61 : List (List UInt8)) (v7_j61 : Value) => [boxI 53 w0 [.row 1 c_int x0_0_j61, .exact (.int .i64 x0_1_j61)], vecT Tryz.prog 27 1 c_api_Value v7_j61 x7_j61]) (fun k61 h => ?_) (fun x0_0_j61 x0_1_j61 x7_j61 v7_j61 h => ?_)
                    · refine k_seq ?_
                      refine k_reg .free hmixP (by kernel_rfl) ?_
                      refine G_q rfl (op_assign (av := .exact (.int .i64 0)) rfl ?_)
                      refine G_nil ?_
                      refine kC_normal ?_
                      refine k_block ?_
                      refine k_loop4_1 (m_gen_Choices_Value_L4 self_gen_Choices_Value a1 y60 k61) (m_gen_Choices_Value_B4 self_gen_Choices_Value a1 y60 k61) (fun _ _ _ _ => rfl) (fun m _ _ _ _ => rfl) h (fun (x0_0_l4 : List Int) (x0_1_l4 : Int) (x7_l4 : List (List UInt8)) (x8_l4 : Int) (v7_l4 : Value) => (AF.put (AF.put (AF.put (AF.put (AF.put AF0 (some 0) (pA w0 0)) (some 1) (.exact (.int .i64 a1))) (some 6) (.row 1 c_api_Value y60)) (some 7) (.exact v7_l4)) (some 8) (.exact (.int .i64 x8_l4)))) (fun (x0_0_l4 : List Int) (x0_1_l4 : Int) (x7_l4 : List (List UInt8)) (x8_l4 : Int) (v7_l4 : Value) => [boxI 53 w0 [.row 1 c_int x0_0_l4, .exact (.int .i64 x0_1_l4)], vecT Tryz.prog 27 1 c_api_Value v7_l4 x7_l4]) (.slice none 0 0) ?_ (fun rec4 x0_0_l4 x0_1_l4 x7_l4 x8_l4 v7_l4 h => ?_)
                      · refine Sub.trans (SubU.to (SubU.nilT (P := Tryz.prog) (t := 27) (n := 1) (enc := c_api_Value))) ?_
                        refine Sub.trans (SubU.to SubU.f1) ?_
                        exact Sub.of_le (AF.le_put (AV.le_eq rfl) (AF.le_put (AV.le_eq rfl) (AF.le_put (AV.le_eq rfl) (AF.le_put (AV.le_eq rfl) (AF.le_put (AV.le_eq rfl) (AF.le_top _))))))
                      · unfold m_gen_Choices_Value_B4 at h
                        refine k_seq ?_
                        refine k_seq ?_
                        refine k_reg .free hmixP (by kernel_rfl) ?_
                        refine G_q rfl (op_move (av := .exact (.int .i64 x8_l4)) rfl ?_)
                        refine G_q rfl (op_move (av := .row 1 c_api_Value y60) rfl ?_)
                        refine G_q rfl (op_len_row (by kernel_rfl) rfl ?_)
                        refine G_q rfl (op_lss rfl rfl ?_)
                        refine G_nil ?_
                        refine kC_normal ?_
                        refine k_cond_d (p := x8_l4 < (List.length y60 : Int)) rfl (fun hc => ?_) (fun hc => ?_)
                        · replace h := ite_t h hc
                          refine k_skip ?_
                          refine kC_normal ?_
                          refine k_seq ?_
                          refine k_block ?_
                          refine k_reg .free hmixP (by kernel_rfl) ?_
                          refine G_q rfl (op_move (av := .exact v7_l4) rfl ?_)
                          refine G_q rfl (op_move (av := pA w0 0) rfl ?_)
                          refine G_q rfl (op_move (av := .exact (.int .i64 a1)) rfl ?_)
                          refine G_q rfl (op_sub rfl rfl rfl ?_)
                          obtain ⟨y78, hy78, h⟩ := bnd1_some h
                          refine G_l rfl (op_fun_1_0_1 (hself_gen_Choices_Value _ _ _ hy78) Tryz.func9 (by kernel_rfl) (LEs.cons (AV.le_eq rfl) (LEs.cons (AV.le_eq rfl) LEs.nil)) ?_)
                          refine G_q rfl (op_litT (n := 1) (enc := c_api_Value) [y78.1] (CellsAll.cons rfl CellsOf.str CellsAll.nil) rfl (by kernel_rfl) (LEss.cons (LEs.cons (AV.le_eq rfl) LEs.nil) LEss.nil) ?_)
                          obtain ⟨n79, h⟩ := need_some h
                          refine G_l rfl (opB_f1 (op_appT (by kernel_rfl) rfl rfl oc_c_api_Value n79 (fun v80 => ?_)))
                          refine G_q rfl (op_assign (av := .exact v80) rfl ?_)
                          refine G_nil ?_
                          refine kB_normal ?_
                          refine kC_normal ?_
                          refine k_reg .free hmixP (by kernel_rfl) ?_
                          refine G_q rfl (op_move (av := .exact (.int .i64 x8_l4)) rfl ?_)
                          refine G_q rfl (op_add rfl rfl rfl ?_)
                          refine G_q rfl (op_assign (av := .exact (.int .i64 (i64 (x8_l4 + 1)))) rfl ?_)
                          refine G_nil ?_
                          refine kI_normal ⟨_, _, _, _, v80, h, ?_⟩
                          refine Sub.trans (SubU.to SubU.f1) ?_
                          exact Sub.of_le (AF.le_put (AV.le_eq rfl) (AF.le_put (AV.le_eq rfl) (AF.le_put (AV.le_eq rfl) (AF.le_put (AV.le_eq rfl) (AF.le_put (AV.le_eq rfl) (AF.le_top _))))))
                        · replace h := ite_f h hc
                          refine k_exit ?_
                          refine kC_exit ?_
                          refine kI_exit ?_
                          refine kB_exit ?_
                          refine kI_normal ⟨_, _, _, v7_l4, h, ?_⟩
                          exact Sub.of_le (AF.le_put (AV.le_eq rfl) (AF.le_put (AV.le_eq rfl) (AF.le_put (AV.le_eq rfl) (AF.le_top _))))
                    · refine k_seq ?_
                      refine k_reg .free hmixP (by kernel_rfl) ?_
                      refine G_q rfl (op_move (av := .row 1 c_api_Value y60) rfl ?_)
                      refine G_q rfl (op_move (av := .exact v7_j61) rfl ?_)
                      refine G_sub rfl (SubU.trans SubU.f1 (SubU.freezeT2 (s1 := 7) (s2 := 83) rfl rfl len_c_api_Value)) ?_
                      obtain ⟨y81, hy81, h⟩ := bnd1_some h
                      refine G_q rfl (op_pure (m_ref9_Map_ok _ _ _ hy81) Tryz.func36 (by kernel_rfl) (LEs.cons (AV.le_eq rfl) (LEs.cons (AV.le_eq rfl) LEs.nil)) ?_)
                      refine G_q rfl (op_assign (av := .exact (.string (bs y81))) rfl ?_)
                      refine G_nil ?_
                      refine kC_normal ?_
                      refine k_ret ?_
                      refine kB_ret ?_
                      refine kI_ret ?_
                      obtain rfl := Option.some.inj h
                      refine kP_any (endN (af' := (AF.put AF0 (some 4) (.exact (.string (bs y81))))) (σ' := [boxI 53 w0 [.row 1 c_int x0_0_j61, .exact (.int .i64 x0_1_j61)]]) _ rfl ?_ ⟨rfl, rfl⟩)
                      exact Sub.of_le (AF.le_put (AV.le_eq rfl) (AF.le_top _))
                  · replace h := ite_f h hc
                    refine k_seq ?_
                    refine k_reg .free hmixP (by kernel_rfl) ?_
                    refine G_q rfl (op_eql rfl rfl ?_)
                    refine G_q rfl (op_assign (av := .exact (.bool (decide (x5_j2 = 8)))) rfl ?_)
                    refine G_nil ?_
                    refine kC_normal ?_
                    refine k_cond_d (p := x5_j2 = 8) rfl (fun hc => ?_) (fun hc => ?_)
                    · replace h := ite_t h hc
                      refine k_seq ?_
                      refine k_reg .free hmixP (by kernel_rfl) ?_
                      refine G_q rfl (op_move (av := pA w0 0) rfl ?_)
                      obtain ⟨y82, hy82, h⟩ := bnd1_some h
                      refine G_l rfl (op_fun_1_0_1 (m_gen_Choices_Next_ok _ _ _ hy82) Tryz.func15 (by kernel_rfl) (LEs.cons (AV.le_eq rfl) (LEs.cons (AV.le_eq rfl) LEs.nil)) ?_)
                      refine G_q rfl (op_move (av := pA w0 0) rfl ?_)
                      refine G_q rfl (op_move (av := .exact (.int .i64 a1)) rfl ?_)
                      refine G_q rfl (op_sub rfl rfl rfl ?_)
                      obtain ⟨y83, hy83, h⟩ := bnd1_some h
                      refine G_l rfl (op_fun_1_0_1 (m_gen_Choices_Values_ok self_gen_Choices_Value hself_gen_Choices_Value _ _ _ _ hy83) Tryz.func14 (by kernel_rfl) (LEs.cons (AV.le_eq rfl) (LEs.cons (AV.le_eq rfl) (LEs.cons (AV.le_eq rfl) LEs.nil))) ?_)
                      obtain ⟨y84, hy84, h⟩ := bnd1_some h
                      refine G_q rfl (op_pure (m_ref9_Numbered_ok _ _ _ _ hy84) Tryz.func41 (by kernel_rfl) (LEs.cons (AV.le_eq rfl) (LEs.cons (AV.le_eq rfl) (LEs.cons (AV.le_eq rfl) LEs.nil))) ?_)
                      refine G_q rfl (op_assign (av := .exact (.string (bs y84))) rfl ?_)
                      refine G_nil ?_
                      refine kC_normal ?_
                      refine k_ret ?_
                      refine kB_ret ?_
                      refine kI_ret ?_
                      obtain rfl := Option.some.inj h
                      refine kP_any (endN (af' := (AF.put AF0 (some 4) (.exact (.string (bs y84))))) (σ' := [boxI 53 w0 [.row 1 c_int y83.2.1, .exact (.int .i64 y83.2.2)]]) _ rfl ?_ ⟨rfl, rfl⟩)
                      exact Sub.of_le (AF.le_put (AV.le_eq rfl) (AF.le_top _))
                    · replace h := ite_f h hc
                      refine k_skip ?_
                      refine kB_normal ?_
                      refine kI_normal ⟨h, ?_⟩
                      exact Sub.of_le (AF.le_put (AV.le_eq rfl) (AF.le_top _))
    · refine k_seq ?_
      refine k_reg .free hmixP (by kernel_rfl) ?_
      refine G_q rfl (op_move (av := pA w0 0) rfl ?_)
      obtain ⟨y85, hy85, h⟩ := bnd1_some h
      refine G_l rfl (op_fun_1_0_1 (m_gen_Choices_Number_ok _ _ hy85) Tryz.func42 (by kernel_rfl) (LEs.cons (AV.le_eq rfl) LEs.nil) ?_)
      obtain ⟨y86, hy86, h⟩ := bnd1_some h
      refine G_q rfl (op_pure (m_ref9_Int_ok _ _ hy86) Tryz.func27 (by kernel_rfl) (LEs.cons (AV.le_eq rfl) LEs.nil) ?_)
      refine G_q rfl (op_assign (av := .exact (.string (bs y86))) rfl ?_)
      refine G_nil ?_
      refine kC_normal ?_
      refine k_ret ?_
      obtain rfl := Option.some.inj h
      refine kP_any (endN (af' := (AF.put AF0 (some 4) (.exact (.string (bs y86))))) (σ' := [boxI 53 w0 [.row 1 c_int y85.2.1, .exact (.int .i64 y85.2.2)]]) _ rfl ?_ ⟨rfl, rfl⟩)
      exact Sub.of_le (AF.le_put (AV.le_eq rfl) (AF.le_top _))
set_option maxHeartbeats 4000000 in
theorem m_gen_Choices_Value_S_ok : ∀ n : Nat, (∀ ⦃w0 : Nat⦄ (a0 : (List Int) × Int) (a1 : Int) (r : (List UInt8) × ((List Int) × Int)), m_gen_Choices_Value_S n a0 a1 = some r → Fun Tryz.prog 9 [(pA w0 0), (.exact (.int .i64 a1))] [boxI 53 w0 [.row 1 c_int a0.1, .exact (.int .i64 a0.2)]] (fun a s => a = .exact (.string (bs r.1)) ∧ s = [boxI 53 w0 [.row 1 c_int r.2.1, .exact (.int .i64 r.2.2)]]))
  | 0 => (fun _ _ _ _ h => by have h' : (none : Option _) = some _ := h; cases h')
  | n + 1 => by
    have ih := m_gen_Choices_Value_S_ok n
    exact fun w0 a0 a1 r h => m_gen_Choices_Value_F_ok (m_gen_Choices_Value_S n) ih a0 a1 r h
theorem m_gen_Choices_Value_ok {w0 : Nat} (a0 : (List Int) × Int) (a1 : Int) (r : (List UInt8) × ((List Int) × Int)) (h : m_gen_Choices_Value a0 a1 = some r) : Fun Tryz.prog 9 [(pA w0 0), (.exact (.int .i64 a1))] [boxI 53 w0 [.row 1 c_int a0.1, .exact (.int .i64 a0.2)]] (fun a s => a = .exact (.string (bs r.1)) ∧ s = [boxI 53 w0 [.row 1 c_int r.2.1, .exact (.int .i64 r.2.2)]]) := (m_gen_Choices_Value_S_ok FU) a0 a1 r h
set_option maxHeartbeats 4000000 in
theorem m_value_append64_ok {w0 : Value} (a0 : List UInt8) (a1 : Int) (r : (List UInt8)) (h : m_value_append64 a0 a1 = some r) : Fun Tryz.prog 58 [(.exact w0), (.exact (.int .u64 a1))] [vecT Tryz.prog 60 1 c_uint8 w0 a0] (fun a s => ∃ z0, a = .exact z0 ∧ s = [vecT Tryz.prog 60 1 c_uint8 z0 r]) := by
  unfold m_value_append64 at h
  refine fun_of_awp Tryz.func58 rfl Tryz.ntmps58 (by simp) rfl (res1 rfl) fun E hE => k_end ?_
  refine k_seq ?_
  refine k_reg .free hmixP (by kernel_rfl) ?_
  refine G_q rfl (op_assign (av := .exact (.slice none 0 0)) rfl ?_)
  refine G_nil ?_
  refine kC_normal ?_
  refine k_join1_1 h (fun (x0_j1 : List UInt8) (v0_j1 : Value) => (AF.put AF0 (some 0) (.exact v0_j1))) (fun (x0_j1 : List UInt8) (v0_j1 : Value) => [vecT Tryz.prog 60 1 c_uint8 v0_j1 x0_j1]) (fun k1 h => ?_) (fun x0_j1 v0_j1 h => ?_)
  · refine k_seq ?_
    refine k_reg .free hmixP (by kernel_rfl) ?_
    refine G_q rfl (op_assign (av := .exact (.int .i64 56)) rfl ?_)
    refine G_nil ?_
    refine kC_normal ?_
    refine k_block ?_
    refine k_loop2_1 (m_value_append64_L2 a1 k1) (m_value_append64_B2 a1 k1) (fun _ _ => rfl) (fun m _ _ => rfl) h (fun (x0_l2 : List UInt8) (x5_l2 : Int) (v0_l2 : Value) => (AF.put (AF.put (AF.put AF0 (some 0) (.exact v0_l2)) (some 1) (.exact (.int .u64 a1))) (some 5) (.exact (.int .i64 x5_l2)))) (fun (x0_l2 : List UInt8) (x5_l2 : Int) (v0_l2 : Value) => [vecT Tryz.prog 60 1 c_uint8 v0_l2 x0_l2]) w0 ?_ (fun rec2 x0_l2 x5_l2 v0_l2 h => ?_)
    · exact Sub.of_le (AF.le_put (AV.le_eq rfl) (AF.le_put (AV.le_eq rfl) (AF.le_put (AV.le_eq rfl) (AF.le_top _))))
    · unfold m_value_append64_B2 at h
      refine k_seq ?_
      refine k_seq ?_
      refine k_reg .free hmixP (by kernel_rfl) ?_
      refine G_q rfl (op_move (av := .exact (.int .i64 x5_l2)) rfl ?_)
      refine G_q rfl (op_geq rfl rfl ?_)
      refine G_nil ?_
      refine kC_normal ?_
      refine k_cond_d (p := 0 ≤ x5_l2) rfl (fun hc => ?_) (fun hc => ?_)
      · replace h := ite_t h hc
        refine k_skip ?_
        refine kC_normal ?_
        refine k_seq ?_
        refine k_block ?_
        refine k_reg .free hmixP (by kernel_rfl) ?_
        refine G_q rfl (op_move (av := .exact v0_l2) rfl ?_)
        refine G_q rfl (op_move (av := .exact (.int .u64 a1)) rfl ?_)
        refine G_q rfl (op_move (av := .exact (.int .i64 x5_l2)) rfl ?_)
        obtain ⟨n16, h⟩ := need_some h
        refine G_q rfl (op_shr rfl rfl n16 rfl ?_)
        refine G_q rfl (op_convInt (k := .u8) (r := (UInt8.toNat (u8i (Int.fdiv a1 (2 ^ min (Int.toNat x5_l2) IntKind.u64.bits))) : Int)) (by kernel_rfl) rfl (u8i_eq _) ?_)
        refine G_q rfl (op_litT (n := 1) (enc := c_uint8) [u8i (Int.fdiv a1 (2 ^ min (Int.toNat x5_l2) IntKind.u64.bits))] (CellsAll.cons rfl CellsOf.int CellsAll.nil) rfl (by kernel_rfl) (LEss.cons (LEs.cons (AV.le_eq rfl) LEs.nil) LEss.nil) ?_)
        obtain ⟨n17, h⟩ := need_some h
        refine G_l rfl (op_appT (by kernel_rfl) rfl rfl oc_c_uint8 n17 (fun v18 => ?_))
        refine G_q rfl (op_assign (av := .exact v18) rfl ?_)
        refine G_nil ?_
        refine kB_normal ?_
        refine kC_normal ?_
        refine k_reg .free hmixP (by kernel_rfl) ?_
        refine G_q rfl (op_move (av := .exact (.int .i64 x5_l2)) rfl ?_)
        refine G_q rfl (op_sub rfl rfl rfl ?_)
        refine G_q rfl (op_assign (av := .exact (.int .i64 (i64 (x5_l2 - 8)))) rfl ?_)
        refine G_nil ?_
        refine kI_normal ⟨_, _, v18, h, ?_⟩
        exact Sub.of_le (AF.le_put (AV.le_eq rfl) (AF.le_put (AV.le_eq rfl) (AF.le_put (AV.le_eq rfl) (AF.le_top _))))
      · replace h := ite_f h hc
        refine k_exit ?_
        refine kC_exit ?_
        refine kI_exit ?_
        refine kB_exit ?_
        refine kI_normal ⟨_, v0_l2, h, ?_⟩
        exact Sub.of_le (AF.le_put (AV.le_eq rfl) (AF.le_top _))
  · refine k_seq ?_
    refine k_reg .free hmixP (by kernel_rfl) ?_
    refine G_q rfl (op_move (av := .exact v0_j1) rfl ?_)
    refine G_q rfl (op_assign (av := .exact v0_j1) rfl ?_)
    refine G_nil ?_
    refine kC_normal ?_
    refine k_ret ?_
    obtain rfl := Option.some.inj h
    refine kP_any (endN (af' := (AF.put AF0 (some 4) (.exact v0_j1))) (σ' := [vecT Tryz.prog 60 1 c_uint8 v0_j1 x0_j1]) _ rfl ?_ ⟨v0_j1, rfl, rfl⟩)
    exact Sub.of_le (AF.le_put (AV.le_eq rfl) (AF.le_top _))
set_option maxHeartbeats 4000000 in
theorem m_value_Int_ok (a0 : Int) (r : (List UInt8)) (h : m_value_Int a0 = some r) : Pure Tryz.prog 26 [(.exact (.int .i64 a0))] (.exact (.string (bs r))) := by
  unfold m_value_Int at h
  refine Pure.ofFun (fun_of_awp Tryz.func26 rfl Tryz.ntmps26 (by simp) rfl (res1 rfl) fun E hE => k_end ?_)
  refine k_seq ?_
  refine k_reg .free hmixP (by kernel_rfl) ?_
  refine G_q rfl (op_assign (av := .exact (.string (bs ([] : List UInt8)))) rfl ?_)
  refine G_nil ?_
  refine kC_normal ?_
  refine k_seq ?_
  refine k_reg .free hmixP (by kernel_rfl) ?_
  refine G_l rfl (op_litI (n := 1) (enc := c_uint8) [1] (by kernel_rfl) (CellsAll.cons rfl CellsOf.int CellsAll.nil) rfl (by kernel_rfl) (LEss.cons (LEs.cons (AV.le_eq rfl) LEs.nil) LEss.nil) (fun v1 => ?_))
  refine G_q rfl (op_move (av := .exact (.int .i64 a0)) rfl ?_)
  refine G_q rfl (op_convInt (k := .u64) (by kernel_rfl) rfl rfl ?_)
  obtain ⟨y2, hy2, h⟩ := bnd1_some h
  refine G_l rfl (op_fun_1_1_1 (m_value_append64_ok _ _ _ hy2) Tryz.func58 (by kernel_rfl) (LEs.cons (AV.le_eq rfl) (LEs.cons (AV.le_eq rfl) LEs.nil)) (fun v3 => ?_))
  refine G_r rfl (op_bytesS_bor rfl (by kernel_rfl) (Bor.vec (List.Mem.head _) len_c_uint8) ?_)
  refine G_q rfl (op_assign (av := .exact (.string (bs y2))) rfl ?_)
  refine G_nil ?_
  refine kC_normal ?_
  refine k_ret ?_
  obtain rfl := Option.some.inj h
  refine kP_any (endN (af' := (AF.put AF0 (some 2) (.exact (.string (bs y2))))) (σ' := []) _ rfl ?_ ⟨rfl, rfl⟩)
  refine Sub.trans (SubU.to SubU.drop) ?_
  exact Sub.of_le (AF.le_put (AV.le_eq rfl) (AF.le_top _))
set_option maxHeartbeats 4000000 in
theorem m_slices_Clone_L_api_Value_api_Value_ok (a0 : List (List UInt8)) (r : (List (List UInt8))) (h : m_slices_Clone_L_api_Value_api_Value a0 = some r) : Fun Tryz.prog 80 [(.row 1 c_api_Value a0)] [] (fun a s => ∃ z0, a = .exact z0 ∧ s = [vecT Tryz.prog 27 1 c_api_Value z0 r]) := by
  unfold m_slices_Clone_L_api_Value_api_Value at h
  refine fun_of_awp Tryz.func80 rfl Tryz.ntmps80 (by simp) rfl (res1 rfl) fun E hE => k_end ?_
  refine k_seq ?_
  refine k_reg .free hmixP (by kernel_rfl) ?_
  refine G_q rfl (op_assign (av := .exact (.slice none 0 0)) rfl ?_)
  refine G_nil ?_
  refine kC_normal ?_
  refine k_seq ?_
  refine k_seq ?_
  refine k_reg .free hmixP (by kernel_rfl) ?_
  refine G_q rfl (op_move (av := .row 1 c_api_Value a0) rfl ?_)
  refine G_q rfl (op_eqnil_row (by kernel_rfl) rfl ?_)
  refine G_nil ?_
  refine kC_normal ?_
  obtain ⟨h1, h⟩ := nilc_some h
  refine k_cond_u (p := a0 = []) rfl (fun hc => ?_) ?_
  · replace h := h1 hc
    refine k_seq ?_
    refine k_reg .free hmixP (by kernel_rfl) ?_
    refine G_q rfl (op_assign (av := .exact (.slice none 0 0)) rfl ?_)
    refine G_nil ?_
    refine kC_normal ?_
    refine k_ret ?_
    refine kC_ret ?_
    obtain rfl := Option.some.inj h
    refine kP_any (endN (af' := (AF.put AF0 (some 2) (.exact (.slice none 0 0)))) (σ' := [vecT Tryz.prog 27 1 c_api_Value (.slice none 0 0) []]) _ rfl ?_ ⟨(.slice none 0 0), rfl, rfl⟩)
    refine Sub.trans (SubU.to (SubU.nilT (P := Tryz.prog) (t := 27) (n := 1) (enc := c_api_Value))) ?_
    exact Sub.of_le (AF.le_put (AV.le_eq rfl) (AF.le_top _))
  · refine k_skip ?_
    refine kC_normal ?_
    refine k_seq ?_
    refine k_reg .free hmixP (by kernel_rfl) ?_
    refine G_l rfl (op_lit0I (enc := c_api_Value) (n := 1) (by kernel_rfl) (fun v1 => ?_))
    refine G_q rfl (op_move (av := .row 1 c_api_Value a0) rfl ?_)
    obtain ⟨n2, h⟩ := need_some h
    refine G_l rfl (op_appT (by kernel_rfl) rfl rfl oc_c_api_Value n2 (fun v3 => ?_))
    refine G_q rfl (op_assign (av := .exact v3) rfl ?_)
    refine G_nil ?_
    refine kC_normal ?_
    refine k_ret ?_
    obtain rfl := Option.some.inj h
    refine kP_any (endN (af' := (AF.put AF0 (some 2) (.exact v3))) (σ' := [vecT Tryz.prog 27 1 c_api_Value v3 (([] : List (List UInt8)) ++ a0)]) _ rfl ?_ ⟨v3, rfl, rfl⟩)
    exact Sub.of_le (AF.le_put (AV.le_eq rfl) (AF.le_top _))
set_option maxHeartbeats 4000000 in
theorem m_cmp_isNaN_byte_ok (a0 : UInt8) (r : Bool) (h : m_cmp_isNaN_byte a0 = some r) : Pure Tryz.prog 92 [(.exact (.int .u8 (UInt8.toNat a0 : Int)))] (.exact (.bool r)) := by
  unfold m_cmp_isNaN_byte at h
  refine Pure.ofFun (fun_of_awp Tryz.func92 rfl Tryz.ntmps92 (by simp) rfl (res1 rfl) fun E hE => k_end ?_)
  refine k_seq ?_
  refine k_reg .free hmixP (by kernel_rfl) ?_
  refine G_q rfl (op_assign (av := .exact (.bool false)) rfl ?_)
  refine G_nil ?_
  refine kC_normal ?_
  refine k_seq ?_
  refine k_reg .free hmixP (by kernel_rfl) ?_
  refine G_q rfl (op_move (av := .exact (.int .u8 (UInt8.toNat a0 : Int))) rfl ?_)
  refine G_q rfl (op_move (av := .exact (.int .u8 (UInt8.toNat a0 : Int))) rfl ?_)
  refine G_q rfl (op_neqU (a := a0) (b := a0) rfl rfl ?_)
  refine G_q rfl (op_assign (av := .exact (.bool (decide (¬ a0 = a0)))) rfl ?_)
  refine G_nil ?_
  refine kC_normal ?_
  refine k_ret ?_
  obtain rfl := Option.some.inj h
  refine kP_any (endN (af' := (AF.put AF0 (some 2) (.exact (.bool (decide (¬ a0 = a0)))))) (σ' := []) _ rfl ?_ ⟨rfl, rfl⟩)
  exact Sub.of_le (AF.le_put (AV.le_eq rfl) (AF.le_top _))
end Go.Proofs.YtdppkpiagdaigaaGreatDoor
/- The functions compute their models, by program. -/
namespace Go.Proofs.YtdppkpiagdaigaaGreatDoor
open Go.RowKit
attribute [local irreducible] AV.exact AV.top AV.row AV.ptr AV.agg AV.tup AV.eptr AV.fn AV.nilq AV.nilqn opA opB opM opR Quiet Loud Reads wpG awp den Sub SubU Pure Fun vecI vecT boxI CellsAll CellsOf OneC LEs LEss
set_option maxRecDepth 100000

set_option maxHeartbeats 4000000 in
theorem m_cmp_Compare_byte_ok (a0 : UInt8) (a1 : UInt8) (r : Int) (h : m_cmp_Compare_byte a0 a1 = some r) : Pure Tryz.prog 67 [(.exact (.int .u8 (UInt8.toNat a0 : Int))), (.exact (.int .u8 (UInt8.toNat a1 : Int)))] (.exact (.int .i64 r)) := by
  unfold m_cmp_Compare_byte at h
  refine Pure.ofFun (fun_of_awp Tryz.func67 rfl Tryz.ntmps67 (by simp) rfl (res1 rfl) fun E hE => k_end ?_)
  refine k_seq ?_
  refine k_reg .free hmixP (by kernel_rfl) ?_
  refine G_q rfl (op_assign (av := .exact (.int .i64 0)) rfl ?_)
  refine G_nil ?_
  refine kC_normal ?_
  refine k_seq ?_
  refine k_reg .free hmixP (by kernel_rfl) ?_
  refine G_q rfl (op_move (av := .exact (.int .u8 (UInt8.toNat a0 : Int))) rfl ?_)
  obtain ⟨y1, hy1, h⟩ := bnd1_some h
  refine G_q rfl (op_pure (m_cmp_isNaN_byte_ok _ _ hy1) Tryz.func92 (by kernel_rfl) (LEs.cons (AV.le_eq rfl) LEs.nil) ?_)
  refine G_q rfl (op_assign (av := .exact (.bool y1)) rfl ?_)
  refine G_nil ?_
  refine kC_normal ?_
  refine k_seq ?_
  refine k_reg .free hmixP (by kernel_rfl) ?_
  refine G_q rfl (op_move (av := .exact (.int .u8 (UInt8.toNat a1 : Int))) rfl ?_)
  obtain ⟨y2, hy2, h⟩ := bnd1_some h
  refine G_q rfl (op_pure (m_cmp_isNaN_byte_ok _ _ hy2) Tryz.func92 (by kernel_rfl) (LEs.cons (AV.le_eq rfl) LEs.nil) ?_)
  refine G_q rfl (op_assign (av := .exact (.bool y2)) rfl ?_)
  refine G_nil ?_
  refine kC_normal ?_
  refine k_seq ?_
  refine k_seq ?_
  refine k_reg .free hmixP (by kernel_rfl) ?_
  refine G_q rfl (op_move (av := .exact (.bool y1)) rfl ?_)
  refine G_nil ?_
  refine kC_normal ?_
  refine k_cond_b (c := y1) rfl (fun hc => ?_) (fun hc => ?_)
  · replace h := ite_t h hc
    refine k_seq ?_
    refine k_seq ?_
    refine k_reg .free hmixP (by kernel_rfl) ?_
    refine G_q rfl (op_move (av := .exact (.bool y2)) rfl ?_)
    refine G_nil ?_
    refine kC_normal ?_
    refine k_cond_b (c := y2) rfl (fun hc => ?_) (fun hc => ?_)
    · replace h := ite_t h hc
      refine k_seq ?_
      refine k_reg .free hmixP (by kernel_rfl) ?_
      refine G_q rfl (op_assign (av := .exact (.int .i64 0)) rfl ?_)
      refine G_nil ?_
      refine kC_normal ?_
      refine k_ret ?_
      refine kC_ret ?_
      refine kC_ret ?_
      obtain rfl := Option.some.inj h
      refine kP_any (endN (af' := (AF.put AF0 (some 4) (.exact (.int .i64 0)))) (σ' := []) _ rfl ?_ ⟨rfl, rfl⟩)
      exact Sub.of_le (AF.le_put (AV.le_eq rfl) (AF.le_top _))
    · replace h := ite_f h hc
      refine k_skip ?_
      refine kC_normal ?_
      refine k_seq ?_
      refine k_reg .free hmixP (by kernel_rfl) ?_
      refine G_q rfl (op_assign (av := .exact (.int .i64 (-1))) rfl ?_)
      refine G_nil ?_
      refine kC_normal ?_
      refine k_ret ?_
      refine kC_ret ?_
      obtain rfl := Option.some.inj h
      refine kP_any (endN (af' := (AF.put AF0 (some 4) (.exact (.int .i64 (-1))))) (σ' := []) _ rfl ?_ ⟨rfl, rfl⟩)
      exact Sub.of_le (AF.le_put (AV.le_eq rfl) (AF.le_top _))
  · replace h := ite_f h hc
    refine k_skip ?_
    refine kC_normal ?_
    refine k_seq ?_
    refine k_seq ?_
    refine k_reg .free hmixP (by kernel_rfl) ?_
    refine G_q rfl (op_move (av := .exact (.bool y2)) rfl ?_)
    refine G_nil ?_
    refine kC_normal ?_
    refine k_cond_b (c := y2) rfl (fun hc => ?_) (fun hc => ?_)
    · replace h := ite_t h hc
      refine k_seq ?_
      refine k_reg .free hmixP (by kernel_rfl) ?_
      refine G_q rfl (op_assign (av := .exact (.int .i64 1)) rfl ?_)
      refine G_nil ?_
      refine kC_normal ?_
      refine k_ret ?_
      refine kC_ret ?_
      obtain rfl := Option.some.inj h
      refine kP_any (endN (af' := (AF.put AF0 (some 4) (.exact (.int .i64 1)))) (σ' := []) _ rfl ?_ ⟨rfl, rfl⟩)
      exact Sub.of_le (AF.le_put (AV.le_eq rfl) (AF.le_top _))
    · replace h := ite_f h hc
      refine k_skip ?_
      refine kC_normal ?_
      refine k_seq ?_
      refine k_seq ?_
      refine k_reg .free hmixP (by kernel_rfl) ?_
      refine G_q rfl (op_move (av := .exact (.int .u8 (UInt8.toNat a0 : Int))) rfl ?_)
      refine G_q rfl (op_move (av := .exact (.int .u8 (UInt8.toNat a1 : Int))) rfl ?_)
      refine G_q rfl (op_lssU (a := a0) (b := a1) rfl rfl ?_)
      refine G_nil ?_
      refine kC_normal ?_
      refine k_cond_d (p := a0 < a1) rfl (fun hc => ?_) (fun hc => ?_)
      · replace h := ite_t h hc
        refine k_seq ?_
        refine k_reg .free hmixP (by kernel_rfl) ?_
        refine G_q rfl (op_assign (av := .exact (.int .i64 (-1))) rfl ?_)
        refine G_nil ?_
        refine kC_normal ?_
        refine k_ret ?_
        refine kC_ret ?_
        obtain rfl := Option.some.inj h
        refine kP_any (endN (af' := (AF.put AF0 (some 4) (.exact (.int .i64 (-1))))) (σ' := []) _ rfl ?_ ⟨rfl, rfl⟩)
        exact Sub.of_le (AF.le_put (AV.le_eq rfl) (AF.le_top _))
      · replace h := ite_f h hc
        refine k_skip ?_
        refine kC_normal ?_
        refine k_seq ?_
        refine k_seq ?_
        refine k_reg .free hmixP (by kernel_rfl) ?_
        refine G_q rfl (op_move (av := .exact (.int .u8 (UInt8.toNat a0 : Int))) rfl ?_)
        refine G_q rfl (op_move (av := .exact (.int .u8 (UInt8.toNat a1 : Int))) rfl ?_)
        refine G_q rfl (op_gtrU (a := a0) (b := a1) rfl rfl ?_)
        refine G_nil ?_
        refine kC_normal ?_
        refine k_cond_d (p := a1 < a0) rfl (fun hc => ?_) (fun hc => ?_)
        · replace h := ite_t h hc
          refine k_seq ?_
          refine k_reg .free hmixP (by kernel_rfl) ?_
          refine G_q rfl (op_assign (av := .exact (.int .i64 1)) rfl ?_)
          refine G_nil ?_
          refine kC_normal ?_
          refine k_ret ?_
          refine kC_ret ?_
          obtain rfl := Option.some.inj h
          refine kP_any (endN (af' := (AF.put AF0 (some 4) (.exact (.int .i64 1)))) (σ' := []) _ rfl ?_ ⟨rfl, rfl⟩)
          exact Sub.of_le (AF.le_put (AV.le_eq rfl) (AF.le_top _))
        · replace h := ite_f h hc
          refine k_skip ?_
          refine kC_normal ?_
          refine k_seq ?_
          refine k_reg .free hmixP (by kernel_rfl) ?_
          refine G_q rfl (op_assign (av := .exact (.int .i64 0)) rfl ?_)
          refine G_nil ?_
          refine kC_normal ?_
          refine k_ret ?_
          obtain rfl := Option.some.inj h
          refine kP_any (endN (af' := (AF.put AF0 (some 4) (.exact (.int .i64 0)))) (σ' := []) _ rfl ?_ ⟨rfl, rfl⟩)
          exact Sub.of_le (AF.le_put (AV.le_eq rfl) (AF.le_top _))
set_option maxHeartbeats 4000000 in
theorem m_value_integer_ok (a0 : List UInt8) (r : Int) (h : m_value_integer a0 = some r) : Pure Tryz.prog 57 [(.exact (.string (bs a0)))] (.exact (.int .i64 r)) := by
  unfold m_value_integer at h
  refine Pure.ofFun (fun_of_awp Tryz.func57 rfl Tryz.ntmps57 (by simp) rfl (res1 rfl) fun E hE => k_end ?_)
  refine k_seq ?_
  refine k_reg .free hmixP (by kernel_rfl) ?_
  refine G_q rfl (op_assign (av := .exact (.int .i64 0)) rfl ?_)
  refine G_nil ?_
  refine kC_normal ?_
  refine k_seq ?_
  refine k_reg .free hmixP (by kernel_rfl) ?_
  refine G_q rfl (op_assign (av := .exact (.int .u64 0)) rfl ?_)
  refine G_nil ?_
  refine kC_normal ?_
  refine k_join1_0 h (fun (x3_j1 : Int) => (AF.put AF0 (some 3) (.exact (.int .u64 x3_j1)))) (fun (x3_j1 : Int) => []) (fun k1 h => ?_) (fun x3_j1 h => ?_)
  · refine k_seq ?_
    refine k_reg .free hmixP (by kernel_rfl) ?_
    refine G_q rfl (op_assign (av := .exact (.int .i64 1)) rfl ?_)
    refine G_nil ?_
    refine kC_normal ?_
    refine k_block ?_
    refine k_loop2_0 (m_value_integer_L2 a0 k1) (m_value_integer_B2 a0 k1) (fun _ _ => rfl) (fun m _ _ => rfl) h (fun (x3_l2 : Int) (x4_l2 : Int) => (AF.put (AF.put (AF.put AF0 (some 0) (.exact (.string (bs a0)))) (some 3) (.exact (.int .u64 x3_l2))) (some 4) (.exact (.int .i64 x4_l2)))) (fun (x3_l2 : Int) (x4_l2 : Int) => []) ?_ (fun rec2 x3_l2 x4_l2 h => ?_)
    · exact Sub.of_le (AF.le_put (AV.le_eq rfl) (AF.le_put (AV.le_eq rfl) (AF.le_put (AV.le_eq rfl) (AF.le_top _))))
    · unfold m_value_integer_B2 at h
      refine k_seq ?_
      refine k_seq ?_
      refine k_reg .free hmixP (by kernel_rfl) ?_
      refine G_q rfl (op_move (av := .exact (.int .i64 x4_l2)) rfl ?_)
      refine G_q rfl (op_lss rfl rfl ?_)
      refine G_nil ?_
      refine kC_normal ?_
      refine k_cond_d (p := x4_l2 < 9) rfl (fun hc => ?_) (fun hc => ?_)
      · replace h := ite_t h hc
        refine k_skip ?_
        refine kC_normal ?_
        refine k_seq ?_
        refine k_block ?_
        refine k_reg .free hmixP (by kernel_rfl) ?_
        refine G_q rfl (op_move (av := .exact (.int .u64 x3_l2)) rfl ?_)
        refine G_q rfl (op_shl rfl rfl (by decide) rfl ?_)
        refine G_q rfl (op_move (av := .exact (.string (bs a0))) rfl ?_)
        refine G_q rfl (op_move (av := .exact (.int .i64 x4_l2)) rfl ?_)
        obtain ⟨n8, h⟩ := need_some h
        refine G_q rfl (op_index_str (by kernel_rfl) rfl rfl n8.1 n8.2 ?_)
        refine G_q rfl (op_convInt (k := .u64) (r := (UInt8.toNat (gi a0 x4_l2) : Int)) (by kernel_rfl) rfl (wrap_u8 rfl _) ?_)
        refine G_q rfl (op_or rfl rfl rfl ?_)
        refine G_q rfl (op_assign (av := .exact (.int .u64 (bOr .u64 (IntKind.u64.wrap (x3_l2 * 2 ^ min (Int.toNat 8) IntKind.u64.bits)) (UInt8.toNat (gi a0 x4_l2) : Int)))) rfl ?_)
        refine G_nil ?_
        refine kB_normal ?_
        refine kC_normal ?_
        refine k_reg .free hmixP (by kernel_rfl) ?_
        refine G_q rfl (op_move (av := .exact (.int .i64 x4_l2)) rfl ?_)
        refine G_q rfl (op_add rfl rfl rfl ?_)
        refine G_q rfl (op_assign (av := .exact (.int .i64 (i64 (x4_l2 + 1)))) rfl ?_)
        refine G_nil ?_
        refine kI_normal ⟨_, _, h, ?_⟩
        exact Sub.of_le (AF.le_put (AV.le_eq rfl) (AF.le_put (AV.le_eq rfl) (AF.le_put (AV.le_eq rfl) (AF.le_top _))))
      · replace h := ite_f h hc
        refine k_exit ?_
        refine kC_exit ?_
        refine kI_exit ?_
        refine kB_exit ?_
        refine kI_normal ⟨_, h, ?_⟩
        exact Sub.of_le (AF.le_put (AV.le_eq rfl) (AF.le_top _))
  · refine k_seq ?_
    refine k_reg .free hmixP (by kernel_rfl) ?_
    refine G_q rfl (op_move (av := .exact (.int .u64 x3_j1)) rfl ?_)
    refine G_q rfl (op_convInt (k := .i64) (by kernel_rfl) rfl rfl ?_)
    refine G_q rfl (op_assign (av := .exact (.int .i64 (i64 (x3_j1)))) rfl ?_)
    refine G_nil ?_
    refine kC_normal ?_
    refine k_ret ?_
    obtain rfl := Option.some.inj h
    refine kP_any (endN (af' := (AF.put AF0 (some 2) (.exact (.int .i64 (i64 (x3_j1)))))) (σ' := []) _ rfl ?_ ⟨rfl, rfl⟩)
    exact Sub.of_le (AF.le_put (AV.le_eq rfl) (AF.le_top _))
set_option maxHeartbeats 4000000 in
theorem m_cmp_isNaN_int64_ok (a0 : Int) (r : Bool) (h : m_cmp_isNaN_int64 a0 = some r) : Pure Tryz.prog 93 [(.exact (.int .i64 a0))] (.exact (.bool r)) := by
  unfold m_cmp_isNaN_int64 at h
  refine Pure.ofFun (fun_of_awp Tryz.func93 rfl Tryz.ntmps93 (by simp) rfl (res1 rfl) fun E hE => k_end ?_)
  refine k_seq ?_
  refine k_reg .free hmixP (by kernel_rfl) ?_
  refine G_q rfl (op_assign (av := .exact (.bool false)) rfl ?_)
  refine G_nil ?_
  refine kC_normal ?_
  refine k_seq ?_
  refine k_reg .free hmixP (by kernel_rfl) ?_
  refine G_q rfl (op_move (av := .exact (.int .i64 a0)) rfl ?_)
  refine G_q rfl (op_move (av := .exact (.int .i64 a0)) rfl ?_)
  refine G_q rfl (op_neq rfl rfl ?_)
  refine G_q rfl (op_assign (av := .exact (.bool (decide (¬ a0 = a0)))) rfl ?_)
  refine G_nil ?_
  refine kC_normal ?_
  refine k_ret ?_
  obtain rfl := Option.some.inj h
  refine kP_any (endN (af' := (AF.put AF0 (some 2) (.exact (.bool (decide (¬ a0 = a0)))))) (σ' := []) _ rfl ?_ ⟨rfl, rfl⟩)
  exact Sub.of_le (AF.le_put (AV.le_eq rfl) (AF.le_top _))
set_option maxHeartbeats 4000000 in
theorem m_cmp_Compare_int64_ok (a0 : Int) (a1 : Int) (r : Int) (h : m_cmp_Compare_int64 a0 a1 = some r) : Pure Tryz.prog 68 [(.exact (.int .i64 a0)), (.exact (.int .i64 a1))] (.exact (.int .i64 r)) := by
  unfold m_cmp_Compare_int64 at h
  refine Pure.ofFun (fun_of_awp Tryz.func68 rfl Tryz.ntmps68 (by simp) rfl (res1 rfl) fun E hE => k_end ?_)
  refine k_seq ?_
  refine k_reg .free hmixP (by kernel_rfl) ?_
  refine G_q rfl (op_assign (av := .exact (.int .i64 0)) rfl ?_)
  refine G_nil ?_
  refine kC_normal ?_
  refine k_seq ?_
  refine k_reg .free hmixP (by kernel_rfl) ?_
  refine G_q rfl (op_move (av := .exact (.int .i64 a0)) rfl ?_)
  obtain ⟨y1, hy1, h⟩ := bnd1_some h
  refine G_q rfl (op_pure (m_cmp_isNaN_int64_ok _ _ hy1) Tryz.func93 (by kernel_rfl) (LEs.cons (AV.le_eq rfl) LEs.nil) ?_)
  refine G_q rfl (op_assign (av := .exact (.bool y1)) rfl ?_)
  refine G_nil ?_
  refine kC_normal ?_
  refine k_seq ?_
  refine k_reg .free hmixP (by kernel_rfl) ?_
  refine G_q rfl (op_move (av := .exact (.int .i64 a1)) rfl ?_)
  obtain ⟨y2, hy2, h⟩ := bnd1_some h
  refine G_q rfl (op_pure (m_cmp_isNaN_int64_ok _ _ hy2) Tryz.func93 (by kernel_rfl) (LEs.cons (AV.le_eq rfl) LEs.nil) ?_)
  refine G_q rfl (op_assign (av := .exact (.bool y2)) rfl ?_)
  refine G_nil ?_
  refine kC_normal ?_
  refine k_seq ?_
  refine k_seq ?_
  refine k_reg .free hmixP (by kernel_rfl) ?_
  refine G_q rfl (op_move (av := .exact (.bool y1)) rfl ?_)
  refine G_nil ?_
  refine kC_normal ?_
  refine k_cond_b (c := y1) rfl (fun hc => ?_) (fun hc => ?_)
  · replace h := ite_t h hc
    refine k_seq ?_
    refine k_seq ?_
    refine k_reg .free hmixP (by kernel_rfl) ?_
    refine G_q rfl (op_move (av := .exact (.bool y2)) rfl ?_)
    refine G_nil ?_
    refine kC_normal ?_
    refine k_cond_b (c := y2) rfl (fun hc => ?_) (fun hc => ?_)
    · replace h := ite_t h hc
      refine k_seq ?_
      refine k_reg .free hmixP (by kernel_rfl) ?_
      refine G_q rfl (op_assign (av := .exact (.int .i64 0)) rfl ?_)
      refine G_nil ?_
      refine kC_normal ?_
      refine k_ret ?_
      refine kC_ret ?_
      refine kC_ret ?_
      obtain rfl := Option.some.inj h
      refine kP_any (endN (af' := (AF.put AF0 (some 4) (.exact (.int .i64 0)))) (σ' := []) _ rfl ?_ ⟨rfl, rfl⟩)
      exact Sub.of_le (AF.le_put (AV.le_eq rfl) (AF.le_top _))
    · replace h := ite_f h hc
      refine k_skip ?_
      refine kC_normal ?_
      refine k_seq ?_
      refine k_reg .free hmixP (by kernel_rfl) ?_
      refine G_q rfl (op_assign (av := .exact (.int .i64 (-1))) rfl ?_)
      refine G_nil ?_
      refine kC_normal ?_
      refine k_ret ?_
      refine kC_ret ?_
      obtain rfl := Option.some.inj h
      refine kP_any (endN (af' := (AF.put AF0 (some 4) (.exact (.int .i64 (-1))))) (σ' := []) _ rfl ?_ ⟨rfl, rfl⟩)
      exact Sub.of_le (AF.le_put (AV.le_eq rfl) (AF.le_top _))
  · replace h := ite_f h hc
    refine k_skip ?_
    refine kC_normal ?_
    refine k_seq ?_
    refine k_seq ?_
    refine k_reg .free hmixP (by kernel_rfl) ?_
    refine G_q rfl (op_move (av := .exact (.bool y2)) rfl ?_)
    refine G_nil ?_
    refine kC_normal ?_
    refine k_cond_b (c := y2) rfl (fun hc => ?_) (fun hc => ?_)
    · replace h := ite_t h hc
      refine k_seq ?_
      refine k_reg .free hmixP (by kernel_rfl) ?_
      refine G_q rfl (op_assign (av := .exact (.int .i64 1)) rfl ?_)
      refine G_nil ?_
      refine kC_normal ?_
      refine k_ret ?_
      refine kC_ret ?_
      obtain rfl := Option.some.inj h
      refine kP_any (endN (af' := (AF.put AF0 (some 4) (.exact (.int .i64 1)))) (σ' := []) _ rfl ?_ ⟨rfl, rfl⟩)
      exact Sub.of_le (AF.le_put (AV.le_eq rfl) (AF.le_top _))
    · replace h := ite_f h hc
      refine k_skip ?_
      refine kC_normal ?_
      refine k_seq ?_
      refine k_seq ?_
      refine k_reg .free hmixP (by kernel_rfl) ?_
      refine G_q rfl (op_move (av := .exact (.int .i64 a0)) rfl ?_)
      refine G_q rfl (op_move (av := .exact (.int .i64 a1)) rfl ?_)
      refine G_q rfl (op_lss rfl rfl ?_)
      refine G_nil ?_
      refine kC_normal ?_
      refine k_cond_d (p := a0 < a1) rfl (fun hc => ?_) (fun hc => ?_)
      · replace h := ite_t h hc
        refine k_seq ?_
        refine k_reg .free hmixP (by kernel_rfl) ?_
        refine G_q rfl (op_assign (av := .exact (.int .i64 (-1))) rfl ?_)
        refine G_nil ?_
        refine kC_normal ?_
        refine k_ret ?_
        refine kC_ret ?_
        obtain rfl := Option.some.inj h
        refine kP_any (endN (af' := (AF.put AF0 (some 4) (.exact (.int .i64 (-1))))) (σ' := []) _ rfl ?_ ⟨rfl, rfl⟩)
        exact Sub.of_le (AF.le_put (AV.le_eq rfl) (AF.le_top _))
      · replace h := ite_f h hc
        refine k_skip ?_
        refine kC_normal ?_
        refine k_seq ?_
        refine k_seq ?_
        refine k_reg .free hmixP (by kernel_rfl) ?_
        refine G_q rfl (op_move (av := .exact (.int .i64 a0)) rfl ?_)
        refine G_q rfl (op_move (av := .exact (.int .i64 a1)) rfl ?_)
        refine G_q rfl (op_gtr rfl rfl ?_)
        refine G_nil ?_
        refine kC_normal ?_
        refine k_cond_d (p := a1 < a0) rfl (fun hc => ?_) (fun hc => ?_)
        · replace h := ite_t h hc
          refine k_seq ?_
          refine k_reg .free hmixP (by kernel_rfl) ?_
          refine G_q rfl (op_assign (av := .exact (.int .i64 1)) rfl ?_)
          refine G_nil ?_
          refine kC_normal ?_
          refine k_ret ?_
          refine kC_ret ?_
          obtain rfl := Option.some.inj h
          refine kP_any (endN (af' := (AF.put AF0 (some 4) (.exact (.int .i64 1)))) (σ' := []) _ rfl ?_ ⟨rfl, rfl⟩)
          exact Sub.of_le (AF.le_put (AV.le_eq rfl) (AF.le_top _))
        · replace h := ite_f h hc
          refine k_skip ?_
          refine kC_normal ?_
          refine k_seq ?_
          refine k_reg .free hmixP (by kernel_rfl) ?_
          refine G_q rfl (op_assign (av := .exact (.int .i64 0)) rfl ?_)
          refine G_nil ?_
          refine kC_normal ?_
          refine k_ret ?_
          obtain rfl := Option.some.inj h
          refine kP_any (endN (af' := (AF.put AF0 (some 4) (.exact (.int .i64 0)))) (σ' := []) _ rfl ?_ ⟨rfl, rfl⟩)
          exact Sub.of_le (AF.le_put (AV.le_eq rfl) (AF.le_top _))
set_option maxHeartbeats 4000000 in
theorem m_value_simple_ok (a0 : Int) (r : Bool) (h : m_value_simple a0 = some r) : Pure Tryz.prog 54 [(.exact (.int .i64 a0))] (.exact (.bool r)) := by
  unfold m_value_simple at h
  refine Pure.ofFun (fun_of_awp Tryz.func54 rfl Tryz.ntmps54 (by simp) rfl (res1 rfl) fun E hE => k_end ?_)
  refine k_seq ?_
  refine k_reg .free hmixP (by kernel_rfl) ?_
  refine G_q rfl (op_assign (av := .exact (.bool false)) rfl ?_)
  refine G_nil ?_
  refine kC_normal ?_
  refine k_join1_0 h (fun (x2_j1 : Bool) => (AF.put AF0 (some 2) (.exact (.bool x2_j1)))) (fun (x2_j1 : Bool) => []) (fun k1 h => ?_) (fun x2_j1 h => ?_)
  · refine k_reg .free hmixP (by kernel_rfl) ?_
    refine G_q rfl (op_move (av := .exact (.int .i64 a0)) rfl ?_)
    refine G_q rfl (op_eql rfl rfl ?_)
    refine G_q rfl (op_move (av := .exact (.bool (decide (a0 = 0)))) rfl ?_)
    refine G_split (p := a0 = 0) 5 rfl (fun hc => ?_) (fun hc => ?_)
    · replace h := ite_t h hc
      refine G_n rfl rfl ?_
      refine G_n rfl rfl ?_
      refine G_q rfl (op_pick_t rfl (av := .exact (.bool true)) rfl ?_)
      refine G_q rfl (op_move (av := .exact (.bool true)) rfl ?_)
      refine G_n rfl rfl ?_
      refine G_n rfl rfl ?_
      refine G_q rfl (op_pick_t rfl (av := .exact (.bool true)) rfl ?_)
      refine G_q rfl (op_move (av := .exact (.bool true)) rfl ?_)
      refine G_n rfl rfl ?_
      refine G_n rfl rfl ?_
      refine G_q rfl (op_pick_t rfl (av := .exact (.bool true)) rfl ?_)
      refine G_q rfl (op_assign (av := .exact (.bool true)) rfl ?_)
      refine G_nil ?_
      refine kI_normal ⟨_, h, ?_⟩
      exact Sub.of_le (AF.le_put (AV.le_eq rfl) (AF.le_top _))
    · replace h := ite_f h hc
      refine Gy_q rfl rfl rfl (op_move (av := .exact (.int .i64 a0)) rfl ?_)
      refine Gy_q rfl rfl rfl (op_eql rfl rfl ?_)
      refine G_q rfl (op_pick_f rfl (av := .exact (.bool (decide (a0 = 1)))) rfl ?_)
      refine G_q rfl (op_move (av := .exact (.bool (decide (a0 = 1)))) rfl ?_)
      refine G_split (p := a0 = 1) 9 rfl (fun hc => ?_) (fun hc => ?_)
      · replace h := ite_t h hc
        refine G_n rfl rfl ?_
        refine G_n rfl rfl ?_
        refine G_q rfl (op_pick_t rfl (av := .exact (.bool true)) rfl ?_)
        refine G_q rfl (op_move (av := .exact (.bool true)) rfl ?_)
        refine G_n rfl rfl ?_
        refine G_n rfl rfl ?_
        refine G_q rfl (op_pick_t rfl (av := .exact (.bool true)) rfl ?_)
        refine G_q rfl (op_assign (av := .exact (.bool true)) rfl ?_)
        refine G_nil ?_
        refine kI_normal ⟨_, h, ?_⟩
        exact Sub.of_le (AF.le_put (AV.le_eq rfl) (AF.le_top _))
      · replace h := ite_f h hc
        refine Gy_q rfl rfl rfl (op_move (av := .exact (.int .i64 a0)) rfl ?_)
        refine Gy_q rfl rfl rfl (op_eql rfl rfl ?_)
        refine G_q rfl (op_pick_f rfl (av := .exact (.bool (decide (a0 = 2)))) rfl ?_)
        refine G_q rfl (op_move (av := .exact (.bool (decide (a0 = 2)))) rfl ?_)
        refine G_split (p := a0 = 2) 13 rfl (fun hc => ?_) (fun hc => ?_)
        · replace h := ite_t h hc
          refine G_n rfl rfl ?_
          refine G_n rfl rfl ?_
          refine G_q rfl (op_pick_t rfl (av := .exact (.bool true)) rfl ?_)
          refine G_q rfl (op_assign (av := .exact (.bool true)) rfl ?_)
          refine G_nil ?_
          refine kI_normal ⟨_, h, ?_⟩
          exact Sub.of_le (AF.le_put (AV.le_eq rfl) (AF.le_top _))
        · replace h := ite_f h hc
          refine Gy_q rfl rfl rfl (op_move (av := .exact (.int .i64 a0)) rfl ?_)
          refine Gy_q rfl rfl rfl (op_eql rfl rfl ?_)
          refine G_q rfl (op_pick_f rfl (av := .exact (.bool (decide (a0 = 10)))) rfl ?_)
          refine G_q rfl (op_assign (av := .exact (.bool (decide (a0 = 10)))) rfl ?_)
          refine G_nil ?_
          refine kI_normal ⟨_, h, ?_⟩
          exact Sub.of_le (AF.le_put (AV.le_eq rfl) (AF.le_top _))
  · refine k_ret ?_
    obtain rfl := Option.some.inj h
    refine kP_any (endN (af' := (AF.put AF0 (some 2) (.exact (.bool x2_j1)))) (σ' := []) _ rfl ?_ ⟨rfl, rfl⟩)
    exact Sub.of_le (AF.le_put (AV.le_eq rfl) (AF.le_top _))
set_option maxHeartbeats 4000000 in
theorem m_cmp_isNaN_api_Value_ok (a0 : List UInt8) (r : Bool) (h : m_cmp_isNaN_api_Value a0 = some r) : Pure Tryz.prog 70 [(.exact (.string (bs a0)))] (.exact (.bool r)) := by
  unfold m_cmp_isNaN_api_Value at h
  refine Pure.ofFun (fun_of_awp Tryz.func70 rfl Tryz.ntmps70 (by simp) rfl (res1 rfl) fun E hE => k_end ?_)
  refine k_seq ?_
  refine k_reg .free hmixP (by kernel_rfl) ?_
  refine G_q rfl (op_assign (av := .exact (.bool false)) rfl ?_)
  refine G_nil ?_
  refine kC_normal ?_
  refine k_seq ?_
  refine k_reg .free hmixP (by kernel_rfl) ?_
  refine G_q rfl (op_move (av := .exact (.string (bs a0))) rfl ?_)
  refine G_q rfl (op_move (av := .exact (.string (bs a0))) rfl ?_)
  refine G_q rfl (op_neqS rfl rfl ?_)
  refine G_q rfl (op_assign (av := .exact (.bool (decide (¬ a0 = a0)))) rfl ?_)
  refine G_nil ?_
  refine kC_normal ?_
  refine k_ret ?_
  obtain rfl := Option.some.inj h
  refine kP_any (endN (af' := (AF.put AF0 (some 2) (.exact (.bool (decide (¬ a0 = a0)))))) (σ' := []) _ rfl ?_ ⟨rfl, rfl⟩)
  exact Sub.of_le (AF.le_put (AV.le_eq rfl) (AF.le_top _))
set_option maxHeartbeats 4000000 in
theorem m_cmp_Compare_api_Value_ok (a0 : List UInt8) (a1 : List UInt8) (r : Int) (h : m_cmp_Compare_api_Value a0 a1 = some r) : Pure Tryz.prog 45 [(.exact (.string (bs a0))), (.exact (.string (bs a1)))] (.exact (.int .i64 r)) := by
  unfold m_cmp_Compare_api_Value at h
  refine Pure.ofFun (fun_of_awp Tryz.func45 rfl Tryz.ntmps45 (by simp) rfl (res1 rfl) fun E hE => k_end ?_)
  refine k_seq ?_
  refine k_reg .free hmixP (by kernel_rfl) ?_
  refine G_q rfl (op_assign (av := .exact (.int .i64 0)) rfl ?_)
  refine G_nil ?_
  refine kC_normal ?_
  refine k_seq ?_
  refine k_reg .free hmixP (by kernel_rfl) ?_
  refine G_q rfl (op_move (av := .exact (.string (bs a0))) rfl ?_)
  obtain ⟨y1, hy1, h⟩ := bnd1_some h
  refine G_q rfl (op_pure (m_cmp_isNaN_api_Value_ok _ _ hy1) Tryz.func70 (by kernel_rfl) (LEs.cons (AV.le_eq rfl) LEs.nil) ?_)
  refine G_q rfl (op_assign (av := .exact (.bool y1)) rfl ?_)
  refine G_nil ?_
  refine kC_normal ?_
  refine k_seq ?_
  refine k_reg .free hmixP (by kernel_rfl) ?_
  refine G_q rfl (op_move (av := .exact (.string (bs a1))) rfl ?_)
  obtain ⟨y2, hy2, h⟩ := bnd1_some h
  refine G_q rfl (op_pure (m_cmp_isNaN_api_Value_ok _ _ hy2) Tryz.func70 (by kernel_rfl) (LEs.cons (AV.le_eq rfl) LEs.nil) ?_)
  refine G_q rfl (op_assign (av := .exact (.bool y2)) rfl ?_)
  refine G_nil ?_
  refine kC_normal ?_
  refine k_seq ?_
  refine k_seq ?_
  refine k_reg .free hmixP (by kernel_rfl) ?_
  refine G_q rfl (op_move (av := .exact (.bool y1)) rfl ?_)
  refine G_nil ?_
  refine kC_normal ?_
  refine k_cond_b (c := y1) rfl (fun hc => ?_) (fun hc => ?_)
  · replace h := ite_t h hc
    refine k_seq ?_
    refine k_seq ?_
    refine k_reg .free hmixP (by kernel_rfl) ?_
    refine G_q rfl (op_move (av := .exact (.bool y2)) rfl ?_)
    refine G_nil ?_
    refine kC_normal ?_
    refine k_cond_b (c := y2) rfl (fun hc => ?_) (fun hc => ?_)
    · replace h := ite_t h hc
      refine k_seq ?_
      refine k_reg .free hmixP (by kernel_rfl) ?_
      refine G_q rfl (op_assign (av := .exact (.int .i64 0)) rfl ?_)
      refine G_nil ?_
      refine kC_normal ?_
      refine k_ret ?_
      refine kC_ret ?_
      refine kC_ret ?_
      obtain rfl := Option.some.inj h
      refine kP_any (endN (af' := (AF.put AF0 (some 4) (.exact (.int .i64 0)))) (σ' := []) _ rfl ?_ ⟨rfl, rfl⟩)
      exact Sub.of_le (AF.le_put (AV.le_eq rfl) (AF.le_top _))
    · replace h := ite_f h hc
      refine k_skip ?_
      refine kC_normal ?_
      refine k_seq ?_
      refine k_reg .free hmixP (by kernel_rfl) ?_
      refine G_q rfl (op_assign (av := .exact (.int .i64 (-1))) rfl ?_)
      refine G_nil ?_
      refine kC_normal ?_
      refine k_ret ?_
      refine kC_ret ?_
      obtain rfl := Option.some.inj h
      refine kP_any (endN (af' := (AF.put AF0 (some 4) (.exact (.int .i64 (-1))))) (σ' := []) _ rfl ?_ ⟨rfl, rfl⟩)
      exact Sub.of_le (AF.le_put (AV.le_eq rfl) (AF.le_top _))
  · replace h := ite_f h hc
    refine k_skip ?_
    refine kC_normal ?_
    refine k_seq ?_
    refine k_seq ?_
    refine k_reg .free hmixP (by kernel_rfl) ?_
    refine G_q rfl (op_move (av := .exact (.bool y2)) rfl ?_)
    refine G_nil ?_
    refine kC_normal ?_
    refine k_cond_b (c := y2) rfl (fun hc => ?_) (fun hc => ?_)
    · replace h := ite_t h hc
      refine k_seq ?_
      refine k_reg .free hmixP (by kernel_rfl) ?_
      refine G_q rfl (op_assign (av := .exact (.int .i64 1)) rfl ?_)
      refine G_nil ?_
      refine kC_normal ?_
      refine k_ret ?_
      refine kC_ret ?_
      obtain rfl := Option.some.inj h
      refine kP_any (endN (af' := (AF.put AF0 (some 4) (.exact (.int .i64 1)))) (σ' := []) _ rfl ?_ ⟨rfl, rfl⟩)
      exact Sub.of_le (AF.le_put (AV.le_eq rfl) (AF.le_top _))
    · replace h := ite_f h hc
      refine k_skip ?_
      refine kC_normal ?_
      refine k_seq ?_
      refine k_seq ?_
      refine k_reg .free hmixP (by kernel_rfl) ?_
      refine G_q rfl (op_move (av := .exact (.string (bs a0))) rfl ?_)
      refine G_q rfl (op_move (av := .exact (.string (bs a1))) rfl ?_)
      refine G_q rfl (op_lssS rfl rfl ?_)
      refine G_nil ?_
      refine kC_normal ?_
      refine k_cond_d (p := ltS a0 a1) rfl (fun hc => ?_) (fun hc => ?_)
      · replace h := ite_t h hc
        refine k_seq ?_
        refine k_reg .free hmixP (by kernel_rfl) ?_
        refine G_q rfl (op_assign (av := .exact (.int .i64 (-1))) rfl ?_)
        refine G_nil ?_
        refine kC_normal ?_
        refine k_ret ?_
        refine kC_ret ?_
        obtain rfl := Option.some.inj h
        refine kP_any (endN (af' := (AF.put AF0 (some 4) (.exact (.int .i64 (-1))))) (σ' := []) _ rfl ?_ ⟨rfl, rfl⟩)
        exact Sub.of_le (AF.le_put (AV.le_eq rfl) (AF.le_top _))
      · replace h := ite_f h hc
        refine k_skip ?_
        refine kC_normal ?_
        refine k_seq ?_
        refine k_seq ?_
        refine k_reg .free hmixP (by kernel_rfl) ?_
        refine G_q rfl (op_move (av := .exact (.string (bs a0))) rfl ?_)
        refine G_q rfl (op_move (av := .exact (.string (bs a1))) rfl ?_)
        refine G_q rfl (op_gtrS rfl rfl ?_)
        refine G_nil ?_
        refine kC_normal ?_
        refine k_cond_d (p := ltS a1 a0) rfl (fun hc => ?_) (fun hc => ?_)
        · replace h := ite_t h hc
          refine k_seq ?_
          refine k_reg .free hmixP (by kernel_rfl) ?_
          refine G_q rfl (op_assign (av := .exact (.int .i64 1)) rfl ?_)
          refine G_nil ?_
          refine kC_normal ?_
          refine k_ret ?_
          refine kC_ret ?_
          obtain rfl := Option.some.inj h
          refine kP_any (endN (af' := (AF.put AF0 (some 4) (.exact (.int .i64 1)))) (σ' := []) _ rfl ?_ ⟨rfl, rfl⟩)
          exact Sub.of_le (AF.le_put (AV.le_eq rfl) (AF.le_top _))
        · replace h := ite_f h hc
          refine k_skip ?_
          refine kC_normal ?_
          refine k_seq ?_
          refine k_reg .free hmixP (by kernel_rfl) ?_
          refine G_q rfl (op_assign (av := .exact (.int .i64 0)) rfl ?_)
          refine G_nil ?_
          refine kC_normal ?_
          refine k_ret ?_
          obtain rfl := Option.some.inj h
          refine kP_any (endN (af' := (AF.put AF0 (some 4) (.exact (.int .i64 0)))) (σ' := []) _ rfl ?_ ⟨rfl, rfl⟩)
          exact Sub.of_le (AF.le_put (AV.le_eq rfl) (AF.le_top _))
set_option maxHeartbeats 4000000 in
theorem m_value_span_F_ok (self_value_span : (List UInt8) → Option Int) (hself_value_span : ∀ (a0 : List UInt8) (r : Int), self_value_span a0 = some r → Pure Tryz.prog 84 [(.exact (.string (bs a0)))] (.exact (.int .i64 r))) (a0 : List UInt8) (r : Int) (h : m_value_span_F self_value_span a0 = some r) : Pure Tryz.prog 84 [(.exact (.string (bs a0)))] (.exact (.int .i64 r)) := by
  unfold m_value_span_F at h
  refine Pure.ofFun (fun_of_awp Tryz.func84 rfl Tryz.ntmps84 (by simp) rfl (res1 rfl) fun E hE => k_end ?_)
  refine k_seq ?_
  refine k_reg .free hmixP (by kernel_rfl) ?_
  refine G_q rfl (op_assign (av := .exact (.int .i64 0)) rfl ?_)
  refine G_nil ?_
  refine kC_normal ?_
  refine k_seq ?_
  refine k_seq ?_
  refine k_reg .free hmixP (by kernel_rfl) ?_
  refine G_q rfl (op_move (av := .exact (.string (bs a0))) rfl ?_)
  obtain ⟨n1, h⟩ := need_some h
  refine G_q rfl (op_index_str (by kernel_rfl) rfl rfl n1.1 n1.2 ?_)
  refine G_nil ?_
  refine kC_normal ?_
  refine k_block ?_
  refine k_seq ?_
  refine k_reg .free hmixP (by kernel_rfl) ?_
  refine G_q rfl (op_eqlU (a := (gi a0 0)) (b := 1) rfl rfl ?_)
  refine G_q rfl (op_assign (av := .exact (.bool (decide ((gi a0 0) = 1)))) rfl ?_)
  refine G_nil ?_
  refine kC_normal ?_
  refine k_cond_d (p := (gi a0 0) = 1) rfl (fun hc => ?_) (fun hc => ?_)
  · replace h := ite_t h hc
    refine k_seq ?_
    refine k_reg .free hmixP (by kernel_rfl) ?_
    refine G_q rfl (op_assign (av := .exact (.int .i64 9)) rfl ?_)
    refine G_nil ?_
    refine kC_normal ?_
    refine k_ret ?_
    refine kB_ret ?_
    refine kC_ret ?_
    obtain rfl := Option.some.inj h
    refine kP_any (endN (af' := (AF.put AF0 (some 2) (.exact (.int .i64 9)))) (σ' := []) _ rfl ?_ ⟨rfl, rfl⟩)
    exact Sub.of_le (AF.le_put (AV.le_eq rfl) (AF.le_top _))
  · replace h := ite_f h hc
    refine k_seq ?_
    refine k_reg .free hmixP (by kernel_rfl) ?_
    refine G_q rfl (op_eqlU (a := (gi a0 0)) (b := 2) rfl rfl ?_)
    refine G_q rfl (op_assign (av := .exact (.bool (decide ((gi a0 0) = 2)))) rfl ?_)
    refine G_nil ?_
    refine kC_normal ?_
    refine k_cond_d (p := (gi a0 0) = 2) rfl (fun hc => ?_) (fun hc => ?_)
    · replace h := ite_t h hc
      refine k_seq ?_
      refine k_reg .free hmixP (by kernel_rfl) ?_
      refine G_q rfl (op_assign (av := .exact (.int .i64 2)) rfl ?_)
      refine G_nil ?_
      refine kC_normal ?_
      refine k_ret ?_
      refine kB_ret ?_
      refine kC_ret ?_
      obtain rfl := Option.some.inj h
      refine kP_any (endN (af' := (AF.put AF0 (some 2) (.exact (.int .i64 2)))) (σ' := []) _ rfl ?_ ⟨rfl, rfl⟩)
      exact Sub.of_le (AF.le_put (AV.le_eq rfl) (AF.le_top _))
    · replace h := ite_f h hc
      refine k_seq ?_
      refine k_reg .free hmixP (by kernel_rfl) ?_
      refine G_q rfl (op_eqlU (a := (gi a0 0)) (b := 10) rfl rfl ?_)
      refine G_q rfl (op_assign (av := .exact (.bool (decide ((gi a0 0) = 10)))) rfl ?_)
      refine G_nil ?_
      refine kC_normal ?_
      refine k_cond_d (p := (gi a0 0) = 10) rfl (fun hc => ?_) (fun hc => ?_)
      · replace h := ite_t h hc
        refine k_seq ?_
        refine k_reg .free hmixP (by kernel_rfl) ?_
        refine G_q rfl (op_assign (av := .exact (.int .i64 3)) rfl ?_)
        refine G_nil ?_
        refine kC_normal ?_
        refine k_ret ?_
        refine kB_ret ?_
        refine kC_ret ?_
        obtain rfl := Option.some.inj h
        refine kP_any (endN (af' := (AF.put AF0 (some 2) (.exact (.int .i64 3)))) (σ' := []) _ rfl ?_ ⟨rfl, rfl⟩)
        exact Sub.of_le (AF.le_put (AV.le_eq rfl) (AF.le_top _))
      · replace h := ite_f h hc
        refine k_skip ?_
        refine kB_normal ?_
        refine kC_normal ?_
        refine k_seq ?_
        refine k_reg .free hmixP (by kernel_rfl) ?_
        refine G_q rfl (op_assign (av := .exact (.int .i64 3)) rfl ?_)
        refine G_nil ?_
        refine kC_normal ?_
        refine k_join1_0 h (fun (x3_j2 : Int) => (AF.put AF0 (some 3) (.exact (.int .i64 x3_j2)))) (fun (x3_j2 : Int) => []) (fun k2 h => ?_) (fun x3_j2 h => ?_)
        · refine k_seq ?_
          refine k_plan [] [(0, 0), (0, 1), (0, 2), (0, 3), (0, 4), (0, 5), (0, 6), (0, 7), (0, 8)] hmixP (by kernel_rfl) ?_
          refine P_q no34_0 rfl (op_move (av := .exact (.string (bs a0))) rfl ?_)
          obtain ⟨n12, h⟩ := need_some h
          refine P_q no34_0 rfl (op_index_str (by kernel_rfl) rfl rfl n12.1 n12.2 ?_)
          refine P_q no34_0 rfl (op_convInt (k := .i64) (r := (UInt8.toNat (gi a0 1) : Int)) (by kernel_rfl) rfl (wrap_u8 rfl _) ?_)
          refine P_q no34_0 rfl (op_shl rfl rfl (by decide) rfl ?_)
          refine P_q no34_0 rfl (op_move (av := .exact (.string (bs a0))) rfl ?_)
          obtain ⟨n13, h⟩ := need_some h
          refine P_q no34_0 rfl (op_index_str (by kernel_rfl) rfl rfl n13.1 n13.2 ?_)
          refine P_q no34_0 rfl (op_convInt (k := .i64) (r := (UInt8.toNat (gi a0 2) : Int)) (by kernel_rfl) rfl (wrap_u8 rfl _) ?_)
          refine P_q no34_0 rfl (op_or rfl rfl rfl ?_)
          refine P_q no34_0 rfl (op_move (av := .exact (.int .i64 0)) rfl ?_)
          refine P_nil ?_
          refine kC_normal ?_
          refine k_block ?_
          refine k_loop2_0 (m_value_span_L2 self_value_span a0 k2) (m_value_span_B2 self_value_span a0 k2) (fun _ _ => rfl) (fun m _ _ => rfl) h (fun (x3_l2 : Int) (x20_l2 : Int) => (AF.put (AF.put (AF.put (AF.put AF0 (some 0) (.exact (.string (bs a0)))) (some 3) (.exact (.int .i64 x3_l2))) (some 19) (.exact (.int .i64 (bOr .i64 (i64 ((UInt8.toNat (gi a0 1) : Int) * 2 ^ min (Int.toNat 8) IntKind.i64.bits)) (UInt8.toNat (gi a0 2) : Int))))) (some 20) (.exact (.int .i64 x20_l2)))) (fun (x3_l2 : Int) (x20_l2 : Int) => []) ?_ (fun rec2 x3_l2 x20_l2 h => ?_)
          · exact Sub.of_le (AF.le_put (AV.le_eq rfl) (AF.le_put (AV.le_eq rfl) (AF.le_put (AV.le_eq rfl) (AF.le_put (AV.le_eq rfl) (AF.le_top _)))))
          · unfold m_value_span_B2 at h
            refine k_seq ?_
            refine k_reg .free hmixP (by kernel_rfl) ?_
            refine G_q rfl (op_lss rfl rfl ?_)
            refine G_nil ?_
            refine kC_normal ?_
            refine k_seq ?_
            refine k_cond_d (p := x20_l2 < (bOr .i64 (i64 ((UInt8.toNat (gi a0 1) : Int) * 2 ^ min (Int.toNat 8) IntKind.i64.bits)) (UInt8.toNat (gi a0 2) : Int))) rfl (fun hc => ?_) (fun hc => ?_)
            · replace h := ite_t h hc
              refine k_skip ?_
              refine kC_normal ?_
              refine k_seq ?_
              refine k_block ?_
              refine k_reg .free hmixP (by kernel_rfl) ?_
              refine G_q rfl (op_move (av := .exact (.int .i64 x3_l2)) rfl ?_)
              refine G_q rfl (op_move (av := .exact (.string (bs a0))) rfl ?_)
              refine G_q rfl (op_move (av := .exact (.int .i64 x3_l2)) rfl ?_)
              obtain ⟨n18, h⟩ := need_some h
              refine G_q rfl (op_slice_strd (by kernel_rfl) rfl (bnd_some rfl) bnd_none n18.1 n18.2 (Int.le_refl _) ?_)
              obtain ⟨y19, hy19, h⟩ := bnd1_some h
              refine G_q rfl (op_pure (hself_value_span _ _ hy19) Tryz.func84 (by kernel_rfl) (LEs.cons (AV.le_eq rfl) LEs.nil) ?_)
              refine G_q rfl (op_add rfl rfl rfl ?_)
              refine G_q rfl (op_assign (av := .exact (.int .i64 (i64 (x3_l2 + y19)))) rfl ?_)
              refine G_nil ?_
              refine kB_normal ?_
              refine kC_normal ?_
              refine k_reg .free hmixP (by kernel_rfl) ?_
              refine G_q rfl (op_add rfl rfl rfl ?_)
              refine G_q rfl (op_move (av := .exact (.int .i64 (i64 (x20_l2 + 1)))) rfl ?_)
              refine G_nil ?_
              refine kI_normal ⟨_, _, h, ?_⟩
              exact Sub.of_le (AF.le_put (AV.le_eq rfl) (AF.le_put (AV.le_eq rfl) (AF.le_put (AV.le_eq rfl) (AF.le_put (AV.le_eq rfl) (AF.le_top _)))))
            · replace h := ite_f h hc
              refine k_exit ?_
              refine kC_exit ?_
              refine kI_exit ?_
              refine kB_exit ?_
              refine kI_normal ⟨_, h, ?_⟩
              exact Sub.of_le (AF.le_put (AV.le_eq rfl) (AF.le_top _))
        · refine k_seq ?_
          refine k_reg .free hmixP (by kernel_rfl) ?_
          refine G_q rfl (op_move (av := .exact (.int .i64 x3_j2)) rfl ?_)
          refine G_q rfl (op_assign (av := .exact (.int .i64 x3_j2)) rfl ?_)
          refine G_nil ?_
          refine kC_normal ?_
          refine k_ret ?_
          obtain rfl := Option.some.inj h
          refine kP_any (endN (af' := (AF.put AF0 (some 2) (.exact (.int .i64 x3_j2)))) (σ' := []) _ rfl ?_ ⟨rfl, rfl⟩)
          exact Sub.of_le (AF.le_put (AV.le_eq rfl) (AF.le_top _))
set_option maxHeartbeats 4000000 in
theorem m_value_span_S_ok : ∀ n : Nat, (∀ (a0 : List UInt8) (r : Int), m_value_span_S n a0 = some r → Pure Tryz.prog 84 [(.exact (.string (bs a0)))] (.exact (.int .i64 r)))
  | 0 => (fun _ _ h => by have h' : (none : Option _) = some _ := h; cases h')
  | n + 1 => by
    have ih := m_value_span_S_ok n
    exact fun a0 r h => m_value_span_F_ok (m_value_span_S n) ih a0 r h
theorem m_value_span_ok (a0 : List UInt8) (r : Int) (h : m_value_span a0 = some r) : Pure Tryz.prog 84 [(.exact (.string (bs a0)))] (.exact (.int .i64 r)) := (m_value_span_S_ok FU) a0 r h
set_option maxHeartbeats 4000000 in
theorem m_slices_Clip_L_api_Value_api_Value_ok (a0 : List (List UInt8)) (r : (List (List UInt8))) (h : m_slices_Clip_L_api_Value_api_Value a0 = some r) : Pure Tryz.prog 82 [(.row 1 c_api_Value a0)] (.row 1 c_api_Value r) := by
  unfold m_slices_Clip_L_api_Value_api_Value at h
  refine Pure.ofFun (fun_of_awp Tryz.func82 rfl Tryz.ntmps82 (by simp) rfl (res1 rfl) fun E hE => k_end ?_)
  refine k_seq ?_
  refine k_reg .free hmixP (by kernel_rfl) ?_
  refine G_q rfl (op_assign (av := .exact (.slice none 0 0)) rfl ?_)
  refine G_nil ?_
  refine kC_normal ?_
  refine k_seq ?_
  refine k_reg .free hmixP (by kernel_rfl) ?_
  refine G_q rfl (op_move (av := .row 1 c_api_Value a0) rfl ?_)
  refine G_q rfl (op_move (av := .row 1 c_api_Value a0) rfl ?_)
  refine G_q rfl (op_len_row (by kernel_rfl) rfl ?_)
  refine G_q rfl (op_move (av := .row 1 c_api_Value a0) rfl ?_)
  refine G_q rfl (op_len_row (by kernel_rfl) rfl ?_)
  obtain ⟨n1, h⟩ := need_some h
  refine G_q rfl (op_slice_row3 (by kernel_rfl) rfl bnd_none rfl rfl (Int.le_refl 0) n1 (Int.le_refl _) (Int.le_refl _) ?_)
  refine G_q rfl (op_assign (av := .row 1 c_api_Value (List.take (Int.toNat (List.length a0 : Int)) a0)) rfl ?_)
  refine G_nil ?_
  refine kC_normal ?_
  refine k_ret ?_
  obtain rfl := Option.some.inj h
  refine kP_any (endN (af' := (AF.put AF0 (some 2) (.row 1 c_api_Value (List.take (Int.toNat (List.length a0 : Int)) a0)))) (σ' := []) _ rfl ?_ ⟨rfl, rfl⟩)
  exact Sub.of_le (AF.le_put (AV.le_eq rfl) (AF.le_top _))
set_option maxHeartbeats 4000000 in
theorem m_value_parts_ok (a0 : List UInt8) (r : (List (List UInt8))) (h : m_value_parts a0 = some r) : Pure Tryz.prog 55 [(.exact (.string (bs a0)))] (.row 1 c_api_Value r) := by
  unfold m_value_parts at h
  refine Pure.ofFun (fun_of_awp Tryz.func55 rfl Tryz.ntmps55 (by simp) rfl (res1 rfl) fun E hE => k_end ?_)
  refine k_seq ?_
  refine k_reg .free hmixP (by kernel_rfl) ?_
  refine G_q rfl (op_assign (av := .exact (.slice none 0 0)) rfl ?_)
  refine G_nil ?_
  refine kC_normal ?_
  refine k_seq ?_
  refine k_reg .free hmixP (by kernel_rfl) ?_
  refine G_q rfl (op_assign (av := .exact (.slice none 0 0)) rfl ?_)
  refine G_nil ?_
  refine kC_normal ?_
  refine k_join1_1 h (fun (x3_j1 : List (List UInt8)) (v3_j1 : Value) => (AF.put AF0 (some 3) (.exact v3_j1))) (fun (x3_j1 : List (List UInt8)) (v3_j1 : Value) => [vecT Tryz.prog 27 1 c_api_Value v3_j1 x3_j1]) (fun k1 h => ?_) (fun x3_j1 v3_j1 h => ?_)
  · refine k_seq ?_
    refine k_reg .free hmixP (by kernel_rfl) ?_
    refine G_q rfl (op_assign (av := .exact (.int .i64 3)) rfl ?_)
    refine G_nil ?_
    refine kC_normal ?_
    refine k_block ?_
    refine k_loop2_1 (m_value_parts_L2 a0 k1) (m_value_parts_B2 a0 k1) (fun _ _ => rfl) (fun m _ _ => rfl) h (fun (x3_l2 : List (List UInt8)) (x4_l2 : Int) (v3_l2 : Value) => (AF.put (AF.put (AF.put AF0 (some 0) (.exact (.string (bs a0)))) (some 3) (.exact v3_l2)) (some 4) (.exact (.int .i64 x4_l2)))) (fun (x3_l2 : List (List UInt8)) (x4_l2 : Int) (v3_l2 : Value) => [vecT Tryz.prog 27 1 c_api_Value v3_l2 x3_l2]) (.slice none 0 0) ?_ (fun rec2 x3_l2 x4_l2 v3_l2 h => ?_)
    · refine Sub.trans (SubU.to (SubU.nilT (P := Tryz.prog) (t := 27) (n := 1) (enc := c_api_Value))) ?_
      exact Sub.of_le (AF.le_put (AV.le_eq rfl) (AF.le_put (AV.le_eq rfl) (AF.le_put (AV.le_eq rfl) (AF.le_top _))))
    · unfold m_value_parts_B2 at h
      refine k_seq ?_
      refine k_seq ?_
      refine k_reg .free hmixP (by kernel_rfl) ?_
      refine G_q rfl (op_move (av := .exact (.int .i64 x4_l2)) rfl ?_)
      refine G_q rfl (op_move (av := .exact (.string (bs a0))) rfl ?_)
      refine G_q rfl (op_lenS (by kernel_rfl) rfl ?_)
      refine G_q rfl (op_lss rfl rfl ?_)
      refine G_nil ?_
      refine kC_normal ?_
      refine k_cond_d (p := x4_l2 < (List.length a0 : Int)) rfl (fun hc => ?_) (fun hc => ?_)
      · replace h := ite_t h hc
        refine k_skip ?_
        refine kC_normal ?_
        refine k_block ?_
        refine k_seq ?_
        refine k_reg .free hmixP (by kernel_rfl) ?_
        refine G_q rfl (op_move (av := .exact (.string (bs a0))) rfl ?_)
        refine G_q rfl (op_move (av := .exact (.int .i64 x4_l2)) rfl ?_)
        obtain ⟨n28, h⟩ := need_some h
        refine G_q rfl (op_slice_strd (by kernel_rfl) rfl (bnd_some rfl) bnd_none n28.1 n28.2 (Int.le_refl _) ?_)
        obtain ⟨y29, hy29, h⟩ := bnd1_some h
        refine G_q rfl (op_pure (m_value_span_ok _ _ hy29) Tryz.func84 (by kernel_rfl) (LEs.cons (AV.le_eq rfl) LEs.nil) ?_)
        refine G_q rfl (op_assign (av := .exact (.int .i64 y29)) rfl ?_)
        refine G_nil ?_
        refine kC_normal ?_
        refine k_seq ?_
        refine k_reg .free hmixP (by kernel_rfl) ?_
        refine G_q rfl (op_move (av := .exact v3_l2) rfl ?_)
        refine G_q rfl (op_move (av := .exact (.string (bs a0))) rfl ?_)
        refine G_q rfl (op_move (av := .exact (.int .i64 x4_l2)) rfl ?_)
        refine G_q rfl (op_move (av := .exact (.int .i64 x4_l2)) rfl ?_)
        refine G_q rfl (op_move (av := .exact (.int .i64 y29)) rfl ?_)
        refine G_q rfl (op_add rfl rfl rfl ?_)
        obtain ⟨n30, h⟩ := need_some h
        refine G_q rfl (op_slice_str (by kernel_rfl) rfl (bnd_some rfl) (bnd_some rfl) n30.1 n30.2.1 n30.2.2 ?_)
        refine G_q rfl (op_litT (n := 1) (enc := c_api_Value) [List.take (Int.toNat (i64 (x4_l2 + y29)) - Int.toNat x4_l2) (List.drop (Int.toNat x4_l2) a0)] (CellsAll.cons rfl CellsOf.str CellsAll.nil) rfl (by kernel_rfl) (LEss.cons (LEs.cons (AV.le_eq rfl) LEs.nil) LEss.nil) ?_)
        obtain ⟨n31, h⟩ := need_some h
        refine G_l rfl (op_appT (by kernel_rfl) rfl rfl oc_c_api_Value n31 (fun v32 => ?_))
        refine G_q rfl (op_assign (av := .exact v32) rfl ?_)
        refine G_nil ?_
        refine kC_normal ?_
        refine k_reg .free hmixP (by kernel_rfl) ?_
        refine G_q rfl (op_move (av := .exact (.int .i64 x4_l2)) rfl ?_)
        refine G_q rfl (op_move (av := .exact (.int .i64 y29)) rfl ?_)
        refine G_q rfl (op_add rfl rfl rfl ?_)
        refine G_q rfl (op_assign (av := .exact (.int .i64 (i64 (x4_l2 + y29)))) rfl ?_)
        refine G_nil ?_
        refine kB_normal ?_
        refine kI_normal ⟨_, _, v32, h, ?_⟩
        exact Sub.of_le (AF.le_put (AV.le_eq rfl) (AF.le_put (AV.le_eq rfl) (AF.le_put (AV.le_eq rfl) (AF.le_top _))))
      · replace h := ite_f h hc
        refine k_exit ?_
        refine kC_exit ?_
        refine kI_exit ?_
        refine kB_exit ?_
        refine kI_normal ⟨_, v3_l2, h, ?_⟩
        exact Sub.of_le (AF.le_put (AV.le_eq rfl) (AF.le_top _))
  · refine k_seq ?_
    refine k_reg .free hmixP (by kernel_rfl) ?_
    refine G_q rfl (op_move (av := .exact v3_j1) rfl ?_)
    refine G_sub rfl (SubU.freezeT2 (s1 := 3) (s2 := 26) rfl rfl len_c_api_Value) ?_
    obtain ⟨y33, hy33, h⟩ := bnd1_some h
    refine G_q rfl (op_pure (m_slices_Clip_L_api_Value_api_Value_ok _ _ hy33) Tryz.func82 (by kernel_rfl) (LEs.cons (AV.le_eq rfl) LEs.nil) ?_)
    refine G_q rfl (op_assign (av := .row 1 c_api_Value y33) rfl ?_)
    refine G_nil ?_
    refine kC_normal ?_
    refine k_ret ?_
    obtain rfl := Option.some.inj h
    refine kP_any (endN (af' := (AF.put AF0 (some 2) (.row 1 c_api_Value y33))) (σ' := []) _ rfl ?_ ⟨rfl, rfl⟩)
    exact Sub.of_le (AF.le_put (AV.le_eq rfl) (AF.le_top _))
set_option maxHeartbeats 4000000 in
theorem m_slices_CompareFunc_L_api_Value_L_api_Value_api_Value_api_Value_ok (a0 : List (List UInt8)) (a1 : List (List UInt8)) (a2 : (List UInt8) → (List UInt8) → Option Int) (r : Int) (h : m_slices_CompareFunc_L_api_Value_L_api_Value_api_Value_api_Value a0 a1 a2 = some r) : Pure Tryz.prog 69 [(.row 1 c_api_Value a0), (.row 1 c_api_Value a1), (.fn Tryz.prog (fun (i : (List UInt8) × (List UInt8)) => [.exact (.string (bs i.1)), .exact (.string (bs i.2))]) (fun (i : (List UInt8) × (List UInt8)) => a2 i.1 i.2) (fun (r : Int) => .exact (.int .i64 r)))] (.exact (.int .i64 r)) := by
  unfold m_slices_CompareFunc_L_api_Value_L_api_Value_api_Value_api_Value at h
  refine Pure.ofFun (fun_of_awp Tryz.func69 rfl Tryz.ntmps69 (by simp) rfl (res1 rfl) fun E hE => k_end ?_)
  refine k_seq ?_
  refine k_reg .free hmixP (by kernel_rfl) ?_
  refine G_q rfl (op_assign (av := .exact (.int .i64 0)) rfl ?_)
  refine G_nil ?_
  refine kC_normal ?_
  refine k_join0_0 h ((AF.put (AF.put AF0 (some 0) (.row 1 c_api_Value a0)) (some 1) (.row 1 c_api_Value a1))) ([]) (fun k1 h => ?_) (fun  h => ?_)
  · refine k_seq ?_
    refine k_reg .free hmixP (by kernel_rfl) ?_
    refine G_q rfl (op_move (av := .row 1 c_api_Value a0) rfl ?_)
    refine G_q rfl (op_len_row (by kernel_rfl) rfl ?_)
    refine G_q rfl (op_move (av := .exact (.int .i64 0)) rfl ?_)
    refine G_nil ?_
    refine kC_normal ?_
    refine k_block ?_
    refine k_loop1_0 (m_slices_CompareFunc_L_api_Value_L_api_Value_api_Value_api_Value_L2 a0 a1 a2 k1) (m_slices_CompareFunc_L_api_Value_L_api_Value_api_Value_api_Value_B2 a0 a1 a2 k1) (fun _ => rfl) (fun m _ => rfl) h (fun (x13_l2 : Int) => (AF.put (AF.put (AF.put (AF.put (AF.put (AF.put AF0 (some 0) (.row 1 c_api_Value a0)) (some 1) (.row 1 c_api_Value a1)) (some 2) (.fn Tryz.prog (fun (i : (List UInt8) × (List UInt8)) => [.exact (.string (bs i.1)), .exact (.string (bs i.2))]) (fun (i : (List UInt8) × (List UInt8)) => a2 i.1 i.2) (fun (r : Int) => .exact (.int .i64 r)))) (some 11) (.row 1 c_api_Value a0)) (some 12) (.exact (.int .i64 (List.length a0 : Int)))) (some 13) (.exact (.int .i64 x13_l2)))) (fun (x13_l2 : Int) => []) ?_ (fun rec2 x13_l2 h => ?_)
    · exact Sub.of_le (AF.le_put (AV.le_eq rfl) (AF.le_put (AV.le_eq rfl) (AF.le_put (AV.le_eq rfl) (AF.le_put (AV.le_eq rfl) (AF.le_put (AV.le_eq rfl) (AF.le_put (AV.le_eq rfl) (AF.le_top _)))))))
    · unfold m_slices_CompareFunc_L_api_Value_L_api_Value_api_Value_api_Value_B2 at h
      refine k_seq ?_
      refine k_reg .free hmixP (by kernel_rfl) ?_
      refine G_q rfl (op_lss rfl rfl ?_)
      refine G_nil ?_
      refine kC_normal ?_
      refine k_seq ?_
      refine k_cond_d (p := x13_l2 < (List.length a0 : Int)) rfl (fun hc => ?_) (fun hc => ?_)
      · replace h := ite_t h hc
        refine k_skip ?_
        refine kC_normal ?_
        refine k_seq ?_
        refine k_block ?_
        refine k_seq ?_
        refine k_reg .free hmixP (by kernel_rfl) ?_
        refine G_q rfl (op_move (av := .exact (.int .i64 x13_l2)) rfl ?_)
        obtain ⟨n18, h⟩ := need_some h
        refine G_q rfl (op_index_row (by kernel_rfl) rfl rfl n18.1 n18.2 ?_)
        refine G_q rfl (op_load1p (a := .exact (.string (bs (gi a0 x13_l2)))) (by kernel_rfl) rfl rfl ?_)
        refine G_q rfl (op_assign (av := .exact (.int .i64 x13_l2)) rfl ?_)
        refine G_q rfl (op_assign (av := .exact (.string (bs (gi a0 x13_l2)))) rfl ?_)
        refine G_nil ?_
        refine kC_normal ?_
        refine k_seq ?_
        refine k_seq ?_
        refine k_reg .free hmixP (by kernel_rfl) ?_
        refine G_q rfl (op_move (av := .exact (.int .i64 x13_l2)) rfl ?_)
        refine G_q rfl (op_move (av := .row 1 c_api_Value a1) rfl ?_)
        refine G_q rfl (op_len_row (by kernel_rfl) rfl ?_)
        refine G_q rfl (op_geq rfl rfl ?_)
        refine G_nil ?_
        refine kC_normal ?_
        refine k_cond_d (p := (List.length a1 : Int) ≤ x13_l2) rfl (fun hc => ?_) (fun hc => ?_)
        · replace h := ite_t h hc
          refine k_seq ?_
          refine k_reg .free hmixP (by kernel_rfl) ?_
          refine G_q rfl (op_assign (av := .exact (.int .i64 1)) rfl ?_)
          refine G_nil ?_
          refine kC_normal ?_
          refine k_ret ?_
          refine kC_ret ?_
          refine kB_ret ?_
          refine kC_ret ?_
          refine kI_ret ?_
          refine kB_ret ?_
          refine kI_ret ?_
          obtain rfl := Option.some.inj h
          refine kP_any (endN (af' := (AF.put AF0 (some 6) (.exact (.int .i64 1)))) (σ' := []) _ rfl ?_ ⟨rfl, rfl⟩)
          exact Sub.of_le (AF.le_put (AV.le_eq rfl) (AF.le_top _))
        · replace h := ite_f h hc
          refine k_skip ?_
          refine kC_normal ?_
          refine k_seq ?_
          refine k_reg .free hmixP (by kernel_rfl) ?_
          refine G_q rfl (op_move (av := .row 1 c_api_Value a1) rfl ?_)
          refine G_q rfl (op_move (av := .exact (.int .i64 x13_l2)) rfl ?_)
          obtain ⟨n19, h⟩ := need_some h
          refine G_q rfl (op_index_row (by kernel_rfl) rfl rfl n19.1 n19.2 ?_)
          refine G_q rfl (op_load1p (a := .exact (.string (bs (gi a1 x13_l2)))) (by kernel_rfl) rfl rfl ?_)
          refine G_q rfl (op_assign (av := .exact (.string (bs (gi a1 x13_l2)))) rfl ?_)
          refine G_nil ?_
          refine kC_normal ?_
          refine k_seq ?_
          refine k_reg .free hmixP (by kernel_rfl) ?_
          refine G_q rfl (op_move (av := .fn Tryz.prog (fun (i : (List UInt8) × (List UInt8)) => [.exact (.string (bs i.1)), .exact (.string (bs i.2))]) (fun (i : (List UInt8) × (List UInt8)) => a2 i.1 i.2) (fun (r : Int) => .exact (.int .i64 r))) rfl ?_)
          refine G_q rfl (op_move (av := .exact (.string (bs (gi a0 x13_l2)))) rfl ?_)
          refine G_q rfl (op_move (av := .exact (.string (bs (gi a1 x13_l2)))) rfl ?_)
          obtain ⟨y20, hy20, h⟩ := bnd1_some h
          refine G_q rfl (op_callfn (gi a0 x13_l2, gi a1 x13_l2) rfl hy20 (LEs.cons (AV.le_eq rfl) (LEs.cons (AV.le_eq rfl) LEs.nil)) ?_)
          refine G_q rfl (op_assign (av := .exact (.int .i64 y20)) rfl ?_)
          refine G_nil ?_
          refine kC_normal ?_
          refine k_seq ?_
          refine k_reg .free hmixP (by kernel_rfl) ?_
          refine G_q rfl (op_move (av := .exact (.int .i64 y20)) rfl ?_)
          refine G_q rfl (op_neq rfl rfl ?_)
          refine G_nil ?_
          refine kC_normal ?_
          refine k_cond_d (p := ¬ y20 = 0) rfl (fun hc => ?_) (fun hc => ?_)
          · replace h := ite_t h hc
            refine k_seq ?_
            refine k_reg .free hmixP (by kernel_rfl) ?_
            refine G_q rfl (op_move (av := .exact (.int .i64 y20)) rfl ?_)
            refine G_q rfl (op_assign (av := .exact (.int .i64 y20)) rfl ?_)
            refine G_nil ?_
            refine kC_normal ?_
            refine k_ret ?_
            refine kB_ret ?_
            refine kC_ret ?_
            refine kI_ret ?_
            refine kB_ret ?_
            refine kI_ret ?_
            obtain rfl := Option.some.inj h
            refine kP_any (endN (af' := (AF.put AF0 (some 6) (.exact (.int .i64 y20)))) (σ' := []) _ rfl ?_ ⟨rfl, rfl⟩)
            exact Sub.of_le (AF.le_put (AV.le_eq rfl) (AF.le_top _))
          · replace h := ite_f h hc
            refine k_skip ?_
            refine kB_normal ?_
            refine kC_normal ?_
            refine k_reg .free hmixP (by kernel_rfl) ?_
            refine G_q rfl (op_add rfl rfl rfl ?_)
            refine G_q rfl (op_move (av := .exact (.int .i64 (i64 (x13_l2 + 1)))) rfl ?_)
            refine G_nil ?_
            refine kI_normal ⟨_, h, ?_⟩
            exact Sub.of_le (AF.le_put (AV.le_eq rfl) (AF.le_put (AV.le_eq rfl) (AF.le_put (AV.le_eq rfl) (AF.le_put (AV.le_eq rfl) (AF.le_put (AV.le_eq rfl) (AF.le_put (AV.le_eq rfl) (AF.le_top _)))))))
      · replace h := ite_f h hc
        refine k_exit ?_
        refine kC_exit ?_
        refine kI_exit ?_
        refine kB_exit ?_
        refine kI_normal ⟨h, ?_⟩
        exact Sub.of_le (AF.le_put (AV.le_eq rfl) (AF.le_put (AV.le_eq rfl) (AF.le_top _)))
  · refine k_seq ?_
    refine k_seq ?_
    refine k_reg .free hmixP (by kernel_rfl) ?_
    refine G_q rfl (op_move (av := .row 1 c_api_Value a0) rfl ?_)
    refine G_q rfl (op_len_row (by kernel_rfl) rfl ?_)
    refine G_q rfl (op_move (av := .row 1 c_api_Value a1) rfl ?_)
    refine G_q rfl (op_len_row (by kernel_rfl) rfl ?_)
    refine G_q rfl (op_lss rfl rfl ?_)
    refine G_nil ?_
    refine kC_normal ?_
    refine k_cond_d (p := (List.length a0 : Int) < (List.length a1 : Int)) rfl (fun hc => ?_) (fun hc => ?_)
    · replace h := ite_t h hc
      refine k_seq ?_
      refine k_reg .free hmixP (by kernel_rfl) ?_
      refine G_q rfl (op_assign (av := .exact (.int .i64 (-1))) rfl ?_)
      refine G_nil ?_
      refine kC_normal ?_
      refine k_ret ?_
      refine kC_ret ?_
      obtain rfl := Option.some.inj h
      refine kP_any (endN (af' := (AF.put AF0 (some 6) (.exact (.int .i64 (-1))))) (σ' := []) _ rfl ?_ ⟨rfl, rfl⟩)
      exact Sub.of_le (AF.le_put (AV.le_eq rfl) (AF.le_top _))
    · replace h := ite_f h hc
      refine k_skip ?_
      refine kC_normal ?_
      refine k_seq ?_
      refine k_reg .free hmixP (by kernel_rfl) ?_
      refine G_q rfl (op_assign (av := .exact (.int .i64 0)) rfl ?_)
      refine G_nil ?_
      refine kC_normal ?_
      refine k_ret ?_
      obtain rfl := Option.some.inj h
      refine kP_any (endN (af' := (AF.put AF0 (some 6) (.exact (.int .i64 0)))) (σ' := []) _ rfl ?_ ⟨rfl, rfl⟩)
      exact Sub.of_le (AF.le_put (AV.le_eq rfl) (AF.le_top _))
end Go.Proofs.YtdppkpiagdaigaaGreatDoor
/- The functions compute their models, by program. -/
namespace Go.Proofs.YtdppkpiagdaigaaGreatDoor
open Go.RowKit
attribute [local irreducible] AV.exact AV.top AV.row AV.ptr AV.agg AV.tup AV.eptr AV.fn AV.nilq AV.nilqn opA opB opM opR Quiet Loud Reads wpG awp den Sub SubU Pure Fun vecI vecT boxI CellsAll CellsOf OneC LEs LEss
set_option maxRecDepth 100000

set_option maxHeartbeats 4000000 in
theorem m_value_compare_F_ok (self_value_compare : (List UInt8) → (List UInt8) → Option Int) (hself_value_compare : ∀ (a0 : List UInt8) (a1 : List UInt8) (r : Int), self_value_compare a0 a1 = some r → Pure Tryz.prog 44 [(.exact (.string (bs a0))), (.exact (.string (bs a1)))] (.exact (.int .i64 r))) (a0 : List UInt8) (a1 : List UInt8) (r : Int) (h : m_value_compare_F self_value_compare a0 a1 = some r) : Pure Tryz.prog 44 [(.exact (.string (bs a0))), (.exact (.string (bs a1)))] (.exact (.int .i64 r)) := by
  unfold m_value_compare_F at h
  refine Pure.ofFun (fun_of_awp Tryz.func44 rfl Tryz.ntmps44 (by simp) rfl (res1 rfl) fun E hE => k_end ?_)
  refine k_seq ?_
  refine k_reg .free hmixP (by kernel_rfl) ?_
  refine G_q rfl (op_assign (av := .exact (.int .i64 0)) rfl ?_)
  refine G_nil ?_
  refine kC_normal ?_
  refine k_seq ?_
  refine k_seq ?_
  refine k_reg .free hmixP (by kernel_rfl) ?_
  refine G_q rfl (op_move (av := .exact (.string (bs a0))) rfl ?_)
  refine G_q rfl (op_move (av := .exact (.string (bs a1))) rfl ?_)
  refine G_q rfl (op_eqlS rfl rfl ?_)
  refine G_nil ?_
  refine kC_normal ?_
  refine k_cond_d (p := a0 = a1) rfl (fun hc => ?_) (fun hc => ?_)
  · replace h := ite_t h hc
    refine k_seq ?_
    refine k_reg .free hmixP (by kernel_rfl) ?_
    refine G_q rfl (op_assign (av := .exact (.int .i64 0)) rfl ?_)
    refine G_nil ?_
    refine kC_normal ?_
    refine k_ret ?_
    refine kC_ret ?_
    obtain rfl := Option.some.inj h
    refine kP_any (endN (af' := (AF.put AF0 (some 4) (.exact (.int .i64 0)))) (σ' := []) _ rfl ?_ ⟨rfl, rfl⟩)
    exact Sub.of_le (AF.le_put (AV.le_eq rfl) (AF.le_top _))
  · replace h := ite_f h hc
    refine k_skip ?_
    refine kC_normal ?_
    refine k_seq ?_
    refine k_seq ?_
    refine k_plan [] [(0, 0), (0, 1), (0, 2), (0, 3), (0, 4), (0, 5)] hmixP (by kernel_rfl) ?_
    refine P_q no34_0 rfl (op_move (av := .exact (.string (bs a0))) rfl ?_)
    obtain ⟨n1, h⟩ := need_some h
    refine P_q no34_0 rfl (op_index_str (by kernel_rfl) rfl rfl n1.1 n1.2 ?_)
    refine P_q no34_0 rfl (op_move (av := .exact (.string (bs a1))) rfl ?_)
    obtain ⟨n2, h⟩ := need_some h
    refine P_q no34_0 rfl (op_index_str (by kernel_rfl) rfl rfl n2.1 n2.2 ?_)
    obtain ⟨y3, hy3, h⟩ := bnd1_some h
    refine P_q no34_0 rfl (op_pure (m_cmp_Compare_byte_ok _ _ _ hy3) Tryz.func67 (by kernel_rfl) (LEs.cons (AV.le_eq rfl) (LEs.cons (AV.le_eq rfl) LEs.nil)) ?_)
    refine P_q no34_0 rfl (op_assign (av := .exact (.int .i64 y3)) rfl ?_)
    refine P_nil ?_
    refine kC_normal ?_
    refine k_seq ?_
    refine k_reg .free hmixP (by kernel_rfl) ?_
    refine G_q rfl (op_move (av := .exact (.int .i64 y3)) rfl ?_)
    refine G_q rfl (op_neq rfl rfl ?_)
    refine G_nil ?_
    refine kC_normal ?_
    refine k_cond_d (p := ¬ y3 = 0) rfl (fun hc => ?_) (fun hc => ?_)
    · replace h := ite_t h hc
      refine k_seq ?_
      refine k_reg .free hmixP (by kernel_rfl) ?_
      refine G_q rfl (op_move (av := .exact (.int .i64 y3)) rfl ?_)
      refine G_q rfl (op_assign (av := .exact (.int .i64 y3)) rfl ?_)
      refine G_nil ?_
      refine kC_normal ?_
      refine k_ret ?_
      refine kC_ret ?_
      obtain rfl := Option.some.inj h
      refine kP_any (endN (af' := (AF.put AF0 (some 4) (.exact (.int .i64 y3)))) (σ' := []) _ rfl ?_ ⟨rfl, rfl⟩)
      exact Sub.of_le (AF.le_put (AV.le_eq rfl) (AF.le_top _))
    · replace h := ite_f h hc
      refine k_skip ?_
      refine kC_normal ?_
      refine k_seq ?_
      refine k_seq ?_
      refine k_reg .free hmixP (by kernel_rfl) ?_
      refine G_q rfl (op_move (av := .exact (.string (bs a0))) rfl ?_)
      obtain ⟨n4, h⟩ := need_some h
      refine G_q rfl (op_index_str (by kernel_rfl) rfl rfl n4.1 n4.2 ?_)
      refine G_q rfl (op_eqlU (a := (gi a0 0)) (b := 1) rfl rfl ?_)
      refine G_nil ?_
      refine kC_normal ?_
      refine k_cond_d (p := (gi a0 0) = 1) rfl (fun hc => ?_) (fun hc => ?_)
      · replace h := ite_t h hc
        refine k_seq ?_
        refine k_reg .free hmixP (by kernel_rfl) ?_
        refine G_q rfl (op_move (av := .exact (.string (bs a0))) rfl ?_)
        obtain ⟨y5, hy5, h⟩ := bnd1_some h
        refine G_q rfl (op_pure (m_value_integer_ok _ _ hy5) Tryz.func57 (by kernel_rfl) (LEs.cons (AV.le_eq rfl) LEs.nil) ?_)
        refine G_q rfl (op_move (av := .exact (.string (bs a1))) rfl ?_)
        obtain ⟨y6, hy6, h⟩ := bnd1_some h
        refine G_q rfl (op_pure (m_value_integer_ok _ _ hy6) Tryz.func57 (by kernel_rfl) (LEs.cons (AV.le_eq rfl) LEs.nil) ?_)
        obtain ⟨y7, hy7, h⟩ := bnd1_some h
        refine G_q rfl (op_pure (m_cmp_Compare_int64_ok _ _ _ hy7) Tryz.func68 (by kernel_rfl) (LEs.cons (AV.le_eq rfl) (LEs.cons (AV.le_eq rfl) LEs.nil)) ?_)
        refine G_q rfl (op_assign (av := .exact (.int .i64 y7)) rfl ?_)
        refine G_nil ?_
        refine kC_normal ?_
        refine k_ret ?_
        refine kC_ret ?_
        obtain rfl := Option.some.inj h
        refine kP_any (endN (af' := (AF.put AF0 (some 4) (.exact (.int .i64 y7)))) (σ' := []) _ rfl ?_ ⟨rfl, rfl⟩)
        exact Sub.of_le (AF.le_put (AV.le_eq rfl) (AF.le_top _))
      · replace h := ite_f h hc
        refine k_skip ?_
        refine kC_normal ?_
        refine k_seq ?_
        refine k_seq ?_
        refine k_reg .free hmixP (by kernel_rfl) ?_
        refine G_q rfl (op_move (av := .exact (.string (bs a0))) rfl ?_)
        obtain ⟨n8, h⟩ := need_some h
        refine G_q rfl (op_index_str (by kernel_rfl) rfl rfl n8.1 n8.2 ?_)
        refine G_q rfl (op_convInt (k := .i64) (r := (UInt8.toNat (gi a0 0) : Int)) (by kernel_rfl) rfl (wrap_u8 rfl _) ?_)
        obtain ⟨y9, hy9, h⟩ := bnd1_some h
        refine G_q rfl (op_pure (m_value_simple_ok _ _ hy9) Tryz.func54 (by kernel_rfl) (LEs.cons (AV.le_eq rfl) LEs.nil) ?_)
        refine G_nil ?_
        refine kC_normal ?_
        refine k_cond_b (c := y9) rfl (fun hc => ?_) (fun hc => ?_)
        · replace h := ite_t h hc
          refine k_seq ?_
          refine k_reg .free hmixP (by kernel_rfl) ?_
          refine G_q rfl (op_move (av := .exact (.string (bs a0))) rfl ?_)
          refine G_q rfl (op_move (av := .exact (.string (bs a1))) rfl ?_)
          obtain ⟨y10, hy10, h⟩ := bnd1_some h
          refine G_q rfl (op_pure (m_cmp_Compare_api_Value_ok _ _ _ hy10) Tryz.func45 (by kernel_rfl) (LEs.cons (AV.le_eq rfl) (LEs.cons (AV.le_eq rfl) LEs.nil)) ?_)
          refine G_q rfl (op_assign (av := .exact (.int .i64 y10)) rfl ?_)
          refine G_nil ?_
          refine kC_normal ?_
          refine k_ret ?_
          refine kC_ret ?_
          obtain rfl := Option.some.inj h
          refine kP_any (endN (af' := (AF.put AF0 (some 4) (.exact (.int .i64 y10)))) (σ' := []) _ rfl ?_ ⟨rfl, rfl⟩)
          exact Sub.of_le (AF.le_put (AV.le_eq rfl) (AF.le_top _))
        · replace h := ite_f h hc
          refine k_skip ?_
          refine kC_normal ?_
          refine k_seq ?_
          refine k_reg .free hmixP (by kernel_rfl) ?_
          refine G_q rfl (op_move (av := .exact (.string (bs a0))) rfl ?_)
          obtain ⟨y11, hy11, h⟩ := bnd1_some h
          refine G_q rfl (op_pure (m_value_parts_ok _ _ hy11) Tryz.func55 (by kernel_rfl) (LEs.cons (AV.le_eq rfl) LEs.nil) ?_)
          refine G_q rfl (op_move (av := .exact (.string (bs a1))) rfl ?_)
          obtain ⟨y12, hy12, h⟩ := bnd1_some h
          refine G_q rfl (op_pure (m_value_parts_ok _ _ hy12) Tryz.func55 (by kernel_rfl) (LEs.cons (AV.le_eq rfl) LEs.nil) ?_)
          obtain ⟨y13, hy13, h⟩ := bnd1_some h
          refine G_q rfl (op_pure (m_slices_CompareFunc_L_api_Value_L_api_Value_api_Value_api_Value_ok _ _ _ _ hy13) Tryz.func69 (by kernel_rfl) (LEs.cons (AV.le_eq rfl) (LEs.cons (AV.le_eq rfl) (LEs.cons ((fn_le Tryz.func44 (by kernel_rfl) (fun i r h => hself_value_compare i.1 i.2 r h))) LEs.nil))) ?_)
          refine G_q rfl (op_assign (av := .exact (.int .i64 y13)) rfl ?_)
          refine G_nil ?_
          refine kC_normal ?_
          refine k_ret ?_
          obtain rfl := Option.some.inj h
          refine kP_any (endN (af' := (AF.put AF0 (some 4) (.exact (.int .i64 y13)))) (σ' := []) _ rfl ?_ ⟨rfl, rfl⟩)
          exact Sub.of_le (AF.le_put (AV.le_eq rfl) (AF.le_top _))
set_option maxHeartbeats 4000000 in
theorem m_value_compare_S_ok : ∀ n : Nat, (∀ (a0 : List UInt8) (a1 : List UInt8) (r : Int), m_value_compare_S n a0 a1 = some r → Pure Tryz.prog 44 [(.exact (.string (bs a0))), (.exact (.string (bs a1)))] (.exact (.int .i64 r)))
  | 0 => (fun _ _ _ h => by have h' : (none : Option _) = some _ := h; cases h')
  | n + 1 => by
    have ih := m_value_compare_S_ok n
    exact fun a0 a1 r h => m_value_compare_F_ok (m_value_compare_S n) ih a0 a1 r h
theorem m_value_compare_ok (a0 : List UInt8) (a1 : List UInt8) (r : Int) (h : m_value_compare a0 a1 = some r) : Pure Tryz.prog 44 [(.exact (.string (bs a0))), (.exact (.string (bs a1)))] (.exact (.int .i64 r)) := (m_value_compare_S_ok FU) a0 a1 r h
set_option maxHeartbeats 4000000 in
theorem m_value_ascending_ok (a0 : List (List UInt8)) (r : Bool) (h : m_value_ascending a0 = some r) : Pure Tryz.prog 133 [(.row 1 c_api_Value a0)] (.exact (.bool r)) := by
  unfold m_value_ascending at h
  refine Pure.ofFun (fun_of_awp Tryz.func133 rfl Tryz.ntmps133 (by simp) rfl (res1 rfl) fun E hE => k_end ?_)
  refine k_seq ?_
  refine k_reg .free hmixP (by kernel_rfl) ?_
  refine G_q rfl (op_assign (av := .exact (.bool false)) rfl ?_)
  refine G_nil ?_
  refine kC_normal ?_
  refine k_join0_0 h (AF0) ([]) (fun k1 h => ?_) (fun  h => ?_)
  · refine k_seq ?_
    refine k_reg .free hmixP (by kernel_rfl) ?_
    refine G_q rfl (op_assign (av := .exact (.int .i64 1)) rfl ?_)
    refine G_nil ?_
    refine kC_normal ?_
    refine k_block ?_
    refine k_loop1_0 (m_value_ascending_L2 a0 k1) (m_value_ascending_B2 a0 k1) (fun _ => rfl) (fun m _ => rfl) h (fun (x3_l2 : Int) => (AF.put (AF.put AF0 (some 0) (.row 1 c_api_Value a0)) (some 3) (.exact (.int .i64 x3_l2)))) (fun (x3_l2 : Int) => []) ?_ (fun rec2 x3_l2 h => ?_)
    · exact Sub.of_le (AF.le_put (AV.le_eq rfl) (AF.le_put (AV.le_eq rfl) (AF.le_top _)))
    · unfold m_value_ascending_B2 at h
      refine k_seq ?_
      refine k_seq ?_
      refine k_reg .free hmixP (by kernel_rfl) ?_
      refine G_q rfl (op_move (av := .exact (.int .i64 x3_l2)) rfl ?_)
      refine G_q rfl (op_move (av := .row 1 c_api_Value a0) rfl ?_)
      refine G_q rfl (op_len_row (by kernel_rfl) rfl ?_)
      refine G_q rfl (op_lss rfl rfl ?_)
      refine G_nil ?_
      refine kC_normal ?_
      refine k_cond_d (p := x3_l2 < (List.length a0 : Int)) rfl (fun hc => ?_) (fun hc => ?_)
      · replace h := ite_t h hc
        refine k_skip ?_
        refine kC_normal ?_
        refine k_seq ?_
        refine k_block ?_
        refine k_seq ?_
        refine k_plan [] [(0, 0), (0, 1), (0, 2), (0, 3), (0, 4), (0, 5), (0, 6), (0, 7), (0, 8), (0, 9), (0, 10)] hmixP (by kernel_rfl) ?_
        refine P_q no34_0 rfl (op_move (av := .row 1 c_api_Value a0) rfl ?_)
        refine P_q no34_0 rfl (op_move (av := .exact (.int .i64 x3_l2)) rfl ?_)
        refine P_q no34_0 rfl (op_sub rfl rfl rfl ?_)
        obtain ⟨n18, h⟩ := need_some h
        refine P_q no34_0 rfl (op_index_row (by kernel_rfl) rfl rfl n18.1 n18.2 ?_)
        refine P_q no34_0 rfl (op_load1p (a := .exact (.string (bs (gi a0 (i64 (x3_l2 - 1)))))) (by kernel_rfl) rfl rfl ?_)
        refine P_q no34_0 rfl (op_move (av := .row 1 c_api_Value a0) rfl ?_)
        refine P_q no34_0 rfl (op_move (av := .exact (.int .i64 x3_l2)) rfl ?_)
        obtain ⟨n19, h⟩ := need_some h
        refine P_q no34_0 rfl (op_index_row (by kernel_rfl) rfl rfl n19.1 n19.2 ?_)
        refine P_q no34_0 rfl (op_load1p (a := .exact (.string (bs (gi a0 x3_l2)))) (by kernel_rfl) rfl rfl ?_)
        obtain ⟨y20, hy20, h⟩ := bnd1_some h
        refine P_q no34_0 rfl (op_pure (m_value_compare_ok _ _ _ hy20) Tryz.func44 (by kernel_rfl) (LEs.cons (AV.le_eq rfl) (LEs.cons (AV.le_eq rfl) LEs.nil)) ?_)
        refine P_q no34_0 rfl (op_geq rfl rfl ?_)
        refine P_nil ?_
        refine kC_normal ?_
        refine k_cond_d (p := 0 ≤ y20) rfl (fun hc => ?_) (fun hc => ?_)
        · replace h := ite_t h hc
          refine k_seq ?_
          refine k_reg .free hmixP (by kernel_rfl) ?_
          refine G_q rfl (op_assign (av := .exact (.bool false)) rfl ?_)
          refine G_nil ?_
          refine kC_normal ?_
          refine k_ret ?_
          refine kB_ret ?_
          refine kC_ret ?_
          refine kI_ret ?_
          refine kB_ret ?_
          refine kI_ret ?_
          obtain rfl := Option.some.inj h
          refine kP_any (endN (af' := (AF.put AF0 (some 2) (.exact (.bool false)))) (σ' := []) _ rfl ?_ ⟨rfl, rfl⟩)
          exact Sub.of_le (AF.le_put (AV.le_eq rfl) (AF.le_top _))
        · replace h := ite_f h hc
          refine k_skip ?_
          refine kB_normal ?_
          refine kC_normal ?_
          refine k_reg .free hmixP (by kernel_rfl) ?_
          refine G_q rfl (op_move (av := .exact (.int .i64 x3_l2)) rfl ?_)
          refine G_q rfl (op_add rfl rfl rfl ?_)
          refine G_q rfl (op_assign (av := .exact (.int .i64 (i64 (x3_l2 + 1)))) rfl ?_)
          refine G_nil ?_
          refine kI_normal ⟨_, h, ?_⟩
          exact Sub.of_le (AF.le_put (AV.le_eq rfl) (AF.le_put (AV.le_eq rfl) (AF.le_top _)))
      · replace h := ite_f h hc
        refine k_exit ?_
        refine kC_exit ?_
        refine kI_exit ?_
        refine kB_exit ?_
        refine kI_normal ⟨h, ?_⟩
        exact Sub.of_le (AF.le_top _)
  · refine k_seq ?_
    refine k_reg .free hmixP (by kernel_rfl) ?_
    refine G_q rfl (op_assign (av := .exact (.bool true)) rfl ?_)
    refine G_nil ?_
    refine kC_normal ?_
    refine k_ret ?_
    obtain rfl := Option.some.inj h
    refine kP_any (endN (af' := (AF.put AF0 (some 2) (.exact (.bool true)))) (σ' := []) _ rfl ?_ ⟨rfl, rfl⟩)
    exact Sub.of_le (AF.le_put (AV.le_eq rfl) (AF.le_top _))
set_option maxHeartbeats 4000000 in
theorem m_value_between_ok (a0 : List UInt8) (a1 : Int) (a2 : Int) (r : Bool) (h : m_value_between a0 a1 a2 = some r) : Pure Tryz.prog 134 [(.exact (.string (bs a0))), (.exact (.int .i64 a1)), (.exact (.int .i64 a2))] (.exact (.bool r)) := by
  unfold m_value_between at h
  refine Pure.ofFun (fun_of_awp Tryz.func134 rfl Tryz.ntmps134 (by simp) rfl (res1 rfl) fun E hE => k_end ?_)
  refine k_seq ?_
  refine k_reg .free hmixP (by kernel_rfl) ?_
  refine G_q rfl (op_assign (av := .exact (.bool false)) rfl ?_)
  refine G_nil ?_
  refine kC_normal ?_
  refine k_join1_0 h (fun (x6_j1 : Bool) => (AF.put AF0 (some 6) (.exact (.bool x6_j1)))) (fun (x6_j1 : Bool) => []) (fun k1 h => ?_) (fun x6_j1 h => ?_)
  · refine k_reg .free hmixP (by kernel_rfl) ?_
    refine G_q rfl (op_move (av := .exact (.string (bs a0))) rfl ?_)
    obtain ⟨n5, h⟩ := need_some h
    refine G_q rfl (op_index_str (by kernel_rfl) rfl rfl n5.1 n5.2 ?_)
    refine G_q rfl (op_eqlU (a := (gi a0 0)) (b := 1) rfl rfl ?_)
    refine G_q rfl (op_move (av := .exact (.bool (decide ((gi a0 0) = 1)))) rfl ?_)
    refine G_split (p := (gi a0 0) = 1) 10 rfl (fun hc => ?_) (fun hc => ?_)
    · replace h := ite_t h hc
      refine Gy_q rfl rfl rfl (op_move (av := .exact (.string (bs a0))) rfl ?_)
      obtain ⟨y6, hy6, h⟩ := bnd1_some h
      refine Gy_q rfl rfl rfl (op_pure (m_value_integer_ok _ _ hy6) Tryz.func57 (by kernel_rfl) (LEs.cons (AV.le_eq rfl) LEs.nil) ?_)
      refine Gy_q rfl rfl rfl (op_move (av := .exact (.int .i64 a1)) rfl ?_)
      refine Gy_q rfl rfl rfl (op_geq rfl rfl ?_)
      refine G_q rfl (op_pick_t rfl (av := .exact (.bool (decide (a1 ≤ y6)))) rfl ?_)
      refine G_q rfl (op_move (av := .exact (.bool (decide (a1 ≤ y6)))) rfl ?_)
      refine G_split (p := a1 ≤ y6) 16 rfl (fun hc => ?_) (fun hc => ?_)
      · replace h := ite_t h hc
        refine Gy_q rfl rfl rfl (op_move (av := .exact (.string (bs a0))) rfl ?_)
        obtain ⟨y7, hy7, h⟩ := bnd1_some h
        refine Gy_q rfl rfl rfl (op_pure (m_value_integer_ok _ _ hy7) Tryz.func57 (by kernel_rfl) (LEs.cons (AV.le_eq rfl) LEs.nil) ?_)
        refine Gy_q rfl rfl rfl (op_move (av := .exact (.int .i64 a2)) rfl ?_)
        refine Gy_q rfl rfl rfl (op_leq rfl rfl ?_)
        refine G_q rfl (op_pick_t rfl (av := .exact (.bool (decide (y7 ≤ a2)))) rfl ?_)
        refine G_q rfl (op_assign (av := .exact (.bool (decide (y7 ≤ a2)))) rfl ?_)
        refine G_nil ?_
        refine kI_normal ⟨_, h, ?_⟩
        exact Sub.of_le (AF.le_put (AV.le_eq rfl) (AF.le_top _))
      · replace h := ite_f h hc
        refine G_n rfl rfl ?_
        refine G_n rfl rfl ?_
        refine G_n rfl rfl ?_
        refine G_n rfl rfl ?_
        refine G_q rfl (op_pick_f rfl (av := .exact (.bool false)) rfl ?_)
        refine G_q rfl (op_assign (av := .exact (.bool false)) rfl ?_)
        refine G_nil ?_
        refine kI_normal ⟨_, h, ?_⟩
        exact Sub.of_le (AF.le_put (AV.le_eq rfl) (AF.le_top _))
    · replace h := ite_f h hc
      refine G_n rfl rfl ?_
      refine G_n rfl rfl ?_
      refine G_n rfl rfl ?_
      refine G_n rfl rfl ?_
      refine G_q rfl (op_pick_f rfl (av := .exact (.bool false)) rfl ?_)
      refine G_q rfl (op_move (av := .exact (.bool false)) rfl ?_)
      refine G_n rfl rfl ?_
      refine G_n rfl rfl ?_
      refine G_n rfl rfl ?_
      refine G_n rfl rfl ?_
      refine G_q rfl (op_pick_f rfl (av := .exact (.bool false)) rfl ?_)
      refine G_q rfl (op_assign (av := .exact (.bool false)) rfl ?_)
      refine G_nil ?_
      refine kI_normal ⟨_, h, ?_⟩
      exact Sub.of_le (AF.le_put (AV.le_eq rfl) (AF.le_top _))
  · refine k_ret ?_
    obtain rfl := Option.some.inj h
    refine kP_any (endN (af' := (AF.put AF0 (some 6) (.exact (.bool x6_j1)))) (σ' := []) _ rfl ?_ ⟨rfl, rfl⟩)
    exact Sub.of_le (AF.le_put (AV.le_eq rfl) (AF.le_top _))
set_option maxHeartbeats 4000000 in
theorem m_value_formed_ok (a0 : Int) (a1 : List (List UInt8)) (r : Bool) (h : m_value_formed a0 a1 = some r) : Pure Tryz.prog 111 [(.exact (.int .i64 a0)), (.row 1 c_api_Value a1)] (.exact (.bool r)) := by
  unfold m_value_formed at h
  refine Pure.ofFun (fun_of_awp Tryz.func111 rfl Tryz.ntmps111 (by simp) rfl (res1 rfl) fun E hE => k_end ?_)
  refine k_seq ?_
  refine k_reg .free hmixP (by kernel_rfl) ?_
  refine G_q rfl (op_assign (av := .exact (.bool false)) rfl ?_)
  refine G_nil ?_
  refine kC_normal ?_
  refine k_seq ?_
  refine k_reg .free hmixP (by kernel_rfl) ?_
  refine G_q rfl (op_move (av := .row 1 c_api_Value a1) rfl ?_)
  refine G_q rfl (op_len_row (by kernel_rfl) rfl ?_)
  refine G_q rfl (op_assign (av := .exact (.int .i64 (List.length a1 : Int))) rfl ?_)
  refine G_nil ?_
  refine kC_normal ?_
  refine k_join0_0 h (AF0) ([]) (fun k1 h => ?_) (fun  h => ?_)
  · refine k_seq ?_
    refine k_reg .free hmixP (by kernel_rfl) ?_
    refine G_q rfl (op_move (av := .exact (.int .i64 a0)) rfl ?_)
    refine G_nil ?_
    refine kC_normal ?_
    refine k_block ?_
    refine k_seq ?_
    refine k_reg .free hmixP (by kernel_rfl) ?_
    refine G_q rfl (op_eql rfl rfl ?_)
    refine G_q rfl (op_assign (av := .exact (.bool (decide (a0 = 3)))) rfl ?_)
    refine G_nil ?_
    refine kC_normal ?_
    refine k_cond_d (p := a0 = 3) rfl (fun hc => ?_) (fun hc => ?_)
    · replace h := ite_t h hc
      refine k_join1_0 h (fun (x4_j43 : Bool) => (AF.put AF0 (some 4) (.exact (.bool x4_j43)))) (fun (x4_j43 : Bool) => []) (fun k43 h => ?_) (fun x4_j43 h => ?_)
      · refine k_reg .free hmixP (by kernel_rfl) ?_
        refine G_q rfl (op_move (av := .exact (.int .i64 (List.length a1 : Int))) rfl ?_)
        refine G_q rfl (op_geq rfl rfl ?_)
        refine G_q rfl (op_move (av := .exact (.bool (decide (2 ≤ (List.length a1 : Int))))) rfl ?_)
        refine G_split (p := 2 ≤ (List.length a1 : Int)) 15 rfl (fun hc => ?_) (fun hc => ?_)
        · replace h := ite_t h hc
          refine Gy_q rfl rfl rfl (op_move (av := .exact (.int .i64 (List.length a1 : Int))) rfl ?_)
          refine Gy_q rfl rfl rfl (op_leq rfl rfl ?_)
          refine G_q rfl (op_pick_t rfl (av := .exact (.bool (decide ((List.length a1 : Int) ≤ 8)))) rfl ?_)
          refine G_q rfl (op_assign (av := .exact (.bool (decide ((List.length a1 : Int) ≤ 8)))) rfl ?_)
          refine G_nil ?_
          refine kI_normal ⟨_, h, ?_⟩
          exact Sub.of_le (AF.le_put (AV.le_eq rfl) (AF.le_top _))
        · replace h := ite_f h hc
          refine G_n rfl rfl ?_
          refine G_n rfl rfl ?_
          refine G_q rfl (op_pick_f rfl (av := .exact (.bool false)) rfl ?_)
          refine G_q rfl (op_assign (av := .exact (.bool false)) rfl ?_)
          refine G_nil ?_
          refine kI_normal ⟨_, h, ?_⟩
          exact Sub.of_le (AF.le_put (AV.le_eq rfl) (AF.le_top _))
      · refine k_ret ?_
        refine kB_ret ?_
        refine kI_ret ?_
        obtain rfl := Option.some.inj h
        refine kP_any (endN (af' := (AF.put AF0 (some 4) (.exact (.bool x4_j43)))) (σ' := []) _ rfl ?_ ⟨rfl, rfl⟩)
        exact Sub.of_le (AF.le_put (AV.le_eq rfl) (AF.le_top _))
    · replace h := ite_f h hc
      refine k_seq ?_
      refine k_reg .free hmixP (by kernel_rfl) ?_
      refine G_q rfl (op_eql rfl rfl ?_)
      refine G_q rfl (op_assign (av := .exact (.bool (decide (a0 = 5)))) rfl ?_)
      refine G_nil ?_
      refine kC_normal ?_
      refine k_cond_d (p := a0 = 5) rfl (fun hc => ?_) (fun hc => ?_)
      · replace h := ite_t h hc
        refine k_seq ?_
        refine k_reg .free hmixP (by kernel_rfl) ?_
        refine G_q rfl (op_move (av := .row 1 c_api_Value a1) rfl ?_)
        obtain ⟨y44, hy44, h⟩ := bnd1_some h
        refine G_q rfl (op_pure (m_value_ascending_ok _ _ hy44) Tryz.func133 (by kernel_rfl) (LEs.cons (AV.le_eq rfl) LEs.nil) ?_)
        refine G_q rfl (op_assign (av := .exact (.bool y44)) rfl ?_)
        refine G_nil ?_
        refine kC_normal ?_
        refine k_ret ?_
        refine kB_ret ?_
        refine kI_ret ?_
        obtain rfl := Option.some.inj h
        refine kP_any (endN (af' := (AF.put AF0 (some 4) (.exact (.bool y44)))) (σ' := []) _ rfl ?_ ⟨rfl, rfl⟩)
        exact Sub.of_le (AF.le_put (AV.le_eq rfl) (AF.le_top _))
      · replace h := ite_f h hc
        refine k_seq ?_
        refine k_reg .free hmixP (by kernel_rfl) ?_
        refine G_q rfl (op_eql rfl rfl ?_)
        refine G_q rfl (op_assign (av := .exact (.bool (decide (a0 = 6)))) rfl ?_)
        refine G_nil ?_
        refine kC_normal ?_
        refine k_cond_d (p := a0 = 6) rfl (fun hc => ?_) (fun hc => ?_)
        · replace h := ite_t h hc
          refine k_seq ?_
          refine k_reg .free hmixP (by kernel_rfl) ?_
          refine G_q rfl (op_assign (av := .exact (.slice none 0 0)) rfl ?_)
          refine G_nil ?_
          refine kC_normal ?_
          refine k_join1_1 h (fun (x6_j45 : List (List UInt8)) (v6_j45 : Value) => (AF.put (AF.put AF0 (some 5) (.exact (.int .i64 (List.length a1 : Int)))) (some 6) (.exact v6_j45))) (fun (x6_j45 : List (List UInt8)) (v6_j45 : Value) => [vecT Tryz.prog 27 1 c_api_Value v6_j45 x6_j45]) (fun k45 h => ?_) (fun x6_j45 v6_j45 h => ?_)
          · refine k_seq ?_
            refine k_reg .free hmixP (by kernel_rfl) ?_
            refine G_q rfl (op_assign (av := .exact (.int .i64 0)) rfl ?_)
            refine G_nil ?_
            refine kC_normal ?_
            refine k_block ?_
            refine k_loop2_1 (m_value_formed_L4 a1 k45) (m_value_formed_B4 a1 k45) (fun _ _ => rfl) (fun m _ _ => rfl) h (fun (x6_l4 : List (List UInt8)) (x7_l4 : Int) (v6_l4 : Value) => (AF.put (AF.put (AF.put (AF.put AF0 (some 1) (.row 1 c_api_Value a1)) (some 5) (.exact (.int .i64 (List.length a1 : Int)))) (some 6) (.exact v6_l4)) (some 7) (.exact (.int .i64 x7_l4)))) (fun (x6_l4 : List (List UInt8)) (x7_l4 : Int) (v6_l4 : Value) => [vecT Tryz.prog 27 1 c_api_Value v6_l4 x6_l4]) (.slice none 0 0) ?_ (fun rec4 x6_l4 x7_l4 v6_l4 h => ?_)
            · refine Sub.trans (SubU.to (SubU.nilT (P := Tryz.prog) (t := 27) (n := 1) (enc := c_api_Value))) ?_
              exact Sub.of_le (AF.le_put (AV.le_eq rfl) (AF.le_put (AV.le_eq rfl) (AF.le_put (AV.le_eq rfl) (AF.le_put (AV.le_eq rfl) (AF.le_top _)))))
            · unfold m_value_formed_B4 at h
              refine k_seq ?_
              refine k_seq ?_
              refine k_reg .free hmixP (by kernel_rfl) ?_
              refine G_q rfl (op_move (av := .exact (.int .i64 x7_l4)) rfl ?_)
              refine G_q rfl (op_move (av := .exact (.int .i64 (List.length a1 : Int))) rfl ?_)
              refine G_q rfl (op_lss rfl rfl ?_)
              refine G_nil ?_
              refine kC_normal ?_
              refine k_cond_d (p := x7_l4 < (List.length a1 : Int)) rfl (fun hc => ?_) (fun hc => ?_)
              · replace h := ite_t h hc
                refine k_skip ?_
                refine kC_normal ?_
                refine k_seq ?_
                refine k_block ?_
                refine k_reg .free hmixP (by kernel_rfl) ?_
                refine G_q rfl (op_move (av := .exact v6_l4) rfl ?_)
                refine G_q rfl (op_move (av := .row 1 c_api_Value a1) rfl ?_)
                refine G_q rfl (op_move (av := .exact (.int .i64 x7_l4)) rfl ?_)
                obtain ⟨n62, h⟩ := need_some h
                refine G_q rfl (op_index_row (by kernel_rfl) rfl rfl n62.1 n62.2 ?_)
                refine G_q rfl (op_load1p (a := .exact (.string (bs (gi a1 x7_l4)))) (by kernel_rfl) rfl rfl ?_)
                refine G_q rfl (op_litT (n := 1) (enc := c_api_Value) [gi a1 x7_l4] (CellsAll.cons rfl CellsOf.str CellsAll.nil) rfl (by kernel_rfl) (LEss.cons (LEs.cons (AV.le_eq rfl) LEs.nil) LEss.nil) ?_)
                obtain ⟨n63, h⟩ := need_some h
                refine G_l rfl (op_appT (by kernel_rfl) rfl rfl oc_c_api_Value n63 (fun v64 => ?_))
                refine G_q rfl (op_assign (av := .exact v64) rfl ?_)
                refine G_nil ?_
                refine kB_normal ?_
                refine kC_normal ?_
                refine k_reg .free hmixP (by kernel_rfl) ?_
                refine G_q rfl (op_move (av := .exact (.int .i64 x7_l4)) rfl ?_)
                refine G_q rfl (op_add rfl rfl rfl ?_)
                refine G_q rfl (op_assign (av := .exact (.int .i64 (i64 (x7_l4 + 2)))) rfl ?_)
                refine G_nil ?_
                refine kI_normal ⟨_, _, v64, h, ?_⟩
                exact Sub.of_le (AF.le_put (AV.le_eq rfl) (AF.le_put (AV.le_eq rfl) (AF.le_put (AV.le_eq rfl) (AF.le_put (AV.le_eq rfl) (AF.le_top _)))))
              · replace h := ite_f h hc
                refine k_exit ?_
                refine kC_exit ?_
                refine kI_exit ?_
                refine kB_exit ?_
                refine kI_normal ⟨_, v6_l4, h, ?_⟩
                exact Sub.of_le (AF.le_put (AV.le_eq rfl) (AF.le_put (AV.le_eq rfl) (AF.le_top _)))
          · refine k_join1_0 h (fun (x4_j65 : Bool) => (AF.put AF0 (some 4) (.exact (.bool x4_j65)))) (fun (x4_j65 : Bool) => []) (fun k65 h => ?_) (fun x4_j65 h => ?_)
            · refine k_reg .free hmixP (by kernel_rfl) ?_
              refine G_q rfl (op_move (av := .exact (.int .i64 (List.length a1 : Int))) rfl ?_)
              refine G_q rfl (op_rem rfl rfl (by decide) rfl ?_)
              refine G_q rfl (op_eql rfl rfl ?_)
              refine G_q rfl (op_move (av := .exact (.bool (decide ((Int.tmod (List.length a1 : Int) 2) = 0)))) rfl ?_)
              refine G_split (p := (Int.tmod (List.length a1 : Int) 2) = 0) 40 rfl (fun hc => ?_) (fun hc => ?_)
              · replace h := ite_t h hc
                refine Gy_q rfl rfl rfl (op_move (av := .exact v6_j45) rfl ?_)
                refine G_sub rfl (SubU.freezeT2 (s1 := 6) (s2 := 41) rfl rfl len_c_api_Value) ?_
                obtain ⟨y67, hy67, h⟩ := bnd1_some h
                refine Gy_q rfl rfl rfl (op_pure (m_value_ascending_ok _ _ hy67) Tryz.func133 (by kernel_rfl) (LEs.cons (AV.le_eq rfl) LEs.nil) ?_)
                refine G_q rfl (op_pick_t rfl (av := .exact (.bool y67)) rfl ?_)
                refine G_q rfl (op_assign (av := .exact (.bool y67)) rfl ?_)
                refine G_nil ?_
                refine kI_normal ⟨_, h, ?_⟩
                exact Sub.of_le (AF.le_put (AV.le_eq rfl) (AF.le_top _))
              · replace h := ite_f h hc
                refine G_n rfl rfl ?_
                refine G_n rfl rfl ?_
                refine G_q rfl (op_pick_f rfl (av := .exact (.bool false)) rfl ?_)
                refine G_q rfl (op_assign (av := .exact (.bool false)) rfl ?_)
                refine G_nil ?_
                refine kI_normal ⟨_, h, ?_⟩
                refine Sub.trans (SubU.to SubU.drop) ?_
                exact Sub.of_le (AF.le_put (AV.le_eq rfl) (AF.le_top _))
            · refine k_ret ?_
              refine kB_ret ?_
              refine kI_ret ?_
              obtain rfl := Option.some.inj h
              refine kP_any (endN (af' := (AF.put AF0 (some 4) (.exact (.bool x4_j65)))) (σ' := []) _ rfl ?_ ⟨rfl, rfl⟩)
              exact Sub.of_le (AF.le_put (AV.le_eq rfl) (AF.le_top _))
        · replace h := ite_f h hc
          refine k_seq ?_
          refine k_reg .free hmixP (by kernel_rfl) ?_
          refine G_q rfl (op_eql rfl rfl ?_)
          refine G_q rfl (op_assign (av := .exact (.bool (decide (a0 = 7)))) rfl ?_)
          refine G_nil ?_
          refine kC_normal ?_
          refine k_cond_d (p := a0 = 7) rfl (fun hc => ?_) (fun hc => ?_)
          · replace h := ite_t h hc
            refine k_join1_0 h (fun (x4_j68 : Bool) => (AF.put AF0 (some 4) (.exact (.bool x4_j68)))) (fun (x4_j68 : Bool) => []) (fun k68 h => ?_) (fun x4_j68 h => ?_)
            · refine k_reg .free hmixP (by kernel_rfl) ?_
              refine G_q rfl (op_move (av := .exact (.int .i64 (List.length a1 : Int))) rfl ?_)
              refine G_q rfl (op_geq rfl rfl ?_)
              refine G_q rfl (op_move (av := .exact (.bool (decide (1 ≤ (List.length a1 : Int))))) rfl ?_)
              refine G_split (p := 1 ≤ (List.length a1 : Int)) 48 rfl (fun hc => ?_) (fun hc => ?_)
              · replace h := ite_t h hc
                refine Gy_q rfl rfl rfl (op_move (av := .exact (.int .i64 (List.length a1 : Int))) rfl ?_)
                refine Gy_q rfl rfl rfl (op_leq rfl rfl ?_)
                refine G_q rfl (op_pick_t rfl (av := .exact (.bool (decide ((List.length a1 : Int) ≤ 9)))) rfl ?_)
                refine G_q rfl (op_move (av := .exact (.bool (decide ((List.length a1 : Int) ≤ 9)))) rfl ?_)
                refine G_split (p := (List.length a1 : Int) ≤ 9) 52 rfl (fun hc => ?_) (fun hc => ?_)
                · replace h := ite_t h hc
                  refine Gy_q rfl rfl rfl (op_move (av := .row 1 c_api_Value a1) rfl ?_)
                  obtain ⟨n71, h⟩ := need_some h
                  refine Gy_q rfl rfl rfl (op_index_row (by kernel_rfl) rfl rfl n71.1 n71.2 ?_)
                  refine Gy_q rfl rfl rfl (op_load1p (a := .exact (.string (bs (gi a1 0)))) (by kernel_rfl) rfl rfl ?_)
                  obtain ⟨n72, h⟩ := need_some h
                  refine Gy_q rfl rfl rfl (op_index_str (by kernel_rfl) rfl rfl n72.1 n72.2 ?_)
                  refine Gy_q rfl rfl rfl (op_eqlU (a := (gi (gi a1 0) 0)) (b := 10) rfl rfl ?_)
                  refine G_q rfl (op_pick_t rfl (av := .exact (.bool (decide ((gi (gi a1 0) 0) = 10)))) rfl ?_)
                  refine G_q rfl (op_assign (av := .exact (.bool (decide ((gi (gi a1 0) 0) = 10)))) rfl ?_)
                  refine G_nil ?_
                  refine kI_normal ⟨_, h, ?_⟩
                  exact Sub.of_le (AF.le_put (AV.le_eq rfl) (AF.le_top _))
                · replace h := ite_f h hc
                  refine G_n rfl rfl ?_
                  refine G_n rfl rfl ?_
                  refine G_n rfl rfl ?_
                  refine G_n rfl rfl ?_
                  refine G_n rfl rfl ?_
                  refine G_q rfl (op_pick_f rfl (av := .exact (.bool false)) rfl ?_)
                  refine G_q rfl (op_assign (av := .exact (.bool false)) rfl ?_)
                  refine G_nil ?_
                  refine kI_normal ⟨_, h, ?_⟩
                  exact Sub.of_le (AF.le_put (AV.le_eq rfl) (AF.le_top _))
              · replace h := ite_f h hc
                refine G_n rfl rfl ?_
                refine G_n rfl rfl ?_
                refine G_q rfl (op_pick_f rfl (av := .exact (.bool false)) rfl ?_)
                refine G_q rfl (op_move (av := .exact (.bool false)) rfl ?_)
                refine G_n rfl rfl ?_
                refine G_n rfl rfl ?_
                refine G_n rfl rfl ?_
                refine G_n rfl rfl ?_
                refine G_n rfl rfl ?_
                refine G_q rfl (op_pick_f rfl (av := .exact (.bool false)) rfl ?_)
                refine G_q rfl (op_assign (av := .exact (.bool false)) rfl ?_)
                refine G_nil ?_
                refine kI_normal ⟨_, h, ?_⟩
                exact Sub.of_le (AF.le_put (AV.le_eq rfl) (AF.le_top _))
            · refine k_ret ?_
              refine kB_ret ?_
              refine kI_ret ?_
              obtain rfl := Option.some.inj h
              refine kP_any (endN (af' := (AF.put AF0 (some 4) (.exact (.bool x4_j68)))) (σ' := []) _ rfl ?_ ⟨rfl, rfl⟩)
              exact Sub.of_le (AF.le_put (AV.le_eq rfl) (AF.le_top _))
          · replace h := ite_f h hc
            refine k_seq ?_
            refine k_reg .free hmixP (by kernel_rfl) ?_
            refine G_q rfl (op_eql rfl rfl ?_)
            refine G_q rfl (op_assign (av := .exact (.bool (decide (a0 = 8)))) rfl ?_)
            refine G_nil ?_
            refine kC_normal ?_
            refine k_cond_d (p := a0 = 8) rfl (fun hc => ?_) (fun hc => ?_)
            · replace h := ite_t h hc
              refine k_join1_0 h (fun (x4_j73 : Bool) => (AF.put AF0 (some 4) (.exact (.bool x4_j73)))) (fun (x4_j73 : Bool) => []) (fun k73 h => ?_) (fun x4_j73 h => ?_)
              · refine k_reg .free hmixP (by kernel_rfl) ?_
                refine G_q rfl (op_move (av := .exact (.int .i64 (List.length a1 : Int))) rfl ?_)
                refine G_q rfl (op_geq rfl rfl ?_)
                refine G_q rfl (op_move (av := .exact (.bool (decide (1 ≤ (List.length a1 : Int))))) rfl ?_)
                refine G_split (p := 1 ≤ (List.length a1 : Int)) 63 rfl (fun hc => ?_) (fun hc => ?_)
                · replace h := ite_t h hc
                  refine Gy_q rfl rfl rfl (op_move (av := .exact (.int .i64 (List.length a1 : Int))) rfl ?_)
                  refine Gy_q rfl rfl rfl (op_leq rfl rfl ?_)
                  refine G_q rfl (op_pick_t rfl (av := .exact (.bool (decide ((List.length a1 : Int) ≤ 33)))) rfl ?_)
                  refine G_q rfl (op_move (av := .exact (.bool (decide ((List.length a1 : Int) ≤ 33)))) rfl ?_)
                  refine G_split (p := (List.length a1 : Int) ≤ 33) 67 rfl (fun hc => ?_) (fun hc => ?_)
                  · replace h := ite_t h hc
                    refine Gy_q rfl rfl rfl (op_move (av := .row 1 c_api_Value a1) rfl ?_)
                    obtain ⟨n76, h⟩ := need_some h
                    refine Gy_q rfl rfl rfl (op_index_row (by kernel_rfl) rfl rfl n76.1 n76.2 ?_)
                    refine Gy_q rfl rfl rfl (op_load1p (a := .exact (.string (bs (gi a1 0)))) (by kernel_rfl) rfl rfl ?_)
                    obtain ⟨y77, hy77, h⟩ := bnd1_some h
                    refine Gy_q rfl rfl rfl (op_pure (m_value_between_ok _ _ _ _ hy77) Tryz.func134 (by kernel_rfl) (LEs.cons (AV.le_eq rfl) (LEs.cons (AV.le_eq rfl) (LEs.cons (AV.le_eq rfl) LEs.nil))) ?_)
                    refine G_q rfl (op_pick_t rfl (av := .exact (.bool y77)) rfl ?_)
                    refine G_q rfl (op_assign (av := .exact (.bool y77)) rfl ?_)
                    refine G_nil ?_
                    refine kI_normal ⟨_, h, ?_⟩
                    exact Sub.of_le (AF.le_put (AV.le_eq rfl) (AF.le_top _))
                  · replace h := ite_f h hc
                    refine G_n rfl rfl ?_
                    refine G_n rfl rfl ?_
                    refine G_n rfl rfl ?_
                    refine G_n rfl rfl ?_
                    refine G_q rfl (op_pick_f rfl (av := .exact (.bool false)) rfl ?_)
                    refine G_q rfl (op_assign (av := .exact (.bool false)) rfl ?_)
                    refine G_nil ?_
                    refine kI_normal ⟨_, h, ?_⟩
                    exact Sub.of_le (AF.le_put (AV.le_eq rfl) (AF.le_top _))
                · replace h := ite_f h hc
                  refine G_n rfl rfl ?_
                  refine G_n rfl rfl ?_
                  refine G_q rfl (op_pick_f rfl (av := .exact (.bool false)) rfl ?_)
                  refine G_q rfl (op_move (av := .exact (.bool false)) rfl ?_)
                  refine G_n rfl rfl ?_
                  refine G_n rfl rfl ?_
                  refine G_n rfl rfl ?_
                  refine G_n rfl rfl ?_
                  refine G_q rfl (op_pick_f rfl (av := .exact (.bool false)) rfl ?_)
                  refine G_q rfl (op_assign (av := .exact (.bool false)) rfl ?_)
                  refine G_nil ?_
                  refine kI_normal ⟨_, h, ?_⟩
                  exact Sub.of_le (AF.le_put (AV.le_eq rfl) (AF.le_top _))
              · refine k_ret ?_
                refine kB_ret ?_
                refine kI_ret ?_
                obtain rfl := Option.some.inj h
                refine kP_any (endN (af' := (AF.put AF0 (some 4) (.exact (.bool x4_j73)))) (σ' := []) _ rfl ?_ ⟨rfl, rfl⟩)
                exact Sub.of_le (AF.le_put (AV.le_eq rfl) (AF.le_top _))
            · replace h := ite_f h hc
              refine k_seq ?_
              refine k_reg .free hmixP (by kernel_rfl) ?_
              refine G_q rfl (op_eql rfl rfl ?_)
              refine G_q rfl (op_assign (av := .exact (.bool (decide (a0 = 9)))) rfl ?_)
              refine G_nil ?_
              refine kC_normal ?_
              refine k_cond_d (p := a0 = 9) rfl (fun hc => ?_) (fun hc => ?_)
              · replace h := ite_t h hc
                refine k_join1_0 h (fun (x4_j78 : Bool) => (AF.put AF0 (some 4) (.exact (.bool x4_j78)))) (fun (x4_j78 : Bool) => []) (fun k78 h => ?_) (fun x4_j78 h => ?_)
                · refine k_reg .free hmixP (by kernel_rfl) ?_
                  refine G_q rfl (op_move (av := .exact (.int .i64 (List.length a1 : Int))) rfl ?_)
                  refine G_q rfl (op_geq rfl rfl ?_)
                  refine G_q rfl (op_move (av := .exact (.bool (decide (1 ≤ (List.length a1 : Int))))) rfl ?_)
                  refine G_split (p := 1 ≤ (List.length a1 : Int)) 77 rfl (fun hc => ?_) (fun hc => ?_)
                  · replace h := ite_t h hc
                    refine Gy_q rfl rfl rfl (op_move (av := .row 1 c_api_Value a1) rfl ?_)
                    obtain ⟨n81, h⟩ := need_some h
                    refine Gy_q rfl rfl rfl (op_index_row (by kernel_rfl) rfl rfl n81.1 n81.2 ?_)
                    refine Gy_q rfl rfl rfl (op_load1p (a := .exact (.string (bs (gi a1 0)))) (by kernel_rfl) rfl rfl ?_)
                    obtain ⟨y82, hy82, h⟩ := bnd1_some h
                    refine Gy_q rfl rfl rfl (op_pure (m_value_between_ok _ _ _ _ hy82) Tryz.func134 (by kernel_rfl) (LEs.cons (AV.le_eq rfl) (LEs.cons (AV.le_eq rfl) (LEs.cons (AV.le_eq rfl) LEs.nil))) ?_)
                    refine G_q rfl (op_pick_t rfl (av := .exact (.bool y82)) rfl ?_)
                    refine G_q rfl (op_assign (av := .exact (.bool y82)) rfl ?_)
                    refine G_nil ?_
                    refine kI_normal ⟨_, h, ?_⟩
                    exact Sub.of_le (AF.le_put (AV.le_eq rfl) (AF.le_top _))
                  · replace h := ite_f h hc
                    refine G_n rfl rfl ?_
                    refine G_n rfl rfl ?_
                    refine G_n rfl rfl ?_
                    refine G_n rfl rfl ?_
                    refine G_q rfl (op_pick_f rfl (av := .exact (.bool false)) rfl ?_)
                    refine G_q rfl (op_assign (av := .exact (.bool false)) rfl ?_)
                    refine G_nil ?_
                    refine kI_normal ⟨_, h, ?_⟩
                    exact Sub.of_le (AF.le_put (AV.le_eq rfl) (AF.le_top _))
                · refine k_ret ?_
                  refine kB_ret ?_
                  refine kI_ret ?_
                  obtain rfl := Option.some.inj h
                  refine kP_any (endN (af' := (AF.put AF0 (some 4) (.exact (.bool x4_j78)))) (σ' := []) _ rfl ?_ ⟨rfl, rfl⟩)
                  exact Sub.of_le (AF.le_put (AV.le_eq rfl) (AF.le_top _))
              · replace h := ite_f h hc
                refine k_skip ?_
                refine kB_normal ?_
                refine kI_normal ⟨h, ?_⟩
                exact Sub.of_le (AF.le_top _)
  · refine k_seq ?_
    refine k_reg .free hmixP (by kernel_rfl) ?_
    refine G_q rfl (op_assign (av := .exact (.bool true)) rfl ?_)
    refine G_nil ?_
    refine kC_normal ?_
    refine k_ret ?_
    obtain rfl := Option.some.inj h
    refine kP_any (endN (af' := (AF.put AF0 (some 4) (.exact (.bool true)))) (σ' := []) _ rfl ?_ ⟨rfl, rfl⟩)
    exact Sub.of_le (AF.le_put (AV.le_eq rfl) (AF.le_top _))
set_option maxHeartbeats 4000000 in
theorem m_value_long_ok (self_value_length : (List UInt8) → Int → Option Int) (hself_value_length : ∀ (a0 : List UInt8) (a1 : Int) (r : Int), self_value_length a0 a1 = some r → Pure Tryz.prog 66 [(.exact (.string (bs a0))), (.exact (.int .i64 a1))] (.exact (.int .i64 r))) (a0 : List UInt8) (a1 : Int) (r : Int) (h : m_value_long self_value_length a0 a1 = some r) : Pure Tryz.prog 91 [(.exact (.string (bs a0))), (.exact (.int .i64 a1))] (.exact (.int .i64 r)) := by
  unfold m_value_long at h
  refine Pure.ofFun (fun_of_awp Tryz.func91 rfl Tryz.ntmps91 (by simp) rfl (res1 rfl) fun E hE => k_end ?_)
  refine k_seq ?_
  refine k_reg .free hmixP (by kernel_rfl) ?_
  refine G_q rfl (op_assign (av := .exact (.int .i64 0)) rfl ?_)
  refine G_nil ?_
  refine kC_normal ?_
  refine k_seq ?_
  refine k_seq ?_
  refine k_reg .free hmixP (by kernel_rfl) ?_
  refine G_q rfl (op_move (av := .exact (.string (bs a0))) rfl ?_)
  refine G_q rfl (op_lenS (by kernel_rfl) rfl ?_)
  refine G_q rfl (op_lss rfl rfl ?_)
  refine G_nil ?_
  refine kC_normal ?_
  refine k_cond_d (p := (List.length a0 : Int) < 3) rfl (fun hc => ?_) (fun hc => ?_)
  · replace h := ite_t h hc
    refine k_seq ?_
    refine k_reg .free hmixP (by kernel_rfl) ?_
    refine G_q rfl (op_assign (av := .exact (.int .i64 0)) rfl ?_)
    refine G_nil ?_
    refine kC_normal ?_
    refine k_ret ?_
    refine kC_ret ?_
    obtain rfl := Option.some.inj h
    refine kP_any (endN (af' := (AF.put AF0 (some 4) (.exact (.int .i64 0)))) (σ' := []) _ rfl ?_ ⟨rfl, rfl⟩)
    exact Sub.of_le (AF.le_put (AV.le_eq rfl) (AF.le_top _))
  · replace h := ite_f h hc
    refine k_skip ?_
    refine kC_normal ?_
    refine k_seq ?_
    refine k_reg .free hmixP (by kernel_rfl) ?_
    refine G_q rfl (op_assign (av := .exact (.int .i64 3)) rfl ?_)
    refine G_nil ?_
    refine kC_normal ?_
    refine k_seq ?_
    refine k_reg .free hmixP (by kernel_rfl) ?_
    refine G_q rfl (op_assign (av := .exact (.slice none 0 0)) rfl ?_)
    refine G_nil ?_
    refine kC_normal ?_
    refine k_join2_1 h (fun (x5_j1 : Int) (x6_j1 : List (List UInt8)) (v6_j1 : Value) => (AF.put (AF.put (AF.put AF0 (some 0) (.exact (.string (bs a0)))) (some 5) (.exact (.int .i64 x5_j1))) (some 6) (.exact v6_j1))) (fun (x5_j1 : Int) (x6_j1 : List (List UInt8)) (v6_j1 : Value) => [vecT Tryz.prog 27 1 c_api_Value v6_j1 x6_j1]) (fun k1 h => ?_) (fun x5_j1 x6_j1 v6_j1 h => ?_)
    · refine k_seq ?_
      refine k_plan [] [(0, 0), (0, 1), (0, 2), (0, 3), (0, 4), (0, 5), (0, 6), (0, 7), (0, 8)] hmixP (by kernel_rfl) ?_
      refine P_q no34_0 rfl (op_move (av := .exact (.string (bs a0))) rfl ?_)
      obtain ⟨n20, h⟩ := need_some h
      refine P_q no34_0 rfl (op_index_str (by kernel_rfl) rfl rfl n20.1 n20.2 ?_)
      refine P_q no34_0 rfl (op_convInt (k := .i64) (r := (UInt8.toNat (gi a0 1) : Int)) (by kernel_rfl) rfl (wrap_u8 rfl _) ?_)
      refine P_q no34_0 rfl (op_shl rfl rfl (by decide) rfl ?_)
      refine P_q no34_0 rfl (op_move (av := .exact (.string (bs a0))) rfl ?_)
      obtain ⟨n21, h⟩ := need_some h
      refine P_q no34_0 rfl (op_index_str (by kernel_rfl) rfl rfl n21.1 n21.2 ?_)
      refine P_q no34_0 rfl (op_convInt (k := .i64) (r := (UInt8.toNat (gi a0 2) : Int)) (by kernel_rfl) rfl (wrap_u8 rfl _) ?_)
      refine P_q no34_0 rfl (op_or rfl rfl rfl ?_)
      refine P_q no34_0 rfl (op_move (av := .exact (.int .i64 0)) rfl ?_)
      refine P_nil ?_
      refine kC_normal ?_
      refine k_block ?_
      refine k_loop3_1 (m_value_long_L2 self_value_length a0 a1 k1) (m_value_long_B2 self_value_length a0 a1 k1) (fun _ _ _ => rfl) (fun m _ _ _ => rfl) h (fun (x5_l2 : Int) (x6_l2 : List (List UInt8)) (x19_l2 : Int) (v6_l2 : Value) => (AF.put (AF.put (AF.put (AF.put (AF.put (AF.put AF0 (some 0) (.exact (.string (bs a0)))) (some 1) (.exact (.int .i64 a1))) (some 5) (.exact (.int .i64 x5_l2))) (some 6) (.exact v6_l2)) (some 18) (.exact (.int .i64 (bOr .i64 (i64 ((UInt8.toNat (gi a0 1) : Int) * 2 ^ min (Int.toNat 8) IntKind.i64.bits)) (UInt8.toNat (gi a0 2) : Int))))) (some 19) (.exact (.int .i64 x19_l2)))) (fun (x5_l2 : Int) (x6_l2 : List (List UInt8)) (x19_l2 : Int) (v6_l2 : Value) => [vecT Tryz.prog 27 1 c_api_Value v6_l2 x6_l2]) (.slice none 0 0) ?_ (fun rec2 x5_l2 x6_l2 x19_l2 v6_l2 h => ?_)
      · refine Sub.trans (SubU.to (SubU.nilT (P := Tryz.prog) (t := 27) (n := 1) (enc := c_api_Value))) ?_
        exact Sub.of_le (AF.le_put (AV.le_eq rfl) (AF.le_put (AV.le_eq rfl) (AF.le_put (AV.le_eq rfl) (AF.le_put (AV.le_eq rfl) (AF.le_put (AV.le_eq rfl) (AF.le_put (AV.le_eq rfl) (AF.le_top _)))))))
      · unfold m_value_long_B2 at h
        refine k_seq ?_
        refine k_reg .free hmixP (by kernel_rfl) ?_
        refine G_q rfl (op_lss rfl rfl ?_)
        refine G_nil ?_
        refine kC_normal ?_
        refine k_seq ?_
        refine k_cond_d (p := x19_l2 < (bOr .i64 (i64 ((UInt8.toNat (gi a0 1) : Int) * 2 ^ min (Int.toNat 8) IntKind.i64.bits)) (UInt8.toNat (gi a0 2) : Int))) rfl (fun hc => ?_) (fun hc => ?_)
        · replace h := ite_t h hc
          refine k_skip ?_
          refine kC_normal ?_
          refine k_seq ?_
          refine k_block ?_
          refine k_seq ?_
          refine k_reg .free hmixP (by kernel_rfl) ?_
          refine G_q rfl (op_move (av := .exact (.string (bs a0))) rfl ?_)
          refine G_q rfl (op_move (av := .exact (.int .i64 x5_l2)) rfl ?_)
          obtain ⟨n32, h⟩ := need_some h
          refine G_q rfl (op_slice_strd (by kernel_rfl) rfl (bnd_some rfl) bnd_none n32.1 n32.2 (Int.le_refl _) ?_)
          refine G_q rfl (op_move (av := .exact (.int .i64 a1)) rfl ?_)
          refine G_q rfl (op_add rfl rfl rfl ?_)
          obtain ⟨y33, hy33, h⟩ := bnd1_some h
          refine G_q rfl (op_pure (hself_value_length _ _ _ hy33) Tryz.func66 (by kernel_rfl) (LEs.cons (AV.le_eq rfl) (LEs.cons (AV.le_eq rfl) LEs.nil)) ?_)
          refine G_q rfl (op_assign (av := .exact (.int .i64 y33)) rfl ?_)
          refine G_nil ?_
          refine kC_normal ?_
          refine k_seq ?_
          refine k_seq ?_
          refine k_reg .free hmixP (by kernel_rfl) ?_
          refine G_q rfl (op_move (av := .exact (.int .i64 y33)) rfl ?_)
          refine G_q rfl (op_eql rfl rfl ?_)
          refine G_nil ?_
          refine kC_normal ?_
          refine k_cond_d (p := y33 = 0) rfl (fun hc => ?_) (fun hc => ?_)
          · replace h := ite_t h hc
            refine k_seq ?_
            refine k_reg .free hmixP (by kernel_rfl) ?_
            refine G_q rfl (op_assign (av := .exact (.int .i64 0)) rfl ?_)
            refine G_nil ?_
            refine kC_normal ?_
            refine k_ret ?_
            refine kC_ret ?_
            refine kB_ret ?_
            refine kC_ret ?_
            refine kI_ret ?_
            refine kB_ret ?_
            refine kI_ret ?_
            obtain rfl := Option.some.inj h
            refine kP_any (endN (af' := (AF.put AF0 (some 4) (.exact (.int .i64 0)))) (σ' := []) _ rfl ?_ ⟨rfl, rfl⟩)
            refine Sub.trans (SubU.to SubU.drop) ?_
            exact Sub.of_le (AF.le_put (AV.le_eq rfl) (AF.le_top _))
          · replace h := ite_f h hc
            refine k_skip ?_
            refine kC_normal ?_
            refine k_seq ?_
            refine k_reg .free hmixP (by kernel_rfl) ?_
            refine G_q rfl (op_move (av := .exact v6_l2) rfl ?_)
            refine G_q rfl (op_move (av := .exact (.string (bs a0))) rfl ?_)
            refine G_q rfl (op_move (av := .exact (.int .i64 x5_l2)) rfl ?_)
            refine G_q rfl (op_move (av := .exact (.int .i64 x5_l2)) rfl ?_)
            refine G_q rfl (op_move (av := .exact (.int .i64 y33)) rfl ?_)
            refine G_q rfl (op_add rfl rfl rfl ?_)
            obtain ⟨n34, h⟩ := need_some h
            refine G_q rfl (op_slice_str (by kernel_rfl) rfl (bnd_some rfl) (bnd_some rfl) n34.1 n34.2.1 n34.2.2 ?_)
            refine G_q rfl (op_litT (n := 1) (enc := c_api_Value) [List.take (Int.toNat (i64 (x5_l2 + y33)) - Int.toNat x5_l2) (List.drop (Int.toNat x5_l2) a0)] (CellsAll.cons rfl CellsOf.str CellsAll.nil) rfl (by kernel_rfl) (LEss.cons (LEs.cons (AV.le_eq rfl) LEs.nil) LEss.nil) ?_)
            obtain ⟨n35, h⟩ := need_some h
            refine G_l rfl (op_appT (by kernel_rfl) rfl rfl oc_c_api_Value n35 (fun v36 => ?_))
            refine G_q rfl (op_assign (av := .exact v36) rfl ?_)
            refine G_nil ?_
            refine kC_normal ?_
            refine k_reg .free hmixP (by kernel_rfl) ?_
            refine G_q rfl (op_move (av := .exact (.int .i64 x5_l2)) rfl ?_)
            refine G_q rfl (op_move (av := .exact (.int .i64 y33)) rfl ?_)
            refine G_q rfl (op_add rfl rfl rfl ?_)
            refine G_q rfl (op_assign (av := .exact (.int .i64 (i64 (x5_l2 + y33)))) rfl ?_)
            refine G_nil ?_
            refine kB_normal ?_
            refine kC_normal ?_
            refine k_reg .free hmixP (by kernel_rfl) ?_
            refine G_q rfl (op_add rfl rfl rfl ?_)
            refine G_q rfl (op_move (av := .exact (.int .i64 (i64 (x19_l2 + 1)))) rfl ?_)
            refine G_nil ?_
            refine kI_normal ⟨_, _, _, v36, h, ?_⟩
            exact Sub.of_le (AF.le_put (AV.le_eq rfl) (AF.le_put (AV.le_eq rfl) (AF.le_put (AV.le_eq rfl) (AF.le_put (AV.le_eq rfl) (AF.le_put (AV.le_eq rfl) (AF.le_put (AV.le_eq rfl) (AF.le_top _)))))))
        · replace h := ite_f h hc
          refine k_exit ?_
          refine kC_exit ?_
          refine kI_exit ?_
          refine kB_exit ?_
          refine kI_normal ⟨_, _, v6_l2, h, ?_⟩
          exact Sub.of_le (AF.le_put (AV.le_eq rfl) (AF.le_put (AV.le_eq rfl) (AF.le_put (AV.le_eq rfl) (AF.le_top _))))
    · refine k_seq ?_
      refine k_seq ?_
      refine k_reg .free hmixP (by kernel_rfl) ?_
      refine G_q rfl (op_move (av := .exact (.string (bs a0))) rfl ?_)
      obtain ⟨n37, h⟩ := need_some h
      refine G_q rfl (op_index_str (by kernel_rfl) rfl rfl n37.1 n37.2 ?_)
      refine G_q rfl (op_convInt (k := .i64) (r := (UInt8.toNat (gi a0 0) : Int)) (by kernel_rfl) rfl (wrap_u8 rfl _) ?_)
      refine G_q rfl (op_move (av := .exact v6_j1) rfl ?_)
      refine G_sub rfl (SubU.freezeT2 (s1 := 6) (s2 := 45) rfl rfl len_c_api_Value) ?_
      obtain ⟨y38, hy38, h⟩ := bnd1_some h
      refine G_q rfl (op_pure (m_value_formed_ok _ _ _ hy38) Tryz.func111 (by kernel_rfl) (LEs.cons (AV.le_eq rfl) (LEs.cons (AV.le_eq rfl) LEs.nil)) ?_)
      refine G_q rfl (op_not rfl ?_)
      refine G_nil ?_
      refine kC_normal ?_
      refine k_cond_b (c := !y38) rfl (fun hc => ?_) (fun hc => ?_)
      · replace h := ite_t h hc
        refine k_seq ?_
        refine k_reg .free hmixP (by kernel_rfl) ?_
        refine G_q rfl (op_assign (av := .exact (.int .i64 0)) rfl ?_)
        refine G_nil ?_
        refine kC_normal ?_
        refine k_ret ?_
        refine kC_ret ?_
        obtain rfl := Option.some.inj h
        refine kP_any (endN (af' := (AF.put AF0 (some 4) (.exact (.int .i64 0)))) (σ' := []) _ rfl ?_ ⟨rfl, rfl⟩)
        exact Sub.of_le (AF.le_put (AV.le_eq rfl) (AF.le_top _))
      · replace h := ite_f h hc
        refine k_skip ?_
        refine kC_normal ?_
        refine k_seq ?_
        refine k_reg .free hmixP (by kernel_rfl) ?_
        refine G_q rfl (op_move (av := .exact (.int .i64 x5_j1)) rfl ?_)
        refine G_q rfl (op_assign (av := .exact (.int .i64 x5_j1)) rfl ?_)
        refine G_nil ?_
        refine kC_normal ?_
        refine k_ret ?_
        obtain rfl := Option.some.inj h
        refine kP_any (endN (af' := (AF.put AF0 (some 4) (.exact (.int .i64 x5_j1)))) (σ' := []) _ rfl ?_ ⟨rfl, rfl⟩)
        exact Sub.of_le (AF.le_put (AV.le_eq rfl) (AF.le_top _))
set_option maxHeartbeats 4000000 in
theorem m_value_length_F_ok (self_value_length : (List UInt8) → Int → Option Int) (hself_value_length : ∀ (a0 : List UInt8) (a1 : Int) (r : Int), self_value_length a0 a1 = some r → Pure Tryz.prog 66 [(.exact (.string (bs a0))), (.exact (.int .i64 a1))] (.exact (.int .i64 r))) (a0 : List UInt8) (a1 : Int) (r : Int) (h : m_value_length_F self_value_length a0 a1 = some r) : Pure Tryz.prog 66 [(.exact (.string (bs a0))), (.exact (.int .i64 a1))] (.exact (.int .i64 r)) := by
  unfold m_value_length_F at h
  refine Pure.ofFun (fun_of_awp Tryz.func66 rfl Tryz.ntmps66 (by simp) rfl (res1 rfl) fun E hE => k_end ?_)
  refine k_seq ?_
  refine k_reg .free hmixP (by kernel_rfl) ?_
  refine G_q rfl (op_assign (av := .exact (.int .i64 0)) rfl ?_)
  refine G_nil ?_
  refine kC_normal ?_
  refine k_seq ?_
  refine k_join1_0 h (fun (x11_j3 : Bool) => (AF.put (AF.put (AF.put AF0 (some 0) (.exact (.string (bs a0)))) (some 1) (.exact (.int .i64 a1))) (some 11) (.exact (.bool x11_j3)))) (fun (x11_j3 : Bool) => []) (fun k3 h => ?_) (fun x11_j3 h => ?_)
  · refine k_reg .free hmixP (by kernel_rfl) ?_
    refine G_q rfl (op_move (av := .exact (.string (bs a0))) rfl ?_)
    refine G_q rfl (op_eqlS rfl rfl ?_)
    refine G_q rfl (op_move (av := .exact (.bool (decide (a0 = ([] : List UInt8))))) rfl ?_)
    refine G_split (p := a0 = ([] : List UInt8)) 8 rfl (fun hc => ?_) (fun hc => ?_)
    · replace h := ite_t h hc
      refine G_n rfl rfl ?_
      refine G_n rfl rfl ?_
      refine G_q rfl (op_pick_t rfl (av := .exact (.bool true)) rfl ?_)
      refine G_nil ?_
      refine kI_normal ⟨_, h, ?_⟩
      exact Sub.of_le (AF.le_put (AV.le_eq rfl) (AF.le_put (AV.le_eq rfl) (AF.le_put (AV.le_eq rfl) (AF.le_top _))))
    · replace h := ite_f h hc
      refine Gy_q rfl rfl rfl (op_move (av := .exact (.int .i64 a1)) rfl ?_)
      refine Gy_q rfl rfl rfl (op_gtr rfl rfl ?_)
      refine G_q rfl (op_pick_f rfl (av := .exact (.bool (decide (32 < a1)))) rfl ?_)
      refine G_nil ?_
      refine kI_normal ⟨_, h, ?_⟩
      exact Sub.of_le (AF.le_put (AV.le_eq rfl) (AF.le_put (AV.le_eq rfl) (AF.le_put (AV.le_eq rfl) (AF.le_top _))))
  · refine k_cond_b (c := x11_j3) rfl (fun hc => ?_) (fun hc => ?_)
    · replace h := ite_t h hc
      refine k_seq ?_
      refine k_reg .free hmixP (by kernel_rfl) ?_
      refine G_q rfl (op_assign (av := .exact (.int .i64 0)) rfl ?_)
      refine G_nil ?_
      refine kC_normal ?_
      refine k_ret ?_
      refine kC_ret ?_
      obtain rfl := Option.some.inj h
      refine kP_any (endN (af' := (AF.put AF0 (some 4) (.exact (.int .i64 0)))) (σ' := []) _ rfl ?_ ⟨rfl, rfl⟩)
      exact Sub.of_le (AF.le_put (AV.le_eq rfl) (AF.le_top _))
    · replace h := ite_f h hc
      refine k_skip ?_
      refine kC_normal ?_
      refine k_seq ?_
      refine k_reg .free hmixP (by kernel_rfl) ?_
      refine G_q rfl (op_assign (av := .exact (.int .i64 0)) rfl ?_)
      refine G_nil ?_
      refine kC_normal ?_
      refine k_join1_0 h (fun (x5_j4 : Int) => (AF.put (AF.put AF0 (some 0) (.exact (.string (bs a0)))) (some 5) (.exact (.int .i64 x5_j4)))) (fun (x5_j4 : Int) => []) (fun k4 h => ?_) (fun x5_j4 h => ?_)
      · refine k_seq ?_
        refine k_reg .free hmixP (by kernel_rfl) ?_
        refine G_q rfl (op_move (av := .exact (.string (bs a0))) rfl ?_)
        obtain ⟨n15, h⟩ := need_some h
        refine G_q rfl (op_index_str (by kernel_rfl) rfl rfl n15.1 n15.2 ?_)
        refine G_nil ?_
        refine kC_normal ?_
        refine k_block ?_
        refine k_seq ?_
        refine k_reg .free hmixP (by kernel_rfl) ?_
        refine G_q rfl (op_eqlU (a := (gi a0 0)) (b := 1) rfl rfl ?_)
        refine G_q rfl (op_assign (av := .exact (.bool (decide ((gi a0 0) = 1)))) rfl ?_)
        refine G_nil ?_
        refine kC_normal ?_
        refine k_cond_d (p := (gi a0 0) = 1) rfl (fun hc => ?_) (fun hc => ?_)
        · replace h := ite_t h hc
          refine k_reg .free hmixP (by kernel_rfl) ?_
          refine G_q rfl (op_assign (av := .exact (.int .i64 9)) rfl ?_)
          refine G_nil ?_
          refine kB_normal ?_
          refine kI_normal ⟨_, h, ?_⟩
          exact Sub.of_le (AF.le_put (AV.le_eq rfl) (AF.le_put (AV.le_eq rfl) (AF.le_top _)))
        · replace h := ite_f h hc
          refine k_seq ?_
          refine k_reg .free hmixP (by kernel_rfl) ?_
          refine G_q rfl (op_eqlU (a := (gi a0 0)) (b := 2) rfl rfl ?_)
          refine G_q rfl (op_assign (av := .exact (.bool (decide ((gi a0 0) = 2)))) rfl ?_)
          refine G_nil ?_
          refine kC_normal ?_
          refine k_cond_d (p := (gi a0 0) = 2) rfl (fun hc => ?_) (fun hc => ?_)
          · replace h := ite_t h hc
            refine k_seq ?_
            refine k_join1_0 h (fun (x25_j20 : Bool) => (AF.put (AF.put AF0 (some 0) (.exact (.string (bs a0)))) (some 25) (.exact (.bool x25_j20)))) (fun (x25_j20 : Bool) => []) (fun k20 h => ?_) (fun x25_j20 h => ?_)
            · refine k_reg .free hmixP (by kernel_rfl) ?_
              refine G_q rfl (op_move (av := .exact (.string (bs a0))) rfl ?_)
              refine G_q rfl (op_lenS (by kernel_rfl) rfl ?_)
              refine G_q rfl (op_lss rfl rfl ?_)
              refine G_q rfl (op_move (av := .exact (.bool (decide ((List.length a0 : Int) < 2)))) rfl ?_)
              refine G_split (p := (List.length a0 : Int) < 2) 21 rfl (fun hc => ?_) (fun hc => ?_)
              · replace h := ite_t h hc
                refine G_n rfl rfl ?_
                refine G_n rfl rfl ?_
                refine G_n rfl rfl ?_
                refine G_q rfl (op_pick_t rfl (av := .exact (.bool true)) rfl ?_)
                refine G_nil ?_
                refine kI_normal ⟨_, h, ?_⟩
                exact Sub.of_le (AF.le_put (AV.le_eq rfl) (AF.le_put (AV.le_eq rfl) (AF.le_top _)))
              · replace h := ite_f h hc
                refine Gy_q rfl rfl rfl (op_move (av := .exact (.string (bs a0))) rfl ?_)
                obtain ⟨n22, h⟩ := need_some h
                refine Gy_q rfl rfl rfl (op_index_str (by kernel_rfl) rfl rfl n22.1 n22.2 ?_)
                refine Gy_q rfl rfl rfl (op_gtrU (a := (gi a0 1)) (b := 1) rfl rfl ?_)
                refine G_q rfl (op_pick_f rfl (av := .exact (.bool (decide (1 < (gi a0 1))))) rfl ?_)
                refine G_nil ?_
                refine kI_normal ⟨_, h, ?_⟩
                exact Sub.of_le (AF.le_put (AV.le_eq rfl) (AF.le_put (AV.le_eq rfl) (AF.le_top _)))
            · refine k_cond_b (c := x25_j20) rfl (fun hc => ?_) (fun hc => ?_)
              · replace h := ite_t h hc
                refine k_seq ?_
                refine k_reg .free hmixP (by kernel_rfl) ?_
                refine G_q rfl (op_assign (av := .exact (.int .i64 0)) rfl ?_)
                refine G_nil ?_
                refine kC_normal ?_
                refine k_ret ?_
                refine kC_ret ?_
                refine kB_ret ?_
                refine kI_ret ?_
                obtain rfl := Option.some.inj h
                refine kP_any (endN (af' := (AF.put AF0 (some 4) (.exact (.int .i64 0)))) (σ' := []) _ rfl ?_ ⟨rfl, rfl⟩)
                exact Sub.of_le (AF.le_put (AV.le_eq rfl) (AF.le_top _))
              · replace h := ite_f h hc
                refine k_skip ?_
                refine kC_normal ?_
                refine k_reg .free hmixP (by kernel_rfl) ?_
                refine G_q rfl (op_assign (av := .exact (.int .i64 2)) rfl ?_)
                refine G_nil ?_
                refine kB_normal ?_
                refine kI_normal ⟨_, h, ?_⟩
                exact Sub.of_le (AF.le_put (AV.le_eq rfl) (AF.le_put (AV.le_eq rfl) (AF.le_top _)))
          · replace h := ite_f h hc
            refine k_seq ?_
            refine k_reg .free hmixP (by kernel_rfl) ?_
            refine G_q rfl (op_eqlU (a := (gi a0 0)) (b := 10) rfl rfl ?_)
            refine G_q rfl (op_assign (av := .exact (.bool (decide ((gi a0 0) = 10)))) rfl ?_)
            refine G_nil ?_
            refine kC_normal ?_
            refine k_cond_d (p := (gi a0 0) = 10) rfl (fun hc => ?_) (fun hc => ?_)
            · replace h := ite_t h hc
              refine k_reg .free hmixP (by kernel_rfl) ?_
              refine G_q rfl (op_assign (av := .exact (.int .i64 3)) rfl ?_)
              refine G_nil ?_
              refine kB_normal ?_
              refine kI_normal ⟨_, h, ?_⟩
              exact Sub.of_le (AF.le_put (AV.le_eq rfl) (AF.le_put (AV.le_eq rfl) (AF.le_top _)))
            · replace h := ite_f h hc
              refine k_join1_0 h (fun (x28_j23 : Bool) => (AF.put (AF.put (AF.put (AF.put AF0 (some 0) (.exact (.string (bs a0)))) (some 1) (.exact (.int .i64 a1))) (some 5) (.exact (.int .i64 0))) (some 28) (.exact (.bool x28_j23)))) (fun (x28_j23 : Bool) => []) (fun k23 h => ?_) (fun x28_j23 h => ?_)
              · refine k_seq ?_
                refine k_reg .free hmixP (by kernel_rfl) ?_
                refine G_q rfl (op_eqlU (a := (gi a0 0)) (b := 3) rfl rfl ?_)
                refine G_q rfl (op_assign (av := .exact (.bool (decide ((gi a0 0) = 3)))) rfl ?_)
                refine G_nil ?_
                refine kC_normal ?_
                refine k_cond_d (p := (gi a0 0) = 3) rfl (fun hc => ?_) (fun hc => ?_)
                · replace h := ite_t h hc
                  refine k_skip ?_
                  refine kI_normal ⟨_, h, ?_⟩
                  exact Sub.of_le (AF.le_put (AV.le_eq rfl) (AF.le_put (AV.le_eq rfl) (AF.le_put (AV.le_eq rfl) (AF.le_put (AV.le_eq rfl) (AF.le_top _)))))
                · replace h := ite_f h hc
                  refine k_seq ?_
                  refine k_reg .free hmixP (by kernel_rfl) ?_
                  refine G_q rfl (op_eqlU (a := (gi a0 0)) (b := 4) rfl rfl ?_)
                  refine G_q rfl (op_assign (av := .exact (.bool (decide ((gi a0 0) = 4)))) rfl ?_)
                  refine G_nil ?_
                  refine kC_normal ?_
                  refine k_cond_d (p := (gi a0 0) = 4) rfl (fun hc => ?_) (fun hc => ?_)
                  · replace h := ite_t h hc
                    refine k_skip ?_
                    refine kI_normal ⟨_, h, ?_⟩
                    exact Sub.of_le (AF.le_put (AV.le_eq rfl) (AF.le_put (AV.le_eq rfl) (AF.le_put (AV.le_eq rfl) (AF.le_put (AV.le_eq rfl) (AF.le_top _)))))
                  · replace h := ite_f h hc
                    refine k_seq ?_
                    refine k_reg .free hmixP (by kernel_rfl) ?_
                    refine G_q rfl (op_eqlU (a := (gi a0 0)) (b := 5) rfl rfl ?_)
                    refine G_q rfl (op_assign (av := .exact (.bool (decide ((gi a0 0) = 5)))) rfl ?_)
                    refine G_nil ?_
                    refine kC_normal ?_
                    refine k_cond_d (p := (gi a0 0) = 5) rfl (fun hc => ?_) (fun hc => ?_)
                    · replace h := ite_t h hc
                      refine k_skip ?_
                      refine kI_normal ⟨_, h, ?_⟩
                      exact Sub.of_le (AF.le_put (AV.le_eq rfl) (AF.le_put (AV.le_eq rfl) (AF.le_put (AV.le_eq rfl) (AF.le_put (AV.le_eq rfl) (AF.le_top _)))))
                    · replace h := ite_f h hc
                      refine k_seq ?_
                      refine k_reg .free hmixP (by kernel_rfl) ?_
                      refine G_q rfl (op_eqlU (a := (gi a0 0)) (b := 6) rfl rfl ?_)
                      refine G_q rfl (op_assign (av := .exact (.bool (decide ((gi a0 0) = 6)))) rfl ?_)
                      refine G_nil ?_
                      refine kC_normal ?_
                      refine k_cond_d (p := (gi a0 0) = 6) rfl (fun hc => ?_) (fun hc => ?_)
                      · replace h := ite_t h hc
                        refine k_skip ?_
                        refine kI_normal ⟨_, h, ?_⟩
                        exact Sub.of_le (AF.le_put (AV.le_eq rfl) (AF.le_put (AV.le_eq rfl) (AF.le_put (AV.le_eq rfl) (AF.le_put (AV.le_eq rfl) (AF.le_top _)))))
                      · replace h := ite_f h hc
                        refine k_seq ?_
                        refine k_reg .free hmixP (by kernel_rfl) ?_
                        refine G_q rfl (op_eqlU (a := (gi a0 0)) (b := 7) rfl rfl ?_)
                        refine G_q rfl (op_assign (av := .exact (.bool (decide ((gi a0 0) = 7)))) rfl ?_)
                        refine G_nil ?_
                        refine kC_normal ?_
                        refine k_cond_d (p := (gi a0 0) = 7) rfl (fun hc => ?_) (fun hc => ?_)
                        · replace h := ite_t h hc
                          refine k_skip ?_
                          refine kI_normal ⟨_, h, ?_⟩
                          exact Sub.of_le (AF.le_put (AV.le_eq rfl) (AF.le_put (AV.le_eq rfl) (AF.le_put (AV.le_eq rfl) (AF.le_put (AV.le_eq rfl) (AF.le_top _)))))
                        · replace h := ite_f h hc
                          refine k_seq ?_
                          refine k_reg .free hmixP (by kernel_rfl) ?_
                          refine G_q rfl (op_eqlU (a := (gi a0 0)) (b := 8) rfl rfl ?_)
                          refine G_q rfl (op_assign (av := .exact (.bool (decide ((gi a0 0) = 8)))) rfl ?_)
                          refine G_nil ?_
                          refine kC_normal ?_
                          refine k_cond_d (p := (gi a0 0) = 8) rfl (fun hc => ?_) (fun hc => ?_)
                          · replace h := ite_t h hc
                            refine k_skip ?_
                            refine kI_normal ⟨_, h, ?_⟩
                            exact Sub.of_le (AF.le_put (AV.le_eq rfl) (AF.le_put (AV.le_eq rfl) (AF.le_put (AV.le_eq rfl) (AF.le_put (AV.le_eq rfl) (AF.le_top _)))))
                          · replace h := ite_f h hc
                            refine k_reg .free hmixP (by kernel_rfl) ?_
                            refine G_q rfl (op_eqlU (a := (gi a0 0)) (b := 9) rfl rfl ?_)
                            refine G_q rfl (op_assign (av := .exact (.bool (decide ((gi a0 0) = 9)))) rfl ?_)
                            refine G_nil ?_
                            refine kI_normal ⟨_, h, ?_⟩
                            exact Sub.of_le (AF.le_put (AV.le_eq rfl) (AF.le_put (AV.le_eq rfl) (AF.le_put (AV.le_eq rfl) (AF.le_put (AV.le_eq rfl) (AF.le_top _)))))
              · refine k_cond_b (c := x28_j23) rfl (fun hc => ?_) (fun hc => ?_)
                · replace h := ite_t h hc
                  refine k_seq ?_
                  refine k_reg .free hmixP (by kernel_rfl) ?_
                  refine G_q rfl (op_move (av := .exact (.string (bs a0))) rfl ?_)
                  refine G_q rfl (op_move (av := .exact (.int .i64 a1)) rfl ?_)
                  obtain ⟨y24, hy24, h⟩ := bnd1_some h
                  refine G_q rfl (op_pure (m_value_long_ok self_value_length hself_value_length _ _ _ hy24) Tryz.func91 (by kernel_rfl) (LEs.cons (AV.le_eq rfl) (LEs.cons (AV.le_eq rfl) LEs.nil)) ?_)
                  refine G_q rfl (op_assign (av := .exact (.int .i64 y24)) rfl ?_)
                  refine G_nil ?_
                  refine kC_normal ?_
                  refine k_ret ?_
                  refine kB_ret ?_
                  refine kI_ret ?_
                  obtain rfl := Option.some.inj h
                  refine kP_any (endN (af' := (AF.put AF0 (some 4) (.exact (.int .i64 y24)))) (σ' := []) _ rfl ?_ ⟨rfl, rfl⟩)
                  exact Sub.of_le (AF.le_put (AV.le_eq rfl) (AF.le_top _))
                · replace h := ite_f h hc
                  refine k_skip ?_
                  refine kB_normal ?_
                  refine kI_normal ⟨_, h, ?_⟩
                  exact Sub.of_le (AF.le_put (AV.le_eq rfl) (AF.le_put (AV.le_eq rfl) (AF.le_top _)))
      · refine k_seq ?_
        refine k_seq ?_
        refine k_reg .free hmixP (by kernel_rfl) ?_
        refine G_q rfl (op_move (av := .exact (.int .i64 x5_j4)) rfl ?_)
        refine G_q rfl (op_move (av := .exact (.string (bs a0))) rfl ?_)
        refine G_q rfl (op_lenS (by kernel_rfl) rfl ?_)
        refine G_q rfl (op_gtr rfl rfl ?_)
        refine G_nil ?_
        refine kC_normal ?_
        refine k_cond_d (p := (List.length a0 : Int) < x5_j4) rfl (fun hc => ?_) (fun hc => ?_)
        · replace h := ite_t h hc
          refine k_seq ?_
          refine k_reg .free hmixP (by kernel_rfl) ?_
          refine G_q rfl (op_assign (av := .exact (.int .i64 0)) rfl ?_)
          refine G_nil ?_
          refine kC_normal ?_
          refine k_ret ?_
          refine kC_ret ?_
          obtain rfl := Option.some.inj h
          refine kP_any (endN (af' := (AF.put AF0 (some 4) (.exact (.int .i64 0)))) (σ' := []) _ rfl ?_ ⟨rfl, rfl⟩)
          exact Sub.of_le (AF.le_put (AV.le_eq rfl) (AF.le_top _))
        · replace h := ite_f h hc
          refine k_skip ?_
          refine kC_normal ?_
          refine k_seq ?_
          refine k_reg .free hmixP (by kernel_rfl) ?_
          refine G_q rfl (op_move (av := .exact (.int .i64 x5_j4)) rfl ?_)
          refine G_q rfl (op_assign (av := .exact (.int .i64 x5_j4)) rfl ?_)
          refine G_nil ?_
          refine kC_normal ?_
          refine k_ret ?_
          obtain rfl := Option.some.inj h
          refine kP_any (endN (af' := (AF.put AF0 (some 4) (.exact (.int .i64 x5_j4)))) (σ' := []) _ rfl ?_ ⟨rfl, rfl⟩)
          exact Sub.of_le (AF.le_put (AV.le_eq rfl) (AF.le_top _))
set_option maxHeartbeats 4000000 in
theorem m_value_length_S_ok : ∀ n : Nat, (∀ (a0 : List UInt8) (a1 : Int) (r : Int), m_value_length_S n a0 a1 = some r → Pure Tryz.prog 66 [(.exact (.string (bs a0))), (.exact (.int .i64 a1))] (.exact (.int .i64 r)))
  | 0 => (fun _ _ _ h => by have h' : (none : Option _) = some _ := h; cases h')
  | n + 1 => by
    have ih := m_value_length_S_ok n
    exact fun a0 a1 r h => m_value_length_F_ok (m_value_length_S n) ih a0 a1 r h
theorem m_value_length_ok (a0 : List UInt8) (a1 : Int) (r : Int) (h : m_value_length a0 a1 = some r) : Pure Tryz.prog 66 [(.exact (.string (bs a0))), (.exact (.int .i64 a1))] (.exact (.int .i64 r)) := (m_value_length_S_ok FU) a0 a1 r h
set_option maxHeartbeats 4000000 in
theorem m_value_Valid_ok (a0 : List UInt8) (r : Bool) (h : m_value_Valid a0 = some r) : Pure Tryz.prog 43 [(.exact (.string (bs a0)))] (.exact (.bool r)) := by
  unfold m_value_Valid at h
  refine Pure.ofFun (fun_of_awp Tryz.func43 rfl Tryz.ntmps43 (by simp) rfl (res1 rfl) fun E hE => k_end ?_)
  refine k_seq ?_
  refine k_reg .free hmixP (by kernel_rfl) ?_
  refine G_q rfl (op_assign (av := .exact (.bool false)) rfl ?_)
  refine G_nil ?_
  refine kC_normal ?_
  refine k_join1_0 h (fun (x2_j1 : Bool) => (AF.put AF0 (some 2) (.exact (.bool x2_j1)))) (fun (x2_j1 : Bool) => []) (fun k1 h => ?_) (fun x2_j1 h => ?_)
  · refine k_reg .free hmixP (by kernel_rfl) ?_
    refine G_q rfl (op_move (av := .exact (.string (bs a0))) rfl ?_)
    refine G_q rfl (op_neqS rfl rfl ?_)
    refine G_q rfl (op_move (av := .exact (.bool (decide (¬ a0 = ([] : List UInt8))))) rfl ?_)
    refine G_split (p := ¬ a0 = ([] : List UInt8)) 5 rfl (fun hc => ?_) (fun hc => ?_)
    · replace h := ite_t h hc
      refine Gy_q rfl rfl rfl (op_move (av := .exact (.string (bs a0))) rfl ?_)
      refine Gy_q rfl rfl rfl (op_lenS (by kernel_rfl) rfl ?_)
      refine Gy_q rfl rfl rfl (op_leq rfl rfl ?_)
      refine G_q rfl (op_pick_t rfl (av := .exact (.bool (decide ((List.length a0 : Int) ≤ 131072)))) rfl ?_)
      refine G_q rfl (op_move (av := .exact (.bool (decide ((List.length a0 : Int) ≤ 131072)))) rfl ?_)
      refine G_split (p := (List.length a0 : Int) ≤ 131072) 10 rfl (fun hc => ?_) (fun hc => ?_)
      · replace h := ite_t h hc
        refine Gy_q rfl rfl rfl (op_move (av := .exact (.string (bs a0))) rfl ?_)
        obtain ⟨y3, hy3, h⟩ := bnd1_some h
        refine Gy_q rfl rfl rfl (op_pure (m_value_length_ok _ _ _ hy3) Tryz.func66 (by kernel_rfl) (LEs.cons (AV.le_eq rfl) (LEs.cons (AV.le_eq rfl) LEs.nil)) ?_)
        refine Gy_q rfl rfl rfl (op_move (av := .exact (.string (bs a0))) rfl ?_)
        refine Gy_q rfl rfl rfl (op_lenS (by kernel_rfl) rfl ?_)
        refine Gy_q rfl rfl rfl (op_eql rfl rfl ?_)
        refine G_q rfl (op_pick_t rfl (av := .exact (.bool (decide (y3 = (List.length a0 : Int))))) rfl ?_)
        refine G_q rfl (op_assign (av := .exact (.bool (decide (y3 = (List.length a0 : Int))))) rfl ?_)
        refine G_nil ?_
        refine kI_normal ⟨_, h, ?_⟩
        exact Sub.of_le (AF.le_put (AV.le_eq rfl) (AF.le_top _))
      · replace h := ite_f h hc
        refine G_n rfl rfl ?_
        refine G_n rfl rfl ?_
        refine G_n rfl rfl ?_
        refine G_n rfl rfl ?_
        refine G_n rfl rfl ?_
        refine G_q rfl (op_pick_f rfl (av := .exact (.bool false)) rfl ?_)
        refine G_q rfl (op_assign (av := .exact (.bool false)) rfl ?_)
        refine G_nil ?_
        refine kI_normal ⟨_, h, ?_⟩
        exact Sub.of_le (AF.le_put (AV.le_eq rfl) (AF.le_top _))
    · replace h := ite_f h hc
      refine G_n rfl rfl ?_
      refine G_n rfl rfl ?_
      refine G_n rfl rfl ?_
      refine G_q rfl (op_pick_f rfl (av := .exact (.bool false)) rfl ?_)
      refine G_q rfl (op_move (av := .exact (.bool false)) rfl ?_)
      refine G_n rfl rfl ?_
      refine G_n rfl rfl ?_
      refine G_n rfl rfl ?_
      refine G_n rfl rfl ?_
      refine G_n rfl rfl ?_
      refine G_q rfl (op_pick_f rfl (av := .exact (.bool false)) rfl ?_)
      refine G_q rfl (op_assign (av := .exact (.bool false)) rfl ?_)
      refine G_nil ?_
      refine kI_normal ⟨_, h, ?_⟩
      exact Sub.of_le (AF.le_put (AV.le_eq rfl) (AF.le_top _))
  · refine k_ret ?_
    obtain rfl := Option.some.inj h
    refine kP_any (endN (af' := (AF.put AF0 (some 2) (.exact (.bool x2_j1)))) (σ' := []) _ rfl ?_ ⟨rfl, rfl⟩)
    exact Sub.of_le (AF.le_put (AV.le_eq rfl) (AF.le_top _))
set_option maxHeartbeats 4000000 in
theorem m_value_Compare_ok (a0 : List UInt8) (a1 : List UInt8) (r : Int) (h : m_value_Compare a0 a1 = some r) : Pure Tryz.prog 10 [(.exact (.string (bs a0))), (.exact (.string (bs a1)))] (.exact (.int .i64 r)) := by
  unfold m_value_Compare at h
  refine Pure.ofFun (fun_of_awp Tryz.func10 rfl Tryz.ntmps10 (by simp) rfl (res1 rfl) fun E hE => k_end ?_)
  refine k_seq ?_
  refine k_reg .free hmixP (by kernel_rfl) ?_
  refine G_q rfl (op_assign (av := .exact (.int .i64 0)) rfl ?_)
  refine G_nil ?_
  refine kC_normal ?_
  refine k_seq ?_
  refine k_seq ?_
  refine k_reg .free hmixP (by kernel_rfl) ?_
  refine G_q rfl (op_move (av := .exact (.string (bs a0))) rfl ?_)
  obtain ⟨y6, hy6, h⟩ := bnd1_some h
  refine G_q rfl (op_pure (m_value_Valid_ok _ _ hy6) Tryz.func43 (by kernel_rfl) (LEs.cons (AV.le_eq rfl) LEs.nil) ?_)
  refine G_q rfl (op_move (av := .exact (.string (bs a1))) rfl ?_)
  obtain ⟨y7, hy7, h⟩ := bnd1_some h
  refine G_q rfl (op_pure (m_value_Valid_ok _ _ hy7) Tryz.func43 (by kernel_rfl) (LEs.cons (AV.le_eq rfl) LEs.nil) ?_)
  refine G_q rfl (op_assign (av := .exact (.bool y6)) rfl ?_)
  refine G_q rfl (op_assign (av := .exact (.bool y7)) rfl ?_)
  refine G_nil ?_
  refine kC_normal ?_
  refine k_block ?_
  refine k_join1_0 h (fun (x11_j8 : Bool) => (AF.put (AF.put (AF.put (AF.put (AF.put AF0 (some 0) (.exact (.string (bs a0)))) (some 1) (.exact (.string (bs a1)))) (some 5) (.exact (.bool y6))) (some 6) (.exact (.bool y7))) (some 11) (.exact (.bool x11_j8)))) (fun (x11_j8 : Bool) => []) (fun k8 h => ?_) (fun x11_j8 h => ?_)
  · refine k_reg .free hmixP (by kernel_rfl) ?_
    refine G_q rfl (op_move (av := .exact (.bool y6)) rfl ?_)
    refine G_q rfl (op_move (av := .exact (.bool y6)) rfl ?_)
    refine G_splitB (c := y6) 13 rfl (fun hc => ?_) (fun hc => ?_)
    · replace h := ite_t h hc
      refine Gy_q rfl rfl rfl (op_move (av := .exact (.bool y7)) rfl ?_)
      refine G_q rfl (op_pick_t rfl (av := .exact (.bool y7)) rfl ?_)
      refine G_q rfl (op_assign (av := .exact (.bool y7)) rfl ?_)
      refine G_nil ?_
      refine kI_normal ⟨_, h, ?_⟩
      exact Sub.of_le (AF.le_put (AV.le_eq rfl) (AF.le_put (AV.le_eq rfl) (AF.le_put (AV.le_eq rfl) (AF.le_put (AV.le_eq rfl) (AF.le_put (AV.le_eq rfl) (AF.le_top _))))))
    · replace h := ite_f h hc
      refine G_n rfl rfl ?_
      refine G_q rfl (op_pick_f rfl (av := .exact (.bool false)) rfl ?_)
      refine G_q rfl (op_assign (av := .exact (.bool false)) rfl ?_)
      refine G_nil ?_
      refine kI_normal ⟨_, h, ?_⟩
      exact Sub.of_le (AF.le_put (AV.le_eq rfl) (AF.le_put (AV.le_eq rfl) (AF.le_put (AV.le_eq rfl) (AF.le_put (AV.le_eq rfl) (AF.le_put (AV.le_eq rfl) (AF.le_top _))))))
  · refine k_cond_b (c := x11_j8) rfl (fun hc => ?_) (fun hc => ?_)
    · replace h := ite_t h hc
      refine k_seq ?_
      refine k_reg .free hmixP (by kernel_rfl) ?_
      refine G_q rfl (op_move (av := .exact (.string (bs a0))) rfl ?_)
      refine G_q rfl (op_move (av := .exact (.string (bs a1))) rfl ?_)
      obtain ⟨y9, hy9, h⟩ := bnd1_some h
      refine G_q rfl (op_pure (m_value_compare_ok _ _ _ hy9) Tryz.func44 (by kernel_rfl) (LEs.cons (AV.le_eq rfl) (LEs.cons (AV.le_eq rfl) LEs.nil)) ?_)
      refine G_q rfl (op_assign (av := .exact (.int .i64 y9)) rfl ?_)
      refine G_nil ?_
      refine kC_normal ?_
      refine k_ret ?_
      refine kB_ret ?_
      refine kC_ret ?_
      obtain rfl := Option.some.inj h
      refine kP_any (endN (af' := (AF.put AF0 (some 4) (.exact (.int .i64 y9)))) (σ' := []) _ rfl ?_ ⟨rfl, rfl⟩)
      exact Sub.of_le (AF.le_put (AV.le_eq rfl) (AF.le_top _))
    · replace h := ite_f h hc
      refine k_seq ?_
      refine k_reg .free hmixP (by kernel_rfl) ?_
      refine G_q rfl (op_move (av := .exact (.bool y6)) rfl ?_)
      refine G_q rfl (op_assign (av := .exact (.bool y6)) rfl ?_)
      refine G_nil ?_
      refine kC_normal ?_
      refine k_cond_b (c := y6) rfl (fun hc => ?_) (fun hc => ?_)
      · replace h := ite_t h hc
        refine k_seq ?_
        refine k_reg .free hmixP (by kernel_rfl) ?_
        refine G_q rfl (op_assign (av := .exact (.int .i64 1)) rfl ?_)
        refine G_nil ?_
        refine kC_normal ?_
        refine k_ret ?_
        refine kB_ret ?_
        refine kC_ret ?_
        obtain rfl := Option.some.inj h
        refine kP_any (endN (af' := (AF.put AF0 (some 4) (.exact (.int .i64 1)))) (σ' := []) _ rfl ?_ ⟨rfl, rfl⟩)
        exact Sub.of_le (AF.le_put (AV.le_eq rfl) (AF.le_top _))
      · replace h := ite_f h hc
        refine k_seq ?_
        refine k_reg .free hmixP (by kernel_rfl) ?_
        refine G_q rfl (op_move (av := .exact (.bool y7)) rfl ?_)
        refine G_q rfl (op_assign (av := .exact (.bool y7)) rfl ?_)
        refine G_nil ?_
        refine kC_normal ?_
        refine k_cond_b (c := y7) rfl (fun hc => ?_) (fun hc => ?_)
        · replace h := ite_t h hc
          refine k_seq ?_
          refine k_reg .free hmixP (by kernel_rfl) ?_
          refine G_q rfl (op_assign (av := .exact (.int .i64 (-1))) rfl ?_)
          refine G_nil ?_
          refine kC_normal ?_
          refine k_ret ?_
          refine kB_ret ?_
          refine kC_ret ?_
          obtain rfl := Option.some.inj h
          refine kP_any (endN (af' := (AF.put AF0 (some 4) (.exact (.int .i64 (-1))))) (σ' := []) _ rfl ?_ ⟨rfl, rfl⟩)
          exact Sub.of_le (AF.le_put (AV.le_eq rfl) (AF.le_top _))
        · replace h := ite_f h hc
          refine k_skip ?_
          refine kB_normal ?_
          refine kC_normal ?_
          refine k_seq ?_
          refine k_reg .free hmixP (by kernel_rfl) ?_
          refine G_q rfl (op_move (av := .exact (.string (bs a0))) rfl ?_)
          refine G_q rfl (op_move (av := .exact (.string (bs a1))) rfl ?_)
          obtain ⟨y10, hy10, h⟩ := bnd1_some h
          refine G_q rfl (op_pure (m_cmp_Compare_api_Value_ok _ _ _ hy10) Tryz.func45 (by kernel_rfl) (LEs.cons (AV.le_eq rfl) (LEs.cons (AV.le_eq rfl) LEs.nil)) ?_)
          refine G_q rfl (op_assign (av := .exact (.int .i64 y10)) rfl ?_)
          refine G_nil ?_
          refine kC_normal ?_
          refine k_ret ?_
          obtain rfl := Option.some.inj h
          refine kP_any (endN (af' := (AF.put AF0 (some 4) (.exact (.int .i64 y10)))) (σ' := []) _ rfl ?_ ⟨rfl, rfl⟩)
          exact Sub.of_le (AF.le_put (AV.le_eq rfl) (AF.le_top _))
set_option maxHeartbeats 4000000 in
theorem m_slices_Compact_L_api_Value_api_Value_ok {w0 : Value} (a0 : List (List UInt8)) (r : (List (List UInt8))) (h : m_slices_Compact_L_api_Value_api_Value a0 = some r) : Fun Tryz.prog 83 [(.exact w0)] [vecT Tryz.prog 27 1 c_api_Value w0 a0] (fun a s => a = .row 1 c_api_Value r ∧ s = []) := by
  unfold m_slices_Compact_L_api_Value_api_Value at h
  refine fun_of_awp Tryz.func83 rfl Tryz.ntmps83 (by simp) rfl (res1 rfl) fun E hE => k_end ?_
  refine k_seq ?_
  refine k_reg .free hmixP (by kernel_rfl) ?_
  refine G_q rfl (op_assign (av := .exact (.slice none 0 0)) rfl ?_)
  refine G_nil ?_
  refine kC_normal ?_
  refine k_seq ?_
  refine k_seq ?_
  refine k_reg .free hmixP (by kernel_rfl) ?_
  refine G_q rfl (op_move (av := .exact w0) rfl ?_)
  refine G_r rfl (op_len_vec (by kernel_rfl) rfl ?_)
  refine G_q rfl (op_lss rfl rfl ?_)
  refine G_nil ?_
  refine kC_normal ?_
  refine k_cond_d (p := (List.length a0 : Int) < 2) rfl (fun hc => ?_) (fun hc => ?_)
  · replace h := ite_t h hc
    refine k_seq ?_
    refine k_reg .free hmixP (by kernel_rfl) ?_
    refine G_q rfl (op_move (av := .exact w0) rfl ?_)
    refine G_q rfl (op_assign (av := .exact w0) rfl ?_)
    refine G_nil ?_
    refine kC_normal ?_
    refine k_ret ?_
    refine kC_ret ?_
    obtain rfl := Option.some.inj h
    refine kP_any (endN (af' := (AF.put AF0 (some 2) (.row 1 c_api_Value a0))) (σ' := []) _ rfl ?_ ⟨rfl, rfl⟩)
    refine Sub.trans (SubU.to (SubU.freezeT (s := 2) rfl len_c_api_Value)) ?_
    exact Sub.of_le (AF.le_put (AV.le_eq rfl) (AF.le_top _))
  · replace h := ite_f h hc
    refine k_skip ?_
    refine kC_normal ?_
    refine k_join0_0 h ((AF.put AF0 (some 0) (.exact w0))) ([vecT Tryz.prog 27 1 c_api_Value w0 a0]) (fun k1 h => ?_) (fun  h => ?_)
    · refine k_seq ?_
      refine k_reg .free hmixP (by kernel_rfl) ?_
      refine G_q rfl (op_assign (av := .exact (.int .i64 1)) rfl ?_)
      refine G_nil ?_
      refine kC_normal ?_
      refine k_block ?_
      refine k_loop1_0 (m_slices_Compact_L_api_Value_api_Value_L14 a0 k1) (m_slices_Compact_L_api_Value_api_Value_B14 a0 k1) (fun _ => rfl) (fun m _ => rfl) h (fun (x3_l14 : Int) => (AF.put (AF.put AF0 (some 0) (.exact w0)) (some 3) (.exact (.int .i64 x3_l14)))) (fun (x3_l14 : Int) => [vecT Tryz.prog 27 1 c_api_Value w0 a0]) ?_ (fun rec14 x3_l14 h => ?_)
      · exact Sub.of_le (AF.le_put (AV.le_eq rfl) (AF.le_put (AV.le_eq rfl) (AF.le_top _)))
      · unfold m_slices_Compact_L_api_Value_api_Value_B14 at h
        refine k_seq ?_
        refine k_seq ?_
        refine k_reg .free hmixP (by kernel_rfl) ?_
        refine G_q rfl (op_move (av := .exact (.int .i64 x3_l14)) rfl ?_)
        refine G_q rfl (op_move (av := .exact w0) rfl ?_)
        refine G_r rfl (op_len_vec (by kernel_rfl) rfl ?_)
        refine G_q rfl (op_lss rfl rfl ?_)
        refine G_nil ?_
        refine kC_normal ?_
        refine k_cond_d (p := x3_l14 < (List.length a0 : Int)) rfl (fun hc => ?_) (fun hc => ?_)
        · replace h := ite_t h hc
          refine k_skip ?_
          refine kC_normal ?_
          refine k_join0_0 h ((AF.put (AF.put AF0 (some 0) (.exact w0)) (some 3) (.exact (.int .i64 x3_l14)))) ([vecT Tryz.prog 27 1 c_api_Value w0 a0]) (fun k628 h => ?_) (fun  h => ?_)
          · refine k_block ?_
            refine k_seq ?_
            refine k_plan [] [(0, 0), (0, 1), (0, 4), (0, 5), (0, 6), (1, 2), (1, 3), (1, 7), (1, 8), (0, 9)] hmixP (by kernel_rfl) ?_
            refine P_q no34_0 rfl (op_move (av := .exact w0) rfl ?_)
            refine P_q no34_0 rfl (op_move (av := .exact (.int .i64 x3_l14)) rfl ?_)
            refine P_q no34_0 rfl (op_move (av := .exact w0) rfl ?_)
            refine P_q no34_0 rfl (op_move (av := .exact (.int .i64 x3_l14)) rfl ?_)
            refine P_q no34_0 rfl (op_sub rfl rfl rfl ?_)
            obtain ⟨n691, h⟩ := need_some h
            refine P_r rfl (op_index_vec (by kernel_rfl) rfl rfl n691.1 n691.2 ?_)
            refine P_r rfl (op_load_vec1 (i := x3_l14) (o := 0) (a := .exact (.string (bs (gi a0 x3_l14)))) (by kernel_rfl) len_c_api_Value rfl n691.1 n691.2 rfl ?_)
            obtain ⟨n692, h⟩ := need_some h
            refine P_r rfl (op_index_vec (by kernel_rfl) rfl rfl n692.1 n692.2 ?_)
            refine P_r rfl (op_load_vec1 (i := i64 (x3_l14 - 1)) (o := 0) (a := .exact (.string (bs (gi a0 (i64 (x3_l14 - 1)))))) (by kernel_rfl) len_c_api_Value rfl n692.1 n692.2 rfl ?_)
            refine P_q no34_0 rfl (op_eqlS rfl rfl ?_)
            refine P_nil ?_
            refine kC_normal ?_
            refine k_cond_d (p := (gi a0 x3_l14) = (gi a0 (i64 (x3_l14 - 1)))) rfl (fun hc => ?_) (fun hc => ?_)
            · replace h := ite_t h hc
              refine k_seq ?_
              refine k_reg .free hmixP (by kernel_rfl) ?_
              refine G_q rfl (op_move (av := .exact w0) rfl ?_)
              refine G_q rfl (op_move (av := .exact (.int .i64 x3_l14)) rfl ?_)
              obtain ⟨n693, h⟩ := need_some h
              refine G_r rfl (op_slice_vec (by kernel_rfl) rfl (bnd_some rfl) bnd_none n693.1 n693.2.1 n693.2.2 ?_)
              refine G_q rfl (op_assign (av := .vsub w0 1 (Int.toNat x3_l14) (Int.toNat (List.length a0 : Int) - Int.toNat x3_l14)) rfl ?_)
              refine G_nil ?_
              refine kC_normal ?_
              refine k_join2_0 h (fun (x0_j694 : List (List UInt8)) (x3_j694 : Int) => (AF.put (AF.put AF0 (some 0) (.exact w0)) (some 3) (.exact (.int .i64 x3_j694)))) (fun (x0_j694 : List (List UInt8)) (x3_j694 : Int) => [vecT Tryz.prog 27 1 c_api_Value w0 x0_j694]) (fun k694 h => ?_) (fun x0_j694 x3_j694 h => ?_)
              · refine k_seq ?_
                refine k_reg .free hmixP (by kernel_rfl) ?_
                refine G_q rfl (op_assign (av := .exact (.int .i64 1)) rfl ?_)
                refine G_nil ?_
                refine kC_normal ?_
                refine k_block ?_
                refine k_loop3_0 (m_slices_Compact_L_api_Value_api_Value_L26 a0 x3_l14 k694) (m_slices_Compact_L_api_Value_api_Value_B26 a0 x3_l14 k694) (fun _ _ _ => rfl) (fun m _ _ _ => rfl) h (fun (x0_l26 : List (List UInt8)) (x3_l26 : Int) (x5_l26 : Int) => (AF.put (AF.put (AF.put (AF.put AF0 (some 0) (.exact w0)) (some 3) (.exact (.int .i64 x3_l26))) (some 4) (.vsub w0 1 (Int.toNat x3_l14) (Int.toNat (List.length a0 : Int) - Int.toNat x3_l14))) (some 5) (.exact (.int .i64 x5_l26)))) (fun (x0_l26 : List (List UInt8)) (x3_l26 : Int) (x5_l26 : Int) => [vecT Tryz.prog 27 1 c_api_Value w0 x0_l26]) ?_ (fun rec26 x0_l26 x3_l26 x5_l26 h => ?_)
                · exact Sub.of_le (AF.le_put (AV.le_eq rfl) (AF.le_put (AV.le_eq rfl) (AF.le_put (AV.le_eq rfl) (AF.le_put (AV.le_eq rfl) (AF.le_top _)))))
                · unfold m_slices_Compact_L_api_Value_api_Value_B26 at h
                  refine k_seq ?_
                  refine k_seq ?_
                  refine k_reg .free hmixP (by kernel_rfl) ?_
                  refine G_q rfl (op_move (av := .exact (.int .i64 x5_l26)) rfl ?_)
                  refine G_q rfl (op_move (av := .vsub w0 1 (Int.toNat x3_l14) (Int.toNat (List.length a0 : Int) - Int.toNat x3_l14)) rfl ?_)
                  refine G_q rfl (op_len_vsub (by kernel_rfl) rfl ?_)
                  refine G_q rfl (op_lss rfl rfl ?_)
                  refine G_nil ?_
                  refine kC_normal ?_
                  refine k_cond_d (p := x5_l26 < ((Int.toNat (List.length a0 : Int) - Int.toNat x3_l14 : Nat) : Int)) rfl (fun hc => ?_) (fun hc => ?_)
                  · replace h := ite_t h hc
                    refine k_skip ?_
                    refine kC_normal ?_
                    refine k_join2_0 h (fun (x0_j741 : List (List UInt8)) (x3_j741 : Int) => (AF.put (AF.put (AF.put (AF.put AF0 (some 0) (.exact w0)) (some 3) (.exact (.int .i64 x3_j741))) (some 4) (.vsub w0 1 (Int.toNat x3_l14) (Int.toNat (List.length a0 : Int) - Int.toNat x3_l14))) (some 5) (.exact (.int .i64 x5_l26)))) (fun (x0_j741 : List (List UInt8)) (x3_j741 : Int) => [vecT Tryz.prog 27 1 c_api_Value w0 x0_j741]) (fun k741 h => ?_) (fun x0_j741 x3_j741 h => ?_)
                    · refine k_block ?_
                      refine k_seq ?_
                      refine k_plan [] [(0, 0), (0, 1), (0, 4), (0, 5), (0, 6), (1, 2), (1, 3), (1, 7), (1, 8), (0, 9)] hmixP (by kernel_rfl) ?_
                      refine P_q no34_0 rfl (op_move (av := .vsub w0 1 (Int.toNat x3_l14) (Int.toNat (List.length a0 : Int) - Int.toNat x3_l14)) rfl ?_)
                      refine P_q no34_0 rfl (op_move (av := .exact (.int .i64 x5_l26)) rfl ?_)
                      refine P_q no34_0 rfl (op_move (av := .vsub w0 1 (Int.toNat x3_l14) (Int.toNat (List.length a0 : Int) - Int.toNat x3_l14)) rfl ?_)
                      refine P_q no34_0 rfl (op_move (av := .exact (.int .i64 x5_l26)) rfl ?_)
                      refine P_q no34_0 rfl (op_sub rfl rfl rfl ?_)
                      obtain ⟨n746, h⟩ := need_some h
                      refine P_r rfl (op_index_vsub (j := (x3_l14 + x5_l26)) (by kernel_rfl) rfl rfl n746.2.1 (by have hh := n746; try simp only [i64] at *; omega) (by have hh := n746; try simp only [i64] at *; omega) (by have hh := n746; try simp only [i64] at *; omega) ?_)
                      refine P_r rfl (op_load_vec1 (i := (x3_l14 + x5_l26)) (o := 0) (a := .exact (.string (bs (gi x0_l26 (x3_l14 + x5_l26))))) (by kernel_rfl) len_c_api_Value rfl n746.2.2.2.1 n746.2.2.2.2 rfl ?_)
                      obtain ⟨n747, h⟩ := need_some h
                      refine P_r rfl (op_index_vsub (j := (x3_l14 + (i64 (x5_l26 - 1)))) (by kernel_rfl) rfl rfl n747.2.1 (by have hh := n747; try simp only [i64] at *; omega) (by have hh := n747; try simp only [i64] at *; omega) (by have hh := n747; try simp only [i64] at *; omega) ?_)
                      refine P_r rfl (op_load_vec1 (i := (x3_l14 + (i64 (x5_l26 - 1)))) (o := 0) (a := .exact (.string (bs (gi x0_l26 (x3_l14 + (i64 (x5_l26 - 1))))))) (by kernel_rfl) len_c_api_Value rfl n747.2.2.2.1 n747.2.2.2.2 rfl ?_)
                      refine P_q no34_0 rfl (op_neqS rfl rfl ?_)
                      refine P_nil ?_
                      refine kC_normal ?_
                      refine k_cond_d (p := ¬ (gi x0_l26 (x3_l14 + x5_l26)) = (gi x0_l26 (x3_l14 + (i64 (x5_l26 - 1))))) rfl (fun hc => ?_) (fun hc => ?_)
                      · replace h := ite_t h hc
                        refine k_seq ?_
                        refine k_reg .free hmixP (by kernel_rfl) ?_
                        refine G_q rfl (op_move (av := .exact w0) rfl ?_)
                        refine G_q rfl (op_move (av := .exact (.int .i64 x3_l26)) rfl ?_)
                        refine G_q rfl (op_move (av := .vsub w0 1 (Int.toNat x3_l14) (Int.toNat (List.length a0 : Int) - Int.toNat x3_l14)) rfl ?_)
                        refine G_q rfl (op_move (av := .exact (.int .i64 x5_l26)) rfl ?_)
                        obtain ⟨n748, h⟩ := need_some h
                        refine G_r rfl (op_index_vsub (j := (x3_l14 + x5_l26)) (by kernel_rfl) rfl rfl n748.2.1 (by have hh := n748; try simp only [i64] at *; omega) (by have hh := n748; try simp only [i64] at *; omega) (by have hh := n748; try simp only [i64] at *; omega) ?_)
                        refine G_r rfl (op_load_vec1 (i := (x3_l14 + x5_l26)) (o := 0) (a := .exact (.string (bs (gi x0_l26 (x3_l14 + x5_l26))))) (by kernel_rfl) len_c_api_Value rfl n748.2.2.2.1 n748.2.2.2.2 rfl ?_)
                        obtain ⟨n749, h⟩ := need_some h
                        refine G_r rfl (op_index_vec (by kernel_rfl) rfl rfl n749.1 n749.2 ?_)
                        refine G_l rfl (op_store_vec (i := x3_l26) (o := 0) (z := gi x0_l26 (x3_l14 + x5_l26)) (c' := [.exact (.string (bs (gi x0_l26 (x3_l14 + x5_l26))))]) (by kernel_rfl) len_c_api_Value rfl n749.1 n749.2 rfl CellsOf.str (LEs.cons (AV.le_eq rfl) LEs.nil) (OneC.str OneC.nil) (by kernel_rfl) (Nat.le_of_ble_eq_true rfl) rfl ?_)
                        refine G_nil ?_
                        refine kC_normal ?_
                        refine k_reg .free hmixP (by kernel_rfl) ?_
                        refine G_q rfl (op_move (av := .exact (.int .i64 x3_l26)) rfl ?_)
                        refine G_q rfl (op_add rfl rfl rfl ?_)
                        refine G_q rfl (op_assign (av := .exact (.int .i64 (i64 (x3_l26 + 1)))) rfl ?_)
                        refine G_nil ?_
                        refine kB_normal ?_
                        refine kI_normal ⟨_, _, h, ?_⟩
                        exact Sub.of_le (AF.le_put (AV.le_eq rfl) (AF.le_put (AV.le_eq rfl) (AF.le_put (AV.le_eq rfl) (AF.le_put (AV.le_eq rfl) (AF.le_top _)))))
                      · replace h := ite_f h hc
                        refine k_skip ?_
                        refine kB_normal ?_
                        refine kI_normal ⟨_, _, h, ?_⟩
                        exact Sub.of_le (AF.le_put (AV.le_eq rfl) (AF.le_put (AV.le_eq rfl) (AF.le_put (AV.le_eq rfl) (AF.le_put (AV.le_eq rfl) (AF.le_top _)))))
                    · refine k_reg .free hmixP (by kernel_rfl) ?_
                      refine G_q rfl (op_move (av := .exact (.int .i64 x5_l26)) rfl ?_)
                      refine G_q rfl (op_add rfl rfl rfl ?_)
                      refine G_q rfl (op_assign (av := .exact (.int .i64 (i64 (x5_l26 + 1)))) rfl ?_)
                      refine G_nil ?_
                      refine kI_normal ⟨_, _, _, h, ?_⟩
                      exact Sub.of_le (AF.le_put (AV.le_eq rfl) (AF.le_put (AV.le_eq rfl) (AF.le_put (AV.le_eq rfl) (AF.le_put (AV.le_eq rfl) (AF.le_top _)))))
                  · replace h := ite_f h hc
                    refine k_exit ?_
                    refine kC_exit ?_
                    refine kI_exit ?_
                    refine kB_exit ?_
                    refine kI_normal ⟨_, _, h, ?_⟩
                    exact Sub.of_le (AF.le_put (AV.le_eq rfl) (AF.le_put (AV.le_eq rfl) (AF.le_top _)))
              · refine k_seq ?_
                refine k_reg .free hmixP (by kernel_rfl) ?_
                refine G_q rfl (op_move (av := .exact w0) rfl ?_)
                refine G_q rfl (op_move (av := .exact (.int .i64 x3_j694)) rfl ?_)
                obtain ⟨n750, h⟩ := need_some h
                refine G_r rfl (op_slice_vec (by kernel_rfl) rfl (bnd_some rfl) bnd_none n750.1 n750.2.1 n750.2.2 ?_)
                refine G_l rfl (op_clear (zr := []) (by kernel_rfl) len_c_api_Value oc_c_api_Value rfl (by have := n750; omega) Tryz.zeroValue23 (fun _ _ => (Fit.ex Fit.nil0)) ?_)
                refine G_nil ?_
                refine kC_normal ?_
                refine k_seq ?_
                refine k_reg .free hmixP (by kernel_rfl) ?_
                refine G_q rfl (op_move (av := .exact w0) rfl ?_)
                refine G_q rfl (op_move (av := .exact (.int .i64 x3_j694)) rfl ?_)
                refine G_sub rfl (SubU.freezeT3 (s1 := 0) (s2 := 54) (s3 := 57) rfl rfl rfl len_c_api_Value) ?_
                obtain ⟨n751, h⟩ := need_some h
                refine G_q rfl (op_slice_rowt (by kernel_rfl) rfl bnd_none (bnd_some rfl) (Int.le_refl 0) n751.1 n751.2 ?_)
                refine G_q rfl (op_assign (av := .row 1 c_api_Value (List.take (Int.toNat x3_j694) (List.take (Int.toNat x3_j694) x0_j694 ++ List.replicate (Int.toNat (List.length x0_j694 : Int) - Int.toNat x3_j694) ([] : List UInt8) ++ List.drop (Int.toNat x3_j694 + (Int.toNat (List.length x0_j694 : Int) - Int.toNat x3_j694)) x0_j694))) rfl ?_)
                refine G_nil ?_
                refine kC_normal ?_
                refine k_ret ?_
                refine kB_ret ?_
                refine kI_ret ?_
                refine kI_ret ?_
                refine kB_ret ?_
                refine kI_ret ?_
                obtain rfl := Option.some.inj h
                refine kP_any (endN (af' := (AF.put AF0 (some 2) (.row 1 c_api_Value (List.take (Int.toNat x3_j694) (List.take (Int.toNat x3_j694) x0_j694 ++ List.replicate (Int.toNat (List.length x0_j694 : Int) - Int.toNat x3_j694) ([] : List UInt8) ++ List.drop (Int.toNat x3_j694 + (Int.toNat (List.length x0_j694 : Int) - Int.toNat x3_j694)) x0_j694))))) (σ' := []) _ rfl ?_ ⟨rfl, rfl⟩)
                exact Sub.of_le (AF.le_put (AV.le_eq rfl) (AF.le_top _))
            · replace h := ite_f h hc
              refine k_skip ?_
              refine kB_normal ?_
              refine kI_normal ⟨h, ?_⟩
              exact Sub.of_le (AF.le_put (AV.le_eq rfl) (AF.le_put (AV.le_eq rfl) (AF.le_top _)))
          · refine k_reg .free hmixP (by kernel_rfl) ?_
            refine G_q rfl (op_move (av := .exact (.int .i64 x3_l14)) rfl ?_)
            refine G_q rfl (op_add rfl rfl rfl ?_)
            refine G_q rfl (op_assign (av := .exact (.int .i64 (i64 (x3_l14 + 1)))) rfl ?_)
            refine G_nil ?_
            refine kI_normal ⟨_, h, ?_⟩
            exact Sub.of_le (AF.le_put (AV.le_eq rfl) (AF.le_put (AV.le_eq rfl) (AF.le_top _)))
        · replace h := ite_f h hc
          refine k_exit ?_
          refine kC_exit ?_
          refine kI_exit ?_
          refine kB_exit ?_
          refine kI_normal ⟨h, ?_⟩
          exact Sub.of_le (AF.le_put (AV.le_eq rfl) (AF.le_top _))
    · refine k_seq ?_
      refine k_reg .free hmixP (by kernel_rfl) ?_
      refine G_q rfl (op_move (av := .exact w0) rfl ?_)
      refine G_q rfl (op_assign (av := .exact w0) rfl ?_)
      refine G_nil ?_
      refine kC_normal ?_
      refine k_ret ?_
      obtain rfl := Option.some.inj h
      refine kP_any (endN (af' := (AF.put AF0 (some 2) (.row 1 c_api_Value a0))) (σ' := []) _ rfl ?_ ⟨rfl, rfl⟩)
      refine Sub.trans (SubU.to (SubU.freezeT (s := 2) rfl len_c_api_Value)) ?_
      exact Sub.of_le (AF.le_put (AV.le_eq rfl) (AF.le_top _))
set_option maxHeartbeats 4000000 in
theorem m_value_Sort_ok (a0 : List (List UInt8)) (r : (List (List UInt8))) (h : m_value_Sort a0 = some r) : Pure Tryz.prog 53 [(.row 1 c_api_Value a0)] (.row 1 c_api_Value r) := by
  unfold m_value_Sort at h
  refine Pure.ofFun (fun_of_awp Tryz.func53 rfl Tryz.ntmps53 (by simp) rfl (res1 rfl) fun E hE => k_end ?_)
  refine k_seq ?_
  refine k_reg .free hmixP (by kernel_rfl) ?_
  refine G_q rfl (op_assign (av := .exact (.slice none 0 0)) rfl ?_)
  refine G_nil ?_
  refine kC_normal ?_
  refine k_seq ?_
  refine k_reg .free hmixP (by kernel_rfl) ?_
  refine G_q rfl (op_move (av := .row 1 c_api_Value a0) rfl ?_)
  obtain ⟨y1, hy1, h⟩ := bnd1_some h
  refine G_l rfl (op_fun_0_1_1 (m_slices_Clone_L_api_Value_api_Value_ok _ _ hy1) Tryz.func80 (by kernel_rfl) (LEs.cons (AV.le_eq rfl) LEs.nil) (fun v2 => ?_))
  refine G_q rfl (op_assign (av := .exact v2) rfl ?_)
  refine G_nil ?_
  refine kC_normal ?_
  refine k_seq ?_
  refine k_reg .free hmixP (by kernel_rfl) ?_
  refine G_q rfl (op_move (av := .exact v2) rfl ?_)
  obtain ⟨y3, hy3, h⟩ := bnd1_some h
  refine G_l rfl (op_fun_1_0_1 (m_sort_api_Value_ok m_value_Compare_ok _ _ hy3) Tryz.func81 (by kernel_rfl) (LEs.cons (AV.le_eq rfl) (LEs.cons (AV.le_eq rfl) LEs.nil)) ?_)
  refine G_nil ?_
  refine kC_normal ?_
  refine k_seq ?_
  refine k_reg .free hmixP (by kernel_rfl) ?_
  refine G_q rfl (op_move (av := .exact v2) rfl ?_)
  obtain ⟨y4, hy4, h⟩ := bnd1_some h
  refine G_l rfl (op_fun_1_0_0 (m_slices_Compact_L_api_Value_api_Value_ok _ _ hy4) Tryz.func83 (by kernel_rfl) (LEs.cons (AV.le_eq rfl) LEs.nil) ?_)
  obtain ⟨y5, hy5, h⟩ := bnd1_some h
  refine G_q rfl (op_pure (m_slices_Clip_L_api_Value_api_Value_ok _ _ hy5) Tryz.func82 (by kernel_rfl) (LEs.cons (AV.le_eq rfl) LEs.nil) ?_)
  refine G_q rfl (op_assign (av := .row 1 c_api_Value y5) rfl ?_)
  refine G_nil ?_
  refine kC_normal ?_
  refine k_ret ?_
  obtain rfl := Option.some.inj h
  refine kP_any (endN (af' := (AF.put AF0 (some 2) (.row 1 c_api_Value y5))) (σ' := []) _ rfl ?_ ⟨rfl, rfl⟩)
  exact Sub.of_le (AF.le_put (AV.le_eq rfl) (AF.le_top _))
end Go.Proofs.YtdppkpiagdaigaaGreatDoor
