/- The functions compute their models, by program. -/
import Derived.Test.YtdbnodliomlilaaGreatKX7
namespace Go.Proofs.YtdbnodliomlilaaGreat
open Go.RowKit
attribute [local irreducible] AV.exact AV.top AV.row AV.ptr AV.agg AV.tup AV.eptr AV.fn AV.nilq AV.nilqn opA opB opM opR Quiet Loud Reads wpG awp den Sub SubU Pure Fun vecI vecT boxI CellsAll CellsOf OneC LEs LEss
set_option maxRecDepth 100000

set_option maxHeartbeats 4000000 in
theorem m_value_Int_ok (a0 : Int) (r : (List UInt8)) (h : m_value_Int a0 = some r) : Pure Tryz.prog 64 [(.exact (.int .i64 a0))] (.exact (.string (bs r))) := by
  unfold m_value_Int at h
  refine Pure.ofFun (fun_of_awp Tryz.func64 rfl Tryz.ntmps64 (by simp) rfl (res1 rfl) fun E hE => k_end ?_)
  refine k_seq ?_
  refine k_reg .free hmixP (by kernel_rfl) ?_
  refine G_q rfl (op_assign (av := .exact (.string (bs ([] : List UInt8)))) rfl ?_)
  refine G_nil ?_
  refine kC_normal ?_
  refine k_seq ?_
  refine k_reg .free hmixP (by kernel_rfl) ?_
  refine G_l rfl (op_litI (n := 1) (enc := c_uint8) [1] (by kernel_rfl) (CellsAll.cons rfl CellsOf.int CellsAll.nil) rfl (by kernel_rfl) (LEss.cons (LEs.cons (AV.le_eq rfl) LEs.nil) LEss.nil) (fun v1 => ?_))
  refine G_q rfl (op_move (av := .exact (.int .i64 a0)) rfl ?_)
  refine G_q rfl (op_convInt (k := .u64) (by kernel_rfl) rfl rfl ?_)
  obtain ⟨y2, hy2, h⟩ := bnd1_some h
  refine G_l rfl (op_fun_1_1_1 (m_value_append64_ok _ _ _ hy2) Tryz.func91 (by kernel_rfl) (LEs.cons (AV.le_eq rfl) (LEs.cons (AV.le_eq rfl) LEs.nil)) (fun v3 => ?_))
  refine G_r rfl (op_bytesS_bor rfl (by kernel_rfl) (Bor.vec (List.Mem.head _) len_c_uint8) ?_)
  refine G_q rfl (op_assign (av := .exact (.string (bs y2))) rfl ?_)
  refine G_nil ?_
  refine kC_normal ?_
  refine k_ret ?_
  obtain rfl := Option.some.inj h
  refine kP_any (endN (af' := (AF.put AF0 (some 2) (.exact (.string (bs y2))))) (σ' := []) _ rfl ?_ ⟨rfl, rfl⟩)
  refine Sub.trans (SubU.to SubU.drop) ?_
  exact Sub.of_le (AF.le_put (AV.le_eq rfl) (AF.le_top _))
set_option maxHeartbeats 4000000 in
theorem m_value_Set_ok (a0 : List (List UInt8)) (r : (List UInt8)) (h : m_value_Set a0 = some r) : Pure Tryz.prog 67 [(.row 1 c_api_Value a0)] (.exact (.string (bs r))) := by
  unfold m_value_Set at h
  refine Pure.ofFun (fun_of_awp Tryz.func67 rfl Tryz.ntmps67 (by simp) rfl (res1 rfl) fun E hE => k_end ?_)
  refine k_seq ?_
  refine k_reg .free hmixP (by kernel_rfl) ?_
  refine G_q rfl (op_assign (av := .exact (.string (bs ([] : List UInt8)))) rfl ?_)
  refine G_nil ?_
  refine kC_normal ?_
  refine k_seq ?_
  refine k_reg .free hmixP (by kernel_rfl) ?_
  refine G_q rfl (op_move (av := .row 1 c_api_Value a0) rfl ?_)
  obtain ⟨y1, hy1, h⟩ := bnd1_some h
  refine G_q rfl (op_pure (m_value_Sort_ok _ _ hy1) Tryz.func85 (by kernel_rfl) (LEs.cons (AV.le_eq rfl) LEs.nil) ?_)
  obtain ⟨y2, hy2, h⟩ := bnd1_some h
  refine G_q rfl (op_pure (m_value_compound_ok _ _ _ hy2) Tryz.func89 (by kernel_rfl) (LEs.cons (AV.le_eq rfl) (LEs.cons (AV.le_eq rfl) LEs.nil)) ?_)
  refine G_q rfl (op_assign (av := .exact (.string (bs y2))) rfl ?_)
  refine G_nil ?_
  refine kC_normal ?_
  refine k_ret ?_
  obtain rfl := Option.some.inj h
  refine kP_any (endN (af' := (AF.put AF0 (some 2) (.exact (.string (bs y2))))) (σ' := []) _ rfl ?_ ⟨rfl, rfl⟩)
  exact Sub.of_le (AF.le_put (AV.le_eq rfl) (AF.le_top _))
set_option maxHeartbeats 4000000 in
theorem m_finset_set_ok (a0 : List (List UInt8)) (r : (List UInt8) × Int) (h : m_finset_set a0 = some r) : Pure Tryz.prog 65 [(.row 1 c_api_Value a0)] (.tup [.exact (.string (bs r.1)), .exact (.int .i64 r.2)]) := by
  unfold m_finset_set at h
  refine Pure.ofFun (fun_of_awp Tryz.func65 rfl Tryz.ntmps65 (by simp) rfl (res2 rfl) fun E hE => k_end ?_)
  refine k_seq ?_
  refine k_reg .free hmixP (by kernel_rfl) ?_
  refine G_q rfl (op_assign (av := .exact (.string (bs ([] : List UInt8)))) rfl ?_)
  refine G_q rfl (op_assign (av := .exact (.int .i64 0)) rfl ?_)
  refine G_nil ?_
  refine kC_normal ?_
  refine k_seq ?_
  refine k_seq ?_
  refine k_reg .free hmixP (by kernel_rfl) ?_
  refine G_q rfl (op_move (av := .row 1 c_api_Value a0) rfl ?_)
  refine G_q rfl (op_len_row (by kernel_rfl) rfl ?_)
  refine G_q rfl (op_gtr rfl rfl ?_)
  refine G_nil ?_
  refine kC_normal ?_
  refine k_cond_d (p := 4096 < (List.length a0 : Int)) rfl (fun hc => ?_) (fun hc => ?_)
  · replace h := ite_t h hc
    refine k_seq ?_
    refine k_reg .free hmixP (by kernel_rfl) ?_
    refine G_q rfl (op_assign (av := .exact (.string (bs ([] : List UInt8)))) rfl ?_)
    refine G_q rfl (op_assign (av := .exact (.int .i64 9)) rfl ?_)
    refine G_nil ?_
    refine kC_normal ?_
    refine k_ret ?_
    refine kC_ret ?_
    obtain rfl := Option.some.inj h
    refine kP_any (endN (af' := (AF.put (AF.put AF0 (some 2) (.exact (.string (bs ([] : List UInt8))))) (some 3) (.exact (.int .i64 9)))) (σ' := []) _ rfl ?_ ⟨rfl, rfl⟩)
    exact Sub.of_le (AF.le_put (AV.le_eq rfl) (AF.le_put (AV.le_eq rfl) (AF.le_top _)))
  · replace h := ite_f h hc
    refine k_skip ?_
    refine kC_normal ?_
    refine k_seq ?_
    refine k_reg .free hmixP (by kernel_rfl) ?_
    refine G_q rfl (op_move (av := .row 1 c_api_Value a0) rfl ?_)
    refine G_q rfl (op_len_row (by kernel_rfl) rfl ?_)
    refine G_q rfl (op_move (av := .row 1 c_api_Value a0) rfl ?_)
    obtain ⟨y1, hy1, h⟩ := bnd1_some h
    refine G_q rfl (op_pure (m_value_Set_ok _ _ hy1) Tryz.func67 (by kernel_rfl) (LEs.cons (AV.le_eq rfl) LEs.nil) ?_)
    obtain ⟨y2, hy2, h⟩ := bnd1_some h
    refine G_q rfl (op_pure (m_finset_sized_ok _ _ _ hy2) Tryz.func60 (by kernel_rfl) (LEs.cons (AV.le_eq rfl) (LEs.cons (AV.le_eq rfl) LEs.nil)) ?_)
    refine G_q rfl (op_extract (av := .exact (.string (bs y2.1))) rfl rfl ?_)
    refine G_q rfl (op_extract (av := .exact (.int .i64 y2.2)) rfl rfl ?_)
    refine G_q rfl (op_assign (av := .exact (.string (bs y2.1))) rfl ?_)
    refine G_q rfl (op_assign (av := .exact (.int .i64 y2.2)) rfl ?_)
    refine G_nil ?_
    refine kC_normal ?_
    refine k_ret ?_
    obtain rfl := Option.some.inj h
    refine kP_any (endN (af' := (AF.put (AF.put AF0 (some 2) (.exact (.string (bs y2.1)))) (some 3) (.exact (.int .i64 y2.2)))) (σ' := []) _ rfl ?_ ⟨rfl, rfl⟩)
    exact Sub.of_le (AF.le_put (AV.le_eq rfl) (AF.le_put (AV.le_eq rfl) (AF.le_top _)))
set_option maxHeartbeats 4000000 in
theorem m_finset_Range_ok (a0 : Int) (a1 : Int) (r : (List UInt8) × Int) (h : m_finset_Range a0 a1 = some r) : Pure Tryz.prog 25 [(.exact (.int .i64 a0)), (.exact (.int .i64 a1))] (.tup [.exact (.string (bs r.1)), .exact (.int .i64 r.2)]) := by
  unfold m_finset_Range at h
  refine Pure.ofFun (fun_of_awp Tryz.func25 rfl Tryz.ntmps25 (by simp) rfl (res2 rfl) fun E hE => k_end ?_)
  refine k_seq ?_
  refine k_reg .free hmixP (by kernel_rfl) ?_
  refine G_q rfl (op_assign (av := .exact (.string (bs ([] : List UInt8)))) rfl ?_)
  refine G_q rfl (op_assign (av := .exact (.int .i64 0)) rfl ?_)
  refine G_nil ?_
  refine kC_normal ?_
  refine k_seq ?_
  refine k_join1_0 h (fun (x18_j3 : Bool) => (AF.put (AF.put (AF.put AF0 (some 0) (.exact (.int .i64 a0))) (some 1) (.exact (.int .i64 a1))) (some 18) (.exact (.bool x18_j3)))) (fun (x18_j3 : Bool) => []) (fun k3 h => ?_) (fun x18_j3 h => ?_)
  · refine k_reg .free hmixP (by kernel_rfl) ?_
    refine G_q rfl (op_move (av := .exact (.int .i64 a0)) rfl ?_)
    refine G_q rfl (op_move (av := .exact (.int .i64 a1)) rfl ?_)
    refine G_q rfl (op_leq rfl rfl ?_)
    refine G_q rfl (op_move (av := .exact (.bool (decide (a0 ≤ a1)))) rfl ?_)
    refine G_split (p := a0 ≤ a1) 11 rfl (fun hc => ?_) (fun hc => ?_)
    · replace h := ite_t h hc
      refine Gy_q rfl rfl rfl (op_move (av := .exact (.int .i64 a1)) rfl ?_)
      refine Gy_q rfl rfl rfl (op_convInt (k := .u64) (by kernel_rfl) rfl rfl ?_)
      refine Gy_q rfl rfl rfl (op_move (av := .exact (.int .i64 a0)) rfl ?_)
      refine Gy_q rfl rfl rfl (op_convInt (k := .u64) (by kernel_rfl) rfl rfl ?_)
      refine Gy_q rfl rfl rfl (op_sub rfl rfl rfl ?_)
      refine Gy_q rfl rfl rfl (op_geq rfl rfl ?_)
      refine G_q rfl (op_pick_t rfl (av := .exact (.bool (decide (4096 ≤ (IntKind.u64.wrap ((IntKind.u64.wrap (a1)) - (IntKind.u64.wrap (a0)))))))) rfl ?_)
      refine G_nil ?_
      refine kI_normal ⟨_, h, ?_⟩
      exact Sub.of_le (AF.le_put (AV.le_eq rfl) (AF.le_put (AV.le_eq rfl) (AF.le_put (AV.le_eq rfl) (AF.le_top _))))
    · replace h := ite_f h hc
      refine G_n rfl rfl ?_
      refine G_n rfl rfl ?_
      refine G_n rfl rfl ?_
      refine G_n rfl rfl ?_
      refine G_n rfl rfl ?_
      refine G_n rfl rfl ?_
      refine G_q rfl (op_pick_f rfl (av := .exact (.bool false)) rfl ?_)
      refine G_nil ?_
      refine kI_normal ⟨_, h, ?_⟩
      exact Sub.of_le (AF.le_put (AV.le_eq rfl) (AF.le_put (AV.le_eq rfl) (AF.le_put (AV.le_eq rfl) (AF.le_top _))))
  · refine k_cond_b (c := x18_j3) rfl (fun hc => ?_) (fun hc => ?_)
    · replace h := ite_t h hc
      refine k_seq ?_
      refine k_reg .free hmixP (by kernel_rfl) ?_
      refine G_q rfl (op_assign (av := .exact (.string (bs ([] : List UInt8)))) rfl ?_)
      refine G_q rfl (op_assign (av := .exact (.int .i64 9)) rfl ?_)
      refine G_nil ?_
      refine kC_normal ?_
      refine k_ret ?_
      refine kC_ret ?_
      obtain rfl := Option.some.inj h
      refine kP_any (endN (af' := (AF.put (AF.put AF0 (some 4) (.exact (.string (bs ([] : List UInt8))))) (some 5) (.exact (.int .i64 9)))) (σ' := []) _ rfl ?_ ⟨rfl, rfl⟩)
      exact Sub.of_le (AF.le_put (AV.le_eq rfl) (AF.le_put (AV.le_eq rfl) (AF.le_top _)))
    · replace h := ite_f h hc
      refine k_skip ?_
      refine kC_normal ?_
      refine k_seq ?_
      refine k_reg .free hmixP (by kernel_rfl) ?_
      refine G_q rfl (op_assign (av := .exact (.slice none 0 0)) rfl ?_)
      refine G_nil ?_
      refine kC_normal ?_
      refine k_join1_1 h (fun (x6_j4 : List (List UInt8)) (v6_j4 : Value) => (AF.put AF0 (some 6) (.exact v6_j4))) (fun (x6_j4 : List (List UInt8)) (v6_j4 : Value) => [vecT Tryz.prog 33 1 c_api_Value v6_j4 x6_j4]) (fun k4 h => ?_) (fun x6_j4 v6_j4 h => ?_)
      · refine k_seq ?_
        refine k_reg .free hmixP (by kernel_rfl) ?_
        refine G_q rfl (op_move (av := .exact (.int .i64 a0)) rfl ?_)
        refine G_q rfl (op_assign (av := .exact (.int .i64 a0)) rfl ?_)
        refine G_nil ?_
        refine kC_normal ?_
        refine k_block ?_
        refine k_loop2_1 (m_finset_Range_L2 a1 k4) (m_finset_Range_B2 a1 k4) (fun _ _ => rfl) (fun m _ _ => rfl) h (fun (x6_l2 : List (List UInt8)) (x7_l2 : Int) (v6_l2 : Value) => (AF.put (AF.put (AF.put AF0 (some 1) (.exact (.int .i64 a1))) (some 6) (.exact v6_l2)) (some 7) (.exact (.int .i64 x7_l2)))) (fun (x6_l2 : List (List UInt8)) (x7_l2 : Int) (v6_l2 : Value) => [vecT Tryz.prog 33 1 c_api_Value v6_l2 x6_l2]) (.slice none 0 0) ?_ (fun rec2 x6_l2 x7_l2 v6_l2 h => ?_)
        · refine Sub.trans (SubU.to (SubU.nilT (P := Tryz.prog) (t := 33) (n := 1) (enc := c_api_Value))) ?_
          exact Sub.of_le (AF.le_put (AV.le_eq rfl) (AF.le_put (AV.le_eq rfl) (AF.le_put (AV.le_eq rfl) (AF.le_top _))))
        · unfold m_finset_Range_B2 at h
          refine k_seq ?_
          refine k_seq ?_
          refine k_reg .free hmixP (by kernel_rfl) ?_
          refine G_q rfl (op_move (av := .exact (.int .i64 x7_l2)) rfl ?_)
          refine G_q rfl (op_move (av := .exact (.int .i64 a1)) rfl ?_)
          refine G_q rfl (op_leq rfl rfl ?_)
          refine G_nil ?_
          refine kC_normal ?_
          refine k_cond_d (p := x7_l2 ≤ a1) rfl (fun hc => ?_) (fun hc => ?_)
          · replace h := ite_t h hc
            refine k_skip ?_
            refine kC_normal ?_
            refine k_seq ?_
            refine k_block ?_
            refine k_seq ?_
            refine k_reg .free hmixP (by kernel_rfl) ?_
            refine G_q rfl (op_move (av := .exact v6_l2) rfl ?_)
            refine G_q rfl (op_move (av := .exact (.int .i64 x7_l2)) rfl ?_)
            obtain ⟨y21, hy21, h⟩ := bnd1_some h
            refine G_q rfl (op_pure (m_value_Int_ok _ _ hy21) Tryz.func64 (by kernel_rfl) (LEs.cons (AV.le_eq rfl) LEs.nil) ?_)
            refine G_q rfl (op_litT (n := 1) (enc := c_api_Value) [y21] (CellsAll.cons rfl CellsOf.str CellsAll.nil) rfl (by kernel_rfl) (LEss.cons (LEs.cons (AV.le_eq rfl) LEs.nil) LEss.nil) ?_)
            obtain ⟨n22, h⟩ := need_some h
            refine G_l rfl (op_appT (by kernel_rfl) rfl rfl oc_c_api_Value n22 (fun v23 => ?_))
            refine G_q rfl (op_assign (av := .exact v23) rfl ?_)
            refine G_nil ?_
            refine kC_normal ?_
            refine k_seq ?_
            refine k_reg .free hmixP (by kernel_rfl) ?_
            refine G_q rfl (op_move (av := .exact (.int .i64 x7_l2)) rfl ?_)
            refine G_q rfl (op_move (av := .exact (.int .i64 a1)) rfl ?_)
            refine G_q rfl (op_eql rfl rfl ?_)
            refine G_nil ?_
            refine kC_normal ?_
            refine k_cond_d (p := x7_l2 = a1) rfl (fun hc => ?_) (fun hc => ?_)
            · replace h := ite_t h hc
              refine k_exit ?_
              refine kB_pass rfl ?_
              refine kC_exit ?_
              refine kI_exit ?_
              refine kB_exit ?_
              refine kI_normal ⟨_, v23, h, ?_⟩
              exact Sub.of_le (AF.le_put (AV.le_eq rfl) (AF.le_top _))
            · replace h := ite_f h hc
              refine k_skip ?_
              refine kB_normal ?_
              refine kC_normal ?_
              refine k_reg .free hmixP (by kernel_rfl) ?_
              refine G_q rfl (op_move (av := .exact (.int .i64 x7_l2)) rfl ?_)
              refine G_q rfl (op_add rfl rfl rfl ?_)
              refine G_q rfl (op_assign (av := .exact (.int .i64 (i64 (x7_l2 + 1)))) rfl ?_)
              refine G_nil ?_
              refine kI_normal ⟨_, _, v23, h, ?_⟩
              exact Sub.of_le (AF.le_put (AV.le_eq rfl) (AF.le_put (AV.le_eq rfl) (AF.le_put (AV.le_eq rfl) (AF.le_top _))))
          · replace h := ite_f h hc
            refine k_exit ?_
            refine kC_exit ?_
            refine kI_exit ?_
            refine kB_exit ?_
            refine kI_normal ⟨_, v6_l2, h, ?_⟩
            exact Sub.of_le (AF.le_put (AV.le_eq rfl) (AF.le_top _))
      · refine k_seq ?_
        refine k_reg .free hmixP (by kernel_rfl) ?_
        refine G_q rfl (op_move (av := .exact v6_j4) rfl ?_)
        refine G_sub rfl (SubU.freezeT2 (s1 := 6) (s2 := 33) rfl rfl len_c_api_Value) ?_
        obtain ⟨y24, hy24, h⟩ := bnd1_some h
        refine G_q rfl (op_pure (m_finset_set_ok _ _ hy24) Tryz.func65 (by kernel_rfl) (LEs.cons (AV.le_eq rfl) LEs.nil) ?_)
        refine G_q rfl (op_extract (av := .exact (.string (bs y24.1))) rfl rfl ?_)
        refine G_q rfl (op_extract (av := .exact (.int .i64 y24.2)) rfl rfl ?_)
        refine G_q rfl (op_assign (av := .exact (.string (bs y24.1))) rfl ?_)
        refine G_q rfl (op_assign (av := .exact (.int .i64 y24.2)) rfl ?_)
        refine G_nil ?_
        refine kC_normal ?_
        refine k_ret ?_
        obtain rfl := Option.some.inj h
        refine kP_any (endN (af' := (AF.put (AF.put AF0 (some 4) (.exact (.string (bs y24.1)))) (some 5) (.exact (.int .i64 y24.2)))) (σ' := []) _ rfl ?_ ⟨rfl, rfl⟩)
        exact Sub.of_le (AF.le_put (AV.le_eq rfl) (AF.le_put (AV.le_eq rfl) (AF.le_top _)))
set_option maxHeartbeats 4000000 in
theorem m_finset_elements_ok (a0 : List (List UInt8)) (r : (List (List (List UInt8))) × Int) (h : m_finset_elements a0 = some r) : Pure Tryz.prog 66 [(.row 1 c_api_Value a0)] (.tup [.row 1 c_L_api_Value r.1, .exact (.int .i64 r.2)]) := by
  unfold m_finset_elements at h
  refine Pure.ofFun (fun_of_awp Tryz.func66 rfl Tryz.ntmps66 (by simp) rfl (res2 rfl) fun E hE => k_end ?_)
  refine k_seq ?_
  refine k_reg .free hmixP (by kernel_rfl) ?_
  refine G_q rfl (op_assign (av := .exact (.slice none 0 0)) rfl ?_)
  refine G_q rfl (op_assign (av := .exact (.int .i64 0)) rfl ?_)
  refine G_nil ?_
  refine kC_normal ?_
  refine k_seq ?_
  refine k_reg .free hmixP (by kernel_rfl) ?_
  refine G_q rfl (op_assign (av := .exact (.slice none 0 0)) rfl ?_)
  refine G_nil ?_
  refine kC_normal ?_
  refine k_join1_1 h (fun (x4_j1 : List (List (List UInt8))) (v4_j1 : Value) => (AF.put AF0 (some 4) (.exact v4_j1))) (fun (x4_j1 : List (List (List UInt8))) (v4_j1 : Value) => [vecT Tryz.prog 72 1 c_L_api_Value v4_j1 x4_j1]) (fun k1 h => ?_) (fun x4_j1 v4_j1 h => ?_)
  · refine k_seq ?_
    refine k_reg .free hmixP (by kernel_rfl) ?_
    refine G_q rfl (op_move (av := .row 1 c_api_Value a0) rfl ?_)
    refine G_q rfl (op_len_row (by kernel_rfl) rfl ?_)
    refine G_q rfl (op_move (av := .exact (.int .i64 0)) rfl ?_)
    refine G_nil ?_
    refine kC_normal ?_
    refine k_block ?_
    refine k_loop2_1 (m_finset_elements_L2 a0 k1) (m_finset_elements_B2 a0 k1) (fun _ _ => rfl) (fun m _ _ => rfl) h (fun (x4_l2 : List (List (List UInt8))) (x9_l2 : Int) (v4_l2 : Value) => (AF.put (AF.put (AF.put (AF.put AF0 (some 4) (.exact v4_l2)) (some 7) (.row 1 c_api_Value a0)) (some 8) (.exact (.int .i64 (List.length a0 : Int)))) (some 9) (.exact (.int .i64 x9_l2)))) (fun (x4_l2 : List (List (List UInt8))) (x9_l2 : Int) (v4_l2 : Value) => [vecT Tryz.prog 72 1 c_L_api_Value v4_l2 x4_l2]) (.slice none 0 0) ?_ (fun rec2 x4_l2 x9_l2 v4_l2 h => ?_)
    · refine Sub.trans (SubU.to (SubU.nilT (P := Tryz.prog) (t := 72) (n := 1) (enc := c_L_api_Value))) ?_
      exact Sub.of_le (AF.le_put (AV.le_eq rfl) (AF.le_put (AV.le_eq rfl) (AF.le_put (AV.le_eq rfl) (AF.le_put (AV.le_eq rfl) (AF.le_top _)))))
    · unfold m_finset_elements_B2 at h
      refine k_seq ?_
      refine k_reg .free hmixP (by kernel_rfl) ?_
      refine G_q rfl (op_lss rfl rfl ?_)
      refine G_nil ?_
      refine kC_normal ?_
      refine k_seq ?_
      refine k_cond_d (p := x9_l2 < (List.length a0 : Int)) rfl (fun hc => ?_) (fun hc => ?_)
      · replace h := ite_t h hc
        refine k_skip ?_
        refine kC_normal ?_
        refine k_seq ?_
        refine k_block ?_
        refine k_seq ?_
        refine k_reg .free hmixP (by kernel_rfl) ?_
        obtain ⟨n28, h⟩ := need_some h
        refine G_q rfl (op_index_row (by kernel_rfl) rfl rfl n28.1 n28.2 ?_)
        refine G_q rfl (op_load1p (a := .exact (.string (bs (gi a0 x9_l2)))) (by kernel_rfl) rfl rfl ?_)
        refine G_q rfl (op_assign (av := .exact (.string (bs (gi a0 x9_l2)))) rfl ?_)
        refine G_nil ?_
        refine kC_normal ?_
        refine k_seq ?_
        refine k_seq ?_
        refine k_reg .free hmixP (by kernel_rfl) ?_
        refine G_q rfl (op_move (av := .exact (.string (bs (gi a0 x9_l2)))) rfl ?_)
        obtain ⟨y29, hy29, h⟩ := bnd1_some h
        refine G_q rfl (op_pure (m_value_Kind_ok _ _ hy29) Tryz.func81 (by kernel_rfl) (LEs.cons (AV.le_eq rfl) LEs.nil) ?_)
        refine G_q rfl (op_neq rfl rfl ?_)
        refine G_nil ?_
        refine kC_normal ?_
        refine k_cond_d (p := ¬ y29 = 5) rfl (fun hc => ?_) (fun hc => ?_)
        · replace h := ite_t h hc
          refine k_seq ?_
          refine k_reg .free hmixP (by kernel_rfl) ?_
          refine G_q rfl (op_assign (av := .exact (.slice none 0 0)) rfl ?_)
          refine G_q rfl (op_assign (av := .exact (.int .i64 6)) rfl ?_)
          refine G_nil ?_
          refine kC_normal ?_
          refine k_ret ?_
          refine kC_ret ?_
          refine kB_ret ?_
          refine kC_ret ?_
          refine kI_ret ?_
          refine kB_ret ?_
          refine kI_ret ?_
          obtain rfl := Option.some.inj h
          refine kP_any (endN (af' := (AF.put (AF.put AF0 (some 2) (.row 1 c_L_api_Value [])) (some 3) (.exact (.int .i64 6)))) (σ' := []) _ rfl ?_ ⟨rfl, rfl⟩)
          refine Sub.trans (SubU.to SubU.drop) ?_
          exact Sub.of_le (AF.le_put (AV.le_eq rfl) (AF.le_put (row_nil (by decide)) (AF.le_top _)))
        · replace h := ite_f h hc
          refine k_skip ?_
          refine kC_normal ?_
          refine k_reg .free hmixP (by kernel_rfl) ?_
          refine G_q rfl (op_move (av := .exact v4_l2) rfl ?_)
          refine G_q rfl (op_move (av := .exact (.string (bs (gi a0 x9_l2)))) rfl ?_)
          obtain ⟨y30, hy30, h⟩ := bnd1_some h
          refine G_q rfl (op_pure (m_value_Parts_ok _ _ hy30) Tryz.func82 (by kernel_rfl) (LEs.cons (AV.le_eq rfl) LEs.nil) ?_)
          refine G_q rfl (op_litT (n := 1) (enc := c_L_api_Value) [y30] (CellsAll.cons rfl CellsOf.row CellsAll.nil) rfl (by kernel_rfl) (LEss.cons (LEs.cons (AV.le_eq rfl) LEs.nil) LEss.nil) ?_)
          obtain ⟨n31, h⟩ := need_some h
          refine G_l rfl (op_appT (by kernel_rfl) rfl rfl oc_c_L_api_Value n31 (fun v32 => ?_))
          refine G_q rfl (op_assign (av := .exact v32) rfl ?_)
          refine G_nil ?_
          refine kB_normal ?_
          refine kC_normal ?_
          refine k_reg .free hmixP (by kernel_rfl) ?_
          refine G_q rfl (op_add rfl rfl rfl ?_)
          refine G_q rfl (op_move (av := .exact (.int .i64 (i64 (x9_l2 + 1)))) rfl ?_)
          refine G_nil ?_
          refine kI_normal ⟨_, _, v32, h, ?_⟩
          exact Sub.of_le (AF.le_put (AV.le_eq rfl) (AF.le_put (AV.le_eq rfl) (AF.le_put (AV.le_eq rfl) (AF.le_put (AV.le_eq rfl) (AF.le_top _)))))
      · replace h := ite_f h hc
        refine k_exit ?_
        refine kC_exit ?_
        refine kI_exit ?_
        refine kB_exit ?_
        refine kI_normal ⟨_, v4_l2, h, ?_⟩
        exact Sub.of_le (AF.le_put (AV.le_eq rfl) (AF.le_top _))
  · refine k_seq ?_
    refine k_reg .free hmixP (by kernel_rfl) ?_
    refine G_q rfl (op_move (av := .exact v4_j1) rfl ?_)
    refine G_q rfl (op_assign (av := .exact v4_j1) rfl ?_)
    refine G_q rfl (op_assign (av := .exact (.int .i64 0)) rfl ?_)
    refine G_nil ?_
    refine kC_normal ?_
    refine k_ret ?_
    obtain rfl := Option.some.inj h
    refine kP_any (endN (af' := (AF.put (AF.put AF0 (some 2) (.row 1 c_L_api_Value x4_j1)) (some 3) (.exact (.int .i64 0)))) (σ' := []) _ rfl ?_ ⟨rfl, rfl⟩)
    refine Sub.trans (SubU.to (SubU.freezeT (s := 2) rfl len_c_L_api_Value)) ?_
    exact Sub.of_le (AF.le_put (AV.le_eq rfl) (AF.le_put (AV.le_eq rfl) (AF.le_top _)))
set_option maxHeartbeats 4000000 in
theorem m_finset_Subsets_ok (a0 : List UInt8) (r : (List UInt8) × Int) (h : m_finset_Subsets a0 = some r) : Pure Tryz.prog 26 [(.exact (.string (bs a0)))] (.tup [.exact (.string (bs r.1)), .exact (.int .i64 r.2)]) := by
  unfold m_finset_Subsets at h
  refine Pure.ofFun (fun_of_awp Tryz.func26 rfl Tryz.ntmps26 (by simp) rfl (res2 rfl) fun E hE => k_end ?_)
  refine k_seq ?_
  refine k_reg .free hmixP (by kernel_rfl) ?_
  refine G_q rfl (op_assign (av := .exact (.string (bs ([] : List UInt8)))) rfl ?_)
  refine G_q rfl (op_assign (av := .exact (.int .i64 0)) rfl ?_)
  refine G_nil ?_
  refine kC_normal ?_
  refine k_seq ?_
  refine k_reg .free hmixP (by kernel_rfl) ?_
  refine G_q rfl (op_move (av := .exact (.string (bs a0))) rfl ?_)
  refine G_q rfl (op_litT (n := 1) (enc := c_api_Value) [a0] (CellsAll.cons rfl CellsOf.str CellsAll.nil) rfl (by kernel_rfl) (LEss.cons (LEs.cons (AV.le_eq rfl) LEs.nil) LEss.nil) ?_)
  obtain ⟨y1, hy1, h⟩ := bnd1_some h
  refine G_q rfl (op_pure (m_finset_elements_ok _ _ hy1) Tryz.func66 (by kernel_rfl) (LEs.cons (AV.le_eq rfl) LEs.nil) ?_)
  refine G_q rfl (op_move (av := .tup [.row 1 c_L_api_Value y1.1, .exact (.int .i64 y1.2)]) rfl ?_)
  refine G_q rfl (op_extract (av := .row 1 c_L_api_Value y1.1) rfl rfl ?_)
  refine G_q rfl (op_extract (av := .exact (.int .i64 y1.2)) rfl rfl ?_)
  refine G_q rfl (op_assign (av := .row 1 c_L_api_Value y1.1) rfl ?_)
  refine G_q rfl (op_assign (av := .exact (.int .i64 y1.2)) rfl ?_)
  refine G_nil ?_
  refine kC_normal ?_
  refine k_seq ?_
  refine k_seq ?_
  refine k_reg .free hmixP (by kernel_rfl) ?_
  refine G_q rfl (op_move (av := .exact (.int .i64 y1.2)) rfl ?_)
  refine G_q rfl (op_neq rfl rfl ?_)
  refine G_nil ?_
  refine kC_normal ?_
  refine k_cond_d (p := ¬ y1.2 = 0) rfl (fun hc => ?_) (fun hc => ?_)
  · replace h := ite_t h hc
    refine k_seq ?_
    refine k_reg .free hmixP (by kernel_rfl) ?_
    refine G_q rfl (op_move (av := .exact (.int .i64 y1.2)) rfl ?_)
    refine G_q rfl (op_assign (av := .exact (.string (bs ([] : List UInt8)))) rfl ?_)
    refine G_q rfl (op_assign (av := .exact (.int .i64 y1.2)) rfl ?_)
    refine G_nil ?_
    refine kC_normal ?_
    refine k_ret ?_
    refine kC_ret ?_
    obtain rfl := Option.some.inj h
    refine kP_any (endN (af' := (AF.put (AF.put AF0 (some 2) (.exact (.string (bs ([] : List UInt8))))) (some 3) (.exact (.int .i64 y1.2)))) (σ' := []) _ rfl ?_ ⟨rfl, rfl⟩)
    exact Sub.of_le (AF.le_put (AV.le_eq rfl) (AF.le_put (AV.le_eq rfl) (AF.le_top _)))
  · replace h := ite_f h hc
    refine k_skip ?_
    refine kC_normal ?_
    refine k_seq ?_
    refine k_reg .free hmixP (by kernel_rfl) ?_
    refine G_q rfl (op_move (av := .row 1 c_L_api_Value y1.1) rfl ?_)
    obtain ⟨n2, h⟩ := need_some h
    refine G_q rfl (op_index_row (by kernel_rfl) rfl rfl n2.1 n2.2 ?_)
    refine G_q rfl (op_load1p (a := .row 1 c_api_Value (gi y1.1 0)) (by kernel_rfl) rfl rfl ?_)
    refine G_q rfl (op_len_row (by kernel_rfl) rfl ?_)
    refine G_q rfl (op_assign (av := .exact (.int .i64 (List.length (gi y1.1 0) : Int))) rfl ?_)
    refine G_nil ?_
    refine kC_normal ?_
    refine k_seq ?_
    refine k_join1_0 h (fun (x31_j7 : Bool) => (AF.put (AF.put (AF.put AF0 (some 4) (.row 1 c_L_api_Value y1.1)) (some 6) (.exact (.int .i64 (List.length (gi y1.1 0) : Int)))) (some 31) (.exact (.bool x31_j7)))) (fun (x31_j7 : Bool) => []) (fun k7 h => ?_) (fun x31_j7 h => ?_)
    · refine k_reg .free hmixP (by kernel_rfl) ?_
      refine G_q rfl (op_move (av := .exact (.int .i64 (List.length (gi y1.1 0) : Int))) rfl ?_)
      refine G_q rfl (op_geq rfl rfl ?_)
      refine G_q rfl (op_move (av := .exact (.bool (decide (62 ≤ (List.length (gi y1.1 0) : Int))))) rfl ?_)
      refine G_split (p := 62 ≤ (List.length (gi y1.1 0) : Int)) 27 rfl (fun hc => ?_) (fun hc => ?_)
      · replace h := ite_t h hc
        refine G_n rfl rfl ?_
        refine G_n rfl rfl ?_
        refine G_n rfl rfl ?_
        refine G_q rfl (op_pick_t rfl (av := .exact (.bool true)) rfl ?_)
        refine G_nil ?_
        refine kI_normal ⟨_, h, ?_⟩
        exact Sub.of_le (AF.le_put (AV.le_eq rfl) (AF.le_put (AV.le_eq rfl) (AF.le_put (AV.le_eq rfl) (AF.le_top _))))
      · replace h := ite_f h hc
        refine Gy_q rfl rfl rfl (op_move (av := .exact (.int .i64 (List.length (gi y1.1 0) : Int))) rfl ?_)
        obtain ⟨n9, h⟩ := need_some h
        refine Gy_q rfl rfl rfl (op_shl rfl rfl n9 rfl ?_)
        refine Gy_q rfl rfl rfl (op_gtr rfl rfl ?_)
        refine G_q rfl (op_pick_f rfl (av := .exact (.bool (decide (4096 < (i64 (1 * 2 ^ min (Int.toNat (List.length (gi y1.1 0) : Int)) IntKind.i64.bits)))))) rfl ?_)
        refine G_nil ?_
        refine kI_normal ⟨_, h, ?_⟩
        exact Sub.of_le (AF.le_put (AV.le_eq rfl) (AF.le_put (AV.le_eq rfl) (AF.le_put (AV.le_eq rfl) (AF.le_top _))))
    · refine k_cond_b (c := x31_j7) rfl (fun hc => ?_) (fun hc => ?_)
      · replace h := ite_t h hc
        refine k_seq ?_
        refine k_reg .free hmixP (by kernel_rfl) ?_
        refine G_q rfl (op_assign (av := .exact (.string (bs ([] : List UInt8)))) rfl ?_)
        refine G_q rfl (op_assign (av := .exact (.int .i64 9)) rfl ?_)
        refine G_nil ?_
        refine kC_normal ?_
        refine k_ret ?_
        refine kC_ret ?_
        obtain rfl := Option.some.inj h
        refine kP_any (endN (af' := (AF.put (AF.put AF0 (some 2) (.exact (.string (bs ([] : List UInt8))))) (some 3) (.exact (.int .i64 9)))) (σ' := []) _ rfl ?_ ⟨rfl, rfl⟩)
        exact Sub.of_le (AF.le_put (AV.le_eq rfl) (AF.le_put (AV.le_eq rfl) (AF.le_top _)))
      · replace h := ite_f h hc
        refine k_skip ?_
        refine kC_normal ?_
        refine k_seq ?_
        refine k_reg .free hmixP (by kernel_rfl) ?_
        refine G_q rfl (op_assign (av := .exact (.slice none 0 0)) rfl ?_)
        refine G_nil ?_
        refine kC_normal ?_
        refine k_join1_1 h (fun (x7_j10 : List (List UInt8)) (v7_j10 : Value) => (AF.put AF0 (some 7) (.exact v7_j10))) (fun (x7_j10 : List (List UInt8)) (v7_j10 : Value) => [vecT Tryz.prog 33 1 c_api_Value v7_j10 x7_j10]) (fun k10 h => ?_) (fun x7_j10 v7_j10 h => ?_)
        · refine k_seq ?_
          refine k_reg .free hmixP (by kernel_rfl) ?_
          refine G_q rfl (op_move (av := .exact (.int .i64 (List.length (gi y1.1 0) : Int))) rfl ?_)
          obtain ⟨n364, h⟩ := need_some h
          refine G_q rfl (op_shl rfl rfl n364 rfl ?_)
          refine G_q rfl (op_move (av := .exact (.int .i64 0)) rfl ?_)
          refine G_nil ?_
          refine kC_normal ?_
          refine k_block ?_
          refine k_loop2_1 (m_finset_Subsets_L14 y1 k10) (m_finset_Subsets_B14 y1 k10) (fun _ _ => rfl) (fun m _ _ => rfl) h (fun (x7_l14 : List (List UInt8)) (x34_l14 : Int) (v7_l14 : Value) => (AF.put (AF.put (AF.put (AF.put AF0 (some 4) (.row 1 c_L_api_Value y1.1)) (some 7) (.exact v7_l14)) (some 33) (.exact (.int .i64 (i64 (1 * 2 ^ min (Int.toNat (List.length (gi y1.1 0) : Int)) IntKind.i64.bits))))) (some 34) (.exact (.int .i64 x34_l14)))) (fun (x7_l14 : List (List UInt8)) (x34_l14 : Int) (v7_l14 : Value) => [vecT Tryz.prog 33 1 c_api_Value v7_l14 x7_l14]) (.slice none 0 0) ?_ (fun rec14 x7_l14 x34_l14 v7_l14 h => ?_)
          · refine Sub.trans (SubU.to (SubU.nilT (P := Tryz.prog) (t := 33) (n := 1) (enc := c_api_Value))) ?_
            exact Sub.of_le (AF.le_put (AV.le_eq rfl) (AF.le_put (AV.le_eq rfl) (AF.le_put (AV.le_eq rfl) (AF.le_put (AV.le_eq rfl) (AF.le_top _)))))
          · unfold m_finset_Subsets_B14 at h
            refine k_seq ?_
            refine k_reg .free hmixP (by kernel_rfl) ?_
            refine G_q rfl (op_lss rfl rfl ?_)
            refine G_nil ?_
            refine kC_normal ?_
            refine k_seq ?_
            refine k_cond_d (p := x34_l14 < (i64 (1 * 2 ^ min (Int.toNat (List.length (gi y1.1 0) : Int)) IntKind.i64.bits))) rfl (fun hc => ?_) (fun hc => ?_)
            · replace h := ite_t h hc
              refine k_skip ?_
              refine kC_normal ?_
              refine k_join1_1 h (fun (x7_j599 : List (List UInt8)) (v7_j599 : Value) => (AF.put (AF.put (AF.put (AF.put AF0 (some 4) (.row 1 c_L_api_Value y1.1)) (some 7) (.exact v7_j599)) (some 33) (.exact (.int .i64 (i64 (1 * 2 ^ min (Int.toNat (List.length (gi y1.1 0) : Int)) IntKind.i64.bits))))) (some 34) (.exact (.int .i64 x34_l14)))) (fun (x7_j599 : List (List UInt8)) (v7_j599 : Value) => [vecT Tryz.prog 33 1 c_api_Value v7_j599 x7_j599]) (fun k599 h => ?_) (fun x7_j599 v7_j599 h => ?_)
              · refine k_block ?_
                refine k_seq ?_
                refine k_reg .free hmixP (by kernel_rfl) ?_
                refine G_q rfl (op_move (av := .exact (.int .i64 x34_l14)) rfl ?_)
                refine G_q rfl (op_assign (av := .exact (.int .i64 x34_l14)) rfl ?_)
                refine G_nil ?_
                refine kC_normal ?_
                refine k_seq ?_
                refine k_reg .free hmixP (by kernel_rfl) ?_
                refine G_q rfl (op_assign (av := .exact (.slice none 0 0)) rfl ?_)
                refine G_nil ?_
                refine kC_normal ?_
                refine k_join1_1 h (fun (x9_j658 : List (List UInt8)) (v9_j658 : Value) => (AF.put (AF.put (AF.put (AF.put (AF.put AF0 (some 4) (.row 1 c_L_api_Value y1.1)) (some 7) (.exact v7_l14)) (some 9) (.exact v9_j658)) (some 33) (.exact (.int .i64 (i64 (1 * 2 ^ min (Int.toNat (List.length (gi y1.1 0) : Int)) IntKind.i64.bits))))) (some 34) (.exact (.int .i64 x34_l14)))) (fun (x9_j658 : List (List UInt8)) (v9_j658 : Value) => [vecT Tryz.prog 33 1 c_api_Value v7_l14 x7_l14, vecT Tryz.prog 33 1 c_api_Value v9_j658 x9_j658]) (fun k658 h => ?_) (fun x9_j658 v9_j658 h => ?_)
                · refine k_seq ?_
                  refine k_reg .free hmixP (by kernel_rfl) ?_
                  refine G_q rfl (op_move (av := .row 1 c_L_api_Value y1.1) rfl ?_)
                  obtain ⟨n686, h⟩ := need_some h
                  refine G_q rfl (op_index_row (by kernel_rfl) rfl rfl n686.1 n686.2 ?_)
                  refine G_q rfl (op_load1p (a := .row 1 c_api_Value (gi y1.1 0)) (by kernel_rfl) rfl rfl ?_)
                  refine G_q rfl (op_len_row (by kernel_rfl) rfl ?_)
                  refine G_q rfl (op_move (av := .exact (.int .i64 0)) rfl ?_)
                  refine G_nil ?_
                  refine kC_normal ?_
                  refine k_block ?_
                  refine k_loop2_1 (m_finset_Subsets_L26 y1 x34_l14 k658) (m_finset_Subsets_B26 y1 x34_l14 k658) (fun _ _ => rfl) (fun m _ _ => rfl) h (fun (x9_l26 : List (List UInt8)) (x41_l26 : Int) (v9_l26 : Value) => (AF.put (AF.put (AF.put (AF.put (AF.put (AF.put (AF.put (AF.put (AF.put AF0 (some 4) (.row 1 c_L_api_Value y1.1)) (some 7) (.exact v7_l14)) (some 8) (.exact (.int .i64 x34_l14))) (some 9) (.exact v9_l26)) (some 33) (.exact (.int .i64 (i64 (1 * 2 ^ min (Int.toNat (List.length (gi y1.1 0) : Int)) IntKind.i64.bits))))) (some 34) (.exact (.int .i64 x34_l14))) (some 39) (.row 1 c_api_Value (gi y1.1 0))) (some 40) (.exact (.int .i64 (List.length (gi y1.1 0) : Int)))) (some 41) (.exact (.int .i64 x41_l26)))) (fun (x9_l26 : List (List UInt8)) (x41_l26 : Int) (v9_l26 : Value) => [vecT Tryz.prog 33 1 c_api_Value v7_l14 x7_l14, vecT Tryz.prog 33 1 c_api_Value v9_l26 x9_l26]) (.slice none 0 0) ?_ (fun rec26 x9_l26 x41_l26 v9_l26 h => ?_)
                  · refine Sub.trans (SubU.to (SubU.nilT (P := Tryz.prog) (t := 33) (n := 1) (enc := c_api_Value))) ?_
                    refine Sub.trans (SubU.to SubU.f1) ?_
                    exact Sub.of_le (AF.le_put (AV.le_eq rfl) (AF.le_put (AV.le_eq rfl) (AF.le_put (AV.le_eq rfl) (AF.le_put (AV.le_eq rfl) (AF.le_put (AV.le_eq rfl) (AF.le_put (AV.le_eq rfl) (AF.le_put (AV.le_eq rfl) (AF.le_put (AV.le_eq rfl) (AF.le_put (AV.le_eq rfl) (AF.le_top _))))))))))
                  · unfold m_finset_Subsets_B26 at h
                    refine k_seq ?_
                    refine k_reg .free hmixP (by kernel_rfl) ?_
                    refine G_q rfl (op_lss rfl rfl ?_)
                    refine G_nil ?_
                    refine kC_normal ?_
                    refine k_seq ?_
                    refine k_cond_d (p := x41_l26 < (List.length (gi y1.1 0) : Int)) rfl (fun hc => ?_) (fun hc => ?_)
                    · replace h := ite_t h hc
                      refine k_skip ?_
                      refine kC_normal ?_
                      refine k_join1_1 h (fun (x9_j703 : List (List UInt8)) (v9_j703 : Value) => (AF.put (AF.put (AF.put (AF.put (AF.put (AF.put (AF.put (AF.put (AF.put AF0 (some 4) (.row 1 c_L_api_Value y1.1)) (some 7) (.exact v7_l14)) (some 8) (.exact (.int .i64 x34_l14))) (some 9) (.exact v9_j703)) (some 33) (.exact (.int .i64 (i64 (1 * 2 ^ min (Int.toNat (List.length (gi y1.1 0) : Int)) IntKind.i64.bits))))) (some 34) (.exact (.int .i64 x34_l14))) (some 39) (.row 1 c_api_Value (gi y1.1 0))) (some 40) (.exact (.int .i64 (List.length (gi y1.1 0) : Int)))) (some 41) (.exact (.int .i64 x41_l26)))) (fun (x9_j703 : List (List UInt8)) (v9_j703 : Value) => [vecT Tryz.prog 33 1 c_api_Value v7_l14 x7_l14, vecT Tryz.prog 33 1 c_api_Value v9_j703 x9_j703]) (fun k703 h => ?_) (fun x9_j703 v9_j703 h => ?_)
                      · refine k_block ?_
                        refine k_seq ?_
                        refine k_reg .free hmixP (by kernel_rfl) ?_
                        refine G_q rfl (op_move (av := .exact (.int .i64 x41_l26)) rfl ?_)
                        obtain ⟨n708, h⟩ := need_some h
                        refine G_q rfl (op_index_row (by kernel_rfl) rfl rfl n708.1 n708.2 ?_)
                        refine G_q rfl (op_load1p (a := .exact (.string (bs (gi (gi y1.1 0) x41_l26)))) (by kernel_rfl) rfl rfl ?_)
                        refine G_q rfl (op_assign (av := .exact (.int .i64 x41_l26)) rfl ?_)
                        refine G_q rfl (op_assign (av := .exact (.string (bs (gi (gi y1.1 0) x41_l26)))) rfl ?_)
                        refine G_nil ?_
                        refine kC_normal ?_
                        refine k_seq ?_
                        refine k_reg .free hmixP (by kernel_rfl) ?_
                        refine G_q rfl (op_move (av := .exact (.int .i64 x34_l14)) rfl ?_)
                        refine G_q rfl (op_move (av := .exact (.int .i64 x41_l26)) rfl ?_)
                        obtain ⟨n709, h⟩ := need_some h
                        refine G_q rfl (op_shr rfl rfl n709 rfl ?_)
                        refine G_q rfl (op_and rfl rfl rfl ?_)
                        refine G_q rfl (op_eql rfl rfl ?_)
                        refine G_nil ?_
                        refine kC_normal ?_
                        refine k_cond_d (p := (bAnd .i64 (Int.fdiv x34_l14 (2 ^ min (Int.toNat x41_l26) IntKind.i64.bits)) 1) = 1) rfl (fun hc => ?_) (fun hc => ?_)
                        · replace h := ite_t h hc
                          refine k_reg .free hmixP (by kernel_rfl) ?_
                          refine G_q rfl (op_move (av := .exact v9_l26) rfl ?_)
                          refine G_q rfl (op_move (av := .exact (.string (bs (gi (gi y1.1 0) x41_l26)))) rfl ?_)
                          refine G_q rfl (op_litT (n := 1) (enc := c_api_Value) [gi (gi y1.1 0) x41_l26] (CellsAll.cons rfl CellsOf.str CellsAll.nil) rfl (by kernel_rfl) (LEss.cons (LEs.cons (AV.le_eq rfl) LEs.nil) LEss.nil) ?_)
                          obtain ⟨n710, h⟩ := need_some h
                          refine G_l rfl (opB_f1 (op_appT (by kernel_rfl) rfl rfl oc_c_api_Value n710 (fun v711 => ?_)))
                          refine G_q rfl (op_assign (av := .exact v711) rfl ?_)
                          refine G_nil ?_
                          refine kB_normal ?_
                          refine kI_normal ⟨_, v711, h, ?_⟩
                          refine Sub.trans (SubU.to SubU.f1) ?_
                          exact Sub.of_le (AF.le_put (AV.le_eq rfl) (AF.le_put (AV.le_eq rfl) (AF.le_put (AV.le_eq rfl) (AF.le_put (AV.le_eq rfl) (AF.le_put (AV.le_eq rfl) (AF.le_put (AV.le_eq rfl) (AF.le_put (AV.le_eq rfl) (AF.le_put (AV.le_eq rfl) (AF.le_put (AV.le_eq rfl) (AF.le_top _))))))))))
                        · replace h := ite_f h hc
                          refine k_skip ?_
                          refine kB_normal ?_
                          refine kI_normal ⟨_, v9_l26, h, ?_⟩
                          exact Sub.of_le (AF.le_put (AV.le_eq rfl) (AF.le_put (AV.le_eq rfl) (AF.le_put (AV.le_eq rfl) (AF.le_put (AV.le_eq rfl) (AF.le_put (AV.le_eq rfl) (AF.le_put (AV.le_eq rfl) (AF.le_put (AV.le_eq rfl) (AF.le_put (AV.le_eq rfl) (AF.le_put (AV.le_eq rfl) (AF.le_top _))))))))))
                      · refine k_reg .free hmixP (by kernel_rfl) ?_
                        refine G_q rfl (op_add rfl rfl rfl ?_)
                        refine G_q rfl (op_move (av := .exact (.int .i64 (i64 (x41_l26 + 1)))) rfl ?_)
                        refine G_nil ?_
                        refine kI_normal ⟨_, _, v9_j703, h, ?_⟩
                        exact Sub.of_le (AF.le_put (AV.le_eq rfl) (AF.le_put (AV.le_eq rfl) (AF.le_put (AV.le_eq rfl) (AF.le_put (AV.le_eq rfl) (AF.le_put (AV.le_eq rfl) (AF.le_put (AV.le_eq rfl) (AF.le_put (AV.le_eq rfl) (AF.le_put (AV.le_eq rfl) (AF.le_put (AV.le_eq rfl) (AF.le_top _))))))))))
                    · replace h := ite_f h hc
                      refine k_exit ?_
                      refine kC_exit ?_
                      refine kI_exit ?_
                      refine kB_exit ?_
                      refine kI_normal ⟨_, v9_l26, h, ?_⟩
                      exact Sub.of_le (AF.le_put (AV.le_eq rfl) (AF.le_put (AV.le_eq rfl) (AF.le_put (AV.le_eq rfl) (AF.le_put (AV.le_eq rfl) (AF.le_put (AV.le_eq rfl) (AF.le_top _))))))
                · refine k_reg .free hmixP (by kernel_rfl) ?_
                  refine G_q rfl (op_move (av := .exact v7_l14) rfl ?_)
                  refine G_q rfl (op_move (av := .exact v9_j658) rfl ?_)
                  refine G_sub rfl (SubU.trans SubU.f1 (SubU.freezeT2 (s1 := 9) (s2 := 57) rfl rfl len_c_api_Value)) ?_
                  obtain ⟨y712, hy712, h⟩ := bnd1_some h
                  refine G_q rfl (op_pure (m_value_Set_ok _ _ hy712) Tryz.func67 (by kernel_rfl) (LEs.cons (AV.le_eq rfl) LEs.nil) ?_)
                  refine G_q rfl (op_litT (n := 1) (enc := c_api_Value) [y712] (CellsAll.cons rfl CellsOf.str CellsAll.nil) rfl (by kernel_rfl) (LEss.cons (LEs.cons (AV.le_eq rfl) LEs.nil) LEss.nil) ?_)
                  obtain ⟨n713, h⟩ := need_some h
                  refine G_l rfl (op_appT (by kernel_rfl) rfl rfl oc_c_api_Value n713 (fun v714 => ?_))
                  refine G_q rfl (op_assign (av := .exact v714) rfl ?_)
                  refine G_nil ?_
                  refine kB_normal ?_
                  refine kI_normal ⟨_, v714, h, ?_⟩
                  exact Sub.of_le (AF.le_put (AV.le_eq rfl) (AF.le_put (AV.le_eq rfl) (AF.le_put (AV.le_eq rfl) (AF.le_put (AV.le_eq rfl) (AF.le_top _)))))
              · refine k_reg .free hmixP (by kernel_rfl) ?_
                refine G_q rfl (op_add rfl rfl rfl ?_)
                refine G_q rfl (op_move (av := .exact (.int .i64 (i64 (x34_l14 + 1)))) rfl ?_)
                refine G_nil ?_
                refine kI_normal ⟨_, _, v7_j599, h, ?_⟩
                exact Sub.of_le (AF.le_put (AV.le_eq rfl) (AF.le_put (AV.le_eq rfl) (AF.le_put (AV.le_eq rfl) (AF.le_put (AV.le_eq rfl) (AF.le_top _)))))
            · replace h := ite_f h hc
              refine k_exit ?_
              refine kC_exit ?_
              refine kI_exit ?_
              refine kB_exit ?_
              refine kI_normal ⟨_, v7_l14, h, ?_⟩
              exact Sub.of_le (AF.le_put (AV.le_eq rfl) (AF.le_top _))
        · refine k_seq ?_
          refine k_reg .free hmixP (by kernel_rfl) ?_
          refine G_q rfl (op_move (av := .exact v7_j10) rfl ?_)
          refine G_sub rfl (SubU.freezeT2 (s1 := 7) (s2 := 62) rfl rfl len_c_api_Value) ?_
          obtain ⟨y715, hy715, h⟩ := bnd1_some h
          refine G_q rfl (op_pure (m_finset_set_ok _ _ hy715) Tryz.func65 (by kernel_rfl) (LEs.cons (AV.le_eq rfl) LEs.nil) ?_)
          refine G_q rfl (op_extract (av := .exact (.string (bs y715.1))) rfl rfl ?_)
          refine G_q rfl (op_extract (av := .exact (.int .i64 y715.2)) rfl rfl ?_)
          refine G_q rfl (op_assign (av := .exact (.string (bs y715.1))) rfl ?_)
          refine G_q rfl (op_assign (av := .exact (.int .i64 y715.2)) rfl ?_)
          refine G_nil ?_
          refine kC_normal ?_
          refine k_ret ?_
          obtain rfl := Option.some.inj h
          refine kP_any (endN (af' := (AF.put (AF.put AF0 (some 2) (.exact (.string (bs y715.1)))) (some 3) (.exact (.int .i64 y715.2)))) (σ' := []) _ rfl ?_ ⟨rfl, rfl⟩)
          exact Sub.of_le (AF.le_put (AV.le_eq rfl) (AF.le_put (AV.le_eq rfl) (AF.le_top _)))
set_option maxHeartbeats 4000000 in
theorem m_finset_sets_ok (a0 : List UInt8) (r : (List (List (List UInt8))) × Int) (h : m_finset_sets a0 = some r) : Pure Tryz.prog 68 [(.exact (.string (bs a0)))] (.tup [.row 1 c_L_api_Value r.1, .exact (.int .i64 r.2)]) := by
  unfold m_finset_sets at h
  refine Pure.ofFun (fun_of_awp Tryz.func68 rfl Tryz.ntmps68 (by simp) rfl (res2 rfl) fun E hE => k_end ?_)
  refine k_seq ?_
  refine k_reg .free hmixP (by kernel_rfl) ?_
  refine G_q rfl (op_assign (av := .exact (.slice none 0 0)) rfl ?_)
  refine G_q rfl (op_assign (av := .exact (.int .i64 0)) rfl ?_)
  refine G_nil ?_
  refine kC_normal ?_
  refine k_seq ?_
  refine k_reg .free hmixP (by kernel_rfl) ?_
  refine G_q rfl (op_move (av := .exact (.string (bs a0))) rfl ?_)
  refine G_q rfl (op_litT (n := 1) (enc := c_api_Value) [a0] (CellsAll.cons rfl CellsOf.str CellsAll.nil) rfl (by kernel_rfl) (LEss.cons (LEs.cons (AV.le_eq rfl) LEs.nil) LEss.nil) ?_)
  obtain ⟨y1, hy1, h⟩ := bnd1_some h
  refine G_q rfl (op_pure (m_finset_elements_ok _ _ hy1) Tryz.func66 (by kernel_rfl) (LEs.cons (AV.le_eq rfl) LEs.nil) ?_)
  refine G_q rfl (op_move (av := .tup [.row 1 c_L_api_Value y1.1, .exact (.int .i64 y1.2)]) rfl ?_)
  refine G_q rfl (op_extract (av := .row 1 c_L_api_Value y1.1) rfl rfl ?_)
  refine G_q rfl (op_extract (av := .exact (.int .i64 y1.2)) rfl rfl ?_)
  refine G_q rfl (op_assign (av := .row 1 c_L_api_Value y1.1) rfl ?_)
  refine G_q rfl (op_assign (av := .exact (.int .i64 y1.2)) rfl ?_)
  refine G_nil ?_
  refine kC_normal ?_
  refine k_seq ?_
  refine k_seq ?_
  refine k_reg .free hmixP (by kernel_rfl) ?_
  refine G_q rfl (op_move (av := .exact (.int .i64 y1.2)) rfl ?_)
  refine G_q rfl (op_neq rfl rfl ?_)
  refine G_nil ?_
  refine kC_normal ?_
  refine k_cond_d (p := ¬ y1.2 = 0) rfl (fun hc => ?_) (fun hc => ?_)
  · replace h := ite_t h hc
    refine k_seq ?_
    refine k_reg .free hmixP (by kernel_rfl) ?_
    refine G_q rfl (op_move (av := .exact (.int .i64 y1.2)) rfl ?_)
    refine G_q rfl (op_assign (av := .exact (.slice none 0 0)) rfl ?_)
    refine G_q rfl (op_assign (av := .exact (.int .i64 y1.2)) rfl ?_)
    refine G_nil ?_
    refine kC_normal ?_
    refine k_ret ?_
    refine kC_ret ?_
    obtain rfl := Option.some.inj h
    refine kP_any (endN (af' := (AF.put (AF.put AF0 (some 2) (.row 1 c_L_api_Value [])) (some 3) (.exact (.int .i64 y1.2)))) (σ' := []) _ rfl ?_ ⟨rfl, rfl⟩)
    exact Sub.of_le (AF.le_put (AV.le_eq rfl) (AF.le_put (row_nil (by decide)) (AF.le_top _)))
  · replace h := ite_f h hc
    refine k_skip ?_
    refine kC_normal ?_
    refine k_seq ?_
    refine k_reg .free hmixP (by kernel_rfl) ?_
    refine G_q rfl (op_move (av := .row 1 c_L_api_Value y1.1) rfl ?_)
    obtain ⟨n2, h⟩ := need_some h
    refine G_q rfl (op_index_row (by kernel_rfl) rfl rfl n2.1 n2.2 ?_)
    refine G_q rfl (op_load1p (a := .row 1 c_api_Value (gi y1.1 0)) (by kernel_rfl) rfl rfl ?_)
    obtain ⟨y3, hy3, h⟩ := bnd1_some h
    refine G_q rfl (op_pure (m_finset_elements_ok _ _ hy3) Tryz.func66 (by kernel_rfl) (LEs.cons (AV.le_eq rfl) LEs.nil) ?_)
    refine G_q rfl (op_extract (av := .row 1 c_L_api_Value y3.1) rfl rfl ?_)
    refine G_q rfl (op_extract (av := .exact (.int .i64 y3.2)) rfl rfl ?_)
    refine G_q rfl (op_assign (av := .row 1 c_L_api_Value y3.1) rfl ?_)
    refine G_q rfl (op_assign (av := .exact (.int .i64 y3.2)) rfl ?_)
    refine G_nil ?_
    refine kC_normal ?_
    refine k_ret ?_
    obtain rfl := Option.some.inj h
    refine kP_any (endN (af' := (AF.put (AF.put AF0 (some 2) (.row 1 c_L_api_Value y3.1)) (some 3) (.exact (.int .i64 y3.2)))) (σ' := []) _ rfl ?_ ⟨rfl, rfl⟩)
    exact Sub.of_le (AF.le_put (AV.le_eq rfl) (AF.le_put (AV.le_eq rfl) (AF.le_top _)))
set_option maxHeartbeats 4000000 in
theorem m_finset_merge_ok (a0 : List (List UInt8)) (a1 : List (List UInt8)) (a2 : Bool → Bool → Option Bool) (r : (List (List UInt8))) (h : m_finset_merge a0 a1 a2 = some r) : Pure Tryz.prog 69 [(.row 1 c_api_Value a0), (.row 1 c_api_Value a1), (.fn Tryz.prog (fun (i : Bool × Bool) => [.exact (.bool i.1), .exact (.bool i.2)]) (fun (i : Bool × Bool) => a2 i.1 i.2) (fun (r : Bool) => .exact (.bool r)))] (.row 1 c_api_Value r) := by
  unfold m_finset_merge at h
  refine Pure.ofFun (fun_of_awp Tryz.func69 rfl Tryz.ntmps69 (by simp) rfl (res1 rfl) fun E hE => k_end ?_)
  refine k_seq ?_
  refine k_reg .free hmixP (by kernel_rfl) ?_
  refine G_q rfl (op_assign (av := .exact (.slice none 0 0)) rfl ?_)
  refine G_nil ?_
  refine kC_normal ?_
  refine k_seq ?_
  refine k_reg .free hmixP (by kernel_rfl) ?_
  refine G_q rfl (op_assign (av := .exact (.slice none 0 0)) rfl ?_)
  refine G_nil ?_
  refine kC_normal ?_
  refine k_join1_1 h (fun (x7_j1 : List (List UInt8)) (v7_j1 : Value) => (AF.put AF0 (some 7) (.exact v7_j1))) (fun (x7_j1 : List (List UInt8)) (v7_j1 : Value) => [vecT Tryz.prog 33 1 c_api_Value v7_j1 x7_j1]) (fun k1 h => ?_) (fun x7_j1 v7_j1 h => ?_)
  · refine k_seq ?_
    refine k_reg .free hmixP (by kernel_rfl) ?_
    refine G_q rfl (op_assign (av := .exact (.int .i64 0)) rfl ?_)
    refine G_q rfl (op_assign (av := .exact (.int .i64 0)) rfl ?_)
    refine G_nil ?_
    refine kC_normal ?_
    refine k_block ?_
    refine k_loop3_1 (m_finset_merge_L2 a0 a1 a2 k1) (m_finset_merge_B2 a0 a1 a2 k1) (fun _ _ _ => rfl) (fun m _ _ _ => rfl) h (fun (x7_l2 : List (List UInt8)) (x8_l2 : Int) (x9_l2 : Int) (v7_l2 : Value) => (AF.put (AF.put (AF.put (AF.put (AF.put (AF.put AF0 (some 0) (.row 1 c_api_Value a0)) (some 1) (.row 1 c_api_Value a1)) (some 2) (.fn Tryz.prog (fun (i : Bool × Bool) => [.exact (.bool i.1), .exact (.bool i.2)]) (fun (i : Bool × Bool) => a2 i.1 i.2) (fun (r : Bool) => .exact (.bool r)))) (some 7) (.exact v7_l2)) (some 8) (.exact (.int .i64 x8_l2))) (some 9) (.exact (.int .i64 x9_l2)))) (fun (x7_l2 : List (List UInt8)) (x8_l2 : Int) (x9_l2 : Int) (v7_l2 : Value) => [vecT Tryz.prog 33 1 c_api_Value v7_l2 x7_l2]) (.slice none 0 0) ?_ (fun rec2 x7_l2 x8_l2 x9_l2 v7_l2 h => ?_)
    · refine Sub.trans (SubU.to (SubU.nilT (P := Tryz.prog) (t := 33) (n := 1) (enc := c_api_Value))) ?_
      exact Sub.of_le (AF.le_put (AV.le_eq rfl) (AF.le_put (AV.le_eq rfl) (AF.le_put (AV.le_eq rfl) (AF.le_put (AV.le_eq rfl) (AF.le_put (AV.le_eq rfl) (AF.le_put (AV.le_eq rfl) (AF.le_top _)))))))
    · unfold m_finset_merge_B2 at h
      refine k_seq ?_
      refine k_join1_0 h (fun (x21_j100 : Bool) => (AF.put (AF.put (AF.put (AF.put (AF.put (AF.put (AF.put AF0 (some 0) (.row 1 c_api_Value a0)) (some 1) (.row 1 c_api_Value a1)) (some 2) (.fn Tryz.prog (fun (i : Bool × Bool) => [.exact (.bool i.1), .exact (.bool i.2)]) (fun (i : Bool × Bool) => a2 i.1 i.2) (fun (r : Bool) => .exact (.bool r)))) (some 7) (.exact v7_l2)) (some 8) (.exact (.int .i64 x8_l2))) (some 9) (.exact (.int .i64 x9_l2))) (some 21) (.exact (.bool x21_j100)))) (fun (x21_j100 : Bool) => [vecT Tryz.prog 33 1 c_api_Value v7_l2 x7_l2]) (fun k100 h => ?_) (fun x21_j100 h => ?_)
      · refine k_reg .free hmixP (by kernel_rfl) ?_
        refine G_q rfl (op_move (av := .exact (.int .i64 x8_l2)) rfl ?_)
        refine G_q rfl (op_move (av := .row 1 c_api_Value a0) rfl ?_)
        refine G_q rfl (op_len_row (by kernel_rfl) rfl ?_)
        refine G_q rfl (op_lss rfl rfl ?_)
        refine G_q rfl (op_move (av := .exact (.bool (decide (x8_l2 < (List.length a0 : Int))))) rfl ?_)
        refine G_split (p := x8_l2 < (List.length a0 : Int)) 16 rfl (fun hc => ?_) (fun hc => ?_)
        · replace h := ite_t h hc
          refine G_n rfl rfl ?_
          refine G_n rfl rfl ?_
          refine G_n rfl rfl ?_
          refine G_n rfl rfl ?_
          refine G_q rfl (op_pick_t rfl (av := .exact (.bool true)) rfl ?_)
          refine G_nil ?_
          refine kI_normal ⟨_, h, ?_⟩
          exact Sub.of_le (AF.le_put (AV.le_eq rfl) (AF.le_put (AV.le_eq rfl) (AF.le_put (AV.le_eq rfl) (AF.le_put (AV.le_eq rfl) (AF.le_put (AV.le_eq rfl) (AF.le_put (AV.le_eq rfl) (AF.le_put (AV.le_eq rfl) (AF.le_top _))))))))
        · replace h := ite_f h hc
          refine Gy_q rfl rfl rfl (op_move (av := .exact (.int .i64 x9_l2)) rfl ?_)
          refine Gy_q rfl rfl rfl (op_move (av := .row 1 c_api_Value a1) rfl ?_)
          refine Gy_q rfl rfl rfl (op_len_row (by kernel_rfl) rfl ?_)
          refine Gy_q rfl rfl rfl (op_lss rfl rfl ?_)
          refine G_q rfl (op_pick_f rfl (av := .exact (.bool (decide (x9_l2 < (List.length a1 : Int))))) rfl ?_)
          refine G_nil ?_
          refine kI_normal ⟨_, h, ?_⟩
          exact Sub.of_le (AF.le_put (AV.le_eq rfl) (AF.le_put (AV.le_eq rfl) (AF.le_put (AV.le_eq rfl) (AF.le_put (AV.le_eq rfl) (AF.le_put (AV.le_eq rfl) (AF.le_put (AV.le_eq rfl) (AF.le_put (AV.le_eq rfl) (AF.le_top _))))))))
      · refine k_cond_b (c := x21_j100) rfl (fun hc => ?_) (fun hc => ?_)
        · replace h := ite_t h hc
          refine k_skip ?_
          refine kC_normal ?_
          refine k_block ?_
          refine k_seq ?_
          refine k_reg .free hmixP (by kernel_rfl) ?_
          refine G_q rfl (op_assign (av := .exact (.int .i64 0)) rfl ?_)
          refine G_nil ?_
          refine kC_normal ?_
          refine k_join1_0 h (fun (x10_j101 : Int) => (AF.put (AF.put (AF.put (AF.put (AF.put (AF.put (AF.put AF0 (some 0) (.row 1 c_api_Value a0)) (some 1) (.row 1 c_api_Value a1)) (some 2) (.fn Tryz.prog (fun (i : Bool × Bool) => [.exact (.bool i.1), .exact (.bool i.2)]) (fun (i : Bool × Bool) => a2 i.1 i.2) (fun (r : Bool) => .exact (.bool r)))) (some 7) (.exact v7_l2)) (some 8) (.exact (.int .i64 x8_l2))) (some 9) (.exact (.int .i64 x9_l2))) (some 10) (.exact (.int .i64 x10_j101)))) (fun (x10_j101 : Int) => [vecT Tryz.prog 33 1 c_api_Value v7_l2 x7_l2]) (fun k101 h => ?_) (fun x10_j101 h => ?_)
          · refine k_block ?_
            refine k_seq ?_
            refine k_reg .free hmixP (by kernel_rfl) ?_
            refine G_q rfl (op_move (av := .exact (.int .i64 x8_l2)) rfl ?_)
            refine G_q rfl (op_move (av := .row 1 c_api_Value a0) rfl ?_)
            refine G_q rfl (op_len_row (by kernel_rfl) rfl ?_)
            refine G_q rfl (op_eql rfl rfl ?_)
            refine G_q rfl (op_assign (av := .exact (.bool (decide (x8_l2 = (List.length a0 : Int))))) rfl ?_)
            refine G_nil ?_
            refine kC_normal ?_
            refine k_cond_d (p := x8_l2 = (List.length a0 : Int)) rfl (fun hc => ?_) (fun hc => ?_)
            · replace h := ite_t h hc
              refine k_reg .free hmixP (by kernel_rfl) ?_
              refine G_q rfl (op_assign (av := .exact (.int .i64 1)) rfl ?_)
              refine G_nil ?_
              refine kB_normal ?_
              refine kI_normal ⟨_, h, ?_⟩
              exact Sub.of_le (AF.le_put (AV.le_eq rfl) (AF.le_put (AV.le_eq rfl) (AF.le_put (AV.le_eq rfl) (AF.le_put (AV.le_eq rfl) (AF.le_put (AV.le_eq rfl) (AF.le_put (AV.le_eq rfl) (AF.le_put (AV.le_eq rfl) (AF.le_top _))))))))
            · replace h := ite_f h hc
              refine k_seq ?_
              refine k_reg .free hmixP (by kernel_rfl) ?_
              refine G_q rfl (op_move (av := .exact (.int .i64 x9_l2)) rfl ?_)
              refine G_q rfl (op_move (av := .row 1 c_api_Value a1) rfl ?_)
              refine G_q rfl (op_len_row (by kernel_rfl) rfl ?_)
              refine G_q rfl (op_eql rfl rfl ?_)
              refine G_q rfl (op_assign (av := .exact (.bool (decide (x9_l2 = (List.length a1 : Int))))) rfl ?_)
              refine G_nil ?_
              refine kC_normal ?_
              refine k_cond_d (p := x9_l2 = (List.length a1 : Int)) rfl (fun hc => ?_) (fun hc => ?_)
              · replace h := ite_t h hc
                refine k_reg .free hmixP (by kernel_rfl) ?_
                refine G_q rfl (op_assign (av := .exact (.int .i64 (-1))) rfl ?_)
                refine G_nil ?_
                refine kB_normal ?_
                refine kI_normal ⟨_, h, ?_⟩
                exact Sub.of_le (AF.le_put (AV.le_eq rfl) (AF.le_put (AV.le_eq rfl) (AF.le_put (AV.le_eq rfl) (AF.le_put (AV.le_eq rfl) (AF.le_put (AV.le_eq rfl) (AF.le_put (AV.le_eq rfl) (AF.le_put (AV.le_eq rfl) (AF.le_top _))))))))
              · replace h := ite_f h hc
                refine k_plan [] [(0, 0), (0, 1), (0, 2), (0, 3), (0, 4), (0, 5), (0, 6), (0, 7), (0, 8), (0, 9)] hmixP (by kernel_rfl) ?_
                refine P_q no34_0 rfl (op_move (av := .row 1 c_api_Value a0) rfl ?_)
                refine P_q no34_0 rfl (op_move (av := .exact (.int .i64 x8_l2)) rfl ?_)
                obtain ⟨n105, h⟩ := need_some h
                refine P_q no34_0 rfl (op_index_row (by kernel_rfl) rfl rfl n105.1 n105.2 ?_)
                refine P_q no34_0 rfl (op_load1p (a := .exact (.string (bs (gi a0 x8_l2)))) (by kernel_rfl) rfl rfl ?_)
                refine P_q no34_0 rfl (op_move (av := .row 1 c_api_Value a1) rfl ?_)
                refine P_q no34_0 rfl (op_move (av := .exact (.int .i64 x9_l2)) rfl ?_)
                obtain ⟨n106, h⟩ := need_some h
                refine P_q no34_0 rfl (op_index_row (by kernel_rfl) rfl rfl n106.1 n106.2 ?_)
                refine P_q no34_0 rfl (op_load1p (a := .exact (.string (bs (gi a1 x9_l2)))) (by kernel_rfl) rfl rfl ?_)
                obtain ⟨y107, hy107, h⟩ := bnd1_some h
                refine P_q no34_0 rfl (op_pure (m_value_Compare_ok _ _ _ hy107) Tryz.func88 (by kernel_rfl) (LEs.cons (AV.le_eq rfl) (LEs.cons (AV.le_eq rfl) LEs.nil)) ?_)
                refine P_q no34_0 rfl (op_assign (av := .exact (.int .i64 y107)) rfl ?_)
                refine P_nil ?_
                refine kB_normal ?_
                refine kI_normal ⟨_, h, ?_⟩
                exact Sub.of_le (AF.le_put (AV.le_eq rfl) (AF.le_put (AV.le_eq rfl) (AF.le_put (AV.le_eq rfl) (AF.le_put (AV.le_eq rfl) (AF.le_put (AV.le_eq rfl) (AF.le_put (AV.le_eq rfl) (AF.le_put (AV.le_eq rfl) (AF.le_top _))))))))
          · refine k_seq ?_
            refine k_reg .free hmixP (by kernel_rfl) ?_
            refine G_q rfl (op_assign (av := .exact (.string (bs ([] : List UInt8)))) rfl ?_)
            refine G_nil ?_
            refine kC_normal ?_
            refine k_join2_0 h (fun (x8_j108 : Int) (x11_j108 : List UInt8) => (AF.put (AF.put (AF.put (AF.put (AF.put (AF.put (AF.put (AF.put AF0 (some 0) (.row 1 c_api_Value a0)) (some 1) (.row 1 c_api_Value a1)) (some 2) (.fn Tryz.prog (fun (i : Bool × Bool) => [.exact (.bool i.1), .exact (.bool i.2)]) (fun (i : Bool × Bool) => a2 i.1 i.2) (fun (r : Bool) => .exact (.bool r)))) (some 7) (.exact v7_l2)) (some 8) (.exact (.int .i64 x8_j108))) (some 9) (.exact (.int .i64 x9_l2))) (some 10) (.exact (.int .i64 x10_j101))) (some 11) (.exact (.string (bs x11_j108))))) (fun (x8_j108 : Int) (x11_j108 : List UInt8) => [vecT Tryz.prog 33 1 c_api_Value v7_l2 x7_l2]) (fun k108 h => ?_) (fun x8_j108 x11_j108 h => ?_)
            · refine k_seq ?_
              refine k_reg .free hmixP (by kernel_rfl) ?_
              refine G_q rfl (op_move (av := .exact (.int .i64 x10_j101)) rfl ?_)
              refine G_q rfl (op_leq rfl rfl ?_)
              refine G_nil ?_
              refine kC_normal ?_
              refine k_cond_d (p := x10_j101 ≤ 0) rfl (fun hc => ?_) (fun hc => ?_)
              · replace h := ite_t h hc
                refine k_seq ?_
                refine k_reg .free hmixP (by kernel_rfl) ?_
                refine G_q rfl (op_move (av := .row 1 c_api_Value a0) rfl ?_)
                refine G_q rfl (op_move (av := .exact (.int .i64 x8_l2)) rfl ?_)
                obtain ⟨n110, h⟩ := need_some h
                refine G_q rfl (op_index_row (by kernel_rfl) rfl rfl n110.1 n110.2 ?_)
                refine G_q rfl (op_load1p (a := .exact (.string (bs (gi a0 x8_l2)))) (by kernel_rfl) rfl rfl ?_)
                refine G_q rfl (op_assign (av := .exact (.string (bs (gi a0 x8_l2)))) rfl ?_)
                refine G_nil ?_
                refine kC_normal ?_
                refine k_reg .free hmixP (by kernel_rfl) ?_
                refine G_q rfl (op_move (av := .exact (.int .i64 x8_l2)) rfl ?_)
                refine G_q rfl (op_add rfl rfl rfl ?_)
                refine G_q rfl (op_assign (av := .exact (.int .i64 (i64 (x8_l2 + 1)))) rfl ?_)
                refine G_nil ?_
                refine kI_normal ⟨_, _, h, ?_⟩
                exact Sub.of_le (AF.le_put (AV.le_eq rfl) (AF.le_put (AV.le_eq rfl) (AF.le_put (AV.le_eq rfl) (AF.le_put (AV.le_eq rfl) (AF.le_put (AV.le_eq rfl) (AF.le_put (AV.le_eq rfl) (AF.le_put (AV.le_eq rfl) (AF.le_put (AV.le_eq rfl) (AF.le_top _)))))))))
              · replace h := ite_f h hc
                refine k_skip ?_
                refine kI_normal ⟨_, _, h, ?_⟩
                exact Sub.of_le (AF.le_put (AV.le_eq rfl) (AF.le_put (AV.le_eq rfl) (AF.le_put (AV.le_eq rfl) (AF.le_put (AV.le_eq rfl) (AF.le_put (AV.le_eq rfl) (AF.le_put (AV.le_eq rfl) (AF.le_put (AV.le_eq rfl) (AF.le_put (AV.le_eq rfl) (AF.le_top _)))))))))
            · refine k_join2_0 h (fun (x9_j111 : Int) (x11_j111 : List UInt8) => (AF.put (AF.put (AF.put (AF.put (AF.put (AF.put (AF.put (AF.put AF0 (some 0) (.row 1 c_api_Value a0)) (some 1) (.row 1 c_api_Value a1)) (some 2) (.fn Tryz.prog (fun (i : Bool × Bool) => [.exact (.bool i.1), .exact (.bool i.2)]) (fun (i : Bool × Bool) => a2 i.1 i.2) (fun (r : Bool) => .exact (.bool r)))) (some 7) (.exact v7_l2)) (some 8) (.exact (.int .i64 x8_j108))) (some 9) (.exact (.int .i64 x9_j111))) (some 10) (.exact (.int .i64 x10_j101))) (some 11) (.exact (.string (bs x11_j111))))) (fun (x9_j111 : Int) (x11_j111 : List UInt8) => [vecT Tryz.prog 33 1 c_api_Value v7_l2 x7_l2]) (fun k111 h => ?_) (fun x9_j111 x11_j111 h => ?_)
              · refine k_seq ?_
                refine k_reg .free hmixP (by kernel_rfl) ?_
                refine G_q rfl (op_move (av := .exact (.int .i64 x10_j101)) rfl ?_)
                refine G_q rfl (op_geq rfl rfl ?_)
                refine G_nil ?_
                refine kC_normal ?_
                refine k_cond_d (p := 0 ≤ x10_j101) rfl (fun hc => ?_) (fun hc => ?_)
                · replace h := ite_t h hc
                  refine k_seq ?_
                  refine k_reg .free hmixP (by kernel_rfl) ?_
                  refine G_q rfl (op_move (av := .row 1 c_api_Value a1) rfl ?_)
                  refine G_q rfl (op_move (av := .exact (.int .i64 x9_l2)) rfl ?_)
                  obtain ⟨n113, h⟩ := need_some h
                  refine G_q rfl (op_index_row (by kernel_rfl) rfl rfl n113.1 n113.2 ?_)
                  refine G_q rfl (op_load1p (a := .exact (.string (bs (gi a1 x9_l2)))) (by kernel_rfl) rfl rfl ?_)
                  refine G_q rfl (op_assign (av := .exact (.string (bs (gi a1 x9_l2)))) rfl ?_)
                  refine G_nil ?_
                  refine kC_normal ?_
                  refine k_reg .free hmixP (by kernel_rfl) ?_
                  refine G_q rfl (op_move (av := .exact (.int .i64 x9_l2)) rfl ?_)
                  refine G_q rfl (op_add rfl rfl rfl ?_)
                  refine G_q rfl (op_assign (av := .exact (.int .i64 (i64 (x9_l2 + 1)))) rfl ?_)
                  refine G_nil ?_
                  refine kI_normal ⟨_, _, h, ?_⟩
                  exact Sub.of_le (AF.le_put (AV.le_eq rfl) (AF.le_put (AV.le_eq rfl) (AF.le_put (AV.le_eq rfl) (AF.le_put (AV.le_eq rfl) (AF.le_put (AV.le_eq rfl) (AF.le_put (AV.le_eq rfl) (AF.le_put (AV.le_eq rfl) (AF.le_put (AV.le_eq rfl) (AF.le_top _)))))))))
                · replace h := ite_f h hc
                  refine k_skip ?_
                  refine kI_normal ⟨_, _, h, ?_⟩
                  exact Sub.of_le (AF.le_put (AV.le_eq rfl) (AF.le_put (AV.le_eq rfl) (AF.le_put (AV.le_eq rfl) (AF.le_put (AV.le_eq rfl) (AF.le_put (AV.le_eq rfl) (AF.le_put (AV.le_eq rfl) (AF.le_put (AV.le_eq rfl) (AF.le_put (AV.le_eq rfl) (AF.le_top _)))))))))
              · refine k_seq ?_
                refine k_reg .free hmixP (by kernel_rfl) ?_
                refine G_q rfl (op_move (av := .fn Tryz.prog (fun (i : Bool × Bool) => [.exact (.bool i.1), .exact (.bool i.2)]) (fun (i : Bool × Bool) => a2 i.1 i.2) (fun (r : Bool) => .exact (.bool r))) rfl ?_)
                refine G_q rfl (op_move (av := .exact (.int .i64 x10_j101)) rfl ?_)
                refine G_q rfl (op_leq rfl rfl ?_)
                refine G_q rfl (op_move (av := .exact (.int .i64 x10_j101)) rfl ?_)
                refine G_q rfl (op_geq rfl rfl ?_)
                obtain ⟨y114, hy114, h⟩ := bnd1_some h
                refine G_q rfl (op_callfn (decide (x10_j101 ≤ 0), decide (0 ≤ x10_j101)) rfl hy114 (LEs.cons (AV.le_eq rfl) (LEs.cons (AV.le_eq rfl) LEs.nil)) ?_)
                refine G_nil ?_
                refine kC_normal ?_
                refine k_cond_b (c := y114) rfl (fun hc => ?_) (fun hc => ?_)
                · replace h := ite_t h hc
                  refine k_reg .free hmixP (by kernel_rfl) ?_
                  refine G_q rfl (op_move (av := .exact v7_l2) rfl ?_)
                  refine G_q rfl (op_move (av := .exact (.string (bs x11_j111))) rfl ?_)
                  refine G_q rfl (op_litT (n := 1) (enc := c_api_Value) [x11_j111] (CellsAll.cons rfl CellsOf.str CellsAll.nil) rfl (by kernel_rfl) (LEss.cons (LEs.cons (AV.le_eq rfl) LEs.nil) LEss.nil) ?_)
                  obtain ⟨n115, h⟩ := need_some h
                  refine G_l rfl (op_appT (by kernel_rfl) rfl rfl oc_c_api_Value n115 (fun v116 => ?_))
                  refine G_q rfl (op_assign (av := .exact v116) rfl ?_)
                  refine G_nil ?_
                  refine kB_normal ?_
                  refine kI_normal ⟨_, _, _, v116, h, ?_⟩
                  exact Sub.of_le (AF.le_put (AV.le_eq rfl) (AF.le_put (AV.le_eq rfl) (AF.le_put (AV.le_eq rfl) (AF.le_put (AV.le_eq rfl) (AF.le_put (AV.le_eq rfl) (AF.le_put (AV.le_eq rfl) (AF.le_top _)))))))
                · replace h := ite_f h hc
                  refine k_skip ?_
                  refine kB_normal ?_
                  refine kI_normal ⟨_, _, _, v7_l2, h, ?_⟩
                  exact Sub.of_le (AF.le_put (AV.le_eq rfl) (AF.le_put (AV.le_eq rfl) (AF.le_put (AV.le_eq rfl) (AF.le_put (AV.le_eq rfl) (AF.le_put (AV.le_eq rfl) (AF.le_put (AV.le_eq rfl) (AF.le_top _)))))))
        · replace h := ite_f h hc
          refine k_exit ?_
          refine kC_exit ?_
          refine kI_exit ?_
          refine kB_exit ?_
          refine kI_normal ⟨_, v7_l2, h, ?_⟩
          exact Sub.of_le (AF.le_put (AV.le_eq rfl) (AF.le_top _))
  · refine k_seq ?_
    refine k_reg .free hmixP (by kernel_rfl) ?_
    refine G_q rfl (op_move (av := .exact v7_j1) rfl ?_)
    refine G_q rfl (op_assign (av := .exact v7_j1) rfl ?_)
    refine G_nil ?_
    refine kC_normal ?_
    refine k_ret ?_
    obtain rfl := Option.some.inj h
    refine kP_any (endN (af' := (AF.put AF0 (some 6) (.row 1 c_api_Value x7_j1))) (σ' := []) _ rfl ?_ ⟨rfl, rfl⟩)
    refine Sub.trans (SubU.to (SubU.freezeT (s := 6) rfl len_c_api_Value)) ?_
    exact Sub.of_le (AF.le_put (AV.le_eq rfl) (AF.le_top _))
set_option maxHeartbeats 4000000 in
theorem m_finset_common_ok (a0 : Bool) (a1 : Bool) (r : Bool) (h : m_finset_common a0 a1 = some r) : Pure Tryz.prog 70 [(.exact (.bool a0)), (.exact (.bool a1))] (.exact (.bool r)) := by
  unfold m_finset_common at h
  refine Pure.ofFun (fun_of_awp Tryz.func70 rfl Tryz.ntmps70 (by simp) rfl (res1 rfl) fun E hE => k_end ?_)
  refine k_seq ?_
  refine k_reg .free hmixP (by kernel_rfl) ?_
  refine G_q rfl (op_assign (av := .exact (.bool false)) rfl ?_)
  refine G_nil ?_
  refine kC_normal ?_
  refine k_join1_0 h (fun (x4_j1 : Bool) => (AF.put AF0 (some 4) (.exact (.bool x4_j1)))) (fun (x4_j1 : Bool) => []) (fun k1 h => ?_) (fun x4_j1 h => ?_)
  · refine k_reg .free hmixP (by kernel_rfl) ?_
    refine G_q rfl (op_move (av := .exact (.bool a0)) rfl ?_)
    refine G_q rfl (op_move (av := .exact (.bool a0)) rfl ?_)
    refine G_splitB (c := a0) 6 rfl (fun hc => ?_) (fun hc => ?_)
    · replace h := ite_t h hc
      refine Gy_q rfl rfl rfl (op_move (av := .exact (.bool a1)) rfl ?_)
      refine G_q rfl (op_pick_t rfl (av := .exact (.bool a1)) rfl ?_)
      refine G_q rfl (op_assign (av := .exact (.bool a1)) rfl ?_)
      refine G_nil ?_
      refine kI_normal ⟨_, h, ?_⟩
      exact Sub.of_le (AF.le_put (AV.le_eq rfl) (AF.le_top _))
    · replace h := ite_f h hc
      refine G_n rfl rfl ?_
      refine G_q rfl (op_pick_f rfl (av := .exact (.bool false)) rfl ?_)
      refine G_q rfl (op_assign (av := .exact (.bool false)) rfl ?_)
      refine G_nil ?_
      refine kI_normal ⟨_, h, ?_⟩
      exact Sub.of_le (AF.le_put (AV.le_eq rfl) (AF.le_top _))
  · refine k_ret ?_
    obtain rfl := Option.some.inj h
    refine kP_any (endN (af' := (AF.put AF0 (some 4) (.exact (.bool x4_j1)))) (σ' := []) _ rfl ?_ ⟨rfl, rfl⟩)
    exact Sub.of_le (AF.le_put (AV.le_eq rfl) (AF.le_top _))
set_option maxHeartbeats 4000000 in
theorem m_finset_BigInter_ok (a0 : List UInt8) (r : (List UInt8) × Int) (h : m_finset_BigInter a0 = some r) : Pure Tryz.prog 27 [(.exact (.string (bs a0)))] (.tup [.exact (.string (bs r.1)), .exact (.int .i64 r.2)]) := by
  unfold m_finset_BigInter at h
  refine Pure.ofFun (fun_of_awp Tryz.func27 rfl Tryz.ntmps27 (by simp) rfl (res2 rfl) fun E hE => k_end ?_)
  refine k_seq ?_
  refine k_reg .free hmixP (by kernel_rfl) ?_
  refine G_q rfl (op_assign (av := .exact (.string (bs ([] : List UInt8)))) rfl ?_)
  refine G_q rfl (op_assign (av := .exact (.int .i64 0)) rfl ?_)
  refine G_nil ?_
  refine kC_normal ?_
  refine k_seq ?_
  refine k_reg .free hmixP (by kernel_rfl) ?_
  refine G_q rfl (op_move (av := .exact (.string (bs a0))) rfl ?_)
  obtain ⟨y1, hy1, h⟩ := bnd1_some h
  refine G_q rfl (op_pure (m_finset_sets_ok _ _ hy1) Tryz.func68 (by kernel_rfl) (LEs.cons (AV.le_eq rfl) LEs.nil) ?_)
  refine G_q rfl (op_move (av := .tup [.row 1 c_L_api_Value y1.1, .exact (.int .i64 y1.2)]) rfl ?_)
  refine G_q rfl (op_extract (av := .row 1 c_L_api_Value y1.1) rfl rfl ?_)
  refine G_q rfl (op_extract (av := .exact (.int .i64 y1.2)) rfl rfl ?_)
  refine G_q rfl (op_assign (av := .row 1 c_L_api_Value y1.1) rfl ?_)
  refine G_q rfl (op_assign (av := .exact (.int .i64 y1.2)) rfl ?_)
  refine G_nil ?_
  refine kC_normal ?_
  refine k_seq ?_
  refine k_block ?_
  refine k_seq ?_
  refine k_reg .free hmixP (by kernel_rfl) ?_
  refine G_q rfl (op_move (av := .exact (.int .i64 y1.2)) rfl ?_)
  refine G_q rfl (op_neq rfl rfl ?_)
  refine G_q rfl (op_assign (av := .exact (.bool (decide (¬ y1.2 = 0)))) rfl ?_)
  refine G_nil ?_
  refine kC_normal ?_
  refine k_cond_d (p := ¬ y1.2 = 0) rfl (fun hc => ?_) (fun hc => ?_)
  · replace h := ite_t h hc
    refine k_seq ?_
    refine k_reg .free hmixP (by kernel_rfl) ?_
    refine G_q rfl (op_move (av := .exact (.int .i64 y1.2)) rfl ?_)
    refine G_q rfl (op_assign (av := .exact (.string (bs ([] : List UInt8)))) rfl ?_)
    refine G_q rfl (op_assign (av := .exact (.int .i64 y1.2)) rfl ?_)
    refine G_nil ?_
    refine kC_normal ?_
    refine k_ret ?_
    refine kB_ret ?_
    refine kC_ret ?_
    obtain rfl := Option.some.inj h
    refine kP_any (endN (af' := (AF.put (AF.put AF0 (some 2) (.exact (.string (bs ([] : List UInt8))))) (some 3) (.exact (.int .i64 y1.2)))) (σ' := []) _ rfl ?_ ⟨rfl, rfl⟩)
    exact Sub.of_le (AF.le_put (AV.le_eq rfl) (AF.le_put (AV.le_eq rfl) (AF.le_top _)))
  · replace h := ite_f h hc
    refine k_seq ?_
    refine k_reg .free hmixP (by kernel_rfl) ?_
    refine G_q rfl (op_move (av := .row 1 c_L_api_Value y1.1) rfl ?_)
    refine G_q rfl (op_len_row (by kernel_rfl) rfl ?_)
    refine G_q rfl (op_eql rfl rfl ?_)
    refine G_q rfl (op_assign (av := .exact (.bool (decide ((List.length y1.1 : Int) = 0)))) rfl ?_)
    refine G_nil ?_
    refine kC_normal ?_
    refine k_cond_d (p := (List.length y1.1 : Int) = 0) rfl (fun hc => ?_) (fun hc => ?_)
    · replace h := ite_t h hc
      refine k_seq ?_
      refine k_reg .free hmixP (by kernel_rfl) ?_
      refine G_q rfl (op_assign (av := .exact (.string (bs ([] : List UInt8)))) rfl ?_)
      refine G_q rfl (op_assign (av := .exact (.int .i64 12)) rfl ?_)
      refine G_nil ?_
      refine kC_normal ?_
      refine k_ret ?_
      refine kB_ret ?_
      refine kC_ret ?_
      obtain rfl := Option.some.inj h
      refine kP_any (endN (af' := (AF.put (AF.put AF0 (some 2) (.exact (.string (bs ([] : List UInt8))))) (some 3) (.exact (.int .i64 12)))) (σ' := []) _ rfl ?_ ⟨rfl, rfl⟩)
      exact Sub.of_le (AF.le_put (AV.le_eq rfl) (AF.le_put (AV.le_eq rfl) (AF.le_top _)))
    · replace h := ite_f h hc
      refine k_skip ?_
      refine kB_normal ?_
      refine kC_normal ?_
      refine k_seq ?_
      refine k_reg .free hmixP (by kernel_rfl) ?_
      refine G_q rfl (op_move (av := .row 1 c_L_api_Value y1.1) rfl ?_)
      obtain ⟨n2, h⟩ := need_some h
      refine G_q rfl (op_index_row (by kernel_rfl) rfl rfl n2.1 n2.2 ?_)
      refine G_q rfl (op_load1p (a := .row 1 c_api_Value (gi y1.1 0)) (by kernel_rfl) rfl rfl ?_)
      refine G_q rfl (op_assign (av := .row 1 c_api_Value (gi y1.1 0)) rfl ?_)
      refine G_nil ?_
      refine kC_normal ?_
      refine k_join1_0 h (fun (x6_j3 : List (List UInt8)) => (AF.put AF0 (some 6) (.row 1 c_api_Value x6_j3))) (fun (x6_j3 : List (List UInt8)) => []) (fun k3 h => ?_) (fun x6_j3 h => ?_)
      · refine k_seq ?_
        refine k_reg .free hmixP (by kernel_rfl) ?_
        refine G_q rfl (op_move (av := .row 1 c_L_api_Value y1.1) rfl ?_)
        obtain ⟨n12, h⟩ := need_some h
        refine G_q rfl (op_slice_rowd (by kernel_rfl) rfl (bnd_some rfl) bnd_none (by decide) n12 (Int.le_refl _) ?_)
        refine G_q rfl (op_len_row (by kernel_rfl) rfl ?_)
        refine G_q rfl (op_move (av := .exact (.int .i64 0)) rfl ?_)
        refine G_nil ?_
        refine kC_normal ?_
        refine k_block ?_
        refine k_loop2_0 (m_finset_BigInter_L2 y1 k3) (m_finset_BigInter_B2 y1 k3) (fun _ _ => rfl) (fun m _ _ => rfl) h (fun (x6_l2 : List (List UInt8)) (x28_l2 : Int) => (AF.put (AF.put (AF.put (AF.put AF0 (some 6) (.row 1 c_api_Value x6_l2)) (some 26) (.row 1 c_L_api_Value (List.drop (Int.toNat 1) y1.1))) (some 27) (.exact (.int .i64 (List.length (List.drop (Int.toNat 1) y1.1) : Int)))) (some 28) (.exact (.int .i64 x28_l2)))) (fun (x6_l2 : List (List UInt8)) (x28_l2 : Int) => []) ?_ (fun rec2 x6_l2 x28_l2 h => ?_)
        · exact Sub.of_le (AF.le_put (AV.le_eq rfl) (AF.le_put (AV.le_eq rfl) (AF.le_put (AV.le_eq rfl) (AF.le_put (AV.le_eq rfl) (AF.le_top _)))))
        · unfold m_finset_BigInter_B2 at h
          refine k_seq ?_
          refine k_reg .free hmixP (by kernel_rfl) ?_
          refine G_q rfl (op_lss rfl rfl ?_)
          refine G_nil ?_
          refine kC_normal ?_
          refine k_seq ?_
          refine k_cond_d (p := x28_l2 < (List.length (List.drop (Int.toNat 1) y1.1) : Int)) rfl (fun hc => ?_) (fun hc => ?_)
          · replace h := ite_t h hc
            refine k_skip ?_
            refine kC_normal ?_
            refine k_seq ?_
            refine k_block ?_
            refine k_seq ?_
            refine k_reg .free hmixP (by kernel_rfl) ?_
            obtain ⟨n17, h⟩ := need_some h
            refine G_q rfl (op_index_row (by kernel_rfl) rfl rfl n17.1 n17.2 ?_)
            refine G_q rfl (op_load1p (a := .row 1 c_api_Value (gi (List.drop (Int.toNat 1) y1.1) x28_l2)) (by kernel_rfl) rfl rfl ?_)
            refine G_q rfl (op_assign (av := .row 1 c_api_Value (gi (List.drop (Int.toNat 1) y1.1) x28_l2)) rfl ?_)
            refine G_nil ?_
            refine kC_normal ?_
            refine k_reg .free hmixP (by kernel_rfl) ?_
            refine G_q rfl (op_move (av := .row 1 c_api_Value x6_l2) rfl ?_)
            refine G_q rfl (op_move (av := .row 1 c_api_Value (gi (List.drop (Int.toNat 1) y1.1) x28_l2)) rfl ?_)
            obtain ⟨y18, hy18, h⟩ := bnd1_some h
            refine G_q rfl (op_pure (m_finset_merge_ok _ _ _ _ hy18) Tryz.func69 (by kernel_rfl) (LEs.cons (AV.le_eq rfl) (LEs.cons (AV.le_eq rfl) (LEs.cons ((fn_le Tryz.func70 (by kernel_rfl) (fun i r h => m_finset_common_ok i.1 i.2 r h))) LEs.nil))) ?_)
            refine G_q rfl (op_assign (av := .row 1 c_api_Value y18) rfl ?_)
            refine G_nil ?_
            refine kB_normal ?_
            refine kC_normal ?_
            refine k_reg .free hmixP (by kernel_rfl) ?_
            refine G_q rfl (op_add rfl rfl rfl ?_)
            refine G_q rfl (op_move (av := .exact (.int .i64 (i64 (x28_l2 + 1)))) rfl ?_)
            refine G_nil ?_
            refine kI_normal ⟨_, _, h, ?_⟩
            exact Sub.of_le (AF.le_put (AV.le_eq rfl) (AF.le_put (AV.le_eq rfl) (AF.le_put (AV.le_eq rfl) (AF.le_put (AV.le_eq rfl) (AF.le_top _)))))
          · replace h := ite_f h hc
            refine k_exit ?_
            refine kC_exit ?_
            refine kI_exit ?_
            refine kB_exit ?_
            refine kI_normal ⟨_, h, ?_⟩
            exact Sub.of_le (AF.le_put (AV.le_eq rfl) (AF.le_top _))
      · refine k_seq ?_
        refine k_reg .free hmixP (by kernel_rfl) ?_
        refine G_q rfl (op_move (av := .row 1 c_api_Value x6_j3) rfl ?_)
        obtain ⟨y19, hy19, h⟩ := bnd1_some h
        refine G_q rfl (op_pure (m_finset_set_ok _ _ hy19) Tryz.func65 (by kernel_rfl) (LEs.cons (AV.le_eq rfl) LEs.nil) ?_)
        refine G_q rfl (op_extract (av := .exact (.string (bs y19.1))) rfl rfl ?_)
        refine G_q rfl (op_extract (av := .exact (.int .i64 y19.2)) rfl rfl ?_)
        refine G_q rfl (op_assign (av := .exact (.string (bs y19.1))) rfl ?_)
        refine G_q rfl (op_assign (av := .exact (.int .i64 y19.2)) rfl ?_)
        refine G_nil ?_
        refine kC_normal ?_
        refine k_ret ?_
        obtain rfl := Option.some.inj h
        refine kP_any (endN (af' := (AF.put (AF.put AF0 (some 2) (.exact (.string (bs y19.1)))) (some 3) (.exact (.int .i64 y19.2)))) (σ' := []) _ rfl ?_ ⟨rfl, rfl⟩)
        exact Sub.of_le (AF.le_put (AV.le_eq rfl) (AF.le_put (AV.le_eq rfl) (AF.le_top _)))
set_option maxHeartbeats 4000000 in
theorem m_law10_awake_ok  (r : Bool) (h : m_law10_awake = some r) : Pure Tryz.prog 8 [] (.exact (.bool r)) := by
  unfold m_law10_awake at h
  refine Pure.ofFun (fun_of_awp Tryz.func8 rfl Tryz.ntmps8 (by simp) rfl (res1 rfl) fun E hE => k_end ?_)
  refine k_seq ?_
  refine k_reg .free hmixP (by kernel_rfl) ?_
  refine G_q rfl (op_assign (av := .exact (.bool false)) rfl ?_)
  refine G_nil ?_
  refine kC_normal ?_
  refine k_seq ?_
  refine k_reg .free hmixP (by kernel_rfl) ?_
  obtain ⟨y1, hy1, h⟩ := bnd1_some h
  refine G_q rfl (op_pure (m_finset_Range_ok _ _ _ hy1) Tryz.func25 (by kernel_rfl) (LEs.cons (AV.le_eq rfl) (LEs.cons (AV.le_eq rfl) LEs.nil)) ?_)
  refine G_q rfl (op_move (av := .tup [.exact (.string (bs y1.1)), .exact (.int .i64 y1.2)]) rfl ?_)
  refine G_q rfl (op_extract (av := .exact (.string (bs y1.1))) rfl rfl ?_)
  refine G_q rfl (op_extract (av := .exact (.int .i64 y1.2)) rfl rfl ?_)
  refine G_q rfl (op_assign (av := .exact (.string (bs y1.1))) rfl ?_)
  refine G_q rfl (op_assign (av := .exact (.int .i64 y1.2)) rfl ?_)
  refine G_nil ?_
  refine kC_normal ?_
  refine k_seq ?_
  refine k_reg .free hmixP (by kernel_rfl) ?_
  refine G_q rfl (op_move (av := .exact (.string (bs y1.1))) rfl ?_)
  obtain ⟨y2, hy2, h⟩ := bnd1_some h
  refine G_q rfl (op_pure (m_finset_Subsets_ok _ _ hy2) Tryz.func26 (by kernel_rfl) (LEs.cons (AV.le_eq rfl) LEs.nil) ?_)
  refine G_q rfl (op_move (av := .tup [.exact (.string (bs y2.1)), .exact (.int .i64 y2.2)]) rfl ?_)
  refine G_q rfl (op_extract (av := .exact (.string (bs y2.1))) rfl rfl ?_)
  refine G_q rfl (op_extract (av := .exact (.int .i64 y2.2)) rfl rfl ?_)
  refine G_q rfl (op_assign (av := .exact (.string (bs y2.1))) rfl ?_)
  refine G_q rfl (op_assign (av := .exact (.int .i64 y2.2)) rfl ?_)
  refine G_nil ?_
  refine kC_normal ?_
  refine k_seq ?_
  refine k_reg .free hmixP (by kernel_rfl) ?_
  obtain ⟨y3, hy3, h⟩ := bnd1_some h
  refine G_q rfl (op_pure (m_ref9_Set_ok _ _ hy3) Tryz.func24 (by kernel_rfl) (LEs.cons (row_nil (by decide)) LEs.nil) ?_)
  obtain ⟨y4, hy4, h⟩ := bnd1_some h
  refine G_q rfl (op_pure (m_finset_BigInter_ok _ _ hy4) Tryz.func27 (by kernel_rfl) (LEs.cons (AV.le_eq rfl) LEs.nil) ?_)
  refine G_q rfl (op_move (av := .tup [.exact (.string (bs y4.1)), .exact (.int .i64 y4.2)]) rfl ?_)
  refine G_q rfl (op_extract (av := .exact (.string (bs y4.1))) rfl rfl ?_)
  refine G_q rfl (op_extract (av := .exact (.int .i64 y4.2)) rfl rfl ?_)
  refine G_q rfl (op_assign (av := .exact (.string (bs y4.1))) rfl ?_)
  refine G_q rfl (op_assign (av := .exact (.int .i64 y4.2)) rfl ?_)
  refine G_nil ?_
  refine kC_normal ?_
  refine k_join1_0 h (fun (x0_j5 : Bool) => (AF.put AF0 (some 0) (.exact (.bool x0_j5)))) (fun (x0_j5 : Bool) => []) (fun k5 h => ?_) (fun x0_j5 h => ?_)
  · refine k_reg .free hmixP (by kernel_rfl) ?_
    refine G_q rfl (op_move (av := .exact (.int .i64 y1.2)) rfl ?_)
    refine G_q rfl (op_eql rfl rfl ?_)
    refine G_q rfl (op_move (av := .exact (.bool (decide (y1.2 = 0)))) rfl ?_)
    refine G_split (p := y1.2 = 0) 23 rfl (fun hc => ?_) (fun hc => ?_)
    · replace h := ite_t h hc
      refine Gy_q rfl rfl rfl (op_move (av := .exact (.string (bs y1.1))) rfl ?_)
      obtain ⟨y10, hy10, h⟩ := bnd1_some h
      refine Gy_q rfl rfl rfl (op_pure (m_ref9_Int_ok _ _ hy10) Tryz.func14 (by kernel_rfl) (LEs.cons (AV.le_eq rfl) LEs.nil) ?_)
      obtain ⟨y11, hy11, h⟩ := bnd1_some h
      refine Gy_q rfl rfl rfl (op_pure (m_ref9_Int_ok _ _ hy11) Tryz.func14 (by kernel_rfl) (LEs.cons (AV.le_eq rfl) LEs.nil) ?_)
      refine Gy_q rfl rfl rfl (op_litT (n := 1) (enc := c_api_Value) [y10, y11] (CellsAll.cons rfl CellsOf.str (CellsAll.cons rfl CellsOf.str CellsAll.nil)) rfl (by kernel_rfl) (LEss.cons (LEs.cons (AV.le_eq rfl) LEs.nil) (LEss.cons (LEs.cons (AV.le_eq rfl) LEs.nil) LEss.nil)) ?_)
      obtain ⟨y12, hy12, h⟩ := bnd1_some h
      refine Gy_q rfl rfl rfl (op_pure (m_ref9_Set_ok _ _ hy12) Tryz.func24 (by kernel_rfl) (LEs.cons (AV.le_eq rfl) LEs.nil) ?_)
      refine Gy_q rfl rfl rfl (op_eqlS rfl rfl ?_)
      refine G_q rfl (op_pick_t rfl (av := .exact (.bool (decide (y1.1 = y12)))) rfl ?_)
      refine G_q rfl (op_move (av := .exact (.bool (decide (y1.1 = y12)))) rfl ?_)
      refine G_split (p := y1.1 = y12) 31 rfl (fun hc => ?_) (fun hc => ?_)
      · replace h := ite_t h hc
        refine Gy_q rfl rfl rfl (op_move (av := .exact (.int .i64 y2.2)) rfl ?_)
        refine Gy_q rfl rfl rfl (op_eql rfl rfl ?_)
        refine G_q rfl (op_pick_t rfl (av := .exact (.bool (decide (y2.2 = 0)))) rfl ?_)
        refine G_q rfl (op_move (av := .exact (.bool (decide (y2.2 = 0)))) rfl ?_)
        refine G_split (p := y2.2 = 0) 35 rfl (fun hc => ?_) (fun hc => ?_)
        · replace h := ite_t h hc
          refine Gy_q rfl rfl rfl (op_move (av := .exact (.string (bs y2.1))) rfl ?_)
          obtain ⟨y13, hy13, h⟩ := bnd1_some h
          refine Gy_q rfl rfl rfl (op_pure (m_ref9_Parts_ok _ _ hy13) Tryz.func28 (by kernel_rfl) (LEs.cons (AV.le_eq rfl) LEs.nil) ?_)
          refine Gy_q rfl rfl rfl (op_len_row (by kernel_rfl) rfl ?_)
          refine Gy_q rfl rfl rfl (op_eql rfl rfl ?_)
          refine G_q rfl (op_pick_t rfl (av := .exact (.bool (decide ((List.length y13 : Int) = 4)))) rfl ?_)
          refine G_q rfl (op_move (av := .exact (.bool (decide ((List.length y13 : Int) = 4)))) rfl ?_)
          refine G_split (p := (List.length y13 : Int) = 4) 41 rfl (fun hc => ?_) (fun hc => ?_)
          · replace h := ite_t h hc
            refine Gy_q rfl rfl rfl (op_move (av := .exact (.int .i64 y4.2)) rfl ?_)
            refine Gy_q rfl rfl rfl (op_eql rfl rfl ?_)
            refine G_q rfl (op_pick_t rfl (av := .exact (.bool (decide (y4.2 = 12)))) rfl ?_)
            refine G_q rfl (op_assign (av := .exact (.bool (decide (y4.2 = 12)))) rfl ?_)
            refine G_nil ?_
            refine kI_normal ⟨_, h, ?_⟩
            exact Sub.of_le (AF.le_put (AV.le_eq rfl) (AF.le_top _))
          · replace h := ite_f h hc
            refine G_n rfl rfl ?_
            refine G_n rfl rfl ?_
            refine G_q rfl (op_pick_f rfl (av := .exact (.bool false)) rfl ?_)
            refine G_q rfl (op_assign (av := .exact (.bool false)) rfl ?_)
            refine G_nil ?_
            refine kI_normal ⟨_, h, ?_⟩
            exact Sub.of_le (AF.le_put (AV.le_eq rfl) (AF.le_top _))
        · replace h := ite_f h hc
          refine G_n rfl rfl ?_
          refine G_n rfl rfl ?_
          refine G_n rfl rfl ?_
          refine G_n rfl rfl ?_
          refine G_q rfl (op_pick_f rfl (av := .exact (.bool false)) rfl ?_)
          refine G_q rfl (op_move (av := .exact (.bool false)) rfl ?_)
          refine G_n rfl rfl ?_
          refine G_n rfl rfl ?_
          refine G_q rfl (op_pick_f rfl (av := .exact (.bool false)) rfl ?_)
          refine G_q rfl (op_assign (av := .exact (.bool false)) rfl ?_)
          refine G_nil ?_
          refine kI_normal ⟨_, h, ?_⟩
          exact Sub.of_le (AF.le_put (AV.le_eq rfl) (AF.le_top _))
      · replace h := ite_f h hc
        refine G_n rfl rfl ?_
        refine G_n rfl rfl ?_
        refine G_q rfl (op_pick_f rfl (av := .exact (.bool false)) rfl ?_)
        refine G_q rfl (op_move (av := .exact (.bool false)) rfl ?_)
        refine G_n rfl rfl ?_
        refine G_n rfl rfl ?_
        refine G_n rfl rfl ?_
        refine G_n rfl rfl ?_
        refine G_q rfl (op_pick_f rfl (av := .exact (.bool false)) rfl ?_)
        refine G_q rfl (op_move (av := .exact (.bool false)) rfl ?_)
        refine G_n rfl rfl ?_
        refine G_n rfl rfl ?_
        refine G_q rfl (op_pick_f rfl (av := .exact (.bool false)) rfl ?_)
        refine G_q rfl (op_assign (av := .exact (.bool false)) rfl ?_)
        refine G_nil ?_
        refine kI_normal ⟨_, h, ?_⟩
        exact Sub.of_le (AF.le_put (AV.le_eq rfl) (AF.le_top _))
    · replace h := ite_f h hc
      refine G_n rfl rfl ?_
      refine G_n rfl rfl ?_
      refine G_n rfl rfl ?_
      refine G_n rfl rfl ?_
      refine G_n rfl rfl ?_
      refine G_n rfl rfl ?_
      refine G_q rfl (op_pick_f rfl (av := .exact (.bool false)) rfl ?_)
      refine G_q rfl (op_move (av := .exact (.bool false)) rfl ?_)
      refine G_n rfl rfl ?_
      refine G_n rfl rfl ?_
      refine G_q rfl (op_pick_f rfl (av := .exact (.bool false)) rfl ?_)
      refine G_q rfl (op_move (av := .exact (.bool false)) rfl ?_)
      refine G_n rfl rfl ?_
      refine G_n rfl rfl ?_
      refine G_n rfl rfl ?_
      refine G_n rfl rfl ?_
      refine G_q rfl (op_pick_f rfl (av := .exact (.bool false)) rfl ?_)
      refine G_q rfl (op_move (av := .exact (.bool false)) rfl ?_)
      refine G_n rfl rfl ?_
      refine G_n rfl rfl ?_
      refine G_q rfl (op_pick_f rfl (av := .exact (.bool false)) rfl ?_)
      refine G_q rfl (op_assign (av := .exact (.bool false)) rfl ?_)
      refine G_nil ?_
      refine kI_normal ⟨_, h, ?_⟩
      exact Sub.of_le (AF.le_put (AV.le_eq rfl) (AF.le_top _))
  · refine k_ret ?_
    obtain rfl := Option.some.inj h
    refine kP_any (endN (af' := (AF.put AF0 (some 0) (.exact (.bool x0_j5)))) (σ' := []) _ rfl ?_ ⟨rfl, rfl⟩)
    exact Sub.of_le (AF.le_put (AV.le_eq rfl) (AF.le_top _))
set_option maxHeartbeats 4000000 in
theorem m_law10_FinsetMaps_ok (a0 : List UInt8) (a1 : List UInt8) (a2 : List UInt8) (a3 : List Int) (r : Bool) (h : m_law10_FinsetMaps a0 a1 a2 a3 = some r) : Pure Tryz.prog 4 [(.exact (.string (bs a0))), (.exact (.string (bs a1))), (.exact (.string (bs a2))), (.row 1 c_int a3)] (.exact (.bool r)) := by
  unfold m_law10_FinsetMaps at h
  refine Pure.ofFun (fun_of_awp Tryz.func4 rfl Tryz.ntmps4 (by simp) rfl (res1 rfl) fun E hE => k_end ?_)
  refine k_seq ?_
  refine k_reg .free hmixP (by kernel_rfl) ?_
  refine G_q rfl (op_assign (av := .exact (.bool false)) rfl ?_)
  refine G_nil ?_
  refine kC_normal ?_
  refine k_seq ?_
  refine k_reg .free hmixP (by kernel_rfl) ?_
  refine G_q rfl (op_move (av := .row 1 c_int a3) rfl ?_)
  obtain ⟨y1, hy1, h⟩ := bnd1_some h
  refine G_l rfl (op_fun_0_1_1 (m_gen_New_ok _ _ hy1) Tryz.func6 (by kernel_rfl) (LEs.cons (AV.le_eq rfl) LEs.nil) (fun b2 => ?_))
  refine G_q rfl (op_assign (av := pA b2 0) rfl ?_)
  refine G_nil ?_
  refine kC_normal ?_
  refine k_seq ?_
  refine k_reg .free hmixP (by kernel_rfl) ?_
  refine G_q rfl (op_assign (av := .exact (.slice none 0 0)) rfl ?_)
  refine G_q rfl (op_assign (av := .exact (.slice none 0 0)) rfl ?_)
  refine G_nil ?_
  refine kC_normal ?_
  refine k_join4_2 h (fun (x9_0_j3 : List Int) (x9_1_j3 : Int) (x10_j3 : List (List UInt8)) (x11_j3 : List (List UInt8)) (v10_j3 : Value) (v11_j3 : Value) => (AF.put (AF.put (AF.put (AF.put (AF.put (AF.put AF0 (some 0) (.exact (.string (bs a0)))) (some 1) (.exact (.string (bs a1)))) (some 2) (.exact (.string (bs a2)))) (some 9) (pA b2 0)) (some 10) (.exact v10_j3)) (some 11) (.exact v11_j3))) (fun (x9_0_j3 : List Int) (x9_1_j3 : Int) (x10_j3 : List (List UInt8)) (x11_j3 : List (List UInt8)) (v10_j3 : Value) (v11_j3 : Value) => [boxI 48 b2 [.row 1 c_int x9_0_j3, .exact (.int .i64 x9_1_j3)], vecT Tryz.prog 33 1 c_api_Value v10_j3 x10_j3, vecT Tryz.prog 33 1 c_api_Value v11_j3 x11_j3]) (fun k3 h => ?_) (fun x9_0_j3 x9_1_j3 x10_j3 x11_j3 v10_j3 v11_j3 h => ?_)
  · refine k_seq ?_
    refine k_reg .free hmixP (by kernel_rfl) ?_
    refine G_q rfl (op_assign (av := .exact (.int .i64 0)) rfl ?_)
    refine G_nil ?_
    refine kC_normal ?_
    refine k_block ?_
    refine k_loop5_2 (m_law10_FinsetMaps_L2 k3) (m_law10_FinsetMaps_B2 k3) (fun _ _ _ _ _ => rfl) (fun m _ _ _ _ _ => rfl) h (fun (x9_0_l2 : List Int) (x9_1_l2 : Int) (x10_l2 : List (List UInt8)) (x11_l2 : List (List UInt8)) (x12_l2 : Int) (v10_l2 : Value) (v11_l2 : Value) => (AF.put (AF.put (AF.put (AF.put (AF.put (AF.put (AF.put AF0 (some 0) (.exact (.string (bs a0)))) (some 1) (.exact (.string (bs a1)))) (some 2) (.exact (.string (bs a2)))) (some 9) (pA b2 0)) (some 10) (.exact v10_l2)) (some 11) (.exact v11_l2)) (some 12) (.exact (.int .i64 x12_l2)))) (fun (x9_0_l2 : List Int) (x9_1_l2 : Int) (x10_l2 : List (List UInt8)) (x11_l2 : List (List UInt8)) (x12_l2 : Int) (v10_l2 : Value) (v11_l2 : Value) => [boxI 48 b2 [.row 1 c_int x9_0_l2, .exact (.int .i64 x9_1_l2)], vecT Tryz.prog 33 1 c_api_Value v10_l2 x10_l2, vecT Tryz.prog 33 1 c_api_Value v11_l2 x11_l2]) (.slice none 0 0) (.slice none 0 0) ?_ (fun rec2 x9_0_l2 x9_1_l2 x10_l2 x11_l2 x12_l2 v10_l2 v11_l2 h => ?_)
    · refine Sub.trans (SubU.to (SubU.nilT (P := Tryz.prog) (t := 33) (n := 1) (enc := c_api_Value))) ?_
      refine Sub.trans (SubU.to (SubU.nilT (P := Tryz.prog) (t := 33) (n := 1) (enc := c_api_Value))) ?_
      refine Sub.trans (SubU.to SubU.f1) ?_
      refine Sub.trans (SubU.to SubU.f2) ?_
      exact Sub.of_le (AF.le_put (AV.le_eq rfl) (AF.le_put (AV.le_eq rfl) (AF.le_put (AV.le_eq rfl) (AF.le_put (AV.le_eq rfl) (AF.le_put (AV.le_eq rfl) (AF.le_put (AV.le_eq rfl) (AF.le_put (AV.le_eq rfl) (AF.le_top _))))))))
    · unfold m_law10_FinsetMaps_B2 at h
      refine k_seq ?_
      refine k_seq ?_
      refine k_reg .free hmixP (by kernel_rfl) ?_
      refine G_q rfl (op_move (av := .exact (.int .i64 x12_l2)) rfl ?_)
      refine G_q rfl (op_move (av := pA b2 0) rfl ?_)
      obtain ⟨y40, hy40, h⟩ := bnd1_some h
      refine G_l rfl (op_fun_1_0_1 (m_gen_Choices_Next_ok _ _ _ hy40) Tryz.func13 (by kernel_rfl) (LEs.cons (AV.le_eq rfl) (LEs.cons (AV.le_eq rfl) LEs.nil)) ?_)
      refine G_q rfl (op_lss rfl rfl ?_)
      refine G_nil ?_
      refine kC_normal ?_
      refine k_cond_d (p := x12_l2 < y40.1) rfl (fun hc => ?_) (fun hc => ?_)
      · replace h := ite_t h hc
        refine k_skip ?_
        refine kC_normal ?_
        refine k_seq ?_
        refine k_block ?_
        refine k_reg .free hmixP (by kernel_rfl) ?_
        refine G_q rfl (op_move (av := .exact v10_l2) rfl ?_)
        refine G_q rfl (op_move (av := .exact (.int .i64 x12_l2)) rfl ?_)
        obtain ⟨y41, hy41, h⟩ := bnd1_some h
        refine G_q rfl (op_pure (m_ref9_Int_ok _ _ hy41) Tryz.func14 (by kernel_rfl) (LEs.cons (AV.le_eq rfl) LEs.nil) ?_)
        refine G_q rfl (op_litT (n := 1) (enc := c_api_Value) [y41] (CellsAll.cons rfl CellsOf.str CellsAll.nil) rfl (by kernel_rfl) (LEss.cons (LEs.cons (AV.le_eq rfl) LEs.nil) LEss.nil) ?_)
        obtain ⟨n42, h⟩ := need_some h
        refine G_l rfl (opB_f1 (op_appT (by kernel_rfl) rfl rfl oc_c_api_Value n42 (fun v43 => ?_)))
        refine G_q rfl (op_move (av := .exact v11_l2) rfl ?_)
        refine G_q rfl (op_move (av := pA b2 0) rfl ?_)
        obtain ⟨y44, hy44, h⟩ := bnd1_some h
        refine G_l rfl (opB_f1 (op_fun_1_0_1 (m_gen_Choices_Value_ok _ _ _ hy44) Tryz.func10 (by kernel_rfl) (LEs.cons (AV.le_eq rfl) (LEs.cons (AV.le_eq rfl) LEs.nil)) ?_))
        refine G_q rfl (op_litT (n := 1) (enc := c_api_Value) [y44.1] (CellsAll.cons rfl CellsOf.str CellsAll.nil) rfl (by kernel_rfl) (LEss.cons (LEs.cons (AV.le_eq rfl) LEs.nil) LEss.nil) ?_)
        obtain ⟨n45, h⟩ := need_some h
        refine G_l rfl (opB_f2 (op_appT (by kernel_rfl) rfl rfl oc_c_api_Value n45 (fun v46 => ?_)))
        refine G_q rfl (op_assign (av := .exact v43) rfl ?_)
        refine G_q rfl (op_assign (av := .exact v46) rfl ?_)
        refine G_nil ?_
        refine kB_normal ?_
        refine kC_normal ?_
        refine k_reg .free hmixP (by kernel_rfl) ?_
        refine G_q rfl (op_move (av := .exact (.int .i64 x12_l2)) rfl ?_)
        refine G_q rfl (op_add rfl rfl rfl ?_)
        refine G_q rfl (op_assign (av := .exact (.int .i64 (i64 (x12_l2 + 1)))) rfl ?_)
        refine G_nil ?_
        refine kI_normal ⟨_, _, _, _, _, v43, v46, h, ?_⟩
        refine Sub.trans (SubU.to SubU.f2) ?_
        refine Sub.trans (SubU.to SubU.f2) ?_
        exact Sub.of_le (AF.le_put (AV.le_eq rfl) (AF.le_put (AV.le_eq rfl) (AF.le_put (AV.le_eq rfl) (AF.le_put (AV.le_eq rfl) (AF.le_put (AV.le_eq rfl) (AF.le_put (AV.le_eq rfl) (AF.le_put (AV.le_eq rfl) (AF.le_top _))))))))
      · replace h := ite_f h hc
        refine k_exit ?_
        refine kC_exit ?_
        refine kI_exit ?_
        refine kB_exit ?_
        refine kI_normal ⟨_, _, _, _, v10_l2, v11_l2, h, ?_⟩
        exact Sub.of_le (AF.le_put (AV.le_eq rfl) (AF.le_put (AV.le_eq rfl) (AF.le_put (AV.le_eq rfl) (AF.le_put (AV.le_eq rfl) (AF.le_put (AV.le_eq rfl) (AF.le_put (AV.le_eq rfl) (AF.le_top _)))))))
  · refine k_join0_0 h (AF0) ([]) (fun k47 h => ?_) (fun  h => ?_)
    · refine k_seq ?_
      refine k_reg .free hmixP (by kernel_rfl) ?_
      refine G_q rfl (op_assign (av := .exact (.int .i64 0)) rfl ?_)
      refine G_nil ?_
      refine kC_normal ?_
      refine k_block ?_
      refine k_loop8_0 (m_law10_FinsetMaps_L4 k47) (m_law10_FinsetMaps_B4 k47) (fun _ _ _ _ _ _ _ _ => rfl) (fun m _ _ _ _ _ _ _ _ => rfl) h (fun (x0_l4 : List UInt8) (x1_l4 : List UInt8) (x2_l4 : List UInt8) (x9_0_l4 : List Int) (x9_1_l4 : Int) (x10_l4 : List (List UInt8)) (x11_l4 : List (List UInt8)) (x13_l4 : Int) => (AF.put (AF.put (AF.put (AF.put (AF.put (AF.put (AF.put AF0 (some 0) (.exact (.string (bs x0_l4)))) (some 1) (.exact (.string (bs x1_l4)))) (some 2) (.exact (.string (bs x2_l4)))) (some 9) (pA b2 0)) (some 10) (.row 1 c_api_Value x10_l4)) (some 11) (.row 1 c_api_Value x11_l4)) (some 13) (.exact (.int .i64 x13_l4)))) (fun (x0_l4 : List UInt8) (x1_l4 : List UInt8) (x2_l4 : List UInt8) (x9_0_l4 : List Int) (x9_1_l4 : Int) (x10_l4 : List (List UInt8)) (x11_l4 : List (List UInt8)) (x13_l4 : Int) => [boxI 48 b2 [.row 1 c_int x9_0_l4, .exact (.int .i64 x9_1_l4)]]) ?_ (fun rec4 x0_l4 x1_l4 x2_l4 x9_0_l4 x9_1_l4 x10_l4 x11_l4 x13_l4 h => ?_)
      · refine Sub.trans (SubU.to SubU.f1) ?_
        refine Sub.trans (SubU.to (SubU.freezeT (s := 10) rfl len_c_api_Value)) ?_
        refine Sub.trans (SubU.to SubU.f1) ?_
        refine Sub.trans (SubU.to (SubU.freezeT (s := 11) rfl len_c_api_Value)) ?_
        exact Sub.of_le (AF.le_put (AV.le_eq rfl) (AF.le_put (AV.le_eq rfl) (AF.le_put (AV.le_eq rfl) (AF.le_put (AV.le_eq rfl) (AF.le_put (AV.le_eq rfl) (AF.le_put (AV.le_eq rfl) (AF.le_put (AV.le_eq rfl) (AF.le_top _))))))))
      · unfold m_law10_FinsetMaps_B4 at h
        refine k_seq ?_
        refine k_seq ?_
        refine k_reg .free hmixP (by kernel_rfl) ?_
        refine G_q rfl (op_move (av := .exact (.int .i64 x13_l4)) rfl ?_)
        refine G_q rfl (op_lss rfl rfl ?_)
        refine G_nil ?_
        refine kC_normal ?_
        refine k_cond_d (p := x13_l4 < 2) rfl (fun hc => ?_) (fun hc => ?_)
        · replace h := ite_t h hc
          refine k_skip ?_
          refine kC_normal ?_
          refine k_seq ?_
          refine k_block ?_
          refine k_seq ?_
          refine k_reg .free hmixP (by kernel_rfl) ?_
          refine G_q rfl (op_move (av := .exact (.string (bs x0_l4))) rfl ?_)
          refine G_q rfl (op_move (av := .exact (.string (bs x1_l4))) rfl ?_)
          obtain ⟨y220, hy220, h⟩ := bnd1_some h
          refine G_q rfl (op_pure (m_finset_Lookup_ok _ _ _ hy220) Tryz.func15 (by kernel_rfl) (LEs.cons (AV.le_eq rfl) (LEs.cons (AV.le_eq rfl) LEs.nil)) ?_)
          refine G_q rfl (op_move (av := .tup [.exact (.string (bs y220.1)), .exact (.int .i64 y220.2)]) rfl ?_)
          refine G_q rfl (op_extract (av := .exact (.string (bs y220.1))) rfl rfl ?_)
          refine G_q rfl (op_extract (av := .exact (.int .i64 y220.2)) rfl rfl ?_)
          refine G_q rfl (op_assign (av := .exact (.string (bs y220.1))) rfl ?_)
          refine G_q rfl (op_assign (av := .exact (.int .i64 y220.2)) rfl ?_)
          refine G_nil ?_
          refine kC_normal ?_
          refine k_seq ?_
          refine k_reg .free hmixP (by kernel_rfl) ?_
          refine G_q rfl (op_move (av := .exact (.string (bs x0_l4))) rfl ?_)
          refine G_q rfl (op_move (av := .exact (.string (bs x1_l4))) rfl ?_)
          obtain ⟨y221, hy221, h⟩ := bnd1_some h
          refine G_q rfl (op_pure (m_ref9_Lookup_ok _ _ _ hy221) Tryz.func16 (by kernel_rfl) (LEs.cons (AV.le_eq rfl) (LEs.cons (AV.le_eq rfl) LEs.nil)) ?_)
          refine G_q rfl (op_move (av := .tup [.exact (.string (bs y221.1)), .exact (.int .i64 y221.2)]) rfl ?_)
          refine G_q rfl (op_extract (av := .exact (.string (bs y221.1))) rfl rfl ?_)
          refine G_q rfl (op_extract (av := .exact (.int .i64 y221.2)) rfl rfl ?_)
          refine G_q rfl (op_assign (av := .exact (.string (bs y221.1))) rfl ?_)
          refine G_q rfl (op_assign (av := .exact (.int .i64 y221.2)) rfl ?_)
          refine G_nil ?_
          refine kC_normal ?_
          refine k_seq ?_
          refine k_reg .free hmixP (by kernel_rfl) ?_
          refine G_q rfl (op_move (av := .exact (.string (bs x0_l4))) rfl ?_)
          refine G_q rfl (op_move (av := .exact (.string (bs x1_l4))) rfl ?_)
          obtain ⟨y222, hy222, h⟩ := bnd1_some h
          refine G_q rfl (op_pure (m_finset_HasKey_ok _ _ _ hy222) Tryz.func17 (by kernel_rfl) (LEs.cons (AV.le_eq rfl) (LEs.cons (AV.le_eq rfl) LEs.nil)) ?_)
          refine G_q rfl (op_move (av := .tup [.exact (.bool y222.1), .exact (.int .i64 y222.2)]) rfl ?_)
          refine G_q rfl (op_extract (av := .exact (.bool y222.1)) rfl rfl ?_)
          refine G_q rfl (op_extract (av := .exact (.int .i64 y222.2)) rfl rfl ?_)
          refine G_q rfl (op_assign (av := .exact (.bool y222.1)) rfl ?_)
          refine G_q rfl (op_assign (av := .exact (.int .i64 y222.2)) rfl ?_)
          refine G_nil ?_
          refine kC_normal ?_
          refine k_seq ?_
          refine k_reg .free hmixP (by kernel_rfl) ?_
          refine G_q rfl (op_move (av := .exact (.string (bs x0_l4))) rfl ?_)
          refine G_q rfl (op_move (av := .exact (.string (bs x1_l4))) rfl ?_)
          obtain ⟨y223, hy223, h⟩ := bnd1_some h
          refine G_q rfl (op_pure (m_ref9_HasKey_ok _ _ _ hy223) Tryz.func18 (by kernel_rfl) (LEs.cons (AV.le_eq rfl) (LEs.cons (AV.le_eq rfl) LEs.nil)) ?_)
          refine G_q rfl (op_move (av := .tup [.exact (.bool y223.1), .exact (.int .i64 y223.2)]) rfl ?_)
          refine G_q rfl (op_extract (av := .exact (.bool y223.1)) rfl rfl ?_)
          refine G_q rfl (op_extract (av := .exact (.int .i64 y223.2)) rfl rfl ?_)
          refine G_q rfl (op_assign (av := .exact (.bool y223.1)) rfl ?_)
          refine G_q rfl (op_assign (av := .exact (.int .i64 y223.2)) rfl ?_)
          refine G_nil ?_
          refine kC_normal ?_
          refine k_seq ?_
          refine k_reg .free hmixP (by kernel_rfl) ?_
          refine G_q rfl (op_move (av := .exact (.string (bs x0_l4))) rfl ?_)
          refine G_q rfl (op_move (av := .exact (.string (bs x1_l4))) rfl ?_)
          refine G_q rfl (op_move (av := .exact (.string (bs x2_l4))) rfl ?_)
          obtain ⟨y224, hy224, h⟩ := bnd1_some h
          refine G_q rfl (op_pure (m_finset_Update_ok _ _ _ _ hy224) Tryz.func19 (by kernel_rfl) (LEs.cons (AV.le_eq rfl) (LEs.cons (AV.le_eq rfl) (LEs.cons (AV.le_eq rfl) LEs.nil))) ?_)
          refine G_q rfl (op_move (av := .tup [.exact (.string (bs y224.1)), .exact (.int .i64 y224.2)]) rfl ?_)
          refine G_q rfl (op_extract (av := .exact (.string (bs y224.1))) rfl rfl ?_)
          refine G_q rfl (op_extract (av := .exact (.int .i64 y224.2)) rfl rfl ?_)
          refine G_q rfl (op_assign (av := .exact (.string (bs y224.1))) rfl ?_)
          refine G_q rfl (op_assign (av := .exact (.int .i64 y224.2)) rfl ?_)
          refine G_nil ?_
          refine kC_normal ?_
          refine k_seq ?_
          refine k_reg .free hmixP (by kernel_rfl) ?_
          refine G_q rfl (op_move (av := .exact (.string (bs x0_l4))) rfl ?_)
          refine G_q rfl (op_move (av := .exact (.string (bs x1_l4))) rfl ?_)
          refine G_q rfl (op_move (av := .exact (.string (bs x2_l4))) rfl ?_)
          obtain ⟨y225, hy225, h⟩ := bnd1_some h
          refine G_q rfl (op_pure (m_ref9_Update_ok _ _ _ _ hy225) Tryz.func20 (by kernel_rfl) (LEs.cons (AV.le_eq rfl) (LEs.cons (AV.le_eq rfl) (LEs.cons (AV.le_eq rfl) LEs.nil))) ?_)
          refine G_q rfl (op_move (av := .tup [.exact (.string (bs y225.1)), .exact (.int .i64 y225.2)]) rfl ?_)
          refine G_q rfl (op_extract (av := .exact (.string (bs y225.1))) rfl rfl ?_)
          refine G_q rfl (op_extract (av := .exact (.int .i64 y225.2)) rfl rfl ?_)
          refine G_q rfl (op_assign (av := .exact (.string (bs y225.1))) rfl ?_)
          refine G_q rfl (op_assign (av := .exact (.int .i64 y225.2)) rfl ?_)
          refine G_nil ?_
          refine kC_normal ?_
          refine k_seq ?_
          refine k_reg .free hmixP (by kernel_rfl) ?_
          refine G_q rfl (op_move (av := .exact (.string (bs x0_l4))) rfl ?_)
          refine G_q rfl (op_move (av := .exact (.string (bs x1_l4))) rfl ?_)
          obtain ⟨y226, hy226, h⟩ := bnd1_some h
          refine G_q rfl (op_pure (m_finset_Delete_ok _ _ _ hy226) Tryz.func21 (by kernel_rfl) (LEs.cons (AV.le_eq rfl) (LEs.cons (AV.le_eq rfl) LEs.nil)) ?_)
          refine G_q rfl (op_move (av := .tup [.exact (.string (bs y226.1)), .exact (.int .i64 y226.2)]) rfl ?_)
          refine G_q rfl (op_extract (av := .exact (.string (bs y226.1))) rfl rfl ?_)
          refine G_q rfl (op_extract (av := .exact (.int .i64 y226.2)) rfl rfl ?_)
          refine G_q rfl (op_assign (av := .exact (.string (bs y226.1))) rfl ?_)
          refine G_q rfl (op_assign (av := .exact (.int .i64 y226.2)) rfl ?_)
          refine G_nil ?_
          refine kC_normal ?_
          refine k_seq ?_
          refine k_reg .free hmixP (by kernel_rfl) ?_
          refine G_q rfl (op_move (av := .exact (.string (bs x0_l4))) rfl ?_)
          refine G_q rfl (op_move (av := .exact (.string (bs x1_l4))) rfl ?_)
          obtain ⟨y227, hy227, h⟩ := bnd1_some h
          refine G_q rfl (op_pure (m_ref9_Delete_ok _ _ _ hy227) Tryz.func22 (by kernel_rfl) (LEs.cons (AV.le_eq rfl) (LEs.cons (AV.le_eq rfl) LEs.nil)) ?_)
          refine G_q rfl (op_move (av := .tup [.exact (.string (bs y227.1)), .exact (.int .i64 y227.2)]) rfl ?_)
          refine G_q rfl (op_extract (av := .exact (.string (bs y227.1))) rfl rfl ?_)
          refine G_q rfl (op_extract (av := .exact (.int .i64 y227.2)) rfl rfl ?_)
          refine G_q rfl (op_assign (av := .exact (.string (bs y227.1))) rfl ?_)
          refine G_q rfl (op_assign (av := .exact (.int .i64 y227.2)) rfl ?_)
          refine G_nil ?_
          refine kC_normal ?_
          refine k_seq ?_
          refine k_join1_0 h (fun (x139_j230 : Bool) => (AF.put (AF.put (AF.put (AF.put (AF.put AF0 (some 9) (pA b2 0)) (some 10) (.row 1 c_api_Value x10_l4)) (some 11) (.row 1 c_api_Value x11_l4)) (some 13) (.exact (.int .i64 x13_l4))) (some 139) (.exact (.bool x139_j230)))) (fun (x139_j230 : Bool) => [boxI 48 b2 [.row 1 c_int x9_0_l4, .exact (.int .i64 x9_1_l4)]]) (fun k230 h => ?_) (fun x139_j230 h => ?_)
          · refine k_reg .free hmixP (by kernel_rfl) ?_
            refine G_q rfl (op_move (av := .exact (.string (bs y220.1))) rfl ?_)
            refine G_q rfl (op_move (av := .exact (.string (bs y221.1))) rfl ?_)
            refine G_q rfl (op_neqS rfl rfl ?_)
            refine G_q rfl (op_move (av := .exact (.bool (decide (¬ y220.1 = y221.1)))) rfl ?_)
            refine G_split (p := ¬ y220.1 = y221.1) 105 rfl (fun hc => ?_) (fun hc => ?_)
            · replace h := ite_t h hc
              refine G_n rfl rfl ?_
              refine G_n rfl rfl ?_
              refine G_n rfl rfl ?_
              refine G_q rfl (op_pick_t rfl (av := .exact (.bool true)) rfl ?_)
              refine G_q rfl (op_move (av := .exact (.bool true)) rfl ?_)
              refine G_n rfl rfl ?_
              refine G_n rfl rfl ?_
              refine G_n rfl rfl ?_
              refine G_q rfl (op_pick_t rfl (av := .exact (.bool true)) rfl ?_)
              refine G_q rfl (op_move (av := .exact (.bool true)) rfl ?_)
              refine G_n rfl rfl ?_
              refine G_n rfl rfl ?_
              refine G_n rfl rfl ?_
              refine G_q rfl (op_pick_t rfl (av := .exact (.bool true)) rfl ?_)
              refine G_q rfl (op_move (av := .exact (.bool true)) rfl ?_)
              refine G_n rfl rfl ?_
              refine G_n rfl rfl ?_
              refine G_n rfl rfl ?_
              refine G_q rfl (op_pick_t rfl (av := .exact (.bool true)) rfl ?_)
              refine G_q rfl (op_move (av := .exact (.bool true)) rfl ?_)
              refine G_n rfl rfl ?_
              refine G_n rfl rfl ?_
              refine G_n rfl rfl ?_
              refine G_q rfl (op_pick_t rfl (av := .exact (.bool true)) rfl ?_)
              refine G_q rfl (op_move (av := .exact (.bool true)) rfl ?_)
              refine G_n rfl rfl ?_
              refine G_n rfl rfl ?_
              refine G_n rfl rfl ?_
              refine G_q rfl (op_pick_t rfl (av := .exact (.bool true)) rfl ?_)
              refine G_q rfl (op_move (av := .exact (.bool true)) rfl ?_)
              refine G_n rfl rfl ?_
              refine G_n rfl rfl ?_
              refine G_n rfl rfl ?_
              refine G_q rfl (op_pick_t rfl (av := .exact (.bool true)) rfl ?_)
              refine G_nil ?_
              refine kI_normal ⟨_, h, ?_⟩
              exact Sub.of_le (AF.le_put (AV.le_eq rfl) (AF.le_put (AV.le_eq rfl) (AF.le_put (AV.le_eq rfl) (AF.le_put (AV.le_eq rfl) (AF.le_put (AV.le_eq rfl) (AF.le_top _))))))
            · replace h := ite_f h hc
              refine Gy_q rfl rfl rfl (op_move (av := .exact (.int .i64 y220.2)) rfl ?_)
              refine Gy_q rfl rfl rfl (op_move (av := .exact (.int .i64 y221.2)) rfl ?_)
              refine Gy_q rfl rfl rfl (op_neq rfl rfl ?_)
              refine G_q rfl (op_pick_f rfl (av := .exact (.bool (decide (¬ y220.2 = y221.2)))) rfl ?_)
              refine G_q rfl (op_move (av := .exact (.bool (decide (¬ y220.2 = y221.2)))) rfl ?_)
              refine G_split (p := ¬ y220.2 = y221.2) 110 rfl (fun hc => ?_) (fun hc => ?_)
              · replace h := ite_t h hc
                refine G_n rfl rfl ?_
                refine G_n rfl rfl ?_
                refine G_n rfl rfl ?_
                refine G_q rfl (op_pick_t rfl (av := .exact (.bool true)) rfl ?_)
                refine G_q rfl (op_move (av := .exact (.bool true)) rfl ?_)
                refine G_n rfl rfl ?_
                refine G_n rfl rfl ?_
                refine G_n rfl rfl ?_
                refine G_q rfl (op_pick_t rfl (av := .exact (.bool true)) rfl ?_)
                refine G_q rfl (op_move (av := .exact (.bool true)) rfl ?_)
                refine G_n rfl rfl ?_
                refine G_n rfl rfl ?_
                refine G_n rfl rfl ?_
                refine G_q rfl (op_pick_t rfl (av := .exact (.bool true)) rfl ?_)
                refine G_q rfl (op_move (av := .exact (.bool true)) rfl ?_)
                refine G_n rfl rfl ?_
                refine G_n rfl rfl ?_
                refine G_n rfl rfl ?_
                refine G_q rfl (op_pick_t rfl (av := .exact (.bool true)) rfl ?_)
                refine G_q rfl (op_move (av := .exact (.bool true)) rfl ?_)
                refine G_n rfl rfl ?_
                refine G_n rfl rfl ?_
                refine G_n rfl rfl ?_
                refine G_q rfl (op_pick_t rfl (av := .exact (.bool true)) rfl ?_)
                refine G_q rfl (op_move (av := .exact (.bool true)) rfl ?_)
                refine G_n rfl rfl ?_
                refine G_n rfl rfl ?_
                refine G_n rfl rfl ?_
                refine G_q rfl (op_pick_t rfl (av := .exact (.bool true)) rfl ?_)
                refine G_nil ?_
                refine kI_normal ⟨_, h, ?_⟩
                exact Sub.of_le (AF.le_put (AV.le_eq rfl) (AF.le_put (AV.le_eq rfl) (AF.le_put (AV.le_eq rfl) (AF.le_put (AV.le_eq rfl) (AF.le_put (AV.le_eq rfl) (AF.le_top _))))))
              · replace h := ite_f h hc
                refine Gy_q rfl rfl rfl (op_move (av := .exact (.bool y222.1)) rfl ?_)
                refine Gy_q rfl rfl rfl (op_move (av := .exact (.bool y223.1)) rfl ?_)
                refine Gy_q rfl rfl rfl (op_neqB (a := y222.1) (b := y223.1) (by kernel_rfl) rfl rfl ?_)
                refine G_q rfl (op_pick_f rfl (av := .exact (.bool (decide (¬ y222.1 = y223.1)))) rfl ?_)
                refine G_q rfl (op_move (av := .exact (.bool (decide (¬ y222.1 = y223.1)))) rfl ?_)
                refine G_split (p := ¬ y222.1 = y223.1) 115 rfl (fun hc => ?_) (fun hc => ?_)
                · replace h := ite_t h hc
                  refine G_n rfl rfl ?_
                  refine G_n rfl rfl ?_
                  refine G_n rfl rfl ?_
                  refine G_q rfl (op_pick_t rfl (av := .exact (.bool true)) rfl ?_)
                  refine G_q rfl (op_move (av := .exact (.bool true)) rfl ?_)
                  refine G_n rfl rfl ?_
                  refine G_n rfl rfl ?_
                  refine G_n rfl rfl ?_
                  refine G_q rfl (op_pick_t rfl (av := .exact (.bool true)) rfl ?_)
                  refine G_q rfl (op_move (av := .exact (.bool true)) rfl ?_)
                  refine G_n rfl rfl ?_
                  refine G_n rfl rfl ?_
                  refine G_n rfl rfl ?_
                  refine G_q rfl (op_pick_t rfl (av := .exact (.bool true)) rfl ?_)
                  refine G_q rfl (op_move (av := .exact (.bool true)) rfl ?_)
                  refine G_n rfl rfl ?_
                  refine G_n rfl rfl ?_
                  refine G_n rfl rfl ?_
                  refine G_q rfl (op_pick_t rfl (av := .exact (.bool true)) rfl ?_)
                  refine G_q rfl (op_move (av := .exact (.bool true)) rfl ?_)
                  refine G_n rfl rfl ?_
                  refine G_n rfl rfl ?_
                  refine G_n rfl rfl ?_
                  refine G_q rfl (op_pick_t rfl (av := .exact (.bool true)) rfl ?_)
                  refine G_nil ?_
                  refine kI_normal ⟨_, h, ?_⟩
                  exact Sub.of_le (AF.le_put (AV.le_eq rfl) (AF.le_put (AV.le_eq rfl) (AF.le_put (AV.le_eq rfl) (AF.le_put (AV.le_eq rfl) (AF.le_put (AV.le_eq rfl) (AF.le_top _))))))
                · replace h := ite_f h hc
                  refine Gy_q rfl rfl rfl (op_move (av := .exact (.int .i64 y222.2)) rfl ?_)
                  refine Gy_q rfl rfl rfl (op_move (av := .exact (.int .i64 y223.2)) rfl ?_)
                  refine Gy_q rfl rfl rfl (op_neq rfl rfl ?_)
                  refine G_q rfl (op_pick_f rfl (av := .exact (.bool (decide (¬ y222.2 = y223.2)))) rfl ?_)
                  refine G_q rfl (op_move (av := .exact (.bool (decide (¬ y222.2 = y223.2)))) rfl ?_)
                  refine G_split (p := ¬ y222.2 = y223.2) 120 rfl (fun hc => ?_) (fun hc => ?_)
                  · replace h := ite_t h hc
                    refine G_n rfl rfl ?_
                    refine G_n rfl rfl ?_
                    refine G_n rfl rfl ?_
                    refine G_q rfl (op_pick_t rfl (av := .exact (.bool true)) rfl ?_)
                    refine G_q rfl (op_move (av := .exact (.bool true)) rfl ?_)
                    refine G_n rfl rfl ?_
                    refine G_n rfl rfl ?_
                    refine G_n rfl rfl ?_
                    refine G_q rfl (op_pick_t rfl (av := .exact (.bool true)) rfl ?_)
                    refine G_q rfl (op_move (av := .exact (.bool true)) rfl ?_)
                    refine G_n rfl rfl ?_
                    refine G_n rfl rfl ?_
                    refine G_n rfl rfl ?_
                    refine G_q rfl (op_pick_t rfl (av := .exact (.bool true)) rfl ?_)
                    refine G_q rfl (op_move (av := .exact (.bool true)) rfl ?_)
                    refine G_n rfl rfl ?_
                    refine G_n rfl rfl ?_
                    refine G_n rfl rfl ?_
                    refine G_q rfl (op_pick_t rfl (av := .exact (.bool true)) rfl ?_)
                    refine G_nil ?_
                    refine kI_normal ⟨_, h, ?_⟩
                    exact Sub.of_le (AF.le_put (AV.le_eq rfl) (AF.le_put (AV.le_eq rfl) (AF.le_put (AV.le_eq rfl) (AF.le_put (AV.le_eq rfl) (AF.le_put (AV.le_eq rfl) (AF.le_top _))))))
                  · replace h := ite_f h hc
                    refine Gy_q rfl rfl rfl (op_move (av := .exact (.string (bs y224.1))) rfl ?_)
                    refine Gy_q rfl rfl rfl (op_move (av := .exact (.string (bs y225.1))) rfl ?_)
                    refine Gy_q rfl rfl rfl (op_neqS rfl rfl ?_)
                    refine G_q rfl (op_pick_f rfl (av := .exact (.bool (decide (¬ y224.1 = y225.1)))) rfl ?_)
                    refine G_q rfl (op_move (av := .exact (.bool (decide (¬ y224.1 = y225.1)))) rfl ?_)
                    refine G_split (p := ¬ y224.1 = y225.1) 125 rfl (fun hc => ?_) (fun hc => ?_)
                    · replace h := ite_t h hc
                      refine G_n rfl rfl ?_
                      refine G_n rfl rfl ?_
                      refine G_n rfl rfl ?_
                      refine G_q rfl (op_pick_t rfl (av := .exact (.bool true)) rfl ?_)
                      refine G_q rfl (op_move (av := .exact (.bool true)) rfl ?_)
                      refine G_n rfl rfl ?_
                      refine G_n rfl rfl ?_
                      refine G_n rfl rfl ?_
                      refine G_q rfl (op_pick_t rfl (av := .exact (.bool true)) rfl ?_)
                      refine G_q rfl (op_move (av := .exact (.bool true)) rfl ?_)
                      refine G_n rfl rfl ?_
                      refine G_n rfl rfl ?_
                      refine G_n rfl rfl ?_
                      refine G_q rfl (op_pick_t rfl (av := .exact (.bool true)) rfl ?_)
                      refine G_nil ?_
                      refine kI_normal ⟨_, h, ?_⟩
                      exact Sub.of_le (AF.le_put (AV.le_eq rfl) (AF.le_put (AV.le_eq rfl) (AF.le_put (AV.le_eq rfl) (AF.le_put (AV.le_eq rfl) (AF.le_put (AV.le_eq rfl) (AF.le_top _))))))
                    · replace h := ite_f h hc
                      refine Gy_q rfl rfl rfl (op_move (av := .exact (.int .i64 y224.2)) rfl ?_)
                      refine Gy_q rfl rfl rfl (op_move (av := .exact (.int .i64 y225.2)) rfl ?_)
                      refine Gy_q rfl rfl rfl (op_neq rfl rfl ?_)
                      refine G_q rfl (op_pick_f rfl (av := .exact (.bool (decide (¬ y224.2 = y225.2)))) rfl ?_)
                      refine G_q rfl (op_move (av := .exact (.bool (decide (¬ y224.2 = y225.2)))) rfl ?_)
                      refine G_split (p := ¬ y224.2 = y225.2) 130 rfl (fun hc => ?_) (fun hc => ?_)
                      · replace h := ite_t h hc
                        refine G_n rfl rfl ?_
                        refine G_n rfl rfl ?_
                        refine G_n rfl rfl ?_
                        refine G_q rfl (op_pick_t rfl (av := .exact (.bool true)) rfl ?_)
                        refine G_q rfl (op_move (av := .exact (.bool true)) rfl ?_)
                        refine G_n rfl rfl ?_
                        refine G_n rfl rfl ?_
                        refine G_n rfl rfl ?_
                        refine G_q rfl (op_pick_t rfl (av := .exact (.bool true)) rfl ?_)
                        refine G_nil ?_
                        refine kI_normal ⟨_, h, ?_⟩
                        exact Sub.of_le (AF.le_put (AV.le_eq rfl) (AF.le_put (AV.le_eq rfl) (AF.le_put (AV.le_eq rfl) (AF.le_put (AV.le_eq rfl) (AF.le_put (AV.le_eq rfl) (AF.le_top _))))))
                      · replace h := ite_f h hc
                        refine Gy_q rfl rfl rfl (op_move (av := .exact (.string (bs y226.1))) rfl ?_)
                        refine Gy_q rfl rfl rfl (op_move (av := .exact (.string (bs y227.1))) rfl ?_)
                        refine Gy_q rfl rfl rfl (op_neqS rfl rfl ?_)
                        refine G_q rfl (op_pick_f rfl (av := .exact (.bool (decide (¬ y226.1 = y227.1)))) rfl ?_)
                        refine G_q rfl (op_move (av := .exact (.bool (decide (¬ y226.1 = y227.1)))) rfl ?_)
                        refine G_split (p := ¬ y226.1 = y227.1) 135 rfl (fun hc => ?_) (fun hc => ?_)
                        · replace h := ite_t h hc
                          refine G_n rfl rfl ?_
                          refine G_n rfl rfl ?_
                          refine G_n rfl rfl ?_
                          refine G_q rfl (op_pick_t rfl (av := .exact (.bool true)) rfl ?_)
                          refine G_nil ?_
                          refine kI_normal ⟨_, h, ?_⟩
                          exact Sub.of_le (AF.le_put (AV.le_eq rfl) (AF.le_put (AV.le_eq rfl) (AF.le_put (AV.le_eq rfl) (AF.le_put (AV.le_eq rfl) (AF.le_put (AV.le_eq rfl) (AF.le_top _))))))
                        · replace h := ite_f h hc
                          refine Gy_q rfl rfl rfl (op_move (av := .exact (.int .i64 y226.2)) rfl ?_)
                          refine Gy_q rfl rfl rfl (op_move (av := .exact (.int .i64 y227.2)) rfl ?_)
                          refine Gy_q rfl rfl rfl (op_neq rfl rfl ?_)
                          refine G_q rfl (op_pick_f rfl (av := .exact (.bool (decide (¬ y226.2 = y227.2)))) rfl ?_)
                          refine G_nil ?_
                          refine kI_normal ⟨_, h, ?_⟩
                          exact Sub.of_le (AF.le_put (AV.le_eq rfl) (AF.le_put (AV.le_eq rfl) (AF.le_put (AV.le_eq rfl) (AF.le_put (AV.le_eq rfl) (AF.le_put (AV.le_eq rfl) (AF.le_top _))))))
          · refine k_cond_b (c := x139_j230) rfl (fun hc => ?_) (fun hc => ?_)
            · replace h := ite_t h hc
              refine k_seq ?_
              refine k_reg .free hmixP (by kernel_rfl) ?_
              refine G_q rfl (op_assign (av := .exact (.bool false)) rfl ?_)
              refine G_nil ?_
              refine kC_normal ?_
              refine k_ret ?_
              refine kC_ret ?_
              refine kB_ret ?_
              refine kC_ret ?_
              refine kI_ret ?_
              refine kB_ret ?_
              refine kI_ret ?_
              obtain rfl := Option.some.inj h
              refine kP_any (endN (af' := (AF.put AF0 (some 8) (.exact (.bool false)))) (σ' := []) _ rfl ?_ ⟨rfl, rfl⟩)
              refine Sub.trans (SubU.to SubU.drop) ?_
              exact Sub.of_le (AF.le_put (AV.le_eq rfl) (AF.le_top _))
            · replace h := ite_f h hc
              refine k_skip ?_
              refine kC_normal ?_
              refine k_reg .free hmixP (by kernel_rfl) ?_
              refine G_q rfl (op_move (av := .row 1 c_api_Value x10_l4) rfl ?_)
              refine G_q rfl (op_move (av := .row 1 c_api_Value x11_l4) rfl ?_)
              obtain ⟨y231, hy231, h⟩ := bnd1_some h
              refine G_q rfl (op_pure (m_ref9_Map_ok _ _ _ hy231) Tryz.func23 (by kernel_rfl) (LEs.cons (AV.le_eq rfl) (LEs.cons (AV.le_eq rfl) LEs.nil)) ?_)
              refine G_q rfl (op_move (av := pA b2 0) rfl ?_)
              obtain ⟨y232, hy232, h⟩ := bnd1_some h
              refine G_l rfl (op_fun_1_0_1 (m_gen_Choices_Next_ok _ _ _ hy232) Tryz.func13 (by kernel_rfl) (LEs.cons (AV.le_eq rfl) (LEs.cons (AV.le_eq rfl) LEs.nil)) ?_)
              obtain ⟨y233, hy233, h⟩ := bnd1_some h
              refine G_q rfl (op_pure (m_ref9_Int_ok _ _ hy233) Tryz.func14 (by kernel_rfl) (LEs.cons (AV.le_eq rfl) LEs.nil) ?_)
              refine G_q rfl (op_move (av := pA b2 0) rfl ?_)
              obtain ⟨y234, hy234, h⟩ := bnd1_some h
              refine G_l rfl (op_fun_1_0_1 (m_gen_Choices_Value_ok _ _ _ hy234) Tryz.func10 (by kernel_rfl) (LEs.cons (AV.le_eq rfl) (LEs.cons (AV.le_eq rfl) LEs.nil)) ?_)
              refine G_q rfl (op_assign (av := .exact (.string (bs y231))) rfl ?_)
              refine G_q rfl (op_assign (av := .exact (.string (bs y233))) rfl ?_)
              refine G_q rfl (op_assign (av := .exact (.string (bs y234.1))) rfl ?_)
              refine G_nil ?_
              refine kB_normal ?_
              refine kC_normal ?_
              refine k_reg .free hmixP (by kernel_rfl) ?_
              refine G_q rfl (op_move (av := .exact (.int .i64 x13_l4)) rfl ?_)
              refine G_q rfl (op_add rfl rfl rfl ?_)
              refine G_q rfl (op_assign (av := .exact (.int .i64 (i64 (x13_l4 + 1)))) rfl ?_)
              refine G_nil ?_
              refine kI_normal ⟨_, _, _, _, _, _, _, _, h, ?_⟩
              exact Sub.of_le (AF.le_put (AV.le_eq rfl) (AF.le_put (AV.le_eq rfl) (AF.le_put (AV.le_eq rfl) (AF.le_put (AV.le_eq rfl) (AF.le_put (AV.le_eq rfl) (AF.le_put (AV.le_eq rfl) (AF.le_put (AV.le_eq rfl) (AF.le_top _))))))))
        · replace h := ite_f h hc
          refine k_exit ?_
          refine kC_exit ?_
          refine kI_exit ?_
          refine kB_exit ?_
          refine kI_normal ⟨h, ?_⟩
          refine Sub.trans (SubU.to SubU.drop) ?_
          exact Sub.of_le (AF.le_top _)
    · refine k_seq ?_
      refine k_reg .free hmixP (by kernel_rfl) ?_
      obtain ⟨y235, hy235, h⟩ := bnd1_some h
      refine G_q rfl (op_pure (m_law10_awake_ok _ hy235) Tryz.func8 (by kernel_rfl) LEs.nil ?_)
      refine G_q rfl (op_assign (av := .exact (.bool y235)) rfl ?_)
      refine G_nil ?_
      refine kC_normal ?_
      refine k_ret ?_
      obtain rfl := Option.some.inj h
      refine kP_any (endN (af' := (AF.put AF0 (some 8) (.exact (.bool y235)))) (σ' := []) _ rfl ?_ ⟨rfl, rfl⟩)
      exact Sub.of_le (AF.le_put (AV.le_eq rfl) (AF.le_top _))
end Go.Proofs.YtdbnodliomlilaaGreat
/- The functions compute their models, by program. -/
namespace Go.Proofs.YtdbnodliomlilaaGreat
open Go.RowKit
attribute [local irreducible] AV.exact AV.top AV.row AV.ptr AV.agg AV.tup AV.eptr AV.fn AV.nilq AV.nilqn opA opB opM opR Quiet Loud Reads wpG awp den Sub SubU Pure Fun vecI vecT boxI CellsAll CellsOf OneC LEs LEss
set_option maxRecDepth 100000

end Go.Proofs.YtdbnodliomlilaaGreat
