/- The functions compute their models, by program. -/
import Derived.Test.YtdppkpiagdaigaaGreatDoorQv6
namespace Go.Proofs.YtdppkpiagdaigaaGreatDoor
open Go.RowKit
attribute [local irreducible] AV.exact AV.top AV.row AV.ptr AV.agg AV.tup AV.eptr AV.fn AV.nilq AV.nilqn opA opB opM opR Quiet Loud Reads wpG awp den Sub SubU Pure Fun vecI vecT boxI CellsAll CellsOf OneC LEs LEss
set_option maxRecDepth 100000

set_option maxHeartbeats 4000000 in
theorem m_value_append16_ok {w0 : Value} (a0 : List UInt8) (a1 : Int) (r : (List UInt8)) (h : m_value_append16 a0 a1 = some r) : Fun Tryz.prog 60 [(.exact w0), (.exact (.int .u16 a1))] [vecT Tryz.prog 60 1 c_uint8 w0 a0] (fun a s => ∃ z0, a = .exact z0 ∧ s = [vecT Tryz.prog 60 1 c_uint8 z0 r]) := by
  unfold m_value_append16 at h
  refine fun_of_awp Tryz.func60 rfl Tryz.ntmps60 (by simp) rfl (res1 rfl) fun E hE => k_end ?_
  refine k_seq ?_
  refine k_reg .free hmixP (by kernel_rfl) ?_
  refine G_q rfl (op_assign (av := .exact (.slice none 0 0)) rfl ?_)
  refine G_nil ?_
  refine kC_normal ?_
  refine k_seq ?_
  refine k_reg .free hmixP (by kernel_rfl) ?_
  refine G_q rfl (op_move (av := .exact w0) rfl ?_)
  refine G_q rfl (op_move (av := .exact (.int .u16 a1)) rfl ?_)
  refine G_q rfl (op_shr rfl rfl (by decide) rfl ?_)
  refine G_q rfl (op_convInt (k := .u8) (r := (UInt8.toNat (u8i (Int.fdiv a1 (2 ^ min (Int.toNat 8) IntKind.u16.bits))) : Int)) (by kernel_rfl) rfl (u8i_eq _) ?_)
  refine G_q rfl (op_move (av := .exact (.int .u16 a1)) rfl ?_)
  refine G_q rfl (op_convInt (k := .u8) (r := (UInt8.toNat (u8i a1) : Int)) (by kernel_rfl) rfl (u8i_eq _) ?_)
  refine G_q rfl (op_litT (n := 1) (enc := c_uint8) [u8i (Int.fdiv a1 (2 ^ min (Int.toNat 8) IntKind.u16.bits)), u8i a1] (CellsAll.cons rfl CellsOf.int (CellsAll.cons rfl CellsOf.int CellsAll.nil)) rfl (by kernel_rfl) (LEss.cons (LEs.cons (AV.le_eq rfl) LEs.nil) (LEss.cons (LEs.cons (AV.le_eq rfl) LEs.nil) LEss.nil)) ?_)
  obtain ⟨n1, h⟩ := need_some h
  refine G_l rfl (op_appT (by kernel_rfl) rfl rfl oc_c_uint8 n1 (fun v2 => ?_))
  refine G_q rfl (op_assign (av := .exact v2) rfl ?_)
  refine G_nil ?_
  refine kC_normal ?_
  refine k_ret ?_
  obtain rfl := Option.some.inj h
  refine kP_any (endN (af' := (AF.put AF0 (some 4) (.exact v2))) (σ' := [vecT Tryz.prog 60 1 c_uint8 v2 (a0 ++ [u8i (Int.fdiv a1 (2 ^ min (Int.toNat 8) IntKind.u16.bits)), u8i a1])]) _ rfl ?_ ⟨v2, rfl, rfl⟩)
  exact Sub.of_le (AF.le_put (AV.le_eq rfl) (AF.le_top _))
set_option maxHeartbeats 4000000 in
theorem m_slices_IndexFunc_L_api_Value_api_Value_ok (a0 : List (List UInt8)) (a1 : (List UInt8) → Option Bool) (r : Int) (h : m_slices_IndexFunc_L_api_Value_api_Value a0 a1 = some r) : Pure Tryz.prog 99 [(.row 1 c_api_Value a0), (.fn Tryz.prog (fun (i : (List UInt8)) => [.exact (.string (bs i))]) (fun (i : (List UInt8)) => a1 i) (fun (r : Bool) => .exact (.bool r)))] (.exact (.int .i64 r)) := by
  unfold m_slices_IndexFunc_L_api_Value_api_Value at h
  refine Pure.ofFun (fun_of_awp Tryz.func99 rfl Tryz.ntmps99 (by simp) rfl (res1 rfl) fun E hE => k_end ?_)
  refine k_seq ?_
  refine k_reg .free hmixP (by kernel_rfl) ?_
  refine G_q rfl (op_assign (av := .exact (.int .i64 0)) rfl ?_)
  refine G_nil ?_
  refine kC_normal ?_
  refine k_join0_0 h (AF0) ([]) (fun k1 h => ?_) (fun  h => ?_)
  · refine k_seq ?_
    refine k_reg .free hmixP (by kernel_rfl) ?_
    refine G_q rfl (op_move (av := .row 1 c_api_Value a0) rfl ?_)
    refine G_q rfl (op_len_row (by kernel_rfl) rfl ?_)
    refine G_q rfl (op_move (av := .exact (.int .i64 0)) rfl ?_)
    refine G_nil ?_
    refine kC_normal ?_
    refine k_block ?_
    refine k_loop1_0 (m_slices_IndexFunc_L_api_Value_api_Value_L2 a0 a1 k1) (m_slices_IndexFunc_L_api_Value_api_Value_B2 a0 a1 k1) (fun _ => rfl) (fun m _ => rfl) h (fun (x8_l2 : Int) => (AF.put (AF.put (AF.put (AF.put AF0 (some 0) (.row 1 c_api_Value a0)) (some 1) (.fn Tryz.prog (fun (i : (List UInt8)) => [.exact (.string (bs i))]) (fun (i : (List UInt8)) => a1 i) (fun (r : Bool) => .exact (.bool r)))) (some 7) (.exact (.int .i64 (List.length a0 : Int)))) (some 8) (.exact (.int .i64 x8_l2)))) (fun (x8_l2 : Int) => []) ?_ (fun rec2 x8_l2 h => ?_)
    · exact Sub.of_le (AF.le_put (AV.le_eq rfl) (AF.le_put (AV.le_eq rfl) (AF.le_put (AV.le_eq rfl) (AF.le_put (AV.le_eq rfl) (AF.le_top _)))))
    · unfold m_slices_IndexFunc_L_api_Value_api_Value_B2 at h
      refine k_seq ?_
      refine k_reg .free hmixP (by kernel_rfl) ?_
      refine G_q rfl (op_lss rfl rfl ?_)
      refine G_nil ?_
      refine kC_normal ?_
      refine k_seq ?_
      refine k_cond_d (p := x8_l2 < (List.length a0 : Int)) rfl (fun hc => ?_) (fun hc => ?_)
      · replace h := ite_t h hc
        refine k_skip ?_
        refine kC_normal ?_
        refine k_seq ?_
        refine k_block ?_
        refine k_seq ?_
        refine k_reg .free hmixP (by kernel_rfl) ?_
        refine G_q rfl (op_move (av := .exact (.int .i64 x8_l2)) rfl ?_)
        refine G_q rfl (op_assign (av := .exact (.int .i64 x8_l2)) rfl ?_)
        refine G_nil ?_
        refine kC_normal ?_
        refine k_seq ?_
        refine k_reg .free hmixP (by kernel_rfl) ?_
        refine G_q rfl (op_move (av := .fn Tryz.prog (fun (i : (List UInt8)) => [.exact (.string (bs i))]) (fun (i : (List UInt8)) => a1 i) (fun (r : Bool) => .exact (.bool r))) rfl ?_)
        refine G_q rfl (op_move (av := .row 1 c_api_Value a0) rfl ?_)
        refine G_q rfl (op_move (av := .exact (.int .i64 x8_l2)) rfl ?_)
        obtain ⟨n13, h⟩ := need_some h
        refine G_q rfl (op_index_row (by kernel_rfl) rfl rfl n13.1 n13.2 ?_)
        refine G_q rfl (op_load1p (a := .exact (.string (bs (gi a0 x8_l2)))) (by kernel_rfl) rfl rfl ?_)
        obtain ⟨y14, hy14, h⟩ := bnd1_some h
        refine G_q rfl (op_callfn (gi a0 x8_l2) rfl hy14 (LEs.cons (AV.le_eq rfl) LEs.nil) ?_)
        refine G_nil ?_
        refine kC_normal ?_
        refine k_cond_b (c := y14) rfl (fun hc => ?_) (fun hc => ?_)
        · replace h := ite_t h hc
          refine k_seq ?_
          refine k_reg .free hmixP (by kernel_rfl) ?_
          refine G_q rfl (op_move (av := .exact (.int .i64 x8_l2)) rfl ?_)
          refine G_q rfl (op_assign (av := .exact (.int .i64 x8_l2)) rfl ?_)
          refine G_nil ?_
          refine kC_normal ?_
          refine k_ret ?_
          refine kB_ret ?_
          refine kC_ret ?_
          refine kI_ret ?_
          refine kB_ret ?_
          refine kI_ret ?_
          obtain rfl := Option.some.inj h
          refine kP_any (endN (af' := (AF.put AF0 (some 4) (.exact (.int .i64 x8_l2)))) (σ' := []) _ rfl ?_ ⟨rfl, rfl⟩)
          exact Sub.of_le (AF.le_put (AV.le_eq rfl) (AF.le_top _))
        · replace h := ite_f h hc
          refine k_skip ?_
          refine kB_normal ?_
          refine kC_normal ?_
          refine k_reg .free hmixP (by kernel_rfl) ?_
          refine G_q rfl (op_add rfl rfl rfl ?_)
          refine G_q rfl (op_move (av := .exact (.int .i64 (i64 (x8_l2 + 1)))) rfl ?_)
          refine G_nil ?_
          refine kI_normal ⟨_, h, ?_⟩
          exact Sub.of_le (AF.le_put (AV.le_eq rfl) (AF.le_put (AV.le_eq rfl) (AF.le_put (AV.le_eq rfl) (AF.le_put (AV.le_eq rfl) (AF.le_top _)))))
      · replace h := ite_f h hc
        refine k_exit ?_
        refine kC_exit ?_
        refine kI_exit ?_
        refine kB_exit ?_
        refine kI_normal ⟨h, ?_⟩
        exact Sub.of_le (AF.le_top _)
  · refine k_seq ?_
    refine k_reg .free hmixP (by kernel_rfl) ?_
    refine G_q rfl (op_assign (av := .exact (.int .i64 (-1))) rfl ?_)
    refine G_nil ?_
    refine kC_normal ?_
    refine k_ret ?_
    obtain rfl := Option.some.inj h
    refine kP_any (endN (af' := (AF.put AF0 (some 4) (.exact (.int .i64 (-1))))) (σ' := []) _ rfl ?_ ⟨rfl, rfl⟩)
    exact Sub.of_le (AF.le_put (AV.le_eq rfl) (AF.le_top _))
set_option maxHeartbeats 4000000 in
theorem m_slices_ContainsFunc_L_api_Value_api_Value_ok (a0 : List (List UInt8)) (a1 : (List UInt8) → Option Bool) (r : Bool) (h : m_slices_ContainsFunc_L_api_Value_api_Value a0 a1 = some r) : Pure Tryz.prog 77 [(.row 1 c_api_Value a0), (.fn Tryz.prog (fun (i : (List UInt8)) => [.exact (.string (bs i))]) (fun (i : (List UInt8)) => a1 i) (fun (r : Bool) => .exact (.bool r)))] (.exact (.bool r)) := by
  unfold m_slices_ContainsFunc_L_api_Value_api_Value at h
  refine Pure.ofFun (fun_of_awp Tryz.func77 rfl Tryz.ntmps77 (by simp) rfl (res1 rfl) fun E hE => k_end ?_)
  refine k_seq ?_
  refine k_reg .free hmixP (by kernel_rfl) ?_
  refine G_q rfl (op_assign (av := .exact (.bool false)) rfl ?_)
  refine G_nil ?_
  refine kC_normal ?_
  refine k_seq ?_
  refine k_reg .free hmixP (by kernel_rfl) ?_
  refine G_q rfl (op_move (av := .row 1 c_api_Value a0) rfl ?_)
  refine G_q rfl (op_move (av := .fn Tryz.prog (fun (i : (List UInt8)) => [.exact (.string (bs i))]) (fun (i : (List UInt8)) => a1 i) (fun (r : Bool) => .exact (.bool r))) rfl ?_)
  obtain ⟨y1, hy1, h⟩ := bnd1_some h
  refine G_q rfl (op_pure (m_slices_IndexFunc_L_api_Value_api_Value_ok _ _ _ hy1) Tryz.func99 (by kernel_rfl) (LEs.cons (AV.le_eq rfl) (LEs.cons (AV.le_eq rfl) LEs.nil)) ?_)
  refine G_q rfl (op_geq rfl rfl ?_)
  refine G_q rfl (op_assign (av := .exact (.bool (decide (0 ≤ y1)))) rfl ?_)
  refine G_nil ?_
  refine kC_normal ?_
  refine k_ret ?_
  obtain rfl := Option.some.inj h
  refine kP_any (endN (af' := (AF.put AF0 (some 4) (.exact (.bool (decide (0 ≤ y1)))))) (σ' := []) _ rfl ?_ ⟨rfl, rfl⟩)
  exact Sub.of_le (AF.le_put (AV.le_eq rfl) (AF.le_top _))
set_option maxHeartbeats 4000000 in
theorem m_value_compound_1_ok (a0 : List UInt8) (r : Bool) (h : m_value_compound_1 a0 = some r) : Pure Tryz.prog 78 [(.exact (.string (bs a0)))] (.exact (.bool r)) := by
  unfold m_value_compound_1 at h
  refine Pure.ofFun (fun_of_awp Tryz.func78 rfl Tryz.ntmps78 (by simp) rfl (res1 rfl) fun E hE => k_end ?_)
  refine k_seq ?_
  refine k_reg .free hmixP (by kernel_rfl) ?_
  refine G_q rfl (op_assign (av := .exact (.bool false)) rfl ?_)
  refine G_nil ?_
  refine kC_normal ?_
  refine k_seq ?_
  refine k_reg .free hmixP (by kernel_rfl) ?_
  refine G_q rfl (op_move (av := .exact (.string (bs a0))) rfl ?_)
  obtain ⟨y1, hy1, h⟩ := bnd1_some h
  refine G_q rfl (op_pure (m_value_Valid_ok _ _ hy1) Tryz.func43 (by kernel_rfl) (LEs.cons (AV.le_eq rfl) LEs.nil) ?_)
  refine G_q rfl (op_not rfl ?_)
  refine G_q rfl (op_assign (av := .exact (.bool (!y1))) rfl ?_)
  refine G_nil ?_
  refine kC_normal ?_
  refine k_ret ?_
  obtain rfl := Option.some.inj h
  refine kP_any (endN (af' := (AF.put AF0 (some 2) (.exact (.bool (!y1))))) (σ' := []) _ rfl ?_ ⟨rfl, rfl⟩)
  exact Sub.of_le (AF.le_put (AV.le_eq rfl) (AF.le_top _))
set_option maxHeartbeats 4000000 in
theorem m_value_checked_ok (a0 : List UInt8) (r : (List UInt8)) (h : m_value_checked a0 = some r) : Pure Tryz.prog 79 [(.row 1 c_uint8 a0)] (.exact (.string (bs r))) := by
  unfold m_value_checked at h
  refine Pure.ofFun (fun_of_awp Tryz.func79 rfl Tryz.ntmps79 (by simp) rfl (res1 rfl) fun E hE => k_end ?_)
  refine k_seq ?_
  refine k_reg .free hmixP (by kernel_rfl) ?_
  refine G_q rfl (op_assign (av := .exact (.string (bs ([] : List UInt8)))) rfl ?_)
  refine G_nil ?_
  refine kC_normal ?_
  refine k_seq ?_
  refine k_seq ?_
  refine k_reg .free hmixP (by kernel_rfl) ?_
  refine G_q rfl (op_move (av := .row 1 c_uint8 a0) rfl ?_)
  refine G_q rfl (op_bytesS rfl (by kernel_rfl) rfl ?_)
  obtain ⟨y1, hy1, h⟩ := bnd1_some h
  refine G_q rfl (op_pure (m_value_Valid_ok _ _ hy1) Tryz.func43 (by kernel_rfl) (LEs.cons (AV.le_eq rfl) LEs.nil) ?_)
  refine G_q rfl (op_not rfl ?_)
  refine G_nil ?_
  refine kC_normal ?_
  refine k_cond_b (c := !y1) rfl (fun hc => ?_) (fun hc => ?_)
  · replace h := ite_t h hc
    refine k_seq ?_
    refine k_reg .free hmixP (by kernel_rfl) ?_
    refine G_q rfl (op_assign (av := .exact (.string (bs ([] : List UInt8)))) rfl ?_)
    refine G_nil ?_
    refine kC_normal ?_
    refine k_ret ?_
    refine kC_ret ?_
    obtain rfl := Option.some.inj h
    refine kP_any (endN (af' := (AF.put AF0 (some 2) (.exact (.string (bs ([] : List UInt8)))))) (σ' := []) _ rfl ?_ ⟨rfl, rfl⟩)
    exact Sub.of_le (AF.le_put (AV.le_eq rfl) (AF.le_top _))
  · replace h := ite_f h hc
    refine k_skip ?_
    refine kC_normal ?_
    refine k_seq ?_
    refine k_reg .free hmixP (by kernel_rfl) ?_
    refine G_q rfl (op_move (av := .row 1 c_uint8 a0) rfl ?_)
    refine G_q rfl (op_bytesS rfl (by kernel_rfl) rfl ?_)
    refine G_q rfl (op_assign (av := .exact (.string (bs a0))) rfl ?_)
    refine G_nil ?_
    refine kC_normal ?_
    refine k_ret ?_
    obtain rfl := Option.some.inj h
    refine kP_any (endN (af' := (AF.put AF0 (some 2) (.exact (.string (bs a0))))) (σ' := []) _ rfl ?_ ⟨rfl, rfl⟩)
    exact Sub.of_le (AF.le_put (AV.le_eq rfl) (AF.le_top _))
set_option maxHeartbeats 4000000 in
theorem m_value_compound_ok (a0 : Int) (a1 : List (List UInt8)) (r : (List UInt8)) (h : m_value_compound a0 a1 = some r) : Pure Tryz.prog 52 [(.exact (.int .i64 a0)), (.row 1 c_api_Value a1)] (.exact (.string (bs r))) := by
  unfold m_value_compound at h
  refine Pure.ofFun (fun_of_awp Tryz.func52 rfl Tryz.ntmps52 (by simp) rfl (res1 rfl) fun E hE => k_end ?_)
  refine k_seq ?_
  refine k_reg .free hmixP (by kernel_rfl) ?_
  refine G_q rfl (op_assign (av := .exact (.string (bs ([] : List UInt8)))) rfl ?_)
  refine G_nil ?_
  refine kC_normal ?_
  refine k_seq ?_
  refine k_seq ?_
  refine k_reg .free hmixP (by kernel_rfl) ?_
  refine G_q rfl (op_move (av := .row 1 c_api_Value a1) rfl ?_)
  refine G_q rfl (op_len_row (by kernel_rfl) rfl ?_)
  refine G_q rfl (op_gtr rfl rfl ?_)
  refine G_nil ?_
  refine kC_normal ?_
  refine k_cond_d (p := 65535 < (List.length a1 : Int)) rfl (fun hc => ?_) (fun hc => ?_)
  · replace h := ite_t h hc
    refine k_seq ?_
    refine k_reg .free hmixP (by kernel_rfl) ?_
    refine G_q rfl (op_assign (av := .exact (.string (bs ([] : List UInt8)))) rfl ?_)
    refine G_nil ?_
    refine kC_normal ?_
    refine k_ret ?_
    refine kC_ret ?_
    obtain rfl := Option.some.inj h
    refine kP_any (endN (af' := (AF.put AF0 (some 4) (.exact (.string (bs ([] : List UInt8)))))) (σ' := []) _ rfl ?_ ⟨rfl, rfl⟩)
    exact Sub.of_le (AF.le_put (AV.le_eq rfl) (AF.le_top _))
  · replace h := ite_f h hc
    refine k_skip ?_
    refine kC_normal ?_
    refine k_seq ?_
    refine k_reg .free hmixP (by kernel_rfl) ?_
    refine G_q rfl (op_move (av := .exact (.int .i64 a0)) rfl ?_)
    refine G_q rfl (op_convInt (k := .u8) (r := (UInt8.toNat (u8i a0) : Int)) (by kernel_rfl) rfl (u8i_eq _) ?_)
    refine G_l rfl (op_litI (n := 1) (enc := c_uint8) [u8i a0] (by kernel_rfl) (CellsAll.cons rfl CellsOf.int CellsAll.nil) rfl (by kernel_rfl) (LEss.cons (LEs.cons (AV.le_eq rfl) LEs.nil) LEss.nil) (fun v1 => ?_))
    refine G_q rfl (op_move (av := .row 1 c_api_Value a1) rfl ?_)
    refine G_q rfl (op_len_row (by kernel_rfl) rfl ?_)
    refine G_q rfl (op_convInt (k := .u16) (by kernel_rfl) rfl rfl ?_)
    obtain ⟨y2, hy2, h⟩ := bnd1_some h
    refine G_l rfl (op_fun_1_1_1 (m_value_append16_ok _ _ _ hy2) Tryz.func60 (by kernel_rfl) (LEs.cons (AV.le_eq rfl) (LEs.cons (AV.le_eq rfl) LEs.nil)) (fun v3 => ?_))
    refine G_q rfl (op_assign (av := .exact v3) rfl ?_)
    refine G_nil ?_
    refine kC_normal ?_
    refine k_join1_1 h (fun (x5_j4 : List UInt8) (v5_j4 : Value) => (AF.put (AF.put AF0 (some 1) (.row 1 c_api_Value a1)) (some 5) (.exact v5_j4))) (fun (x5_j4 : List UInt8) (v5_j4 : Value) => [vecT Tryz.prog 60 1 c_uint8 v5_j4 x5_j4]) (fun k4 h => ?_) (fun x5_j4 v5_j4 h => ?_)
    · refine k_seq ?_
      refine k_reg .free hmixP (by kernel_rfl) ?_
      refine G_q rfl (op_move (av := .row 1 c_api_Value a1) rfl ?_)
      refine G_q rfl (op_len_row (by kernel_rfl) rfl ?_)
      refine G_q rfl (op_move (av := .exact (.int .i64 0)) rfl ?_)
      refine G_nil ?_
      refine kC_normal ?_
      refine k_block ?_
      refine k_loop2_1 (m_value_compound_L2 a1 k4) (m_value_compound_B2 a1 k4) (fun _ _ => rfl) (fun m _ _ => rfl) h (fun (x5_l2 : List UInt8) (x20_l2 : Int) (v5_l2 : Value) => (AF.put (AF.put (AF.put (AF.put (AF.put AF0 (some 1) (.row 1 c_api_Value a1)) (some 5) (.exact v5_l2)) (some 18) (.row 1 c_api_Value a1)) (some 19) (.exact (.int .i64 (List.length a1 : Int)))) (some 20) (.exact (.int .i64 x20_l2)))) (fun (x5_l2 : List UInt8) (x20_l2 : Int) (v5_l2 : Value) => [vecT Tryz.prog 60 1 c_uint8 v5_l2 x5_l2]) v3 ?_ (fun rec2 x5_l2 x20_l2 v5_l2 h => ?_)
      · exact Sub.of_le (AF.le_put (AV.le_eq rfl) (AF.le_put (AV.le_eq rfl) (AF.le_put (AV.le_eq rfl) (AF.le_put (AV.le_eq rfl) (AF.le_put (AV.le_eq rfl) (AF.le_top _))))))
      · unfold m_value_compound_B2 at h
        refine k_seq ?_
        refine k_reg .free hmixP (by kernel_rfl) ?_
        refine G_q rfl (op_lss rfl rfl ?_)
        refine G_nil ?_
        refine kC_normal ?_
        refine k_seq ?_
        refine k_cond_d (p := x20_l2 < (List.length a1 : Int)) rfl (fun hc => ?_) (fun hc => ?_)
        · replace h := ite_t h hc
          refine k_skip ?_
          refine kC_normal ?_
          refine k_seq ?_
          refine k_block ?_
          refine k_seq ?_
          refine k_reg .free hmixP (by kernel_rfl) ?_
          obtain ⟨n78, h⟩ := need_some h
          refine G_q rfl (op_index_row (by kernel_rfl) rfl rfl n78.1 n78.2 ?_)
          refine G_q rfl (op_load1p (a := .exact (.string (bs (gi a1 x20_l2)))) (by kernel_rfl) rfl rfl ?_)
          refine G_q rfl (op_assign (av := .exact (.string (bs (gi a1 x20_l2)))) rfl ?_)
          refine G_nil ?_
          refine kC_normal ?_
          refine k_seq ?_
          refine k_join1_0 h (fun (x33_j81 : Bool) => (AF.put (AF.put (AF.put (AF.put (AF.put (AF.put (AF.put AF0 (some 1) (.row 1 c_api_Value a1)) (some 5) (.exact v5_l2)) (some 7) (.exact (.string (bs (gi a1 x20_l2))))) (some 18) (.row 1 c_api_Value a1)) (some 19) (.exact (.int .i64 (List.length a1 : Int)))) (some 20) (.exact (.int .i64 x20_l2))) (some 33) (.exact (.bool x33_j81)))) (fun (x33_j81 : Bool) => [vecT Tryz.prog 60 1 c_uint8 v5_l2 x5_l2]) (fun k81 h => ?_) (fun x33_j81 h => ?_)
          · refine k_reg .free hmixP (by kernel_rfl) ?_
            refine G_q rfl (op_move (av := .exact (.string (bs (gi a1 x20_l2)))) rfl ?_)
            refine G_q rfl (op_eqlS rfl rfl ?_)
            refine G_q rfl (op_move (av := .exact (.bool (decide ((gi a1 x20_l2) = ([] : List UInt8))))) rfl ?_)
            refine G_split (p := (gi a1 x20_l2) = ([] : List UInt8)) 26 rfl (fun hc => ?_) (fun hc => ?_)
            · replace h := ite_t h hc
              refine G_n rfl rfl ?_
              refine G_n rfl rfl ?_
              refine G_n rfl rfl ?_
              refine G_n rfl rfl ?_
              refine G_n rfl rfl ?_
              refine G_n rfl rfl ?_
              refine G_q rfl (op_pick_t rfl (av := .exact (.bool true)) rfl ?_)
              refine G_nil ?_
              refine kI_normal ⟨_, h, ?_⟩
              exact Sub.of_le (AF.le_put (AV.le_eq rfl) (AF.le_put (AV.le_eq rfl) (AF.le_put (AV.le_eq rfl) (AF.le_put (AV.le_eq rfl) (AF.le_put (AV.le_eq rfl) (AF.le_put (AV.le_eq rfl) (AF.le_put (AV.le_eq rfl) (AF.le_top _))))))))
            · replace h := ite_f h hc
              refine Gy_q rfl rfl rfl (op_move (av := .exact v5_l2) rfl ?_)
              refine Gy_r rfl rfl rfl (op_len_vec (by kernel_rfl) rfl ?_)
              refine Gy_q rfl rfl rfl (op_move (av := .exact (.string (bs (gi a1 x20_l2)))) rfl ?_)
              refine Gy_q rfl rfl rfl (op_lenS (by kernel_rfl) rfl ?_)
              refine Gy_q rfl rfl rfl (op_add rfl rfl rfl ?_)
              refine Gy_q rfl rfl rfl (op_gtr rfl rfl ?_)
              refine G_q rfl (op_pick_f rfl (av := .exact (.bool (decide (131072 < (i64 ((List.length x5_l2 : Int) + (List.length (gi a1 x20_l2) : Int))))))) rfl ?_)
              refine G_nil ?_
              refine kI_normal ⟨_, h, ?_⟩
              exact Sub.of_le (AF.le_put (AV.le_eq rfl) (AF.le_put (AV.le_eq rfl) (AF.le_put (AV.le_eq rfl) (AF.le_put (AV.le_eq rfl) (AF.le_put (AV.le_eq rfl) (AF.le_put (AV.le_eq rfl) (AF.le_put (AV.le_eq rfl) (AF.le_top _))))))))
          · refine k_cond_b (c := x33_j81) rfl (fun hc => ?_) (fun hc => ?_)
            · replace h := ite_t h hc
              refine k_seq ?_
              refine k_reg .free hmixP (by kernel_rfl) ?_
              refine G_q rfl (op_assign (av := .exact (.string (bs ([] : List UInt8)))) rfl ?_)
              refine G_nil ?_
              refine kC_normal ?_
              refine k_ret ?_
              refine kC_ret ?_
              refine kB_ret ?_
              refine kC_ret ?_
              refine kI_ret ?_
              refine kB_ret ?_
              refine kI_ret ?_
              obtain rfl := Option.some.inj h
              refine kP_any (endN (af' := (AF.put AF0 (some 4) (.exact (.string (bs ([] : List UInt8)))))) (σ' := []) _ rfl ?_ ⟨rfl, rfl⟩)
              refine Sub.trans (SubU.to SubU.drop) ?_
              exact Sub.of_le (AF.le_put (AV.le_eq rfl) (AF.le_top _))
            · replace h := ite_f h hc
              refine k_skip ?_
              refine kC_normal ?_
              refine k_reg .free hmixP (by kernel_rfl) ?_
              refine G_q rfl (op_move (av := .exact v5_l2) rfl ?_)
              refine G_q rfl (op_move (av := .exact (.string (bs (gi a1 x20_l2)))) rfl ?_)
              obtain ⟨n82, h⟩ := need_some h
              refine G_l rfl (op_appTS (fun _ => rfl) (by kernel_rfl) (by kernel_rfl) (by kernel_rfl) (by kernel_rfl) rfl rfl n82 (fun v83 => ?_))
              refine G_q rfl (op_assign (av := .exact v83) rfl ?_)
              refine G_nil ?_
              refine kB_normal ?_
              refine kC_normal ?_
              refine k_reg .free hmixP (by kernel_rfl) ?_
              refine G_q rfl (op_add rfl rfl rfl ?_)
              refine G_q rfl (op_move (av := .exact (.int .i64 (i64 (x20_l2 + 1)))) rfl ?_)
              refine G_nil ?_
              refine kI_normal ⟨_, _, v83, h, ?_⟩
              exact Sub.of_le (AF.le_put (AV.le_eq rfl) (AF.le_put (AV.le_eq rfl) (AF.le_put (AV.le_eq rfl) (AF.le_put (AV.le_eq rfl) (AF.le_put (AV.le_eq rfl) (AF.le_top _))))))
        · replace h := ite_f h hc
          refine k_exit ?_
          refine kC_exit ?_
          refine kI_exit ?_
          refine kB_exit ?_
          refine kI_normal ⟨_, v5_l2, h, ?_⟩
          exact Sub.of_le (AF.le_put (AV.le_eq rfl) (AF.le_put (AV.le_eq rfl) (AF.le_top _)))
    · refine k_seq ?_
      refine k_seq ?_
      refine k_reg .free hmixP (by kernel_rfl) ?_
      refine G_q rfl (op_move (av := .row 1 c_api_Value a1) rfl ?_)
      obtain ⟨y84, hy84, h⟩ := bnd1_some h
      refine G_q rfl (op_pure (m_slices_ContainsFunc_L_api_Value_api_Value_ok _ _ _ hy84) Tryz.func77 (by kernel_rfl) (LEs.cons (AV.le_eq rfl) (LEs.cons ((fn_le Tryz.func78 (by kernel_rfl) (fun i r h => m_value_compound_1_ok i r h))) LEs.nil)) ?_)
      refine G_q rfl (op_not rfl ?_)
      refine G_nil ?_
      refine kC_normal ?_
      refine k_cond_b (c := !y84) rfl (fun hc => ?_) (fun hc => ?_)
      · replace h := ite_t h hc
        refine k_seq ?_
        refine k_reg .free hmixP (by kernel_rfl) ?_
        refine G_q rfl (op_move (av := .exact v5_j4) rfl ?_)
        refine G_sub rfl (SubU.freezeT2 (s1 := 5) (s2 := 41) rfl rfl len_c_uint8) ?_
        obtain ⟨y85, hy85, h⟩ := bnd1_some h
        refine G_q rfl (op_pure (m_value_checked_ok _ _ hy85) Tryz.func79 (by kernel_rfl) (LEs.cons (AV.le_eq rfl) LEs.nil) ?_)
        refine G_q rfl (op_assign (av := .exact (.string (bs y85))) rfl ?_)
        refine G_nil ?_
        refine kC_normal ?_
        refine k_ret ?_
        refine kC_ret ?_
        obtain rfl := Option.some.inj h
        refine kP_any (endN (af' := (AF.put AF0 (some 4) (.exact (.string (bs y85))))) (σ' := []) _ rfl ?_ ⟨rfl, rfl⟩)
        exact Sub.of_le (AF.le_put (AV.le_eq rfl) (AF.le_top _))
      · replace h := ite_f h hc
        refine k_skip ?_
        refine kC_normal ?_
        refine k_seq ?_
        refine k_reg .free hmixP (by kernel_rfl) ?_
        refine G_q rfl (op_assign (av := .exact (.string (bs ([] : List UInt8)))) rfl ?_)
        refine G_nil ?_
        refine kC_normal ?_
        refine k_ret ?_
        obtain rfl := Option.some.inj h
        refine kP_any (endN (af' := (AF.put AF0 (some 4) (.exact (.string (bs ([] : List UInt8)))))) (σ' := []) _ rfl ?_ ⟨rfl, rfl⟩)
        refine Sub.trans (SubU.to SubU.drop) ?_
        exact Sub.of_le (AF.le_put (AV.le_eq rfl) (AF.le_top _))
set_option maxHeartbeats 4000000 in
theorem m_value_Set_ok (a0 : List (List UInt8)) (r : (List UInt8)) (h : m_value_Set a0 = some r) : Pure Tryz.prog 16 [(.row 1 c_api_Value a0)] (.exact (.string (bs r))) := by
  unfold m_value_Set at h
  refine Pure.ofFun (fun_of_awp Tryz.func16 rfl Tryz.ntmps16 (by simp) rfl (res1 rfl) fun E hE => k_end ?_)
  refine k_seq ?_
  refine k_reg .free hmixP (by kernel_rfl) ?_
  refine G_q rfl (op_assign (av := .exact (.string (bs ([] : List UInt8)))) rfl ?_)
  refine G_nil ?_
  refine kC_normal ?_
  refine k_seq ?_
  refine k_reg .free hmixP (by kernel_rfl) ?_
  refine G_q rfl (op_move (av := .row 1 c_api_Value a0) rfl ?_)
  obtain ⟨y1, hy1, h⟩ := bnd1_some h
  refine G_q rfl (op_pure (m_value_Sort_ok _ _ hy1) Tryz.func53 (by kernel_rfl) (LEs.cons (AV.le_eq rfl) LEs.nil) ?_)
  obtain ⟨y2, hy2, h⟩ := bnd1_some h
  refine G_q rfl (op_pure (m_value_compound_ok _ _ _ hy2) Tryz.func52 (by kernel_rfl) (LEs.cons (AV.le_eq rfl) (LEs.cons (AV.le_eq rfl) LEs.nil)) ?_)
  refine G_q rfl (op_assign (av := .exact (.string (bs y2))) rfl ?_)
  refine G_nil ?_
  refine kC_normal ?_
  refine k_ret ?_
  obtain rfl := Option.some.inj h
  refine kP_any (endN (af' := (AF.put AF0 (some 2) (.exact (.string (bs y2))))) (σ' := []) _ rfl ?_ ⟨rfl, rfl⟩)
  exact Sub.of_le (AF.le_put (AV.le_eq rfl) (AF.le_top _))
set_option maxHeartbeats 4000000 in
theorem m_value_Kind_ok (a0 : List UInt8) (r : Int) (h : m_value_Kind a0 = some r) : Pure Tryz.prog 21 [(.exact (.string (bs a0)))] (.exact (.int .i64 r)) := by
  unfold m_value_Kind at h
  refine Pure.ofFun (fun_of_awp Tryz.func21 rfl Tryz.ntmps21 (by simp) rfl (res1 rfl) fun E hE => k_end ?_)
  refine k_seq ?_
  refine k_reg .free hmixP (by kernel_rfl) ?_
  refine G_q rfl (op_assign (av := .exact (.int .i64 0)) rfl ?_)
  refine G_nil ?_
  refine kC_normal ?_
  refine k_seq ?_
  refine k_seq ?_
  refine k_reg .free hmixP (by kernel_rfl) ?_
  refine G_q rfl (op_move (av := .exact (.string (bs a0))) rfl ?_)
  obtain ⟨y1, hy1, h⟩ := bnd1_some h
  refine G_q rfl (op_pure (m_value_Valid_ok _ _ hy1) Tryz.func43 (by kernel_rfl) (LEs.cons (AV.le_eq rfl) LEs.nil) ?_)
  refine G_q rfl (op_not rfl ?_)
  refine G_nil ?_
  refine kC_normal ?_
  refine k_cond_b (c := !y1) rfl (fun hc => ?_) (fun hc => ?_)
  · replace h := ite_t h hc
    refine k_seq ?_
    refine k_reg .free hmixP (by kernel_rfl) ?_
    refine G_q rfl (op_assign (av := .exact (.int .i64 0)) rfl ?_)
    refine G_nil ?_
    refine kC_normal ?_
    refine k_ret ?_
    refine kC_ret ?_
    obtain rfl := Option.some.inj h
    refine kP_any (endN (af' := (AF.put AF0 (some 2) (.exact (.int .i64 0)))) (σ' := []) _ rfl ?_ ⟨rfl, rfl⟩)
    exact Sub.of_le (AF.le_put (AV.le_eq rfl) (AF.le_top _))
  · replace h := ite_f h hc
    refine k_skip ?_
    refine kC_normal ?_
    refine k_seq ?_
    refine k_reg .free hmixP (by kernel_rfl) ?_
    refine G_q rfl (op_move (av := .exact (.string (bs a0))) rfl ?_)
    obtain ⟨n2, h⟩ := need_some h
    refine G_q rfl (op_index_str (by kernel_rfl) rfl rfl n2.1 n2.2 ?_)
    refine G_q rfl (op_convInt (k := .i64) (r := (UInt8.toNat (gi a0 0) : Int)) (by kernel_rfl) rfl (wrap_u8 rfl _) ?_)
    refine G_q rfl (op_assign (av := .exact (.int .i64 (UInt8.toNat (gi a0 0) : Int))) rfl ?_)
    refine G_nil ?_
    refine kC_normal ?_
    refine k_ret ?_
    obtain rfl := Option.some.inj h
    refine kP_any (endN (af' := (AF.put AF0 (some 2) (.exact (.int .i64 (UInt8.toNat (gi a0 0) : Int))))) (σ' := []) _ rfl ?_ ⟨rfl, rfl⟩)
    exact Sub.of_le (AF.le_put (AV.le_eq rfl) (AF.le_top _))
set_option maxHeartbeats 4000000 in
theorem m_value_Parts_ok (a0 : List UInt8) (r : (List (List UInt8))) (h : m_value_Parts a0 = some r) : Pure Tryz.prog 23 [(.exact (.string (bs a0)))] (.row 1 c_api_Value r) := by
  unfold m_value_Parts at h
  refine Pure.ofFun (fun_of_awp Tryz.func23 rfl Tryz.ntmps23 (by simp) rfl (res1 rfl) fun E hE => k_end ?_)
  refine k_seq ?_
  refine k_reg .free hmixP (by kernel_rfl) ?_
  refine G_q rfl (op_assign (av := .exact (.slice none 0 0)) rfl ?_)
  refine G_nil ?_
  refine kC_normal ?_
  refine k_seq ?_
  refine k_seq ?_
  refine k_reg .free hmixP (by kernel_rfl) ?_
  refine G_q rfl (op_move (av := .exact (.string (bs a0))) rfl ?_)
  obtain ⟨y1, hy1, h⟩ := bnd1_some h
  refine G_q rfl (op_pure (m_value_Kind_ok _ _ hy1) Tryz.func21 (by kernel_rfl) (LEs.cons (AV.le_eq rfl) LEs.nil) ?_)
  obtain ⟨y2, hy2, h⟩ := bnd1_some h
  refine G_q rfl (op_pure (m_value_simple_ok _ _ hy2) Tryz.func54 (by kernel_rfl) (LEs.cons (AV.le_eq rfl) LEs.nil) ?_)
  refine G_nil ?_
  refine kC_normal ?_
  refine k_cond_b (c := y2) rfl (fun hc => ?_) (fun hc => ?_)
  · replace h := ite_t h hc
    refine k_seq ?_
    refine k_reg .free hmixP (by kernel_rfl) ?_
    refine G_q rfl (op_assign (av := .exact (.slice none 0 0)) rfl ?_)
    refine G_nil ?_
    refine kC_normal ?_
    refine k_ret ?_
    refine kC_ret ?_
    obtain rfl := Option.some.inj h
    refine kP_any (endN (af' := (AF.put AF0 (some 2) (.row 1 c_api_Value []))) (σ' := []) _ rfl ?_ ⟨rfl, rfl⟩)
    exact Sub.of_le (AF.le_put (row_nil (by decide)) (AF.le_top _))
  · replace h := ite_f h hc
    refine k_skip ?_
    refine kC_normal ?_
    refine k_seq ?_
    refine k_reg .free hmixP (by kernel_rfl) ?_
    refine G_q rfl (op_move (av := .exact (.string (bs a0))) rfl ?_)
    obtain ⟨y3, hy3, h⟩ := bnd1_some h
    refine G_q rfl (op_pure (m_value_parts_ok _ _ hy3) Tryz.func55 (by kernel_rfl) (LEs.cons (AV.le_eq rfl) LEs.nil) ?_)
    refine G_q rfl (op_assign (av := .row 1 c_api_Value y3) rfl ?_)
    refine G_nil ?_
    refine kC_normal ?_
    refine k_ret ?_
    obtain rfl := Option.some.inj h
    refine kP_any (endN (af' := (AF.put AF0 (some 2) (.row 1 c_api_Value y3))) (σ' := []) _ rfl ?_ ⟨rfl, rfl⟩)
    exact Sub.of_le (AF.le_put (AV.le_eq rfl) (AF.le_top _))
set_option maxHeartbeats 4000000 in
theorem m_value_Number_ok (a0 : List UInt8) (r : Int) (h : m_value_Number a0 = some r) : Pure Tryz.prog 25 [(.exact (.string (bs a0)))] (.exact (.int .i64 r)) := by
  unfold m_value_Number at h
  refine Pure.ofFun (fun_of_awp Tryz.func25 rfl Tryz.ntmps25 (by simp) rfl (res1 rfl) fun E hE => k_end ?_)
  refine k_seq ?_
  refine k_reg .free hmixP (by kernel_rfl) ?_
  refine G_q rfl (op_assign (av := .exact (.int .i64 0)) rfl ?_)
  refine G_nil ?_
  refine kC_normal ?_
  refine k_seq ?_
  refine k_seq ?_
  refine k_reg .free hmixP (by kernel_rfl) ?_
  refine G_q rfl (op_move (av := .exact (.string (bs a0))) rfl ?_)
  obtain ⟨y1, hy1, h⟩ := bnd1_some h
  refine G_q rfl (op_pure (m_value_Kind_ok _ _ hy1) Tryz.func21 (by kernel_rfl) (LEs.cons (AV.le_eq rfl) LEs.nil) ?_)
  refine G_nil ?_
  refine kC_normal ?_
  refine k_block ?_
  refine k_seq ?_
  refine k_reg .free hmixP (by kernel_rfl) ?_
  refine G_q rfl (op_eql rfl rfl ?_)
  refine G_q rfl (op_assign (av := .exact (.bool (decide (y1 = 1)))) rfl ?_)
  refine G_nil ?_
  refine kC_normal ?_
  refine k_cond_d (p := y1 = 1) rfl (fun hc => ?_) (fun hc => ?_)
  · replace h := ite_t h hc
    refine k_seq ?_
    refine k_reg .free hmixP (by kernel_rfl) ?_
    refine G_q rfl (op_move (av := .exact (.string (bs a0))) rfl ?_)
    obtain ⟨y2, hy2, h⟩ := bnd1_some h
    refine G_q rfl (op_pure (m_value_integer_ok _ _ hy2) Tryz.func57 (by kernel_rfl) (LEs.cons (AV.le_eq rfl) LEs.nil) ?_)
    refine G_q rfl (op_assign (av := .exact (.int .i64 y2)) rfl ?_)
    refine G_nil ?_
    refine kC_normal ?_
    refine k_ret ?_
    refine kB_ret ?_
    refine kC_ret ?_
    obtain rfl := Option.some.inj h
    refine kP_any (endN (af' := (AF.put AF0 (some 2) (.exact (.int .i64 y2)))) (σ' := []) _ rfl ?_ ⟨rfl, rfl⟩)
    exact Sub.of_le (AF.le_put (AV.le_eq rfl) (AF.le_top _))
  · replace h := ite_f h hc
    refine k_seq ?_
    refine k_reg .free hmixP (by kernel_rfl) ?_
    refine G_q rfl (op_eql rfl rfl ?_)
    refine G_q rfl (op_assign (av := .exact (.bool (decide (y1 = 2)))) rfl ?_)
    refine G_nil ?_
    refine kC_normal ?_
    refine k_cond_d (p := y1 = 2) rfl (fun hc => ?_) (fun hc => ?_)
    · replace h := ite_t h hc
      refine k_seq ?_
      refine k_reg .free hmixP (by kernel_rfl) ?_
      refine G_q rfl (op_move (av := .exact (.string (bs a0))) rfl ?_)
      obtain ⟨n3, h⟩ := need_some h
      refine G_q rfl (op_index_str (by kernel_rfl) rfl rfl n3.1 n3.2 ?_)
      refine G_q rfl (op_convInt (k := .i64) (r := (UInt8.toNat (gi a0 1) : Int)) (by kernel_rfl) rfl (wrap_u8 rfl _) ?_)
      refine G_q rfl (op_assign (av := .exact (.int .i64 (UInt8.toNat (gi a0 1) : Int))) rfl ?_)
      refine G_nil ?_
      refine kC_normal ?_
      refine k_ret ?_
      refine kB_ret ?_
      refine kC_ret ?_
      obtain rfl := Option.some.inj h
      refine kP_any (endN (af' := (AF.put AF0 (some 2) (.exact (.int .i64 (UInt8.toNat (gi a0 1) : Int))))) (σ' := []) _ rfl ?_ ⟨rfl, rfl⟩)
      exact Sub.of_le (AF.le_put (AV.le_eq rfl) (AF.le_top _))
    · replace h := ite_f h hc
      refine k_seq ?_
      refine k_reg .free hmixP (by kernel_rfl) ?_
      refine G_q rfl (op_eql rfl rfl ?_)
      refine G_q rfl (op_assign (av := .exact (.bool (decide (y1 = 10)))) rfl ?_)
      refine G_nil ?_
      refine kC_normal ?_
      refine k_cond_d (p := y1 = 10) rfl (fun hc => ?_) (fun hc => ?_)
      · replace h := ite_t h hc
        refine k_seq ?_
        refine k_plan [] [(0, 0), (0, 1), (0, 2), (0, 3), (0, 4), (0, 5), (0, 6), (0, 7), (0, 8)] hmixP (by kernel_rfl) ?_
        refine P_q no34_0 rfl (op_move (av := .exact (.string (bs a0))) rfl ?_)
        obtain ⟨n4, h⟩ := need_some h
        refine P_q no34_0 rfl (op_index_str (by kernel_rfl) rfl rfl n4.1 n4.2 ?_)
        refine P_q no34_0 rfl (op_convInt (k := .i64) (r := (UInt8.toNat (gi a0 1) : Int)) (by kernel_rfl) rfl (wrap_u8 rfl _) ?_)
        refine P_q no34_0 rfl (op_shl rfl rfl (by decide) rfl ?_)
        refine P_q no34_0 rfl (op_move (av := .exact (.string (bs a0))) rfl ?_)
        obtain ⟨n5, h⟩ := need_some h
        refine P_q no34_0 rfl (op_index_str (by kernel_rfl) rfl rfl n5.1 n5.2 ?_)
        refine P_q no34_0 rfl (op_convInt (k := .i64) (r := (UInt8.toNat (gi a0 2) : Int)) (by kernel_rfl) rfl (wrap_u8 rfl _) ?_)
        refine P_q no34_0 rfl (op_or rfl rfl rfl ?_)
        refine P_q no34_0 rfl (op_assign (av := .exact (.int .i64 (bOr .i64 (i64 ((UInt8.toNat (gi a0 1) : Int) * 2 ^ min (Int.toNat 8) IntKind.i64.bits)) (UInt8.toNat (gi a0 2) : Int)))) rfl ?_)
        refine P_nil ?_
        refine kC_normal ?_
        refine k_ret ?_
        refine kB_ret ?_
        refine kC_ret ?_
        obtain rfl := Option.some.inj h
        refine kP_any (endN (af' := (AF.put AF0 (some 2) (.exact (.int .i64 (bOr .i64 (i64 ((UInt8.toNat (gi a0 1) : Int) * 2 ^ min (Int.toNat 8) IntKind.i64.bits)) (UInt8.toNat (gi a0 2) : Int)))))) (σ' := []) _ rfl ?_ ⟨rfl, rfl⟩)
        exact Sub.of_le (AF.le_put (AV.le_eq rfl) (AF.le_top _))
      · replace h := ite_f h hc
        refine k_skip ?_
        refine kB_normal ?_
        refine kC_normal ?_
        refine k_seq ?_
        refine k_reg .free hmixP (by kernel_rfl) ?_
        refine G_q rfl (op_assign (av := .exact (.int .i64 0)) rfl ?_)
        refine G_nil ?_
        refine kC_normal ?_
        refine k_ret ?_
        obtain rfl := Option.some.inj h
        refine kP_any (endN (af' := (AF.put AF0 (some 2) (.exact (.int .i64 0)))) (σ' := []) _ rfl ?_ ⟨rfl, rfl⟩)
        exact Sub.of_le (AF.le_put (AV.le_eq rfl) (AF.le_top _))
set_option maxHeartbeats 4000000 in
theorem m_value_pairs_ok (a0 : List (List UInt8)) (r : (List (List UInt8))) (h : m_value_pairs a0 = some r) : Pure Tryz.prog 73 [(.row 1 c_string a0)] (.row 1 c_string r) := by
  unfold m_value_pairs at h
  refine Pure.ofFun (fun_of_awp Tryz.func73 rfl Tryz.ntmps73 (by simp) rfl (res1 rfl) fun E hE => k_end ?_)
  refine k_seq ?_
  refine k_reg .free hmixP (by kernel_rfl) ?_
  refine G_q rfl (op_assign (av := .exact (.slice none 0 0)) rfl ?_)
  refine G_nil ?_
  refine kC_normal ?_
  refine k_seq ?_
  refine k_reg .free hmixP (by kernel_rfl) ?_
  refine G_q rfl (op_assign (av := .exact (.slice none 0 0)) rfl ?_)
  refine G_nil ?_
  refine kC_normal ?_
  refine k_join1_1 h (fun (x3_j1 : List (List UInt8)) (v3_j1 : Value) => (AF.put AF0 (some 3) (.exact v3_j1))) (fun (x3_j1 : List (List UInt8)) (v3_j1 : Value) => [vecT Tryz.prog 31 1 c_string v3_j1 x3_j1]) (fun k1 h => ?_) (fun x3_j1 v3_j1 h => ?_)
  · refine k_seq ?_
    refine k_reg .free hmixP (by kernel_rfl) ?_
    refine G_q rfl (op_assign (av := .exact (.int .i64 0)) rfl ?_)
    refine G_nil ?_
    refine kC_normal ?_
    refine k_block ?_
    refine k_loop2_1 (m_value_pairs_L2 a0 k1) (m_value_pairs_B2 a0 k1) (fun _ _ => rfl) (fun m _ _ => rfl) h (fun (x3_l2 : List (List UInt8)) (x4_l2 : Int) (v3_l2 : Value) => (AF.put (AF.put (AF.put AF0 (some 0) (.row 1 c_string a0)) (some 3) (.exact v3_l2)) (some 4) (.exact (.int .i64 x4_l2)))) (fun (x3_l2 : List (List UInt8)) (x4_l2 : Int) (v3_l2 : Value) => [vecT Tryz.prog 31 1 c_string v3_l2 x3_l2]) (.slice none 0 0) ?_ (fun rec2 x3_l2 x4_l2 v3_l2 h => ?_)
    · refine Sub.trans (SubU.to (SubU.nilT (P := Tryz.prog) (t := 31) (n := 1) (enc := c_string))) ?_
      exact Sub.of_le (AF.le_put (AV.le_eq rfl) (AF.le_put (AV.le_eq rfl) (AF.le_put (AV.le_eq rfl) (AF.le_top _))))
    · unfold m_value_pairs_B2 at h
      refine k_seq ?_
      refine k_seq ?_
      refine k_reg .free hmixP (by kernel_rfl) ?_
      refine G_q rfl (op_move (av := .exact (.int .i64 x4_l2)) rfl ?_)
      refine G_q rfl (op_move (av := .row 1 c_string a0) rfl ?_)
      refine G_q rfl (op_len_row (by kernel_rfl) rfl ?_)
      refine G_q rfl (op_lss rfl rfl ?_)
      refine G_nil ?_
      refine kC_normal ?_
      refine k_cond_d (p := x4_l2 < (List.length a0 : Int)) rfl (fun hc => ?_) (fun hc => ?_)
      · replace h := ite_t h hc
        refine k_skip ?_
        refine kC_normal ?_
        refine k_seq ?_
        refine k_block ?_
        refine k_plan [] [(0, 0), (0, 1), (0, 2), (0, 3), (0, 4), (0, 5), (0, 6), (0, 7), (0, 8), (0, 9), (0, 10), (0, 11), (0, 12), (2, 13), (0, 14)] hmixP (by kernel_rfl) ?_
        refine P_q no34_0 rfl (op_move (av := .exact v3_l2) rfl ?_)
        refine P_q no34_0 rfl (op_move (av := .row 1 c_string a0) rfl ?_)
        refine P_q no34_0 rfl (op_move (av := .exact (.int .i64 x4_l2)) rfl ?_)
        obtain ⟨n33, h⟩ := need_some h
        refine P_q no34_0 rfl (op_index_row (by kernel_rfl) rfl rfl n33.1 n33.2 ?_)
        refine P_q no34_0 rfl (op_load1p (a := .exact (.string (bs (gi a0 x4_l2)))) (by kernel_rfl) rfl rfl ?_)
        obtain ⟨n34, h⟩ := need_some h
        refine P_q no34_0 rfl (op_addS n34 rfl rfl ?_)
        refine P_q no34_0 rfl (op_move (av := .row 1 c_string a0) rfl ?_)
        refine P_q no34_0 rfl (op_move (av := .exact (.int .i64 x4_l2)) rfl ?_)
        refine P_q no34_0 rfl (op_add rfl rfl rfl ?_)
        obtain ⟨n35, h⟩ := need_some h
        refine P_q no34_0 rfl (op_index_row (by kernel_rfl) rfl rfl n35.1 n35.2 ?_)
        refine P_q no34_0 rfl (op_load1p (a := .exact (.string (bs (gi a0 (i64 (x4_l2 + 1)))))) (by kernel_rfl) rfl rfl ?_)
        obtain ⟨n36, h⟩ := need_some h
        refine P_q no34_0 rfl (op_addS n36 rfl rfl ?_)
        refine P_q no34_0 rfl (op_litT (n := 1) (enc := c_string) [(((gi a0 x4_l2) ++ [32, 61, 62, 32]) ++ (gi a0 (i64 (x4_l2 + 1))))] (CellsAll.cons rfl CellsOf.str CellsAll.nil) rfl (by kernel_rfl) (LEss.cons (LEs.cons (AV.le_eq rfl) LEs.nil) LEss.nil) ?_)
        obtain ⟨n37, h⟩ := need_some h
        refine P_l rfl (op_appT (by kernel_rfl) rfl rfl oc_c_string n37 (fun v38 => ?_))
        refine P_q no34_0 rfl (op_assign (av := .exact v38) rfl ?_)
        refine P_nil ?_
        refine kB_normal ?_
        refine kC_normal ?_
        refine k_reg .free hmixP (by kernel_rfl) ?_
        refine G_q rfl (op_move (av := .exact (.int .i64 x4_l2)) rfl ?_)
        refine G_q rfl (op_add rfl rfl rfl ?_)
        refine G_q rfl (op_assign (av := .exact (.int .i64 (i64 (x4_l2 + 2)))) rfl ?_)
        refine G_nil ?_
        refine kI_normal ⟨_, _, v38, h, ?_⟩
        exact Sub.of_le (AF.le_put (AV.le_eq rfl) (AF.le_put (AV.le_eq rfl) (AF.le_put (AV.le_eq rfl) (AF.le_top _))))
      · replace h := ite_f h hc
        refine k_exit ?_
        refine kC_exit ?_
        refine kI_exit ?_
        refine kB_exit ?_
        refine kI_normal ⟨_, v3_l2, h, ?_⟩
        exact Sub.of_le (AF.le_put (AV.le_eq rfl) (AF.le_top _))
  · refine k_seq ?_
    refine k_reg .free hmixP (by kernel_rfl) ?_
    refine G_q rfl (op_move (av := .exact v3_j1) rfl ?_)
    refine G_q rfl (op_assign (av := .exact v3_j1) rfl ?_)
    refine G_nil ?_
    refine kC_normal ?_
    refine k_ret ?_
    obtain rfl := Option.some.inj h
    refine kP_any (endN (af' := (AF.put AF0 (some 2) (.row 1 c_string x3_j1))) (σ' := []) _ rfl ?_ ⟨rfl, rfl⟩)
    refine Sub.trans (SubU.to (SubU.freezeT (s := 2) rfl len_c_string)) ?_
    exact Sub.of_le (AF.le_put (AV.le_eq rfl) (AF.le_top _))
set_option maxHeartbeats 4000000 in
theorem m_value_text_F_ok (self_value_text : (List UInt8) → (List (List UInt8)) → Option (List UInt8)) (hself_value_text : ∀ (a0 : List UInt8) (a1 : List (List UInt8)) (r : (List UInt8)), self_value_text a0 a1 = some r → Fun Tryz.prog 46 [(.exact (.string (bs a0))), (.row 1 c_string a1)] [tabI] (fun a s => a = .exact (.string (bs r)) ∧ s = [tabI])) (a0 : List UInt8) (a1 : List (List UInt8)) (r : (List UInt8)) (h : m_value_text_F self_value_text a0 a1 = some r) : Fun Tryz.prog 46 [(.exact (.string (bs a0))), (.row 1 c_string a1)] [tabI] (fun a s => a = .exact (.string (bs r)) ∧ s = [tabI]) := by
  unfold m_value_text_F at h
  refine fun_of_awp Tryz.func46 rfl Tryz.ntmps46 (by simp) rfl (res1 rfl) fun E hE => k_end ?_
  refine k_seq ?_
  refine k_reg .free hmixP (by kernel_rfl) ?_
  refine G_q rfl (op_assign (av := .exact (.string (bs ([] : List UInt8)))) rfl ?_)
  refine G_nil ?_
  refine kC_normal ?_
  refine k_seq ?_
  refine k_seq ?_
  refine k_reg .free hmixP (by kernel_rfl) ?_
  refine G_q rfl (op_move (av := .exact (.string (bs a0))) rfl ?_)
  obtain ⟨n1, h⟩ := need_some h
  refine G_q rfl (op_index_str (by kernel_rfl) rfl rfl n1.1 n1.2 ?_)
  refine G_nil ?_
  refine kC_normal ?_
  refine k_block ?_
  refine k_seq ?_
  refine k_reg .free hmixP (by kernel_rfl) ?_
  refine G_q rfl (op_eqlU (a := (gi a0 0)) (b := 1) rfl rfl ?_)
  refine G_q rfl (op_assign (av := .exact (.bool (decide ((gi a0 0) = 1)))) rfl ?_)
  refine G_nil ?_
  refine kC_normal ?_
  refine k_cond_d (p := (gi a0 0) = 1) rfl (fun hc => ?_) (fun hc => ?_)
  · replace h := ite_t h hc
    refine k_seq ?_
    refine k_reg .free hmixP (by kernel_rfl) ?_
    refine G_q rfl (op_move (av := .exact (.string (bs a0))) rfl ?_)
    obtain ⟨y2, hy2, h⟩ := bnd1_some h
    refine G_q rfl (op_pure (m_value_integer_ok _ _ hy2) Tryz.func57 (by kernel_rfl) (LEs.cons (AV.le_eq rfl) LEs.nil) ?_)
    obtain ⟨y3, hy3, h⟩ := bnd1_some h
    refine G_l rfl (op_fun_1_0_1 (m_itoa_ok _ _ _ hy3) Tryz.func71 (by kernel_rfl) (LEs.cons (AV.le_eq rfl) (LEs.cons (AV.le_eq rfl) LEs.nil)) ?_)
    refine G_q rfl (op_assign (av := .exact (.string (bs y3))) rfl ?_)
    refine G_nil ?_
    refine kC_normal ?_
    refine k_ret ?_
    refine kB_ret ?_
    refine kC_ret ?_
    obtain rfl := Option.some.inj h
    refine kP_any (endN (af' := (AF.put AF0 (some 4) (.exact (.string (bs y3))))) (σ' := [tabI]) _ rfl ?_ ⟨rfl, rfl⟩)
    exact Sub.of_le (AF.le_put (AV.le_eq rfl) (AF.le_top _))
  · replace h := ite_f h hc
    refine k_seq ?_
    refine k_reg .free hmixP (by kernel_rfl) ?_
    refine G_q rfl (op_eqlU (a := (gi a0 0)) (b := 2) rfl rfl ?_)
    refine G_q rfl (op_assign (av := .exact (.bool (decide ((gi a0 0) = 2)))) rfl ?_)
    refine G_nil ?_
    refine kC_normal ?_
    refine k_cond_d (p := (gi a0 0) = 2) rfl (fun hc => ?_) (fun hc => ?_)
    · replace h := ite_t h hc
      refine k_seq ?_
      refine k_seq ?_
      refine k_reg .free hmixP (by kernel_rfl) ?_
      refine G_q rfl (op_move (av := .exact (.string (bs a0))) rfl ?_)
      obtain ⟨n4, h⟩ := need_some h
      refine G_q rfl (op_index_str (by kernel_rfl) rfl rfl n4.1 n4.2 ?_)
      refine G_q rfl (op_eqlU (a := (gi a0 1)) (b := 1) rfl rfl ?_)
      refine G_nil ?_
      refine kC_normal ?_
      refine k_cond_d (p := (gi a0 1) = 1) rfl (fun hc => ?_) (fun hc => ?_)
      · replace h := ite_t h hc
        refine k_seq ?_
        refine k_reg .free hmixP (by kernel_rfl) ?_
        refine G_q rfl (op_assign (av := .exact (.string (bs [116, 114, 117, 101]))) rfl ?_)
        refine G_nil ?_
        refine kC_normal ?_
        refine k_ret ?_
        refine kC_ret ?_
        refine kB_ret ?_
        refine kC_ret ?_
        obtain rfl := Option.some.inj h
        refine kP_any (endN (af' := (AF.put AF0 (some 4) (.exact (.string (bs [116, 114, 117, 101]))))) (σ' := [tabI]) _ rfl ?_ ⟨rfl, rfl⟩)
        exact Sub.of_le (AF.le_put (AV.le_eq rfl) (AF.le_top _))
      · replace h := ite_f h hc
        refine k_skip ?_
        refine kC_normal ?_
        refine k_seq ?_
        refine k_reg .free hmixP (by kernel_rfl) ?_
        refine G_q rfl (op_assign (av := .exact (.string (bs [102, 97, 108, 115, 101]))) rfl ?_)
        refine G_nil ?_
        refine kC_normal ?_
        refine k_ret ?_
        refine kB_ret ?_
        refine kC_ret ?_
        obtain rfl := Option.some.inj h
        refine kP_any (endN (af' := (AF.put AF0 (some 4) (.exact (.string (bs [102, 97, 108, 115, 101]))))) (σ' := [tabI]) _ rfl ?_ ⟨rfl, rfl⟩)
        exact Sub.of_le (AF.le_put (AV.le_eq rfl) (AF.le_top _))
    · replace h := ite_f h hc
      refine k_seq ?_
      refine k_reg .free hmixP (by kernel_rfl) ?_
      refine G_q rfl (op_eqlU (a := (gi a0 0)) (b := 10) rfl rfl ?_)
      refine G_q rfl (op_assign (av := .exact (.bool (decide ((gi a0 0) = 10)))) rfl ?_)
      refine G_nil ?_
      refine kC_normal ?_
      refine k_cond_d (p := (gi a0 0) = 10) rfl (fun hc => ?_) (fun hc => ?_)
      · replace h := ite_t h hc
        refine k_seq ?_
        refine k_seq ?_
        refine k_reg .free hmixP (by kernel_rfl) ?_
        refine G_q rfl (op_move (av := .exact (.string (bs a0))) rfl ?_)
        obtain ⟨y5, hy5, h⟩ := bnd1_some h
        refine G_q rfl (op_pure (m_value_Number_ok _ _ hy5) Tryz.func25 (by kernel_rfl) (LEs.cons (AV.le_eq rfl) LEs.nil) ?_)
        refine G_q rfl (op_assign (av := .exact (.int .i64 y5)) rfl ?_)
        refine G_nil ?_
        refine kC_normal ?_
        refine k_seq ?_
        refine k_reg .free hmixP (by kernel_rfl) ?_
        refine G_q rfl (op_move (av := .exact (.int .i64 y5)) rfl ?_)
        refine G_q rfl (op_move (av := .row 1 c_string a1) rfl ?_)
        refine G_q rfl (op_len_row (by kernel_rfl) rfl ?_)
        refine G_q rfl (op_lss rfl rfl ?_)
        refine G_nil ?_
        refine kC_normal ?_
        refine k_cond_d (p := y5 < (List.length a1 : Int)) rfl (fun hc => ?_) (fun hc => ?_)
        · replace h := ite_t h hc
          refine k_seq ?_
          refine k_reg .free hmixP (by kernel_rfl) ?_
          refine G_q rfl (op_move (av := .row 1 c_string a1) rfl ?_)
          refine G_q rfl (op_move (av := .exact (.int .i64 y5)) rfl ?_)
          obtain ⟨n6, h⟩ := need_some h
          refine G_q rfl (op_index_row (by kernel_rfl) rfl rfl n6.1 n6.2 ?_)
          refine G_q rfl (op_load1p (a := .exact (.string (bs (gi a1 y5)))) (by kernel_rfl) rfl rfl ?_)
          refine G_q rfl (op_assign (av := .exact (.string (bs (gi a1 y5)))) rfl ?_)
          refine G_nil ?_
          refine kC_normal ?_
          refine k_ret ?_
          refine kC_ret ?_
          refine kB_ret ?_
          refine kC_ret ?_
          obtain rfl := Option.some.inj h
          refine kP_any (endN (af' := (AF.put AF0 (some 4) (.exact (.string (bs (gi a1 y5)))))) (σ' := [tabI]) _ rfl ?_ ⟨rfl, rfl⟩)
          exact Sub.of_le (AF.le_put (AV.le_eq rfl) (AF.le_top _))
        · replace h := ite_f h hc
          refine k_skip ?_
          refine kC_normal ?_
          refine k_seq ?_
          refine k_reg .free hmixP (by kernel_rfl) ?_
          refine G_q rfl (op_move (av := .exact (.string (bs a0))) rfl ?_)
          obtain ⟨y7, hy7, h⟩ := bnd1_some h
          refine G_q rfl (op_pure (m_value_Number_ok _ _ hy7) Tryz.func25 (by kernel_rfl) (LEs.cons (AV.le_eq rfl) LEs.nil) ?_)
          obtain ⟨y8, hy8, h⟩ := bnd1_some h
          refine G_l rfl (op_fun_1_0_1 (m_itoa_ok _ _ _ hy8) Tryz.func71 (by kernel_rfl) (LEs.cons (AV.le_eq rfl) (LEs.cons (AV.le_eq rfl) LEs.nil)) ?_)
          obtain ⟨n9, h⟩ := need_some h
          refine G_q rfl (op_addS n9 rfl rfl ?_)
          refine G_q rfl (op_assign (av := .exact (.string (bs ([63] ++ y8)))) rfl ?_)
          refine G_nil ?_
          refine kC_normal ?_
          refine k_ret ?_
          refine kB_ret ?_
          refine kC_ret ?_
          obtain rfl := Option.some.inj h
          refine kP_any (endN (af' := (AF.put AF0 (some 4) (.exact (.string (bs ([63] ++ y8)))))) (σ' := [tabI]) _ rfl ?_ ⟨rfl, rfl⟩)
          exact Sub.of_le (AF.le_put (AV.le_eq rfl) (AF.le_top _))
      · replace h := ite_f h hc
        refine k_skip ?_
        refine kB_normal ?_
        refine kC_normal ?_
        refine k_seq ?_
        refine k_reg .free hmixP (by kernel_rfl) ?_
        refine G_q rfl (op_assign (av := .exact (.slice none 0 0)) rfl ?_)
        refine G_nil ?_
        refine kC_normal ?_
        refine k_join1_1 h (fun (x6_j10 : List (List UInt8)) (v6_j10 : Value) => (AF.put (AF.put AF0 (some 0) (.exact (.string (bs a0)))) (some 6) (.exact v6_j10))) (fun (x6_j10 : List (List UInt8)) (v6_j10 : Value) => [tabI, vecT Tryz.prog 31 1 c_string v6_j10 x6_j10]) (fun k10 h => ?_) (fun x6_j10 v6_j10 h => ?_)
        · refine k_seq ?_
          refine k_reg .free hmixP (by kernel_rfl) ?_
          refine G_q rfl (op_move (av := .exact (.string (bs a0))) rfl ?_)
          obtain ⟨y25, hy25, h⟩ := bnd1_some h
          refine G_q rfl (op_pure (m_value_parts_ok _ _ hy25) Tryz.func55 (by kernel_rfl) (LEs.cons (AV.le_eq rfl) LEs.nil) ?_)
          refine G_q rfl (op_len_row (by kernel_rfl) rfl ?_)
          refine G_q rfl (op_move (av := .exact (.int .i64 0)) rfl ?_)
          refine G_nil ?_
          refine kC_normal ?_
          refine k_block ?_
          refine k_loop2_1 (m_value_text_L2 self_value_text a1 k10 y25) (m_value_text_B2 self_value_text a1 k10 y25) (fun _ _ => rfl) (fun m _ _ => rfl) h (fun (x6_l2 : List (List UInt8)) (x41_l2 : Int) (v6_l2 : Value) => (AF.put (AF.put (AF.put (AF.put (AF.put (AF.put AF0 (some 0) (.exact (.string (bs a0)))) (some 1) (.row 1 c_string a1)) (some 6) (.exact v6_l2)) (some 39) (.row 1 c_api_Value y25)) (some 40) (.exact (.int .i64 (List.length y25 : Int)))) (some 41) (.exact (.int .i64 x41_l2)))) (fun (x6_l2 : List (List UInt8)) (x41_l2 : Int) (v6_l2 : Value) => [tabI, vecT Tryz.prog 31 1 c_string v6_l2 x6_l2]) (.slice none 0 0) ?_ (fun rec2 x6_l2 x41_l2 v6_l2 h => ?_)
          · refine Sub.trans (SubU.to (SubU.nilT (P := Tryz.prog) (t := 31) (n := 1) (enc := c_string))) ?_
            refine Sub.trans (SubU.to SubU.f1) ?_
            exact Sub.of_le (AF.le_put (AV.le_eq rfl) (AF.le_put (AV.le_eq rfl) (AF.le_put (AV.le_eq rfl) (AF.le_put (AV.le_eq rfl) (AF.le_put (AV.le_eq rfl) (AF.le_put (AV.le_eq rfl) (AF.le_top _)))))))
          · unfold m_value_text_B2 at h
            refine k_seq ?_
            refine k_reg .free hmixP (by kernel_rfl) ?_
            refine G_q rfl (op_lss rfl rfl ?_)
            refine G_nil ?_
            refine kC_normal ?_
            refine k_seq ?_
            refine k_cond_d (p := x41_l2 < (List.length y25 : Int)) rfl (fun hc => ?_) (fun hc => ?_)
            · replace h := ite_t h hc
              refine k_skip ?_
              refine kC_normal ?_
              refine k_seq ?_
              refine k_block ?_
              refine k_seq ?_
              refine k_reg .free hmixP (by kernel_rfl) ?_
              obtain ⟨n34, h⟩ := need_some h
              refine G_q rfl (op_index_row (by kernel_rfl) rfl rfl n34.1 n34.2 ?_)
              refine G_q rfl (op_load1p (a := .exact (.string (bs (gi y25 x41_l2)))) (by kernel_rfl) rfl rfl ?_)
              refine G_q rfl (op_assign (av := .exact (.string (bs (gi y25 x41_l2)))) rfl ?_)
              refine G_nil ?_
              refine kC_normal ?_
              refine k_reg .free hmixP (by kernel_rfl) ?_
              refine G_q rfl (op_move (av := .exact v6_l2) rfl ?_)
              refine G_q rfl (op_move (av := .exact (.string (bs (gi y25 x41_l2)))) rfl ?_)
              refine G_q rfl (op_move (av := .row 1 c_string a1) rfl ?_)
              obtain ⟨y35, hy35, h⟩ := bnd1_some h
              refine G_l rfl (op_fun_1_0_1 (hself_value_text _ _ _ hy35) Tryz.func46 (by kernel_rfl) (LEs.cons (AV.le_eq rfl) (LEs.cons (AV.le_eq rfl) LEs.nil)) ?_)
              refine G_q rfl (op_litT (n := 1) (enc := c_string) [y35] (CellsAll.cons rfl CellsOf.str CellsAll.nil) rfl (by kernel_rfl) (LEss.cons (LEs.cons (AV.le_eq rfl) LEs.nil) LEss.nil) ?_)
              obtain ⟨n36, h⟩ := need_some h
              refine G_l rfl (opB_f1 (op_appT (by kernel_rfl) rfl rfl oc_c_string n36 (fun v37 => ?_)))
              refine G_q rfl (op_assign (av := .exact v37) rfl ?_)
              refine G_nil ?_
              refine kB_normal ?_
              refine kC_normal ?_
              refine k_reg .free hmixP (by kernel_rfl) ?_
              refine G_q rfl (op_add rfl rfl rfl ?_)
              refine G_q rfl (op_move (av := .exact (.int .i64 (i64 (x41_l2 + 1)))) rfl ?_)
              refine G_nil ?_
              refine kI_normal ⟨_, _, v37, h, ?_⟩
              refine Sub.trans (SubU.to SubU.f1) ?_
              exact Sub.of_le (AF.le_put (AV.le_eq rfl) (AF.le_put (AV.le_eq rfl) (AF.le_put (AV.le_eq rfl) (AF.le_put (AV.le_eq rfl) (AF.le_put (AV.le_eq rfl) (AF.le_put (AV.le_eq rfl) (AF.le_top _)))))))
            · replace h := ite_f h hc
              refine k_exit ?_
              refine kC_exit ?_
              refine kI_exit ?_
              refine kB_exit ?_
              refine kI_normal ⟨_, v6_l2, h, ?_⟩
              exact Sub.of_le (AF.le_put (AV.le_eq rfl) (AF.le_put (AV.le_eq rfl) (AF.le_top _)))
        · refine k_seq ?_
          refine k_reg .free hmixP (by kernel_rfl) ?_
          refine G_q rfl (op_move (av := .exact v6_j10) rfl ?_)
          refine G_sub rfl (SubU.trans SubU.f1 (SubU.freezeT2 (s1 := 6) (s2 := 52) rfl rfl len_c_string)) ?_
          obtain ⟨y38, hy38, h⟩ := bnd1_some h
          refine G_q rfl (op_pure (m_join_ok _ _ _ hy38) Tryz.func72 (by kernel_rfl) (LEs.cons (AV.le_eq rfl) (LEs.cons (AV.le_eq rfl) LEs.nil)) ?_)
          refine G_q rfl (op_assign (av := .exact (.string (bs y38))) rfl ?_)
          refine G_nil ?_
          refine kC_normal ?_
          refine k_seq ?_
          refine k_seq ?_
          refine k_reg .free hmixP (by kernel_rfl) ?_
          refine G_q rfl (op_move (av := .exact (.string (bs a0))) rfl ?_)
          obtain ⟨n39, h⟩ := need_some h
          refine G_q rfl (op_index_str (by kernel_rfl) rfl rfl n39.1 n39.2 ?_)
          refine G_nil ?_
          refine kC_normal ?_
          refine k_block ?_
          refine k_seq ?_
          refine k_reg .free hmixP (by kernel_rfl) ?_
          refine G_q rfl (op_eqlU (a := (gi a0 0)) (b := 4) rfl rfl ?_)
          refine G_q rfl (op_assign (av := .exact (.bool (decide ((gi a0 0) = 4)))) rfl ?_)
          refine G_nil ?_
          refine kC_normal ?_
          refine k_cond_d (p := (gi a0 0) = 4) rfl (fun hc => ?_) (fun hc => ?_)
          · replace h := ite_t h hc
            refine k_seq ?_
            refine k_reg .free hmixP (by kernel_rfl) ?_
            refine G_q rfl (op_move (av := .exact (.string (bs y38))) rfl ?_)
            obtain ⟨n40, h⟩ := need_some h
            refine G_q rfl (op_addS n40 rfl rfl ?_)
            obtain ⟨n41, h⟩ := need_some h
            refine G_q rfl (op_addS n41 rfl rfl ?_)
            refine G_q rfl (op_assign (av := .exact (.string (bs (([60] ++ y38) ++ [62])))) rfl ?_)
            refine G_nil ?_
            refine kC_normal ?_
            refine k_ret ?_
            refine kB_ret ?_
            refine kC_ret ?_
            obtain rfl := Option.some.inj h
            refine kP_any (endN (af' := (AF.put AF0 (some 4) (.exact (.string (bs (([60] ++ y38) ++ [62])))))) (σ' := [tabI]) _ rfl ?_ ⟨rfl, rfl⟩)
            exact Sub.of_le (AF.le_put (AV.le_eq rfl) (AF.le_top _))
          · replace h := ite_f h hc
            refine k_seq ?_
            refine k_reg .free hmixP (by kernel_rfl) ?_
            refine G_q rfl (op_eqlU (a := (gi a0 0)) (b := 5) rfl rfl ?_)
            refine G_q rfl (op_assign (av := .exact (.bool (decide ((gi a0 0) = 5)))) rfl ?_)
            refine G_nil ?_
            refine kC_normal ?_
            refine k_cond_d (p := (gi a0 0) = 5) rfl (fun hc => ?_) (fun hc => ?_)
            · replace h := ite_t h hc
              refine k_seq ?_
              refine k_reg .free hmixP (by kernel_rfl) ?_
              refine G_q rfl (op_move (av := .exact (.string (bs y38))) rfl ?_)
              obtain ⟨n42, h⟩ := need_some h
              refine G_q rfl (op_addS n42 rfl rfl ?_)
              obtain ⟨n43, h⟩ := need_some h
              refine G_q rfl (op_addS n43 rfl rfl ?_)
              refine G_q rfl (op_assign (av := .exact (.string (bs (([123] ++ y38) ++ [125])))) rfl ?_)
              refine G_nil ?_
              refine kC_normal ?_
              refine k_ret ?_
              refine kB_ret ?_
              refine kC_ret ?_
              obtain rfl := Option.some.inj h
              refine kP_any (endN (af' := (AF.put AF0 (some 4) (.exact (.string (bs (([123] ++ y38) ++ [125])))))) (σ' := [tabI]) _ rfl ?_ ⟨rfl, rfl⟩)
              exact Sub.of_le (AF.le_put (AV.le_eq rfl) (AF.le_top _))
            · replace h := ite_f h hc
              refine k_seq ?_
              refine k_reg .free hmixP (by kernel_rfl) ?_
              refine G_q rfl (op_eqlU (a := (gi a0 0)) (b := 6) rfl rfl ?_)
              refine G_q rfl (op_assign (av := .exact (.bool (decide ((gi a0 0) = 6)))) rfl ?_)
              refine G_nil ?_
              refine kC_normal ?_
              refine k_cond_d (p := (gi a0 0) = 6) rfl (fun hc => ?_) (fun hc => ?_)
              · replace h := ite_t h hc
                refine k_seq ?_
                refine k_reg .free hmixP (by kernel_rfl) ?_
                refine G_q rfl (op_move (av := .row 1 c_string x6_j10) rfl ?_)
                obtain ⟨y44, hy44, h⟩ := bnd1_some h
                refine G_q rfl (op_pure (m_value_pairs_ok _ _ hy44) Tryz.func73 (by kernel_rfl) (LEs.cons (AV.le_eq rfl) LEs.nil) ?_)
                obtain ⟨y45, hy45, h⟩ := bnd1_some h
                refine G_q rfl (op_pure (m_join_ok _ _ _ hy45) Tryz.func72 (by kernel_rfl) (LEs.cons (AV.le_eq rfl) (LEs.cons (AV.le_eq rfl) LEs.nil)) ?_)
                obtain ⟨n46, h⟩ := need_some h
                refine G_q rfl (op_addS n46 rfl rfl ?_)
                obtain ⟨n47, h⟩ := need_some h
                refine G_q rfl (op_addS n47 rfl rfl ?_)
                refine G_q rfl (op_assign (av := .exact (.string (bs (([40, 124] ++ y45) ++ [124, 41])))) rfl ?_)
                refine G_nil ?_
                refine kC_normal ?_
                refine k_ret ?_
                refine kB_ret ?_
                refine kC_ret ?_
                obtain rfl := Option.some.inj h
                refine kP_any (endN (af' := (AF.put AF0 (some 4) (.exact (.string (bs (([40, 124] ++ y45) ++ [124, 41])))))) (σ' := [tabI]) _ rfl ?_ ⟨rfl, rfl⟩)
                exact Sub.of_le (AF.le_put (AV.le_eq rfl) (AF.le_top _))
              · replace h := ite_f h hc
                refine k_seq ?_
                refine k_reg .free hmixP (by kernel_rfl) ?_
                refine G_q rfl (op_eqlU (a := (gi a0 0)) (b := 7) rfl rfl ?_)
                refine G_q rfl (op_assign (av := .exact (.bool (decide ((gi a0 0) = 7)))) rfl ?_)
                refine G_nil ?_
                refine kC_normal ?_
                refine k_cond_d (p := (gi a0 0) = 7) rfl (fun hc => ?_) (fun hc => ?_)
                · replace h := ite_t h hc
                  refine k_seq ?_
                  refine k_reg .free hmixP (by kernel_rfl) ?_
                  refine G_q rfl (op_move (av := .row 1 c_string x6_j10) rfl ?_)
                  obtain ⟨y48, hy48, h⟩ := bnd1_some h
                  refine G_q rfl (op_pure (m_join_ok _ _ _ hy48) Tryz.func72 (by kernel_rfl) (LEs.cons (AV.le_eq rfl) (LEs.cons (AV.le_eq rfl) LEs.nil)) ?_)
                  refine G_q rfl (op_assign (av := .exact (.string (bs y48))) rfl ?_)
                  refine G_nil ?_
                  refine kC_normal ?_
                  refine k_ret ?_
                  refine kB_ret ?_
                  refine kC_ret ?_
                  obtain rfl := Option.some.inj h
                  refine kP_any (endN (af' := (AF.put AF0 (some 4) (.exact (.string (bs y48))))) (σ' := [tabI]) _ rfl ?_ ⟨rfl, rfl⟩)
                  exact Sub.of_le (AF.le_put (AV.le_eq rfl) (AF.le_top _))
                · replace h := ite_f h hc
                  refine k_seq ?_
                  refine k_reg .free hmixP (by kernel_rfl) ?_
                  refine G_q rfl (op_eqlU (a := (gi a0 0)) (b := 8) rfl rfl ?_)
                  refine G_q rfl (op_assign (av := .exact (.bool (decide ((gi a0 0) = 8)))) rfl ?_)
                  refine G_nil ?_
                  refine kC_normal ?_
                  refine k_cond_d (p := (gi a0 0) = 8) rfl (fun hc => ?_) (fun hc => ?_)
                  · replace h := ite_t h hc
                    refine k_seq ?_
                    refine k_reg .free hmixP (by kernel_rfl) ?_
                    refine G_q rfl (op_move (av := .exact (.string (bs y38))) rfl ?_)
                    obtain ⟨n49, h⟩ := need_some h
                    refine G_q rfl (op_addS n49 rfl rfl ?_)
                    obtain ⟨n50, h⟩ := need_some h
                    refine G_q rfl (op_addS n50 rfl rfl ?_)
                    refine G_q rfl (op_assign (av := .exact (.string (bs (([102, 117, 110, 40] ++ y38) ++ [41])))) rfl ?_)
                    refine G_nil ?_
                    refine kC_normal ?_
                    refine k_ret ?_
                    refine kB_ret ?_
                    refine kC_ret ?_
                    obtain rfl := Option.some.inj h
                    refine kP_any (endN (af' := (AF.put AF0 (some 4) (.exact (.string (bs (([102, 117, 110, 40] ++ y38) ++ [41])))))) (σ' := [tabI]) _ rfl ?_ ⟨rfl, rfl⟩)
                    exact Sub.of_le (AF.le_put (AV.le_eq rfl) (AF.le_top _))
                  · replace h := ite_f h hc
                    refine k_seq ?_
                    refine k_reg .free hmixP (by kernel_rfl) ?_
                    refine G_q rfl (op_eqlU (a := (gi a0 0)) (b := 9) rfl rfl ?_)
                    refine G_q rfl (op_assign (av := .exact (.bool (decide ((gi a0 0) = 9)))) rfl ?_)
                    refine G_nil ?_
                    refine kC_normal ?_
                    refine k_cond_d (p := (gi a0 0) = 9) rfl (fun hc => ?_) (fun hc => ?_)
                    · replace h := ite_t h hc
                      refine k_seq ?_
                      refine k_reg .free hmixP (by kernel_rfl) ?_
                      refine G_q rfl (op_move (av := .exact (.string (bs y38))) rfl ?_)
                      obtain ⟨n51, h⟩ := need_some h
                      refine G_q rfl (op_addS n51 rfl rfl ?_)
                      obtain ⟨n52, h⟩ := need_some h
                      refine G_q rfl (op_addS n52 rfl rfl ?_)
                      refine G_q rfl (op_assign (av := .exact (.string (bs (([112, 114, 111, 99, 40] ++ y38) ++ [41])))) rfl ?_)
                      refine G_nil ?_
                      refine kC_normal ?_
                      refine k_ret ?_
                      refine kB_ret ?_
                      refine kC_ret ?_
                      obtain rfl := Option.some.inj h
                      refine kP_any (endN (af' := (AF.put AF0 (some 4) (.exact (.string (bs (([112, 114, 111, 99, 40] ++ y38) ++ [41])))))) (σ' := [tabI]) _ rfl ?_ ⟨rfl, rfl⟩)
                      exact Sub.of_le (AF.le_put (AV.le_eq rfl) (AF.le_top _))
                    · replace h := ite_f h hc
                      refine k_skip ?_
                      refine kB_normal ?_
                      refine kC_normal ?_
                      refine k_seq ?_
                      refine k_reg .free hmixP (by kernel_rfl) ?_
                      refine G_q rfl (op_move (av := .exact (.string (bs y38))) rfl ?_)
                      obtain ⟨n53, h⟩ := need_some h
                      refine G_q rfl (op_addS n53 rfl rfl ?_)
                      obtain ⟨n54, h⟩ := need_some h
                      refine G_q rfl (op_addS n54 rfl rfl ?_)
                      refine G_q rfl (op_assign (av := .exact (.string (bs (([40] ++ y38) ++ [41])))) rfl ?_)
                      refine G_nil ?_
                      refine kC_normal ?_
                      refine k_ret ?_
                      obtain rfl := Option.some.inj h
                      refine kP_any (endN (af' := (AF.put AF0 (some 4) (.exact (.string (bs (([40] ++ y38) ++ [41])))))) (σ' := [tabI]) _ rfl ?_ ⟨rfl, rfl⟩)
                      exact Sub.of_le (AF.le_put (AV.le_eq rfl) (AF.le_top _))
end Go.Proofs.YtdppkpiagdaigaaGreatDoor
/- The functions compute their models, by program. -/
namespace Go.Proofs.YtdppkpiagdaigaaGreatDoor
open Go.RowKit
attribute [local irreducible] AV.exact AV.top AV.row AV.ptr AV.agg AV.tup AV.eptr AV.fn AV.nilq AV.nilqn opA opB opM opR Quiet Loud Reads wpG awp den Sub SubU Pure Fun vecI vecT boxI CellsAll CellsOf OneC LEs LEss
set_option maxRecDepth 100000

set_option maxHeartbeats 4000000 in
theorem m_value_text_S_ok : ∀ n : Nat, (∀ (a0 : List UInt8) (a1 : List (List UInt8)) (r : (List UInt8)), m_value_text_S n a0 a1 = some r → Fun Tryz.prog 46 [(.exact (.string (bs a0))), (.row 1 c_string a1)] [tabI] (fun a s => a = .exact (.string (bs r)) ∧ s = [tabI]))
  | 0 => (fun _ _ _ h => by have h' : (none : Option _) = some _ := h; cases h')
  | n + 1 => by
    have ih := m_value_text_S_ok n
    exact fun a0 a1 r h => m_value_text_F_ok (m_value_text_S n) ih a0 a1 r h
theorem m_value_text_ok (a0 : List UInt8) (a1 : List (List UInt8)) (r : (List UInt8)) (h : m_value_text a0 a1 = some r) : Fun Tryz.prog 46 [(.exact (.string (bs a0))), (.row 1 c_string a1)] [tabI] (fun a s => a = .exact (.string (bs r)) ∧ s = [tabI]) := (m_value_text_S_ok FU) a0 a1 r h
set_option maxHeartbeats 4000000 in
theorem m_value_Text_ok (a0 : List UInt8) (a1 : List (List UInt8)) (r : (List UInt8)) (h : m_value_Text a0 a1 = some r) : Fun Tryz.prog 12 [(.exact (.string (bs a0))), (.row 1 c_string a1)] [tabI] (fun a s => a = .exact (.string (bs r)) ∧ s = [tabI]) := by
  unfold m_value_Text at h
  refine fun_of_awp Tryz.func12 rfl Tryz.ntmps12 (by simp) rfl (res1 rfl) fun E hE => k_end ?_
  refine k_seq ?_
  refine k_reg .free hmixP (by kernel_rfl) ?_
  refine G_q rfl (op_assign (av := .exact (.string (bs ([] : List UInt8)))) rfl ?_)
  refine G_nil ?_
  refine kC_normal ?_
  refine k_seq ?_
  refine k_seq ?_
  refine k_reg .free hmixP (by kernel_rfl) ?_
  refine G_q rfl (op_move (av := .exact (.string (bs a0))) rfl ?_)
  obtain ⟨y1, hy1, h⟩ := bnd1_some h
  refine G_q rfl (op_pure (m_value_Valid_ok _ _ hy1) Tryz.func43 (by kernel_rfl) (LEs.cons (AV.le_eq rfl) LEs.nil) ?_)
  refine G_q rfl (op_not rfl ?_)
  refine G_nil ?_
  refine kC_normal ?_
  refine k_cond_b (c := !y1) rfl (fun hc => ?_) (fun hc => ?_)
  · replace h := ite_t h hc
    refine k_seq ?_
    refine k_reg .free hmixP (by kernel_rfl) ?_
    refine G_q rfl (op_assign (av := .exact (.string (bs ([] : List UInt8)))) rfl ?_)
    refine G_nil ?_
    refine kC_normal ?_
    refine k_ret ?_
    refine kC_ret ?_
    obtain rfl := Option.some.inj h
    refine kP_any (endN (af' := (AF.put AF0 (some 4) (.exact (.string (bs ([] : List UInt8)))))) (σ' := [tabI]) _ rfl ?_ ⟨rfl, rfl⟩)
    exact Sub.of_le (AF.le_put (AV.le_eq rfl) (AF.le_top _))
  · replace h := ite_f h hc
    refine k_skip ?_
    refine kC_normal ?_
    refine k_seq ?_
    refine k_reg .free hmixP (by kernel_rfl) ?_
    refine G_q rfl (op_move (av := .exact (.string (bs a0))) rfl ?_)
    refine G_q rfl (op_move (av := .row 1 c_string a1) rfl ?_)
    obtain ⟨y2, hy2, h⟩ := bnd1_some h
    refine G_l rfl (op_fun_1_0_1 (m_value_text_ok _ _ _ hy2) Tryz.func46 (by kernel_rfl) (LEs.cons (AV.le_eq rfl) (LEs.cons (AV.le_eq rfl) LEs.nil)) ?_)
    refine G_q rfl (op_assign (av := .exact (.string (bs y2))) rfl ?_)
    refine G_nil ?_
    refine kC_normal ?_
    refine k_ret ?_
    obtain rfl := Option.some.inj h
    refine kP_any (endN (af' := (AF.put AF0 (some 4) (.exact (.string (bs y2))))) (σ' := [tabI]) _ rfl ?_ ⟨rfl, rfl⟩)
    exact Sub.of_le (AF.le_put (AV.le_eq rfl) (AF.le_top _))
set_option maxHeartbeats 4000000 in
theorem m_law9_awake_ok  (r : Bool) (h : m_law9_awake = some r) : Fun Tryz.prog 11 [] [tabI] (fun a s => a = .exact (.bool r) ∧ s = [tabI]) := by
  unfold m_law9_awake at h
  refine fun_of_awp Tryz.func11 rfl Tryz.ntmps11 (by simp) rfl (res1 rfl) fun E hE => k_end ?_
  refine k_seq ?_
  refine k_reg .free hmixP (by kernel_rfl) ?_
  refine G_q rfl (op_assign (av := .exact (.bool false)) rfl ?_)
  refine G_nil ?_
  refine kC_normal ?_
  refine k_seq ?_
  refine k_reg .free hmixP (by kernel_rfl) ?_
  obtain ⟨y1, hy1, h⟩ := bnd1_some h
  refine G_q rfl (op_pure (m_value_Int_ok _ _ hy1) Tryz.func26 (by kernel_rfl) (LEs.cons (AV.le_eq rfl) LEs.nil) ?_)
  obtain ⟨y2, hy2, h⟩ := bnd1_some h
  refine G_q rfl (op_pure (m_value_Int_ok _ _ hy2) Tryz.func26 (by kernel_rfl) (LEs.cons (AV.le_eq rfl) LEs.nil) ?_)
  obtain ⟨y3, hy3, h⟩ := bnd1_some h
  refine G_q rfl (op_pure (m_value_Int_ok _ _ hy3) Tryz.func26 (by kernel_rfl) (LEs.cons (AV.le_eq rfl) LEs.nil) ?_)
  refine G_q rfl (op_litT (n := 1) (enc := c_api_Value) [y1, y2, y3] (CellsAll.cons rfl CellsOf.str (CellsAll.cons rfl CellsOf.str (CellsAll.cons rfl CellsOf.str CellsAll.nil))) rfl (by kernel_rfl) (LEss.cons (LEs.cons (AV.le_eq rfl) LEs.nil) (LEss.cons (LEs.cons (AV.le_eq rfl) LEs.nil) (LEss.cons (LEs.cons (AV.le_eq rfl) LEs.nil) LEss.nil))) ?_)
  obtain ⟨y4, hy4, h⟩ := bnd1_some h
  refine G_q rfl (op_pure (m_value_Set_ok _ _ hy4) Tryz.func16 (by kernel_rfl) (LEs.cons (AV.le_eq rfl) LEs.nil) ?_)
  refine G_q rfl (op_assign (av := .exact (.string (bs y4))) rfl ?_)
  refine G_nil ?_
  refine kC_normal ?_
  refine k_join1_0 h (fun (x0_j5 : Bool) => (AF.put AF0 (some 0) (.exact (.bool x0_j5)))) (fun (x0_j5 : Bool) => [tabI]) (fun k5 h => ?_) (fun x0_j5 h => ?_)
  · refine k_reg .free hmixP (by kernel_rfl) ?_
    obtain ⟨y13, hy13, h⟩ := bnd1_some h
    refine G_q rfl (op_pure (m_value_Int_ok _ _ hy13) Tryz.func26 (by kernel_rfl) (LEs.cons (AV.le_eq rfl) LEs.nil) ?_)
    refine G_q rfl (op_eqlS rfl rfl ?_)
    refine G_q rfl (op_move (av := .exact (.bool (decide (y13 = [1, 0, 0, 0, 0, 0, 0, 0, 1])))) rfl ?_)
    refine G_split (p := y13 = [1, 0, 0, 0, 0, 0, 0, 0, 1]) 9 rfl (fun hc => ?_) (fun hc => ?_)
    · replace h := ite_t h hc
      refine Gy_q rfl rfl rfl (op_move (av := .exact (.string (bs y4))) rfl ?_)
      obtain ⟨y14, hy14, h⟩ := bnd1_some h
      refine Gy_q rfl rfl rfl (op_pure (m_value_Kind_ok _ _ hy14) Tryz.func21 (by kernel_rfl) (LEs.cons (AV.le_eq rfl) LEs.nil) ?_)
      refine Gy_q rfl rfl rfl (op_eql rfl rfl ?_)
      refine G_q rfl (op_pick_t rfl (av := .exact (.bool (decide (y14 = 5)))) rfl ?_)
      refine G_q rfl (op_move (av := .exact (.bool (decide (y14 = 5)))) rfl ?_)
      refine G_split (p := y14 = 5) 14 rfl (fun hc => ?_) (fun hc => ?_)
      · replace h := ite_t h hc
        refine Gy_q rfl rfl rfl (op_move (av := .exact (.string (bs y4))) rfl ?_)
        obtain ⟨y15, hy15, h⟩ := bnd1_some h
        refine Gy_q rfl rfl rfl (op_pure (m_value_Parts_ok _ _ hy15) Tryz.func23 (by kernel_rfl) (LEs.cons (AV.le_eq rfl) LEs.nil) ?_)
        refine Gy_q rfl rfl rfl (op_len_row (by kernel_rfl) rfl ?_)
        refine Gy_q rfl rfl rfl (op_eql rfl rfl ?_)
        refine G_q rfl (op_pick_t rfl (av := .exact (.bool (decide ((List.length y15 : Int) = 2)))) rfl ?_)
        refine G_q rfl (op_move (av := .exact (.bool (decide ((List.length y15 : Int) = 2)))) rfl ?_)
        refine G_split (p := (List.length y15 : Int) = 2) 20 rfl (fun hc => ?_) (fun hc => ?_)
        · replace h := ite_t h hc
          refine Gy_q rfl rfl rfl (op_move (av := .exact (.string (bs y4))) rfl ?_)
          obtain ⟨y16, hy16, h⟩ := bnd1_some h
          refine Gy_l rfl rfl rfl (op_fun_1_0_1 (m_value_Text_ok _ _ _ hy16) Tryz.func12 (by kernel_rfl) (LEs.cons (AV.le_eq rfl) (LEs.cons (row_nil (by decide)) LEs.nil)) ?_)
          refine Gy_q rfl rfl rfl (op_eqlS rfl rfl ?_)
          refine G_q rfl (op_pick_t rfl (av := .exact (.bool (decide (y16 = [123, 49, 44, 32, 50, 125])))) rfl ?_)
          refine G_q rfl (op_move (av := .exact (.bool (decide (y16 = [123, 49, 44, 32, 50, 125])))) rfl ?_)
          refine G_split (p := y16 = [123, 49, 44, 32, 50, 125]) 25 rfl (fun hc => ?_) (fun hc => ?_)
          · replace h := ite_t h hc
            obtain ⟨y17, hy17, h⟩ := bnd1_some h
            refine Gy_q rfl rfl rfl (op_pure (m_value_Int_ok _ _ hy17) Tryz.func26 (by kernel_rfl) (LEs.cons (AV.le_eq rfl) LEs.nil) ?_)
            obtain ⟨y18, hy18, h⟩ := bnd1_some h
            refine Gy_q rfl rfl rfl (op_pure (m_value_Int_ok _ _ hy18) Tryz.func26 (by kernel_rfl) (LEs.cons (AV.le_eq rfl) LEs.nil) ?_)
            obtain ⟨y19, hy19, h⟩ := bnd1_some h
            refine Gy_q rfl rfl rfl (op_pure (m_value_Compare_ok _ _ _ hy19) Tryz.func10 (by kernel_rfl) (LEs.cons (AV.le_eq rfl) (LEs.cons (AV.le_eq rfl) LEs.nil)) ?_)
            refine Gy_q rfl rfl rfl (op_eql rfl rfl ?_)
            refine G_q rfl (op_pick_t rfl (av := .exact (.bool (decide (y19 = (-1))))) rfl ?_)
            refine G_q rfl (op_assign (av := .exact (.bool (decide (y19 = (-1))))) rfl ?_)
            refine G_nil ?_
            refine kI_normal ⟨_, h, ?_⟩
            exact Sub.of_le (AF.le_put (AV.le_eq rfl) (AF.le_top _))
          · replace h := ite_f h hc
            refine G_n rfl rfl ?_
            refine G_n rfl rfl ?_
            refine G_n rfl rfl ?_
            refine G_n rfl rfl ?_
            refine G_q rfl (op_pick_f rfl (av := .exact (.bool false)) rfl ?_)
            refine G_q rfl (op_assign (av := .exact (.bool false)) rfl ?_)
            refine G_nil ?_
            refine kI_normal ⟨_, h, ?_⟩
            exact Sub.of_le (AF.le_put (AV.le_eq rfl) (AF.le_top _))
        · replace h := ite_f h hc
          refine G_n rfl rfl ?_
          refine G_n rfl rfl ?_
          refine G_n rfl rfl ?_
          refine G_q rfl (op_pick_f rfl (av := .exact (.bool false)) rfl ?_)
          refine G_q rfl (op_move (av := .exact (.bool false)) rfl ?_)
          refine G_n rfl rfl ?_
          refine G_n rfl rfl ?_
          refine G_n rfl rfl ?_
          refine G_n rfl rfl ?_
          refine G_q rfl (op_pick_f rfl (av := .exact (.bool false)) rfl ?_)
          refine G_q rfl (op_assign (av := .exact (.bool false)) rfl ?_)
          refine G_nil ?_
          refine kI_normal ⟨_, h, ?_⟩
          exact Sub.of_le (AF.le_put (AV.le_eq rfl) (AF.le_top _))
      · replace h := ite_f h hc
        refine G_n rfl rfl ?_
        refine G_n rfl rfl ?_
        refine G_n rfl rfl ?_
        refine G_n rfl rfl ?_
        refine G_q rfl (op_pick_f rfl (av := .exact (.bool false)) rfl ?_)
        refine G_q rfl (op_move (av := .exact (.bool false)) rfl ?_)
        refine G_n rfl rfl ?_
        refine G_n rfl rfl ?_
        refine G_n rfl rfl ?_
        refine G_q rfl (op_pick_f rfl (av := .exact (.bool false)) rfl ?_)
        refine G_q rfl (op_move (av := .exact (.bool false)) rfl ?_)
        refine G_n rfl rfl ?_
        refine G_n rfl rfl ?_
        refine G_n rfl rfl ?_
        refine G_n rfl rfl ?_
        refine G_q rfl (op_pick_f rfl (av := .exact (.bool false)) rfl ?_)
        refine G_q rfl (op_assign (av := .exact (.bool false)) rfl ?_)
        refine G_nil ?_
        refine kI_normal ⟨_, h, ?_⟩
        exact Sub.of_le (AF.le_put (AV.le_eq rfl) (AF.le_top _))
    · replace h := ite_f h hc
      refine G_n rfl rfl ?_
      refine G_n rfl rfl ?_
      refine G_n rfl rfl ?_
      refine G_q rfl (op_pick_f rfl (av := .exact (.bool false)) rfl ?_)
      refine G_q rfl (op_move (av := .exact (.bool false)) rfl ?_)
      refine G_n rfl rfl ?_
      refine G_n rfl rfl ?_
      refine G_n rfl rfl ?_
      refine G_n rfl rfl ?_
      refine G_q rfl (op_pick_f rfl (av := .exact (.bool false)) rfl ?_)
      refine G_q rfl (op_move (av := .exact (.bool false)) rfl ?_)
      refine G_n rfl rfl ?_
      refine G_n rfl rfl ?_
      refine G_n rfl rfl ?_
      refine G_q rfl (op_pick_f rfl (av := .exact (.bool false)) rfl ?_)
      refine G_q rfl (op_move (av := .exact (.bool false)) rfl ?_)
      refine G_n rfl rfl ?_
      refine G_n rfl rfl ?_
      refine G_n rfl rfl ?_
      refine G_n rfl rfl ?_
      refine G_q rfl (op_pick_f rfl (av := .exact (.bool false)) rfl ?_)
      refine G_q rfl (op_assign (av := .exact (.bool false)) rfl ?_)
      refine G_nil ?_
      refine kI_normal ⟨_, h, ?_⟩
      exact Sub.of_le (AF.le_put (AV.le_eq rfl) (AF.le_top _))
  · refine k_ret ?_
    obtain rfl := Option.some.inj h
    refine kP_any (endN (af' := (AF.put AF0 (some 0) (.exact (.bool x0_j5)))) (σ' := [tabI]) _ rfl ?_ ⟨rfl, rfl⟩)
    exact Sub.of_le (AF.le_put (AV.le_eq rfl) (AF.le_top _))
set_option maxHeartbeats 4000000 in
theorem m_ref9_Parts_ok (a0 : List UInt8) (r : (List (List UInt8))) (h : m_ref9_Parts a0 = some r) : Pure Tryz.prog 47 [(.exact (.string (bs a0)))] (.row 1 c_api_Value r) := by
  unfold m_ref9_Parts at h
  refine Pure.ofFun (fun_of_awp Tryz.func47 rfl Tryz.ntmps47 (by simp) rfl (res1 rfl) fun E hE => k_end ?_)
  refine k_seq ?_
  refine k_reg .free hmixP (by kernel_rfl) ?_
  refine G_q rfl (op_assign (av := .exact (.slice none 0 0)) rfl ?_)
  refine G_nil ?_
  refine kC_normal ?_
  refine k_seq ?_
  refine k_seq ?_
  refine k_reg .free hmixP (by kernel_rfl) ?_
  refine G_q rfl (op_move (av := .exact (.string (bs a0))) rfl ?_)
  obtain ⟨y1, hy1, h⟩ := bnd1_some h
  refine G_q rfl (op_pure (m_ref9_Valid_ok _ _ hy1) Tryz.func74 (by kernel_rfl) (LEs.cons (AV.le_eq rfl) LEs.nil) ?_)
  refine G_q rfl (op_not rfl ?_)
  refine G_nil ?_
  refine kC_normal ?_
  refine k_cond_b (c := !y1) rfl (fun hc => ?_) (fun hc => ?_)
  · replace h := ite_t h hc
    refine k_seq ?_
    refine k_reg .free hmixP (by kernel_rfl) ?_
    refine G_q rfl (op_assign (av := .exact (.slice none 0 0)) rfl ?_)
    refine G_nil ?_
    refine kC_normal ?_
    refine k_ret ?_
    refine kC_ret ?_
    obtain rfl := Option.some.inj h
    refine kP_any (endN (af' := (AF.put AF0 (some 2) (.row 1 c_api_Value []))) (σ' := []) _ rfl ?_ ⟨rfl, rfl⟩)
    exact Sub.of_le (AF.le_put (row_nil (by decide)) (AF.le_top _))
  · replace h := ite_f h hc
    refine k_skip ?_
    refine kC_normal ?_
    refine k_seq ?_
    refine k_reg .free hmixP (by kernel_rfl) ?_
    refine G_q rfl (op_move (av := .exact (.string (bs a0))) rfl ?_)
    obtain ⟨y2, hy2, h⟩ := bnd1_some h
    refine G_q rfl (op_pure (m_ref9_walk_ok _ _ _ _ hy2) Tryz.func75 (by kernel_rfl) (LEs.cons (AV.le_eq rfl) (LEs.cons (AV.le_eq rfl) (LEs.cons (AV.le_eq rfl) LEs.nil))) ?_)
    refine G_q rfl (op_move (av := .tup [.exact (.int .i64 y2.1), .row 1 c_api_Value y2.2.1, .exact (.int .i64 y2.2.2)]) rfl ?_)
    refine G_q rfl (op_extract (av := .exact (.int .i64 y2.1)) rfl rfl ?_)
    refine G_q rfl (op_extract (av := .row 1 c_api_Value y2.2.1) rfl rfl ?_)
    refine G_q rfl (op_extract (av := .exact (.int .i64 y2.2.2)) rfl rfl ?_)
    refine G_q rfl (op_assign (av := .exact (.int .i64 y2.1)) rfl ?_)
    refine G_q rfl (op_assign (av := .row 1 c_api_Value y2.2.1) rfl ?_)
    refine G_q rfl (op_assign (av := .exact (.int .i64 y2.2.2)) rfl ?_)
    refine G_nil ?_
    refine kC_normal ?_
    refine k_seq ?_
    refine k_reg .free hmixP (by kernel_rfl) ?_
    refine G_q rfl (op_move (av := .row 1 c_api_Value y2.2.1) rfl ?_)
    refine G_q rfl (op_assign (av := .row 1 c_api_Value y2.2.1) rfl ?_)
    refine G_nil ?_
    refine kC_normal ?_
    refine k_ret ?_
    obtain rfl := Option.some.inj h
    refine kP_any (endN (af' := (AF.put AF0 (some 2) (.row 1 c_api_Value y2.2.1))) (σ' := []) _ rfl ?_ ⟨rfl, rfl⟩)
    exact Sub.of_le (AF.le_put (AV.le_eq rfl) (AF.le_top _))
set_option maxHeartbeats 4000000 in
theorem m_ref9_Kind_ok (a0 : List UInt8) (r : Int) (h : m_ref9_Kind a0 = some r) : Pure Tryz.prog 48 [(.exact (.string (bs a0)))] (.exact (.int .i64 r)) := by
  unfold m_ref9_Kind at h
  refine Pure.ofFun (fun_of_awp Tryz.func48 rfl Tryz.ntmps48 (by simp) rfl (res1 rfl) fun E hE => k_end ?_)
  refine k_seq ?_
  refine k_reg .free hmixP (by kernel_rfl) ?_
  refine G_q rfl (op_assign (av := .exact (.int .i64 0)) rfl ?_)
  refine G_nil ?_
  refine kC_normal ?_
  refine k_seq ?_
  refine k_seq ?_
  refine k_reg .free hmixP (by kernel_rfl) ?_
  refine G_q rfl (op_move (av := .exact (.string (bs a0))) rfl ?_)
  obtain ⟨y1, hy1, h⟩ := bnd1_some h
  refine G_q rfl (op_pure (m_ref9_Valid_ok _ _ hy1) Tryz.func74 (by kernel_rfl) (LEs.cons (AV.le_eq rfl) LEs.nil) ?_)
  refine G_q rfl (op_not rfl ?_)
  refine G_nil ?_
  refine kC_normal ?_
  refine k_cond_b (c := !y1) rfl (fun hc => ?_) (fun hc => ?_)
  · replace h := ite_t h hc
    refine k_seq ?_
    refine k_reg .free hmixP (by kernel_rfl) ?_
    refine G_q rfl (op_assign (av := .exact (.int .i64 0)) rfl ?_)
    refine G_nil ?_
    refine kC_normal ?_
    refine k_ret ?_
    refine kC_ret ?_
    obtain rfl := Option.some.inj h
    refine kP_any (endN (af' := (AF.put AF0 (some 2) (.exact (.int .i64 0)))) (σ' := []) _ rfl ?_ ⟨rfl, rfl⟩)
    exact Sub.of_le (AF.le_put (AV.le_eq rfl) (AF.le_top _))
  · replace h := ite_f h hc
    refine k_skip ?_
    refine kC_normal ?_
    refine k_seq ?_
    refine k_reg .free hmixP (by kernel_rfl) ?_
    refine G_q rfl (op_move (av := .exact (.string (bs a0))) rfl ?_)
    obtain ⟨n2, h⟩ := need_some h
    refine G_q rfl (op_index_str (by kernel_rfl) rfl rfl n2.1 n2.2 ?_)
    refine G_q rfl (op_convInt (k := .i64) (r := (UInt8.toNat (gi a0 0) : Int)) (by kernel_rfl) rfl (wrap_u8 rfl _) ?_)
    refine G_q rfl (op_assign (av := .exact (.int .i64 (UInt8.toNat (gi a0 0) : Int))) rfl ?_)
    refine G_nil ?_
    refine kC_normal ?_
    refine k_ret ?_
    obtain rfl := Option.some.inj h
    refine kP_any (endN (af' := (AF.put AF0 (some 2) (.exact (.int .i64 (UInt8.toNat (gi a0 0) : Int))))) (σ' := []) _ rfl ?_ ⟨rfl, rfl⟩)
    exact Sub.of_le (AF.le_put (AV.le_eq rfl) (AF.le_top _))
set_option maxHeartbeats 4000000 in
theorem m_ref9_Number_ok (a0 : List UInt8) (r : Int) (h : m_ref9_Number a0 = some r) : Pure Tryz.prog 50 [(.exact (.string (bs a0)))] (.exact (.int .i64 r)) := by
  unfold m_ref9_Number at h
  refine Pure.ofFun (fun_of_awp Tryz.func50 rfl Tryz.ntmps50 (by simp) rfl (res1 rfl) fun E hE => k_end ?_)
  refine k_seq ?_
  refine k_reg .free hmixP (by kernel_rfl) ?_
  refine G_q rfl (op_assign (av := .exact (.int .i64 0)) rfl ?_)
  refine G_nil ?_
  refine kC_normal ?_
  refine k_seq ?_
  refine k_seq ?_
  refine k_reg .free hmixP (by kernel_rfl) ?_
  refine G_q rfl (op_move (av := .exact (.string (bs a0))) rfl ?_)
  obtain ⟨y1, hy1, h⟩ := bnd1_some h
  refine G_q rfl (op_pure (m_ref9_Kind_ok _ _ hy1) Tryz.func48 (by kernel_rfl) (LEs.cons (AV.le_eq rfl) LEs.nil) ?_)
  refine G_nil ?_
  refine kC_normal ?_
  refine k_block ?_
  refine k_seq ?_
  refine k_reg .free hmixP (by kernel_rfl) ?_
  refine G_q rfl (op_eql rfl rfl ?_)
  refine G_q rfl (op_assign (av := .exact (.bool (decide (y1 = 1)))) rfl ?_)
  refine G_nil ?_
  refine kC_normal ?_
  refine k_cond_d (p := y1 = 1) rfl (fun hc => ?_) (fun hc => ?_)
  · replace h := ite_t h hc
    refine k_seq ?_
    refine k_reg .free hmixP (by kernel_rfl) ?_
    refine G_q rfl (op_move (av := .exact (.string (bs a0))) rfl ?_)
    obtain ⟨n2, h⟩ := need_some h
    refine G_q rfl (op_slice_strd (by kernel_rfl) rfl (bnd_some rfl) bnd_none (by decide) n2 (Int.le_refl _) ?_)
    obtain ⟨y3, hy3, h⟩ := bnd1_some h
    refine G_q rfl (op_pure (m_ref9_number_ok _ _ hy3) Tryz.func76 (by kernel_rfl) (LEs.cons (AV.le_eq rfl) LEs.nil) ?_)
    refine G_q rfl (op_assign (av := .exact (.int .i64 y3)) rfl ?_)
    refine G_nil ?_
    refine kC_normal ?_
    refine k_ret ?_
    refine kB_ret ?_
    refine kC_ret ?_
    obtain rfl := Option.some.inj h
    refine kP_any (endN (af' := (AF.put AF0 (some 2) (.exact (.int .i64 y3)))) (σ' := []) _ rfl ?_ ⟨rfl, rfl⟩)
    exact Sub.of_le (AF.le_put (AV.le_eq rfl) (AF.le_top _))
  · replace h := ite_f h hc
    refine k_seq ?_
    refine k_reg .free hmixP (by kernel_rfl) ?_
    refine G_q rfl (op_eql rfl rfl ?_)
    refine G_q rfl (op_assign (av := .exact (.bool (decide (y1 = 2)))) rfl ?_)
    refine G_nil ?_
    refine kC_normal ?_
    refine k_cond_d (p := y1 = 2) rfl (fun hc => ?_) (fun hc => ?_)
    · replace h := ite_t h hc
      refine k_seq ?_
      refine k_reg .free hmixP (by kernel_rfl) ?_
      refine G_q rfl (op_move (av := .exact (.string (bs a0))) rfl ?_)
      obtain ⟨n4, h⟩ := need_some h
      refine G_q rfl (op_index_str (by kernel_rfl) rfl rfl n4.1 n4.2 ?_)
      refine G_q rfl (op_convInt (k := .i64) (r := (UInt8.toNat (gi a0 1) : Int)) (by kernel_rfl) rfl (wrap_u8 rfl _) ?_)
      refine G_q rfl (op_assign (av := .exact (.int .i64 (UInt8.toNat (gi a0 1) : Int))) rfl ?_)
      refine G_nil ?_
      refine kC_normal ?_
      refine k_ret ?_
      refine kB_ret ?_
      refine kC_ret ?_
      obtain rfl := Option.some.inj h
      refine kP_any (endN (af' := (AF.put AF0 (some 2) (.exact (.int .i64 (UInt8.toNat (gi a0 1) : Int))))) (σ' := []) _ rfl ?_ ⟨rfl, rfl⟩)
      exact Sub.of_le (AF.le_put (AV.le_eq rfl) (AF.le_top _))
    · replace h := ite_f h hc
      refine k_seq ?_
      refine k_reg .free hmixP (by kernel_rfl) ?_
      refine G_q rfl (op_eql rfl rfl ?_)
      refine G_q rfl (op_assign (av := .exact (.bool (decide (y1 = 10)))) rfl ?_)
      refine G_nil ?_
      refine kC_normal ?_
      refine k_cond_d (p := y1 = 10) rfl (fun hc => ?_) (fun hc => ?_)
      · replace h := ite_t h hc
        refine k_seq ?_
        refine k_plan [] [(0, 0), (0, 1), (0, 2), (0, 3), (0, 4), (0, 5), (0, 6), (0, 7), (0, 8)] hmixP (by kernel_rfl) ?_
        refine P_q no34_0 rfl (op_move (av := .exact (.string (bs a0))) rfl ?_)
        obtain ⟨n5, h⟩ := need_some h
        refine P_q no34_0 rfl (op_index_str (by kernel_rfl) rfl rfl n5.1 n5.2 ?_)
        refine P_q no34_0 rfl (op_convInt (k := .i64) (r := (UInt8.toNat (gi a0 1) : Int)) (by kernel_rfl) rfl (wrap_u8 rfl _) ?_)
        refine P_q no34_0 rfl (op_shl rfl rfl (by decide) rfl ?_)
        refine P_q no34_0 rfl (op_move (av := .exact (.string (bs a0))) rfl ?_)
        obtain ⟨n6, h⟩ := need_some h
        refine P_q no34_0 rfl (op_index_str (by kernel_rfl) rfl rfl n6.1 n6.2 ?_)
        refine P_q no34_0 rfl (op_convInt (k := .i64) (r := (UInt8.toNat (gi a0 2) : Int)) (by kernel_rfl) rfl (wrap_u8 rfl _) ?_)
        refine P_q no34_0 rfl (op_or rfl rfl rfl ?_)
        refine P_q no34_0 rfl (op_assign (av := .exact (.int .i64 (bOr .i64 (i64 ((UInt8.toNat (gi a0 1) : Int) * 2 ^ min (Int.toNat 8) IntKind.i64.bits)) (UInt8.toNat (gi a0 2) : Int)))) rfl ?_)
        refine P_nil ?_
        refine kC_normal ?_
        refine k_ret ?_
        refine kB_ret ?_
        refine kC_ret ?_
        obtain rfl := Option.some.inj h
        refine kP_any (endN (af' := (AF.put AF0 (some 2) (.exact (.int .i64 (bOr .i64 (i64 ((UInt8.toNat (gi a0 1) : Int) * 2 ^ min (Int.toNat 8) IntKind.i64.bits)) (UInt8.toNat (gi a0 2) : Int)))))) (σ' := []) _ rfl ?_ ⟨rfl, rfl⟩)
        exact Sub.of_le (AF.le_put (AV.le_eq rfl) (AF.le_top _))
      · replace h := ite_f h hc
        refine k_skip ?_
        refine kB_normal ?_
        refine kC_normal ?_
        refine k_seq ?_
        refine k_reg .free hmixP (by kernel_rfl) ?_
        refine G_q rfl (op_assign (av := .exact (.int .i64 0)) rfl ?_)
        refine G_nil ?_
        refine kC_normal ?_
        refine k_ret ?_
        obtain rfl := Option.some.inj h
        refine kP_any (endN (af' := (AF.put AF0 (some 2) (.exact (.int .i64 0)))) (σ' := []) _ rfl ?_ ⟨rfl, rfl⟩)
        exact Sub.of_le (AF.le_put (AV.le_eq rfl) (AF.le_top _))
set_option maxHeartbeats 4000000 in
theorem m_ref9_Decimal_ok (a0 : Int) (r : (List UInt8)) (h : m_ref9_Decimal a0 = some r) : Pure Tryz.prog 49 [(.exact (.int .i64 a0))] (.exact (.string (bs r))) := by
  unfold m_ref9_Decimal at h
  refine Pure.ofFun (fun_of_awp Tryz.func49 rfl Tryz.ntmps49 (by simp) rfl (res1 rfl) fun E hE => k_end ?_)
  refine k_seq ?_
  refine k_reg .free hmixP (by kernel_rfl) ?_
  refine G_q rfl (op_assign (av := .exact (.string (bs ([] : List UInt8)))) rfl ?_)
  refine G_nil ?_
  refine kC_normal ?_
  refine k_seq ?_
  refine k_reg .free hmixP (by kernel_rfl) ?_
  refine G_q rfl (op_move (av := .exact (.int .i64 a0)) rfl ?_)
  refine G_q rfl (op_convInt (k := .u64) (by kernel_rfl) rfl rfl ?_)
  refine G_q rfl (op_assign (av := .exact (.int .u64 (IntKind.u64.wrap (a0)))) rfl ?_)
  refine G_nil ?_
  refine kC_normal ?_
  refine k_seq ?_
  refine k_reg .free hmixP (by kernel_rfl) ?_
  refine G_q rfl (op_assign (av := .exact (.string (bs ([] : List UInt8)))) rfl ?_)
  refine G_nil ?_
  refine kC_normal ?_
  refine k_join2_0 h (fun (x3_j1 : Int) (x4_j1 : List UInt8) => (AF.put (AF.put AF0 (some 3) (.exact (.int .u64 x3_j1))) (some 4) (.exact (.string (bs x4_j1))))) (fun (x3_j1 : Int) (x4_j1 : List UInt8) => []) (fun k1 h => ?_) (fun x3_j1 x4_j1 h => ?_)
  · refine k_seq ?_
    refine k_reg .free hmixP (by kernel_rfl) ?_
    refine G_q rfl (op_move (av := .exact (.int .i64 a0)) rfl ?_)
    refine G_q rfl (op_lss rfl rfl ?_)
    refine G_nil ?_
    refine kC_normal ?_
    refine k_cond_d (p := a0 < 0) rfl (fun hc => ?_) (fun hc => ?_)
    · replace h := ite_t h hc
      refine k_reg .free hmixP (by kernel_rfl) ?_
      refine G_q rfl (op_move (av := .exact (.int .u64 (IntKind.u64.wrap (a0)))) rfl ?_)
      refine G_q rfl (op_neg rfl rfl ?_)
      refine G_q rfl (op_assign (av := .exact (.int .u64 (IntKind.u64.wrap (- (IntKind.u64.wrap (a0)))))) rfl ?_)
      refine G_q rfl (op_assign (av := .exact (.string (bs [45]))) rfl ?_)
      refine G_nil ?_
      refine kI_normal ⟨_, _, h, ?_⟩
      exact Sub.of_le (AF.le_put (AV.le_eq rfl) (AF.le_put (AV.le_eq rfl) (AF.le_top _)))
    · replace h := ite_f h hc
      refine k_skip ?_
      refine kI_normal ⟨_, _, h, ?_⟩
      exact Sub.of_le (AF.le_put (AV.le_eq rfl) (AF.le_put (AV.le_eq rfl) (AF.le_top _)))
  · refine k_seq ?_
    refine k_reg .free hmixP (by kernel_rfl) ?_
    refine G_q rfl (op_move (av := .exact (.int .u64 x3_j1)) rfl ?_)
    refine G_q rfl (op_rem rfl rfl (by decide) rfl ?_)
    refine G_q rfl (op_move (av := .exact (.int .u64 x3_j1)) rfl ?_)
    refine G_q rfl (op_rem rfl rfl (by decide) rfl ?_)
    refine G_q rfl (op_add rfl rfl rfl ?_)
    obtain ⟨n2, h⟩ := need_some h
    refine G_q rfl (op_slice_str (by kernel_rfl) rfl (bnd_some rfl) (bnd_some rfl) n2.1 n2.2.1 n2.2.2 ?_)
    refine G_q rfl (op_assign (av := .exact (.string (bs (List.take (Int.toNat (IntKind.u64.wrap ((Int.tmod x3_j1 10) + 1)) - Int.toNat (Int.tmod x3_j1 10)) (List.drop (Int.toNat (Int.tmod x3_j1 10)) [48, 49, 50, 51, 52, 53, 54, 55, 56, 57]))))) rfl ?_)
    refine G_nil ?_
    refine kC_normal ?_
    refine k_join1_0 h (fun (x5_j3 : List UInt8) => (AF.put (AF.put AF0 (some 4) (.exact (.string (bs x4_j1)))) (some 5) (.exact (.string (bs x5_j3))))) (fun (x5_j3 : List UInt8) => []) (fun k3 h => ?_) (fun x5_j3 h => ?_)
    · refine k_seq ?_
      refine k_reg .free hmixP (by kernel_rfl) ?_
      refine G_q rfl (op_move (av := .exact (.int .u64 x3_j1)) rfl ?_)
      refine G_q rfl (op_quo rfl rfl (by decide) rfl ?_)
      refine G_q rfl (op_assign (av := .exact (.int .u64 (IntKind.u64.wrap (Int.tdiv x3_j1 10)))) rfl ?_)
      refine G_nil ?_
      refine kC_normal ?_
      refine k_block ?_
      refine k_loop2_0 (m_ref9_Decimal_L2 k3) (m_ref9_Decimal_B2 k3) (fun _ _ => rfl) (fun m _ _ => rfl) h (fun (x3_l2 : Int) (x5_l2 : List UInt8) => (AF.put (AF.put (AF.put AF0 (some 3) (.exact (.int .u64 x3_l2))) (some 4) (.exact (.string (bs x4_j1)))) (some 5) (.exact (.string (bs x5_l2))))) (fun (x3_l2 : Int) (x5_l2 : List UInt8) => []) ?_ (fun rec2 x3_l2 x5_l2 h => ?_)
      · exact Sub.of_le (AF.le_put (AV.le_eq rfl) (AF.le_put (AV.le_eq rfl) (AF.le_put (AV.le_eq rfl) (AF.le_top _))))
      · unfold m_ref9_Decimal_B2 at h
        refine k_seq ?_
        refine k_seq ?_
        refine k_reg .free hmixP (by kernel_rfl) ?_
        refine G_q rfl (op_move (av := .exact (.int .u64 x3_l2)) rfl ?_)
        refine G_q rfl (op_gtr rfl rfl ?_)
        refine G_nil ?_
        refine kC_normal ?_
        refine k_cond_d (p := 0 < x3_l2) rfl (fun hc => ?_) (fun hc => ?_)
        · replace h := ite_t h hc
          refine k_skip ?_
          refine kC_normal ?_
          refine k_seq ?_
          refine k_block ?_
          refine k_reg .free hmixP (by kernel_rfl) ?_
          refine G_q rfl (op_move (av := .exact (.int .u64 x3_l2)) rfl ?_)
          refine G_q rfl (op_rem rfl rfl (by decide) rfl ?_)
          refine G_q rfl (op_move (av := .exact (.int .u64 x3_l2)) rfl ?_)
          refine G_q rfl (op_rem rfl rfl (by decide) rfl ?_)
          refine G_q rfl (op_add rfl rfl rfl ?_)
          obtain ⟨n15, h⟩ := need_some h
          refine G_q rfl (op_slice_str (by kernel_rfl) rfl (bnd_some rfl) (bnd_some rfl) n15.1 n15.2.1 n15.2.2 ?_)
          refine G_q rfl (op_move (av := .exact (.string (bs x5_l2))) rfl ?_)
          obtain ⟨n16, h⟩ := need_some h
          refine G_q rfl (op_addS n16 rfl rfl ?_)
          refine G_q rfl (op_assign (av := .exact (.string (bs ((List.take (Int.toNat (IntKind.u64.wrap ((Int.tmod x3_l2 10) + 1)) - Int.toNat (Int.tmod x3_l2 10)) (List.drop (Int.toNat (Int.tmod x3_l2 10)) [48, 49, 50, 51, 52, 53, 54, 55, 56, 57])) ++ x5_l2)))) rfl ?_)
          refine G_nil ?_
          refine kB_normal ?_
          refine kC_normal ?_
          refine k_reg .free hmixP (by kernel_rfl) ?_
          refine G_q rfl (op_move (av := .exact (.int .u64 x3_l2)) rfl ?_)
          refine G_q rfl (op_quo rfl rfl (by decide) rfl ?_)
          refine G_q rfl (op_assign (av := .exact (.int .u64 (IntKind.u64.wrap (Int.tdiv x3_l2 10)))) rfl ?_)
          refine G_nil ?_
          refine kI_normal ⟨_, _, h, ?_⟩
          exact Sub.of_le (AF.le_put (AV.le_eq rfl) (AF.le_put (AV.le_eq rfl) (AF.le_put (AV.le_eq rfl) (AF.le_top _))))
        · replace h := ite_f h hc
          refine k_exit ?_
          refine kC_exit ?_
          refine kI_exit ?_
          refine kB_exit ?_
          refine kI_normal ⟨_, h, ?_⟩
          exact Sub.of_le (AF.le_put (AV.le_eq rfl) (AF.le_put (AV.le_eq rfl) (AF.le_top _)))
    · refine k_seq ?_
      refine k_reg .free hmixP (by kernel_rfl) ?_
      refine G_q rfl (op_move (av := .exact (.string (bs x4_j1))) rfl ?_)
      refine G_q rfl (op_move (av := .exact (.string (bs x5_j3))) rfl ?_)
      obtain ⟨n17, h⟩ := need_some h
      refine G_q rfl (op_addS n17 rfl rfl ?_)
      refine G_q rfl (op_assign (av := .exact (.string (bs (x4_j1 ++ x5_j3)))) rfl ?_)
      refine G_nil ?_
      refine kC_normal ?_
      refine k_ret ?_
      obtain rfl := Option.some.inj h
      refine kP_any (endN (af' := (AF.put AF0 (some 2) (.exact (.string (bs (x4_j1 ++ x5_j3)))))) (σ' := []) _ rfl ?_ ⟨rfl, rfl⟩)
      exact Sub.of_le (AF.le_put (AV.le_eq rfl) (AF.le_top _))
set_option maxHeartbeats 4000000 in
theorem m_ref9_joined_ok (self_ref9_Text : (List UInt8) → (List (List UInt8)) → Option (List UInt8)) (hself_ref9_Text : ∀ (a0 : List UInt8) (a1 : List (List UInt8)) (r : (List UInt8)), self_ref9_Text a0 a1 = some r → Pure Tryz.prog 13 [(.exact (.string (bs a0))), (.row 1 c_string a1)] (.exact (.string (bs r)))) (a0 : List (List UInt8)) (a1 : List (List UInt8)) (a2 : List UInt8) (r : (List UInt8)) (h : m_ref9_joined self_ref9_Text a0 a1 a2 = some r) : Pure Tryz.prog 51 [(.row 1 c_api_Value a0), (.row 1 c_string a1), (.exact (.string (bs a2)))] (.exact (.string (bs r))) := by
  unfold m_ref9_joined at h
  refine Pure.ofFun (fun_of_awp Tryz.func51 rfl Tryz.ntmps51 (by simp) rfl (res1 rfl) fun E hE => k_end ?_)
  refine k_seq ?_
  refine k_reg .free hmixP (by kernel_rfl) ?_
  refine G_q rfl (op_assign (av := .exact (.string (bs ([] : List UInt8)))) rfl ?_)
  refine G_nil ?_
  refine kC_normal ?_
  refine k_seq ?_
  refine k_reg .free hmixP (by kernel_rfl) ?_
  refine G_q rfl (op_assign (av := .exact (.string (bs ([] : List UInt8)))) rfl ?_)
  refine G_nil ?_
  refine kC_normal ?_
  refine k_join1_0 h (fun (x7_j1 : List UInt8) => (AF.put AF0 (some 7) (.exact (.string (bs x7_j1))))) (fun (x7_j1 : List UInt8) => []) (fun k1 h => ?_) (fun x7_j1 h => ?_)
  · refine k_seq ?_
    refine k_reg .free hmixP (by kernel_rfl) ?_
    refine G_q rfl (op_assign (av := .exact (.int .i64 0)) rfl ?_)
    refine G_nil ?_
    refine kC_normal ?_
    refine k_block ?_
    refine k_loop2_0 (m_ref9_joined_L2 self_ref9_Text a0 a1 a2 k1) (m_ref9_joined_B2 self_ref9_Text a0 a1 a2 k1) (fun _ _ => rfl) (fun m _ _ => rfl) h (fun (x7_l2 : List UInt8) (x8_l2 : Int) => (AF.put (AF.put (AF.put (AF.put (AF.put AF0 (some 0) (.row 1 c_api_Value a0)) (some 1) (.row 1 c_string a1)) (some 2) (.exact (.string (bs a2)))) (some 7) (.exact (.string (bs x7_l2)))) (some 8) (.exact (.int .i64 x8_l2)))) (fun (x7_l2 : List UInt8) (x8_l2 : Int) => []) ?_ (fun rec2 x7_l2 x8_l2 h => ?_)
    · exact Sub.of_le (AF.le_put (AV.le_eq rfl) (AF.le_put (AV.le_eq rfl) (AF.le_put (AV.le_eq rfl) (AF.le_put (AV.le_eq rfl) (AF.le_put (AV.le_eq rfl) (AF.le_top _))))))
    · unfold m_ref9_joined_B2 at h
      refine k_seq ?_
      refine k_seq ?_
      refine k_reg .free hmixP (by kernel_rfl) ?_
      refine G_q rfl (op_move (av := .exact (.int .i64 x8_l2)) rfl ?_)
      refine G_q rfl (op_move (av := .row 1 c_api_Value a0) rfl ?_)
      refine G_q rfl (op_len_row (by kernel_rfl) rfl ?_)
      refine G_q rfl (op_lss rfl rfl ?_)
      refine G_nil ?_
      refine kC_normal ?_
      refine k_cond_d (p := x8_l2 < (List.length a0 : Int)) rfl (fun hc => ?_) (fun hc => ?_)
      · replace h := ite_t h hc
        refine k_skip ?_
        refine kC_normal ?_
        refine k_seq ?_
        refine k_block ?_
        refine k_join1_0 h (fun (x7_j75 : List UInt8) => (AF.put (AF.put (AF.put (AF.put (AF.put AF0 (some 0) (.row 1 c_api_Value a0)) (some 1) (.row 1 c_string a1)) (some 2) (.exact (.string (bs a2)))) (some 7) (.exact (.string (bs x7_j75)))) (some 8) (.exact (.int .i64 x8_l2)))) (fun (x7_j75 : List UInt8) => []) (fun k75 h => ?_) (fun x7_j75 h => ?_)
        · refine k_seq ?_
          refine k_reg .free hmixP (by kernel_rfl) ?_
          refine G_q rfl (op_move (av := .exact (.int .i64 x8_l2)) rfl ?_)
          refine G_q rfl (op_gtr rfl rfl ?_)
          refine G_nil ?_
          refine kC_normal ?_
          refine k_cond_d (p := 0 < x8_l2) rfl (fun hc => ?_) (fun hc => ?_)
          · replace h := ite_t h hc
            refine k_reg .free hmixP (by kernel_rfl) ?_
            refine G_q rfl (op_move (av := .exact (.string (bs x7_l2))) rfl ?_)
            refine G_q rfl (op_move (av := .exact (.string (bs a2))) rfl ?_)
            obtain ⟨n77, h⟩ := need_some h
            refine G_q rfl (op_addS n77 rfl rfl ?_)
            refine G_q rfl (op_assign (av := .exact (.string (bs (x7_l2 ++ a2)))) rfl ?_)
            refine G_nil ?_
            refine kI_normal ⟨_, h, ?_⟩
            exact Sub.of_le (AF.le_put (AV.le_eq rfl) (AF.le_put (AV.le_eq rfl) (AF.le_put (AV.le_eq rfl) (AF.le_put (AV.le_eq rfl) (AF.le_put (AV.le_eq rfl) (AF.le_top _))))))
          · replace h := ite_f h hc
            refine k_skip ?_
            refine kI_normal ⟨_, h, ?_⟩
            exact Sub.of_le (AF.le_put (AV.le_eq rfl) (AF.le_put (AV.le_eq rfl) (AF.le_put (AV.le_eq rfl) (AF.le_put (AV.le_eq rfl) (AF.le_put (AV.le_eq rfl) (AF.le_top _))))))
        · refine k_reg .free hmixP (by kernel_rfl) ?_
          refine G_q rfl (op_move (av := .exact (.string (bs x7_j75))) rfl ?_)
          refine G_q rfl (op_move (av := .row 1 c_api_Value a0) rfl ?_)
          refine G_q rfl (op_move (av := .exact (.int .i64 x8_l2)) rfl ?_)
          obtain ⟨n78, h⟩ := need_some h
          refine G_q rfl (op_index_row (by kernel_rfl) rfl rfl n78.1 n78.2 ?_)
          refine G_q rfl (op_load1p (a := .exact (.string (bs (gi a0 x8_l2)))) (by kernel_rfl) rfl rfl ?_)
          refine G_q rfl (op_move (av := .row 1 c_string a1) rfl ?_)
          obtain ⟨y79, hy79, h⟩ := bnd1_some h
          refine G_q rfl (op_pure (hself_ref9_Text _ _ _ hy79) Tryz.func13 (by kernel_rfl) (LEs.cons (AV.le_eq rfl) (LEs.cons (AV.le_eq rfl) LEs.nil)) ?_)
          obtain ⟨n80, h⟩ := need_some h
          refine G_q rfl (op_addS n80 rfl rfl ?_)
          refine G_q rfl (op_assign (av := .exact (.string (bs (x7_j75 ++ y79)))) rfl ?_)
          refine G_nil ?_
          refine kB_normal ?_
          refine kC_normal ?_
          refine k_reg .free hmixP (by kernel_rfl) ?_
          refine G_q rfl (op_move (av := .exact (.int .i64 x8_l2)) rfl ?_)
          refine G_q rfl (op_add rfl rfl rfl ?_)
          refine G_q rfl (op_assign (av := .exact (.int .i64 (i64 (x8_l2 + 1)))) rfl ?_)
          refine G_nil ?_
          refine kI_normal ⟨_, _, h, ?_⟩
          exact Sub.of_le (AF.le_put (AV.le_eq rfl) (AF.le_put (AV.le_eq rfl) (AF.le_put (AV.le_eq rfl) (AF.le_put (AV.le_eq rfl) (AF.le_put (AV.le_eq rfl) (AF.le_top _))))))
      · replace h := ite_f h hc
        refine k_exit ?_
        refine kC_exit ?_
        refine kI_exit ?_
        refine kB_exit ?_
        refine kI_normal ⟨_, h, ?_⟩
        exact Sub.of_le (AF.le_put (AV.le_eq rfl) (AF.le_top _))
  · refine k_seq ?_
    refine k_reg .free hmixP (by kernel_rfl) ?_
    refine G_q rfl (op_move (av := .exact (.string (bs x7_j1))) rfl ?_)
    refine G_q rfl (op_assign (av := .exact (.string (bs x7_j1))) rfl ?_)
    refine G_nil ?_
    refine kC_normal ?_
    refine k_ret ?_
    obtain rfl := Option.some.inj h
    refine kP_any (endN (af' := (AF.put AF0 (some 6) (.exact (.string (bs x7_j1))))) (σ' := []) _ rfl ?_ ⟨rfl, rfl⟩)
    exact Sub.of_le (AF.le_put (AV.le_eq rfl) (AF.le_top _))
set_option maxHeartbeats 4000000 in
theorem m_ref9_Text_F_ok (self_ref9_Text : (List UInt8) → (List (List UInt8)) → Option (List UInt8)) (hself_ref9_Text : ∀ (a0 : List UInt8) (a1 : List (List UInt8)) (r : (List UInt8)), self_ref9_Text a0 a1 = some r → Pure Tryz.prog 13 [(.exact (.string (bs a0))), (.row 1 c_string a1)] (.exact (.string (bs r)))) (a0 : List UInt8) (a1 : List (List UInt8)) (r : (List UInt8)) (h : m_ref9_Text_F self_ref9_Text a0 a1 = some r) : Pure Tryz.prog 13 [(.exact (.string (bs a0))), (.row 1 c_string a1)] (.exact (.string (bs r))) := by
  unfold m_ref9_Text_F at h
  refine Pure.ofFun (fun_of_awp Tryz.func13 rfl Tryz.ntmps13 (by simp) rfl (res1 rfl) fun E hE => k_end ?_)
  refine k_seq ?_
  refine k_reg .free hmixP (by kernel_rfl) ?_
  refine G_q rfl (op_assign (av := .exact (.string (bs ([] : List UInt8)))) rfl ?_)
  refine G_nil ?_
  refine kC_normal ?_
  refine k_seq ?_
  refine k_reg .free hmixP (by kernel_rfl) ?_
  refine G_q rfl (op_move (av := .exact (.string (bs a0))) rfl ?_)
  obtain ⟨y1, hy1, h⟩ := bnd1_some h
  refine G_q rfl (op_pure (m_ref9_Parts_ok _ _ hy1) Tryz.func47 (by kernel_rfl) (LEs.cons (AV.le_eq rfl) LEs.nil) ?_)
  refine G_q rfl (op_assign (av := .row 1 c_api_Value y1) rfl ?_)
  refine G_nil ?_
  refine kC_normal ?_
  refine k_join0_0 h (AF0) ([]) (fun k2 h => ?_) (fun  h => ?_)
  · refine k_seq ?_
    refine k_reg .free hmixP (by kernel_rfl) ?_
    refine G_q rfl (op_move (av := .exact (.string (bs a0))) rfl ?_)
    obtain ⟨y112, hy112, h⟩ := bnd1_some h
    refine G_q rfl (op_pure (m_ref9_Kind_ok _ _ hy112) Tryz.func48 (by kernel_rfl) (LEs.cons (AV.le_eq rfl) LEs.nil) ?_)
    refine G_nil ?_
    refine kC_normal ?_
    refine k_block ?_
    refine k_seq ?_
    refine k_reg .free hmixP (by kernel_rfl) ?_
    refine G_q rfl (op_eql rfl rfl ?_)
    refine G_q rfl (op_assign (av := .exact (.bool (decide (y112 = 1)))) rfl ?_)
    refine G_nil ?_
    refine kC_normal ?_
    refine k_cond_d (p := y112 = 1) rfl (fun hc => ?_) (fun hc => ?_)
    · replace h := ite_t h hc
      refine k_seq ?_
      refine k_reg .free hmixP (by kernel_rfl) ?_
      refine G_q rfl (op_move (av := .exact (.string (bs a0))) rfl ?_)
      obtain ⟨y113, hy113, h⟩ := bnd1_some h
      refine G_q rfl (op_pure (m_ref9_Number_ok _ _ hy113) Tryz.func50 (by kernel_rfl) (LEs.cons (AV.le_eq rfl) LEs.nil) ?_)
      obtain ⟨y114, hy114, h⟩ := bnd1_some h
      refine G_q rfl (op_pure (m_ref9_Decimal_ok _ _ hy114) Tryz.func49 (by kernel_rfl) (LEs.cons (AV.le_eq rfl) LEs.nil) ?_)
      refine G_q rfl (op_assign (av := .exact (.string (bs y114))) rfl ?_)
      refine G_nil ?_
      refine kC_normal ?_
      refine k_ret ?_
      refine kB_ret ?_
      refine kI_ret ?_
      obtain rfl := Option.some.inj h
      refine kP_any (endN (af' := (AF.put AF0 (some 4) (.exact (.string (bs y114))))) (σ' := []) _ rfl ?_ ⟨rfl, rfl⟩)
      exact Sub.of_le (AF.le_put (AV.le_eq rfl) (AF.le_top _))
    · replace h := ite_f h hc
      refine k_seq ?_
      refine k_reg .free hmixP (by kernel_rfl) ?_
      refine G_q rfl (op_eql rfl rfl ?_)
      refine G_q rfl (op_assign (av := .exact (.bool (decide (y112 = 2)))) rfl ?_)
      refine G_nil ?_
      refine kC_normal ?_
      refine k_cond_d (p := y112 = 2) rfl (fun hc => ?_) (fun hc => ?_)
      · replace h := ite_t h hc
        refine k_seq ?_
        refine k_reg .free hmixP (by kernel_rfl) ?_
        refine G_q rfl (op_litT (n := 1) (enc := c_string) [[102, 97, 108, 115, 101], [116, 114, 117, 101]] (CellsAll.cons rfl CellsOf.str (CellsAll.cons rfl CellsOf.str CellsAll.nil)) rfl (by kernel_rfl) (LEss.cons (LEs.cons (AV.le_eq rfl) LEs.nil) (LEss.cons (LEs.cons (AV.le_eq rfl) LEs.nil) LEss.nil)) ?_)
        refine G_q rfl (op_move (av := .exact (.string (bs a0))) rfl ?_)
        obtain ⟨y115, hy115, h⟩ := bnd1_some h
        refine G_q rfl (op_pure (m_ref9_Number_ok _ _ hy115) Tryz.func50 (by kernel_rfl) (LEs.cons (AV.le_eq rfl) LEs.nil) ?_)
        obtain ⟨n116, h⟩ := need_some h
        refine G_q rfl (op_index_row (by kernel_rfl) rfl rfl n116.1 n116.2 ?_)
        refine G_q rfl (op_load1p (a := .exact (.string (bs (gi ([[102, 97, 108, 115, 101], [116, 114, 117, 101]]) y115)))) (by kernel_rfl) rfl rfl ?_)
        refine G_q rfl (op_assign (av := .exact (.string (bs (gi ([[102, 97, 108, 115, 101], [116, 114, 117, 101]]) y115)))) rfl ?_)
        refine G_nil ?_
        refine kC_normal ?_
        refine k_ret ?_
        refine kB_ret ?_
        refine kI_ret ?_
        obtain rfl := Option.some.inj h
        refine kP_any (endN (af' := (AF.put AF0 (some 4) (.exact (.string (bs (gi ([[102, 97, 108, 115, 101], [116, 114, 117, 101]]) y115)))))) (σ' := []) _ rfl ?_ ⟨rfl, rfl⟩)
        exact Sub.of_le (AF.le_put (AV.le_eq rfl) (AF.le_top _))
      · replace h := ite_f h hc
        refine k_seq ?_
        refine k_reg .free hmixP (by kernel_rfl) ?_
        refine G_q rfl (op_eql rfl rfl ?_)
        refine G_q rfl (op_assign (av := .exact (.bool (decide (y112 = 10)))) rfl ?_)
        refine G_nil ?_
        refine kC_normal ?_
        refine k_cond_d (p := y112 = 10) rfl (fun hc => ?_) (fun hc => ?_)
        · replace h := ite_t h hc
          refine k_seq ?_
          refine k_seq ?_
          refine k_reg .free hmixP (by kernel_rfl) ?_
          refine G_q rfl (op_move (av := .exact (.string (bs a0))) rfl ?_)
          obtain ⟨y117, hy117, h⟩ := bnd1_some h
          refine G_q rfl (op_pure (m_ref9_Number_ok _ _ hy117) Tryz.func50 (by kernel_rfl) (LEs.cons (AV.le_eq rfl) LEs.nil) ?_)
          refine G_q rfl (op_assign (av := .exact (.int .i64 y117)) rfl ?_)
          refine G_nil ?_
          refine kC_normal ?_
          refine k_seq ?_
          refine k_reg .free hmixP (by kernel_rfl) ?_
          refine G_q rfl (op_move (av := .exact (.int .i64 y117)) rfl ?_)
          refine G_q rfl (op_move (av := .row 1 c_string a1) rfl ?_)
          refine G_q rfl (op_len_row (by kernel_rfl) rfl ?_)
          refine G_q rfl (op_lss rfl rfl ?_)
          refine G_nil ?_
          refine kC_normal ?_
          refine k_cond_d (p := y117 < (List.length a1 : Int)) rfl (fun hc => ?_) (fun hc => ?_)
          · replace h := ite_t h hc
            refine k_seq ?_
            refine k_reg .free hmixP (by kernel_rfl) ?_
            refine G_q rfl (op_move (av := .row 1 c_string a1) rfl ?_)
            refine G_q rfl (op_move (av := .exact (.int .i64 y117)) rfl ?_)
            obtain ⟨n118, h⟩ := need_some h
            refine G_q rfl (op_index_row (by kernel_rfl) rfl rfl n118.1 n118.2 ?_)
            refine G_q rfl (op_load1p (a := .exact (.string (bs (gi a1 y117)))) (by kernel_rfl) rfl rfl ?_)
            refine G_q rfl (op_assign (av := .exact (.string (bs (gi a1 y117)))) rfl ?_)
            refine G_nil ?_
            refine kC_normal ?_
            refine k_ret ?_
            refine kC_ret ?_
            refine kB_ret ?_
            refine kI_ret ?_
            obtain rfl := Option.some.inj h
            refine kP_any (endN (af' := (AF.put AF0 (some 4) (.exact (.string (bs (gi a1 y117)))))) (σ' := []) _ rfl ?_ ⟨rfl, rfl⟩)
            exact Sub.of_le (AF.le_put (AV.le_eq rfl) (AF.le_top _))
          · replace h := ite_f h hc
            refine k_skip ?_
            refine kC_normal ?_
            refine k_seq ?_
            refine k_reg .free hmixP (by kernel_rfl) ?_
            refine G_q rfl (op_move (av := .exact (.string (bs a0))) rfl ?_)
            obtain ⟨y119, hy119, h⟩ := bnd1_some h
            refine G_q rfl (op_pure (m_ref9_Number_ok _ _ hy119) Tryz.func50 (by kernel_rfl) (LEs.cons (AV.le_eq rfl) LEs.nil) ?_)
            obtain ⟨y120, hy120, h⟩ := bnd1_some h
            refine G_q rfl (op_pure (m_ref9_Decimal_ok _ _ hy120) Tryz.func49 (by kernel_rfl) (LEs.cons (AV.le_eq rfl) LEs.nil) ?_)
            obtain ⟨n121, h⟩ := need_some h
            refine G_q rfl (op_addS n121 rfl rfl ?_)
            refine G_q rfl (op_assign (av := .exact (.string (bs ([63] ++ y120)))) rfl ?_)
            refine G_nil ?_
            refine kC_normal ?_
            refine k_ret ?_
            refine kB_ret ?_
            refine kI_ret ?_
            obtain rfl := Option.some.inj h
            refine kP_any (endN (af' := (AF.put AF0 (some 4) (.exact (.string (bs ([63] ++ y120)))))) (σ' := []) _ rfl ?_ ⟨rfl, rfl⟩)
            exact Sub.of_le (AF.le_put (AV.le_eq rfl) (AF.le_top _))
        · replace h := ite_f h hc
          refine k_seq ?_
          refine k_reg .free hmixP (by kernel_rfl) ?_
          refine G_q rfl (op_eql rfl rfl ?_)
          refine G_q rfl (op_assign (av := .exact (.bool (decide (y112 = 3)))) rfl ?_)
          refine G_nil ?_
          refine kC_normal ?_
          refine k_cond_d (p := y112 = 3) rfl (fun hc => ?_) (fun hc => ?_)
          · replace h := ite_t h hc
            refine k_seq ?_
            refine k_reg .free hmixP (by kernel_rfl) ?_
            refine G_q rfl (op_move (av := .row 1 c_api_Value y1) rfl ?_)
            refine G_q rfl (op_move (av := .row 1 c_string a1) rfl ?_)
            obtain ⟨y122, hy122, h⟩ := bnd1_some h
            refine G_q rfl (op_pure (m_ref9_joined_ok self_ref9_Text hself_ref9_Text _ _ _ _ hy122) Tryz.func51 (by kernel_rfl) (LEs.cons (AV.le_eq rfl) (LEs.cons (AV.le_eq rfl) (LEs.cons (AV.le_eq rfl) LEs.nil))) ?_)
            obtain ⟨n123, h⟩ := need_some h
            refine G_q rfl (op_addS n123 rfl rfl ?_)
            obtain ⟨n124, h⟩ := need_some h
            refine G_q rfl (op_addS n124 rfl rfl ?_)
            refine G_q rfl (op_assign (av := .exact (.string (bs (([40] ++ y122) ++ [41])))) rfl ?_)
            refine G_nil ?_
            refine kC_normal ?_
            refine k_ret ?_
            refine kB_ret ?_
            refine kI_ret ?_
            obtain rfl := Option.some.inj h
            refine kP_any (endN (af' := (AF.put AF0 (some 4) (.exact (.string (bs (([40] ++ y122) ++ [41])))))) (σ' := []) _ rfl ?_ ⟨rfl, rfl⟩)
            exact Sub.of_le (AF.le_put (AV.le_eq rfl) (AF.le_top _))
          · replace h := ite_f h hc
            refine k_seq ?_
            refine k_reg .free hmixP (by kernel_rfl) ?_
            refine G_q rfl (op_eql rfl rfl ?_)
            refine G_q rfl (op_assign (av := .exact (.bool (decide (y112 = 4)))) rfl ?_)
            refine G_nil ?_
            refine kC_normal ?_
            refine k_cond_d (p := y112 = 4) rfl (fun hc => ?_) (fun hc => ?_)
            · replace h := ite_t h hc
              refine k_seq ?_
              refine k_reg .free hmixP (by kernel_rfl) ?_
              refine G_q rfl (op_move (av := .row 1 c_api_Value y1) rfl ?_)
              refine G_q rfl (op_move (av := .row 1 c_string a1) rfl ?_)
              obtain ⟨y125, hy125, h⟩ := bnd1_some h
              refine G_q rfl (op_pure (m_ref9_joined_ok self_ref9_Text hself_ref9_Text _ _ _ _ hy125) Tryz.func51 (by kernel_rfl) (LEs.cons (AV.le_eq rfl) (LEs.cons (AV.le_eq rfl) (LEs.cons (AV.le_eq rfl) LEs.nil))) ?_)
              obtain ⟨n126, h⟩ := need_some h
              refine G_q rfl (op_addS n126 rfl rfl ?_)
              obtain ⟨n127, h⟩ := need_some h
              refine G_q rfl (op_addS n127 rfl rfl ?_)
              refine G_q rfl (op_assign (av := .exact (.string (bs (([60] ++ y125) ++ [62])))) rfl ?_)
              refine G_nil ?_
              refine kC_normal ?_
              refine k_ret ?_
              refine kB_ret ?_
              refine kI_ret ?_
              obtain rfl := Option.some.inj h
              refine kP_any (endN (af' := (AF.put AF0 (some 4) (.exact (.string (bs (([60] ++ y125) ++ [62])))))) (σ' := []) _ rfl ?_ ⟨rfl, rfl⟩)
              exact Sub.of_le (AF.le_put (AV.le_eq rfl) (AF.le_top _))
            · replace h := ite_f h hc
              refine k_seq ?_
              refine k_reg .free hmixP (by kernel_rfl) ?_
              refine G_q rfl (op_eql rfl rfl ?_)
              refine G_q rfl (op_assign (av := .exact (.bool (decide (y112 = 5)))) rfl ?_)
              refine G_nil ?_
              refine kC_normal ?_
              refine k_cond_d (p := y112 = 5) rfl (fun hc => ?_) (fun hc => ?_)
              · replace h := ite_t h hc
                refine k_seq ?_
                refine k_reg .free hmixP (by kernel_rfl) ?_
                refine G_q rfl (op_move (av := .row 1 c_api_Value y1) rfl ?_)
                refine G_q rfl (op_move (av := .row 1 c_string a1) rfl ?_)
                obtain ⟨y128, hy128, h⟩ := bnd1_some h
                refine G_q rfl (op_pure (m_ref9_joined_ok self_ref9_Text hself_ref9_Text _ _ _ _ hy128) Tryz.func51 (by kernel_rfl) (LEs.cons (AV.le_eq rfl) (LEs.cons (AV.le_eq rfl) (LEs.cons (AV.le_eq rfl) LEs.nil))) ?_)
                obtain ⟨n129, h⟩ := need_some h
                refine G_q rfl (op_addS n129 rfl rfl ?_)
                obtain ⟨n130, h⟩ := need_some h
                refine G_q rfl (op_addS n130 rfl rfl ?_)
                refine G_q rfl (op_assign (av := .exact (.string (bs (([123] ++ y128) ++ [125])))) rfl ?_)
                refine G_nil ?_
                refine kC_normal ?_
                refine k_ret ?_
                refine kB_ret ?_
                refine kI_ret ?_
                obtain rfl := Option.some.inj h
                refine kP_any (endN (af' := (AF.put AF0 (some 4) (.exact (.string (bs (([123] ++ y128) ++ [125])))))) (σ' := []) _ rfl ?_ ⟨rfl, rfl⟩)
                exact Sub.of_le (AF.le_put (AV.le_eq rfl) (AF.le_top _))
              · replace h := ite_f h hc
                refine k_seq ?_
                refine k_reg .free hmixP (by kernel_rfl) ?_
                refine G_q rfl (op_eql rfl rfl ?_)
                refine G_q rfl (op_assign (av := .exact (.bool (decide (y112 = 6)))) rfl ?_)
                refine G_nil ?_
                refine kC_normal ?_
                refine k_cond_d (p := y112 = 6) rfl (fun hc => ?_) (fun hc => ?_)
                · replace h := ite_t h hc
                  refine k_seq ?_
                  refine k_reg .free hmixP (by kernel_rfl) ?_
                  refine G_q rfl (op_assign (av := .exact (.string (bs ([] : List UInt8)))) rfl ?_)
                  refine G_nil ?_
                  refine kC_normal ?_
                  refine k_join1_0 h (fun (x7_j131 : List UInt8) => (AF.put AF0 (some 7) (.exact (.string (bs x7_j131))))) (fun (x7_j131 : List UInt8) => []) (fun k131 h => ?_) (fun x7_j131 h => ?_)
                  · refine k_seq ?_
                    refine k_reg .free hmixP (by kernel_rfl) ?_
                    refine G_q rfl (op_assign (av := .exact (.int .i64 0)) rfl ?_)
                    refine G_nil ?_
                    refine kC_normal ?_
                    refine k_block ?_
                    refine k_loop2_0 (m_ref9_Text_L4 self_ref9_Text a1 y1 k131) (m_ref9_Text_B4 self_ref9_Text a1 y1 k131) (fun _ _ => rfl) (fun m _ _ => rfl) h (fun (x7_l4 : List UInt8) (x8_l4 : Int) => (AF.put (AF.put (AF.put (AF.put AF0 (some 1) (.row 1 c_string a1)) (some 5) (.row 1 c_api_Value y1)) (some 7) (.exact (.string (bs x7_l4)))) (some 8) (.exact (.int .i64 x8_l4)))) (fun (x7_l4 : List UInt8) (x8_l4 : Int) => []) ?_ (fun rec4 x7_l4 x8_l4 h => ?_)
                    · exact Sub.of_le (AF.le_put (AV.le_eq rfl) (AF.le_put (AV.le_eq rfl) (AF.le_put (AV.le_eq rfl) (AF.le_put (AV.le_eq rfl) (AF.le_top _)))))
                    · unfold m_ref9_Text_B4 at h
                      refine k_seq ?_
                      refine k_seq ?_
                      refine k_reg .free hmixP (by kernel_rfl) ?_
                      refine G_q rfl (op_move (av := .exact (.int .i64 x8_l4)) rfl ?_)
                      refine G_q rfl (op_move (av := .row 1 c_api_Value y1) rfl ?_)
                      refine G_q rfl (op_len_row (by kernel_rfl) rfl ?_)
                      refine G_q rfl (op_lss rfl rfl ?_)
                      refine G_nil ?_
                      refine kC_normal ?_
                      refine k_cond_d (p := x8_l4 < (List.length y1 : Int)) rfl (fun hc => ?_) (fun hc => ?_)
                      · replace h := ite_t h hc
                        refine k_skip ?_
                        refine kC_normal ?_
                        refine k_seq ?_
                        refine k_block ?_
                        refine k_join1_0 h (fun (x7_j205 : List UInt8) => (AF.put (AF.put (AF.put (AF.put AF0 (some 1) (.row 1 c_string a1)) (some 5) (.row 1 c_api_Value y1)) (some 7) (.exact (.string (bs x7_j205)))) (some 8) (.exact (.int .i64 x8_l4)))) (fun (x7_j205 : List UInt8) => []) (fun k205 h => ?_) (fun x7_j205 h => ?_)
                        · refine k_seq ?_
                          refine k_reg .free hmixP (by kernel_rfl) ?_
                          refine G_q rfl (op_move (av := .exact (.int .i64 x8_l4)) rfl ?_)
                          refine G_q rfl (op_gtr rfl rfl ?_)
                          refine G_nil ?_
                          refine kC_normal ?_
                          refine k_cond_d (p := 0 < x8_l4) rfl (fun hc => ?_) (fun hc => ?_)
                          · replace h := ite_t h hc
                            refine k_reg .free hmixP (by kernel_rfl) ?_
                            refine G_q rfl (op_move (av := .exact (.string (bs x7_l4))) rfl ?_)
                            obtain ⟨n207, h⟩ := need_some h
                            refine G_q rfl (op_addS n207 rfl rfl ?_)
                            refine G_q rfl (op_assign (av := .exact (.string (bs (x7_l4 ++ [44, 32])))) rfl ?_)
                            refine G_nil ?_
                            refine kI_normal ⟨_, h, ?_⟩
                            exact Sub.of_le (AF.le_put (AV.le_eq rfl) (AF.le_put (AV.le_eq rfl) (AF.le_put (AV.le_eq rfl) (AF.le_put (AV.le_eq rfl) (AF.le_top _)))))
                          · replace h := ite_f h hc
                            refine k_skip ?_
                            refine kI_normal ⟨_, h, ?_⟩
                            exact Sub.of_le (AF.le_put (AV.le_eq rfl) (AF.le_put (AV.le_eq rfl) (AF.le_put (AV.le_eq rfl) (AF.le_put (AV.le_eq rfl) (AF.le_top _)))))
                        · refine k_reg .free hmixP (by kernel_rfl) ?_
                          refine G_q rfl (op_move (av := .exact (.string (bs x7_j205))) rfl ?_)
                          refine G_q rfl (op_move (av := .row 1 c_api_Value y1) rfl ?_)
                          refine G_q rfl (op_move (av := .exact (.int .i64 x8_l4)) rfl ?_)
                          refine G_q rfl (op_move (av := .exact (.int .i64 x8_l4)) rfl ?_)
                          refine G_q rfl (op_add rfl rfl rfl ?_)
                          obtain ⟨n208, h⟩ := need_some h
                          refine G_q rfl (op_slice_row (by kernel_rfl) rfl (bnd_some rfl) (bnd_some rfl) n208.1 n208.2.1 n208.2.2 ?_)
                          refine G_q rfl (op_move (av := .row 1 c_string a1) rfl ?_)
                          obtain ⟨y209, hy209, h⟩ := bnd1_some h
                          refine G_q rfl (op_pure (m_ref9_joined_ok self_ref9_Text hself_ref9_Text _ _ _ _ hy209) Tryz.func51 (by kernel_rfl) (LEs.cons (AV.le_eq rfl) (LEs.cons (AV.le_eq rfl) (LEs.cons (AV.le_eq rfl) LEs.nil))) ?_)
                          obtain ⟨n210, h⟩ := need_some h
                          refine G_q rfl (op_addS n210 rfl rfl ?_)
                          refine G_q rfl (op_assign (av := .exact (.string (bs (x7_j205 ++ y209)))) rfl ?_)
                          refine G_nil ?_
                          refine kB_normal ?_
                          refine kC_normal ?_
                          refine k_reg .free hmixP (by kernel_rfl) ?_
                          refine G_q rfl (op_move (av := .exact (.int .i64 x8_l4)) rfl ?_)
                          refine G_q rfl (op_add rfl rfl rfl ?_)
                          refine G_q rfl (op_assign (av := .exact (.int .i64 (i64 (x8_l4 + 2)))) rfl ?_)
                          refine G_nil ?_
                          refine kI_normal ⟨_, _, h, ?_⟩
                          exact Sub.of_le (AF.le_put (AV.le_eq rfl) (AF.le_put (AV.le_eq rfl) (AF.le_put (AV.le_eq rfl) (AF.le_put (AV.le_eq rfl) (AF.le_top _)))))
                      · replace h := ite_f h hc
                        refine k_exit ?_
                        refine kC_exit ?_
                        refine kI_exit ?_
                        refine kB_exit ?_
                        refine kI_normal ⟨_, h, ?_⟩
                        exact Sub.of_le (AF.le_put (AV.le_eq rfl) (AF.le_top _))
                  · refine k_seq ?_
                    refine k_reg .free hmixP (by kernel_rfl) ?_
                    refine G_q rfl (op_move (av := .exact (.string (bs x7_j131))) rfl ?_)
                    obtain ⟨n211, h⟩ := need_some h
                    refine G_q rfl (op_addS n211 rfl rfl ?_)
                    obtain ⟨n212, h⟩ := need_some h
                    refine G_q rfl (op_addS n212 rfl rfl ?_)
                    refine G_q rfl (op_assign (av := .exact (.string (bs (([40, 124] ++ x7_j131) ++ [124, 41])))) rfl ?_)
                    refine G_nil ?_
                    refine kC_normal ?_
                    refine k_ret ?_
                    refine kB_ret ?_
                    refine kI_ret ?_
                    obtain rfl := Option.some.inj h
                    refine kP_any (endN (af' := (AF.put AF0 (some 4) (.exact (.string (bs (([40, 124] ++ x7_j131) ++ [124, 41])))))) (σ' := []) _ rfl ?_ ⟨rfl, rfl⟩)
                    exact Sub.of_le (AF.le_put (AV.le_eq rfl) (AF.le_top _))
                · replace h := ite_f h hc
                  refine k_seq ?_
                  refine k_reg .free hmixP (by kernel_rfl) ?_
                  refine G_q rfl (op_eql rfl rfl ?_)
                  refine G_q rfl (op_assign (av := .exact (.bool (decide (y112 = 7)))) rfl ?_)
                  refine G_nil ?_
                  refine kC_normal ?_
                  refine k_cond_d (p := y112 = 7) rfl (fun hc => ?_) (fun hc => ?_)
                  · replace h := ite_t h hc
                    refine k_seq ?_
                    refine k_reg .free hmixP (by kernel_rfl) ?_
                    refine G_q rfl (op_move (av := .row 1 c_api_Value y1) rfl ?_)
                    refine G_q rfl (op_move (av := .row 1 c_string a1) rfl ?_)
                    obtain ⟨y213, hy213, h⟩ := bnd1_some h
                    refine G_q rfl (op_pure (m_ref9_joined_ok self_ref9_Text hself_ref9_Text _ _ _ _ hy213) Tryz.func51 (by kernel_rfl) (LEs.cons (AV.le_eq rfl) (LEs.cons (AV.le_eq rfl) (LEs.cons (AV.le_eq rfl) LEs.nil))) ?_)
                    refine G_q rfl (op_assign (av := .exact (.string (bs y213))) rfl ?_)
                    refine G_nil ?_
                    refine kC_normal ?_
                    refine k_ret ?_
                    refine kB_ret ?_
                    refine kI_ret ?_
                    obtain rfl := Option.some.inj h
                    refine kP_any (endN (af' := (AF.put AF0 (some 4) (.exact (.string (bs y213))))) (σ' := []) _ rfl ?_ ⟨rfl, rfl⟩)
                    exact Sub.of_le (AF.le_put (AV.le_eq rfl) (AF.le_top _))
                  · replace h := ite_f h hc
                    refine k_seq ?_
                    refine k_reg .free hmixP (by kernel_rfl) ?_
                    refine G_q rfl (op_eql rfl rfl ?_)
                    refine G_q rfl (op_assign (av := .exact (.bool (decide (y112 = 8)))) rfl ?_)
                    refine G_nil ?_
                    refine kC_normal ?_
                    refine k_cond_d (p := y112 = 8) rfl (fun hc => ?_) (fun hc => ?_)
                    · replace h := ite_t h hc
                      refine k_seq ?_
                      refine k_reg .free hmixP (by kernel_rfl) ?_
                      refine G_q rfl (op_move (av := .row 1 c_api_Value y1) rfl ?_)
                      refine G_q rfl (op_move (av := .row 1 c_string a1) rfl ?_)
                      obtain ⟨y214, hy214, h⟩ := bnd1_some h
                      refine G_q rfl (op_pure (m_ref9_joined_ok self_ref9_Text hself_ref9_Text _ _ _ _ hy214) Tryz.func51 (by kernel_rfl) (LEs.cons (AV.le_eq rfl) (LEs.cons (AV.le_eq rfl) (LEs.cons (AV.le_eq rfl) LEs.nil))) ?_)
                      obtain ⟨n215, h⟩ := need_some h
                      refine G_q rfl (op_addS n215 rfl rfl ?_)
                      obtain ⟨n216, h⟩ := need_some h
                      refine G_q rfl (op_addS n216 rfl rfl ?_)
                      refine G_q rfl (op_assign (av := .exact (.string (bs (([102, 117, 110, 40] ++ y214) ++ [41])))) rfl ?_)
                      refine G_nil ?_
                      refine kC_normal ?_
                      refine k_ret ?_
                      refine kB_ret ?_
                      refine kI_ret ?_
                      obtain rfl := Option.some.inj h
                      refine kP_any (endN (af' := (AF.put AF0 (some 4) (.exact (.string (bs (([102, 117, 110, 40] ++ y214) ++ [41])))))) (σ' := []) _ rfl ?_ ⟨rfl, rfl⟩)
                      exact Sub.of_le (AF.le_put (AV.le_eq rfl) (AF.le_top _))
                    · replace h := ite_f h hc
                      refine k_seq ?_
                      refine k_reg .free hmixP (by kernel_rfl) ?_
                      refine G_q rfl (op_eql rfl rfl ?_)
                      refine G_q rfl (op_assign (av := .exact (.bool (decide (y112 = 9)))) rfl ?_)
                      refine G_nil ?_
                      refine kC_normal ?_
                      refine k_cond_d (p := y112 = 9) rfl (fun hc => ?_) (fun hc => ?_)
                      · replace h := ite_t h hc
                        refine k_seq ?_
                        refine k_reg .free hmixP (by kernel_rfl) ?_
                        refine G_q rfl (op_move (av := .row 1 c_api_Value y1) rfl ?_)
                        refine G_q rfl (op_move (av := .row 1 c_string a1) rfl ?_)
                        obtain ⟨y217, hy217, h⟩ := bnd1_some h
                        refine G_q rfl (op_pure (m_ref9_joined_ok self_ref9_Text hself_ref9_Text _ _ _ _ hy217) Tryz.func51 (by kernel_rfl) (LEs.cons (AV.le_eq rfl) (LEs.cons (AV.le_eq rfl) (LEs.cons (AV.le_eq rfl) LEs.nil))) ?_)
                        obtain ⟨n218, h⟩ := need_some h
                        refine G_q rfl (op_addS n218 rfl rfl ?_)
                        obtain ⟨n219, h⟩ := need_some h
                        refine G_q rfl (op_addS n219 rfl rfl ?_)
                        refine G_q rfl (op_assign (av := .exact (.string (bs (([112, 114, 111, 99, 40] ++ y217) ++ [41])))) rfl ?_)
                        refine G_nil ?_
                        refine kC_normal ?_
                        refine k_ret ?_
                        refine kB_ret ?_
                        refine kI_ret ?_
                        obtain rfl := Option.some.inj h
                        refine kP_any (endN (af' := (AF.put AF0 (some 4) (.exact (.string (bs (([112, 114, 111, 99, 40] ++ y217) ++ [41])))))) (σ' := []) _ rfl ?_ ⟨rfl, rfl⟩)
                        exact Sub.of_le (AF.le_put (AV.le_eq rfl) (AF.le_top _))
                      · replace h := ite_f h hc
                        refine k_skip ?_
                        refine kB_normal ?_
                        refine kI_normal ⟨h, ?_⟩
                        exact Sub.of_le (AF.le_top _)
  · refine k_seq ?_
    refine k_reg .free hmixP (by kernel_rfl) ?_
    refine G_q rfl (op_assign (av := .exact (.string (bs ([] : List UInt8)))) rfl ?_)
    refine G_nil ?_
    refine kC_normal ?_
    refine k_ret ?_
    obtain rfl := Option.some.inj h
    refine kP_any (endN (af' := (AF.put AF0 (some 4) (.exact (.string (bs ([] : List UInt8)))))) (σ' := []) _ rfl ?_ ⟨rfl, rfl⟩)
    exact Sub.of_le (AF.le_put (AV.le_eq rfl) (AF.le_top _))
set_option maxHeartbeats 4000000 in
theorem m_ref9_Text_S_ok : ∀ n : Nat, (∀ (a0 : List UInt8) (a1 : List (List UInt8)) (r : (List UInt8)), m_ref9_Text_S n a0 a1 = some r → Pure Tryz.prog 13 [(.exact (.string (bs a0))), (.row 1 c_string a1)] (.exact (.string (bs r))))
  | 0 => (fun _ _ _ h => by have h' : (none : Option _) = some _ := h; cases h')
  | n + 1 => by
    have ih := m_ref9_Text_S_ok n
    exact fun a0 a1 r h => m_ref9_Text_F_ok (m_ref9_Text_S n) ih a0 a1 r h
theorem m_ref9_Text_ok (a0 : List UInt8) (a1 : List (List UInt8)) (r : (List UInt8)) (h : m_ref9_Text a0 a1 = some r) : Pure Tryz.prog 13 [(.exact (.string (bs a0))), (.row 1 c_string a1)] (.exact (.string (bs r))) := (m_ref9_Text_S_ok FU) a0 a1 r h
set_option maxHeartbeats 4000000 in
theorem m_law9_ValueTexts_ok (a0 : List UInt8) (a1 : List Int) (a2 : List (List UInt8)) (r : Bool) (h : m_law9_ValueTexts a0 a1 a2 = some r) : Fun Tryz.prog 4 [(.exact (.string (bs a0))), (.row 1 c_int a1), (.row 1 c_string a2)] [tabI] (fun a s => a = .exact (.bool r) ∧ s = [tabI]) := by
  unfold m_law9_ValueTexts at h
  refine fun_of_awp Tryz.func4 rfl Tryz.ntmps4 (by simp) rfl (res1 rfl) fun E hE => k_end ?_
  refine k_seq ?_
  refine k_reg .free hmixP (by kernel_rfl) ?_
  refine G_q rfl (op_assign (av := .exact (.bool false)) rfl ?_)
  refine G_nil ?_
  refine kC_normal ?_
  refine k_seq ?_
  refine k_reg .free hmixP (by kernel_rfl) ?_
  refine G_q rfl (op_move (av := .row 1 c_int a1) rfl ?_)
  obtain ⟨y1, hy1, h⟩ := bnd1_some h
  refine G_l rfl (op_fun_0_1_1 (m_gen_New_ok _ _ hy1) Tryz.func8 (by kernel_rfl) (LEs.cons (AV.le_eq rfl) LEs.nil) (fun b2 => ?_))
  obtain ⟨y3, hy3, h⟩ := bnd1_some h
  refine G_l rfl (op_fun_1_0_1 (m_gen_Choices_Value_ok _ _ _ hy3) Tryz.func9 (by kernel_rfl) (LEs.cons (AV.le_eq rfl) (LEs.cons (AV.le_eq rfl) LEs.nil)) ?_)
  refine G_q rfl (op_assign (av := .exact (.string (bs y3.1))) rfl ?_)
  refine G_nil ?_
  refine kC_normal ?_
  refine k_join1_0 h (fun (x6_j4 : Bool) => (AF.put AF0 (some 6) (.exact (.bool x6_j4)))) (fun (x6_j4 : Bool) => [tabI]) (fun k4 h => ?_) (fun x6_j4 h => ?_)
  · refine k_reg .free hmixP (by kernel_rfl) ?_
    obtain ⟨y12, hy12, h⟩ := bnd1_some h
    refine G_l rfl (opB_f1 (op_fun_1_0_1 (m_law9_awake_ok _ hy12) Tryz.func11 (by kernel_rfl) LEs.nil ?_))
    refine G_q rfl (op_move (av := .exact (.bool y12)) rfl ?_)
    refine G_splitB (c := y12) 12 rfl (fun hc => ?_) (fun hc => ?_)
    · replace h := ite_t h hc
      refine Gy_q rfl rfl rfl (op_move (av := .exact (.string (bs a0))) rfl ?_)
      refine Gy_q rfl rfl rfl (op_move (av := .row 1 c_string a2) rfl ?_)
      obtain ⟨y13, hy13, h⟩ := bnd1_some h
      refine Gy_l rfl rfl rfl (op_fun_1_0_1 (m_value_Text_ok _ _ _ hy13) Tryz.func12 (by kernel_rfl) (LEs.cons (AV.le_eq rfl) (LEs.cons (AV.le_eq rfl) LEs.nil)) ?_)
      refine Gy_q rfl rfl rfl (op_move (av := .exact (.string (bs a0))) rfl ?_)
      refine Gy_q rfl rfl rfl (op_move (av := .row 1 c_string a2) rfl ?_)
      obtain ⟨y14, hy14, h⟩ := bnd1_some h
      refine Gy_q rfl rfl rfl (op_pure (m_ref9_Text_ok _ _ _ hy14) Tryz.func13 (by kernel_rfl) (LEs.cons (AV.le_eq rfl) (LEs.cons (AV.le_eq rfl) LEs.nil)) ?_)
      refine Gy_q rfl rfl rfl (op_eqlS rfl rfl ?_)
      refine G_q rfl (op_pick_t rfl (av := .exact (.bool (decide (y13 = y14)))) rfl ?_)
      refine G_q rfl (op_move (av := .exact (.bool (decide (y13 = y14)))) rfl ?_)
      refine G_split (p := y13 = y14) 21 rfl (fun hc => ?_) (fun hc => ?_)
      · replace h := ite_t h hc
        refine Gy_q rfl rfl rfl (op_move (av := .exact (.string (bs y3.1))) rfl ?_)
        refine Gy_q rfl rfl rfl (op_move (av := .row 1 c_string a2) rfl ?_)
        obtain ⟨y15, hy15, h⟩ := bnd1_some h
        refine Gy_l rfl rfl rfl (op_fun_1_0_1 (m_value_Text_ok _ _ _ hy15) Tryz.func12 (by kernel_rfl) (LEs.cons (AV.le_eq rfl) (LEs.cons (AV.le_eq rfl) LEs.nil)) ?_)
        refine Gy_q rfl rfl rfl (op_move (av := .exact (.string (bs y3.1))) rfl ?_)
        refine Gy_q rfl rfl rfl (op_move (av := .row 1 c_string a2) rfl ?_)
        obtain ⟨y16, hy16, h⟩ := bnd1_some h
        refine Gy_q rfl rfl rfl (op_pure (m_ref9_Text_ok _ _ _ hy16) Tryz.func13 (by kernel_rfl) (LEs.cons (AV.le_eq rfl) (LEs.cons (AV.le_eq rfl) LEs.nil)) ?_)
        refine Gy_q rfl rfl rfl (op_eqlS rfl rfl ?_)
        refine G_q rfl (op_pick_t rfl (av := .exact (.bool (decide (y15 = y16)))) rfl ?_)
        refine G_q rfl (op_move (av := .exact (.bool (decide (y15 = y16)))) rfl ?_)
        refine G_split (p := y15 = y16) 30 rfl (fun hc => ?_) (fun hc => ?_)
        · replace h := ite_t h hc
          refine Gy_q rfl rfl rfl (op_move (av := .exact (.string (bs y3.1))) rfl ?_)
          refine Gy_q rfl rfl rfl (op_litT (n := 1) (enc := c_string) [[97], [98]] (CellsAll.cons rfl CellsOf.str (CellsAll.cons rfl CellsOf.str CellsAll.nil)) rfl (by kernel_rfl) (LEss.cons (LEs.cons (AV.le_eq rfl) LEs.nil) (LEss.cons (LEs.cons (AV.le_eq rfl) LEs.nil) LEss.nil)) ?_)
          obtain ⟨y17, hy17, h⟩ := bnd1_some h
          refine Gy_l rfl rfl rfl (op_fun_1_0_1 (m_value_Text_ok _ _ _ hy17) Tryz.func12 (by kernel_rfl) (LEs.cons (AV.le_eq rfl) (LEs.cons (AV.le_eq rfl) LEs.nil)) ?_)
          refine Gy_q rfl rfl rfl (op_move (av := .exact (.string (bs y3.1))) rfl ?_)
          refine Gy_q rfl rfl rfl (op_litT (n := 1) (enc := c_string) [[97], [98]] (CellsAll.cons rfl CellsOf.str (CellsAll.cons rfl CellsOf.str CellsAll.nil)) rfl (by kernel_rfl) (LEss.cons (LEs.cons (AV.le_eq rfl) LEs.nil) (LEss.cons (LEs.cons (AV.le_eq rfl) LEs.nil) LEss.nil)) ?_)
          obtain ⟨y18, hy18, h⟩ := bnd1_some h
          refine Gy_q rfl rfl rfl (op_pure (m_ref9_Text_ok _ _ _ hy18) Tryz.func13 (by kernel_rfl) (LEs.cons (AV.le_eq rfl) (LEs.cons (AV.le_eq rfl) LEs.nil)) ?_)
          refine Gy_q rfl rfl rfl (op_eqlS rfl rfl ?_)
          refine G_q rfl (op_pick_t rfl (av := .exact (.bool (decide (y17 = y18)))) rfl ?_)
          refine G_q rfl (op_assign (av := .exact (.bool (decide (y17 = y18)))) rfl ?_)
          refine G_nil ?_
          refine kI_normal ⟨_, h, ?_⟩
          refine Sub.trans (SubU.to SubU.f1) ?_
          refine Sub.trans (SubU.to SubU.drop) ?_
          exact Sub.of_le (AF.le_put (AV.le_eq rfl) (AF.le_top _))
        · replace h := ite_f h hc
          refine G_n rfl rfl ?_
          refine G_n rfl rfl ?_
          refine G_n rfl rfl ?_
          refine G_n rfl rfl ?_
          refine G_n rfl rfl ?_
          refine G_n rfl rfl ?_
          refine G_n rfl rfl ?_
          refine G_q rfl (op_pick_f rfl (av := .exact (.bool false)) rfl ?_)
          refine G_q rfl (op_assign (av := .exact (.bool false)) rfl ?_)
          refine G_nil ?_
          refine kI_normal ⟨_, h, ?_⟩
          refine Sub.trans (SubU.to SubU.f1) ?_
          refine Sub.trans (SubU.to SubU.drop) ?_
          exact Sub.of_le (AF.le_put (AV.le_eq rfl) (AF.le_top _))
      · replace h := ite_f h hc
        refine G_n rfl rfl ?_
        refine G_n rfl rfl ?_
        refine G_n rfl rfl ?_
        refine G_n rfl rfl ?_
        refine G_n rfl rfl ?_
        refine G_n rfl rfl ?_
        refine G_n rfl rfl ?_
        refine G_q rfl (op_pick_f rfl (av := .exact (.bool false)) rfl ?_)
        refine G_q rfl (op_move (av := .exact (.bool false)) rfl ?_)
        refine G_n rfl rfl ?_
        refine G_n rfl rfl ?_
        refine G_n rfl rfl ?_
        refine G_n rfl rfl ?_
        refine G_n rfl rfl ?_
        refine G_n rfl rfl ?_
        refine G_n rfl rfl ?_
        refine G_q rfl (op_pick_f rfl (av := .exact (.bool false)) rfl ?_)
        refine G_q rfl (op_assign (av := .exact (.bool false)) rfl ?_)
        refine G_nil ?_
        refine kI_normal ⟨_, h, ?_⟩
        refine Sub.trans (SubU.to SubU.f1) ?_
        refine Sub.trans (SubU.to SubU.drop) ?_
        exact Sub.of_le (AF.le_put (AV.le_eq rfl) (AF.le_top _))
    · replace h := ite_f h hc
      refine G_n rfl rfl ?_
      refine G_n rfl rfl ?_
      refine G_n rfl rfl ?_
      refine G_n rfl rfl ?_
      refine G_n rfl rfl ?_
      refine G_n rfl rfl ?_
      refine G_n rfl rfl ?_
      refine G_q rfl (op_pick_f rfl (av := .exact (.bool false)) rfl ?_)
      refine G_q rfl (op_move (av := .exact (.bool false)) rfl ?_)
      refine G_n rfl rfl ?_
      refine G_n rfl rfl ?_
      refine G_n rfl rfl ?_
      refine G_n rfl rfl ?_
      refine G_n rfl rfl ?_
      refine G_n rfl rfl ?_
      refine G_n rfl rfl ?_
      refine G_q rfl (op_pick_f rfl (av := .exact (.bool false)) rfl ?_)
      refine G_q rfl (op_move (av := .exact (.bool false)) rfl ?_)
      refine G_n rfl rfl ?_
      refine G_n rfl rfl ?_
      refine G_n rfl rfl ?_
      refine G_n rfl rfl ?_
      refine G_n rfl rfl ?_
      refine G_n rfl rfl ?_
      refine G_n rfl rfl ?_
      refine G_q rfl (op_pick_f rfl (av := .exact (.bool false)) rfl ?_)
      refine G_q rfl (op_assign (av := .exact (.bool false)) rfl ?_)
      refine G_nil ?_
      refine kI_normal ⟨_, h, ?_⟩
      refine Sub.trans (SubU.to SubU.f1) ?_
      refine Sub.trans (SubU.to SubU.drop) ?_
      exact Sub.of_le (AF.le_put (AV.le_eq rfl) (AF.le_top _))
  · refine k_ret ?_
    obtain rfl := Option.some.inj h
    refine kP_any (endN (af' := (AF.put AF0 (some 6) (.exact (.bool x6_j4)))) (σ' := [tabI]) _ rfl ?_ ⟨rfl, rfl⟩)
    exact Sub.of_le (AF.le_put (AV.le_eq rfl) (AF.le_top _))
end Go.Proofs.YtdppkpiagdaigaaGreatDoor
