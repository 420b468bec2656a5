/- The functions compute their models, by program. -/
import Derived.Test.YtdppkpiagdaigaaGreatDoorKM6
namespace Go.Proofs.YtdppkpiagdaigaaGreatDoor
open Go.RowKit
attribute [local irreducible] AV.exact AV.top AV.row AV.ptr AV.agg AV.tup AV.eptr AV.fn AV.nilq AV.nilqn opA opB opM opR Quiet Loud Reads wpG awp den Sub SubU Pure Fun vecI vecT boxI CellsAll CellsOf OneC LEs LEss
set_option maxRecDepth 100000

set_option maxHeartbeats 4000000 in
theorem m_value_append16_ok {w0 : Value} (a0 : List UInt8) (a1 : Int) (r : (List UInt8)) (h : m_value_append16 a0 a1 = some r) : Fun Tryz.prog 60 [(.exact w0), (.exact (.int .u16 a1))] [vecT Tryz.prog 60 1 c_uint8 w0 a0] (fun a s => ∃ z0, a = .exact z0 ∧ s = [vecT Tryz.prog 60 1 c_uint8 z0 r]) := by
  unfold m_value_append16 at h
  refine fun_of_awp Tryz.func60 rfl Tryz.ntmps60 (by simp) rfl (res1 rfl) fun E hE => k_end ?_
  refine k_seq ?_
  refine k_reg .free hmixP (by kernel_rfl) ?_
  refine G_q rfl (op_assign (av := .exact (.slice none 0 0)) rfl ?_)
  refine G_nil ?_
  refine kC_normal ?_
  refine k_seq ?_
  refine k_reg .free hmixP (by kernel_rfl) ?_
  refine G_q rfl (op_move (av := .exact w0) rfl ?_)
  refine G_q rfl (op_move (av := .exact (.int .u16 a1)) rfl ?_)
  refine G_q rfl (op_shr rfl rfl (by decide) rfl ?_)
  refine G_q rfl (op_convInt (k := .u8) (r := (UInt8.toNat (u8i (Int.fdiv a1 (2 ^ min (Int.toNat 8) IntKind.u16.bits))) : Int)) (by kernel_rfl) rfl (u8i_eq _) ?_)
  refine G_q rfl (op_move (av := .exact (.int .u16 a1)) rfl ?_)
  refine G_q rfl (op_convInt (k := .u8) (r := (UInt8.toNat (u8i a1) : Int)) (by kernel_rfl) rfl (u8i_eq _) ?_)
  refine G_q rfl (op_litT (n := 1) (enc := c_uint8) [u8i (Int.fdiv a1 (2 ^ min (Int.toNat 8) IntKind.u16.bits)), u8i a1] (CellsAll.cons rfl CellsOf.int (CellsAll.cons rfl CellsOf.int CellsAll.nil)) rfl (by kernel_rfl) (LEss.cons (LEs.cons (AV.le_eq rfl) LEs.nil) (LEss.cons (LEs.cons (AV.le_eq rfl) LEs.nil) LEss.nil)) ?_)
  obtain ⟨n1, h⟩ := need_some h
  refine G_l rfl (op_appT (by kernel_rfl) rfl rfl oc_c_uint8 n1 (fun v2 => ?_))
  refine G_q rfl (op_assign (av := .exact v2) rfl ?_)
  refine G_nil ?_
  refine kC_normal ?_
  refine k_ret ?_
  obtain rfl := Option.some.inj h
  refine kP_any (endN (af' := (AF.put AF0 (some 4) (.exact v2))) (σ' := [vecT Tryz.prog 60 1 c_uint8 v2 (a0 ++ [u8i (Int.fdiv a1 (2 ^ min (Int.toNat 8) IntKind.u16.bits)), u8i a1])]) _ rfl ?_ ⟨v2, rfl, rfl⟩)
  exact Sub.of_le (AF.le_put (AV.le_eq rfl) (AF.le_top _))
set_option maxHeartbeats 4000000 in
theorem m_slices_IndexFunc_L_api_Value_api_Value_ok (a0 : List (List UInt8)) (a1 : (List UInt8) → Option Bool) (r : Int) (h : m_slices_IndexFunc_L_api_Value_api_Value a0 a1 = some r) : Pure Tryz.prog 99 [(.row 1 c_api_Value a0), (.fn Tryz.prog (fun (i : (List UInt8)) => [.exact (.string (bs i))]) (fun (i : (List UInt8)) => a1 i) (fun (r : Bool) => .exact (.bool r)))] (.exact (.int .i64 r)) := by
  unfold m_slices_IndexFunc_L_api_Value_api_Value at h
  refine Pure.ofFun (fun_of_awp Tryz.func99 rfl Tryz.ntmps99 (by simp) rfl (res1 rfl) fun E hE => k_end ?_)
  refine k_seq ?_
  refine k_reg .free hmixP (by kernel_rfl) ?_
  refine G_q rfl (op_assign (av := .exact (.int .i64 0)) rfl ?_)
  refine G_nil ?_
  refine kC_normal ?_
  refine k_join0_0 h (AF0) ([]) (fun k1 h => ?_) (fun  h => ?_)
  · refine k_seq ?_
    refine k_reg .free hmixP (by kernel_rfl) ?_
    refine G_q rfl (op_move (av := .row 1 c_api_Value a0) rfl ?_)
    refine G_q rfl (op_len_row (by kernel_rfl) rfl ?_)
    refine G_q rfl (op_move (av := .exact (.int .i64 0)) rfl ?_)
    refine G_nil ?_
    refine kC_normal ?_
    refine k_block ?_
    refine k_loop1_0 (m_slices_IndexFunc_L_api_Value_api_Value_L2 a0 a1 k1) (m_slices_IndexFunc_L_api_Value_api_Value_B2 a0 a1 k1) (fun _ => rfl) (fun m _ => rfl) h (fun (x8_l2 : Int) => (AF.put (AF.put (AF.put (AF.put AF0 (some 0) (.row 1 c_api_Value a0)) (some 1) (.fn Tryz.prog (fun (i : (List UInt8)) => [.exact (.string (bs i))]) (fun (i : (List UInt8)) => a1 i) (fun (r : Bool) => .exact (.bool r)))) (some 7) (.exact (.int .i64 (List.length a0 : Int)))) (some 8) (.exact (.int .i64 x8_l2)))) (fun (x8_l2 : Int) => []) ?_ (fun rec2 x8_l2 h => ?_)
    · exact Sub.of_le (AF.le_put (AV.le_eq rfl) (AF.le_put (AV.le_eq rfl) (AF.le_put (AV.le_eq rfl) (AF.le_put (AV.le_eq rfl) (AF.le_top _)))))
    · unfold m_slices_IndexFunc_L_api_Value_api_Value_B2 at h
      refine k_seq ?_
      refine k_reg .free hmixP (by kernel_rfl) ?_
      refine G_q rfl (op_lss rfl rfl ?_)
      refine G_nil ?_
      refine kC_normal ?_
      refine k_seq ?_
      refine k_cond_d (p := x8_l2 < (List.length a0 : Int)) rfl (fun hc => ?_) (fun hc => ?_)
      · replace h := ite_t h hc
        refine k_skip ?_
        refine kC_normal ?_
        refine k_seq ?_
        refine k_block ?_
        refine k_seq ?_
        refine k_reg .free hmixP (by kernel_rfl) ?_
        refine G_q rfl (op_move (av := .exact (.int .i64 x8_l2)) rfl ?_)
        refine G_q rfl (op_assign (av := .exact (.int .i64 x8_l2)) rfl ?_)
        refine G_nil ?_
        refine kC_normal ?_
        refine k_seq ?_
        refine k_reg .free hmixP (by kernel_rfl) ?_
        refine G_q rfl (op_move (av := .fn Tryz.prog (fun (i : (List UInt8)) => [.exact (.string (bs i))]) (fun (i : (List UInt8)) => a1 i) (fun (r : Bool) => .exact (.bool r))) rfl ?_)
        refine G_q rfl (op_move (av := .row 1 c_api_Value a0) rfl ?_)
        refine G_q rfl (op_move (av := .exact (.int .i64 x8_l2)) rfl ?_)
        obtain ⟨n13, h⟩ := need_some h
        refine G_q rfl (op_index_row (by kernel_rfl) rfl rfl n13.1 n13.2 ?_)
        refine G_q rfl (op_load1p (a := .exact (.string (bs (gi a0 x8_l2)))) (by kernel_rfl) rfl rfl ?_)
        obtain ⟨y14, hy14, h⟩ := bnd1_some h
        refine G_q rfl (op_callfn (gi a0 x8_l2) rfl hy14 (LEs.cons (AV.le_eq rfl) LEs.nil) ?_)
        refine G_nil ?_
        refine kC_normal ?_
        refine k_cond_b (c := y14) rfl (fun hc => ?_) (fun hc => ?_)
        · replace h := ite_t h hc
          refine k_seq ?_
          refine k_reg .free hmixP (by kernel_rfl) ?_
          refine G_q rfl (op_move (av := .exact (.int .i64 x8_l2)) rfl ?_)
          refine G_q rfl (op_assign (av := .exact (.int .i64 x8_l2)) rfl ?_)
          refine G_nil ?_
          refine kC_normal ?_
          refine k_ret ?_
          refine kB_ret ?_
          refine kC_ret ?_
          refine kI_ret ?_
          refine kB_ret ?_
          refine kI_ret ?_
          obtain rfl := Option.some.inj h
          refine kP_any (endN (af' := (AF.put AF0 (some 4) (.exact (.int .i64 x8_l2)))) (σ' := []) _ rfl ?_ ⟨rfl, rfl⟩)
          exact Sub.of_le (AF.le_put (AV.le_eq rfl) (AF.le_top _))
        · replace h := ite_f h hc
          refine k_skip ?_
          refine kB_normal ?_
          refine kC_normal ?_
          refine k_reg .free hmixP (by kernel_rfl) ?_
          refine G_q rfl (op_add rfl rfl rfl ?_)
          refine G_q rfl (op_move (av := .exact (.int .i64 (i64 (x8_l2 + 1)))) rfl ?_)
          refine G_nil ?_
          refine kI_normal ⟨_, h, ?_⟩
          exact Sub.of_le (AF.le_put (AV.le_eq rfl) (AF.le_put (AV.le_eq rfl) (AF.le_put (AV.le_eq rfl) (AF.le_put (AV.le_eq rfl) (AF.le_top _)))))
      · replace h := ite_f h hc
        refine k_exit ?_
        refine kC_exit ?_
        refine kI_exit ?_
        refine kB_exit ?_
        refine kI_normal ⟨h, ?_⟩
        exact Sub.of_le (AF.le_top _)
  · refine k_seq ?_
    refine k_reg .free hmixP (by kernel_rfl) ?_
    refine G_q rfl (op_assign (av := .exact (.int .i64 (-1))) rfl ?_)
    refine G_nil ?_
    refine kC_normal ?_
    refine k_ret ?_
    obtain rfl := Option.some.inj h
    refine kP_any (endN (af' := (AF.put AF0 (some 4) (.exact (.int .i64 (-1))))) (σ' := []) _ rfl ?_ ⟨rfl, rfl⟩)
    exact Sub.of_le (AF.le_put (AV.le_eq rfl) (AF.le_top _))
set_option maxHeartbeats 4000000 in
theorem m_slices_ContainsFunc_L_api_Value_api_Value_ok (a0 : List (List UInt8)) (a1 : (List UInt8) → Option Bool) (r : Bool) (h : m_slices_ContainsFunc_L_api_Value_api_Value a0 a1 = some r) : Pure Tryz.prog 77 [(.row 1 c_api_Value a0), (.fn Tryz.prog (fun (i : (List UInt8)) => [.exact (.string (bs i))]) (fun (i : (List UInt8)) => a1 i) (fun (r : Bool) => .exact (.bool r)))] (.exact (.bool r)) := by
  unfold m_slices_ContainsFunc_L_api_Value_api_Value at h
  refine Pure.ofFun (fun_of_awp Tryz.func77 rfl Tryz.ntmps77 (by simp) rfl (res1 rfl) fun E hE => k_end ?_)
  refine k_seq ?_
  refine k_reg .free hmixP (by kernel_rfl) ?_
  refine G_q rfl (op_assign (av := .exact (.bool false)) rfl ?_)
  refine G_nil ?_
  refine kC_normal ?_
  refine k_seq ?_
  refine k_reg .free hmixP (by kernel_rfl) ?_
  refine G_q rfl (op_move (av := .row 1 c_api_Value a0) rfl ?_)
  refine G_q rfl (op_move (av := .fn Tryz.prog (fun (i : (List UInt8)) => [.exact (.string (bs i))]) (fun (i : (List UInt8)) => a1 i) (fun (r : Bool) => .exact (.bool r))) rfl ?_)
  obtain ⟨y1, hy1, h⟩ := bnd1_some h
  refine G_q rfl (op_pure (m_slices_IndexFunc_L_api_Value_api_Value_ok _ _ _ hy1) Tryz.func99 (by kernel_rfl) (LEs.cons (AV.le_eq rfl) (LEs.cons (AV.le_eq rfl) LEs.nil)) ?_)
  refine G_q rfl (op_geq rfl rfl ?_)
  refine G_q rfl (op_assign (av := .exact (.bool (decide (0 ≤ y1)))) rfl ?_)
  refine G_nil ?_
  refine kC_normal ?_
  refine k_ret ?_
  obtain rfl := Option.some.inj h
  refine kP_any (endN (af' := (AF.put AF0 (some 4) (.exact (.bool (decide (0 ≤ y1)))))) (σ' := []) _ rfl ?_ ⟨rfl, rfl⟩)
  exact Sub.of_le (AF.le_put (AV.le_eq rfl) (AF.le_top _))
set_option maxHeartbeats 4000000 in
theorem m_value_compound_1_ok (a0 : List UInt8) (r : Bool) (h : m_value_compound_1 a0 = some r) : Pure Tryz.prog 78 [(.exact (.string (bs a0)))] (.exact (.bool r)) := by
  unfold m_value_compound_1 at h
  refine Pure.ofFun (fun_of_awp Tryz.func78 rfl Tryz.ntmps78 (by simp) rfl (res1 rfl) fun E hE => k_end ?_)
  refine k_seq ?_
  refine k_reg .free hmixP (by kernel_rfl) ?_
  refine G_q rfl (op_assign (av := .exact (.bool false)) rfl ?_)
  refine G_nil ?_
  refine kC_normal ?_
  refine k_seq ?_
  refine k_reg .free hmixP (by kernel_rfl) ?_
  refine G_q rfl (op_move (av := .exact (.string (bs a0))) rfl ?_)
  obtain ⟨y1, hy1, h⟩ := bnd1_some h
  refine G_q rfl (op_pure (m_value_Valid_ok _ _ hy1) Tryz.func43 (by kernel_rfl) (LEs.cons (AV.le_eq rfl) LEs.nil) ?_)
  refine G_q rfl (op_not rfl ?_)
  refine G_q rfl (op_assign (av := .exact (.bool (!y1))) rfl ?_)
  refine G_nil ?_
  refine kC_normal ?_
  refine k_ret ?_
  obtain rfl := Option.some.inj h
  refine kP_any (endN (af' := (AF.put AF0 (some 2) (.exact (.bool (!y1))))) (σ' := []) _ rfl ?_ ⟨rfl, rfl⟩)
  exact Sub.of_le (AF.le_put (AV.le_eq rfl) (AF.le_top _))
set_option maxHeartbeats 4000000 in
theorem m_value_checked_ok (a0 : List UInt8) (r : (List UInt8)) (h : m_value_checked a0 = some r) : Pure Tryz.prog 79 [(.row 1 c_uint8 a0)] (.exact (.string (bs r))) := by
  unfold m_value_checked at h
  refine Pure.ofFun (fun_of_awp Tryz.func79 rfl Tryz.ntmps79 (by simp) rfl (res1 rfl) fun E hE => k_end ?_)
  refine k_seq ?_
  refine k_reg .free hmixP (by kernel_rfl) ?_
  refine G_q rfl (op_assign (av := .exact (.string (bs ([] : List UInt8)))) rfl ?_)
  refine G_nil ?_
  refine kC_normal ?_
  refine k_seq ?_
  refine k_seq ?_
  refine k_reg .free hmixP (by kernel_rfl) ?_
  refine G_q rfl (op_move (av := .row 1 c_uint8 a0) rfl ?_)
  refine G_q rfl (op_bytesS rfl (by kernel_rfl) rfl ?_)
  obtain ⟨y1, hy1, h⟩ := bnd1_some h
  refine G_q rfl (op_pure (m_value_Valid_ok _ _ hy1) Tryz.func43 (by kernel_rfl) (LEs.cons (AV.le_eq rfl) LEs.nil) ?_)
  refine G_q rfl (op_not rfl ?_)
  refine G_nil ?_
  refine kC_normal ?_
  refine k_cond_b (c := !y1) rfl (fun hc => ?_) (fun hc => ?_)
  · replace h := ite_t h hc
    refine k_seq ?_
    refine k_reg .free hmixP (by kernel_rfl) ?_
    refine G_q rfl (op_assign (av := .exact (.string (bs ([] : List UInt8)))) rfl ?_)
    refine G_nil ?_
    refine kC_normal ?_
    refine k_ret ?_
    refine kC_ret ?_
    obtain rfl := Option.some.inj h
    refine kP_any (endN (af' := (AF.put AF0 (some 2) (.exact (.string (bs ([] : List UInt8)))))) (σ' := []) _ rfl ?_ ⟨rfl, rfl⟩)
    exact Sub.of_le (AF.le_put (AV.le_eq rfl) (AF.le_top _))
  · replace h := ite_f h hc
    refine k_skip ?_
    refine kC_normal ?_
    refine k_seq ?_
    refine k_reg .free hmixP (by kernel_rfl) ?_
    refine G_q rfl (op_move (av := .row 1 c_uint8 a0) rfl ?_)
    refine G_q rfl (op_bytesS rfl (by kernel_rfl) rfl ?_)
    refine G_q rfl (op_assign (av := .exact (.string (bs a0))) rfl ?_)
    refine G_nil ?_
    refine kC_normal ?_
    refine k_ret ?_
    obtain rfl := Option.some.inj h
    refine kP_any (endN (af' := (AF.put AF0 (some 2) (.exact (.string (bs a0))))) (σ' := []) _ rfl ?_ ⟨rfl, rfl⟩)
    exact Sub.of_le (AF.le_put (AV.le_eq rfl) (AF.le_top _))
set_option maxHeartbeats 4000000 in
theorem m_value_compound_ok (a0 : Int) (a1 : List (List UInt8)) (r : (List UInt8)) (h : m_value_compound a0 a1 = some r) : Pure Tryz.prog 52 [(.exact (.int .i64 a0)), (.row 1 c_api_Value a1)] (.exact (.string (bs r))) := by
  unfold m_value_compound at h
  refine Pure.ofFun (fun_of_awp Tryz.func52 rfl Tryz.ntmps52 (by simp) rfl (res1 rfl) fun E hE => k_end ?_)
  refine k_seq ?_
  refine k_reg .free hmixP (by kernel_rfl) ?_
  refine G_q rfl (op_assign (av := .exact (.string (bs ([] : List UInt8)))) rfl ?_)
  refine G_nil ?_
  refine kC_normal ?_
  refine k_seq ?_
  refine k_seq ?_
  refine k_reg .free hmixP (by kernel_rfl) ?_
  refine G_q rfl (op_move (av := .row 1 c_api_Value a1) rfl ?_)
  refine G_q rfl (op_len_row (by kernel_rfl) rfl ?_)
  refine G_q rfl (op_gtr rfl rfl ?_)
  refine G_nil ?_
  refine kC_normal ?_
  refine k_cond_d (p := 65535 < (List.length a1 : Int)) rfl (fun hc => ?_) (fun hc => ?_)
  · replace h := ite_t h hc
    refine k_seq ?_
    refine k_reg .free hmixP (by kernel_rfl) ?_
    refine G_q rfl (op_assign (av := .exact (.string (bs ([] : List UInt8)))) rfl ?_)
    refine G_nil ?_
    refine kC_normal ?_
    refine k_ret ?_
    refine kC_ret ?_
    obtain rfl := Option.some.inj h
    refine kP_any (endN (af' := (AF.put AF0 (some 4) (.exact (.string (bs ([] : List UInt8)))))) (σ' := []) _ rfl ?_ ⟨rfl, rfl⟩)
    exact Sub.of_le (AF.le_put (AV.le_eq rfl) (AF.le_top _))
  · replace h := ite_f h hc
    refine k_skip ?_
    refine kC_normal ?_
    refine k_seq ?_
    refine k_reg .free hmixP (by kernel_rfl) ?_
    refine G_q rfl (op_move (av := .exact (.int .i64 a0)) rfl ?_)
    refine G_q rfl (op_convInt (k := .u8) (r := (UInt8.toNat (u8i a0) : Int)) (by kernel_rfl) rfl (u8i_eq _) ?_)
    refine G_l rfl (op_litI (n := 1) (enc := c_uint8) [u8i a0] (by kernel_rfl) (CellsAll.cons rfl CellsOf.int CellsAll.nil) rfl (by kernel_rfl) (LEss.cons (LEs.cons (AV.le_eq rfl) LEs.nil) LEss.nil) (fun v1 => ?_))
    refine G_q rfl (op_move (av := .row 1 c_api_Value a1) rfl ?_)
    refine G_q rfl (op_len_row (by kernel_rfl) rfl ?_)
    refine G_q rfl (op_convInt (k := .u16) (by kernel_rfl) rfl rfl ?_)
    obtain ⟨y2, hy2, h⟩ := bnd1_some h
    refine G_l rfl (op_fun_1_1_1 (m_value_append16_ok _ _ _ hy2) Tryz.func60 (by kernel_rfl) (LEs.cons (AV.le_eq rfl) (LEs.cons (AV.le_eq rfl) LEs.nil)) (fun v3 => ?_))
    refine G_q rfl (op_assign (av := .exact v3) rfl ?_)
    refine G_nil ?_
    refine kC_normal ?_
    refine k_join1_1 h (fun (x5_j4 : List UInt8) (v5_j4 : Value) => (AF.put (AF.put AF0 (some 1) (.row 1 c_api_Value a1)) (some 5) (.exact v5_j4))) (fun (x5_j4 : List UInt8) (v5_j4 : Value) => [vecT Tryz.prog 60 1 c_uint8 v5_j4 x5_j4]) (fun k4 h => ?_) (fun x5_j4 v5_j4 h => ?_)
    · refine k_seq ?_
      refine k_reg .free hmixP (by kernel_rfl) ?_
      refine G_q rfl (op_move (av := .row 1 c_api_Value a1) rfl ?_)
      refine G_q rfl (op_len_row (by kernel_rfl) rfl ?_)
      refine G_q rfl (op_move (av := .exact (.int .i64 0)) rfl ?_)
      refine G_nil ?_
      refine kC_normal ?_
      refine k_block ?_
      refine k_loop2_1 (m_value_compound_L2 a1 k4) (m_value_compound_B2 a1 k4) (fun _ _ => rfl) (fun m _ _ => rfl) h (fun (x5_l2 : List UInt8) (x20_l2 : Int) (v5_l2 : Value) => (AF.put (AF.put (AF.put (AF.put (AF.put AF0 (some 1) (.row 1 c_api_Value a1)) (some 5) (.exact v5_l2)) (some 18) (.row 1 c_api_Value a1)) (some 19) (.exact (.int .i64 (List.length a1 : Int)))) (some 20) (.exact (.int .i64 x20_l2)))) (fun (x5_l2 : List UInt8) (x20_l2 : Int) (v5_l2 : Value) => [vecT Tryz.prog 60 1 c_uint8 v5_l2 x5_l2]) v3 ?_ (fun rec2 x5_l2 x20_l2 v5_l2 h => ?_)
      · exact Sub.of_le (AF.le_put (AV.le_eq rfl) (AF.le_put (AV.le_eq rfl) (AF.le_put (AV.le_eq rfl) (AF.le_put (AV.le_eq rfl) (AF.le_put (AV.le_eq rfl) (AF.le_top _))))))
      · unfold m_value_compound_B2 at h
        refine k_seq ?_
        refine k_reg .free hmixP (by kernel_rfl) ?_
        refine G_q rfl (op_lss rfl rfl ?_)
        refine G_nil ?_
        refine kC_normal ?_
        refine k_seq ?_
        refine k_cond_d (p := x20_l2 < (List.length a1 : Int)) rfl (fun hc => ?_) (fun hc => ?_)
        · replace h := ite_t h hc
          refine k_skip ?_
          refine kC_normal ?_
          refine k_seq ?_
          refine k_block ?_
          refine k_seq ?_
          refine k_reg .free hmixP (by kernel_rfl) ?_
          obtain ⟨n78, h⟩ := need_some h
          refine G_q rfl (op_index_row (by kernel_rfl) rfl rfl n78.1 n78.2 ?_)
          refine G_q rfl (op_load1p (a := .exact (.string (bs (gi a1 x20_l2)))) (by kernel_rfl) rfl rfl ?_)
          refine G_q rfl (op_assign (av := .exact (.string (bs (gi a1 x20_l2)))) rfl ?_)
          refine G_nil ?_
          refine kC_normal ?_
          refine k_seq ?_
          refine k_join1_0 h (fun (x33_j81 : Bool) => (AF.put (AF.put (AF.put (AF.put (AF.put (AF.put (AF.put AF0 (some 1) (.row 1 c_api_Value a1)) (some 5) (.exact v5_l2)) (some 7) (.exact (.string (bs (gi a1 x20_l2))))) (some 18) (.row 1 c_api_Value a1)) (some 19) (.exact (.int .i64 (List.length a1 : Int)))) (some 20) (.exact (.int .i64 x20_l2))) (some 33) (.exact (.bool x33_j81)))) (fun (x33_j81 : Bool) => [vecT Tryz.prog 60 1 c_uint8 v5_l2 x5_l2]) (fun k81 h => ?_) (fun x33_j81 h => ?_)
          · refine k_reg .free hmixP (by kernel_rfl) ?_
            refine G_q rfl (op_move (av := .exact (.string (bs (gi a1 x20_l2)))) rfl ?_)
            refine G_q rfl (op_eqlS rfl rfl ?_)
            refine G_q rfl (op_move (av := .exact (.bool (decide ((gi a1 x20_l2) = ([] : List UInt8))))) rfl ?_)
            refine G_split (p := (gi a1 x20_l2) = ([] : List UInt8)) 26 rfl (fun hc => ?_) (fun hc => ?_)
            · replace h := ite_t h hc
              refine G_n rfl rfl ?_
              refine G_n rfl rfl ?_
              refine G_n rfl rfl ?_
              refine G_n rfl rfl ?_
              refine G_n rfl rfl ?_
              refine G_n rfl rfl ?_
              refine G_q rfl (op_pick_t rfl (av := .exact (.bool true)) rfl ?_)
              refine G_nil ?_
              refine kI_normal ⟨_, h, ?_⟩
              exact Sub.of_le (AF.le_put (AV.le_eq rfl) (AF.le_put (AV.le_eq rfl) (AF.le_put (AV.le_eq rfl) (AF.le_put (AV.le_eq rfl) (AF.le_put (AV.le_eq rfl) (AF.le_put (AV.le_eq rfl) (AF.le_put (AV.le_eq rfl) (AF.le_top _))))))))
            · replace h := ite_f h hc
              refine Gy_q rfl rfl rfl (op_move (av := .exact v5_l2) rfl ?_)
              refine Gy_r rfl rfl rfl (op_len_vec (by kernel_rfl) rfl ?_)
              refine Gy_q rfl rfl rfl (op_move (av := .exact (.string (bs (gi a1 x20_l2)))) rfl ?_)
              refine Gy_q rfl rfl rfl (op_lenS (by kernel_rfl) rfl ?_)
              refine Gy_q rfl rfl rfl (op_add rfl rfl rfl ?_)
              refine Gy_q rfl rfl rfl (op_gtr rfl rfl ?_)
              refine G_q rfl (op_pick_f rfl (av := .exact (.bool (decide (131072 < (i64 ((List.length x5_l2 : Int) + (List.length (gi a1 x20_l2) : Int))))))) rfl ?_)
              refine G_nil ?_
              refine kI_normal ⟨_, h, ?_⟩
              exact Sub.of_le (AF.le_put (AV.le_eq rfl) (AF.le_put (AV.le_eq rfl) (AF.le_put (AV.le_eq rfl) (AF.le_put (AV.le_eq rfl) (AF.le_put (AV.le_eq rfl) (AF.le_put (AV.le_eq rfl) (AF.le_put (AV.le_eq rfl) (AF.le_top _))))))))
          · refine k_cond_b (c := x33_j81) rfl (fun hc => ?_) (fun hc => ?_)
            · replace h := ite_t h hc
              refine k_seq ?_
              refine k_reg .free hmixP (by kernel_rfl) ?_
              refine G_q rfl (op_assign (av := .exact (.string (bs ([] : List UInt8)))) rfl ?_)
              refine G_nil ?_
              refine kC_normal ?_
              refine k_ret ?_
              refine kC_ret ?_
              refine kB_ret ?_
              refine kC_ret ?_
              refine kI_ret ?_
              refine kB_ret ?_
              refine kI_ret ?_
              obtain rfl := Option.some.inj h
              refine kP_any (endN (af' := (AF.put AF0 (some 4) (.exact (.string (bs ([] : List UInt8)))))) (σ' := []) _ rfl ?_ ⟨rfl, rfl⟩)
              refine Sub.trans (SubU.to SubU.drop) ?_
              exact Sub.of_le (AF.le_put (AV.le_eq rfl) (AF.le_top _))
            · replace h := ite_f h hc
              refine k_skip ?_
              refine kC_normal ?_
              refine k_reg .free hmixP (by kernel_rfl) ?_
              refine G_q rfl (op_move (av := .exact v5_l2) rfl ?_)
              refine G_q rfl (op_move (av := .exact (.string (bs (gi a1 x20_l2)))) rfl ?_)
              obtain ⟨n82, h⟩ := need_some h
              refine G_l rfl (op_appTS (fun _ => rfl) (by kernel_rfl) (by kernel_rfl) (by kernel_rfl) (by kernel_rfl) rfl rfl n82 (fun v83 => ?_))
              refine G_q rfl (op_assign (av := .exact v83) rfl ?_)
              refine G_nil ?_
              refine kB_normal ?_
              refine kC_normal ?_
              refine k_reg .free hmixP (by kernel_rfl) ?_
              refine G_q rfl (op_add rfl rfl rfl ?_)
              refine G_q rfl (op_move (av := .exact (.int .i64 (i64 (x20_l2 + 1)))) rfl ?_)
              refine G_nil ?_
              refine kI_normal ⟨_, _, v83, h, ?_⟩
              exact Sub.of_le (AF.le_put (AV.le_eq rfl) (AF.le_put (AV.le_eq rfl) (AF.le_put (AV.le_eq rfl) (AF.le_put (AV.le_eq rfl) (AF.le_put (AV.le_eq rfl) (AF.le_top _))))))
        · replace h := ite_f h hc
          refine k_exit ?_
          refine kC_exit ?_
          refine kI_exit ?_
          refine kB_exit ?_
          refine kI_normal ⟨_, v5_l2, h, ?_⟩
          exact Sub.of_le (AF.le_put (AV.le_eq rfl) (AF.le_put (AV.le_eq rfl) (AF.le_top _)))
    · refine k_seq ?_
      refine k_seq ?_
      refine k_reg .free hmixP (by kernel_rfl) ?_
      refine G_q rfl (op_move (av := .row 1 c_api_Value a1) rfl ?_)
      obtain ⟨y84, hy84, h⟩ := bnd1_some h
      refine G_q rfl (op_pure (m_slices_ContainsFunc_L_api_Value_api_Value_ok _ _ _ hy84) Tryz.func77 (by kernel_rfl) (LEs.cons (AV.le_eq rfl) (LEs.cons ((fn_le Tryz.func78 (by kernel_rfl) (fun i r h => m_value_compound_1_ok i r h))) LEs.nil)) ?_)
      refine G_q rfl (op_not rfl ?_)
      refine G_nil ?_
      refine kC_normal ?_
      refine k_cond_b (c := !y84) rfl (fun hc => ?_) (fun hc => ?_)
      · replace h := ite_t h hc
        refine k_seq ?_
        refine k_reg .free hmixP (by kernel_rfl) ?_
        refine G_q rfl (op_move (av := .exact v5_j4) rfl ?_)
        refine G_sub rfl (SubU.freezeT2 (s1 := 5) (s2 := 41) rfl rfl len_c_uint8) ?_
        obtain ⟨y85, hy85, h⟩ := bnd1_some h
        refine G_q rfl (op_pure (m_value_checked_ok _ _ hy85) Tryz.func79 (by kernel_rfl) (LEs.cons (AV.le_eq rfl) LEs.nil) ?_)
        refine G_q rfl (op_assign (av := .exact (.string (bs y85))) rfl ?_)
        refine G_nil ?_
        refine kC_normal ?_
        refine k_ret ?_
        refine kC_ret ?_
        obtain rfl := Option.some.inj h
        refine kP_any (endN (af' := (AF.put AF0 (some 4) (.exact (.string (bs y85))))) (σ' := []) _ rfl ?_ ⟨rfl, rfl⟩)
        exact Sub.of_le (AF.le_put (AV.le_eq rfl) (AF.le_top _))
      · replace h := ite_f h hc
        refine k_skip ?_
        refine kC_normal ?_
        refine k_seq ?_
        refine k_reg .free hmixP (by kernel_rfl) ?_
        refine G_q rfl (op_assign (av := .exact (.string (bs ([] : List UInt8)))) rfl ?_)
        refine G_nil ?_
        refine kC_normal ?_
        refine k_ret ?_
        obtain rfl := Option.some.inj h
        refine kP_any (endN (af' := (AF.put AF0 (some 4) (.exact (.string (bs ([] : List UInt8)))))) (σ' := []) _ rfl ?_ ⟨rfl, rfl⟩)
        refine Sub.trans (SubU.to SubU.drop) ?_
        exact Sub.of_le (AF.le_put (AV.le_eq rfl) (AF.le_top _))
set_option maxHeartbeats 4000000 in
theorem m_value_Set_ok (a0 : List (List UInt8)) (r : (List UInt8)) (h : m_value_Set a0 = some r) : Pure Tryz.prog 16 [(.row 1 c_api_Value a0)] (.exact (.string (bs r))) := by
  unfold m_value_Set at h
  refine Pure.ofFun (fun_of_awp Tryz.func16 rfl Tryz.ntmps16 (by simp) rfl (res1 rfl) fun E hE => k_end ?_)
  refine k_seq ?_
  refine k_reg .free hmixP (by kernel_rfl) ?_
  refine G_q rfl (op_assign (av := .exact (.string (bs ([] : List UInt8)))) rfl ?_)
  refine G_nil ?_
  refine kC_normal ?_
  refine k_seq ?_
  refine k_reg .free hmixP (by kernel_rfl) ?_
  refine G_q rfl (op_move (av := .row 1 c_api_Value a0) rfl ?_)
  obtain ⟨y1, hy1, h⟩ := bnd1_some h
  refine G_q rfl (op_pure (m_value_Sort_ok _ _ hy1) Tryz.func53 (by kernel_rfl) (LEs.cons (AV.le_eq rfl) LEs.nil) ?_)
  obtain ⟨y2, hy2, h⟩ := bnd1_some h
  refine G_q rfl (op_pure (m_value_compound_ok _ _ _ hy2) Tryz.func52 (by kernel_rfl) (LEs.cons (AV.le_eq rfl) (LEs.cons (AV.le_eq rfl) LEs.nil)) ?_)
  refine G_q rfl (op_assign (av := .exact (.string (bs y2))) rfl ?_)
  refine G_nil ?_
  refine kC_normal ?_
  refine k_ret ?_
  obtain rfl := Option.some.inj h
  refine kP_any (endN (af' := (AF.put AF0 (some 2) (.exact (.string (bs y2))))) (σ' := []) _ rfl ?_ ⟨rfl, rfl⟩)
  exact Sub.of_le (AF.le_put (AV.le_eq rfl) (AF.le_top _))
set_option maxHeartbeats 4000000 in
theorem m_value_Kind_ok (a0 : List UInt8) (r : Int) (h : m_value_Kind a0 = some r) : Pure Tryz.prog 21 [(.exact (.string (bs a0)))] (.exact (.int .i64 r)) := by
  unfold m_value_Kind at h
  refine Pure.ofFun (fun_of_awp Tryz.func21 rfl Tryz.ntmps21 (by simp) rfl (res1 rfl) fun E hE => k_end ?_)
  refine k_seq ?_
  refine k_reg .free hmixP (by kernel_rfl) ?_
  refine G_q rfl (op_assign (av := .exact (.int .i64 0)) rfl ?_)
  refine G_nil ?_
  refine kC_normal ?_
  refine k_seq ?_
  refine k_seq ?_
  refine k_reg .free hmixP (by kernel_rfl) ?_
  refine G_q rfl (op_move (av := .exact (.string (bs a0))) rfl ?_)
  obtain ⟨y1, hy1, h⟩ := bnd1_some h
  refine G_q rfl (op_pure (m_value_Valid_ok _ _ hy1) Tryz.func43 (by kernel_rfl) (LEs.cons (AV.le_eq rfl) LEs.nil) ?_)
  refine G_q rfl (op_not rfl ?_)
  refine G_nil ?_
  refine kC_normal ?_
  refine k_cond_b (c := !y1) rfl (fun hc => ?_) (fun hc => ?_)
  · replace h := ite_t h hc
    refine k_seq ?_
    refine k_reg .free hmixP (by kernel_rfl) ?_
    refine G_q rfl (op_assign (av := .exact (.int .i64 0)) rfl ?_)
    refine G_nil ?_
    refine kC_normal ?_
    refine k_ret ?_
    refine kC_ret ?_
    obtain rfl := Option.some.inj h
    refine kP_any (endN (af' := (AF.put AF0 (some 2) (.exact (.int .i64 0)))) (σ' := []) _ rfl ?_ ⟨rfl, rfl⟩)
    exact Sub.of_le (AF.le_put (AV.le_eq rfl) (AF.le_top _))
  · replace h := ite_f h hc
    refine k_skip ?_
    refine kC_normal ?_
    refine k_seq ?_
    refine k_reg .free hmixP (by kernel_rfl) ?_
    refine G_q rfl (op_move (av := .exact (.string (bs a0))) rfl ?_)
    obtain ⟨n2, h⟩ := need_some h
    refine G_q rfl (op_index_str (by kernel_rfl) rfl rfl n2.1 n2.2 ?_)
    refine G_q rfl (op_convInt (k := .i64) (r := (UInt8.toNat (gi a0 0) : Int)) (by kernel_rfl) rfl (wrap_u8 rfl _) ?_)
    refine G_q rfl (op_assign (av := .exact (.int .i64 (UInt8.toNat (gi a0 0) : Int))) rfl ?_)
    refine G_nil ?_
    refine kC_normal ?_
    refine k_ret ?_
    obtain rfl := Option.some.inj h
    refine kP_any (endN (af' := (AF.put AF0 (some 2) (.exact (.int .i64 (UInt8.toNat (gi a0 0) : Int))))) (σ' := []) _ rfl ?_ ⟨rfl, rfl⟩)
    exact Sub.of_le (AF.le_put (AV.le_eq rfl) (AF.le_top _))
set_option maxHeartbeats 4000000 in
theorem m_value_Parts_ok (a0 : List UInt8) (r : (List (List UInt8))) (h : m_value_Parts a0 = some r) : Pure Tryz.prog 23 [(.exact (.string (bs a0)))] (.row 1 c_api_Value r) := by
  unfold m_value_Parts at h
  refine Pure.ofFun (fun_of_awp Tryz.func23 rfl Tryz.ntmps23 (by simp) rfl (res1 rfl) fun E hE => k_end ?_)
  refine k_seq ?_
  refine k_reg .free hmixP (by kernel_rfl) ?_
  refine G_q rfl (op_assign (av := .exact (.slice none 0 0)) rfl ?_)
  refine G_nil ?_
  refine kC_normal ?_
  refine k_seq ?_
  refine k_seq ?_
  refine k_reg .free hmixP (by kernel_rfl) ?_
  refine G_q rfl (op_move (av := .exact (.string (bs a0))) rfl ?_)
  obtain ⟨y1, hy1, h⟩ := bnd1_some h
  refine G_q rfl (op_pure (m_value_Kind_ok _ _ hy1) Tryz.func21 (by kernel_rfl) (LEs.cons (AV.le_eq rfl) LEs.nil) ?_)
  obtain ⟨y2, hy2, h⟩ := bnd1_some h
  refine G_q rfl (op_pure (m_value_simple_ok _ _ hy2) Tryz.func54 (by kernel_rfl) (LEs.cons (AV.le_eq rfl) LEs.nil) ?_)
  refine G_nil ?_
  refine kC_normal ?_
  refine k_cond_b (c := y2) rfl (fun hc => ?_) (fun hc => ?_)
  · replace h := ite_t h hc
    refine k_seq ?_
    refine k_reg .free hmixP (by kernel_rfl) ?_
    refine G_q rfl (op_assign (av := .exact (.slice none 0 0)) rfl ?_)
    refine G_nil ?_
    refine kC_normal ?_
    refine k_ret ?_
    refine kC_ret ?_
    obtain rfl := Option.some.inj h
    refine kP_any (endN (af' := (AF.put AF0 (some 2) (.row 1 c_api_Value []))) (σ' := []) _ rfl ?_ ⟨rfl, rfl⟩)
    exact Sub.of_le (AF.le_put (row_nil (by decide)) (AF.le_top _))
  · replace h := ite_f h hc
    refine k_skip ?_
    refine kC_normal ?_
    refine k_seq ?_
    refine k_reg .free hmixP (by kernel_rfl) ?_
    refine G_q rfl (op_move (av := .exact (.string (bs a0))) rfl ?_)
    obtain ⟨y3, hy3, h⟩ := bnd1_some h
    refine G_q rfl (op_pure (m_value_parts_ok _ _ hy3) Tryz.func55 (by kernel_rfl) (LEs.cons (AV.le_eq rfl) LEs.nil) ?_)
    refine G_q rfl (op_assign (av := .row 1 c_api_Value y3) rfl ?_)
    refine G_nil ?_
    refine kC_normal ?_
    refine k_ret ?_
    obtain rfl := Option.some.inj h
    refine kP_any (endN (af' := (AF.put AF0 (some 2) (.row 1 c_api_Value y3))) (σ' := []) _ rfl ?_ ⟨rfl, rfl⟩)
    exact Sub.of_le (AF.le_put (AV.le_eq rfl) (AF.le_top _))
set_option maxHeartbeats 4000000 in
theorem m_internal_strconv_small_ok (a0 : Int) (r : (List UInt8)) (h : m_internal_strconv_small a0 = some r) : Pure Tryz.prog 112 [(.exact (.int .i64 a0))] (.exact (.string (bs r))) := by
  unfold m_internal_strconv_small at h
  refine Pure.ofFun (fun_of_awp Tryz.func112 rfl Tryz.ntmps112 (by simp) rfl (res1 rfl) fun E hE => k_end ?_)
  refine k_seq ?_
  refine k_reg .free hmixP (by kernel_rfl) ?_
  refine G_q rfl (op_assign (av := .exact (.string (bs ([] : List UInt8)))) rfl ?_)
  refine G_nil ?_
  refine kC_normal ?_
  refine k_seq ?_
  refine k_seq ?_
  refine k_reg .free hmixP (by kernel_rfl) ?_
  refine G_q rfl (op_move (av := .exact (.int .i64 a0)) rfl ?_)
  refine G_q rfl (op_lss rfl rfl ?_)
  refine G_nil ?_
  refine kC_normal ?_
  refine k_cond_d (p := a0 < 10) rfl (fun hc => ?_) (fun hc => ?_)
  · replace h := ite_t h hc
    refine k_seq ?_
    refine k_reg .free hmixP (by kernel_rfl) ?_
    refine G_q rfl (op_move (av := .exact (.int .i64 a0)) rfl ?_)
    refine G_q rfl (op_move (av := .exact (.int .i64 a0)) rfl ?_)
    refine G_q rfl (op_add rfl rfl rfl ?_)
    obtain ⟨n1, h⟩ := need_some h
    refine G_q rfl (op_slice_str (by kernel_rfl) rfl (bnd_some rfl) (bnd_some rfl) n1.1 n1.2.1 n1.2.2 ?_)
    refine G_q rfl (op_assign (av := .exact (.string (bs (List.take (Int.toNat (i64 (a0 + 1)) - Int.toNat a0) (List.drop (Int.toNat a0) [48, 49, 50, 51, 52, 53, 54, 55, 56, 57, 97, 98, 99, 100, 101, 102, 103, 104, 105, 106, 107, 108, 109, 110, 111, 112, 113, 114, 115, 116, 117, 118, 119, 120, 121, 122]))))) rfl ?_)
    refine G_nil ?_
    refine kC_normal ?_
    refine k_ret ?_
    refine kC_ret ?_
    obtain rfl := Option.some.inj h
    refine kP_any (endN (af' := (AF.put AF0 (some 2) (.exact (.string (bs (List.take (Int.toNat (i64 (a0 + 1)) - Int.toNat a0) (List.drop (Int.toNat a0) [48, 49, 50, 51, 52, 53, 54, 55, 56, 57, 97, 98, 99, 100, 101, 102, 103, 104, 105, 106, 107, 108, 109, 110, 111, 112, 113, 114, 115, 116, 117, 118, 119, 120, 121, 122]))))))) (σ' := []) _ rfl ?_ ⟨rfl, rfl⟩)
    exact Sub.of_le (AF.le_put (AV.le_eq rfl) (AF.le_top _))
  · replace h := ite_f h hc
    refine k_skip ?_
    refine kC_normal ?_
    refine k_seq ?_
    cases h
set_option maxHeartbeats 4000000 in
theorem m_internal_strconv_FormatInt_ok (a0 : Int) (a1 : Int) (r : (List UInt8)) (h : m_internal_strconv_FormatInt a0 a1 = some r) : Pure Tryz.prog 94 [(.exact (.int .i64 a0)), (.exact (.int .i64 a1))] (.exact (.string (bs r))) := by
  unfold m_internal_strconv_FormatInt at h
  refine Pure.ofFun (fun_of_awp Tryz.func94 rfl Tryz.ntmps94 (by simp) rfl (res1 rfl) fun E hE => k_end ?_)
  refine k_seq ?_
  refine k_reg .free hmixP (by kernel_rfl) ?_
  refine G_q rfl (op_assign (av := .exact (.string (bs ([] : List UInt8)))) rfl ?_)
  refine G_nil ?_
  refine kC_normal ?_
  refine k_seq ?_
  refine k_seq ?_
  refine k_reg .free hmixP (by kernel_rfl) ?_
  refine G_q rfl (op_move (av := .exact (.int .i64 a1)) rfl ?_)
  refine G_q rfl (op_eql rfl rfl ?_)
  refine G_nil ?_
  refine kC_normal ?_
  refine k_cond_d (p := a1 = 10) rfl (fun hc => ?_) (fun hc => ?_)
  · replace h := ite_t h hc
    refine k_seq ?_
    refine k_join1_0 h (fun (x17_j4 : Bool) => (AF.put (AF.put AF0 (some 0) (.exact (.int .i64 a0))) (some 17) (.exact (.bool x17_j4)))) (fun (x17_j4 : Bool) => []) (fun k4 h => ?_) (fun x17_j4 h => ?_)
    · refine k_reg .free hmixP (by kernel_rfl) ?_
      refine G_q rfl (op_move (av := .exact (.int .i64 a0)) rfl ?_)
      refine G_q rfl (op_leq rfl rfl ?_)
      refine G_q rfl (op_move (av := .exact (.bool (decide (0 ≤ a0)))) rfl ?_)
      refine G_split (p := 0 ≤ a0) 14 rfl (fun hc => ?_) (fun hc => ?_)
      · replace h := ite_t h hc
        refine Gy_q rfl rfl rfl (op_move (av := .exact (.int .i64 a0)) rfl ?_)
        refine Gy_q rfl rfl rfl (op_lss rfl rfl ?_)
        refine G_q rfl (op_pick_t rfl (av := .exact (.bool (decide (a0 < 100)))) rfl ?_)
        refine G_nil ?_
        refine kI_normal ⟨_, h, ?_⟩
        exact Sub.of_le (AF.le_put (AV.le_eq rfl) (AF.le_put (AV.le_eq rfl) (AF.le_top _)))
      · replace h := ite_f h hc
        refine G_n rfl rfl ?_
        refine G_n rfl rfl ?_
        refine G_q rfl (op_pick_f rfl (av := .exact (.bool false)) rfl ?_)
        refine G_nil ?_
        refine kI_normal ⟨_, h, ?_⟩
        exact Sub.of_le (AF.le_put (AV.le_eq rfl) (AF.le_put (AV.le_eq rfl) (AF.le_top _)))
    · refine k_cond_b (c := x17_j4) rfl (fun hc => ?_) (fun hc => ?_)
      · replace h := ite_t h hc
        refine k_seq ?_
        refine k_reg .free hmixP (by kernel_rfl) ?_
        refine G_q rfl (op_move (av := .exact (.int .i64 a0)) rfl ?_)
        obtain ⟨y5, hy5, h⟩ := bnd1_some h
        refine G_q rfl (op_pure (m_internal_strconv_small_ok _ _ hy5) Tryz.func112 (by kernel_rfl) (LEs.cons (AV.le_eq rfl) LEs.nil) ?_)
        refine G_q rfl (op_assign (av := .exact (.string (bs y5))) rfl ?_)
        refine G_nil ?_
        refine kC_normal ?_
        refine k_ret ?_
        refine kC_ret ?_
        refine kC_ret ?_
        obtain rfl := Option.some.inj h
        refine kP_any (endN (af' := (AF.put AF0 (some 4) (.exact (.string (bs y5))))) (σ' := []) _ rfl ?_ ⟨rfl, rfl⟩)
        exact Sub.of_le (AF.le_put (AV.le_eq rfl) (AF.le_top _))
      · replace h := ite_f h hc
        refine k_skip ?_
        refine kC_normal ?_
        refine k_seq ?_
        refine k_reg .free hmixP (by kernel_rfl) ?_
        refine G_l rfl (op_allocA (f := (fun (x : UInt8) => .exact (.int .u8 (UInt8.toNat x : Int)))) 24 (0 : UInt8) (.int .u8 (UInt8.toNat 0 : Int)) rfl (by kernel_rfl) rfl (fun b6 => ?_))
        refine G_nil ?_
        refine kC_normal ?_
        refine k_seq ?_
        refine k_reg .free hmixP (by kernel_rfl) ?_
        refine G_q rfl (op_move (av := .exact (.int .i64 a0)) rfl ?_)
        refine G_q rfl (op_convInt (k := .u64) (by kernel_rfl) rfl rfl ?_)
        refine G_q rfl (op_assign (av := .exact (.int .u64 (IntKind.u64.wrap (a0)))) rfl ?_)
        refine G_nil ?_
        refine kC_normal ?_
        refine k_join1_0 h (fun (x6_j7 : Int) => (AF.put (AF.put (AF.put AF0 (some 0) (.exact (.int .i64 a0))) (some 5) (pA b6 0)) (some 6) (.exact (.int .u64 x6_j7)))) (fun (x6_j7 : Int) => [boxI 111 b6 (List.map (fun (x : UInt8) => .exact (.int .u8 (UInt8.toNat x : Int))) (List.replicate 24 (0 : UInt8)))]) (fun k7 h => ?_) (fun x6_j7 h => ?_)
        · refine k_seq ?_
          refine k_reg .free hmixP (by kernel_rfl) ?_
          refine G_q rfl (op_move (av := .exact (.int .i64 a0)) rfl ?_)
          refine G_q rfl (op_lss rfl rfl ?_)
          refine G_nil ?_
          refine kC_normal ?_
          refine k_cond_d (p := a0 < 0) rfl (fun hc => ?_) (fun hc => ?_)
          · replace h := ite_t h hc
            refine k_reg .free hmixP (by kernel_rfl) ?_
            refine G_q rfl (op_move (av := .exact (.int .u64 (IntKind.u64.wrap (a0)))) rfl ?_)
            refine G_q rfl (op_neg rfl rfl ?_)
            refine G_q rfl (op_assign (av := .exact (.int .u64 (IntKind.u64.wrap (- (IntKind.u64.wrap (a0)))))) rfl ?_)
            refine G_nil ?_
            refine kI_normal ⟨_, h, ?_⟩
            exact Sub.of_le (AF.le_put (AV.le_eq rfl) (AF.le_put (AV.le_eq rfl) (AF.le_put (AV.le_eq rfl) (AF.le_top _))))
          · replace h := ite_f h hc
            refine k_skip ?_
            refine kI_normal ⟨_, h, ?_⟩
            exact Sub.of_le (AF.le_put (AV.le_eq rfl) (AF.le_put (AV.le_eq rfl) (AF.le_put (AV.le_eq rfl) (AF.le_top _))))
        · refine k_seq ?_
          cases h
  · replace h := ite_f h hc
    refine k_skip ?_
    refine kC_normal ?_
    refine k_seq ?_
    cases h
end Go.Proofs.YtdppkpiagdaigaaGreatDoor
/- The functions compute their models, by program. -/
namespace Go.Proofs.YtdppkpiagdaigaaGreatDoor
open Go.RowKit
attribute [local irreducible] AV.exact AV.top AV.row AV.ptr AV.agg AV.tup AV.eptr AV.fn AV.nilq AV.nilqn opA opB opM opR Quiet Loud Reads wpG awp den Sub SubU Pure Fun vecI vecT boxI CellsAll CellsOf OneC LEs LEss
set_option maxRecDepth 100000

set_option maxHeartbeats 4000000 in
theorem m_strconv_FormatInt_ok (a0 : Int) (a1 : Int) (r : (List UInt8)) (h : m_strconv_FormatInt a0 a1 = some r) : Pure Tryz.prog 71 [(.exact (.int .i64 a0)), (.exact (.int .i64 a1))] (.exact (.string (bs r))) := by
  unfold m_strconv_FormatInt at h
  refine Pure.ofFun (fun_of_awp Tryz.func71 rfl Tryz.ntmps71 (by simp) rfl (res1 rfl) fun E hE => k_end ?_)
  refine k_seq ?_
  refine k_reg .free hmixP (by kernel_rfl) ?_
  refine G_q rfl (op_assign (av := .exact (.string (bs ([] : List UInt8)))) rfl ?_)
  refine G_nil ?_
  refine kC_normal ?_
  refine k_seq ?_
  refine k_reg .free hmixP (by kernel_rfl) ?_
  refine G_q rfl (op_move (av := .exact (.int .i64 a0)) rfl ?_)
  refine G_q rfl (op_move (av := .exact (.int .i64 a1)) rfl ?_)
  obtain ⟨y1, hy1, h⟩ := bnd1_some h
  refine G_q rfl (op_pure (m_internal_strconv_FormatInt_ok _ _ _ hy1) Tryz.func94 (by kernel_rfl) (LEs.cons (AV.le_eq rfl) (LEs.cons (AV.le_eq rfl) LEs.nil)) ?_)
  refine G_q rfl (op_assign (av := .exact (.string (bs y1))) rfl ?_)
  refine G_nil ?_
  refine kC_normal ?_
  refine k_ret ?_
  obtain rfl := Option.some.inj h
  refine kP_any (endN (af' := (AF.put AF0 (some 4) (.exact (.string (bs y1))))) (σ' := []) _ rfl ?_ ⟨rfl, rfl⟩)
  exact Sub.of_le (AF.le_put (AV.le_eq rfl) (AF.le_top _))
set_option maxHeartbeats 4000000 in
theorem m_value_Number_ok (a0 : List UInt8) (r : Int) (h : m_value_Number a0 = some r) : Pure Tryz.prog 25 [(.exact (.string (bs a0)))] (.exact (.int .i64 r)) := by
  unfold m_value_Number at h
  refine Pure.ofFun (fun_of_awp Tryz.func25 rfl Tryz.ntmps25 (by simp) rfl (res1 rfl) fun E hE => k_end ?_)
  refine k_seq ?_
  refine k_reg .free hmixP (by kernel_rfl) ?_
  refine G_q rfl (op_assign (av := .exact (.int .i64 0)) rfl ?_)
  refine G_nil ?_
  refine kC_normal ?_
  refine k_seq ?_
  refine k_seq ?_
  refine k_reg .free hmixP (by kernel_rfl) ?_
  refine G_q rfl (op_move (av := .exact (.string (bs a0))) rfl ?_)
  obtain ⟨y1, hy1, h⟩ := bnd1_some h
  refine G_q rfl (op_pure (m_value_Kind_ok _ _ hy1) Tryz.func21 (by kernel_rfl) (LEs.cons (AV.le_eq rfl) LEs.nil) ?_)
  refine G_nil ?_
  refine kC_normal ?_
  refine k_block ?_
  refine k_seq ?_
  refine k_reg .free hmixP (by kernel_rfl) ?_
  refine G_q rfl (op_eql rfl rfl ?_)
  refine G_q rfl (op_assign (av := .exact (.bool (decide (y1 = 1)))) rfl ?_)
  refine G_nil ?_
  refine kC_normal ?_
  refine k_cond_d (p := y1 = 1) rfl (fun hc => ?_) (fun hc => ?_)
  · replace h := ite_t h hc
    refine k_seq ?_
    refine k_reg .free hmixP (by kernel_rfl) ?_
    refine G_q rfl (op_move (av := .exact (.string (bs a0))) rfl ?_)
    obtain ⟨y2, hy2, h⟩ := bnd1_some h
    refine G_q rfl (op_pure (m_value_integer_ok _ _ hy2) Tryz.func57 (by kernel_rfl) (LEs.cons (AV.le_eq rfl) LEs.nil) ?_)
    refine G_q rfl (op_assign (av := .exact (.int .i64 y2)) rfl ?_)
    refine G_nil ?_
    refine kC_normal ?_
    refine k_ret ?_
    refine kB_ret ?_
    refine kC_ret ?_
    obtain rfl := Option.some.inj h
    refine kP_any (endN (af' := (AF.put AF0 (some 2) (.exact (.int .i64 y2)))) (σ' := []) _ rfl ?_ ⟨rfl, rfl⟩)
    exact Sub.of_le (AF.le_put (AV.le_eq rfl) (AF.le_top _))
  · replace h := ite_f h hc
    refine k_seq ?_
    refine k_reg .free hmixP (by kernel_rfl) ?_
    refine G_q rfl (op_eql rfl rfl ?_)
    refine G_q rfl (op_assign (av := .exact (.bool (decide (y1 = 2)))) rfl ?_)
    refine G_nil ?_
    refine kC_normal ?_
    refine k_cond_d (p := y1 = 2) rfl (fun hc => ?_) (fun hc => ?_)
    · replace h := ite_t h hc
      refine k_seq ?_
      refine k_reg .free hmixP (by kernel_rfl) ?_
      refine G_q rfl (op_move (av := .exact (.string (bs a0))) rfl ?_)
      obtain ⟨n3, h⟩ := need_some h
      refine G_q rfl (op_index_str (by kernel_rfl) rfl rfl n3.1 n3.2 ?_)
      refine G_q rfl (op_convInt (k := .i64) (r := (UInt8.toNat (gi a0 1) : Int)) (by kernel_rfl) rfl (wrap_u8 rfl _) ?_)
      refine G_q rfl (op_assign (av := .exact (.int .i64 (UInt8.toNat (gi a0 1) : Int))) rfl ?_)
      refine G_nil ?_
      refine kC_normal ?_
      refine k_ret ?_
      refine kB_ret ?_
      refine kC_ret ?_
      obtain rfl := Option.some.inj h
      refine kP_any (endN (af' := (AF.put AF0 (some 2) (.exact (.int .i64 (UInt8.toNat (gi a0 1) : Int))))) (σ' := []) _ rfl ?_ ⟨rfl, rfl⟩)
      exact Sub.of_le (AF.le_put (AV.le_eq rfl) (AF.le_top _))
    · replace h := ite_f h hc
      refine k_seq ?_
      refine k_reg .free hmixP (by kernel_rfl) ?_
      refine G_q rfl (op_eql rfl rfl ?_)
      refine G_q rfl (op_assign (av := .exact (.bool (decide (y1 = 10)))) rfl ?_)
      refine G_nil ?_
      refine kC_normal ?_
      refine k_cond_d (p := y1 = 10) rfl (fun hc => ?_) (fun hc => ?_)
      · replace h := ite_t h hc
        refine k_seq ?_
        refine k_plan [] [(0, 0), (0, 1), (0, 2), (0, 3), (0, 4), (0, 5), (0, 6), (0, 7), (0, 8)] hmixP (by kernel_rfl) ?_
        refine P_q no34_0 rfl (op_move (av := .exact (.string (bs a0))) rfl ?_)
        obtain ⟨n4, h⟩ := need_some h
        refine P_q no34_0 rfl (op_index_str (by kernel_rfl) rfl rfl n4.1 n4.2 ?_)
        refine P_q no34_0 rfl (op_convInt (k := .i64) (r := (UInt8.toNat (gi a0 1) : Int)) (by kernel_rfl) rfl (wrap_u8 rfl _) ?_)
        refine P_q no34_0 rfl (op_shl rfl rfl (by decide) rfl ?_)
        refine P_q no34_0 rfl (op_move (av := .exact (.string (bs a0))) rfl ?_)
        obtain ⟨n5, h⟩ := need_some h
        refine P_q no34_0 rfl (op_index_str (by kernel_rfl) rfl rfl n5.1 n5.2 ?_)
        refine P_q no34_0 rfl (op_convInt (k := .i64) (r := (UInt8.toNat (gi a0 2) : Int)) (by kernel_rfl) rfl (wrap_u8 rfl _) ?_)
        refine P_q no34_0 rfl (op_or rfl rfl rfl ?_)
        refine P_q no34_0 rfl (op_assign (av := .exact (.int .i64 (bOr .i64 (i64 ((UInt8.toNat (gi a0 1) : Int) * 2 ^ min (Int.toNat 8) IntKind.i64.bits)) (UInt8.toNat (gi a0 2) : Int)))) rfl ?_)
        refine P_nil ?_
        refine kC_normal ?_
        refine k_ret ?_
        refine kB_ret ?_
        refine kC_ret ?_
        obtain rfl := Option.some.inj h
        refine kP_any (endN (af' := (AF.put AF0 (some 2) (.exact (.int .i64 (bOr .i64 (i64 ((UInt8.toNat (gi a0 1) : Int) * 2 ^ min (Int.toNat 8) IntKind.i64.bits)) (UInt8.toNat (gi a0 2) : Int)))))) (σ' := []) _ rfl ?_ ⟨rfl, rfl⟩)
        exact Sub.of_le (AF.le_put (AV.le_eq rfl) (AF.le_top _))
      · replace h := ite_f h hc
        refine k_skip ?_
        refine kB_normal ?_
        refine kC_normal ?_
        refine k_seq ?_
        refine k_reg .free hmixP (by kernel_rfl) ?_
        refine G_q rfl (op_assign (av := .exact (.int .i64 0)) rfl ?_)
        refine G_nil ?_
        refine kC_normal ?_
        refine k_ret ?_
        obtain rfl := Option.some.inj h
        refine kP_any (endN (af' := (AF.put AF0 (some 2) (.exact (.int .i64 0)))) (σ' := []) _ rfl ?_ ⟨rfl, rfl⟩)
        exact Sub.of_le (AF.le_put (AV.le_eq rfl) (AF.le_top _))
set_option maxHeartbeats 4000000 in
theorem m_value_pairs_ok (a0 : List (List UInt8)) (r : (List (List UInt8))) (h : m_value_pairs a0 = some r) : Pure Tryz.prog 73 [(.row 1 c_string a0)] (.row 1 c_string r) := by
  unfold m_value_pairs at h
  refine Pure.ofFun (fun_of_awp Tryz.func73 rfl Tryz.ntmps73 (by simp) rfl (res1 rfl) fun E hE => k_end ?_)
  refine k_seq ?_
  refine k_reg .free hmixP (by kernel_rfl) ?_
  refine G_q rfl (op_assign (av := .exact (.slice none 0 0)) rfl ?_)
  refine G_nil ?_
  refine kC_normal ?_
  refine k_seq ?_
  refine k_reg .free hmixP (by kernel_rfl) ?_
  refine G_q rfl (op_assign (av := .exact (.slice none 0 0)) rfl ?_)
  refine G_nil ?_
  refine kC_normal ?_
  refine k_join1_1 h (fun (x3_j1 : List (List UInt8)) (v3_j1 : Value) => (AF.put AF0 (some 3) (.exact v3_j1))) (fun (x3_j1 : List (List UInt8)) (v3_j1 : Value) => [vecT Tryz.prog 31 1 c_string v3_j1 x3_j1]) (fun k1 h => ?_) (fun x3_j1 v3_j1 h => ?_)
  · refine k_seq ?_
    refine k_reg .free hmixP (by kernel_rfl) ?_
    refine G_q rfl (op_assign (av := .exact (.int .i64 0)) rfl ?_)
    refine G_nil ?_
    refine kC_normal ?_
    refine k_block ?_
    refine k_loop2_1 (m_value_pairs_L2 a0 k1) (m_value_pairs_B2 a0 k1) (fun _ _ => rfl) (fun m _ _ => rfl) h (fun (x3_l2 : List (List UInt8)) (x4_l2 : Int) (v3_l2 : Value) => (AF.put (AF.put (AF.put AF0 (some 0) (.row 1 c_string a0)) (some 3) (.exact v3_l2)) (some 4) (.exact (.int .i64 x4_l2)))) (fun (x3_l2 : List (List UInt8)) (x4_l2 : Int) (v3_l2 : Value) => [vecT Tryz.prog 31 1 c_string v3_l2 x3_l2]) (.slice none 0 0) ?_ (fun rec2 x3_l2 x4_l2 v3_l2 h => ?_)
    · refine Sub.trans (SubU.to (SubU.nilT (P := Tryz.prog) (t := 31) (n := 1) (enc := c_string))) ?_
      exact Sub.of_le (AF.le_put (AV.le_eq rfl) (AF.le_put (AV.le_eq rfl) (AF.le_put (AV.le_eq rfl) (AF.le_top _))))
    · unfold m_value_pairs_B2 at h
      refine k_seq ?_
      refine k_seq ?_
      refine k_reg .free hmixP (by kernel_rfl) ?_
      refine G_q rfl (op_move (av := .exact (.int .i64 x4_l2)) rfl ?_)
      refine G_q rfl (op_move (av := .row 1 c_string a0) rfl ?_)
      refine G_q rfl (op_len_row (by kernel_rfl) rfl ?_)
      refine G_q rfl (op_lss rfl rfl ?_)
      refine G_nil ?_
      refine kC_normal ?_
      refine k_cond_d (p := x4_l2 < (List.length a0 : Int)) rfl (fun hc => ?_) (fun hc => ?_)
      · replace h := ite_t h hc
        refine k_skip ?_
        refine kC_normal ?_
        refine k_seq ?_
        refine k_block ?_
        refine k_plan [] [(0, 0), (0, 1), (0, 2), (0, 3), (0, 4), (0, 5), (0, 6), (0, 7), (0, 8), (0, 9), (0, 10), (0, 11), (0, 12), (2, 13), (0, 14)] hmixP (by kernel_rfl) ?_
        refine P_q no34_0 rfl (op_move (av := .exact v3_l2) rfl ?_)
        refine P_q no34_0 rfl (op_move (av := .row 1 c_string a0) rfl ?_)
        refine P_q no34_0 rfl (op_move (av := .exact (.int .i64 x4_l2)) rfl ?_)
        obtain ⟨n33, h⟩ := need_some h
        refine P_q no34_0 rfl (op_index_row (by kernel_rfl) rfl rfl n33.1 n33.2 ?_)
        refine P_q no34_0 rfl (op_load1p (a := .exact (.string (bs (gi a0 x4_l2)))) (by kernel_rfl) rfl rfl ?_)
        obtain ⟨n34, h⟩ := need_some h
        refine P_q no34_0 rfl (op_addS n34 rfl rfl ?_)
        refine P_q no34_0 rfl (op_move (av := .row 1 c_string a0) rfl ?_)
        refine P_q no34_0 rfl (op_move (av := .exact (.int .i64 x4_l2)) rfl ?_)
        refine P_q no34_0 rfl (op_add rfl rfl rfl ?_)
        obtain ⟨n35, h⟩ := need_some h
        refine P_q no34_0 rfl (op_index_row (by kernel_rfl) rfl rfl n35.1 n35.2 ?_)
        refine P_q no34_0 rfl (op_load1p (a := .exact (.string (bs (gi a0 (i64 (x4_l2 + 1)))))) (by kernel_rfl) rfl rfl ?_)
        obtain ⟨n36, h⟩ := need_some h
        refine P_q no34_0 rfl (op_addS n36 rfl rfl ?_)
        refine P_q no34_0 rfl (op_litT (n := 1) (enc := c_string) [(((gi a0 x4_l2) ++ [32, 61, 62, 32]) ++ (gi a0 (i64 (x4_l2 + 1))))] (CellsAll.cons rfl CellsOf.str CellsAll.nil) rfl (by kernel_rfl) (LEss.cons (LEs.cons (AV.le_eq rfl) LEs.nil) LEss.nil) ?_)
        obtain ⟨n37, h⟩ := need_some h
        refine P_l rfl (op_appT (by kernel_rfl) rfl rfl oc_c_string n37 (fun v38 => ?_))
        refine P_q no34_0 rfl (op_assign (av := .exact v38) rfl ?_)
        refine P_nil ?_
        refine kB_normal ?_
        refine kC_normal ?_
        refine k_reg .free hmixP (by kernel_rfl) ?_
        refine G_q rfl (op_move (av := .exact (.int .i64 x4_l2)) rfl ?_)
        refine G_q rfl (op_add rfl rfl rfl ?_)
        refine G_q rfl (op_assign (av := .exact (.int .i64 (i64 (x4_l2 + 2)))) rfl ?_)
        refine G_nil ?_
        refine kI_normal ⟨_, _, v38, h, ?_⟩
        exact Sub.of_le (AF.le_put (AV.le_eq rfl) (AF.le_put (AV.le_eq rfl) (AF.le_put (AV.le_eq rfl) (AF.le_top _))))
      · replace h := ite_f h hc
        refine k_exit ?_
        refine kC_exit ?_
        refine kI_exit ?_
        refine kB_exit ?_
        refine kI_normal ⟨_, v3_l2, h, ?_⟩
        exact Sub.of_le (AF.le_put (AV.le_eq rfl) (AF.le_top _))
  · refine k_seq ?_
    refine k_reg .free hmixP (by kernel_rfl) ?_
    refine G_q rfl (op_move (av := .exact v3_j1) rfl ?_)
    refine G_q rfl (op_assign (av := .exact v3_j1) rfl ?_)
    refine G_nil ?_
    refine kC_normal ?_
    refine k_ret ?_
    obtain rfl := Option.some.inj h
    refine kP_any (endN (af' := (AF.put AF0 (some 2) (.row 1 c_string x3_j1))) (σ' := []) _ rfl ?_ ⟨rfl, rfl⟩)
    refine Sub.trans (SubU.to (SubU.freezeT (s := 2) rfl len_c_string)) ?_
    exact Sub.of_le (AF.le_put (AV.le_eq rfl) (AF.le_top _))
set_option maxHeartbeats 4000000 in
theorem m_value_text_F_ok (self_value_text : (List UInt8) → (List (List UInt8)) → Option (List UInt8)) (hself_value_text : ∀ (a0 : List UInt8) (a1 : List (List UInt8)) (r : (List UInt8)), self_value_text a0 a1 = some r → Pure Tryz.prog 46 [(.exact (.string (bs a0))), (.row 1 c_string a1)] (.exact (.string (bs r)))) (a0 : List UInt8) (a1 : List (List UInt8)) (r : (List UInt8)) (h : m_value_text_F self_value_text a0 a1 = some r) : Pure Tryz.prog 46 [(.exact (.string (bs a0))), (.row 1 c_string a1)] (.exact (.string (bs r))) := by
  unfold m_value_text_F at h
  refine Pure.ofFun (fun_of_awp Tryz.func46 rfl Tryz.ntmps46 (by simp) rfl (res1 rfl) fun E hE => k_end ?_)
  refine k_seq ?_
  refine k_reg .free hmixP (by kernel_rfl) ?_
  refine G_q rfl (op_assign (av := .exact (.string (bs ([] : List UInt8)))) rfl ?_)
  refine G_nil ?_
  refine kC_normal ?_
  refine k_seq ?_
  refine k_seq ?_
  refine k_reg .free hmixP (by kernel_rfl) ?_
  refine G_q rfl (op_move (av := .exact (.string (bs a0))) rfl ?_)
  obtain ⟨n1, h⟩ := need_some h
  refine G_q rfl (op_index_str (by kernel_rfl) rfl rfl n1.1 n1.2 ?_)
  refine G_nil ?_
  refine kC_normal ?_
  refine k_block ?_
  refine k_seq ?_
  refine k_reg .free hmixP (by kernel_rfl) ?_
  refine G_q rfl (op_eqlU (a := (gi a0 0)) (b := 1) rfl rfl ?_)
  refine G_q rfl (op_assign (av := .exact (.bool (decide ((gi a0 0) = 1)))) rfl ?_)
  refine G_nil ?_
  refine kC_normal ?_
  refine k_cond_d (p := (gi a0 0) = 1) rfl (fun hc => ?_) (fun hc => ?_)
  · replace h := ite_t h hc
    refine k_seq ?_
    refine k_reg .free hmixP (by kernel_rfl) ?_
    refine G_q rfl (op_move (av := .exact (.string (bs a0))) rfl ?_)
    obtain ⟨y2, hy2, h⟩ := bnd1_some h
    refine G_q rfl (op_pure (m_value_integer_ok _ _ hy2) Tryz.func57 (by kernel_rfl) (LEs.cons (AV.le_eq rfl) LEs.nil) ?_)
    obtain ⟨y3, hy3, h⟩ := bnd1_some h
    refine G_q rfl (op_pure (m_strconv_FormatInt_ok _ _ _ hy3) Tryz.func71 (by kernel_rfl) (LEs.cons (AV.le_eq rfl) (LEs.cons (AV.le_eq rfl) LEs.nil)) ?_)
    refine G_q rfl (op_assign (av := .exact (.string (bs y3))) rfl ?_)
    refine G_nil ?_
    refine kC_normal ?_
    refine k_ret ?_
    refine kB_ret ?_
    refine kC_ret ?_
    obtain rfl := Option.some.inj h
    refine kP_any (endN (af' := (AF.put AF0 (some 4) (.exact (.string (bs y3))))) (σ' := []) _ rfl ?_ ⟨rfl, rfl⟩)
    exact Sub.of_le (AF.le_put (AV.le_eq rfl) (AF.le_top _))
  · replace h := ite_f h hc
    refine k_seq ?_
    refine k_reg .free hmixP (by kernel_rfl) ?_
    refine G_q rfl (op_eqlU (a := (gi a0 0)) (b := 2) rfl rfl ?_)
    refine G_q rfl (op_assign (av := .exact (.bool (decide ((gi a0 0) = 2)))) rfl ?_)
    refine G_nil ?_
    refine kC_normal ?_
    refine k_cond_d (p := (gi a0 0) = 2) rfl (fun hc => ?_) (fun hc => ?_)
    · replace h := ite_t h hc
      refine k_seq ?_
      refine k_seq ?_
      refine k_reg .free hmixP (by kernel_rfl) ?_
      refine G_q rfl (op_move (av := .exact (.string (bs a0))) rfl ?_)
      obtain ⟨n4, h⟩ := need_some h
      refine G_q rfl (op_index_str (by kernel_rfl) rfl rfl n4.1 n4.2 ?_)
      refine G_q rfl (op_eqlU (a := (gi a0 1)) (b := 1) rfl rfl ?_)
      refine G_nil ?_
      refine kC_normal ?_
      refine k_cond_d (p := (gi a0 1) = 1) rfl (fun hc => ?_) (fun hc => ?_)
      · replace h := ite_t h hc
        refine k_seq ?_
        refine k_reg .free hmixP (by kernel_rfl) ?_
        refine G_q rfl (op_assign (av := .exact (.string (bs [116, 114, 117, 101]))) rfl ?_)
        refine G_nil ?_
        refine kC_normal ?_
        refine k_ret ?_
        refine kC_ret ?_
        refine kB_ret ?_
        refine kC_ret ?_
        obtain rfl := Option.some.inj h
        refine kP_any (endN (af' := (AF.put AF0 (some 4) (.exact (.string (bs [116, 114, 117, 101]))))) (σ' := []) _ rfl ?_ ⟨rfl, rfl⟩)
        exact Sub.of_le (AF.le_put (AV.le_eq rfl) (AF.le_top _))
      · replace h := ite_f h hc
        refine k_skip ?_
        refine kC_normal ?_
        refine k_seq ?_
        refine k_reg .free hmixP (by kernel_rfl) ?_
        refine G_q rfl (op_assign (av := .exact (.string (bs [102, 97, 108, 115, 101]))) rfl ?_)
        refine G_nil ?_
        refine kC_normal ?_
        refine k_ret ?_
        refine kB_ret ?_
        refine kC_ret ?_
        obtain rfl := Option.some.inj h
        refine kP_any (endN (af' := (AF.put AF0 (some 4) (.exact (.string (bs [102, 97, 108, 115, 101]))))) (σ' := []) _ rfl ?_ ⟨rfl, rfl⟩)
        exact Sub.of_le (AF.le_put (AV.le_eq rfl) (AF.le_top _))
    · replace h := ite_f h hc
      refine k_seq ?_
      refine k_reg .free hmixP (by kernel_rfl) ?_
      refine G_q rfl (op_eqlU (a := (gi a0 0)) (b := 10) rfl rfl ?_)
      refine G_q rfl (op_assign (av := .exact (.bool (decide ((gi a0 0) = 10)))) rfl ?_)
      refine G_nil ?_
      refine kC_normal ?_
      refine k_cond_d (p := (gi a0 0) = 10) rfl (fun hc => ?_) (fun hc => ?_)
      · replace h := ite_t h hc
        refine k_seq ?_
        refine k_seq ?_
        refine k_reg .free hmixP (by kernel_rfl) ?_
        refine G_q rfl (op_move (av := .exact (.string (bs a0))) rfl ?_)
        obtain ⟨y5, hy5, h⟩ := bnd1_some h
        refine G_q rfl (op_pure (m_value_Number_ok _ _ hy5) Tryz.func25 (by kernel_rfl) (LEs.cons (AV.le_eq rfl) LEs.nil) ?_)
        refine G_q rfl (op_assign (av := .exact (.int .i64 y5)) rfl ?_)
        refine G_nil ?_
        refine kC_normal ?_
        refine k_seq ?_
        refine k_reg .free hmixP (by kernel_rfl) ?_
        refine G_q rfl (op_move (av := .exact (.int .i64 y5)) rfl ?_)
        refine G_q rfl (op_move (av := .row 1 c_string a1) rfl ?_)
        refine G_q rfl (op_len_row (by kernel_rfl) rfl ?_)
        refine G_q rfl (op_lss rfl rfl ?_)
        refine G_nil ?_
        refine kC_normal ?_
        refine k_cond_d (p := y5 < (List.length a1 : Int)) rfl (fun hc => ?_) (fun hc => ?_)
        · replace h := ite_t h hc
          refine k_seq ?_
          refine k_reg .free hmixP (by kernel_rfl) ?_
          refine G_q rfl (op_move (av := .row 1 c_string a1) rfl ?_)
          refine G_q rfl (op_move (av := .exact (.int .i64 y5)) rfl ?_)
          obtain ⟨n6, h⟩ := need_some h
          refine G_q rfl (op_index_row (by kernel_rfl) rfl rfl n6.1 n6.2 ?_)
          refine G_q rfl (op_load1p (a := .exact (.string (bs (gi a1 y5)))) (by kernel_rfl) rfl rfl ?_)
          refine G_q rfl (op_assign (av := .exact (.string (bs (gi a1 y5)))) rfl ?_)
          refine G_nil ?_
          refine kC_normal ?_
          refine k_ret ?_
          refine kC_ret ?_
          refine kB_ret ?_
          refine kC_ret ?_
          obtain rfl := Option.some.inj h
          refine kP_any (endN (af' := (AF.put AF0 (some 4) (.exact (.string (bs (gi a1 y5)))))) (σ' := []) _ rfl ?_ ⟨rfl, rfl⟩)
          exact Sub.of_le (AF.le_put (AV.le_eq rfl) (AF.le_top _))
        · replace h := ite_f h hc
          refine k_skip ?_
          refine kC_normal ?_
          refine k_seq ?_
          refine k_reg .free hmixP (by kernel_rfl) ?_
          refine G_q rfl (op_move (av := .exact (.string (bs a0))) rfl ?_)
          obtain ⟨y7, hy7, h⟩ := bnd1_some h
          refine G_q rfl (op_pure (m_value_Number_ok _ _ hy7) Tryz.func25 (by kernel_rfl) (LEs.cons (AV.le_eq rfl) LEs.nil) ?_)
          obtain ⟨y8, hy8, h⟩ := bnd1_some h
          refine G_q rfl (op_pure (m_strconv_FormatInt_ok _ _ _ hy8) Tryz.func71 (by kernel_rfl) (LEs.cons (AV.le_eq rfl) (LEs.cons (AV.le_eq rfl) LEs.nil)) ?_)
          obtain ⟨n9, h⟩ := need_some h
          refine G_q rfl (op_addS n9 rfl rfl ?_)
          refine G_q rfl (op_assign (av := .exact (.string (bs ([63] ++ y8)))) rfl ?_)
          refine G_nil ?_
          refine kC_normal ?_
          refine k_ret ?_
          refine kB_ret ?_
          refine kC_ret ?_
          obtain rfl := Option.some.inj h
          refine kP_any (endN (af' := (AF.put AF0 (some 4) (.exact (.string (bs ([63] ++ y8)))))) (σ' := []) _ rfl ?_ ⟨rfl, rfl⟩)
          exact Sub.of_le (AF.le_put (AV.le_eq rfl) (AF.le_top _))
      · replace h := ite_f h hc
        refine k_skip ?_
        refine kB_normal ?_
        refine kC_normal ?_
        refine k_seq ?_
        refine k_reg .free hmixP (by kernel_rfl) ?_
        refine G_q rfl (op_assign (av := .exact (.slice none 0 0)) rfl ?_)
        refine G_nil ?_
        refine kC_normal ?_
        refine k_join1_1 h (fun (x6_j10 : List (List UInt8)) (v6_j10 : Value) => (AF.put (AF.put AF0 (some 0) (.exact (.string (bs a0)))) (some 6) (.exact v6_j10))) (fun (x6_j10 : List (List UInt8)) (v6_j10 : Value) => [vecT Tryz.prog 31 1 c_string v6_j10 x6_j10]) (fun k10 h => ?_) (fun x6_j10 v6_j10 h => ?_)
        · refine k_seq ?_
          refine k_reg .free hmixP (by kernel_rfl) ?_
          refine G_q rfl (op_move (av := .exact (.string (bs a0))) rfl ?_)
          obtain ⟨y25, hy25, h⟩ := bnd1_some h
          refine G_q rfl (op_pure (m_value_parts_ok _ _ hy25) Tryz.func55 (by kernel_rfl) (LEs.cons (AV.le_eq rfl) LEs.nil) ?_)
          refine G_q rfl (op_len_row (by kernel_rfl) rfl ?_)
          refine G_q rfl (op_move (av := .exact (.int .i64 0)) rfl ?_)
          refine G_nil ?_
          refine kC_normal ?_
          refine k_block ?_
          refine k_loop2_1 (m_value_text_L2 self_value_text a1 k10 y25) (m_value_text_B2 self_value_text a1 k10 y25) (fun _ _ => rfl) (fun m _ _ => rfl) h (fun (x6_l2 : List (List UInt8)) (x41_l2 : Int) (v6_l2 : Value) => (AF.put (AF.put (AF.put (AF.put (AF.put (AF.put AF0 (some 0) (.exact (.string (bs a0)))) (some 1) (.row 1 c_string a1)) (some 6) (.exact v6_l2)) (some 39) (.row 1 c_api_Value y25)) (some 40) (.exact (.int .i64 (List.length y25 : Int)))) (some 41) (.exact (.int .i64 x41_l2)))) (fun (x6_l2 : List (List UInt8)) (x41_l2 : Int) (v6_l2 : Value) => [vecT Tryz.prog 31 1 c_string v6_l2 x6_l2]) (.slice none 0 0) ?_ (fun rec2 x6_l2 x41_l2 v6_l2 h => ?_)
          · refine Sub.trans (SubU.to (SubU.nilT (P := Tryz.prog) (t := 31) (n := 1) (enc := c_string))) ?_
            exact Sub.of_le (AF.le_put (AV.le_eq rfl) (AF.le_put (AV.le_eq rfl) (AF.le_put (AV.le_eq rfl) (AF.le_put (AV.le_eq rfl) (AF.le_put (AV.le_eq rfl) (AF.le_put (AV.le_eq rfl) (AF.le_top _)))))))
          · unfold m_value_text_B2 at h
            refine k_seq ?_
            refine k_reg .free hmixP (by kernel_rfl) ?_
            refine G_q rfl (op_lss rfl rfl ?_)
            refine G_nil ?_
            refine kC_normal ?_
            refine k_seq ?_
            refine k_cond_d (p := x41_l2 < (List.length y25 : Int)) rfl (fun hc => ?_) (fun hc => ?_)
            · replace h := ite_t h hc
              refine k_skip ?_
              refine kC_normal ?_
              refine k_seq ?_
              refine k_block ?_
              refine k_seq ?_
              refine k_reg .free hmixP (by kernel_rfl) ?_
              obtain ⟨n34, h⟩ := need_some h
              refine G_q rfl (op_index_row (by kernel_rfl) rfl rfl n34.1 n34.2 ?_)
              refine G_q rfl (op_load1p (a := .exact (.string (bs (gi y25 x41_l2)))) (by kernel_rfl) rfl rfl ?_)
              refine G_q rfl (op_assign (av := .exact (.string (bs (gi y25 x41_l2)))) rfl ?_)
              refine G_nil ?_
              refine kC_normal ?_
              refine k_reg .free hmixP (by kernel_rfl) ?_
              refine G_q rfl (op_move (av := .exact v6_l2) rfl ?_)
              refine G_q rfl (op_move (av := .exact (.string (bs (gi y25 x41_l2)))) rfl ?_)
              refine G_q rfl (op_move (av := .row 1 c_string a1) rfl ?_)
              obtain ⟨y35, hy35, h⟩ := bnd1_some h
              refine G_q rfl (op_pure (hself_value_text _ _ _ hy35) Tryz.func46 (by kernel_rfl) (LEs.cons (AV.le_eq rfl) (LEs.cons (AV.le_eq rfl) LEs.nil)) ?_)
              refine G_q rfl (op_litT (n := 1) (enc := c_string) [y35] (CellsAll.cons rfl CellsOf.str CellsAll.nil) rfl (by kernel_rfl) (LEss.cons (LEs.cons (AV.le_eq rfl) LEs.nil) LEss.nil) ?_)
              obtain ⟨n36, h⟩ := need_some h
              refine G_l rfl (op_appT (by kernel_rfl) rfl rfl oc_c_string n36 (fun v37 => ?_))
              refine G_q rfl (op_assign (av := .exact v37) rfl ?_)
              refine G_nil ?_
              refine kB_normal ?_
              refine kC_normal ?_
              refine k_reg .free hmixP (by kernel_rfl) ?_
              refine G_q rfl (op_add rfl rfl rfl ?_)
              refine G_q rfl (op_move (av := .exact (.int .i64 (i64 (x41_l2 + 1)))) rfl ?_)
              refine G_nil ?_
              refine kI_normal ⟨_, _, v37, h, ?_⟩
              exact Sub.of_le (AF.le_put (AV.le_eq rfl) (AF.le_put (AV.le_eq rfl) (AF.le_put (AV.le_eq rfl) (AF.le_put (AV.le_eq rfl) (AF.le_put (AV.le_eq rfl) (AF.le_put (AV.le_eq rfl) (AF.le_top _)))))))
            · replace h := ite_f h hc
              refine k_exit ?_
              refine kC_exit ?_
              refine kI_exit ?_
              refine kB_exit ?_
              refine kI_normal ⟨_, v6_l2, h, ?_⟩
              exact Sub.of_le (AF.le_put (AV.le_eq rfl) (AF.le_put (AV.le_eq rfl) (AF.le_top _)))
        · refine k_seq ?_
          refine k_reg .free hmixP (by kernel_rfl) ?_
          refine G_q rfl (op_move (av := .exact v6_j10) rfl ?_)
          refine G_sub rfl (SubU.freezeT2 (s1 := 6) (s2 := 52) rfl rfl len_c_string) ?_
          obtain ⟨y38, hy38, h⟩ := bnd1_some h
          refine G_q rfl (op_pure (m_join_ok _ _ _ hy38) Tryz.func72 (by kernel_rfl) (LEs.cons (AV.le_eq rfl) (LEs.cons (AV.le_eq rfl) LEs.nil)) ?_)
          refine G_q rfl (op_assign (av := .exact (.string (bs y38))) rfl ?_)
          refine G_nil ?_
          refine kC_normal ?_
          refine k_seq ?_
          refine k_seq ?_
          refine k_reg .free hmixP (by kernel_rfl) ?_
          refine G_q rfl (op_move (av := .exact (.string (bs a0))) rfl ?_)
          obtain ⟨n39, h⟩ := need_some h
          refine G_q rfl (op_index_str (by kernel_rfl) rfl rfl n39.1 n39.2 ?_)
          refine G_nil ?_
          refine kC_normal ?_
          refine k_block ?_
          refine k_seq ?_
          refine k_reg .free hmixP (by kernel_rfl) ?_
          refine G_q rfl (op_eqlU (a := (gi a0 0)) (b := 4) rfl rfl ?_)
          refine G_q rfl (op_assign (av := .exact (.bool (decide ((gi a0 0) = 4)))) rfl ?_)
          refine G_nil ?_
          refine kC_normal ?_
          refine k_cond_d (p := (gi a0 0) = 4) rfl (fun hc => ?_) (fun hc => ?_)
          · replace h := ite_t h hc
            refine k_seq ?_
            refine k_reg .free hmixP (by kernel_rfl) ?_
            refine G_q rfl (op_move (av := .exact (.string (bs y38))) rfl ?_)
            obtain ⟨n40, h⟩ := need_some h
            refine G_q rfl (op_addS n40 rfl rfl ?_)
            obtain ⟨n41, h⟩ := need_some h
            refine G_q rfl (op_addS n41 rfl rfl ?_)
            refine G_q rfl (op_assign (av := .exact (.string (bs (([60] ++ y38) ++ [62])))) rfl ?_)
            refine G_nil ?_
            refine kC_normal ?_
            refine k_ret ?_
            refine kB_ret ?_
            refine kC_ret ?_
            obtain rfl := Option.some.inj h
            refine kP_any (endN (af' := (AF.put AF0 (some 4) (.exact (.string (bs (([60] ++ y38) ++ [62])))))) (σ' := []) _ rfl ?_ ⟨rfl, rfl⟩)
            exact Sub.of_le (AF.le_put (AV.le_eq rfl) (AF.le_top _))
          · replace h := ite_f h hc
            refine k_seq ?_
            refine k_reg .free hmixP (by kernel_rfl) ?_
            refine G_q rfl (op_eqlU (a := (gi a0 0)) (b := 5) rfl rfl ?_)
            refine G_q rfl (op_assign (av := .exact (.bool (decide ((gi a0 0) = 5)))) rfl ?_)
            refine G_nil ?_
            refine kC_normal ?_
            refine k_cond_d (p := (gi a0 0) = 5) rfl (fun hc => ?_) (fun hc => ?_)
            · replace h := ite_t h hc
              refine k_seq ?_
              refine k_reg .free hmixP (by kernel_rfl) ?_
              refine G_q rfl (op_move (av := .exact (.string (bs y38))) rfl ?_)
              obtain ⟨n42, h⟩ := need_some h
              refine G_q rfl (op_addS n42 rfl rfl ?_)
              obtain ⟨n43, h⟩ := need_some h
              refine G_q rfl (op_addS n43 rfl rfl ?_)
              refine G_q rfl (op_assign (av := .exact (.string (bs (([123] ++ y38) ++ [125])))) rfl ?_)
              refine G_nil ?_
              refine kC_normal ?_
              refine k_ret ?_
              refine kB_ret ?_
              refine kC_ret ?_
              obtain rfl := Option.some.inj h
              refine kP_any (endN (af' := (AF.put AF0 (some 4) (.exact (.string (bs (([123] ++ y38) ++ [125])))))) (σ' := []) _ rfl ?_ ⟨rfl, rfl⟩)
              exact Sub.of_le (AF.le_put (AV.le_eq rfl) (AF.le_top _))
            · replace h := ite_f h hc
              refine k_seq ?_
              refine k_reg .free hmixP (by kernel_rfl) ?_
              refine G_q rfl (op_eqlU (a := (gi a0 0)) (b := 6) rfl rfl ?_)
              refine G_q rfl (op_assign (av := .exact (.bool (decide ((gi a0 0) = 6)))) rfl ?_)
              refine G_nil ?_
              refine kC_normal ?_
              refine k_cond_d (p := (gi a0 0) = 6) rfl (fun hc => ?_) (fun hc => ?_)
              · replace h := ite_t h hc
                refine k_seq ?_
                refine k_reg .free hmixP (by kernel_rfl) ?_
                refine G_q rfl (op_move (av := .row 1 c_string x6_j10) rfl ?_)
                obtain ⟨y44, hy44, h⟩ := bnd1_some h
                refine G_q rfl (op_pure (m_value_pairs_ok _ _ hy44) Tryz.func73 (by kernel_rfl) (LEs.cons (AV.le_eq rfl) LEs.nil) ?_)
                obtain ⟨y45, hy45, h⟩ := bnd1_some h
                refine G_q rfl (op_pure (m_join_ok _ _ _ hy45) Tryz.func72 (by kernel_rfl) (LEs.cons (AV.le_eq rfl) (LEs.cons (AV.le_eq rfl) LEs.nil)) ?_)
                obtain ⟨n46, h⟩ := need_some h
                refine G_q rfl (op_addS n46 rfl rfl ?_)
                obtain ⟨n47, h⟩ := need_some h
                refine G_q rfl (op_addS n47 rfl rfl ?_)
                refine G_q rfl (op_assign (av := .exact (.string (bs (([40, 124] ++ y45) ++ [124, 41])))) rfl ?_)
                refine G_nil ?_
                refine kC_normal ?_
                refine k_ret ?_
                refine kB_ret ?_
                refine kC_ret ?_
                obtain rfl := Option.some.inj h
                refine kP_any (endN (af' := (AF.put AF0 (some 4) (.exact (.string (bs (([40, 124] ++ y45) ++ [124, 41])))))) (σ' := []) _ rfl ?_ ⟨rfl, rfl⟩)
                exact Sub.of_le (AF.le_put (AV.le_eq rfl) (AF.le_top _))
              · replace h := ite_f h hc
                refine k_seq ?_
                refine k_reg .free hmixP (by kernel_rfl) ?_
                refine G_q rfl (op_eqlU (a := (gi a0 0)) (b := 7) rfl rfl ?_)
                refine G_q rfl (op_assign (av := .exact (.bool (decide ((gi a0 0) = 7)))) rfl ?_)
                refine G_nil ?_
                refine kC_normal ?_
                refine k_cond_d (p := (gi a0 0) = 7) rfl (fun hc => ?_) (fun hc => ?_)
                · replace h := ite_t h hc
                  refine k_seq ?_
                  refine k_reg .free hmixP (by kernel_rfl) ?_
                  refine G_q rfl (op_move (av := .row 1 c_string x6_j10) rfl ?_)
                  obtain ⟨y48, hy48, h⟩ := bnd1_some h
                  refine G_q rfl (op_pure (m_join_ok _ _ _ hy48) Tryz.func72 (by kernel_rfl) (LEs.cons (AV.le_eq rfl) (LEs.cons (AV.le_eq rfl) LEs.nil)) ?_)
                  refine G_q rfl (op_assign (av := .exact (.string (bs y48))) rfl ?_)
                  refine G_nil ?_
                  refine kC_normal ?_
                  refine k_ret ?_
                  refine kB_ret ?_
                  refine kC_ret ?_
                  obtain rfl := Option.some.inj h
                  refine kP_any (endN (af' := (AF.put AF0 (some 4) (.exact (.string (bs y48))))) (σ' := []) _ rfl ?_ ⟨rfl, rfl⟩)
                  exact Sub.of_le (AF.le_put (AV.le_eq rfl) (AF.le_top _))
                · replace h := ite_f h hc
                  refine k_seq ?_
                  refine k_reg .free hmixP (by kernel_rfl) ?_
                  refine G_q rfl (op_eqlU (a := (gi a0 0)) (b := 8) rfl rfl ?_)
                  refine G_q rfl (op_assign (av := .exact (.bool (decide ((gi a0 0) = 8)))) rfl ?_)
                  refine G_nil ?_
                  refine kC_normal ?_
                  refine k_cond_d (p := (gi a0 0) = 8) rfl (fun hc => ?_) (fun hc => ?_)
                  · replace h := ite_t h hc
                    refine k_seq ?_
                    refine k_reg .free hmixP (by kernel_rfl) ?_
                    refine G_q rfl (op_move (av := .exact (.string (bs y38))) rfl ?_)
                    obtain ⟨n49, h⟩ := need_some h
                    refine G_q rfl (op_addS n49 rfl rfl ?_)
                    obtain ⟨n50, h⟩ := need_some h
                    refine G_q rfl (op_addS n50 rfl rfl ?_)
                    refine G_q rfl (op_assign (av := .exact (.string (bs (([102, 117, 110, 40] ++ y38) ++ [41])))) rfl ?_)
                    refine G_nil ?_
                    refine kC_normal ?_
                    refine k_ret ?_
                    refine kB_ret ?_
                    refine kC_ret ?_
                    obtain rfl := Option.some.inj h
                    refine kP_any (endN (af' := (AF.put AF0 (some 4) (.exact (.string (bs (([102, 117, 110, 40] ++ y38) ++ [41])))))) (σ' := []) _ rfl ?_ ⟨rfl, rfl⟩)
                    exact Sub.of_le (AF.le_put (AV.le_eq rfl) (AF.le_top _))
                  · replace h := ite_f h hc
                    refine k_seq ?_
                    refine k_reg .free hmixP (by kernel_rfl) ?_
                    refine G_q rfl (op_eqlU (a := (gi a0 0)) (b := 9) rfl rfl ?_)
                    refine G_q rfl (op_assign (av := .exact (.bool (decide ((gi a0 0) = 9)))) rfl ?_)
                    refine G_nil ?_
                    refine kC_normal ?_
                    refine k_cond_d (p := (gi a0 0) = 9) rfl (fun hc => ?_) (fun hc => ?_)
                    · replace h := ite_t h hc
                      refine k_seq ?_
                      refine k_reg .free hmixP (by kernel_rfl) ?_
                      refine G_q rfl (op_move (av := .exact (.string (bs y38))) rfl ?_)
                      obtain ⟨n51, h⟩ := need_some h
                      refine G_q rfl (op_addS n51 rfl rfl ?_)
                      obtain ⟨n52, h⟩ := need_some h
                      refine G_q rfl (op_addS n52 rfl rfl ?_)
                      refine G_q rfl (op_assign (av := .exact (.string (bs (([112, 114, 111, 99, 40] ++ y38) ++ [41])))) rfl ?_)
                      refine G_nil ?_
                      refine kC_normal ?_
                      refine k_ret ?_
                      refine kB_ret ?_
                      refine kC_ret ?_
                      obtain rfl := Option.some.inj h
                      refine kP_any (endN (af' := (AF.put AF0 (some 4) (.exact (.string (bs (([112, 114, 111, 99, 40] ++ y38) ++ [41])))))) (σ' := []) _ rfl ?_ ⟨rfl, rfl⟩)
                      exact Sub.of_le (AF.le_put (AV.le_eq rfl) (AF.le_top _))
                    · replace h := ite_f h hc
                      refine k_skip ?_
                      refine kB_normal ?_
                      refine kC_normal ?_
                      refine k_seq ?_
                      refine k_reg .free hmixP (by kernel_rfl) ?_
                      refine G_q rfl (op_move (av := .exact (.string (bs y38))) rfl ?_)
                      obtain ⟨n53, h⟩ := need_some h
                      refine G_q rfl (op_addS n53 rfl rfl ?_)
                      obtain ⟨n54, h⟩ := need_some h
                      refine G_q rfl (op_addS n54 rfl rfl ?_)
                      refine G_q rfl (op_assign (av := .exact (.string (bs (([40] ++ y38) ++ [41])))) rfl ?_)
                      refine G_nil ?_
                      refine kC_normal ?_
                      refine k_ret ?_
                      obtain rfl := Option.some.inj h
                      refine kP_any (endN (af' := (AF.put AF0 (some 4) (.exact (.string (bs (([40] ++ y38) ++ [41])))))) (σ' := []) _ rfl ?_ ⟨rfl, rfl⟩)
                      exact Sub.of_le (AF.le_put (AV.le_eq rfl) (AF.le_top _))
set_option maxHeartbeats 4000000 in
theorem m_value_text_S_ok : ∀ n : Nat, (∀ (a0 : List UInt8) (a1 : List (List UInt8)) (r : (List UInt8)), m_value_text_S n a0 a1 = some r → Pure Tryz.prog 46 [(.exact (.string (bs a0))), (.row 1 c_string a1)] (.exact (.string (bs r))))
  | 0 => (fun _ _ _ h => by have h' : (none : Option _) = some _ := h; cases h')
  | n + 1 => by
    have ih := m_value_text_S_ok n
    exact fun a0 a1 r h => m_value_text_F_ok (m_value_text_S n) ih a0 a1 r h
theorem m_value_text_ok (a0 : List UInt8) (a1 : List (List UInt8)) (r : (List UInt8)) (h : m_value_text a0 a1 = some r) : Pure Tryz.prog 46 [(.exact (.string (bs a0))), (.row 1 c_string a1)] (.exact (.string (bs r))) := (m_value_text_S_ok FU) a0 a1 r h
set_option maxHeartbeats 4000000 in
theorem m_value_Text_ok (a0 : List UInt8) (a1 : List (List UInt8)) (r : (List UInt8)) (h : m_value_Text a0 a1 = some r) : Pure Tryz.prog 12 [(.exact (.string (bs a0))), (.row 1 c_string a1)] (.exact (.string (bs r))) := by
  unfold m_value_Text at h
  refine Pure.ofFun (fun_of_awp Tryz.func12 rfl Tryz.ntmps12 (by simp) rfl (res1 rfl) fun E hE => k_end ?_)
  refine k_seq ?_
  refine k_reg .free hmixP (by kernel_rfl) ?_
  refine G_q rfl (op_assign (av := .exact (.string (bs ([] : List UInt8)))) rfl ?_)
  refine G_nil ?_
  refine kC_normal ?_
  refine k_seq ?_
  refine k_seq ?_
  refine k_reg .free hmixP (by kernel_rfl) ?_
  refine G_q rfl (op_move (av := .exact (.string (bs a0))) rfl ?_)
  obtain ⟨y1, hy1, h⟩ := bnd1_some h
  refine G_q rfl (op_pure (m_value_Valid_ok _ _ hy1) Tryz.func43 (by kernel_rfl) (LEs.cons (AV.le_eq rfl) LEs.nil) ?_)
  refine G_q rfl (op_not rfl ?_)
  refine G_nil ?_
  refine kC_normal ?_
  refine k_cond_b (c := !y1) rfl (fun hc => ?_) (fun hc => ?_)
  · replace h := ite_t h hc
    refine k_seq ?_
    refine k_reg .free hmixP (by kernel_rfl) ?_
    refine G_q rfl (op_assign (av := .exact (.string (bs ([] : List UInt8)))) rfl ?_)
    refine G_nil ?_
    refine kC_normal ?_
    refine k_ret ?_
    refine kC_ret ?_
    obtain rfl := Option.some.inj h
    refine kP_any (endN (af' := (AF.put AF0 (some 4) (.exact (.string (bs ([] : List UInt8)))))) (σ' := []) _ rfl ?_ ⟨rfl, rfl⟩)
    exact Sub.of_le (AF.le_put (AV.le_eq rfl) (AF.le_top _))
  · replace h := ite_f h hc
    refine k_skip ?_
    refine kC_normal ?_
    refine k_seq ?_
    refine k_reg .free hmixP (by kernel_rfl) ?_
    refine G_q rfl (op_move (av := .exact (.string (bs a0))) rfl ?_)
    refine G_q rfl (op_move (av := .row 1 c_string a1) rfl ?_)
    obtain ⟨y2, hy2, h⟩ := bnd1_some h
    refine G_q rfl (op_pure (m_value_text_ok _ _ _ hy2) Tryz.func46 (by kernel_rfl) (LEs.cons (AV.le_eq rfl) (LEs.cons (AV.le_eq rfl) LEs.nil)) ?_)
    refine G_q rfl (op_assign (av := .exact (.string (bs y2))) rfl ?_)
    refine G_nil ?_
    refine kC_normal ?_
    refine k_ret ?_
    obtain rfl := Option.some.inj h
    refine kP_any (endN (af' := (AF.put AF0 (some 4) (.exact (.string (bs y2))))) (σ' := []) _ rfl ?_ ⟨rfl, rfl⟩)
    exact Sub.of_le (AF.le_put (AV.le_eq rfl) (AF.le_top _))
set_option maxHeartbeats 4000000 in
theorem m_law9_awake_ok  (r : Bool) (h : m_law9_awake = some r) : Pure Tryz.prog 11 [] (.exact (.bool r)) := by
  unfold m_law9_awake at h
  refine Pure.ofFun (fun_of_awp Tryz.func11 rfl Tryz.ntmps11 (by simp) rfl (res1 rfl) fun E hE => k_end ?_)
  refine k_seq ?_
  refine k_reg .free hmixP (by kernel_rfl) ?_
  refine G_q rfl (op_assign (av := .exact (.bool false)) rfl ?_)
  refine G_nil ?_
  refine kC_normal ?_
  refine k_seq ?_
  refine k_reg .free hmixP (by kernel_rfl) ?_
  obtain ⟨y1, hy1, h⟩ := bnd1_some h
  refine G_q rfl (op_pure (m_value_Int_ok _ _ hy1) Tryz.func26 (by kernel_rfl) (LEs.cons (AV.le_eq rfl) LEs.nil) ?_)
  obtain ⟨y2, hy2, h⟩ := bnd1_some h
  refine G_q rfl (op_pure (m_value_Int_ok _ _ hy2) Tryz.func26 (by kernel_rfl) (LEs.cons (AV.le_eq rfl) LEs.nil) ?_)
  obtain ⟨y3, hy3, h⟩ := bnd1_some h
  refine G_q rfl (op_pure (m_value_Int_ok _ _ hy3) Tryz.func26 (by kernel_rfl) (LEs.cons (AV.le_eq rfl) LEs.nil) ?_)
  refine G_q rfl (op_litT (n := 1) (enc := c_api_Value) [y1, y2, y3] (CellsAll.cons rfl CellsOf.str (CellsAll.cons rfl CellsOf.str (CellsAll.cons rfl CellsOf.str CellsAll.nil))) rfl (by kernel_rfl) (LEss.cons (LEs.cons (AV.le_eq rfl) LEs.nil) (LEss.cons (LEs.cons (AV.le_eq rfl) LEs.nil) (LEss.cons (LEs.cons (AV.le_eq rfl) LEs.nil) LEss.nil))) ?_)
  obtain ⟨y4, hy4, h⟩ := bnd1_some h
  refine G_q rfl (op_pure (m_value_Set_ok _ _ hy4) Tryz.func16 (by kernel_rfl) (LEs.cons (AV.le_eq rfl) LEs.nil) ?_)
  refine G_q rfl (op_assign (av := .exact (.string (bs y4))) rfl ?_)
  refine G_nil ?_
  refine kC_normal ?_
  refine k_join1_0 h (fun (x0_j5 : Bool) => (AF.put AF0 (some 0) (.exact (.bool x0_j5)))) (fun (x0_j5 : Bool) => []) (fun k5 h => ?_) (fun x0_j5 h => ?_)
  · refine k_reg .free hmixP (by kernel_rfl) ?_
    obtain ⟨y13, hy13, h⟩ := bnd1_some h
    refine G_q rfl (op_pure (m_value_Int_ok _ _ hy13) Tryz.func26 (by kernel_rfl) (LEs.cons (AV.le_eq rfl) LEs.nil) ?_)
    refine G_q rfl (op_eqlS rfl rfl ?_)
    refine G_q rfl (op_move (av := .exact (.bool (decide (y13 = [1, 0, 0, 0, 0, 0, 0, 0, 1])))) rfl ?_)
    refine G_split (p := y13 = [1, 0, 0, 0, 0, 0, 0, 0, 1]) 9 rfl (fun hc => ?_) (fun hc => ?_)
    · replace h := ite_t h hc
      refine Gy_q rfl rfl rfl (op_move (av := .exact (.string (bs y4))) rfl ?_)
      obtain ⟨y14, hy14, h⟩ := bnd1_some h
      refine Gy_q rfl rfl rfl (op_pure (m_value_Kind_ok _ _ hy14) Tryz.func21 (by kernel_rfl) (LEs.cons (AV.le_eq rfl) LEs.nil) ?_)
      refine Gy_q rfl rfl rfl (op_eql rfl rfl ?_)
      refine G_q rfl (op_pick_t rfl (av := .exact (.bool (decide (y14 = 5)))) rfl ?_)
      refine G_q rfl (op_move (av := .exact (.bool (decide (y14 = 5)))) rfl ?_)
      refine G_split (p := y14 = 5) 14 rfl (fun hc => ?_) (fun hc => ?_)
      · replace h := ite_t h hc
        refine Gy_q rfl rfl rfl (op_move (av := .exact (.string (bs y4))) rfl ?_)
        obtain ⟨y15, hy15, h⟩ := bnd1_some h
        refine Gy_q rfl rfl rfl (op_pure (m_value_Parts_ok _ _ hy15) Tryz.func23 (by kernel_rfl) (LEs.cons (AV.le_eq rfl) LEs.nil) ?_)
        refine Gy_q rfl rfl rfl (op_len_row (by kernel_rfl) rfl ?_)
        refine Gy_q rfl rfl rfl (op_eql rfl rfl ?_)
        refine G_q rfl (op_pick_t rfl (av := .exact (.bool (decide ((List.length y15 : Int) = 2)))) rfl ?_)
        refine G_q rfl (op_move (av := .exact (.bool (decide ((List.length y15 : Int) = 2)))) rfl ?_)
        refine G_split (p := (List.length y15 : Int) = 2) 20 rfl (fun hc => ?_) (fun hc => ?_)
        · replace h := ite_t h hc
          refine Gy_q rfl rfl rfl (op_move (av := .exact (.string (bs y4))) rfl ?_)
          obtain ⟨y16, hy16, h⟩ := bnd1_some h
          refine Gy_q rfl rfl rfl (op_pure (m_value_Text_ok _ _ _ hy16) Tryz.func12 (by kernel_rfl) (LEs.cons (AV.le_eq rfl) (LEs.cons (row_nil (by decide)) LEs.nil)) ?_)
          refine Gy_q rfl rfl rfl (op_eqlS rfl rfl ?_)
          refine G_q rfl (op_pick_t rfl (av := .exact (.bool (decide (y16 = [123, 49, 44, 32, 50, 125])))) rfl ?_)
          refine G_q rfl (op_move (av := .exact (.bool (decide (y16 = [123, 49, 44, 32, 50, 125])))) rfl ?_)
          refine G_split (p := y16 = [123, 49, 44, 32, 50, 125]) 25 rfl (fun hc => ?_) (fun hc => ?_)
          · replace h := ite_t h hc
            obtain ⟨y17, hy17, h⟩ := bnd1_some h
            refine Gy_q rfl rfl rfl (op_pure (m_value_Int_ok _ _ hy17) Tryz.func26 (by kernel_rfl) (LEs.cons (AV.le_eq rfl) LEs.nil) ?_)
            obtain ⟨y18, hy18, h⟩ := bnd1_some h
            refine Gy_q rfl rfl rfl (op_pure (m_value_Int_ok _ _ hy18) Tryz.func26 (by kernel_rfl) (LEs.cons (AV.le_eq rfl) LEs.nil) ?_)
            obtain ⟨y19, hy19, h⟩ := bnd1_some h
            refine Gy_q rfl rfl rfl (op_pure (m_value_Compare_ok _ _ _ hy19) Tryz.func10 (by kernel_rfl) (LEs.cons (AV.le_eq rfl) (LEs.cons (AV.le_eq rfl) LEs.nil)) ?_)
            refine Gy_q rfl rfl rfl (op_eql rfl rfl ?_)
            refine G_q rfl (op_pick_t rfl (av := .exact (.bool (decide (y19 = (-1))))) rfl ?_)
            refine G_q rfl (op_assign (av := .exact (.bool (decide (y19 = (-1))))) rfl ?_)
            refine G_nil ?_
            refine kI_normal ⟨_, h, ?_⟩
            exact Sub.of_le (AF.le_put (AV.le_eq rfl) (AF.le_top _))
          · replace h := ite_f h hc
            refine G_n rfl rfl ?_
            refine G_n rfl rfl ?_
            refine G_n rfl rfl ?_
            refine G_n rfl rfl ?_
            refine G_q rfl (op_pick_f rfl (av := .exact (.bool false)) rfl ?_)
            refine G_q rfl (op_assign (av := .exact (.bool false)) rfl ?_)
            refine G_nil ?_
            refine kI_normal ⟨_, h, ?_⟩
            exact Sub.of_le (AF.le_put (AV.le_eq rfl) (AF.le_top _))
        · replace h := ite_f h hc
          refine G_n rfl rfl ?_
          refine G_n rfl rfl ?_
          refine G_n rfl rfl ?_
          refine G_q rfl (op_pick_f rfl (av := .exact (.bool false)) rfl ?_)
          refine G_q rfl (op_move (av := .exact (.bool false)) rfl ?_)
          refine G_n rfl rfl ?_
          refine G_n rfl rfl ?_
          refine G_n rfl rfl ?_
          refine G_n rfl rfl ?_
          refine G_q rfl (op_pick_f rfl (av := .exact (.bool false)) rfl ?_)
          refine G_q rfl (op_assign (av := .exact (.bool false)) rfl ?_)
          refine G_nil ?_
          refine kI_normal ⟨_, h, ?_⟩
          exact Sub.of_le (AF.le_put (AV.le_eq rfl) (AF.le_top _))
      · replace h := ite_f h hc
        refine G_n rfl rfl ?_
        refine G_n rfl rfl ?_
        refine G_n rfl rfl ?_
        refine G_n rfl rfl ?_
        refine G_q rfl (op_pick_f rfl (av := .exact (.bool false)) rfl ?_)
        refine G_q rfl (op_move (av := .exact (.bool false)) rfl ?_)
        refine G_n rfl rfl ?_
        refine G_n rfl rfl ?_
        refine G_n rfl rfl ?_
        refine G_q rfl (op_pick_f rfl (av := .exact (.bool false)) rfl ?_)
        refine G_q rfl (op_move (av := .exact (.bool false)) rfl ?_)
        refine G_n rfl rfl ?_
        refine G_n rfl rfl ?_
        refine G_n rfl rfl ?_
        refine G_n rfl rfl ?_
        refine G_q rfl (op_pick_f rfl (av := .exact (.bool false)) rfl ?_)
        refine G_q rfl (op_assign (av := .exact (.bool false)) rfl ?_)
        refine G_nil ?_
        refine kI_normal ⟨_, h, ?_⟩
        exact Sub.of_le (AF.le_put (AV.le_eq rfl) (AF.le_top _))
    · replace h := ite_f h hc
      refine G_n rfl rfl ?_
      refine G_n rfl rfl ?_
      refine G_n rfl rfl ?_
      refine G_q rfl (op_pick_f rfl (av := .exact (.bool false)) rfl ?_)
      refine G_q rfl (op_move (av := .exact (.bool false)) rfl ?_)
      refine G_n rfl rfl ?_
      refine G_n rfl rfl ?_
      refine G_n rfl rfl ?_
      refine G_n rfl rfl ?_
      refine G_q rfl (op_pick_f rfl (av := .exact (.bool false)) rfl ?_)
      refine G_q rfl (op_move (av := .exact (.bool false)) rfl ?_)
      refine G_n rfl rfl ?_
      refine G_n rfl rfl ?_
      refine G_n rfl rfl ?_
      refine G_q rfl (op_pick_f rfl (av := .exact (.bool false)) rfl ?_)
      refine G_q rfl (op_move (av := .exact (.bool false)) rfl ?_)
      refine G_n rfl rfl ?_
      refine G_n rfl rfl ?_
      refine G_n rfl rfl ?_
      refine G_n rfl rfl ?_
      refine G_q rfl (op_pick_f rfl (av := .exact (.bool false)) rfl ?_)
      refine G_q rfl (op_assign (av := .exact (.bool false)) rfl ?_)
      refine G_nil ?_
      refine kI_normal ⟨_, h, ?_⟩
      exact Sub.of_le (AF.le_put (AV.le_eq rfl) (AF.le_top _))
  · refine k_ret ?_
    obtain rfl := Option.some.inj h
    refine kP_any (endN (af' := (AF.put AF0 (some 0) (.exact (.bool x0_j5)))) (σ' := []) _ rfl ?_ ⟨rfl, rfl⟩)
    exact Sub.of_le (AF.le_put (AV.le_eq rfl) (AF.le_top _))
set_option maxHeartbeats 4000000 in
theorem m_value_Bool_ok (a0 : Bool) (r : (List UInt8)) (h : m_value_Bool a0 = some r) : Pure Tryz.prog 28 [(.exact (.bool a0))] (.exact (.string (bs r))) := by
  unfold m_value_Bool at h
  refine Pure.ofFun (fun_of_awp Tryz.func28 rfl Tryz.ntmps28 (by simp) rfl (res1 rfl) fun E hE => k_end ?_)
  refine k_seq ?_
  refine k_reg .free hmixP (by kernel_rfl) ?_
  refine G_q rfl (op_assign (av := .exact (.string (bs ([] : List UInt8)))) rfl ?_)
  refine G_nil ?_
  refine kC_normal ?_
  refine k_seq ?_
  refine k_seq ?_
  refine k_reg .free hmixP (by kernel_rfl) ?_
  refine G_q rfl (op_move (av := .exact (.bool a0)) rfl ?_)
  refine G_nil ?_
  refine kC_normal ?_
  refine k_cond_b (c := a0) rfl (fun hc => ?_) (fun hc => ?_)
  · replace h := ite_t h hc
    refine k_seq ?_
    refine k_reg .free hmixP (by kernel_rfl) ?_
    refine G_q rfl (op_litT (n := 1) (enc := c_uint8) [2, 1] (CellsAll.cons rfl CellsOf.int (CellsAll.cons rfl CellsOf.int CellsAll.nil)) rfl (by kernel_rfl) (LEss.cons (LEs.cons (AV.le_eq rfl) LEs.nil) (LEss.cons (LEs.cons (AV.le_eq rfl) LEs.nil) LEss.nil)) ?_)
    refine G_q rfl (op_bytesS rfl (by kernel_rfl) rfl ?_)
    refine G_q rfl (op_assign (av := .exact (.string (bs [2, 1]))) rfl ?_)
    refine G_nil ?_
    refine kC_normal ?_
    refine k_ret ?_
    refine kC_ret ?_
    obtain rfl := Option.some.inj h
    refine kP_any (endN (af' := (AF.put AF0 (some 2) (.exact (.string (bs [2, 1]))))) (σ' := []) _ rfl ?_ ⟨rfl, rfl⟩)
    exact Sub.of_le (AF.le_put (AV.le_eq rfl) (AF.le_top _))
  · replace h := ite_f h hc
    refine k_skip ?_
    refine kC_normal ?_
    refine k_seq ?_
    refine k_reg .free hmixP (by kernel_rfl) ?_
    refine G_q rfl (op_litT (n := 1) (enc := c_uint8) [2, 0] (CellsAll.cons rfl CellsOf.int (CellsAll.cons rfl CellsOf.int CellsAll.nil)) rfl (by kernel_rfl) (LEss.cons (LEs.cons (AV.le_eq rfl) LEs.nil) (LEss.cons (LEs.cons (AV.le_eq rfl) LEs.nil) LEss.nil)) ?_)
    refine G_q rfl (op_bytesS rfl (by kernel_rfl) rfl ?_)
    refine G_q rfl (op_assign (av := .exact (.string (bs [2, 0]))) rfl ?_)
    refine G_nil ?_
    refine kC_normal ?_
    refine k_ret ?_
    obtain rfl := Option.some.inj h
    refine kP_any (endN (af' := (AF.put AF0 (some 2) (.exact (.string (bs [2, 0]))))) (σ' := []) _ rfl ?_ ⟨rfl, rfl⟩)
    exact Sub.of_le (AF.le_put (AV.le_eq rfl) (AF.le_top _))
set_option maxHeartbeats 4000000 in
theorem m_value_Name_ok (a0 : Int) (r : (List UInt8)) (h : m_value_Name a0 = some r) : Pure Tryz.prog 30 [(.exact (.int .i64 a0))] (.exact (.string (bs r))) := by
  unfold m_value_Name at h
  refine Pure.ofFun (fun_of_awp Tryz.func30 rfl Tryz.ntmps30 (by simp) rfl (res1 rfl) fun E hE => k_end ?_)
  refine k_seq ?_
  refine k_reg .free hmixP (by kernel_rfl) ?_
  refine G_q rfl (op_assign (av := .exact (.string (bs ([] : List UInt8)))) rfl ?_)
  refine G_nil ?_
  refine kC_normal ?_
  refine k_seq ?_
  refine k_join1_0 h (fun (x8_j3 : Bool) => (AF.put (AF.put AF0 (some 0) (.exact (.int .i64 a0))) (some 8) (.exact (.bool x8_j3)))) (fun (x8_j3 : Bool) => []) (fun k3 h => ?_) (fun x8_j3 h => ?_)
  · refine k_reg .free hmixP (by kernel_rfl) ?_
    refine G_q rfl (op_move (av := .exact (.int .i64 a0)) rfl ?_)
    refine G_q rfl (op_lss rfl rfl ?_)
    refine G_q rfl (op_move (av := .exact (.bool (decide (a0 < 0)))) rfl ?_)
    refine G_split (p := a0 < 0) 5 rfl (fun hc => ?_) (fun hc => ?_)
    · replace h := ite_t h hc
      refine G_n rfl rfl ?_
      refine G_n rfl rfl ?_
      refine G_q rfl (op_pick_t rfl (av := .exact (.bool true)) rfl ?_)
      refine G_nil ?_
      refine kI_normal ⟨_, h, ?_⟩
      exact Sub.of_le (AF.le_put (AV.le_eq rfl) (AF.le_put (AV.le_eq rfl) (AF.le_top _)))
    · replace h := ite_f h hc
      refine Gy_q rfl rfl rfl (op_move (av := .exact (.int .i64 a0)) rfl ?_)
      refine Gy_q rfl rfl rfl (op_gtr rfl rfl ?_)
      refine G_q rfl (op_pick_f rfl (av := .exact (.bool (decide (65535 < a0)))) rfl ?_)
      refine G_nil ?_
      refine kI_normal ⟨_, h, ?_⟩
      exact Sub.of_le (AF.le_put (AV.le_eq rfl) (AF.le_put (AV.le_eq rfl) (AF.le_top _)))
  · refine k_cond_b (c := x8_j3) rfl (fun hc => ?_) (fun hc => ?_)
    · replace h := ite_t h hc
      refine k_seq ?_
      refine k_reg .free hmixP (by kernel_rfl) ?_
      refine G_q rfl (op_assign (av := .exact (.string (bs ([] : List UInt8)))) rfl ?_)
      refine G_nil ?_
      refine kC_normal ?_
      refine k_ret ?_
      refine kC_ret ?_
      obtain rfl := Option.some.inj h
      refine kP_any (endN (af' := (AF.put AF0 (some 2) (.exact (.string (bs ([] : List UInt8)))))) (σ' := []) _ rfl ?_ ⟨rfl, rfl⟩)
      exact Sub.of_le (AF.le_put (AV.le_eq rfl) (AF.le_top _))
    · replace h := ite_f h hc
      refine k_skip ?_
      refine kC_normal ?_
      refine k_seq ?_
      refine k_reg .free hmixP (by kernel_rfl) ?_
      refine G_l rfl (op_litI (n := 1) (enc := c_uint8) [10] (by kernel_rfl) (CellsAll.cons rfl CellsOf.int CellsAll.nil) rfl (by kernel_rfl) (LEss.cons (LEs.cons (AV.le_eq rfl) LEs.nil) LEss.nil) (fun v4 => ?_))
      refine G_q rfl (op_move (av := .exact (.int .i64 a0)) rfl ?_)
      refine G_q rfl (op_convInt (k := .u16) (by kernel_rfl) rfl rfl ?_)
      obtain ⟨y5, hy5, h⟩ := bnd1_some h
      refine G_l rfl (op_fun_1_1_1 (m_value_append16_ok _ _ _ hy5) Tryz.func60 (by kernel_rfl) (LEs.cons (AV.le_eq rfl) (LEs.cons (AV.le_eq rfl) LEs.nil)) (fun v6 => ?_))
      refine G_r rfl (op_bytesS_bor rfl (by kernel_rfl) (Bor.vec (List.Mem.head _) len_c_uint8) ?_)
      refine G_q rfl (op_assign (av := .exact (.string (bs y5))) rfl ?_)
      refine G_nil ?_
      refine kC_normal ?_
      refine k_ret ?_
      obtain rfl := Option.some.inj h
      refine kP_any (endN (af' := (AF.put AF0 (some 2) (.exact (.string (bs y5))))) (σ' := []) _ rfl ?_ ⟨rfl, rfl⟩)
      refine Sub.trans (SubU.to SubU.drop) ?_
      exact Sub.of_le (AF.le_put (AV.le_eq rfl) (AF.le_top _))
set_option maxHeartbeats 4000000 in
theorem m_value_Tuple_ok (a0 : List (List UInt8)) (r : (List UInt8)) (h : m_value_Tuple a0 = some r) : Pure Tryz.prog 32 [(.row 1 c_api_Value a0)] (.exact (.string (bs r))) := by
  unfold m_value_Tuple at h
  refine Pure.ofFun (fun_of_awp Tryz.func32 rfl Tryz.ntmps32 (by simp) rfl (res1 rfl) fun E hE => k_end ?_)
  refine k_seq ?_
  refine k_reg .free hmixP (by kernel_rfl) ?_
  refine G_q rfl (op_assign (av := .exact (.string (bs ([] : List UInt8)))) rfl ?_)
  refine G_nil ?_
  refine kC_normal ?_
  refine k_seq ?_
  refine k_reg .free hmixP (by kernel_rfl) ?_
  refine G_q rfl (op_move (av := .row 1 c_api_Value a0) rfl ?_)
  obtain ⟨y1, hy1, h⟩ := bnd1_some h
  refine G_q rfl (op_pure (m_value_compound_ok _ _ _ hy1) Tryz.func52 (by kernel_rfl) (LEs.cons (AV.le_eq rfl) (LEs.cons (AV.le_eq rfl) LEs.nil)) ?_)
  refine G_q rfl (op_assign (av := .exact (.string (bs y1))) rfl ?_)
  refine G_nil ?_
  refine kC_normal ?_
  refine k_ret ?_
  obtain rfl := Option.some.inj h
  refine kP_any (endN (af' := (AF.put AF0 (some 2) (.exact (.string (bs y1))))) (σ' := []) _ rfl ?_ ⟨rfl, rfl⟩)
  exact Sub.of_le (AF.le_put (AV.le_eq rfl) (AF.le_top _))
set_option maxHeartbeats 4000000 in
theorem m_value_Seq_ok (a0 : List (List UInt8)) (r : (List UInt8)) (h : m_value_Seq a0 = some r) : Pure Tryz.prog 19 [(.row 1 c_api_Value a0)] (.exact (.string (bs r))) := by
  unfold m_value_Seq at h
  refine Pure.ofFun (fun_of_awp Tryz.func19 rfl Tryz.ntmps19 (by simp) rfl (res1 rfl) fun E hE => k_end ?_)
  refine k_seq ?_
  refine k_reg .free hmixP (by kernel_rfl) ?_
  refine G_q rfl (op_assign (av := .exact (.string (bs ([] : List UInt8)))) rfl ?_)
  refine G_nil ?_
  refine kC_normal ?_
  refine k_seq ?_
  refine k_reg .free hmixP (by kernel_rfl) ?_
  refine G_q rfl (op_move (av := .row 1 c_api_Value a0) rfl ?_)
  obtain ⟨y1, hy1, h⟩ := bnd1_some h
  refine G_q rfl (op_pure (m_value_compound_ok _ _ _ hy1) Tryz.func52 (by kernel_rfl) (LEs.cons (AV.le_eq rfl) (LEs.cons (AV.le_eq rfl) LEs.nil)) ?_)
  refine G_q rfl (op_assign (av := .exact (.string (bs y1))) rfl ?_)
  refine G_nil ?_
  refine kC_normal ?_
  refine k_ret ?_
  obtain rfl := Option.some.inj h
  refine kP_any (endN (af' := (AF.put AF0 (some 2) (.exact (.string (bs y1))))) (σ' := []) _ rfl ?_ ⟨rfl, rfl⟩)
  exact Sub.of_le (AF.le_put (AV.le_eq rfl) (AF.le_top _))
set_option maxHeartbeats 4000000 in
theorem m_value_Map_1_ok (a0 : Int) (a1 : Int) (a2 : List (List UInt8)) (r : Int) (h : m_value_Map_1 a0 a1 a2 = some r) : Pure Tryz.prog 65 [(.exact (.int .i64 a0)), (.exact (.int .i64 a1)), (.ptr [.row 1 c_api_Value a2])] (.exact (.int .i64 r)) := by
  unfold m_value_Map_1 at h
  refine Pure.ofFun (fun_of_awp Tryz.func65 rfl Tryz.ntmps65 (by simp) rfl (res1 rfl) fun E hE => k_end ?_)
  refine k_seq ?_
  refine k_reg .free hmixP (by kernel_rfl) ?_
  refine G_q rfl (op_assign (av := .exact (.int .i64 0)) rfl ?_)
  refine G_nil ?_
  refine kC_normal ?_
  refine k_seq ?_
  refine k_plan [] [(0, 0), (0, 1), (0, 2), (0, 3), (0, 4), (0, 5), (0, 6), (0, 7), (0, 8), (0, 9)] hmixP (by kernel_rfl) ?_
  refine P_q no34_0 rfl (op_load1p (a := .row 1 c_api_Value a2) (by kernel_rfl) rfl rfl ?_)
  refine P_q no34_0 rfl (op_move (av := .exact (.int .i64 a0)) rfl ?_)
  obtain ⟨n1, h⟩ := need_some h
  refine P_q no34_0 rfl (op_index_row (by kernel_rfl) rfl rfl n1.1 n1.2 ?_)
  refine P_q no34_0 rfl (op_load1p (a := .exact (.string (bs (gi a2 a0)))) (by kernel_rfl) rfl rfl ?_)
  refine P_q no34_0 rfl (op_load1p (a := .row 1 c_api_Value a2) (by kernel_rfl) rfl rfl ?_)
  refine P_q no34_0 rfl (op_move (av := .exact (.int .i64 a1)) rfl ?_)
  obtain ⟨n2, h⟩ := need_some h
  refine P_q no34_0 rfl (op_index_row (by kernel_rfl) rfl rfl n2.1 n2.2 ?_)
  refine P_q no34_0 rfl (op_load1p (a := .exact (.string (bs (gi a2 a1)))) (by kernel_rfl) rfl rfl ?_)
  obtain ⟨y3, hy3, h⟩ := bnd1_some h
  refine P_q no34_0 rfl (op_pure (m_value_Compare_ok _ _ _ hy3) Tryz.func10 (by kernel_rfl) (LEs.cons (AV.le_eq rfl) (LEs.cons (AV.le_eq rfl) LEs.nil)) ?_)
  refine P_q no34_0 rfl (op_assign (av := .exact (.int .i64 y3)) rfl ?_)
  refine P_nil ?_
  refine kC_normal ?_
  refine k_ret ?_
  obtain rfl := Option.some.inj h
  refine kP_any (endN (af' := (AF.put AF0 (some 5) (.exact (.int .i64 y3)))) (σ' := []) _ rfl ?_ ⟨rfl, rfl⟩)
  exact Sub.of_le (AF.le_put (AV.le_eq rfl) (AF.le_top _))
end Go.Proofs.YtdppkpiagdaigaaGreatDoor
/- The functions compute their models, by program. -/
namespace Go.Proofs.YtdppkpiagdaigaaGreatDoor
open Go.RowKit
attribute [local irreducible] AV.exact AV.top AV.row AV.ptr AV.agg AV.tup AV.eptr AV.fn AV.nilq AV.nilqn opA opB opM opR Quiet Loud Reads wpG awp den Sub SubU Pure Fun vecI vecT boxI CellsAll CellsOf OneC LEs LEss
set_option maxRecDepth 100000

set_option maxHeartbeats 4000000 in
theorem m_value_Map_ok (a0 : List (List UInt8)) (a1 : List (List UInt8)) (r : (List UInt8)) (h : m_value_Map a0 a1 = some r) : Pure Tryz.prog 35 [(.row 1 c_api_Value a0), (.row 1 c_api_Value a1)] (.exact (.string (bs r))) := by
  unfold m_value_Map at h
  refine Pure.ofFun (fun_of_awp Tryz.func35 rfl Tryz.ntmps35 (by simp) rfl (res1 rfl) fun E hE => k_end ?_)
  refine k_seq ?_
  refine k_reg .free hmixP (by kernel_rfl) ?_
  refine G_l rfl (op_boxI (c := [.row 1 c_api_Value a0]) rfl CellsOf.row (LEs.cons (AV.le_eq rfl) LEs.nil) (fun b1 => ?_))
  refine G_q rfl (op_assign (av := .exact (.string (bs ([] : List UInt8)))) rfl ?_)
  refine G_nil ?_
  refine kC_normal ?_
  refine k_seq ?_
  refine k_join1_0 h (fun (x22_j6 : Bool) => (AF.put (AF.put (AF.put AF0 (some 1) (.row 1 c_api_Value a1)) (some 2) (pA b1 0)) (some 22) (.exact (.bool x22_j6)))) (fun (x22_j6 : Bool) => [boxI 27 b1 [.row 1 c_api_Value a0]]) (fun k6 h => ?_) (fun x22_j6 h => ?_)
  · refine k_plan [] [(0, 2), (0, 3), (1, 0), (0, 1), (0, 4), (0, 5), (1, 6), (0, 7), (0, 8), (1, 9), (0, 10), (0, 11), (0, 12)] hmixP (by kernel_rfl) ?_
    refine P_q no34_0 rfl (op_move (av := .row 1 c_api_Value a1) rfl ?_)
    refine P_q no34_0 rfl (op_len_row (by kernel_rfl) rfl ?_)
    refine P_r rfl (op_load_box1 (a := .row 1 c_api_Value a0) (by kernel_rfl) rfl rfl ?_)
    refine P_q no34_0 rfl (op_len_row (by kernel_rfl) rfl ?_)
    refine P_q no34_0 rfl (op_neq rfl rfl ?_)
    refine P_q no34_0 rfl (op_move (av := .exact (.bool (decide (¬ (List.length a0 : Int) = (List.length a1 : Int))))) rfl ?_)
    refine P_split (p := ¬ (List.length a0 : Int) = (List.length a1 : Int)) 15 rfl (fun hc => ?_) (fun hc => ?_)
    · replace h := ite_t h hc
      refine P_n no34_1 rfl rfl rfl ?_
      refine P_n no34_0 rfl rfl rfl ?_
      refine P_n no34_0 rfl rfl rfl ?_
      refine P_n no34_1 rfl rfl rfl ?_
      refine P_n no34_0 rfl rfl rfl ?_
      refine P_n no34_0 rfl rfl rfl ?_
      refine P_q no34_0 rfl (op_pick_t rfl (av := .exact (.bool true)) rfl ?_)
      refine P_nil ?_
      refine kI_normal ⟨_, h, ?_⟩
      exact Sub.of_le (AF.le_put (AV.le_eq rfl) (AF.le_put (AV.le_eq rfl) (AF.le_put (AV.le_eq rfl) (AF.le_top _))))
    · replace h := ite_f h hc
      refine Py_r rfl rfl rfl (op_load_box1 (a := .row 1 c_api_Value a0) (by kernel_rfl) rfl rfl ?_)
      obtain ⟨y8, hy8, h⟩ := bnd1_some h
      refine Py_q no34_0 rfl rfl rfl (op_pure (m_value_Sort_ok _ _ hy8) Tryz.func53 (by kernel_rfl) (LEs.cons (AV.le_eq rfl) LEs.nil) ?_)
      refine Py_q no34_0 rfl rfl rfl (op_len_row (by kernel_rfl) rfl ?_)
      refine Py_r rfl rfl rfl (op_load_box1 (a := .row 1 c_api_Value a0) (by kernel_rfl) rfl rfl ?_)
      refine Py_q no34_0 rfl rfl rfl (op_len_row (by kernel_rfl) rfl ?_)
      refine Py_q no34_0 rfl rfl rfl (op_neq rfl rfl ?_)
      refine P_q no34_0 rfl (op_pick_f rfl (av := .exact (.bool (decide (¬ (List.length y8 : Int) = (List.length a0 : Int))))) rfl ?_)
      refine P_nil ?_
      refine kI_normal ⟨_, h, ?_⟩
      exact Sub.of_le (AF.le_put (AV.le_eq rfl) (AF.le_put (AV.le_eq rfl) (AF.le_put (AV.le_eq rfl) (AF.le_top _))))
  · refine k_cond_b (c := x22_j6) rfl (fun hc => ?_) (fun hc => ?_)
    · replace h := ite_t h hc
      refine k_seq ?_
      refine k_reg .free hmixP (by kernel_rfl) ?_
      refine G_q rfl (op_assign (av := .exact (.string (bs ([] : List UInt8)))) rfl ?_)
      refine G_nil ?_
      refine kC_normal ?_
      refine k_ret ?_
      refine kC_ret ?_
      obtain rfl := Option.some.inj h
      refine kP_any (endN (af' := (AF.put AF0 (some 4) (.exact (.string (bs ([] : List UInt8)))))) (σ' := []) _ rfl ?_ ⟨rfl, rfl⟩)
      refine Sub.trans (SubU.to SubU.drop) ?_
      exact Sub.of_le (AF.le_put (AV.le_eq rfl) (AF.le_top _))
    · replace h := ite_f h hc
      refine k_skip ?_
      refine kC_normal ?_
      refine k_seq ?_
      refine k_reg .free hmixP (by kernel_rfl) ?_
      refine G_r rfl (op_load_box1 (a := .row 1 c_api_Value a0) (by kernel_rfl) rfl rfl ?_)
      refine G_q rfl (op_len_row (by kernel_rfl) rfl ?_)
      obtain ⟨n9, h⟩ := need_some h
      refine G_l rfl (op_make (enc := c_int) (zr := (0 : Int)) (by kernel_rfl) rfl rfl n9.1 n9.2 len_c_int Tryz.zeroValue3 (fun _ _ => (Fit.ex Fit.nil0)) (fun v10 => ?_))
      refine G_q rfl (op_assign (av := .exact v10) rfl ?_)
      refine G_nil ?_
      refine kC_normal ?_
      refine k_join1_0 h (fun (x5_j11 : List Int) => (AF.put (AF.put (AF.put AF0 (some 1) (.row 1 c_api_Value a1)) (some 2) (pA b1 0)) (some 5) (.exact v10))) (fun (x5_j11 : List Int) => [boxI 27 b1 [.row 1 c_api_Value a0], vecT Tryz.prog 22 1 c_int v10 x5_j11]) (fun k11 h => ?_) (fun x5_j11 h => ?_)
      · refine k_seq ?_
        refine k_reg .free hmixP (by kernel_rfl) ?_
        refine G_q rfl (op_move (av := .exact v10) rfl ?_)
        refine G_r rfl (op_len_vec (by kernel_rfl) rfl ?_)
        refine G_q rfl (op_move (av := .exact (.int .i64 0)) rfl ?_)
        refine G_nil ?_
        refine kC_normal ?_
        refine k_block ?_
        refine k_loop2_0 (m_value_Map_L2 a0 k11) (m_value_Map_B2 a0 k11) (fun _ _ => rfl) (fun m _ _ => rfl) h (fun (x5_l2 : List Int) (x28_l2 : Int) => (AF.put (AF.put (AF.put (AF.put (AF.put AF0 (some 1) (.row 1 c_api_Value a1)) (some 2) (pA b1 0)) (some 5) (.exact v10)) (some 27) (.exact (.int .i64 (List.length (List.replicate (Int.toNat (List.length a0 : Int)) (0 : Int)) : Int)))) (some 28) (.exact (.int .i64 x28_l2)))) (fun (x5_l2 : List Int) (x28_l2 : Int) => [boxI 27 b1 [.row 1 c_api_Value a0], vecT Tryz.prog 22 1 c_int v10 x5_l2]) ?_ (fun rec2 x5_l2 x28_l2 h => ?_)
        · refine Sub.trans (SubU.to SubU.f1) ?_
          exact Sub.of_le (AF.le_put (AV.le_eq rfl) (AF.le_put (AV.le_eq rfl) (AF.le_put (AV.le_eq rfl) (AF.le_put (AV.le_eq rfl) (AF.le_put (AV.le_eq rfl) (AF.le_top _))))))
        · unfold m_value_Map_B2 at h
          refine k_seq ?_
          refine k_reg .free hmixP (by kernel_rfl) ?_
          refine G_q rfl (op_lss rfl rfl ?_)
          refine G_nil ?_
          refine kC_normal ?_
          refine k_seq ?_
          refine k_cond_d (p := x28_l2 < (List.length (List.replicate (Int.toNat (List.length a0 : Int)) (0 : Int)) : Int)) rfl (fun hc => ?_) (fun hc => ?_)
          · replace h := ite_t h hc
            refine k_skip ?_
            refine kC_normal ?_
            refine k_seq ?_
            refine k_block ?_
            refine k_seq ?_
            refine k_reg .free hmixP (by kernel_rfl) ?_
            refine G_q rfl (op_move (av := .exact (.int .i64 x28_l2)) rfl ?_)
            refine G_q rfl (op_assign (av := .exact (.int .i64 x28_l2)) rfl ?_)
            refine G_nil ?_
            refine kC_normal ?_
            refine k_reg .free hmixP (by kernel_rfl) ?_
            refine G_q rfl (op_move (av := .exact v10) rfl ?_)
            refine G_q rfl (op_move (av := .exact (.int .i64 x28_l2)) rfl ?_)
            refine G_q rfl (op_move (av := .exact (.int .i64 x28_l2)) rfl ?_)
            obtain ⟨n18, h⟩ := need_some h
            refine G_r rfl (opR_f1 (op_index_vec (by kernel_rfl) rfl rfl n18.1 n18.2 ?_))
            refine G_l rfl (opB_f1 (op_store_vec (i := x28_l2) (o := 0) (z := x28_l2) (c' := [.exact (.int .i64 x28_l2)]) (by kernel_rfl) len_c_int rfl n18.1 n18.2 rfl CellsOf.int (LEs.cons (AV.le_eq rfl) LEs.nil) (OneC.int OneC.nil) (by kernel_rfl) (Nat.le_of_ble_eq_true rfl) rfl ?_))
            refine G_nil ?_
            refine kB_normal ?_
            refine kC_normal ?_
            refine k_reg .free hmixP (by kernel_rfl) ?_
            refine G_q rfl (op_add rfl rfl rfl ?_)
            refine G_q rfl (op_move (av := .exact (.int .i64 (i64 (x28_l2 + 1)))) rfl ?_)
            refine G_nil ?_
            refine kI_normal ⟨_, _, h, ?_⟩
            refine Sub.trans (SubU.to SubU.f1) ?_
            exact Sub.of_le (AF.le_put (AV.le_eq rfl) (AF.le_put (AV.le_eq rfl) (AF.le_put (AV.le_eq rfl) (AF.le_put (AV.le_eq rfl) (AF.le_put (AV.le_eq rfl) (AF.le_top _))))))
          · replace h := ite_f h hc
            refine k_exit ?_
            refine kC_exit ?_
            refine kI_exit ?_
            refine kB_exit ?_
            refine kI_normal ⟨_, h, ?_⟩
            exact Sub.of_le (AF.le_put (AV.le_eq rfl) (AF.le_put (AV.le_eq rfl) (AF.le_put (AV.le_eq rfl) (AF.le_top _))))
      · refine k_seq ?_
        refine k_reg .free hmixP (by kernel_rfl) ?_
        refine G_q rfl (op_move (av := .exact v10) rfl ?_)
        refine G_sub rfl (SubU.freezeBox (s := 2) rfl) ?_
        refine G_q rfl (op_makeFunc (args := (fun (i : Int × Int) => [.exact (.int .i64 i.1), .exact (.int .i64 i.2)])) (f := (fun (i : Int × Int) => (fun (x0 : Int) (x1 : Int) => m_value_Map_1 x0 x1 a0) i.1 i.2)) (res := (fun (r : Int) => .exact (.int .i64 r))) Tryz.func65 (by kernel_rfl) [.ptr [.row 1 c_api_Value a0]] (LEs.cons (AV.le_eq rfl) LEs.nil) (fun i r h => m_value_Map_1_ok i.1 i.2 a0 r h) ?_)
        obtain ⟨y19, hy19, h⟩ := bnd1_some h
        refine G_l rfl (op_fun_1_0_1 (m_sort_int_on_ok _ _ _ hy19) Tryz.func64 (by kernel_rfl) (LEs.cons (AV.le_eq rfl) (LEs.cons (AV.le_eq rfl) LEs.nil)) ?_)
        refine G_nil ?_
        refine kC_normal ?_
        refine k_seq ?_
        refine k_reg .free hmixP (by kernel_rfl) ?_
        refine G_q rfl (op_assign (av := .exact (.slice none 0 0)) rfl ?_)
        refine G_nil ?_
        refine kC_normal ?_
        refine k_join1_1 h (fun (x7_j20 : List (List UInt8)) (v7_j20 : Value) => (AF.put AF0 (some 7) (.exact v7_j20))) (fun (x7_j20 : List (List UInt8)) (v7_j20 : Value) => [vecT Tryz.prog 27 1 c_api_Value v7_j20 x7_j20]) (fun k20 h => ?_) (fun x7_j20 v7_j20 h => ?_)
        · refine k_seq ?_
          refine k_reg .free hmixP (by kernel_rfl) ?_
          refine G_q rfl (op_move (av := .exact v10) rfl ?_)
          refine G_r rfl (op_len_vec (by kernel_rfl) rfl ?_)
          refine G_q rfl (op_move (av := .exact (.int .i64 0)) rfl ?_)
          refine G_nil ?_
          refine kC_normal ?_
          refine k_block ?_
          refine k_loop2_1 (m_value_Map_L4 a0 a1 y19 k20) (m_value_Map_B4 a0 a1 y19 k20) (fun _ _ => rfl) (fun m _ _ => rfl) h (fun (x7_l4 : List (List UInt8)) (x41_l4 : Int) (v7_l4 : Value) => (AF.put (AF.put (AF.put (AF.put (AF.put (AF.put AF0 (some 1) (.row 1 c_api_Value a1)) (some 2) (.ptr [.row 1 c_api_Value a0])) (some 7) (.exact v7_l4)) (some 39) (.exact v10)) (some 40) (.exact (.int .i64 (List.length y19 : Int)))) (some 41) (.exact (.int .i64 x41_l4)))) (fun (x7_l4 : List (List UInt8)) (x41_l4 : Int) (v7_l4 : Value) => [vecT Tryz.prog 27 1 c_api_Value v7_l4 x7_l4, vecT Tryz.prog 22 1 c_int v10 y19]) (.slice none 0 0) ?_ (fun rec4 x7_l4 x41_l4 v7_l4 h => ?_)
          · refine Sub.trans (SubU.to (SubU.nilT (P := Tryz.prog) (t := 27) (n := 1) (enc := c_api_Value))) ?_
            exact Sub.of_le (AF.le_put (AV.le_eq rfl) (AF.le_put (AV.le_eq rfl) (AF.le_put (AV.le_eq rfl) (AF.le_put (AV.le_eq rfl) (AF.le_put (AV.le_eq rfl) (AF.le_put (AV.le_eq rfl) (AF.le_top _)))))))
          · unfold m_value_Map_B4 at h
            refine k_seq ?_
            refine k_reg .free hmixP (by kernel_rfl) ?_
            refine G_q rfl (op_lss rfl rfl ?_)
            refine G_nil ?_
            refine kC_normal ?_
            refine k_seq ?_
            refine k_cond_d (p := x41_l4 < (List.length y19 : Int)) rfl (fun hc => ?_) (fun hc => ?_)
            · replace h := ite_t h hc
              refine k_skip ?_
              refine kC_normal ?_
              refine k_seq ?_
              refine k_block ?_
              refine k_seq ?_
              refine k_reg .free hmixP (by kernel_rfl) ?_
              obtain ⟨n47, h⟩ := need_some h
              refine G_r rfl (opR_f1 (op_index_vec (by kernel_rfl) rfl rfl n47.1 n47.2 ?_))
              refine G_r rfl (opR_f1 (op_load_vec1 (i := x41_l4) (o := 0) (a := .exact (.int .i64 (gi y19 x41_l4))) (by kernel_rfl) len_c_int rfl n47.1 n47.2 rfl ?_))
              refine G_q rfl (op_assign (av := .exact (.int .i64 (gi y19 x41_l4))) rfl ?_)
              refine G_nil ?_
              refine kC_normal ?_
              refine k_plan [] [(0, 0), (0, 1), (0, 2), (0, 3), (0, 4), (0, 5), (0, 6), (0, 7), (0, 8), (0, 9), (2, 10), (0, 11)] hmixP (by kernel_rfl) ?_
              refine P_q no34_0 rfl (op_move (av := .exact v7_l4) rfl ?_)
              refine P_q no34_0 rfl (op_load1p (a := .row 1 c_api_Value a0) (by kernel_rfl) rfl rfl ?_)
              refine P_q no34_0 rfl (op_move (av := .exact (.int .i64 (gi y19 x41_l4))) rfl ?_)
              obtain ⟨n48, h⟩ := need_some h
              refine P_q no34_0 rfl (op_index_row (by kernel_rfl) rfl rfl n48.1 n48.2 ?_)
              refine P_q no34_0 rfl (op_load1p (a := .exact (.string (bs (gi a0 (gi y19 x41_l4))))) (by kernel_rfl) rfl rfl ?_)
              refine P_q no34_0 rfl (op_move (av := .row 1 c_api_Value a1) rfl ?_)
              refine P_q no34_0 rfl (op_move (av := .exact (.int .i64 (gi y19 x41_l4))) rfl ?_)
              obtain ⟨n49, h⟩ := need_some h
              refine P_q no34_0 rfl (op_index_row (by kernel_rfl) rfl rfl n49.1 n49.2 ?_)
              refine P_q no34_0 rfl (op_load1p (a := .exact (.string (bs (gi a1 (gi y19 x41_l4))))) (by kernel_rfl) rfl rfl ?_)
              refine P_q no34_0 rfl (op_litT (n := 1) (enc := c_api_Value) [gi a0 (gi y19 x41_l4), gi a1 (gi y19 x41_l4)] (CellsAll.cons rfl CellsOf.str (CellsAll.cons rfl CellsOf.str CellsAll.nil)) rfl (by kernel_rfl) (LEss.cons (LEs.cons (AV.le_eq rfl) LEs.nil) (LEss.cons (LEs.cons (AV.le_eq rfl) LEs.nil) LEss.nil)) ?_)
              obtain ⟨n50, h⟩ := need_some h
              refine P_l rfl (op_appT (by kernel_rfl) rfl rfl oc_c_api_Value n50 (fun v51 => ?_))
              refine P_q no34_0 rfl (op_assign (av := .exact v51) rfl ?_)
              refine P_nil ?_
              refine kB_normal ?_
              refine kC_normal ?_
              refine k_reg .free hmixP (by kernel_rfl) ?_
              refine G_q rfl (op_add rfl rfl rfl ?_)
              refine G_q rfl (op_move (av := .exact (.int .i64 (i64 (x41_l4 + 1)))) rfl ?_)
              refine G_nil ?_
              refine kI_normal ⟨_, _, v51, h, ?_⟩
              exact Sub.of_le (AF.le_put (AV.le_eq rfl) (AF.le_put (AV.le_eq rfl) (AF.le_put (AV.le_eq rfl) (AF.le_put (AV.le_eq rfl) (AF.le_put (AV.le_eq rfl) (AF.le_put (AV.le_eq rfl) (AF.le_top _)))))))
            · replace h := ite_f h hc
              refine k_exit ?_
              refine kC_exit ?_
              refine kI_exit ?_
              refine kB_exit ?_
              refine kI_normal ⟨_, v7_l4, h, ?_⟩
              refine Sub.trans (SubU.to SubU.f1) ?_
              refine Sub.trans (SubU.to SubU.drop) ?_
              exact Sub.of_le (AF.le_put (AV.le_eq rfl) (AF.le_top _))
        · refine k_seq ?_
          refine k_reg .free hmixP (by kernel_rfl) ?_
          refine G_q rfl (op_move (av := .exact v7_j20) rfl ?_)
          refine G_sub rfl (SubU.freezeT2 (s1 := 7) (s2 := 57) rfl rfl len_c_api_Value) ?_
          obtain ⟨y52, hy52, h⟩ := bnd1_some h
          refine G_q rfl (op_pure (m_value_compound_ok _ _ _ hy52) Tryz.func52 (by kernel_rfl) (LEs.cons (AV.le_eq rfl) (LEs.cons (AV.le_eq rfl) LEs.nil)) ?_)
          refine G_q rfl (op_assign (av := .exact (.string (bs y52))) rfl ?_)
          refine G_nil ?_
          refine kC_normal ?_
          refine k_ret ?_
          obtain rfl := Option.some.inj h
          refine kP_any (endN (af' := (AF.put AF0 (some 4) (.exact (.string (bs y52))))) (σ' := []) _ rfl ?_ ⟨rfl, rfl⟩)
          exact Sub.of_le (AF.le_put (AV.le_eq rfl) (AF.le_top _))
set_option maxHeartbeats 4000000 in
theorem m_value_Dot_ok (a0 : Int) (a1 : List (List UInt8)) (r : (List UInt8)) (h : m_value_Dot a0 a1 = some r) : Pure Tryz.prog 20 [(.exact (.int .i64 a0)), (.row 1 c_api_Value a1)] (.exact (.string (bs r))) := by
  unfold m_value_Dot at h
  refine Pure.ofFun (fun_of_awp Tryz.func20 rfl Tryz.ntmps20 (by simp) rfl (res1 rfl) fun E hE => k_end ?_)
  refine k_seq ?_
  refine k_reg .free hmixP (by kernel_rfl) ?_
  refine G_q rfl (op_assign (av := .exact (.string (bs ([] : List UInt8)))) rfl ?_)
  refine G_nil ?_
  refine kC_normal ?_
  refine k_seq ?_
  refine k_reg .free hmixP (by kernel_rfl) ?_
  refine G_q rfl (op_move (av := .exact (.int .i64 a0)) rfl ?_)
  obtain ⟨y1, hy1, h⟩ := bnd1_some h
  refine G_q rfl (op_pure (m_value_Name_ok _ _ hy1) Tryz.func30 (by kernel_rfl) (LEs.cons (AV.le_eq rfl) LEs.nil) ?_)
  refine G_l rfl (op_litI (n := 1) (enc := c_api_Value) [y1] (by kernel_rfl) (CellsAll.cons rfl CellsOf.str CellsAll.nil) rfl (by kernel_rfl) (LEss.cons (LEs.cons (AV.le_eq rfl) LEs.nil) LEss.nil) (fun v2 => ?_))
  refine G_q rfl (op_move (av := .row 1 c_api_Value a1) rfl ?_)
  obtain ⟨n3, h⟩ := need_some h
  refine G_l rfl (op_appT (by kernel_rfl) rfl rfl oc_c_api_Value n3 (fun v4 => ?_))
  refine G_sub rfl (SubU.freezeT (s := 9) rfl len_c_api_Value) ?_
  obtain ⟨y5, hy5, h⟩ := bnd1_some h
  refine G_q rfl (op_pure (m_value_compound_ok _ _ _ hy5) Tryz.func52 (by kernel_rfl) (LEs.cons (AV.le_eq rfl) (LEs.cons (AV.le_eq rfl) LEs.nil)) ?_)
  refine G_q rfl (op_assign (av := .exact (.string (bs y5))) rfl ?_)
  refine G_nil ?_
  refine kC_normal ?_
  refine k_ret ?_
  obtain rfl := Option.some.inj h
  refine kP_any (endN (af' := (AF.put AF0 (some 4) (.exact (.string (bs y5))))) (σ' := []) _ rfl ?_ ⟨rfl, rfl⟩)
  exact Sub.of_le (AF.le_put (AV.le_eq rfl) (AF.le_top _))
set_option maxHeartbeats 4000000 in
theorem m_value_Fun_ok (a0 : Int) (a1 : List (List UInt8)) (r : (List UInt8)) (h : m_value_Fun a0 a1 = some r) : Pure Tryz.prog 38 [(.exact (.int .i64 a0)), (.row 1 c_api_Value a1)] (.exact (.string (bs r))) := by
  unfold m_value_Fun at h
  refine Pure.ofFun (fun_of_awp Tryz.func38 rfl Tryz.ntmps38 (by simp) rfl (res1 rfl) fun E hE => k_end ?_)
  refine k_seq ?_
  refine k_reg .free hmixP (by kernel_rfl) ?_
  refine G_q rfl (op_assign (av := .exact (.string (bs ([] : List UInt8)))) rfl ?_)
  refine G_nil ?_
  refine kC_normal ?_
  refine k_seq ?_
  refine k_reg .free hmixP (by kernel_rfl) ?_
  refine G_q rfl (op_move (av := .exact (.int .i64 a0)) rfl ?_)
  obtain ⟨y1, hy1, h⟩ := bnd1_some h
  refine G_q rfl (op_pure (m_value_Int_ok _ _ hy1) Tryz.func26 (by kernel_rfl) (LEs.cons (AV.le_eq rfl) LEs.nil) ?_)
  refine G_l rfl (op_litI (n := 1) (enc := c_api_Value) [y1] (by kernel_rfl) (CellsAll.cons rfl CellsOf.str CellsAll.nil) rfl (by kernel_rfl) (LEss.cons (LEs.cons (AV.le_eq rfl) LEs.nil) LEss.nil) (fun v2 => ?_))
  refine G_q rfl (op_move (av := .row 1 c_api_Value a1) rfl ?_)
  obtain ⟨n3, h⟩ := need_some h
  refine G_l rfl (op_appT (by kernel_rfl) rfl rfl oc_c_api_Value n3 (fun v4 => ?_))
  refine G_sub rfl (SubU.freezeT (s := 9) rfl len_c_api_Value) ?_
  obtain ⟨y5, hy5, h⟩ := bnd1_some h
  refine G_q rfl (op_pure (m_value_compound_ok _ _ _ hy5) Tryz.func52 (by kernel_rfl) (LEs.cons (AV.le_eq rfl) (LEs.cons (AV.le_eq rfl) LEs.nil)) ?_)
  refine G_q rfl (op_assign (av := .exact (.string (bs y5))) rfl ?_)
  refine G_nil ?_
  refine kC_normal ?_
  refine k_ret ?_
  obtain rfl := Option.some.inj h
  refine kP_any (endN (af' := (AF.put AF0 (some 4) (.exact (.string (bs y5))))) (σ' := []) _ rfl ?_ ⟨rfl, rfl⟩)
  exact Sub.of_le (AF.le_put (AV.le_eq rfl) (AF.le_top _))
set_option maxHeartbeats 4000000 in
theorem m_law9_fun_ok (a0 : Int) (a1 : List (List UInt8)) (r : (List UInt8)) (h : m_law9_fun a0 a1 = some r) : Pure Tryz.prog 39 [(.exact (.int .i64 a0)), (.row 1 c_api_Value a1)] (.exact (.string (bs r))) := by
  unfold m_law9_fun at h
  refine Pure.ofFun (fun_of_awp Tryz.func39 rfl Tryz.ntmps39 (by simp) rfl (res1 rfl) fun E hE => k_end ?_)
  refine k_seq ?_
  refine k_reg .free hmixP (by kernel_rfl) ?_
  refine G_q rfl (op_assign (av := .exact (.string (bs ([] : List UInt8)))) rfl ?_)
  refine G_nil ?_
  refine kC_normal ?_
  refine k_seq ?_
  refine k_reg .free hmixP (by kernel_rfl) ?_
  refine G_q rfl (op_move (av := .exact (.int .i64 a0)) rfl ?_)
  refine G_q rfl (op_move (av := .row 1 c_api_Value a1) rfl ?_)
  obtain ⟨y1, hy1, h⟩ := bnd1_some h
  refine G_q rfl (op_pure (m_ref9_Numbered_ok _ _ _ _ hy1) Tryz.func41 (by kernel_rfl) (LEs.cons (AV.le_eq rfl) (LEs.cons (AV.le_eq rfl) (LEs.cons (AV.le_eq rfl) LEs.nil))) ?_)
  refine G_q rfl (op_assign (av := .exact (.string (bs y1))) rfl ?_)
  refine G_nil ?_
  refine kC_normal ?_
  refine k_ret ?_
  obtain rfl := Option.some.inj h
  refine kP_any (endN (af' := (AF.put AF0 (some 4) (.exact (.string (bs y1))))) (σ' := []) _ rfl ?_ ⟨rfl, rfl⟩)
  exact Sub.of_le (AF.le_put (AV.le_eq rfl) (AF.le_top _))
set_option maxHeartbeats 4000000 in
theorem m_value_Proc_ok (a0 : Int) (a1 : List (List UInt8)) (r : (List UInt8)) (h : m_value_Proc a0 a1 = some r) : Pure Tryz.prog 40 [(.exact (.int .i64 a0)), (.row 1 c_api_Value a1)] (.exact (.string (bs r))) := by
  unfold m_value_Proc at h
  refine Pure.ofFun (fun_of_awp Tryz.func40 rfl Tryz.ntmps40 (by simp) rfl (res1 rfl) fun E hE => k_end ?_)
  refine k_seq ?_
  refine k_reg .free hmixP (by kernel_rfl) ?_
  refine G_q rfl (op_assign (av := .exact (.string (bs ([] : List UInt8)))) rfl ?_)
  refine G_nil ?_
  refine kC_normal ?_
  refine k_seq ?_
  refine k_reg .free hmixP (by kernel_rfl) ?_
  refine G_q rfl (op_move (av := .exact (.int .i64 a0)) rfl ?_)
  obtain ⟨y1, hy1, h⟩ := bnd1_some h
  refine G_q rfl (op_pure (m_value_Int_ok _ _ hy1) Tryz.func26 (by kernel_rfl) (LEs.cons (AV.le_eq rfl) LEs.nil) ?_)
  refine G_l rfl (op_litI (n := 1) (enc := c_api_Value) [y1] (by kernel_rfl) (CellsAll.cons rfl CellsOf.str CellsAll.nil) rfl (by kernel_rfl) (LEss.cons (LEs.cons (AV.le_eq rfl) LEs.nil) LEss.nil) (fun v2 => ?_))
  refine G_q rfl (op_move (av := .row 1 c_api_Value a1) rfl ?_)
  obtain ⟨n3, h⟩ := need_some h
  refine G_l rfl (op_appT (by kernel_rfl) rfl rfl oc_c_api_Value n3 (fun v4 => ?_))
  refine G_sub rfl (SubU.freezeT (s := 9) rfl len_c_api_Value) ?_
  obtain ⟨y5, hy5, h⟩ := bnd1_some h
  refine G_q rfl (op_pure (m_value_compound_ok _ _ _ hy5) Tryz.func52 (by kernel_rfl) (LEs.cons (AV.le_eq rfl) (LEs.cons (AV.le_eq rfl) LEs.nil)) ?_)
  refine G_q rfl (op_assign (av := .exact (.string (bs y5))) rfl ?_)
  refine G_nil ?_
  refine kC_normal ?_
  refine k_ret ?_
  obtain rfl := Option.some.inj h
  refine kP_any (endN (af' := (AF.put AF0 (some 4) (.exact (.string (bs y5))))) (σ' := []) _ rfl ?_ ⟨rfl, rfl⟩)
  exact Sub.of_le (AF.le_put (AV.le_eq rfl) (AF.le_top _))
set_option maxHeartbeats 4000000 in
theorem m_law9_ValueMakes_ok (a0 : Int) (a1 : Bool) (a2 : Int) (a3 : List (List UInt8)) (a4 : List (List UInt8)) (a5 : List Int) (r : Bool) (h : m_law9_ValueMakes a0 a1 a2 a3 a4 a5 = some r) : Pure Tryz.prog 7 [(.exact (.int .i64 a0)), (.exact (.bool a1)), (.exact (.int .i64 a2)), (.row 1 c_api_Value a3), (.row 1 c_api_Value a4), (.row 1 c_int a5)] (.exact (.bool r)) := by
  unfold m_law9_ValueMakes at h
  refine Pure.ofFun (fun_of_awp Tryz.func7 rfl Tryz.ntmps7 (by simp) rfl (res1 rfl) fun E hE => k_end ?_)
  refine k_seq ?_
  refine k_reg .free hmixP (by kernel_rfl) ?_
  refine G_q rfl (op_assign (av := .exact (.bool false)) rfl ?_)
  refine G_nil ?_
  refine kC_normal ?_
  refine k_seq ?_
  refine k_reg .free hmixP (by kernel_rfl) ?_
  refine G_q rfl (op_move (av := .row 1 c_int a5) rfl ?_)
  obtain ⟨y1, hy1, h⟩ := bnd1_some h
  refine G_l rfl (op_fun_0_1_1 (m_gen_New_ok _ _ hy1) Tryz.func8 (by kernel_rfl) (LEs.cons (AV.le_eq rfl) LEs.nil) (fun b2 => ?_))
  refine G_q rfl (op_assign (av := pA b2 0) rfl ?_)
  refine G_nil ?_
  refine kC_normal ?_
  refine k_seq ?_
  refine k_reg .free hmixP (by kernel_rfl) ?_
  refine G_q rfl (op_move (av := pA b2 0) rfl ?_)
  obtain ⟨y3, hy3, h⟩ := bnd1_some h
  refine G_l rfl (op_fun_1_0_1 (m_gen_Choices_Values_ok m_gen_Choices_Value m_gen_Choices_Value_all _ _ _ _ hy3) Tryz.func14 (by kernel_rfl) (LEs.cons (AV.le_eq rfl) (LEs.cons (AV.le_eq rfl) (LEs.cons (AV.le_eq rfl) LEs.nil))) ?_)
  refine G_q rfl (op_assign (av := .row 1 c_api_Value y3.1) rfl ?_)
  refine G_nil ?_
  refine kC_normal ?_
  refine k_seq ?_
  refine k_reg .free hmixP (by kernel_rfl) ?_
  refine G_q rfl (op_assign (av := .exact (.slice none 0 0)) rfl ?_)
  refine G_nil ?_
  refine kC_normal ?_
  refine k_join1_1 h (fun (x15_j4 : List (List UInt8)) (v15_j4 : Value) => (AF.put (AF.put (AF.put (AF.put (AF.put (AF.put (AF.put AF0 (some 0) (.exact (.int .i64 a0))) (some 1) (.exact (.bool a1))) (some 2) (.exact (.int .i64 a2))) (some 3) (.row 1 c_api_Value a3)) (some 4) (.row 1 c_api_Value a4)) (some 14) (.row 1 c_api_Value y3.1)) (some 15) (.exact v15_j4))) (fun (x15_j4 : List (List UInt8)) (v15_j4 : Value) => [vecT Tryz.prog 27 1 c_api_Value v15_j4 x15_j4]) (fun k4 h => ?_) (fun x15_j4 v15_j4 h => ?_)
  · refine k_seq ?_
    refine k_reg .free hmixP (by kernel_rfl) ?_
    refine G_q rfl (op_assign (av := .exact (.int .i64 0)) rfl ?_)
    refine G_nil ?_
    refine kC_normal ?_
    refine k_block ?_
    refine k_loop4_1 (m_law9_ValueMakes_L2 y3 k4) (m_law9_ValueMakes_B2 y3 k4) (fun _ _ _ _ => rfl) (fun m _ _ _ _ => rfl) h (fun (x13_0_l2 : List Int) (x13_1_l2 : Int) (x15_l2 : List (List UInt8)) (x16_l2 : Int) (v15_l2 : Value) => (AF.put (AF.put (AF.put (AF.put (AF.put (AF.put (AF.put (AF.put (AF.put AF0 (some 0) (.exact (.int .i64 a0))) (some 1) (.exact (.bool a1))) (some 2) (.exact (.int .i64 a2))) (some 3) (.row 1 c_api_Value a3)) (some 4) (.row 1 c_api_Value a4)) (some 13) (pA b2 0)) (some 14) (.row 1 c_api_Value y3.1)) (some 15) (.exact v15_l2)) (some 16) (.exact (.int .i64 x16_l2)))) (fun (x13_0_l2 : List Int) (x13_1_l2 : Int) (x15_l2 : List (List UInt8)) (x16_l2 : Int) (v15_l2 : Value) => [boxI 53 b2 [.row 1 c_int x13_0_l2, .exact (.int .i64 x13_1_l2)], vecT Tryz.prog 27 1 c_api_Value v15_l2 x15_l2]) (.slice none 0 0) ?_ (fun rec2 x13_0_l2 x13_1_l2 x15_l2 x16_l2 v15_l2 h => ?_)
    · refine Sub.trans (SubU.to (SubU.nilT (P := Tryz.prog) (t := 27) (n := 1) (enc := c_api_Value))) ?_
      refine Sub.trans (SubU.to SubU.f1) ?_
      exact Sub.of_le (AF.le_put (AV.le_eq rfl) (AF.le_put (AV.le_eq rfl) (AF.le_put (AV.le_eq rfl) (AF.le_put (AV.le_eq rfl) (AF.le_put (AV.le_eq rfl) (AF.le_put (AV.le_eq rfl) (AF.le_put (AV.le_eq rfl) (AF.le_put (AV.le_eq rfl) (AF.le_put (AV.le_eq rfl) (AF.le_top _))))))))))
    · unfold m_law9_ValueMakes_B2 at h
      refine k_seq ?_
      refine k_seq ?_
      refine k_reg .free hmixP (by kernel_rfl) ?_
      refine G_q rfl (op_move (av := .exact (.int .i64 x16_l2)) rfl ?_)
      refine G_q rfl (op_move (av := .row 1 c_api_Value y3.1) rfl ?_)
      refine G_q rfl (op_len_row (by kernel_rfl) rfl ?_)
      refine G_q rfl (op_lss rfl rfl ?_)
      refine G_nil ?_
      refine kC_normal ?_
      refine k_cond_d (p := x16_l2 < (List.length y3.1 : Int)) rfl (fun hc => ?_) (fun hc => ?_)
      · replace h := ite_t h hc
        refine k_skip ?_
        refine kC_normal ?_
        refine k_seq ?_
        refine k_block ?_
        refine k_reg .free hmixP (by kernel_rfl) ?_
        refine G_q rfl (op_move (av := .exact v15_l2) rfl ?_)
        refine G_q rfl (op_move (av := pA b2 0) rfl ?_)
        obtain ⟨y21, hy21, h⟩ := bnd1_some h
        refine G_l rfl (op_fun_1_0_1 (m_gen_Choices_Value_ok _ _ _ hy21) Tryz.func9 (by kernel_rfl) (LEs.cons (AV.le_eq rfl) (LEs.cons (AV.le_eq rfl) LEs.nil)) ?_)
        refine G_q rfl (op_litT (n := 1) (enc := c_api_Value) [y21.1] (CellsAll.cons rfl CellsOf.str CellsAll.nil) rfl (by kernel_rfl) (LEss.cons (LEs.cons (AV.le_eq rfl) LEs.nil) LEss.nil) ?_)
        obtain ⟨n22, h⟩ := need_some h
        refine G_l rfl (opB_f1 (op_appT (by kernel_rfl) rfl rfl oc_c_api_Value n22 (fun v23 => ?_)))
        refine G_q rfl (op_assign (av := .exact v23) rfl ?_)
        refine G_nil ?_
        refine kB_normal ?_
        refine kC_normal ?_
        refine k_reg .free hmixP (by kernel_rfl) ?_
        refine G_q rfl (op_move (av := .exact (.int .i64 x16_l2)) rfl ?_)
        refine G_q rfl (op_add rfl rfl rfl ?_)
        refine G_q rfl (op_assign (av := .exact (.int .i64 (i64 (x16_l2 + 1)))) rfl ?_)
        refine G_nil ?_
        refine kI_normal ⟨_, _, _, _, v23, h, ?_⟩
        refine Sub.trans (SubU.to SubU.f1) ?_
        exact Sub.of_le (AF.le_put (AV.le_eq rfl) (AF.le_put (AV.le_eq rfl) (AF.le_put (AV.le_eq rfl) (AF.le_put (AV.le_eq rfl) (AF.le_put (AV.le_eq rfl) (AF.le_put (AV.le_eq rfl) (AF.le_put (AV.le_eq rfl) (AF.le_put (AV.le_eq rfl) (AF.le_put (AV.le_eq rfl) (AF.le_top _))))))))))
      · replace h := ite_f h hc
        refine k_exit ?_
        refine kC_exit ?_
        refine kI_exit ?_
        refine kB_exit ?_
        refine kI_normal ⟨_, v15_l2, h, ?_⟩
        refine Sub.trans (SubU.to SubU.drop) ?_
        exact Sub.of_le (AF.le_put (AV.le_eq rfl) (AF.le_put (AV.le_eq rfl) (AF.le_put (AV.le_eq rfl) (AF.le_put (AV.le_eq rfl) (AF.le_put (AV.le_eq rfl) (AF.le_put (AV.le_eq rfl) (AF.le_put (AV.le_eq rfl) (AF.le_top _))))))))
  · refine k_seq ?_
    refine k_join1_0 h (fun (x55_j40 : Bool) => (AF.put (AF.put (AF.put (AF.put (AF.put (AF.put AF0 (some 2) (.exact (.int .i64 a2))) (some 3) (.row 1 c_api_Value a3)) (some 4) (.row 1 c_api_Value a4)) (some 14) (.row 1 c_api_Value y3.1)) (some 15) (.exact v15_j4)) (some 55) (.exact (.bool x55_j40)))) (fun (x55_j40 : Bool) => [vecT Tryz.prog 27 1 c_api_Value v15_j4 x15_j4]) (fun k40 h => ?_) (fun x55_j40 h => ?_)
    · refine k_reg .free hmixP (by kernel_rfl) ?_
      obtain ⟨y48, hy48, h⟩ := bnd1_some h
      refine G_q rfl (op_pure (m_law9_awake_ok _ hy48) Tryz.func11 (by kernel_rfl) LEs.nil ?_)
      refine G_q rfl (op_not rfl ?_)
      refine G_q rfl (op_move (av := .exact (.bool (!y48))) rfl ?_)
      refine G_splitB (c := !y48) 35 rfl (fun hc => ?_) (fun hc => ?_)
      · replace h := ite_t h hc
        refine G_n rfl rfl ?_
        refine G_n rfl rfl ?_
        refine G_n rfl rfl ?_
        refine G_n rfl rfl ?_
        refine G_n rfl rfl ?_
        refine G_q rfl (op_pick_t rfl (av := .exact (.bool true)) rfl ?_)
        refine G_q rfl (op_move (av := .exact (.bool true)) rfl ?_)
        refine G_n rfl rfl ?_
        refine G_n rfl rfl ?_
        refine G_n rfl rfl ?_
        refine G_n rfl rfl ?_
        refine G_n rfl rfl ?_
        refine G_q rfl (op_pick_t rfl (av := .exact (.bool true)) rfl ?_)
        refine G_q rfl (op_move (av := .exact (.bool true)) rfl ?_)
        refine G_n rfl rfl ?_
        refine G_n rfl rfl ?_
        refine G_n rfl rfl ?_
        refine G_n rfl rfl ?_
        refine G_n rfl rfl ?_
        refine G_q rfl (op_pick_t rfl (av := .exact (.bool true)) rfl ?_)
        refine G_nil ?_
        refine kI_normal ⟨_, h, ?_⟩
        exact Sub.of_le (AF.le_put (AV.le_eq rfl) (AF.le_put (AV.le_eq rfl) (AF.le_put (AV.le_eq rfl) (AF.le_put (AV.le_eq rfl) (AF.le_put (AV.le_eq rfl) (AF.le_put (AV.le_eq rfl) (AF.le_top _)))))))
      · replace h := ite_f h hc
        refine Gy_q rfl rfl rfl (op_move (av := .exact (.int .i64 a0)) rfl ?_)
        obtain ⟨y49, hy49, h⟩ := bnd1_some h
        refine Gy_q rfl rfl rfl (op_pure (m_value_Int_ok _ _ hy49) Tryz.func26 (by kernel_rfl) (LEs.cons (AV.le_eq rfl) LEs.nil) ?_)
        refine Gy_q rfl rfl rfl (op_move (av := .exact (.int .i64 a0)) rfl ?_)
        obtain ⟨y50, hy50, h⟩ := bnd1_some h
        refine Gy_q rfl rfl rfl (op_pure (m_ref9_Int_ok _ _ hy50) Tryz.func27 (by kernel_rfl) (LEs.cons (AV.le_eq rfl) LEs.nil) ?_)
        refine Gy_q rfl rfl rfl (op_neqS rfl rfl ?_)
        refine G_q rfl (op_pick_f rfl (av := .exact (.bool (decide (¬ y49 = y50)))) rfl ?_)
        refine G_q rfl (op_move (av := .exact (.bool (decide (¬ y49 = y50)))) rfl ?_)
        refine G_split (p := ¬ y49 = y50) 42 rfl (fun hc => ?_) (fun hc => ?_)
        · replace h := ite_t h hc
          refine G_n rfl rfl ?_
          refine G_n rfl rfl ?_
          refine G_n rfl rfl ?_
          refine G_n rfl rfl ?_
          refine G_n rfl rfl ?_
          refine G_q rfl (op_pick_t rfl (av := .exact (.bool true)) rfl ?_)
          refine G_q rfl (op_move (av := .exact (.bool true)) rfl ?_)
          refine G_n rfl rfl ?_
          refine G_n rfl rfl ?_
          refine G_n rfl rfl ?_
          refine G_n rfl rfl ?_
          refine G_n rfl rfl ?_
          refine G_q rfl (op_pick_t rfl (av := .exact (.bool true)) rfl ?_)
          refine G_nil ?_
          refine kI_normal ⟨_, h, ?_⟩
          exact Sub.of_le (AF.le_put (AV.le_eq rfl) (AF.le_put (AV.le_eq rfl) (AF.le_put (AV.le_eq rfl) (AF.le_put (AV.le_eq rfl) (AF.le_put (AV.le_eq rfl) (AF.le_put (AV.le_eq rfl) (AF.le_top _)))))))
        · replace h := ite_f h hc
          refine Gy_q rfl rfl rfl (op_move (av := .exact (.bool a1)) rfl ?_)
          obtain ⟨y51, hy51, h⟩ := bnd1_some h
          refine Gy_q rfl rfl rfl (op_pure (m_value_Bool_ok _ _ hy51) Tryz.func28 (by kernel_rfl) (LEs.cons (AV.le_eq rfl) LEs.nil) ?_)
          refine Gy_q rfl rfl rfl (op_move (av := .exact (.bool a1)) rfl ?_)
          obtain ⟨y52, hy52, h⟩ := bnd1_some h
          refine Gy_q rfl rfl rfl (op_pure (m_ref9_Bool_ok _ _ hy52) Tryz.func29 (by kernel_rfl) (LEs.cons (AV.le_eq rfl) LEs.nil) ?_)
          refine Gy_q rfl rfl rfl (op_neqS rfl rfl ?_)
          refine G_q rfl (op_pick_f rfl (av := .exact (.bool (decide (¬ y51 = y52)))) rfl ?_)
          refine G_q rfl (op_move (av := .exact (.bool (decide (¬ y51 = y52)))) rfl ?_)
          refine G_split (p := ¬ y51 = y52) 49 rfl (fun hc => ?_) (fun hc => ?_)
          · replace h := ite_t h hc
            refine G_n rfl rfl ?_
            refine G_n rfl rfl ?_
            refine G_n rfl rfl ?_
            refine G_n rfl rfl ?_
            refine G_n rfl rfl ?_
            refine G_q rfl (op_pick_t rfl (av := .exact (.bool true)) rfl ?_)
            refine G_nil ?_
            refine kI_normal ⟨_, h, ?_⟩
            exact Sub.of_le (AF.le_put (AV.le_eq rfl) (AF.le_put (AV.le_eq rfl) (AF.le_put (AV.le_eq rfl) (AF.le_put (AV.le_eq rfl) (AF.le_put (AV.le_eq rfl) (AF.le_put (AV.le_eq rfl) (AF.le_top _)))))))
          · replace h := ite_f h hc
            refine Gy_q rfl rfl rfl (op_move (av := .exact (.int .i64 a2)) rfl ?_)
            obtain ⟨y53, hy53, h⟩ := bnd1_some h
            refine Gy_q rfl rfl rfl (op_pure (m_value_Name_ok _ _ hy53) Tryz.func30 (by kernel_rfl) (LEs.cons (AV.le_eq rfl) LEs.nil) ?_)
            refine Gy_q rfl rfl rfl (op_move (av := .exact (.int .i64 a2)) rfl ?_)
            obtain ⟨y54, hy54, h⟩ := bnd1_some h
            refine Gy_q rfl rfl rfl (op_pure (m_ref9_Name_ok _ _ hy54) Tryz.func31 (by kernel_rfl) (LEs.cons (AV.le_eq rfl) LEs.nil) ?_)
            refine Gy_q rfl rfl rfl (op_neqS rfl rfl ?_)
            refine G_q rfl (op_pick_f rfl (av := .exact (.bool (decide (¬ y53 = y54)))) rfl ?_)
            refine G_nil ?_
            refine kI_normal ⟨_, h, ?_⟩
            exact Sub.of_le (AF.le_put (AV.le_eq rfl) (AF.le_put (AV.le_eq rfl) (AF.le_put (AV.le_eq rfl) (AF.le_put (AV.le_eq rfl) (AF.le_put (AV.le_eq rfl) (AF.le_put (AV.le_eq rfl) (AF.le_top _)))))))
    · refine k_cond_b (c := x55_j40) rfl (fun hc => ?_) (fun hc => ?_)
      · replace h := ite_t h hc
        refine k_seq ?_
        refine k_reg .free hmixP (by kernel_rfl) ?_
        refine G_q rfl (op_assign (av := .exact (.bool false)) rfl ?_)
        refine G_nil ?_
        refine kC_normal ?_
        refine k_ret ?_
        refine kC_ret ?_
        obtain rfl := Option.some.inj h
        refine kP_any (endN (af' := (AF.put AF0 (some 12) (.exact (.bool false)))) (σ' := []) _ rfl ?_ ⟨rfl, rfl⟩)
        refine Sub.trans (SubU.to SubU.drop) ?_
        exact Sub.of_le (AF.le_put (AV.le_eq rfl) (AF.le_top _))
      · replace h := ite_f h hc
        refine k_skip ?_
        refine kC_normal ?_
        refine k_join0_0 h (AF0) ([]) (fun k55 h => ?_) (fun  h => ?_)
        · refine k_seq ?_
          refine k_reg .free hmixP (by kernel_rfl) ?_
          refine G_q rfl (op_assign (av := .exact (.int .i64 0)) rfl ?_)
          refine G_nil ?_
          refine kC_normal ?_
          refine k_block ?_
          refine k_loop5_0 (m_law9_ValueMakes_L4 y3 k55) (m_law9_ValueMakes_B4 y3 k55) (fun _ _ _ _ _ => rfl) (fun m _ _ _ _ _ => rfl) h (fun (x2_l4 : Int) (x3_l4 : List (List UInt8)) (x4_l4 : List (List UInt8)) (x15_l4 : List (List UInt8)) (x17_l4 : Int) => (AF.put (AF.put (AF.put (AF.put (AF.put (AF.put AF0 (some 2) (.exact (.int .i64 x2_l4))) (some 3) (.row 1 c_api_Value x3_l4)) (some 4) (.row 1 c_api_Value x4_l4)) (some 14) (.row 1 c_api_Value y3.1)) (some 15) (.row 1 c_api_Value x15_l4)) (some 17) (.exact (.int .i64 x17_l4)))) (fun (x2_l4 : Int) (x3_l4 : List (List UInt8)) (x4_l4 : List (List UInt8)) (x15_l4 : List (List UInt8)) (x17_l4 : Int) => []) ?_ (fun rec4 x2_l4 x3_l4 x4_l4 x15_l4 x17_l4 h => ?_)
          · refine Sub.trans (SubU.to (SubU.freezeT (s := 15) rfl len_c_api_Value)) ?_
            exact Sub.of_le (AF.le_put (AV.le_eq rfl) (AF.le_put (AV.le_eq rfl) (AF.le_put (AV.le_eq rfl) (AF.le_put (AV.le_eq rfl) (AF.le_put (AV.le_eq rfl) (AF.le_put (AV.le_eq rfl) (AF.le_top _)))))))
          · unfold m_law9_ValueMakes_B4 at h
            refine k_seq ?_
            refine k_seq ?_
            refine k_reg .free hmixP (by kernel_rfl) ?_
            refine G_q rfl (op_move (av := .exact (.int .i64 x17_l4)) rfl ?_)
            refine G_q rfl (op_lss rfl rfl ?_)
            refine G_nil ?_
            refine kC_normal ?_
            refine k_cond_d (p := x17_l4 < 2) rfl (fun hc => ?_) (fun hc => ?_)
            · replace h := ite_t h hc
              refine k_skip ?_
              refine kC_normal ?_
              refine k_seq ?_
              refine k_block ?_
              refine k_seq ?_
              refine k_join1_0 h (fun (x114_j753 : Bool) => (AF.put (AF.put (AF.put (AF.put (AF.put AF0 (some 2) (.exact (.int .i64 x2_l4))) (some 14) (.row 1 c_api_Value y3.1)) (some 15) (.row 1 c_api_Value x15_l4)) (some 17) (.exact (.int .i64 x17_l4))) (some 114) (.exact (.bool x114_j753)))) (fun (x114_j753 : Bool) => []) (fun k753 h => ?_) (fun x114_j753 h => ?_)
              · refine k_reg .free hmixP (by kernel_rfl) ?_
                refine G_q rfl (op_move (av := .row 1 c_api_Value x3_l4) rfl ?_)
                obtain ⟨y768, hy768, h⟩ := bnd1_some h
                refine G_q rfl (op_pure (m_value_Tuple_ok _ _ hy768) Tryz.func32 (by kernel_rfl) (LEs.cons (AV.le_eq rfl) LEs.nil) ?_)
                refine G_q rfl (op_move (av := .row 1 c_api_Value x3_l4) rfl ?_)
                obtain ⟨y769, hy769, h⟩ := bnd1_some h
                refine G_q rfl (op_pure (m_ref9_Make_ok _ _ _ hy769) Tryz.func33 (by kernel_rfl) (LEs.cons (AV.le_eq rfl) (LEs.cons (AV.le_eq rfl) LEs.nil)) ?_)
                refine G_q rfl (op_neqS rfl rfl ?_)
                refine G_q rfl (op_move (av := .exact (.bool (decide (¬ y768 = y769)))) rfl ?_)
                refine G_split (p := ¬ y768 = y769) 65 rfl (fun hc => ?_) (fun hc => ?_)
                · replace h := ite_t h hc
                  refine G_n rfl rfl ?_
                  refine G_n rfl rfl ?_
                  refine G_n rfl rfl ?_
                  refine G_n rfl rfl ?_
                  refine G_n rfl rfl ?_
                  refine G_q rfl (op_pick_t rfl (av := .exact (.bool true)) rfl ?_)
                  refine G_q rfl (op_move (av := .exact (.bool true)) rfl ?_)
                  refine G_n rfl rfl ?_
                  refine G_n rfl rfl ?_
                  refine G_n rfl rfl ?_
                  refine G_n rfl rfl ?_
                  refine G_n rfl rfl ?_
                  refine G_q rfl (op_pick_t rfl (av := .exact (.bool true)) rfl ?_)
                  refine G_q rfl (op_move (av := .exact (.bool true)) rfl ?_)
                  refine G_n rfl rfl ?_
                  refine G_n rfl rfl ?_
                  refine G_n rfl rfl ?_
                  refine G_n rfl rfl ?_
                  refine G_n rfl rfl ?_
                  refine G_n rfl rfl ?_
                  refine G_n rfl rfl ?_
                  refine G_q rfl (op_pick_t rfl (av := .exact (.bool true)) rfl ?_)
                  refine G_q rfl (op_move (av := .exact (.bool true)) rfl ?_)
                  refine G_n rfl rfl ?_
                  refine G_n rfl rfl ?_
                  refine G_n rfl rfl ?_
                  refine G_n rfl rfl ?_
                  refine G_n rfl rfl ?_
                  refine G_n rfl rfl ?_
                  refine G_n rfl rfl ?_
                  refine G_q rfl (op_pick_t rfl (av := .exact (.bool true)) rfl ?_)
                  refine G_q rfl (op_move (av := .exact (.bool true)) rfl ?_)
                  refine G_n rfl rfl ?_
                  refine G_n rfl rfl ?_
                  refine G_n rfl rfl ?_
                  refine G_n rfl rfl ?_
                  refine G_n rfl rfl ?_
                  refine G_n rfl rfl ?_
                  refine G_n rfl rfl ?_
                  refine G_q rfl (op_pick_t rfl (av := .exact (.bool true)) rfl ?_)
                  refine G_q rfl (op_move (av := .exact (.bool true)) rfl ?_)
                  refine G_n rfl rfl ?_
                  refine G_n rfl rfl ?_
                  refine G_n rfl rfl ?_
                  refine G_n rfl rfl ?_
                  refine G_n rfl rfl ?_
                  refine G_n rfl rfl ?_
                  refine G_n rfl rfl ?_
                  refine G_q rfl (op_pick_t rfl (av := .exact (.bool true)) rfl ?_)
                  refine G_nil ?_
                  refine kI_normal ⟨_, h, ?_⟩
                  exact Sub.of_le (AF.le_put (AV.le_eq rfl) (AF.le_put (AV.le_eq rfl) (AF.le_put (AV.le_eq rfl) (AF.le_put (AV.le_eq rfl) (AF.le_put (AV.le_eq rfl) (AF.le_top _))))))
                · replace h := ite_f h hc
                  refine Gy_q rfl rfl rfl (op_move (av := .row 1 c_api_Value x3_l4) rfl ?_)
                  obtain ⟨y770, hy770, h⟩ := bnd1_some h
                  refine Gy_q rfl rfl rfl (op_pure (m_value_Seq_ok _ _ hy770) Tryz.func19 (by kernel_rfl) (LEs.cons (AV.le_eq rfl) LEs.nil) ?_)
                  refine Gy_q rfl rfl rfl (op_move (av := .row 1 c_api_Value x3_l4) rfl ?_)
                  obtain ⟨y771, hy771, h⟩ := bnd1_some h
                  refine Gy_q rfl rfl rfl (op_pure (m_ref9_Make_ok _ _ _ hy771) Tryz.func33 (by kernel_rfl) (LEs.cons (AV.le_eq rfl) (LEs.cons (AV.le_eq rfl) LEs.nil)) ?_)
                  refine Gy_q rfl rfl rfl (op_neqS rfl rfl ?_)
                  refine G_q rfl (op_pick_f rfl (av := .exact (.bool (decide (¬ y770 = y771)))) rfl ?_)
                  refine G_q rfl (op_move (av := .exact (.bool (decide (¬ y770 = y771)))) rfl ?_)
                  refine G_split (p := ¬ y770 = y771) 72 rfl (fun hc => ?_) (fun hc => ?_)
                  · replace h := ite_t h hc
                    refine G_n rfl rfl ?_
                    refine G_n rfl rfl ?_
                    refine G_n rfl rfl ?_
                    refine G_n rfl rfl ?_
                    refine G_n rfl rfl ?_
                    refine G_q rfl (op_pick_t rfl (av := .exact (.bool true)) rfl ?_)
                    refine G_q rfl (op_move (av := .exact (.bool true)) rfl ?_)
                    refine G_n rfl rfl ?_
                    refine G_n rfl rfl ?_
                    refine G_n rfl rfl ?_
                    refine G_n rfl rfl ?_
                    refine G_n rfl rfl ?_
                    refine G_n rfl rfl ?_
                    refine G_n rfl rfl ?_
                    refine G_q rfl (op_pick_t rfl (av := .exact (.bool true)) rfl ?_)
                    refine G_q rfl (op_move (av := .exact (.bool true)) rfl ?_)
                    refine G_n rfl rfl ?_
                    refine G_n rfl rfl ?_
                    refine G_n rfl rfl ?_
                    refine G_n rfl rfl ?_
                    refine G_n rfl rfl ?_
                    refine G_n rfl rfl ?_
                    refine G_n rfl rfl ?_
                    refine G_q rfl (op_pick_t rfl (av := .exact (.bool true)) rfl ?_)
                    refine G_q rfl (op_move (av := .exact (.bool true)) rfl ?_)
                    refine G_n rfl rfl ?_
                    refine G_n rfl rfl ?_
                    refine G_n rfl rfl ?_
                    refine G_n rfl rfl ?_
                    refine G_n rfl rfl ?_
                    refine G_n rfl rfl ?_
                    refine G_n rfl rfl ?_
                    refine G_q rfl (op_pick_t rfl (av := .exact (.bool true)) rfl ?_)
                    refine G_q rfl (op_move (av := .exact (.bool true)) rfl ?_)
                    refine G_n rfl rfl ?_
                    refine G_n rfl rfl ?_
                    refine G_n rfl rfl ?_
                    refine G_n rfl rfl ?_
                    refine G_n rfl rfl ?_
                    refine G_n rfl rfl ?_
                    refine G_n rfl rfl ?_
                    refine G_q rfl (op_pick_t rfl (av := .exact (.bool true)) rfl ?_)
                    refine G_nil ?_
                    refine kI_normal ⟨_, h, ?_⟩
                    exact Sub.of_le (AF.le_put (AV.le_eq rfl) (AF.le_put (AV.le_eq rfl) (AF.le_put (AV.le_eq rfl) (AF.le_put (AV.le_eq rfl) (AF.le_put (AV.le_eq rfl) (AF.le_top _))))))
                  · replace h := ite_f h hc
                    refine Gy_q rfl rfl rfl (op_move (av := .row 1 c_api_Value x3_l4) rfl ?_)
                    obtain ⟨y772, hy772, h⟩ := bnd1_some h
                    refine Gy_q rfl rfl rfl (op_pure (m_value_Set_ok _ _ hy772) Tryz.func16 (by kernel_rfl) (LEs.cons (AV.le_eq rfl) LEs.nil) ?_)
                    refine Gy_q rfl rfl rfl (op_move (av := .row 1 c_api_Value x3_l4) rfl ?_)
                    obtain ⟨y773, hy773, h⟩ := bnd1_some h
                    refine Gy_q rfl rfl rfl (op_pure (m_ref9_Set_ok _ _ hy773) Tryz.func34 (by kernel_rfl) (LEs.cons (AV.le_eq rfl) LEs.nil) ?_)
                    refine Gy_q rfl rfl rfl (op_neqS rfl rfl ?_)
                    refine G_q rfl (op_pick_f rfl (av := .exact (.bool (decide (¬ y772 = y773)))) rfl ?_)
                    refine G_q rfl (op_move (av := .exact (.bool (decide (¬ y772 = y773)))) rfl ?_)
                    refine G_split (p := ¬ y772 = y773) 79 rfl (fun hc => ?_) (fun hc => ?_)
                    · replace h := ite_t h hc
                      refine G_n rfl rfl ?_
                      refine G_n rfl rfl ?_
                      refine G_n rfl rfl ?_
                      refine G_n rfl rfl ?_
                      refine G_n rfl rfl ?_
                      refine G_n rfl rfl ?_
                      refine G_n rfl rfl ?_
                      refine G_q rfl (op_pick_t rfl (av := .exact (.bool true)) rfl ?_)
                      refine G_q rfl (op_move (av := .exact (.bool true)) rfl ?_)
                      refine G_n rfl rfl ?_
                      refine G_n rfl rfl ?_
                      refine G_n rfl rfl ?_
                      refine G_n rfl rfl ?_
                      refine G_n rfl rfl ?_
                      refine G_n rfl rfl ?_
                      refine G_n rfl rfl ?_
                      refine G_q rfl (op_pick_t rfl (av := .exact (.bool true)) rfl ?_)
                      refine G_q rfl (op_move (av := .exact (.bool true)) rfl ?_)
                      refine G_n rfl rfl ?_
                      refine G_n rfl rfl ?_
                      refine G_n rfl rfl ?_
                      refine G_n rfl rfl ?_
                      refine G_n rfl rfl ?_
                      refine G_n rfl rfl ?_
                      refine G_n rfl rfl ?_
                      refine G_q rfl (op_pick_t rfl (av := .exact (.bool true)) rfl ?_)
                      refine G_q rfl (op_move (av := .exact (.bool true)) rfl ?_)
                      refine G_n rfl rfl ?_
                      refine G_n rfl rfl ?_
                      refine G_n rfl rfl ?_
                      refine G_n rfl rfl ?_
                      refine G_n rfl rfl ?_
                      refine G_n rfl rfl ?_
                      refine G_n rfl rfl ?_
                      refine G_q rfl (op_pick_t rfl (av := .exact (.bool true)) rfl ?_)
                      refine G_nil ?_
                      refine kI_normal ⟨_, h, ?_⟩
                      exact Sub.of_le (AF.le_put (AV.le_eq rfl) (AF.le_put (AV.le_eq rfl) (AF.le_put (AV.le_eq rfl) (AF.le_put (AV.le_eq rfl) (AF.le_put (AV.le_eq rfl) (AF.le_top _))))))
                    · replace h := ite_f h hc
                      refine Gy_q rfl rfl rfl (op_move (av := .row 1 c_api_Value x3_l4) rfl ?_)
                      refine Gy_q rfl rfl rfl (op_move (av := .row 1 c_api_Value x4_l4) rfl ?_)
                      obtain ⟨y774, hy774, h⟩ := bnd1_some h
                      refine Gy_q rfl rfl rfl (op_pure (m_value_Map_ok _ _ _ hy774) Tryz.func35 (by kernel_rfl) (LEs.cons (AV.le_eq rfl) (LEs.cons (AV.le_eq rfl) LEs.nil)) ?_)
                      refine Gy_q rfl rfl rfl (op_move (av := .row 1 c_api_Value x3_l4) rfl ?_)
                      refine Gy_q rfl rfl rfl (op_move (av := .row 1 c_api_Value x4_l4) rfl ?_)
                      obtain ⟨y775, hy775, h⟩ := bnd1_some h
                      refine Gy_q rfl rfl rfl (op_pure (m_ref9_Map_ok _ _ _ hy775) Tryz.func36 (by kernel_rfl) (LEs.cons (AV.le_eq rfl) (LEs.cons (AV.le_eq rfl) LEs.nil)) ?_)
                      refine Gy_q rfl rfl rfl (op_neqS rfl rfl ?_)
                      refine G_q rfl (op_pick_f rfl (av := .exact (.bool (decide (¬ y774 = y775)))) rfl ?_)
                      refine G_q rfl (op_move (av := .exact (.bool (decide (¬ y774 = y775)))) rfl ?_)
                      refine G_split (p := ¬ y774 = y775) 88 rfl (fun hc => ?_) (fun hc => ?_)
                      · replace h := ite_t h hc
                        refine G_n rfl rfl ?_
                        refine G_n rfl rfl ?_
                        refine G_n rfl rfl ?_
                        refine G_n rfl rfl ?_
                        refine G_n rfl rfl ?_
                        refine G_n rfl rfl ?_
                        refine G_n rfl rfl ?_
                        refine G_q rfl (op_pick_t rfl (av := .exact (.bool true)) rfl ?_)
                        refine G_q rfl (op_move (av := .exact (.bool true)) rfl ?_)
                        refine G_n rfl rfl ?_
                        refine G_n rfl rfl ?_
                        refine G_n rfl rfl ?_
                        refine G_n rfl rfl ?_
                        refine G_n rfl rfl ?_
                        refine G_n rfl rfl ?_
                        refine G_n rfl rfl ?_
                        refine G_q rfl (op_pick_t rfl (av := .exact (.bool true)) rfl ?_)
                        refine G_q rfl (op_move (av := .exact (.bool true)) rfl ?_)
                        refine G_n rfl rfl ?_
                        refine G_n rfl rfl ?_
                        refine G_n rfl rfl ?_
                        refine G_n rfl rfl ?_
                        refine G_n rfl rfl ?_
                        refine G_n rfl rfl ?_
                        refine G_n rfl rfl ?_
                        refine G_q rfl (op_pick_t rfl (av := .exact (.bool true)) rfl ?_)
                        refine G_nil ?_
                        refine kI_normal ⟨_, h, ?_⟩
                        exact Sub.of_le (AF.le_put (AV.le_eq rfl) (AF.le_put (AV.le_eq rfl) (AF.le_put (AV.le_eq rfl) (AF.le_put (AV.le_eq rfl) (AF.le_put (AV.le_eq rfl) (AF.le_top _))))))
                      · replace h := ite_f h hc
                        refine Gy_q rfl rfl rfl (op_move (av := .exact (.int .i64 x2_l4)) rfl ?_)
                        refine Gy_q rfl rfl rfl (op_move (av := .row 1 c_api_Value x3_l4) rfl ?_)
                        obtain ⟨y776, hy776, h⟩ := bnd1_some h
                        refine Gy_q rfl rfl rfl (op_pure (m_value_Dot_ok _ _ _ hy776) Tryz.func20 (by kernel_rfl) (LEs.cons (AV.le_eq rfl) (LEs.cons (AV.le_eq rfl) LEs.nil)) ?_)
                        refine Gy_q rfl rfl rfl (op_move (av := .exact (.int .i64 x2_l4)) rfl ?_)
                        refine Gy_q rfl rfl rfl (op_move (av := .row 1 c_api_Value x3_l4) rfl ?_)
                        obtain ⟨y777, hy777, h⟩ := bnd1_some h
                        refine Gy_q rfl rfl rfl (op_pure (m_ref9_Dot_ok _ _ _ hy777) Tryz.func37 (by kernel_rfl) (LEs.cons (AV.le_eq rfl) (LEs.cons (AV.le_eq rfl) LEs.nil)) ?_)
                        refine Gy_q rfl rfl rfl (op_neqS rfl rfl ?_)
                        refine G_q rfl (op_pick_f rfl (av := .exact (.bool (decide (¬ y776 = y777)))) rfl ?_)
                        refine G_q rfl (op_move (av := .exact (.bool (decide (¬ y776 = y777)))) rfl ?_)
                        refine G_split (p := ¬ y776 = y777) 97 rfl (fun hc => ?_) (fun hc => ?_)
                        · replace h := ite_t h hc
                          refine G_n rfl rfl ?_
                          refine G_n rfl rfl ?_
                          refine G_n rfl rfl ?_
                          refine G_n rfl rfl ?_
                          refine G_n rfl rfl ?_
                          refine G_n rfl rfl ?_
                          refine G_n rfl rfl ?_
                          refine G_q rfl (op_pick_t rfl (av := .exact (.bool true)) rfl ?_)
                          refine G_q rfl (op_move (av := .exact (.bool true)) rfl ?_)
                          refine G_n rfl rfl ?_
                          refine G_n rfl rfl ?_
                          refine G_n rfl rfl ?_
                          refine G_n rfl rfl ?_
                          refine G_n rfl rfl ?_
                          refine G_n rfl rfl ?_
                          refine G_n rfl rfl ?_
                          refine G_q rfl (op_pick_t rfl (av := .exact (.bool true)) rfl ?_)
                          refine G_nil ?_
                          refine kI_normal ⟨_, h, ?_⟩
                          exact Sub.of_le (AF.le_put (AV.le_eq rfl) (AF.le_put (AV.le_eq rfl) (AF.le_put (AV.le_eq rfl) (AF.le_put (AV.le_eq rfl) (AF.le_put (AV.le_eq rfl) (AF.le_top _))))))
                        · replace h := ite_f h hc
                          refine Gy_q rfl rfl rfl (op_move (av := .exact (.int .i64 x2_l4)) rfl ?_)
                          refine Gy_q rfl rfl rfl (op_move (av := .row 1 c_api_Value x3_l4) rfl ?_)
                          obtain ⟨y778, hy778, h⟩ := bnd1_some h
                          refine Gy_q rfl rfl rfl (op_pure (m_value_Fun_ok _ _ _ hy778) Tryz.func38 (by kernel_rfl) (LEs.cons (AV.le_eq rfl) (LEs.cons (AV.le_eq rfl) LEs.nil)) ?_)
                          refine Gy_q rfl rfl rfl (op_move (av := .exact (.int .i64 x2_l4)) rfl ?_)
                          refine Gy_q rfl rfl rfl (op_move (av := .row 1 c_api_Value x3_l4) rfl ?_)
                          obtain ⟨y779, hy779, h⟩ := bnd1_some h
                          refine Gy_q rfl rfl rfl (op_pure (m_law9_fun_ok _ _ _ hy779) Tryz.func39 (by kernel_rfl) (LEs.cons (AV.le_eq rfl) (LEs.cons (AV.le_eq rfl) LEs.nil)) ?_)
                          refine Gy_q rfl rfl rfl (op_neqS rfl rfl ?_)
                          refine G_q rfl (op_pick_f rfl (av := .exact (.bool (decide (¬ y778 = y779)))) rfl ?_)
                          refine G_q rfl (op_move (av := .exact (.bool (decide (¬ y778 = y779)))) rfl ?_)
                          refine G_split (p := ¬ y778 = y779) 106 rfl (fun hc => ?_) (fun hc => ?_)
                          · replace h := ite_t h hc
                            refine G_n rfl rfl ?_
                            refine G_n rfl rfl ?_
                            refine G_n rfl rfl ?_
                            refine G_n rfl rfl ?_
                            refine G_n rfl rfl ?_
                            refine G_n rfl rfl ?_
                            refine G_n rfl rfl ?_
                            refine G_q rfl (op_pick_t rfl (av := .exact (.bool true)) rfl ?_)
                            refine G_nil ?_
                            refine kI_normal ⟨_, h, ?_⟩
                            exact Sub.of_le (AF.le_put (AV.le_eq rfl) (AF.le_put (AV.le_eq rfl) (AF.le_put (AV.le_eq rfl) (AF.le_put (AV.le_eq rfl) (AF.le_put (AV.le_eq rfl) (AF.le_top _))))))
                          · replace h := ite_f h hc
                            refine Gy_q rfl rfl rfl (op_move (av := .exact (.int .i64 x2_l4)) rfl ?_)
                            refine Gy_q rfl rfl rfl (op_move (av := .row 1 c_api_Value x3_l4) rfl ?_)
                            obtain ⟨y780, hy780, h⟩ := bnd1_some h
                            refine Gy_q rfl rfl rfl (op_pure (m_value_Proc_ok _ _ _ hy780) Tryz.func40 (by kernel_rfl) (LEs.cons (AV.le_eq rfl) (LEs.cons (AV.le_eq rfl) LEs.nil)) ?_)
                            refine Gy_q rfl rfl rfl (op_move (av := .exact (.int .i64 x2_l4)) rfl ?_)
                            refine Gy_q rfl rfl rfl (op_move (av := .row 1 c_api_Value x3_l4) rfl ?_)
                            obtain ⟨y781, hy781, h⟩ := bnd1_some h
                            refine Gy_q rfl rfl rfl (op_pure (m_ref9_Numbered_ok _ _ _ _ hy781) Tryz.func41 (by kernel_rfl) (LEs.cons (AV.le_eq rfl) (LEs.cons (AV.le_eq rfl) (LEs.cons (AV.le_eq rfl) LEs.nil))) ?_)
                            refine Gy_q rfl rfl rfl (op_neqS rfl rfl ?_)
                            refine G_q rfl (op_pick_f rfl (av := .exact (.bool (decide (¬ y780 = y781)))) rfl ?_)
                            refine G_nil ?_
                            refine kI_normal ⟨_, h, ?_⟩
                            exact Sub.of_le (AF.le_put (AV.le_eq rfl) (AF.le_put (AV.le_eq rfl) (AF.le_put (AV.le_eq rfl) (AF.le_put (AV.le_eq rfl) (AF.le_put (AV.le_eq rfl) (AF.le_top _))))))
              · refine k_cond_b (c := x114_j753) rfl (fun hc => ?_) (fun hc => ?_)
                · replace h := ite_t h hc
                  refine k_seq ?_
                  refine k_reg .free hmixP (by kernel_rfl) ?_
                  refine G_q rfl (op_assign (av := .exact (.bool false)) rfl ?_)
                  refine G_nil ?_
                  refine kC_normal ?_
                  refine k_ret ?_
                  refine kC_ret ?_
                  refine kB_ret ?_
                  refine kC_ret ?_
                  refine kI_ret ?_
                  refine kB_ret ?_
                  refine kI_ret ?_
                  obtain rfl := Option.some.inj h
                  refine kP_any (endN (af' := (AF.put AF0 (some 12) (.exact (.bool false)))) (σ' := []) _ rfl ?_ ⟨rfl, rfl⟩)
                  exact Sub.of_le (AF.le_put (AV.le_eq rfl) (AF.le_top _))
                · replace h := ite_f h hc
                  refine k_skip ?_
                  refine kC_normal ?_
                  refine k_reg .free hmixP (by kernel_rfl) ?_
                  refine G_q rfl (op_move (av := .row 1 c_api_Value y3.1) rfl ?_)
                  refine G_q rfl (op_move (av := .row 1 c_api_Value x15_l4) rfl ?_)
                  refine G_q rfl (op_move (av := .exact (.int .i64 x2_l4)) rfl ?_)
                  obtain ⟨y782, hy782, h⟩ := bnd1_some h
                  refine G_q rfl (op_pure (m_help_Mod_ok _ _ _ hy782) Tryz.func18 (by kernel_rfl) (LEs.cons (AV.le_eq rfl) (LEs.cons (AV.le_eq rfl) LEs.nil)) ?_)
                  refine G_q rfl (op_assign (av := .row 1 c_api_Value y3.1) rfl ?_)
                  refine G_q rfl (op_assign (av := .row 1 c_api_Value x15_l4) rfl ?_)
                  refine G_q rfl (op_assign (av := .exact (.int .i64 y782)) rfl ?_)
                  refine G_nil ?_
                  refine kB_normal ?_
                  refine kC_normal ?_
                  refine k_reg .free hmixP (by kernel_rfl) ?_
                  refine G_q rfl (op_move (av := .exact (.int .i64 x17_l4)) rfl ?_)
                  refine G_q rfl (op_add rfl rfl rfl ?_)
                  refine G_q rfl (op_assign (av := .exact (.int .i64 (i64 (x17_l4 + 1)))) rfl ?_)
                  refine G_nil ?_
                  refine kI_normal ⟨_, _, _, _, _, h, ?_⟩
                  exact Sub.of_le (AF.le_put (AV.le_eq rfl) (AF.le_put (AV.le_eq rfl) (AF.le_put (AV.le_eq rfl) (AF.le_put (AV.le_eq rfl) (AF.le_put (AV.le_eq rfl) (AF.le_put (AV.le_eq rfl) (AF.le_top _)))))))
            · replace h := ite_f h hc
              refine k_exit ?_
              refine kC_exit ?_
              refine kI_exit ?_
              refine kB_exit ?_
              refine kI_normal ⟨h, ?_⟩
              exact Sub.of_le (AF.le_top _)
        · refine k_seq ?_
          refine k_reg .free hmixP (by kernel_rfl) ?_
          refine G_q rfl (op_assign (av := .exact (.bool true)) rfl ?_)
          refine G_nil ?_
          refine kC_normal ?_
          refine k_ret ?_
          obtain rfl := Option.some.inj h
          refine kP_any (endN (af' := (AF.put AF0 (some 12) (.exact (.bool true)))) (σ' := []) _ rfl ?_ ⟨rfl, rfl⟩)
          exact Sub.of_le (AF.le_put (AV.le_eq rfl) (AF.le_top _))
end Go.Proofs.YtdppkpiagdaigaaGreatDoor
