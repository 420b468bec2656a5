/- The functions compute their models, by program. -/
import Derived.Test.YtkplmgdmkfgjhaaQc6
namespace Go.Proofs.Ytkplmgdmkfgjhaa
open Go.RowKit
attribute [local irreducible] AV.exact AV.top AV.row AV.ptr AV.agg AV.tup AV.eptr AV.fn AV.nilq AV.nilqn opA opB opM opR Quiet Loud Reads wpG awp den Sub SubU Pure Fun vecI vecT boxI CellsAll CellsOf OneC LEs LEss
set_option maxRecDepth 100000

set_option maxHeartbeats 4000000 in
theorem m_ref23_Uvarint_ok {w0 : Value} (a0 : List UInt8) (a1 : Int) (r : (List UInt8)) (h : m_ref23_Uvarint a0 a1 = some r) : Fun Try.prog 43 [(.exact w0), (.exact (.int .i64 a1))] [vecT Try.prog 32 1 c_uint8 w0 a0] (fun a s => ∃ z0, a = .exact z0 ∧ s = [vecT Try.prog 32 1 c_uint8 z0 r]) := by
  unfold m_ref23_Uvarint at h
  refine fun_of_awp Try.func43 rfl Try.ntmps43 (by simp) rfl (res1 rfl) fun E hE => k_end ?_
  refine k_seq ?_
  refine k_reg .free hmixP (by kernel_rfl) ?_
  refine G_q rfl (op_assign (av := .exact (.slice none 0 0)) rfl ?_)
  refine G_nil ?_
  refine kC_normal ?_
  refine k_join2_1 h (fun (x0_j1 : List UInt8) (x1_j1 : Int) (v0_j1 : Value) => (AF.put (AF.put AF0 (some 0) (.exact v0_j1)) (some 1) (.exact (.int .i64 x1_j1)))) (fun (x0_j1 : List UInt8) (x1_j1 : Int) (v0_j1 : Value) => [vecT Try.prog 32 1 c_uint8 v0_j1 x0_j1]) (fun k1 h => ?_) (fun x0_j1 x1_j1 v0_j1 h => ?_)
  · refine k_block ?_
    refine k_loop2_1 (m_ref23_Uvarint_L2 k1) (m_ref23_Uvarint_B2 k1) (fun _ _ => rfl) (fun m _ _ => rfl) h (fun (x0_l2 : List UInt8) (x1_l2 : Int) (v0_l2 : Value) => (AF.put (AF.put AF0 (some 0) (.exact v0_l2)) (some 1) (.exact (.int .i64 x1_l2)))) (fun (x0_l2 : List UInt8) (x1_l2 : Int) (v0_l2 : Value) => [vecT Try.prog 32 1 c_uint8 v0_l2 x0_l2]) w0 ?_ (fun rec2 x0_l2 x1_l2 v0_l2 h => ?_)
    · exact Sub.of_le (AF.le_put (AV.le_eq rfl) (AF.le_put (AV.le_eq rfl) (AF.le_top _)))
    · unfold m_ref23_Uvarint_B2 at h
      refine k_seq ?_
      refine k_seq ?_
      refine k_reg .free hmixP (by kernel_rfl) ?_
      refine G_q rfl (op_move (av := .exact (.int .i64 x1_l2)) rfl ?_)
      refine G_q rfl (op_geq rfl rfl ?_)
      refine G_nil ?_
      refine kC_normal ?_
      refine k_cond_d (p := 128 ≤ x1_l2) rfl (fun hc => ?_) (fun hc => ?_)
      · replace h := ite_t h hc
        refine k_skip ?_
        refine kC_normal ?_
        refine k_block ?_
        refine k_seq ?_
        refine k_reg .free hmixP (by kernel_rfl) ?_
        refine G_q rfl (op_move (av := .exact v0_l2) rfl ?_)
        refine G_q rfl (op_move (av := .exact (.int .i64 x1_l2)) rfl ?_)
        refine G_q rfl (op_rem rfl rfl (by decide) rfl ?_)
        refine G_q rfl (op_add rfl rfl rfl ?_)
        refine G_q rfl (op_convInt (k := .u8) (r := (UInt8.toNat (u8i (i64 ((Int.tmod x1_l2 128) + 128))) : Int)) (by kernel_rfl) rfl (u8i_eq _) ?_)
        refine G_q rfl (op_litT (n := 1) (enc := c_uint8) [u8i (i64 ((Int.tmod x1_l2 128) + 128))] (CellsAll.cons rfl CellsOf.int CellsAll.nil) rfl (by kernel_rfl) (LEss.cons (LEs.cons (AV.le_eq rfl) LEs.nil) LEss.nil) ?_)
        obtain ⟨n13, h⟩ := need_some h
        refine G_l rfl (op_appT (by kernel_rfl) rfl rfl oc_c_uint8 n13 (fun v14 => ?_))
        refine G_q rfl (op_assign (av := .exact v14) rfl ?_)
        refine G_nil ?_
        refine kC_normal ?_
        refine k_reg .free hmixP (by kernel_rfl) ?_
        refine G_q rfl (op_move (av := .exact (.int .i64 x1_l2)) rfl ?_)
        refine G_q rfl (op_quo rfl rfl (by decide) rfl ?_)
        refine G_q rfl (op_assign (av := .exact (.int .i64 (i64 (Int.tdiv x1_l2 128)))) rfl ?_)
        refine G_nil ?_
        refine kB_normal ?_
        refine kI_normal ⟨_, _, v14, h, ?_⟩
        exact Sub.of_le (AF.le_put (AV.le_eq rfl) (AF.le_put (AV.le_eq rfl) (AF.le_top _)))
      · replace h := ite_f h hc
        refine k_exit ?_
        refine kC_exit ?_
        refine kI_exit ?_
        refine kB_exit ?_
        refine kI_normal ⟨_, _, v0_l2, h, ?_⟩
        exact Sub.of_le (AF.le_put (AV.le_eq rfl) (AF.le_put (AV.le_eq rfl) (AF.le_top _)))
  · refine k_seq ?_
    refine k_reg .free hmixP (by kernel_rfl) ?_
    refine G_q rfl (op_move (av := .exact v0_j1) rfl ?_)
    refine G_q rfl (op_move (av := .exact (.int .i64 x1_j1)) rfl ?_)
    refine G_q rfl (op_convInt (k := .u8) (r := (UInt8.toNat (u8i x1_j1) : Int)) (by kernel_rfl) rfl (u8i_eq _) ?_)
    refine G_q rfl (op_litT (n := 1) (enc := c_uint8) [u8i x1_j1] (CellsAll.cons rfl CellsOf.int CellsAll.nil) rfl (by kernel_rfl) (LEss.cons (LEs.cons (AV.le_eq rfl) LEs.nil) LEss.nil) ?_)
    obtain ⟨n15, h⟩ := need_some h
    refine G_l rfl (op_appT (by kernel_rfl) rfl rfl oc_c_uint8 n15 (fun v16 => ?_))
    refine G_q rfl (op_assign (av := .exact v16) rfl ?_)
    refine G_nil ?_
    refine kC_normal ?_
    refine k_ret ?_
    obtain rfl := Option.some.inj h
    refine kP_any (endN (af' := (AF.put AF0 (some 4) (.exact v16))) (σ' := [vecT Try.prog 32 1 c_uint8 v16 (x0_j1 ++ [u8i x1_j1])]) _ rfl ?_ ⟨v16, rfl, rfl⟩)
    exact Sub.of_le (AF.le_put (AV.le_eq rfl) (AF.le_top _))
set_option maxHeartbeats 4000000 in
theorem m_ref35_EncodeBlock_ok (a0 : List (Int × Int)) (r : (List UInt8) × Int) (h : m_ref35_EncodeBlock a0 = some r) : Pure Try.prog 16 [(.row 2 c_A2_int a0)] (.tup [.row 1 c_uint8 r.1, .exact (.int .i64 r.2)]) := by
  unfold m_ref35_EncodeBlock at h
  refine Pure.ofFun (fun_of_awp Try.func16 rfl Try.ntmps16 (by simp) rfl (res2 rfl) fun E hE => k_end ?_)
  refine k_seq ?_
  refine k_reg .free hmixP (by kernel_rfl) ?_
  refine G_q rfl (op_assign (av := .exact (.slice none 0 0)) rfl ?_)
  refine G_q rfl (op_assign (av := .exact (.int .i64 0)) rfl ?_)
  refine G_nil ?_
  refine kC_normal ?_
  refine k_seq ?_
  refine k_join1_0 h (fun (x18_j5 : Bool) => (AF.put (AF.put AF0 (some 0) (.row 2 c_A2_int a0)) (some 18) (.exact (.bool x18_j5)))) (fun (x18_j5 : Bool) => []) (fun k5 h => ?_) (fun x18_j5 h => ?_)
  · refine k_reg .free hmixP (by kernel_rfl) ?_
    refine G_q rfl (op_move (av := .row 2 c_A2_int a0) rfl ?_)
    obtain ⟨y7, hy7, h⟩ := bnd1_some h
    refine G_q rfl (op_pure (m_ref35_IsRun_ok _ _ hy7) Try.func40 (by kernel_rfl) (LEs.cons (AV.le_eq rfl) LEs.nil) ?_)
    refine G_q rfl (op_not rfl ?_)
    refine G_q rfl (op_move (av := .exact (.bool (!y7))) rfl ?_)
    refine G_splitB (c := !y7) 9 rfl (fun hc => ?_) (fun hc => ?_)
    · replace h := ite_t h hc
      refine G_n rfl rfl ?_
      refine G_n rfl rfl ?_
      refine G_n rfl rfl ?_
      refine G_q rfl (op_pick_t rfl (av := .exact (.bool true)) rfl ?_)
      refine G_q rfl (op_move (av := .exact (.bool true)) rfl ?_)
      refine G_n rfl rfl ?_
      refine G_n rfl rfl ?_
      refine G_n rfl rfl ?_
      refine G_q rfl (op_pick_t rfl (av := .exact (.bool true)) rfl ?_)
      refine G_nil ?_
      refine kI_normal ⟨_, h, ?_⟩
      exact Sub.of_le (AF.le_put (AV.le_eq rfl) (AF.le_put (AV.le_eq rfl) (AF.le_top _)))
    · replace h := ite_f h hc
      refine Gy_q rfl rfl rfl (op_move (av := .row 2 c_A2_int a0) rfl ?_)
      refine Gy_q rfl rfl rfl (op_len_row (by kernel_rfl) rfl ?_)
      refine Gy_q rfl rfl rfl (op_lss rfl rfl ?_)
      refine G_q rfl (op_pick_f rfl (av := .exact (.bool (decide ((List.length a0 : Int) < 1)))) rfl ?_)
      refine G_q rfl (op_move (av := .exact (.bool (decide ((List.length a0 : Int) < 1)))) rfl ?_)
      refine G_split (p := (List.length a0 : Int) < 1) 14 rfl (fun hc => ?_) (fun hc => ?_)
      · replace h := ite_t h hc
        refine G_n rfl rfl ?_
        refine G_n rfl rfl ?_
        refine G_n rfl rfl ?_
        refine G_q rfl (op_pick_t rfl (av := .exact (.bool true)) rfl ?_)
        refine G_nil ?_
        refine kI_normal ⟨_, h, ?_⟩
        exact Sub.of_le (AF.le_put (AV.le_eq rfl) (AF.le_put (AV.le_eq rfl) (AF.le_top _)))
      · replace h := ite_f h hc
        refine Gy_q rfl rfl rfl (op_move (av := .row 2 c_A2_int a0) rfl ?_)
        refine Gy_q rfl rfl rfl (op_len_row (by kernel_rfl) rfl ?_)
        refine Gy_q rfl rfl rfl (op_gtr rfl rfl ?_)
        refine G_q rfl (op_pick_f rfl (av := .exact (.bool (decide (1024 < (List.length a0 : Int))))) rfl ?_)
        refine G_nil ?_
        refine kI_normal ⟨_, h, ?_⟩
        exact Sub.of_le (AF.le_put (AV.le_eq rfl) (AF.le_put (AV.le_eq rfl) (AF.le_top _)))
  · refine k_cond_b (c := x18_j5) rfl (fun hc => ?_) (fun hc => ?_)
    · replace h := ite_t h hc
      refine k_seq ?_
      refine k_reg .free hmixP (by kernel_rfl) ?_
      refine G_q rfl (op_assign (av := .exact (.slice none 0 0)) rfl ?_)
      refine G_q rfl (op_assign (av := .exact (.int .i64 1)) rfl ?_)
      refine G_nil ?_
      refine kC_normal ?_
      refine k_ret ?_
      refine kC_ret ?_
      obtain rfl := Option.some.inj h
      refine kP_any (endN (af' := (AF.put (AF.put AF0 (some 2) (.row 1 c_uint8 [])) (some 3) (.exact (.int .i64 1)))) (σ' := []) _ rfl ?_ ⟨rfl, rfl⟩)
      exact Sub.of_le (AF.le_put (AV.le_eq rfl) (AF.le_put (row_nil (by decide)) (AF.le_top _)))
    · replace h := ite_f h hc
      refine k_skip ?_
      refine kC_normal ?_
      refine k_seq ?_
      refine k_reg .free hmixP (by kernel_rfl) ?_
      refine G_q rfl (op_move (av := .row 2 c_A2_int a0) rfl ?_)
      refine G_q rfl (op_len_row (by kernel_rfl) rfl ?_)
      refine G_sub rfl (SubU.nilT (P := Try.prog) (t := 32) (n := 1) (enc := c_uint8)) ?_
      obtain ⟨y9, hy9, h⟩ := bnd1_some h
      refine G_l rfl (op_fun_1_1_1 (m_ref23_Uvarint_ok _ _ _ hy9) Try.func43 (by kernel_rfl) (LEs.cons (AV.le_eq rfl) (LEs.cons (AV.le_eq rfl) LEs.nil)) (fun v10 => ?_))
      refine G_q rfl (op_assign (av := .exact v10) rfl ?_)
      refine G_nil ?_
      refine kC_normal ?_
      refine k_join1_1 h (fun (x4_j11 : List UInt8) (v4_j11 : Value) => (AF.put AF0 (some 4) (.exact v4_j11))) (fun (x4_j11 : List UInt8) (v4_j11 : Value) => [vecT Try.prog 32 1 c_uint8 v4_j11 x4_j11]) (fun k11 h => ?_) (fun x4_j11 v4_j11 h => ?_)
      · refine k_seq ?_
        refine k_reg .free hmixP (by kernel_rfl) ?_
        refine G_q rfl (op_assign (av := .exact (.int .i64 0)) rfl ?_)
        refine G_nil ?_
        refine kC_normal ?_
        refine k_block ?_
        refine k_loop2_1 (m_ref35_EncodeBlock_L2 a0 k11) (m_ref35_EncodeBlock_B2 a0 k11) (fun _ _ => rfl) (fun m _ _ => rfl) h (fun (x4_l2 : List UInt8) (x5_l2 : Int) (v4_l2 : Value) => (AF.put (AF.put (AF.put AF0 (some 0) (.row 2 c_A2_int a0)) (some 4) (.exact v4_l2)) (some 5) (.exact (.int .i64 x5_l2)))) (fun (x4_l2 : List UInt8) (x5_l2 : Int) (v4_l2 : Value) => [vecT Try.prog 32 1 c_uint8 v4_l2 x4_l2]) v10 ?_ (fun rec2 x4_l2 x5_l2 v4_l2 h => ?_)
        · exact Sub.of_le (AF.le_put (AV.le_eq rfl) (AF.le_put (AV.le_eq rfl) (AF.le_put (AV.le_eq rfl) (AF.le_top _))))
        · unfold m_ref35_EncodeBlock_B2 at h
          refine k_seq ?_
          refine k_seq ?_
          refine k_reg .free hmixP (by kernel_rfl) ?_
          refine G_q rfl (op_move (av := .exact (.int .i64 x5_l2)) rfl ?_)
          refine G_q rfl (op_move (av := .row 2 c_A2_int a0) rfl ?_)
          refine G_q rfl (op_len_row (by kernel_rfl) rfl ?_)
          refine G_q rfl (op_lss rfl rfl ?_)
          refine G_nil ?_
          refine kC_normal ?_
          refine k_cond_d (p := x5_l2 < (List.length a0 : Int)) rfl (fun hc => ?_) (fun hc => ?_)
          · replace h := ite_t h hc
            refine k_skip ?_
            refine kC_normal ?_
            refine k_join1_1 h (fun (x4_j228 : List UInt8) (v4_j228 : Value) => (AF.put (AF.put (AF.put AF0 (some 0) (.row 2 c_A2_int a0)) (some 4) (.exact v4_j228)) (some 5) (.exact (.int .i64 x5_l2)))) (fun (x4_j228 : List UInt8) (v4_j228 : Value) => [vecT Try.prog 32 1 c_uint8 v4_j228 x4_j228]) (fun k228 h => ?_) (fun x4_j228 v4_j228 h => ?_)
            · refine k_block ?_
              refine k_block ?_
              refine k_seq ?_
              refine k_reg .free hmixP (by kernel_rfl) ?_
              refine G_q rfl (op_move (av := .exact (.int .i64 x5_l2)) rfl ?_)
              refine G_q rfl (op_eql rfl rfl ?_)
              refine G_q rfl (op_assign (av := .exact (.bool (decide (x5_l2 = 0)))) rfl ?_)
              refine G_nil ?_
              refine kC_normal ?_
              refine k_cond_d (p := x5_l2 = 0) rfl (fun hc => ?_) (fun hc => ?_)
              · replace h := ite_t h hc
                refine k_plan [] [(0, 0), (0, 1), (0, 2), (0, 3), (0, 4), (0, 6), (0, 7), (0, 8), (0, 9), (2, 5), (2, 10), (0, 11)] hmixP (by kernel_rfl) ?_
                refine P_q no34_0 rfl (op_move (av := .exact v4_l2) rfl ?_)
                refine P_q no34_0 rfl (op_move (av := .row 2 c_A2_int a0) rfl ?_)
                obtain ⟨n250, h⟩ := need_some h
                refine P_q no34_0 rfl (op_index_row (by kernel_rfl) rfl rfl n250.1 n250.2 ?_)
                refine P_q no34_0 rfl (op_indexArr_ptr (m := 2) (n := 1) (c' := (List.drop 0 (c_A2_int (gi a0 0)))) (by kernel_rfl) rfl rfl (by decide) (by decide) rfl ?_)
                refine P_q no34_0 rfl (op_load1p (a := .exact (.int .i64 ((gi a0 0).1))) (by kernel_rfl) rfl rfl ?_)
                refine P_q no34_0 rfl (op_move (av := .row 2 c_A2_int a0) rfl ?_)
                obtain ⟨n251, h⟩ := need_some h
                refine P_q no34_0 rfl (op_index_row (by kernel_rfl) rfl rfl n251.1 n251.2 ?_)
                refine P_q no34_0 rfl (op_indexArr_ptr (m := 2) (n := 1) (c' := (List.drop 1 (c_A2_int (gi a0 0)))) (by kernel_rfl) rfl rfl (by decide) (by decide) rfl ?_)
                refine P_q no34_0 rfl (op_load1p (a := .exact (.int .i64 ((gi a0 0).2))) (by kernel_rfl) rfl rfl ?_)
                obtain ⟨y252, hy252, h⟩ := bnd1_some h
                refine P_l rfl (op_fun_1_1_1 (m_ref23_Uvarint_ok _ _ _ hy252) Try.func43 (by kernel_rfl) (LEs.cons (AV.le_eq rfl) (LEs.cons (AV.le_eq rfl) LEs.nil)) (fun v253 => ?_))
                obtain ⟨y254, hy254, h⟩ := bnd1_some h
                refine P_l rfl (op_fun_1_1_1 (m_ref23_Uvarint_ok _ _ _ hy254) Try.func43 (by kernel_rfl) (LEs.cons (AV.le_eq rfl) (LEs.cons (AV.le_eq rfl) LEs.nil)) (fun v255 => ?_))
                refine P_q no34_0 rfl (op_assign (av := .exact v255) rfl ?_)
                refine P_nil ?_
                refine kB_normal ?_
                refine kB_normal ?_
                refine kI_normal ⟨_, v255, h, ?_⟩
                exact Sub.of_le (AF.le_put (AV.le_eq rfl) (AF.le_put (AV.le_eq rfl) (AF.le_put (AV.le_eq rfl) (AF.le_top _))))
              · replace h := ite_f h hc
                refine k_seq ?_
                refine k_plan [] [(0, 0), (0, 1), (0, 2), (0, 3), (0, 4), (0, 5), (0, 6), (0, 7), (0, 8), (0, 9), (0, 10), (0, 11), (0, 12)] hmixP (by kernel_rfl) ?_
                refine P_q no34_0 rfl (op_move (av := .row 2 c_A2_int a0) rfl ?_)
                refine P_q no34_0 rfl (op_move (av := .exact (.int .i64 x5_l2)) rfl ?_)
                obtain ⟨n256, h⟩ := need_some h
                refine P_q no34_0 rfl (op_index_row (by kernel_rfl) rfl rfl n256.1 n256.2 ?_)
                refine P_q no34_0 rfl (op_indexArr_ptr (m := 2) (n := 1) (c' := (List.drop 0 (c_A2_int (gi a0 x5_l2)))) (by kernel_rfl) rfl rfl (by decide) (by decide) rfl ?_)
                refine P_q no34_0 rfl (op_load1p (a := .exact (.int .i64 ((gi a0 x5_l2).1))) (by kernel_rfl) rfl rfl ?_)
                refine P_q no34_0 rfl (op_move (av := .row 2 c_A2_int a0) rfl ?_)
                refine P_q no34_0 rfl (op_move (av := .exact (.int .i64 x5_l2)) rfl ?_)
                refine P_q no34_0 rfl (op_sub rfl rfl rfl ?_)
                obtain ⟨n257, h⟩ := need_some h
                refine P_q no34_0 rfl (op_index_row (by kernel_rfl) rfl rfl n257.1 n257.2 ?_)
                refine P_q no34_0 rfl (op_indexArr_ptr (m := 2) (n := 1) (c' := (List.drop 0 (c_A2_int (gi a0 (i64 (x5_l2 - 1)))))) (by kernel_rfl) rfl rfl (by decide) (by decide) rfl ?_)
                refine P_q no34_0 rfl (op_load1p (a := .exact (.int .i64 ((gi a0 (i64 (x5_l2 - 1))).1))) (by kernel_rfl) rfl rfl ?_)
                refine P_q no34_0 rfl (op_eql rfl rfl ?_)
                refine P_q no34_0 rfl (op_assign (av := .exact (.bool (decide (((gi a0 x5_l2).1) = ((gi a0 (i64 (x5_l2 - 1))).1))))) rfl ?_)
                refine P_nil ?_
                refine kC_normal ?_
                refine k_cond_d (p := ((gi a0 x5_l2).1) = ((gi a0 (i64 (x5_l2 - 1))).1)) rfl (fun hc => ?_) (fun hc => ?_)
                · replace h := ite_t h hc
                  refine k_plan [] [(0, 0), (0, 2), (0, 3), (0, 4), (0, 5), (0, 6), (0, 7), (0, 8), (0, 9), (0, 10), (0, 11), (0, 12), (0, 13), (0, 14), (2, 1), (2, 15), (0, 16)] hmixP (by kernel_rfl) ?_
                  refine P_q no34_0 rfl (op_move (av := .exact v4_l2) rfl ?_)
                  refine P_q no34_0 rfl (op_move (av := .row 2 c_A2_int a0) rfl ?_)
                  refine P_q no34_0 rfl (op_move (av := .exact (.int .i64 x5_l2)) rfl ?_)
                  obtain ⟨n258, h⟩ := need_some h
                  refine P_q no34_0 rfl (op_index_row (by kernel_rfl) rfl rfl n258.1 n258.2 ?_)
                  refine P_q no34_0 rfl (op_indexArr_ptr (m := 2) (n := 1) (c' := (List.drop 1 (c_A2_int (gi a0 x5_l2)))) (by kernel_rfl) rfl rfl (by decide) (by decide) rfl ?_)
                  refine P_q no34_0 rfl (op_load1p (a := .exact (.int .i64 ((gi a0 x5_l2).2))) (by kernel_rfl) rfl rfl ?_)
                  refine P_q no34_0 rfl (op_move (av := .row 2 c_A2_int a0) rfl ?_)
                  refine P_q no34_0 rfl (op_move (av := .exact (.int .i64 x5_l2)) rfl ?_)
                  refine P_q no34_0 rfl (op_sub rfl rfl rfl ?_)
                  obtain ⟨n259, h⟩ := need_some h
                  refine P_q no34_0 rfl (op_index_row (by kernel_rfl) rfl rfl n259.1 n259.2 ?_)
                  refine P_q no34_0 rfl (op_indexArr_ptr (m := 2) (n := 1) (c' := (List.drop 1 (c_A2_int (gi a0 (i64 (x5_l2 - 1)))))) (by kernel_rfl) rfl rfl (by decide) (by decide) rfl ?_)
                  refine P_q no34_0 rfl (op_load1p (a := .exact (.int .i64 ((gi a0 (i64 (x5_l2 - 1))).2))) (by kernel_rfl) rfl rfl ?_)
                  refine P_q no34_0 rfl (op_sub rfl rfl rfl ?_)
                  refine P_q no34_0 rfl (op_sub rfl rfl rfl ?_)
                  obtain ⟨y260, hy260, h⟩ := bnd1_some h
                  refine P_l rfl (op_fun_1_1_1 (m_ref23_Uvarint_ok _ _ _ hy260) Try.func43 (by kernel_rfl) (LEs.cons (AV.le_eq rfl) (LEs.cons (AV.le_eq rfl) LEs.nil)) (fun v261 => ?_))
                  obtain ⟨y262, hy262, h⟩ := bnd1_some h
                  refine P_l rfl (op_fun_1_1_1 (m_ref23_Uvarint_ok _ _ _ hy262) Try.func43 (by kernel_rfl) (LEs.cons (AV.le_eq rfl) (LEs.cons (AV.le_eq rfl) LEs.nil)) (fun v263 => ?_))
                  refine P_q no34_0 rfl (op_assign (av := .exact v263) rfl ?_)
                  refine P_nil ?_
                  refine kB_normal ?_
                  refine kB_normal ?_
                  refine kI_normal ⟨_, v263, h, ?_⟩
                  exact Sub.of_le (AF.le_put (AV.le_eq rfl) (AF.le_put (AV.le_eq rfl) (AF.le_put (AV.le_eq rfl) (AF.le_top _))))
                · replace h := ite_f h hc
                  refine k_plan [] [(0, 0), (0, 1), (0, 2), (0, 3), (0, 4), (0, 5), (0, 6), (0, 7), (0, 8), (0, 9), (0, 10), (0, 11), (0, 12), (0, 14), (0, 15), (0, 16), (0, 17), (0, 18), (2, 13), (2, 19), (0, 20)] hmixP (by kernel_rfl) ?_
                  refine P_q no34_0 rfl (op_move (av := .exact v4_l2) rfl ?_)
                  refine P_q no34_0 rfl (op_move (av := .row 2 c_A2_int a0) rfl ?_)
                  refine P_q no34_0 rfl (op_move (av := .exact (.int .i64 x5_l2)) rfl ?_)
                  obtain ⟨n264, h⟩ := need_some h
                  refine P_q no34_0 rfl (op_index_row (by kernel_rfl) rfl rfl n264.1 n264.2 ?_)
                  refine P_q no34_0 rfl (op_indexArr_ptr (m := 2) (n := 1) (c' := (List.drop 0 (c_A2_int (gi a0 x5_l2)))) (by kernel_rfl) rfl rfl (by decide) (by decide) rfl ?_)
                  refine P_q no34_0 rfl (op_load1p (a := .exact (.int .i64 ((gi a0 x5_l2).1))) (by kernel_rfl) rfl rfl ?_)
                  refine P_q no34_0 rfl (op_move (av := .row 2 c_A2_int a0) rfl ?_)
                  refine P_q no34_0 rfl (op_move (av := .exact (.int .i64 x5_l2)) rfl ?_)
                  refine P_q no34_0 rfl (op_sub rfl rfl rfl ?_)
                  obtain ⟨n265, h⟩ := need_some h
                  refine P_q no34_0 rfl (op_index_row (by kernel_rfl) rfl rfl n265.1 n265.2 ?_)
                  refine P_q no34_0 rfl (op_indexArr_ptr (m := 2) (n := 1) (c' := (List.drop 0 (c_A2_int (gi a0 (i64 (x5_l2 - 1)))))) (by kernel_rfl) rfl rfl (by decide) (by decide) rfl ?_)
                  refine P_q no34_0 rfl (op_load1p (a := .exact (.int .i64 ((gi a0 (i64 (x5_l2 - 1))).1))) (by kernel_rfl) rfl rfl ?_)
                  refine P_q no34_0 rfl (op_sub rfl rfl rfl ?_)
                  refine P_q no34_0 rfl (op_move (av := .row 2 c_A2_int a0) rfl ?_)
                  refine P_q no34_0 rfl (op_move (av := .exact (.int .i64 x5_l2)) rfl ?_)
                  obtain ⟨n266, h⟩ := need_some h
                  refine P_q no34_0 rfl (op_index_row (by kernel_rfl) rfl rfl n266.1 n266.2 ?_)
                  refine P_q no34_0 rfl (op_indexArr_ptr (m := 2) (n := 1) (c' := (List.drop 1 (c_A2_int (gi a0 x5_l2)))) (by kernel_rfl) rfl rfl (by decide) (by decide) rfl ?_)
                  refine P_q no34_0 rfl (op_load1p (a := .exact (.int .i64 ((gi a0 x5_l2).2))) (by kernel_rfl) rfl rfl ?_)
                  obtain ⟨y267, hy267, h⟩ := bnd1_some h
                  refine P_l rfl (op_fun_1_1_1 (m_ref23_Uvarint_ok _ _ _ hy267) Try.func43 (by kernel_rfl) (LEs.cons (AV.le_eq rfl) (LEs.cons (AV.le_eq rfl) LEs.nil)) (fun v268 => ?_))
                  obtain ⟨y269, hy269, h⟩ := bnd1_some h
                  refine P_l rfl (op_fun_1_1_1 (m_ref23_Uvarint_ok _ _ _ hy269) Try.func43 (by kernel_rfl) (LEs.cons (AV.le_eq rfl) (LEs.cons (AV.le_eq rfl) LEs.nil)) (fun v270 => ?_))
                  refine P_q no34_0 rfl (op_assign (av := .exact v270) rfl ?_)
                  refine P_nil ?_
                  refine kB_normal ?_
                  refine kB_normal ?_
                  refine kI_normal ⟨_, v270, h, ?_⟩
                  exact Sub.of_le (AF.le_put (AV.le_eq rfl) (AF.le_put (AV.le_eq rfl) (AF.le_put (AV.le_eq rfl) (AF.le_top _))))
            · refine k_reg .free hmixP (by kernel_rfl) ?_
              refine G_q rfl (op_move (av := .exact (.int .i64 x5_l2)) rfl ?_)
              refine G_q rfl (op_add rfl rfl rfl ?_)
              refine G_q rfl (op_assign (av := .exact (.int .i64 (i64 (x5_l2 + 1)))) rfl ?_)
              refine G_nil ?_
              refine kI_normal ⟨_, _, v4_j228, h, ?_⟩
              exact Sub.of_le (AF.le_put (AV.le_eq rfl) (AF.le_put (AV.le_eq rfl) (AF.le_put (AV.le_eq rfl) (AF.le_top _))))
          · replace h := ite_f h hc
            refine k_exit ?_
            refine kC_exit ?_
            refine kI_exit ?_
            refine kB_exit ?_
            refine kI_normal ⟨_, v4_l2, h, ?_⟩
            exact Sub.of_le (AF.le_put (AV.le_eq rfl) (AF.le_top _))
      · refine k_seq ?_
        refine k_reg .free hmixP (by kernel_rfl) ?_
        refine G_q rfl (op_move (av := .exact v4_j11) rfl ?_)
        refine G_sub rfl (SubU.freezeT2 (s1 := 4) (s2 := 91) rfl rfl len_c_uint8) ?_
        obtain ⟨y271, hy271, h⟩ := bnd1_some h
        refine G_q rfl (op_pure (m_ref23_Sealed_ok _ _ hy271) Try.func20 (by kernel_rfl) (LEs.cons (AV.le_eq rfl) LEs.nil) ?_)
        refine G_q rfl (op_assign (av := .row 1 c_uint8 y271) rfl ?_)
        refine G_q rfl (op_assign (av := .exact (.int .i64 0)) rfl ?_)
        refine G_nil ?_
        refine kC_normal ?_
        refine k_ret ?_
        obtain rfl := Option.some.inj h
        refine kP_any (endN (af' := (AF.put (AF.put AF0 (some 2) (.row 1 c_uint8 y271)) (some 3) (.exact (.int .i64 0)))) (σ' := []) _ rfl ?_ ⟨rfl, rfl⟩)
        exact Sub.of_le (AF.le_put (AV.le_eq rfl) (AF.le_put (AV.le_eq rfl) (AF.le_top _)))
set_option maxHeartbeats 4000000 in
theorem m_ref35_DecodeBlock_ok (a0 : List UInt8) (a1 : Int) (r : (List (Int × Int)) × Int × Int) (h : m_ref35_DecodeBlock a0 a1 = some r) : Pure Try.prog 46 [(.row 1 c_uint8 a0), (.exact (.int .i64 a1))] (.tup [.row 2 c_A2_int r.1, .exact (.int .i64 r.2.1), .exact (.int .i64 r.2.2)]) := by
  unfold m_ref35_DecodeBlock at h
  refine Pure.ofFun (fun_of_awp Try.func46 rfl Try.ntmps46 (by simp) rfl (res3 rfl) fun E hE => k_end ?_)
  refine k_seq ?_
  refine k_reg .free hmixP (by kernel_rfl) ?_
  refine G_q rfl (op_assign (av := .exact (.slice none 0 0)) rfl ?_)
  refine G_q rfl (op_assign (av := .exact (.int .i64 0)) rfl ?_)
  refine G_q rfl (op_assign (av := .exact (.int .i64 0)) rfl ?_)
  refine G_nil ?_
  refine kC_normal ?_
  refine k_seq ?_
  refine k_join1_0 h (fun (x23_j3 : Bool) => (AF.put (AF.put (AF.put AF0 (some 0) (.row 1 c_uint8 a0)) (some 1) (.exact (.int .i64 a1))) (some 23) (.exact (.bool x23_j3)))) (fun (x23_j3 : Bool) => []) (fun k3 h => ?_) (fun x23_j3 h => ?_)
  · refine k_reg .free hmixP (by kernel_rfl) ?_
    refine G_q rfl (op_move (av := .exact (.int .i64 a1)) rfl ?_)
    refine G_q rfl (op_lss rfl rfl ?_)
    refine G_q rfl (op_move (av := .exact (.bool (decide (a1 < 0)))) rfl ?_)
    refine G_split (p := a1 < 0) 18 rfl (fun hc => ?_) (fun hc => ?_)
    · replace h := ite_t h hc
      refine G_n rfl rfl ?_
      refine G_n rfl rfl ?_
      refine G_n rfl rfl ?_
      refine G_n rfl rfl ?_
      refine G_q rfl (op_pick_t rfl (av := .exact (.bool true)) rfl ?_)
      refine G_nil ?_
      refine kI_normal ⟨_, h, ?_⟩
      exact Sub.of_le (AF.le_put (AV.le_eq rfl) (AF.le_put (AV.le_eq rfl) (AF.le_put (AV.le_eq rfl) (AF.le_top _))))
    · replace h := ite_f h hc
      refine Gy_q rfl rfl rfl (op_move (av := .exact (.int .i64 a1)) rfl ?_)
      refine Gy_q rfl rfl rfl (op_move (av := .row 1 c_uint8 a0) rfl ?_)
      refine Gy_q rfl rfl rfl (op_len_row (by kernel_rfl) rfl ?_)
      refine Gy_q rfl rfl rfl (op_gtr rfl rfl ?_)
      refine G_q rfl (op_pick_f rfl (av := .exact (.bool (decide ((List.length a0 : Int) < a1)))) rfl ?_)
      refine G_nil ?_
      refine kI_normal ⟨_, h, ?_⟩
      exact Sub.of_le (AF.le_put (AV.le_eq rfl) (AF.le_put (AV.le_eq rfl) (AF.le_put (AV.le_eq rfl) (AF.le_top _))))
  · refine k_cond_b (c := x23_j3) rfl (fun hc => ?_) (fun hc => ?_)
    · replace h := ite_t h hc
      refine k_seq ?_
      refine k_reg .free hmixP (by kernel_rfl) ?_
      refine G_q rfl (op_assign (av := .exact (.slice none 0 0)) rfl ?_)
      refine G_q rfl (op_assign (av := .exact (.int .i64 0)) rfl ?_)
      refine G_q rfl (op_assign (av := .exact (.int .i64 1)) rfl ?_)
      refine G_nil ?_
      refine kC_normal ?_
      refine k_ret ?_
      refine kC_ret ?_
      obtain rfl := Option.some.inj h
      refine kP_any (endN (af' := (AF.put (AF.put (AF.put AF0 (some 4) (.row 2 c_A2_int [])) (some 5) (.exact (.int .i64 0))) (some 6) (.exact (.int .i64 1)))) (σ' := []) _ rfl ?_ ⟨rfl, rfl⟩)
      exact Sub.of_le (AF.le_put (AV.le_eq rfl) (AF.le_put (AV.le_eq rfl) (AF.le_put (row_nil (by decide)) (AF.le_top _))))
    · replace h := ite_f h hc
      refine k_skip ?_
      refine kC_normal ?_
      refine k_seq ?_
      refine k_reg .free hmixP (by kernel_rfl) ?_
      refine G_q rfl (op_move (av := .row 1 c_uint8 a0) rfl ?_)
      refine G_q rfl (op_move (av := .exact (.int .i64 a1)) rfl ?_)
      obtain ⟨y4, hy4, h⟩ := bnd1_some h
      refine G_q rfl (op_pure (m_ref35_uvarint_ok _ _ _ hy4) Try.func82 (by kernel_rfl) (LEs.cons (AV.le_eq rfl) (LEs.cons (AV.le_eq rfl) LEs.nil)) ?_)
      refine G_q rfl (op_move (av := .tup [.exact (.int .i64 y4.1), .exact (.int .i64 y4.2.1), .exact (.int .i64 y4.2.2)]) rfl ?_)
      refine G_q rfl (op_extract (av := .exact (.int .i64 y4.1)) rfl rfl ?_)
      refine G_q rfl (op_extract (av := .exact (.int .i64 y4.2.1)) rfl rfl ?_)
      refine G_q rfl (op_extract (av := .exact (.int .i64 y4.2.2)) rfl rfl ?_)
      refine G_q rfl (op_assign (av := .exact (.int .i64 y4.1)) rfl ?_)
      refine G_q rfl (op_assign (av := .exact (.int .i64 y4.2.1)) rfl ?_)
      refine G_q rfl (op_assign (av := .exact (.int .i64 y4.2.2)) rfl ?_)
      refine G_nil ?_
      refine kC_normal ?_
      refine k_join1_0 h (fun (x9_j5 : Int) => (AF.put (AF.put (AF.put (AF.put (AF.put AF0 (some 0) (.row 1 c_uint8 a0)) (some 1) (.exact (.int .i64 a1))) (some 7) (.exact (.int .i64 y4.1))) (some 8) (.exact (.int .i64 y4.2.1))) (some 9) (.exact (.int .i64 x9_j5)))) (fun (x9_j5 : Int) => []) (fun k5 h => ?_) (fun x9_j5 h => ?_)
      · refine k_join1_0 h (fun (x40_j7 : Bool) => (AF.put (AF.put (AF.put (AF.put (AF.put (AF.put AF0 (some 0) (.row 1 c_uint8 a0)) (some 1) (.exact (.int .i64 a1))) (some 7) (.exact (.int .i64 y4.1))) (some 8) (.exact (.int .i64 y4.2.1))) (some 9) (.exact (.int .i64 y4.2.2))) (some 40) (.exact (.bool x40_j7)))) (fun (x40_j7 : Bool) => []) (fun k7 h => ?_) (fun x40_j7 h => ?_)
        · refine k_reg .free hmixP (by kernel_rfl) ?_
          refine G_q rfl (op_move (av := .exact (.int .i64 y4.2.2)) rfl ?_)
          refine G_q rfl (op_eql rfl rfl ?_)
          refine G_q rfl (op_move (av := .exact (.bool (decide (y4.2.2 = 0)))) rfl ?_)
          refine G_split (p := y4.2.2 = 0) 33 rfl (fun hc => ?_) (fun hc => ?_)
          · replace h := ite_t h hc
            refine Gy_q rfl rfl rfl (op_move (av := .exact (.int .i64 y4.1)) rfl ?_)
            refine Gy_q rfl rfl rfl (op_lss rfl rfl ?_)
            refine Gy_q rfl rfl rfl (op_move (av := .exact (.bool (decide (y4.1 < 1)))) rfl ?_)
            refine G_split (p := y4.1 < 1) 36 rfl (fun hc => ?_) (fun hc => ?_)
            · replace h := ite_t h hc
              refine G_n rfl rfl ?_
              refine G_n rfl rfl ?_
              refine Gy_q rfl rfl rfl (op_pick_t rfl (av := .exact (.bool true)) rfl ?_)
              refine G_q rfl (op_pick_t rfl (av := .exact (.bool true)) rfl ?_)
              refine G_nil ?_
              refine kI_normal ⟨_, h, ?_⟩
              exact Sub.of_le (AF.le_put (AV.le_eq rfl) (AF.le_put (AV.le_eq rfl) (AF.le_put (AV.le_eq rfl) (AF.le_put (AV.le_eq rfl) (AF.le_put (AV.le_eq rfl) (AF.le_put (AV.le_eq rfl) (AF.le_top _)))))))
            · replace h := ite_f h hc
              refine Gy_q rfl rfl rfl (op_move (av := .exact (.int .i64 y4.1)) rfl ?_)
              refine Gy_q rfl rfl rfl (op_gtr rfl rfl ?_)
              refine Gy_q rfl rfl rfl (op_pick_f rfl (av := .exact (.bool (decide (1024 < y4.1)))) rfl ?_)
              refine G_q rfl (op_pick_t rfl (av := .exact (.bool (decide (1024 < y4.1)))) rfl ?_)
              refine G_nil ?_
              refine kI_normal ⟨_, h, ?_⟩
              exact Sub.of_le (AF.le_put (AV.le_eq rfl) (AF.le_put (AV.le_eq rfl) (AF.le_put (AV.le_eq rfl) (AF.le_put (AV.le_eq rfl) (AF.le_put (AV.le_eq rfl) (AF.le_put (AV.le_eq rfl) (AF.le_top _)))))))
          · replace h := ite_f h hc
            refine G_n rfl rfl ?_
            refine G_n rfl rfl ?_
            refine G_n rfl rfl ?_
            refine G_u rfl rfl ?_
            refine G_u rfl rfl ?_
            refine G_n rfl rfl ?_
            refine G_q rfl (op_pick_f rfl (av := .exact (.bool false)) rfl ?_)
            refine G_nil ?_
            refine kI_normal ⟨_, h, ?_⟩
            exact Sub.of_le (AF.le_put (AV.le_eq rfl) (AF.le_put (AV.le_eq rfl) (AF.le_put (AV.le_eq rfl) (AF.le_put (AV.le_eq rfl) (AF.le_put (AV.le_eq rfl) (AF.le_put (AV.le_eq rfl) (AF.le_top _)))))))
        · refine k_cond_b (c := x40_j7) rfl (fun hc => ?_) (fun hc => ?_)
          · replace h := ite_t h hc
            refine k_reg .free hmixP (by kernel_rfl) ?_
            refine G_q rfl (op_assign (av := .exact (.int .i64 22)) rfl ?_)
            refine G_nil ?_
            refine kI_normal ⟨_, h, ?_⟩
            exact Sub.of_le (AF.le_put (AV.le_eq rfl) (AF.le_put (AV.le_eq rfl) (AF.le_put (AV.le_eq rfl) (AF.le_put (AV.le_eq rfl) (AF.le_put (AV.le_eq rfl) (AF.le_top _))))))
          · replace h := ite_f h hc
            refine k_skip ?_
            refine kI_normal ⟨_, h, ?_⟩
            exact Sub.of_le (AF.le_put (AV.le_eq rfl) (AF.le_put (AV.le_eq rfl) (AF.le_put (AV.le_eq rfl) (AF.le_put (AV.le_eq rfl) (AF.le_put (AV.le_eq rfl) (AF.le_top _))))))
      · refine k_seq ?_
        refine k_reg .free hmixP (by kernel_rfl) ?_
        refine G_q rfl (op_assign (av := .exact (.slice none 0 0)) rfl ?_)
        refine G_nil ?_
        refine kC_normal ?_
        refine k_join3_1 h (fun (x8_j8 : Int) (x9_j8 : Int) (x10_j8 : List (Int × Int)) (v10_j8 : Value) => (AF.put (AF.put (AF.put (AF.put (AF.put AF0 (some 0) (.row 1 c_uint8 a0)) (some 1) (.exact (.int .i64 a1))) (some 8) (.exact (.int .i64 x8_j8))) (some 9) (.exact (.int .i64 x9_j8))) (some 10) (.exact v10_j8))) (fun (x8_j8 : Int) (x9_j8 : Int) (x10_j8 : List (Int × Int)) (v10_j8 : Value) => [vecT Try.prog 23 2 c_A2_int v10_j8 x10_j8]) (fun k8 h => ?_) (fun x8_j8 x9_j8 x10_j8 v10_j8 h => ?_)
        · refine k_seq ?_
          refine k_reg .free hmixP (by kernel_rfl) ?_
          refine G_q rfl (op_assign (av := .exact (.int .i64 0)) rfl ?_)
          refine G_nil ?_
          refine kC_normal ?_
          refine k_block ?_
          refine k_loop4_1 (m_ref35_DecodeBlock_L2 a0 y4 k8) (m_ref35_DecodeBlock_B2 a0 y4 k8) (fun _ _ _ _ => rfl) (fun m _ _ _ _ => rfl) h (fun (x8_l2 : Int) (x9_l2 : Int) (x10_l2 : List (Int × Int)) (x11_l2 : Int) (v10_l2 : Value) => (AF.put (AF.put (AF.put (AF.put (AF.put (AF.put (AF.put AF0 (some 0) (.row 1 c_uint8 a0)) (some 1) (.exact (.int .i64 a1))) (some 7) (.exact (.int .i64 y4.1))) (some 8) (.exact (.int .i64 x8_l2))) (some 9) (.exact (.int .i64 x9_l2))) (some 10) (.exact v10_l2)) (some 11) (.exact (.int .i64 x11_l2)))) (fun (x8_l2 : Int) (x9_l2 : Int) (x10_l2 : List (Int × Int)) (x11_l2 : Int) (v10_l2 : Value) => [vecT Try.prog 23 2 c_A2_int v10_l2 x10_l2]) (.slice none 0 0) ?_ (fun rec2 x8_l2 x9_l2 x10_l2 x11_l2 v10_l2 h => ?_)
          · refine Sub.trans (SubU.to (SubU.nilT (P := Try.prog) (t := 23) (n := 2) (enc := c_A2_int))) ?_
            exact Sub.of_le (AF.le_put (AV.le_eq rfl) (AF.le_put (AV.le_eq rfl) (AF.le_put (AV.le_eq rfl) (AF.le_put (AV.le_eq rfl) (AF.le_put (AV.le_eq rfl) (AF.le_put (AV.le_eq rfl) (AF.le_put (AV.le_eq rfl) (AF.le_top _))))))))
          · unfold m_ref35_DecodeBlock_B2 at h
            refine k_seq ?_
            refine k_join1_0 h (fun (x47_j134 : Bool) => (AF.put (AF.put (AF.put (AF.put (AF.put (AF.put (AF.put (AF.put AF0 (some 0) (.row 1 c_uint8 a0)) (some 1) (.exact (.int .i64 a1))) (some 7) (.exact (.int .i64 y4.1))) (some 8) (.exact (.int .i64 x8_l2))) (some 9) (.exact (.int .i64 x9_l2))) (some 10) (.exact v10_l2)) (some 11) (.exact (.int .i64 x11_l2))) (some 47) (.exact (.bool x47_j134)))) (fun (x47_j134 : Bool) => [vecT Try.prog 23 2 c_A2_int v10_l2 x10_l2]) (fun k134 h => ?_) (fun x47_j134 h => ?_)
            · refine k_reg .free hmixP (by kernel_rfl) ?_
              refine G_q rfl (op_move (av := .exact (.int .i64 x11_l2)) rfl ?_)
              refine G_q rfl (op_move (av := .exact (.int .i64 y4.1)) rfl ?_)
              refine G_q rfl (op_lss rfl rfl ?_)
              refine G_q rfl (op_move (av := .exact (.bool (decide (x11_l2 < y4.1)))) rfl ?_)
              refine G_split (p := x11_l2 < y4.1) 44 rfl (fun hc => ?_) (fun hc => ?_)
              · replace h := ite_t h hc
                refine Gy_q rfl rfl rfl (op_move (av := .exact (.int .i64 x9_l2)) rfl ?_)
                refine Gy_q rfl rfl rfl (op_eql rfl rfl ?_)
                refine G_q rfl (op_pick_t rfl (av := .exact (.bool (decide (x9_l2 = 0)))) rfl ?_)
                refine G_nil ?_
                refine kI_normal ⟨_, h, ?_⟩
                exact Sub.of_le (AF.le_put (AV.le_eq rfl) (AF.le_put (AV.le_eq rfl) (AF.le_put (AV.le_eq rfl) (AF.le_put (AV.le_eq rfl) (AF.le_put (AV.le_eq rfl) (AF.le_put (AV.le_eq rfl) (AF.le_put (AV.le_eq rfl) (AF.le_put (AV.le_eq rfl) (AF.le_top _)))))))))
              · replace h := ite_f h hc
                refine G_n rfl rfl ?_
                refine G_n rfl rfl ?_
                refine G_q rfl (op_pick_f rfl (av := .exact (.bool false)) rfl ?_)
                refine G_nil ?_
                refine kI_normal ⟨_, h, ?_⟩
                exact Sub.of_le (AF.le_put (AV.le_eq rfl) (AF.le_put (AV.le_eq rfl) (AF.le_put (AV.le_eq rfl) (AF.le_put (AV.le_eq rfl) (AF.le_put (AV.le_eq rfl) (AF.le_put (AV.le_eq rfl) (AF.le_put (AV.le_eq rfl) (AF.le_put (AV.le_eq rfl) (AF.le_top _)))))))))
            · refine k_cond_b (c := x47_j134) rfl (fun hc => ?_) (fun hc => ?_)
              · replace h := ite_t h hc
                refine k_skip ?_
                refine kC_normal ?_
                refine k_join3_1 h (fun (x8_j135 : Int) (x9_j135 : Int) (x10_j135 : List (Int × Int)) (v10_j135 : Value) => (AF.put (AF.put (AF.put (AF.put (AF.put (AF.put (AF.put AF0 (some 0) (.row 1 c_uint8 a0)) (some 1) (.exact (.int .i64 a1))) (some 7) (.exact (.int .i64 y4.1))) (some 8) (.exact (.int .i64 x8_j135))) (some 9) (.exact (.int .i64 x9_j135))) (some 10) (.exact v10_j135)) (some 11) (.exact (.int .i64 x11_l2)))) (fun (x8_j135 : Int) (x9_j135 : Int) (x10_j135 : List (Int × Int)) (v10_j135 : Value) => [vecT Try.prog 23 2 c_A2_int v10_j135 x10_j135]) (fun k135 h => ?_) (fun x8_j135 x9_j135 x10_j135 v10_j135 h => ?_)
                · refine k_block ?_
                  refine k_seq ?_
                  refine k_reg .free hmixP (by kernel_rfl) ?_
                  refine G_q rfl (op_assign (av := .exact (.int .i64 0)) rfl ?_)
                  refine G_q rfl (op_assign (av := .exact (.int .i64 0)) rfl ?_)
                  refine G_nil ?_
                  refine kC_normal ?_
                  refine k_seq ?_
                  refine k_reg .free hmixP (by kernel_rfl) ?_
                  refine G_q rfl (op_move (av := .row 1 c_uint8 a0) rfl ?_)
                  refine G_q rfl (op_move (av := .exact (.int .i64 x8_l2)) rfl ?_)
                  obtain ⟨y149, hy149, h⟩ := bnd1_some h
                  refine G_q rfl (op_pure (m_ref35_uvarint_ok _ _ _ hy149) Try.func82 (by kernel_rfl) (LEs.cons (AV.le_eq rfl) (LEs.cons (AV.le_eq rfl) LEs.nil)) ?_)
                  refine G_q rfl (op_move (av := .tup [.exact (.int .i64 y149.1), .exact (.int .i64 y149.2.1), .exact (.int .i64 y149.2.2)]) rfl ?_)
                  refine G_q rfl (op_extract (av := .exact (.int .i64 y149.1)) rfl rfl ?_)
                  refine G_q rfl (op_extract (av := .exact (.int .i64 y149.2.1)) rfl rfl ?_)
                  refine G_q rfl (op_extract (av := .exact (.int .i64 y149.2.2)) rfl rfl ?_)
                  refine G_q rfl (op_assign (av := .exact (.int .i64 y149.1)) rfl ?_)
                  refine G_q rfl (op_assign (av := .exact (.int .i64 y149.2.1)) rfl ?_)
                  refine G_q rfl (op_assign (av := .exact (.int .i64 y149.2.2)) rfl ?_)
                  refine G_nil ?_
                  refine kC_normal ?_
                  refine k_join3_0 h (fun (x8_j150 : Int) (x9_j150 : Int) (x13_j150 : Int) => (AF.put (AF.put (AF.put (AF.put (AF.put (AF.put (AF.put (AF.put (AF.put AF0 (some 0) (.row 1 c_uint8 a0)) (some 1) (.exact (.int .i64 a1))) (some 7) (.exact (.int .i64 y4.1))) (some 8) (.exact (.int .i64 x8_j150))) (some 9) (.exact (.int .i64 x9_j150))) (some 10) (.exact v10_l2)) (some 11) (.exact (.int .i64 x11_l2))) (some 12) (.exact (.int .i64 y149.1))) (some 13) (.exact (.int .i64 x13_j150)))) (fun (x8_j150 : Int) (x9_j150 : Int) (x13_j150 : Int) => [vecT Try.prog 23 2 c_A2_int v10_l2 x10_l2]) (fun k150 h => ?_) (fun x8_j150 x9_j150 x13_j150 h => ?_)
                  · refine k_seq ?_
                    refine k_reg .free hmixP (by kernel_rfl) ?_
                    refine G_q rfl (op_move (av := .exact (.int .i64 y149.2.2)) rfl ?_)
                    refine G_q rfl (op_eql rfl rfl ?_)
                    refine G_nil ?_
                    refine kC_normal ?_
                    refine k_cond_d (p := y149.2.2 = 0) rfl (fun hc => ?_) (fun hc => ?_)
                    · replace h := ite_t h hc
                      refine k_reg .free hmixP (by kernel_rfl) ?_
                      refine G_q rfl (op_move (av := .row 1 c_uint8 a0) rfl ?_)
                      refine G_q rfl (op_move (av := .exact (.int .i64 y149.2.1)) rfl ?_)
                      obtain ⟨y152, hy152, h⟩ := bnd1_some h
                      refine G_q rfl (op_pure (m_ref35_uvarint_ok _ _ _ hy152) Try.func82 (by kernel_rfl) (LEs.cons (AV.le_eq rfl) (LEs.cons (AV.le_eq rfl) LEs.nil)) ?_)
                      refine G_q rfl (op_move (av := .tup [.exact (.int .i64 y152.1), .exact (.int .i64 y152.2.1), .exact (.int .i64 y152.2.2)]) rfl ?_)
                      refine G_q rfl (op_extract (av := .exact (.int .i64 y152.1)) rfl rfl ?_)
                      refine G_q rfl (op_extract (av := .exact (.int .i64 y152.2.1)) rfl rfl ?_)
                      refine G_q rfl (op_extract (av := .exact (.int .i64 y152.2.2)) rfl rfl ?_)
                      refine G_q rfl (op_assign (av := .exact (.int .i64 y152.1)) rfl ?_)
                      refine G_q rfl (op_assign (av := .exact (.int .i64 y152.2.1)) rfl ?_)
                      refine G_q rfl (op_assign (av := .exact (.int .i64 y152.2.2)) rfl ?_)
                      refine G_nil ?_
                      refine kI_normal ⟨_, _, _, h, ?_⟩
                      exact Sub.of_le (AF.le_put (AV.le_eq rfl) (AF.le_put (AV.le_eq rfl) (AF.le_put (AV.le_eq rfl) (AF.le_put (AV.le_eq rfl) (AF.le_put (AV.le_eq rfl) (AF.le_put (AV.le_eq rfl) (AF.le_put (AV.le_eq rfl) (AF.le_put (AV.le_eq rfl) (AF.le_put (AV.le_eq rfl) (AF.le_top _))))))))))
                    · replace h := ite_f h hc
                      refine k_skip ?_
                      refine kI_normal ⟨_, _, _, h, ?_⟩
                      exact Sub.of_le (AF.le_put (AV.le_eq rfl) (AF.le_put (AV.le_eq rfl) (AF.le_put (AV.le_eq rfl) (AF.le_put (AV.le_eq rfl) (AF.le_put (AV.le_eq rfl) (AF.le_put (AV.le_eq rfl) (AF.le_put (AV.le_eq rfl) (AF.le_put (AV.le_eq rfl) (AF.le_put (AV.le_eq rfl) (AF.le_top _))))))))))
                  · refine k_block ?_
                    refine k_seq ?_
                    refine k_reg .free hmixP (by kernel_rfl) ?_
                    refine G_q rfl (op_move (av := .exact (.int .i64 x11_l2)) rfl ?_)
                    refine G_q rfl (op_eql rfl rfl ?_)
                    refine G_q rfl (op_assign (av := .exact (.bool (decide (x11_l2 = 0)))) rfl ?_)
                    refine G_nil ?_
                    refine kC_normal ?_
                    refine k_cond_d (p := x11_l2 = 0) rfl (fun hc => ?_) (fun hc => ?_)
                    · replace h := ite_t h hc
                      refine k_reg .free hmixP (by kernel_rfl) ?_
                      refine G_q rfl (op_move (av := .exact v10_l2) rfl ?_)
                      refine G_q rfl (op_move (av := .exact (.int .i64 y149.1)) rfl ?_)
                      refine G_q rfl (op_move (av := .exact (.int .i64 x13_j150)) rfl ?_)
                      refine G_q rfl (op_bld (c' := c_A2_int (y149.1, x13_j150)) (CellsAll.cons rfl CellsOf.int (CellsAll.cons rfl CellsOf.int CellsAll.nil)) rfl (LEs.cons (AV.le_eq rfl) (LEs.cons (AV.le_eq rfl) LEs.nil)) ?_)
                      refine G_q rfl (op_litT (n := 2) (enc := c_A2_int) [(y149.1, x13_j150)] (CellsAll.cons rfl CellsOf.agg CellsAll.nil) rfl (by kernel_rfl) (LEss.cons (LEs.cons (AV.le_eq rfl) (LEs.cons (AV.le_eq rfl) LEs.nil)) LEss.nil) ?_)
                      obtain ⟨n153, h⟩ := need_some h
                      refine G_l rfl (op_appT (by kernel_rfl) rfl rfl oc_c_A2_int n153 (fun v154 => ?_))
                      refine G_q rfl (op_assign (av := .exact v154) rfl ?_)
                      refine G_nil ?_
                      refine kB_normal ?_
                      refine kB_normal ?_
                      refine kI_normal ⟨_, _, _, v154, h, ?_⟩
                      exact Sub.of_le (AF.le_put (AV.le_eq rfl) (AF.le_put (AV.le_eq rfl) (AF.le_put (AV.le_eq rfl) (AF.le_put (AV.le_eq rfl) (AF.le_put (AV.le_eq rfl) (AF.le_put (AV.le_eq rfl) (AF.le_put (AV.le_eq rfl) (AF.le_top _))))))))
                    · replace h := ite_f h hc
                      refine k_seq ?_
                      refine k_reg .free hmixP (by kernel_rfl) ?_
                      refine G_q rfl (op_move (av := .exact (.int .i64 y149.1)) rfl ?_)
                      refine G_q rfl (op_eql rfl rfl ?_)
                      refine G_q rfl (op_assign (av := .exact (.bool (decide (y149.1 = 0)))) rfl ?_)
                      refine G_nil ?_
                      refine kC_normal ?_
                      refine k_cond_d (p := y149.1 = 0) rfl (fun hc => ?_) (fun hc => ?_)
                      · replace h := ite_t h hc
                        refine k_plan [] [(0, 0), (0, 1), (0, 2), (0, 3), (0, 7), (0, 8), (0, 9), (0, 14), (1, 4), (0, 5), (1, 6), (1, 10), (0, 11), (1, 12), (0, 13), (0, 15), (0, 16), (0, 17), (2, 18), (0, 19)] hmixP (by kernel_rfl) ?_
                        refine P_q no34_0 rfl (op_move (av := .exact v10_l2) rfl ?_)
                        refine P_q no34_0 rfl (op_move (av := .exact v10_l2) rfl ?_)
                        refine P_q no34_0 rfl (op_move (av := .exact (.int .i64 x11_l2)) rfl ?_)
                        refine P_q no34_0 rfl (op_sub rfl rfl rfl ?_)
                        refine P_q no34_0 rfl (op_move (av := .exact v10_l2) rfl ?_)
                        refine P_q no34_0 rfl (op_move (av := .exact (.int .i64 x11_l2)) rfl ?_)
                        refine P_q no34_0 rfl (op_sub rfl rfl rfl ?_)
                        refine P_q no34_0 rfl (op_move (av := .exact (.int .i64 x13_j150)) rfl ?_)
                        obtain ⟨n155, h⟩ := need_some h
                        refine P_r rfl (op_index_vec (by kernel_rfl) rfl rfl n155.1 n155.2 ?_)
                        refine P_q no34_0 rfl (op_indexArr_eptr (m := 2) (n := 1) (by kernel_rfl) rfl rfl (by decide) (by decide) ?_)
                        refine P_r rfl (op_load_vec1 (i := i64 (x11_l2 - 1)) (o := 0) (a := .exact (.int .i64 ((gi x10_l2 (i64 (x11_l2 - 1))).1))) (by kernel_rfl) len_c_A2_int rfl n155.1 n155.2 rfl ?_)
                        obtain ⟨n156, h⟩ := need_some h
                        refine P_r rfl (op_index_vec (by kernel_rfl) rfl rfl n156.1 n156.2 ?_)
                        refine P_q no34_0 rfl (op_indexArr_eptr (m := 2) (n := 1) (by kernel_rfl) rfl rfl (by decide) (by decide) ?_)
                        refine P_r rfl (op_load_vec1 (i := i64 (x11_l2 - 1)) (o := 1) (a := .exact (.int .i64 ((gi x10_l2 (i64 (x11_l2 - 1))).2))) (by kernel_rfl) len_c_A2_int rfl n156.1 n156.2 rfl ?_)
                        refine P_q no34_0 rfl (op_add rfl rfl rfl ?_)
                        refine P_q no34_0 rfl (op_add rfl rfl rfl ?_)
                        refine P_q no34_0 rfl (op_bld (c' := c_A2_int ((gi x10_l2 (i64 (x11_l2 - 1))).1, i64 ((i64 (((gi x10_l2 (i64 (x11_l2 - 1))).2) + 1)) + x13_j150))) (CellsAll.cons rfl CellsOf.int (CellsAll.cons rfl CellsOf.int CellsAll.nil)) rfl (LEs.cons (AV.le_eq rfl) (LEs.cons (AV.le_eq rfl) LEs.nil)) ?_)
                        refine P_q no34_0 rfl (op_litT (n := 2) (enc := c_A2_int) [((gi x10_l2 (i64 (x11_l2 - 1))).1, i64 ((i64 (((gi x10_l2 (i64 (x11_l2 - 1))).2) + 1)) + x13_j150))] (CellsAll.cons rfl CellsOf.agg CellsAll.nil) rfl (by kernel_rfl) (LEss.cons (LEs.cons (AV.le_eq rfl) (LEs.cons (AV.le_eq rfl) LEs.nil)) LEss.nil) ?_)
                        obtain ⟨n157, h⟩ := need_some h
                        refine P_l rfl (op_appT (by kernel_rfl) rfl rfl oc_c_A2_int n157 (fun v158 => ?_))
                        refine P_q no34_0 rfl (op_assign (av := .exact v158) rfl ?_)
                        refine P_nil ?_
                        refine kB_normal ?_
                        refine kB_normal ?_
                        refine kI_normal ⟨_, _, _, v158, h, ?_⟩
                        exact Sub.of_le (AF.le_put (AV.le_eq rfl) (AF.le_put (AV.le_eq rfl) (AF.le_put (AV.le_eq rfl) (AF.le_put (AV.le_eq rfl) (AF.le_put (AV.le_eq rfl) (AF.le_put (AV.le_eq rfl) (AF.le_put (AV.le_eq rfl) (AF.le_top _))))))))
                      · replace h := ite_f h hc
                        refine k_reg .free hmixP (by kernel_rfl) ?_
                        refine G_q rfl (op_move (av := .exact v10_l2) rfl ?_)
                        refine G_q rfl (op_move (av := .exact v10_l2) rfl ?_)
                        refine G_q rfl (op_move (av := .exact (.int .i64 x11_l2)) rfl ?_)
                        refine G_q rfl (op_sub rfl rfl rfl ?_)
                        obtain ⟨n159, h⟩ := need_some h
                        refine G_r rfl (op_index_vec (by kernel_rfl) rfl rfl n159.1 n159.2 ?_)
                        refine G_q rfl (op_indexArr_eptr (m := 2) (n := 1) (by kernel_rfl) rfl rfl (by decide) (by decide) ?_)
                        refine G_r rfl (op_load_vec1 (i := i64 (x11_l2 - 1)) (o := 0) (a := .exact (.int .i64 ((gi x10_l2 (i64 (x11_l2 - 1))).1))) (by kernel_rfl) len_c_A2_int rfl n159.1 n159.2 rfl ?_)
                        refine G_q rfl (op_move (av := .exact (.int .i64 y149.1)) rfl ?_)
                        refine G_q rfl (op_add rfl rfl rfl ?_)
                        refine G_q rfl (op_move (av := .exact (.int .i64 x13_j150)) rfl ?_)
                        refine G_q rfl (op_bld (c' := c_A2_int (i64 (((gi x10_l2 (i64 (x11_l2 - 1))).1) + y149.1), x13_j150)) (CellsAll.cons rfl CellsOf.int (CellsAll.cons rfl CellsOf.int CellsAll.nil)) rfl (LEs.cons (AV.le_eq rfl) (LEs.cons (AV.le_eq rfl) LEs.nil)) ?_)
                        refine G_q rfl (op_litT (n := 2) (enc := c_A2_int) [(i64 (((gi x10_l2 (i64 (x11_l2 - 1))).1) + y149.1), x13_j150)] (CellsAll.cons rfl CellsOf.agg CellsAll.nil) rfl (by kernel_rfl) (LEss.cons (LEs.cons (AV.le_eq rfl) (LEs.cons (AV.le_eq rfl) LEs.nil)) LEss.nil) ?_)
                        obtain ⟨n160, h⟩ := need_some h
                        refine G_l rfl (op_appT (by kernel_rfl) rfl rfl oc_c_A2_int n160 (fun v161 => ?_))
                        refine G_q rfl (op_assign (av := .exact v161) rfl ?_)
                        refine G_nil ?_
                        refine kB_normal ?_
                        refine kB_normal ?_
                        refine kI_normal ⟨_, _, _, v161, h, ?_⟩
                        exact Sub.of_le (AF.le_put (AV.le_eq rfl) (AF.le_put (AV.le_eq rfl) (AF.le_put (AV.le_eq rfl) (AF.le_put (AV.le_eq rfl) (AF.le_put (AV.le_eq rfl) (AF.le_put (AV.le_eq rfl) (AF.le_put (AV.le_eq rfl) (AF.le_top _))))))))
                · refine k_reg .free hmixP (by kernel_rfl) ?_
                  refine G_q rfl (op_move (av := .exact (.int .i64 x11_l2)) rfl ?_)
                  refine G_q rfl (op_add rfl rfl rfl ?_)
                  refine G_q rfl (op_assign (av := .exact (.int .i64 (i64 (x11_l2 + 1)))) rfl ?_)
                  refine G_nil ?_
                  refine kI_normal ⟨_, _, _, _, v10_j135, h, ?_⟩
                  exact Sub.of_le (AF.le_put (AV.le_eq rfl) (AF.le_put (AV.le_eq rfl) (AF.le_put (AV.le_eq rfl) (AF.le_put (AV.le_eq rfl) (AF.le_put (AV.le_eq rfl) (AF.le_put (AV.le_eq rfl) (AF.le_put (AV.le_eq rfl) (AF.le_top _))))))))
              · replace h := ite_f h hc
                refine k_exit ?_
                refine kC_exit ?_
                refine kI_exit ?_
                refine kB_exit ?_
                refine kI_normal ⟨_, _, _, v10_l2, h, ?_⟩
                exact Sub.of_le (AF.le_put (AV.le_eq rfl) (AF.le_put (AV.le_eq rfl) (AF.le_put (AV.le_eq rfl) (AF.le_put (AV.le_eq rfl) (AF.le_put (AV.le_eq rfl) (AF.le_top _))))))
        · refine k_seq ?_
          refine k_seq ?_
          refine k_reg .free hmixP (by kernel_rfl) ?_
          refine G_q rfl (op_move (av := .exact (.int .i64 x9_j8)) rfl ?_)
          refine G_q rfl (op_neq rfl rfl ?_)
          refine G_nil ?_
          refine kC_normal ?_
          refine k_cond_d (p := ¬ x9_j8 = 0) rfl (fun hc => ?_) (fun hc => ?_)
          · replace h := ite_t h hc
            refine k_seq ?_
            refine k_reg .free hmixP (by kernel_rfl) ?_
            refine G_q rfl (op_move (av := .exact (.int .i64 x9_j8)) rfl ?_)
            refine G_q rfl (op_assign (av := .exact (.slice none 0 0)) rfl ?_)
            refine G_q rfl (op_assign (av := .exact (.int .i64 0)) rfl ?_)
            refine G_q rfl (op_assign (av := .exact (.int .i64 x9_j8)) rfl ?_)
            refine G_nil ?_
            refine kC_normal ?_
            refine k_ret ?_
            refine kC_ret ?_
            obtain rfl := Option.some.inj h
            refine kP_any (endN (af' := (AF.put (AF.put (AF.put AF0 (some 4) (.row 2 c_A2_int [])) (some 5) (.exact (.int .i64 0))) (some 6) (.exact (.int .i64 x9_j8)))) (σ' := []) _ rfl ?_ ⟨rfl, rfl⟩)
            refine Sub.trans (SubU.to SubU.drop) ?_
            exact Sub.of_le (AF.le_put (AV.le_eq rfl) (AF.le_put (AV.le_eq rfl) (AF.le_put (row_nil (by decide)) (AF.le_top _))))
          · replace h := ite_f h hc
            refine k_skip ?_
            refine kC_normal ?_
            refine k_seq ?_
            refine k_seq ?_
            refine k_reg .free hmixP (by kernel_rfl) ?_
            refine G_q rfl (op_move (av := .row 1 c_uint8 a0) rfl ?_)
            refine G_q rfl (op_len_row (by kernel_rfl) rfl ?_)
            refine G_q rfl (op_move (av := .exact (.int .i64 x8_j8)) rfl ?_)
            refine G_q rfl (op_add rfl rfl rfl ?_)
            refine G_q rfl (op_lss rfl rfl ?_)
            refine G_nil ?_
            refine kC_normal ?_
            refine k_cond_d (p := (List.length a0 : Int) < (i64 (x8_j8 + 4))) rfl (fun hc => ?_) (fun hc => ?_)
            · replace h := ite_t h hc
              refine k_seq ?_
              refine k_reg .free hmixP (by kernel_rfl) ?_
              refine G_q rfl (op_assign (av := .exact (.slice none 0 0)) rfl ?_)
              refine G_q rfl (op_assign (av := .exact (.int .i64 0)) rfl ?_)
              refine G_q rfl (op_assign (av := .exact (.int .i64 23)) rfl ?_)
              refine G_nil ?_
              refine kC_normal ?_
              refine k_ret ?_
              refine kC_ret ?_
              obtain rfl := Option.some.inj h
              refine kP_any (endN (af' := (AF.put (AF.put (AF.put AF0 (some 4) (.row 2 c_A2_int [])) (some 5) (.exact (.int .i64 0))) (some 6) (.exact (.int .i64 23)))) (σ' := []) _ rfl ?_ ⟨rfl, rfl⟩)
              refine Sub.trans (SubU.to SubU.drop) ?_
              exact Sub.of_le (AF.le_put (AV.le_eq rfl) (AF.le_put (AV.le_eq rfl) (AF.le_put (row_nil (by decide)) (AF.le_top _))))
            · replace h := ite_f h hc
              refine k_skip ?_
              refine kC_normal ?_
              refine k_seq ?_
              refine k_seq ?_
              refine k_plan [] [(0, 0), (0, 1), (0, 2), (0, 3), (0, 4), (0, 5), (0, 6), (0, 7), (0, 8), (0, 9), (0, 10), (0, 11), (0, 12)] hmixP (by kernel_rfl) ?_
              refine P_q no34_0 rfl (op_move (av := .row 1 c_uint8 a0) rfl ?_)
              refine P_q no34_0 rfl (op_move (av := .exact (.int .i64 a1)) rfl ?_)
              refine P_q no34_0 rfl (op_move (av := .exact (.int .i64 x8_j8)) rfl ?_)
              obtain ⟨n162, h⟩ := need_some h
              refine P_q no34_0 rfl (op_slice_row (by kernel_rfl) rfl (bnd_some rfl) (bnd_some rfl) n162.1 n162.2.1 n162.2.2 ?_)
              obtain ⟨y163, hy163, h⟩ := bnd1_some h
              refine P_q no34_0 rfl (op_pure (m_ref23_Sealed_ok _ _ hy163) Try.func20 (by kernel_rfl) (LEs.cons (AV.le_eq rfl) LEs.nil) ?_)
              refine P_q no34_0 rfl (op_bytesS rfl (by kernel_rfl) rfl ?_)
              refine P_q no34_0 rfl (op_move (av := .row 1 c_uint8 a0) rfl ?_)
              refine P_q no34_0 rfl (op_move (av := .exact (.int .i64 a1)) rfl ?_)
              refine P_q no34_0 rfl (op_move (av := .exact (.int .i64 x8_j8)) rfl ?_)
              refine P_q no34_0 rfl (op_add rfl rfl rfl ?_)
              obtain ⟨n164, h⟩ := need_some h
              refine P_q no34_0 rfl (op_slice_row (by kernel_rfl) rfl (bnd_some rfl) (bnd_some rfl) n164.1 n164.2.1 n164.2.2 ?_)
              refine P_q no34_0 rfl (op_bytesS rfl (by kernel_rfl) rfl ?_)
              refine P_q no34_0 rfl (op_neqS rfl rfl ?_)
              refine P_nil ?_
              refine kC_normal ?_
              refine k_cond_d (p := ¬ y163 = (List.take (Int.toNat (i64 (x8_j8 + 4)) - Int.toNat a1) (List.drop (Int.toNat a1) a0))) rfl (fun hc => ?_) (fun hc => ?_)
              · replace h := ite_t h hc
                refine k_seq ?_
                refine k_reg .free hmixP (by kernel_rfl) ?_
                refine G_q rfl (op_assign (av := .exact (.slice none 0 0)) rfl ?_)
                refine G_q rfl (op_assign (av := .exact (.int .i64 0)) rfl ?_)
                refine G_q rfl (op_assign (av := .exact (.int .i64 24)) rfl ?_)
                refine G_nil ?_
                refine kC_normal ?_
                refine k_ret ?_
                refine kC_ret ?_
                obtain rfl := Option.some.inj h
                refine kP_any (endN (af' := (AF.put (AF.put (AF.put AF0 (some 4) (.row 2 c_A2_int [])) (some 5) (.exact (.int .i64 0))) (some 6) (.exact (.int .i64 24)))) (σ' := []) _ rfl ?_ ⟨rfl, rfl⟩)
                refine Sub.trans (SubU.to SubU.drop) ?_
                exact Sub.of_le (AF.le_put (AV.le_eq rfl) (AF.le_put (AV.le_eq rfl) (AF.le_put (row_nil (by decide)) (AF.le_top _))))
              · replace h := ite_f h hc
                refine k_skip ?_
                refine kC_normal ?_
                refine k_seq ?_
                refine k_reg .free hmixP (by kernel_rfl) ?_
                refine G_q rfl (op_move (av := .exact v10_j8) rfl ?_)
                refine G_sub rfl (SubU.freezeT2 (s1 := 10) (s2 := 132) rfl rfl len_c_A2_int) ?_
                obtain ⟨y165, hy165, h⟩ := bnd1_some h
                refine G_q rfl (op_pure (m_ref35_EncodeBlock_ok _ _ hy165) Try.func16 (by kernel_rfl) (LEs.cons (AV.le_eq rfl) LEs.nil) ?_)
                refine G_q rfl (op_move (av := .tup [.row 1 c_uint8 y165.1, .exact (.int .i64 y165.2)]) rfl ?_)
                refine G_q rfl (op_extract (av := .row 1 c_uint8 y165.1) rfl rfl ?_)
                refine G_q rfl (op_extract (av := .exact (.int .i64 y165.2)) rfl rfl ?_)
                refine G_q rfl (op_assign (av := .row 1 c_uint8 y165.1) rfl ?_)
                refine G_q rfl (op_assign (av := .exact (.int .i64 y165.2)) rfl ?_)
                refine G_nil ?_
                refine kC_normal ?_
                refine k_seq ?_
                refine k_join1_0 h (fun (x148_j170 : Bool) => (AF.put (AF.put (AF.put AF0 (some 8) (.exact (.int .i64 x8_j8))) (some 10) (.row 2 c_A2_int x10_j8)) (some 148) (.exact (.bool x148_j170)))) (fun (x148_j170 : Bool) => []) (fun k170 h => ?_) (fun x148_j170 h => ?_)
                · refine k_plan [] [(0, 0), (0, 1), (0, 2), (0, 3), (0, 4), (0, 5), (0, 6), (0, 7), (0, 8), (0, 9), (0, 10), (0, 11), (0, 12)] hmixP (by kernel_rfl) ?_
                  refine P_q no34_0 rfl (op_move (av := .exact (.int .i64 y165.2)) rfl ?_)
                  refine P_q no34_0 rfl (op_neq rfl rfl ?_)
                  refine P_q no34_0 rfl (op_move (av := .exact (.bool (decide (¬ y165.2 = 0)))) rfl ?_)
                  refine P_split (p := ¬ y165.2 = 0) 138 rfl (fun hc => ?_) (fun hc => ?_)
                  · replace h := ite_t h hc
                    refine P_n no34_0 rfl rfl rfl ?_
                    refine P_n no34_0 rfl rfl rfl ?_
                    refine P_n no34_0 rfl rfl rfl ?_
                    refine P_n no34_0 rfl rfl rfl ?_
                    refine P_n no34_0 rfl rfl rfl ?_
                    refine P_n no34_0 rfl rfl rfl ?_
                    refine P_n no34_0 rfl rfl rfl ?_
                    refine P_n no34_0 rfl rfl rfl ?_
                    refine P_n no34_0 rfl rfl rfl ?_
                    refine P_q no34_0 rfl (op_pick_t rfl (av := .exact (.bool true)) rfl ?_)
                    refine P_nil ?_
                    refine kI_normal ⟨_, h, ?_⟩
                    exact Sub.of_le (AF.le_put (AV.le_eq rfl) (AF.le_put (AV.le_eq rfl) (AF.le_put (AV.le_eq rfl) (AF.le_top _))))
                  · replace h := ite_f h hc
                    refine Py_q no34_0 rfl rfl rfl (op_move (av := .row 1 c_uint8 y165.1) rfl ?_)
                    refine Py_q no34_0 rfl rfl rfl (op_bytesS rfl (by kernel_rfl) rfl ?_)
                    refine Py_q no34_0 rfl rfl rfl (op_move (av := .row 1 c_uint8 a0) rfl ?_)
                    refine Py_q no34_0 rfl rfl rfl (op_move (av := .exact (.int .i64 a1)) rfl ?_)
                    refine Py_q no34_0 rfl rfl rfl (op_move (av := .exact (.int .i64 x8_j8)) rfl ?_)
                    refine Py_q no34_0 rfl rfl rfl (op_add rfl rfl rfl ?_)
                    obtain ⟨n172, h⟩ := need_some h
                    refine Py_q no34_0 rfl rfl rfl (op_slice_row (by kernel_rfl) rfl (bnd_some rfl) (bnd_some rfl) n172.1 n172.2.1 n172.2.2 ?_)
                    refine Py_q no34_0 rfl rfl rfl (op_bytesS rfl (by kernel_rfl) rfl ?_)
                    refine Py_q no34_0 rfl rfl rfl (op_neqS rfl rfl ?_)
                    refine P_q no34_0 rfl (op_pick_f rfl (av := .exact (.bool (decide (¬ y165.1 = (List.take (Int.toNat (i64 (x8_j8 + 4)) - Int.toNat a1) (List.drop (Int.toNat a1) a0)))))) rfl ?_)
                    refine P_nil ?_
                    refine kI_normal ⟨_, h, ?_⟩
                    exact Sub.of_le (AF.le_put (AV.le_eq rfl) (AF.le_put (AV.le_eq rfl) (AF.le_put (AV.le_eq rfl) (AF.le_top _))))
                · refine k_cond_b (c := x148_j170) rfl (fun hc => ?_) (fun hc => ?_)
                  · replace h := ite_t h hc
                    refine k_seq ?_
                    refine k_reg .free hmixP (by kernel_rfl) ?_
                    refine G_q rfl (op_assign (av := .exact (.slice none 0 0)) rfl ?_)
                    refine G_q rfl (op_assign (av := .exact (.int .i64 0)) rfl ?_)
                    refine G_q rfl (op_assign (av := .exact (.int .i64 22)) rfl ?_)
                    refine G_nil ?_
                    refine kC_normal ?_
                    refine k_ret ?_
                    refine kC_ret ?_
                    obtain rfl := Option.some.inj h
                    refine kP_any (endN (af' := (AF.put (AF.put (AF.put AF0 (some 4) (.row 2 c_A2_int [])) (some 5) (.exact (.int .i64 0))) (some 6) (.exact (.int .i64 22)))) (σ' := []) _ rfl ?_ ⟨rfl, rfl⟩)
                    exact Sub.of_le (AF.le_put (AV.le_eq rfl) (AF.le_put (AV.le_eq rfl) (AF.le_put (row_nil (by decide)) (AF.le_top _))))
                  · replace h := ite_f h hc
                    refine k_skip ?_
                    refine kC_normal ?_
                    refine k_seq ?_
                    refine k_reg .free hmixP (by kernel_rfl) ?_
                    refine G_q rfl (op_move (av := .row 2 c_A2_int x10_j8) rfl ?_)
                    refine G_q rfl (op_move (av := .exact (.int .i64 x8_j8)) rfl ?_)
                    refine G_q rfl (op_add rfl rfl rfl ?_)
                    refine G_q rfl (op_assign (av := .row 2 c_A2_int x10_j8) rfl ?_)
                    refine G_q rfl (op_assign (av := .exact (.int .i64 (i64 (x8_j8 + 4)))) rfl ?_)
                    refine G_q rfl (op_assign (av := .exact (.int .i64 0)) rfl ?_)
                    refine G_nil ?_
                    refine kC_normal ?_
                    refine k_ret ?_
                    obtain rfl := Option.some.inj h
                    refine kP_any (endN (af' := (AF.put (AF.put (AF.put AF0 (some 4) (.row 2 c_A2_int x10_j8)) (some 5) (.exact (.int .i64 (i64 (x8_j8 + 4))))) (some 6) (.exact (.int .i64 0)))) (σ' := []) _ rfl ?_ ⟨rfl, rfl⟩)
                    exact Sub.of_le (AF.le_put (AV.le_eq rfl) (AF.le_put (AV.le_eq rfl) (AF.le_put (AV.le_eq rfl) (AF.le_top _))))
set_option maxHeartbeats 4000000 in
theorem m_law36_same_ok (a0 : List (Int × Int)) (a1 : List (Int × Int)) (r : Bool) (h : m_law36_same a0 a1 = some r) : Pure Try.prog 25 [(.row 2 c_A2_int a0), (.row 2 c_A2_int a1)] (.exact (.bool r)) := by
  unfold m_law36_same at h
  refine Pure.ofFun (fun_of_awp Try.func25 rfl Try.ntmps25 (by simp) rfl (res1 rfl) fun E hE => k_end ?_)
  refine k_seq ?_
  refine k_reg .free hmixP (by kernel_rfl) ?_
  refine G_q rfl (op_assign (av := .exact (.bool false)) rfl ?_)
  refine G_nil ?_
  refine kC_normal ?_
  refine k_seq ?_
  refine k_seq ?_
  refine k_reg .free hmixP (by kernel_rfl) ?_
  refine G_q rfl (op_move (av := .row 2 c_A2_int a0) rfl ?_)
  refine G_q rfl (op_len_row (by kernel_rfl) rfl ?_)
  refine G_q rfl (op_move (av := .row 2 c_A2_int a1) rfl ?_)
  refine G_q rfl (op_len_row (by kernel_rfl) rfl ?_)
  refine G_q rfl (op_neq rfl rfl ?_)
  refine G_nil ?_
  refine kC_normal ?_
  refine k_cond_d (p := ¬ (List.length a0 : Int) = (List.length a1 : Int)) rfl (fun hc => ?_) (fun hc => ?_)
  · replace h := ite_t h hc
    refine k_seq ?_
    refine k_reg .free hmixP (by kernel_rfl) ?_
    refine G_q rfl (op_assign (av := .exact (.bool false)) rfl ?_)
    refine G_nil ?_
    refine kC_normal ?_
    refine k_ret ?_
    refine kC_ret ?_
    obtain rfl := Option.some.inj h
    refine kP_any (endN (af' := (AF.put AF0 (some 4) (.exact (.bool false)))) (σ' := []) _ rfl ?_ ⟨rfl, rfl⟩)
    exact Sub.of_le (AF.le_put (AV.le_eq rfl) (AF.le_top _))
  · replace h := ite_f h hc
    refine k_skip ?_
    refine kC_normal ?_
    refine k_join0_0 h (AF0) ([]) (fun k1 h => ?_) (fun  h => ?_)
    · refine k_seq ?_
      refine k_reg .free hmixP (by kernel_rfl) ?_
      refine G_q rfl (op_assign (av := .exact (.int .i64 0)) rfl ?_)
      refine G_nil ?_
      refine kC_normal ?_
      refine k_block ?_
      refine k_loop1_0 (m_law36_same_L2 a0 a1 k1) (m_law36_same_B2 a0 a1 k1) (fun _ => rfl) (fun m _ => rfl) h (fun (x5_l2 : Int) => (AF.put (AF.put (AF.put AF0 (some 0) (.row 2 c_A2_int a0)) (some 1) (.row 2 c_A2_int a1)) (some 5) (.exact (.int .i64 x5_l2)))) (fun (x5_l2 : Int) => []) ?_ (fun rec2 x5_l2 h => ?_)
      · exact Sub.of_le (AF.le_put (AV.le_eq rfl) (AF.le_put (AV.le_eq rfl) (AF.le_put (AV.le_eq rfl) (AF.le_top _))))
      · unfold m_law36_same_B2 at h
        refine k_seq ?_
        refine k_seq ?_
        refine k_reg .free hmixP (by kernel_rfl) ?_
        refine G_q rfl (op_move (av := .exact (.int .i64 x5_l2)) rfl ?_)
        refine G_q rfl (op_move (av := .row 2 c_A2_int a0) rfl ?_)
        refine G_q rfl (op_len_row (by kernel_rfl) rfl ?_)
        refine G_q rfl (op_lss rfl rfl ?_)
        refine G_nil ?_
        refine kC_normal ?_
        refine k_cond_d (p := x5_l2 < (List.length a0 : Int)) rfl (fun hc => ?_) (fun hc => ?_)
        · replace h := ite_t h hc
          refine k_skip ?_
          refine kC_normal ?_
          refine k_seq ?_
          refine k_block ?_
          refine k_seq ?_
          refine k_plan [] [(0, 0), (0, 1), (0, 2), (0, 3), (0, 4), (0, 5), (0, 6), (0, 7), (0, 8)] hmixP (by kernel_rfl) ?_
          refine P_q no34_0 rfl (op_move (av := .row 2 c_A2_int a0) rfl ?_)
          refine P_q no34_0 rfl (op_move (av := .exact (.int .i64 x5_l2)) rfl ?_)
          obtain ⟨n13, h⟩ := need_some h
          refine P_q no34_0 rfl (op_index_row (by kernel_rfl) rfl rfl n13.1 n13.2 ?_)
          refine P_q no34_0 rfl (op_loadNp (m := 2) (c' := c_A2_int (gi a0 x5_l2)) (by kernel_rfl) rfl rfl rfl ?_)
          refine P_q no34_0 rfl (op_move (av := .row 2 c_A2_int a1) rfl ?_)
          refine P_q no34_0 rfl (op_move (av := .exact (.int .i64 x5_l2)) rfl ?_)
          obtain ⟨n14, h⟩ := need_some h
          refine P_q no34_0 rfl (op_index_row (by kernel_rfl) rfl rfl n14.1 n14.2 ?_)
          refine P_q no34_0 rfl (op_loadNp (m := 2) (c' := c_A2_int (gi a1 x5_l2)) (by kernel_rfl) rfl rfl rfl ?_)
          refine P_q no34_0 rfl (op_neqA (a := (gi a0 x5_l2)) (b := (gi a1 x5_l2)) (by kernel_rfl) (eq_c_A2_int _ _) rfl rfl ?_)
          refine P_nil ?_
          refine kC_normal ?_
          refine k_cond_d (p := ¬ (gi a0 x5_l2) = (gi a1 x5_l2)) rfl (fun hc => ?_) (fun hc => ?_)
          · replace h := ite_t h hc
            refine k_seq ?_
            refine k_reg .free hmixP (by kernel_rfl) ?_
            refine G_q rfl (op_assign (av := .exact (.bool false)) rfl ?_)
            refine G_nil ?_
            refine kC_normal ?_
            refine k_ret ?_
            refine kB_ret ?_
            refine kC_ret ?_
            refine kI_ret ?_
            refine kB_ret ?_
            refine kI_ret ?_
            obtain rfl := Option.some.inj h
            refine kP_any (endN (af' := (AF.put AF0 (some 4) (.exact (.bool false)))) (σ' := []) _ rfl ?_ ⟨rfl, rfl⟩)
            exact Sub.of_le (AF.le_put (AV.le_eq rfl) (AF.le_top _))
          · replace h := ite_f h hc
            refine k_skip ?_
            refine kB_normal ?_
            refine kC_normal ?_
            refine k_reg .free hmixP (by kernel_rfl) ?_
            refine G_q rfl (op_move (av := .exact (.int .i64 x5_l2)) rfl ?_)
            refine G_q rfl (op_add rfl rfl rfl ?_)
            refine G_q rfl (op_assign (av := .exact (.int .i64 (i64 (x5_l2 + 1)))) rfl ?_)
            refine G_nil ?_
            refine kI_normal ⟨_, h, ?_⟩
            exact Sub.of_le (AF.le_put (AV.le_eq rfl) (AF.le_put (AV.le_eq rfl) (AF.le_put (AV.le_eq rfl) (AF.le_top _))))
        · replace h := ite_f h hc
          refine k_exit ?_
          refine kC_exit ?_
          refine kI_exit ?_
          refine kB_exit ?_
          refine kI_normal ⟨h, ?_⟩
          exact Sub.of_le (AF.le_top _)
    · refine k_seq ?_
      refine k_reg .free hmixP (by kernel_rfl) ?_
      refine G_q rfl (op_assign (av := .exact (.bool true)) rfl ?_)
      refine G_nil ?_
      refine kC_normal ?_
      refine k_ret ?_
      obtain rfl := Option.some.inj h
      refine kP_any (endN (af' := (AF.put AF0 (some 4) (.exact (.bool true)))) (σ' := []) _ rfl ?_ ⟨rfl, rfl⟩)
      exact Sub.of_le (AF.le_put (AV.le_eq rfl) (AF.le_top _))
set_option maxHeartbeats 4000000 in
theorem m_frontier_EncodeBlock_ok (a0 : List (Int × Int)) (r : (List UInt8) × Int) (h : m_frontier_EncodeBlock a0 = some r) : Pure Try.prog 41 [(.row 2 c_A2_int a0)] (.tup [.row 1 c_uint8 r.1, .exact (.int .i64 r.2)]) := by
  unfold m_frontier_EncodeBlock at h
  refine Pure.ofFun (fun_of_awp Try.func41 rfl Try.ntmps41 (by simp) rfl (res2 rfl) fun E hE => k_end ?_)
  refine k_seq ?_
  refine k_reg .free hmixP (by kernel_rfl) ?_
  refine G_q rfl (op_assign (av := .exact (.slice none 0 0)) rfl ?_)
  refine G_q rfl (op_assign (av := .exact (.int .i64 0)) rfl ?_)
  refine G_nil ?_
  refine kC_normal ?_
  refine k_seq ?_
  refine k_seq ?_
  refine k_reg .free hmixP (by kernel_rfl) ?_
  refine G_q rfl (op_move (av := .row 2 c_A2_int a0) rfl ?_)
  obtain ⟨y1, hy1, h⟩ := bnd1_some h
  refine G_q rfl (op_pure (m_frontier_isBlock_ok _ _ hy1) Try.func77 (by kernel_rfl) (LEs.cons (AV.le_eq rfl) LEs.nil) ?_)
  refine G_q rfl (op_not rfl ?_)
  refine G_nil ?_
  refine kC_normal ?_
  refine k_cond_b (c := !y1) rfl (fun hc => ?_) (fun hc => ?_)
  · replace h := ite_t h hc
    refine k_seq ?_
    refine k_reg .free hmixP (by kernel_rfl) ?_
    refine G_q rfl (op_assign (av := .exact (.slice none 0 0)) rfl ?_)
    refine G_q rfl (op_assign (av := .exact (.int .i64 1)) rfl ?_)
    refine G_nil ?_
    refine kC_normal ?_
    refine k_ret ?_
    refine kC_ret ?_
    obtain rfl := Option.some.inj h
    refine kP_any (endN (af' := (AF.put (AF.put AF0 (some 2) (.row 1 c_uint8 [])) (some 3) (.exact (.int .i64 1)))) (σ' := []) _ rfl ?_ ⟨rfl, rfl⟩)
    exact Sub.of_le (AF.le_put (AV.le_eq rfl) (AF.le_put (row_nil (by decide)) (AF.le_top _)))
  · replace h := ite_f h hc
    refine k_skip ?_
    refine kC_normal ?_
    refine k_seq ?_
    refine k_reg .free hmixP (by kernel_rfl) ?_
    refine G_q rfl (op_move (av := .row 2 c_A2_int a0) rfl ?_)
    obtain ⟨y2, hy2, h⟩ := bnd1_some h
    refine G_q rfl (op_pure (m_frontier_encode_ok _ _ hy2) Try.func49 (by kernel_rfl) (LEs.cons (AV.le_eq rfl) LEs.nil) ?_)
    refine G_q rfl (op_assign (av := .row 1 c_uint8 y2) rfl ?_)
    refine G_q rfl (op_assign (av := .exact (.int .i64 0)) rfl ?_)
    refine G_nil ?_
    refine kC_normal ?_
    refine k_ret ?_
    obtain rfl := Option.some.inj h
    refine kP_any (endN (af' := (AF.put (AF.put AF0 (some 2) (.row 1 c_uint8 y2)) (some 3) (.exact (.int .i64 0)))) (σ' := []) _ rfl ?_ ⟨rfl, rfl⟩)
    exact Sub.of_le (AF.le_put (AV.le_eq rfl) (AF.le_put (AV.le_eq rfl) (AF.le_top _)))
set_option maxHeartbeats 4000000 in
theorem m_law36_sane_ok  (r : Bool) (h : m_law36_sane = some r) : Pure Try.prog 15 [] (.exact (.bool r)) := by
  unfold m_law36_sane at h
  refine Pure.ofFun (fun_of_awp Try.func15 rfl Try.ntmps15 (by simp) rfl (res1 rfl) fun E hE => k_end ?_)
  refine k_seq ?_
  refine k_reg .free hmixP (by kernel_rfl) ?_
  refine G_q rfl (op_assign (av := .exact (.bool false)) rfl ?_)
  refine G_nil ?_
  refine kC_normal ?_
  refine k_seq ?_
  refine k_reg .free hmixP (by kernel_rfl) ?_
  refine G_q rfl (op_bld (c' := c_A2_int (0, 5)) (CellsAll.cons rfl CellsOf.int (CellsAll.cons rfl CellsOf.int CellsAll.nil)) rfl (LEs.cons (AV.le_eq rfl) (LEs.cons (AV.le_eq rfl) LEs.nil)) ?_)
  refine G_q rfl (op_bld (c' := c_A2_int (0, 7)) (CellsAll.cons rfl CellsOf.int (CellsAll.cons rfl CellsOf.int CellsAll.nil)) rfl (LEs.cons (AV.le_eq rfl) (LEs.cons (AV.le_eq rfl) LEs.nil)) ?_)
  refine G_q rfl (op_bld (c' := c_A2_int (2, 1)) (CellsAll.cons rfl CellsOf.int (CellsAll.cons rfl CellsOf.int CellsAll.nil)) rfl (LEs.cons (AV.le_eq rfl) (LEs.cons (AV.le_eq rfl) LEs.nil)) ?_)
  refine G_q rfl (op_litT (n := 2) (enc := c_A2_int) [(0, 5), (0, 7), (2, 1)] (CellsAll.cons rfl CellsOf.agg (CellsAll.cons rfl CellsOf.agg (CellsAll.cons rfl CellsOf.agg CellsAll.nil))) rfl (by kernel_rfl) (LEss.cons (LEs.cons (AV.le_eq rfl) (LEs.cons (AV.le_eq rfl) LEs.nil)) (LEss.cons (LEs.cons (AV.le_eq rfl) (LEs.cons (AV.le_eq rfl) LEs.nil)) (LEss.cons (LEs.cons (AV.le_eq rfl) (LEs.cons (AV.le_eq rfl) LEs.nil)) LEss.nil))) ?_)
  obtain ⟨y1, hy1, h⟩ := bnd1_some h
  refine G_q rfl (op_pure (m_frontier_EncodeBlock_ok _ _ hy1) Try.func41 (by kernel_rfl) (LEs.cons (AV.le_eq rfl) LEs.nil) ?_)
  refine G_q rfl (op_move (av := .tup [.row 1 c_uint8 y1.1, .exact (.int .i64 y1.2)]) rfl ?_)
  refine G_q rfl (op_extract (av := .row 1 c_uint8 y1.1) rfl rfl ?_)
  refine G_q rfl (op_extract (av := .exact (.int .i64 y1.2)) rfl rfl ?_)
  refine G_q rfl (op_assign (av := .row 1 c_uint8 y1.1) rfl ?_)
  refine G_q rfl (op_assign (av := .exact (.int .i64 y1.2)) rfl ?_)
  refine G_nil ?_
  refine kC_normal ?_
  refine k_join1_0 h (fun (x0_j2 : Bool) => (AF.put AF0 (some 0) (.exact (.bool x0_j2)))) (fun (x0_j2 : Bool) => []) (fun k2 h => ?_) (fun x0_j2 h => ?_)
  · refine k_reg .free hmixP (by kernel_rfl) ?_
    refine G_q rfl (op_move (av := .exact (.int .i64 y1.2)) rfl ?_)
    refine G_q rfl (op_eql rfl rfl ?_)
    refine G_q rfl (op_move (av := .exact (.bool (decide (y1.2 = 0)))) rfl ?_)
    refine G_split (p := y1.2 = 0) 13 rfl (fun hc => ?_) (fun hc => ?_)
    · replace h := ite_t h hc
      refine Gy_q rfl rfl rfl (op_move (av := .row 1 c_uint8 y1.1) rfl ?_)
      refine Gy_q rfl rfl rfl (op_len_row (by kernel_rfl) rfl ?_)
      refine Gy_q rfl rfl rfl (op_eql rfl rfl ?_)
      refine G_q rfl (op_pick_t rfl (av := .exact (.bool (decide ((List.length y1.1 : Int) = 11)))) rfl ?_)
      refine G_q rfl (op_move (av := .exact (.bool (decide ((List.length y1.1 : Int) = 11)))) rfl ?_)
      refine G_split (p := (List.length y1.1 : Int) = 11) 18 rfl (fun hc => ?_) (fun hc => ?_)
      · replace h := ite_t h hc
        refine Gy_q rfl rfl rfl (op_move (av := .row 1 c_uint8 y1.1) rfl ?_)
        obtain ⟨n4, h⟩ := need_some h
        refine Gy_q rfl rfl rfl (op_slice_rowt (by kernel_rfl) rfl bnd_none (bnd_some rfl) (Int.le_refl 0) (by decide) n4 ?_)
        refine Gy_q rfl rfl rfl (op_bytesS rfl (by kernel_rfl) rfl ?_)
        refine Gy_q rfl rfl rfl (op_eqlS rfl rfl ?_)
        refine G_q rfl (op_pick_t rfl (av := .exact (.bool (decide ((List.take (Int.toNat 7) y1.1) = [3, 0, 5, 0, 1, 2, 1])))) rfl ?_)
        refine G_q rfl (op_assign (av := .exact (.bool (decide ((List.take (Int.toNat 7) y1.1) = [3, 0, 5, 0, 1, 2, 1])))) rfl ?_)
        refine G_nil ?_
        refine kI_normal ⟨_, h, ?_⟩
        exact Sub.of_le (AF.le_put (AV.le_eq rfl) (AF.le_top _))
      · replace h := ite_f h hc
        refine G_n rfl rfl ?_
        refine G_n rfl rfl ?_
        refine G_n rfl rfl ?_
        refine G_n rfl rfl ?_
        refine G_q rfl (op_pick_f rfl (av := .exact (.bool false)) rfl ?_)
        refine G_q rfl (op_assign (av := .exact (.bool false)) rfl ?_)
        refine G_nil ?_
        refine kI_normal ⟨_, h, ?_⟩
        exact Sub.of_le (AF.le_put (AV.le_eq rfl) (AF.le_top _))
    · replace h := ite_f h hc
      refine G_n rfl rfl ?_
      refine G_n rfl rfl ?_
      refine G_n rfl rfl ?_
      refine G_q rfl (op_pick_f rfl (av := .exact (.bool false)) rfl ?_)
      refine G_q rfl (op_move (av := .exact (.bool false)) rfl ?_)
      refine G_n rfl rfl ?_
      refine G_n rfl rfl ?_
      refine G_n rfl rfl ?_
      refine G_n rfl rfl ?_
      refine G_q rfl (op_pick_f rfl (av := .exact (.bool false)) rfl ?_)
      refine G_q rfl (op_assign (av := .exact (.bool false)) rfl ?_)
      refine G_nil ?_
      refine kI_normal ⟨_, h, ?_⟩
      exact Sub.of_le (AF.le_put (AV.le_eq rfl) (AF.le_top _))
  · refine k_ret ?_
    obtain rfl := Option.some.inj h
    refine kP_any (endN (af' := (AF.put AF0 (some 0) (.exact (.bool x0_j2)))) (σ' := []) _ rfl ?_ ⟨rfl, rfl⟩)
    exact Sub.of_le (AF.le_put (AV.le_eq rfl) (AF.le_top _))
set_option maxHeartbeats 4000000 in
theorem m_gen2_Tape_Next_ok {w0 : Nat} (a0 : (List Int) × Int) (a1 : Int) (r : Int × ((List Int) × Int)) (h : m_gen2_Tape_Next a0 a1 = some r) : Fun Try.prog 14 [(pA w0 0), (.exact (.int .i64 a1))] [boxI 71 w0 [.row 1 c_int a0.1, .exact (.int .i64 a0.2)]] (fun a s => a = .exact (.int .i64 r.1) ∧ s = [boxI 71 w0 [.row 1 c_int r.2.1, .exact (.int .i64 r.2.2)]]) := by
  unfold m_gen2_Tape_Next at h
  refine fun_of_awp Try.func14 rfl Try.ntmps14 (by simp) rfl (res1 rfl) fun E hE => k_end ?_
  refine k_seq ?_
  refine k_reg .free hmixP (by kernel_rfl) ?_
  refine G_q rfl (op_assign (av := .exact (.int .i64 0)) rfl ?_)
  refine G_nil ?_
  refine kC_normal ?_
  refine k_seq ?_
  refine k_reg .free hmixP (by kernel_rfl) ?_
  refine G_q rfl (op_move (av := pA w0 0) rfl ?_)
  refine G_q rfl (op_nilCheck rfl ?_)
  refine G_q rfl (op_fieldAddr (o := 1) (by kernel_rfl) rfl ?_)
  refine G_r rfl (op_load_box1 (a := .exact (.int .i64 a0.2)) (by kernel_rfl) rfl rfl ?_)
  refine G_q rfl (op_mul rfl rfl rfl ?_)
  refine G_q rfl (op_add rfl rfl rfl ?_)
  refine G_q rfl (op_assign (av := .exact (.int .i64 (i64 ((i64 (5 * a0.2)) + 3)))) rfl ?_)
  refine G_nil ?_
  refine kC_normal ?_
  refine k_join1_0 h (fun (x5_j1 : Int) => (AF.put (AF.put (AF.put AF0 (some 0) (pA w0 0)) (some 1) (.exact (.int .i64 a1))) (some 5) (.exact (.int .i64 x5_j1)))) (fun (x5_j1 : Int) => [boxI 71 w0 [.row 1 c_int a0.1, .exact (.int .i64 a0.2)]]) (fun k1 h => ?_) (fun x5_j1 h => ?_)
  · refine k_seq ?_
    refine k_plan [] [(0, 0), (0, 1), (0, 2), (0, 4), (0, 5), (0, 6), (1, 3), (1, 7), (0, 8), (0, 9)] hmixP (by kernel_rfl) ?_
    refine P_q no34_0 rfl (op_move (av := pA w0 0) rfl ?_)
    refine P_q no34_0 rfl (op_nilCheck rfl ?_)
    refine P_q no34_0 rfl (op_fieldAddr (o := 1) (by kernel_rfl) rfl ?_)
    refine P_q no34_0 rfl (op_move (av := pA w0 0) rfl ?_)
    refine P_q no34_0 rfl (op_nilCheck rfl ?_)
    refine P_q no34_0 rfl (op_fieldAddr (o := 0) (by kernel_rfl) rfl ?_)
    refine P_r rfl (op_load_box1 (a := .exact (.int .i64 a0.2)) (by kernel_rfl) rfl rfl ?_)
    refine P_r rfl (op_load_box1 (a := .row 1 c_int a0.1) (by kernel_rfl) rfl rfl ?_)
    refine P_q no34_0 rfl (op_len_row (by kernel_rfl) rfl ?_)
    refine P_q no34_0 rfl (op_lss rfl rfl ?_)
    refine P_nil ?_
    refine kC_normal ?_
    refine k_cond_d (p := a0.2 < (List.length a0.1 : Int)) rfl (fun hc => ?_) (fun hc => ?_)
    · replace h := ite_t h hc
      refine k_plan [] [(0, 0), (0, 1), (0, 2), (0, 4), (0, 5), (0, 6), (1, 3), (1, 7), (0, 8), (0, 9), (0, 10)] hmixP (by kernel_rfl) ?_
      refine P_q no34_0 rfl (op_move (av := pA w0 0) rfl ?_)
      refine P_q no34_0 rfl (op_nilCheck rfl ?_)
      refine P_q no34_0 rfl (op_fieldAddr (o := 0) (by kernel_rfl) rfl ?_)
      refine P_q no34_0 rfl (op_move (av := pA w0 0) rfl ?_)
      refine P_q no34_0 rfl (op_nilCheck rfl ?_)
      refine P_q no34_0 rfl (op_fieldAddr (o := 1) (by kernel_rfl) rfl ?_)
      refine P_r rfl (op_load_box1 (a := .row 1 c_int a0.1) (by kernel_rfl) rfl rfl ?_)
      refine P_r rfl (op_load_box1 (a := .exact (.int .i64 a0.2)) (by kernel_rfl) rfl rfl ?_)
      obtain ⟨n3, h⟩ := need_some h
      refine P_q no34_0 rfl (op_index_row (by kernel_rfl) rfl rfl n3.1 n3.2 ?_)
      refine P_q no34_0 rfl (op_load1p (a := .exact (.int .i64 (gi a0.1 a0.2))) (by kernel_rfl) rfl rfl ?_)
      refine P_q no34_0 rfl (op_assign (av := .exact (.int .i64 (gi a0.1 a0.2))) rfl ?_)
      refine P_nil ?_
      refine kI_normal ⟨_, h, ?_⟩
      exact Sub.of_le (AF.le_put (AV.le_eq rfl) (AF.le_put (AV.le_eq rfl) (AF.le_put (AV.le_eq rfl) (AF.le_top _))))
    · replace h := ite_f h hc
      refine k_skip ?_
      refine kI_normal ⟨_, h, ?_⟩
      exact Sub.of_le (AF.le_put (AV.le_eq rfl) (AF.le_put (AV.le_eq rfl) (AF.le_put (AV.le_eq rfl) (AF.le_top _))))
  · refine k_seq ?_
    refine k_reg .free hmixP (by kernel_rfl) ?_
    refine G_q rfl (op_move (av := pA w0 0) rfl ?_)
    refine G_q rfl (op_nilCheck rfl ?_)
    refine G_q rfl (op_fieldAddr (o := 1) (by kernel_rfl) rfl ?_)
    refine G_r rfl (op_load_box1 (a := .exact (.int .i64 a0.2)) (by kernel_rfl) rfl rfl ?_)
    refine G_q rfl (op_add rfl rfl rfl ?_)
    refine G_q rfl (op_nilCheck rfl ?_)
    refine G_q rfl (op_fieldAddr (o := 1) (by kernel_rfl) rfl ?_)
    refine G_l rfl (op_store_box (c' := [.exact (.int .i64 (i64 (a0.2 + 1)))]) (c3 := [.row 1 c_int a0.1, .exact (.int .i64 (i64 (a0.2 + 1)))]) rfl rfl CellsOf.int (LEs.cons (AV.le_eq rfl) LEs.nil) (OneC.int OneC.nil) (by kernel_rfl) (Nat.le_of_ble_eq_true rfl) rfl ?_)
    refine G_nil ?_
    refine kC_normal ?_
    refine k_seq ?_
    refine k_seq ?_
    refine k_reg .free hmixP (by kernel_rfl) ?_
    refine G_q rfl (op_move (av := .exact (.int .i64 a1)) rfl ?_)
    refine G_q rfl (op_lss rfl rfl ?_)
    refine G_nil ?_
    refine kC_normal ?_
    refine k_cond_d (p := a1 < 1) rfl (fun hc => ?_) (fun hc => ?_)
    · replace h := ite_t h hc
      refine k_seq ?_
      refine k_reg .free hmixP (by kernel_rfl) ?_
      refine G_q rfl (op_assign (av := .exact (.int .i64 0)) rfl ?_)
      refine G_nil ?_
      refine kC_normal ?_
      refine k_ret ?_
      refine kC_ret ?_
      obtain rfl := Option.some.inj h
      refine kP_any (endN (af' := (AF.put AF0 (some 4) (.exact (.int .i64 0)))) (σ' := [boxI 71 w0 [.row 1 c_int a0.1, .exact (.int .i64 (i64 (a0.2 + 1)))]]) _ rfl ?_ ⟨rfl, rfl⟩)
      exact Sub.of_le (AF.le_put (AV.le_eq rfl) (AF.le_top _))
    · replace h := ite_f h hc
      refine k_skip ?_
      refine kC_normal ?_
      refine k_seq ?_
      refine k_reg .free hmixP (by kernel_rfl) ?_
      refine G_q rfl (op_move (av := .exact (.int .i64 x5_j1)) rfl ?_)
      refine G_q rfl (op_move (av := .exact (.int .i64 a1)) rfl ?_)
      obtain ⟨n4, h⟩ := need_some h
      refine G_q rfl (op_rem rfl rfl n4 rfl ?_)
      refine G_q rfl (op_assign (av := .exact (.int .i64 (Int.tmod x5_j1 a1))) rfl ?_)
      refine G_nil ?_
      refine kC_normal ?_
      refine k_join1_0 h (fun (x5_j5 : Int) => (AF.put (AF.put AF0 (some 0) (pA w0 0)) (some 5) (.exact (.int .i64 x5_j5)))) (fun (x5_j5 : Int) => [boxI 71 w0 [.row 1 c_int a0.1, .exact (.int .i64 (i64 (a0.2 + 1)))]]) (fun k5 h => ?_) (fun x5_j5 h => ?_)
      · refine k_seq ?_
        refine k_reg .free hmixP (by kernel_rfl) ?_
        refine G_q rfl (op_move (av := .exact (.int .i64 (Int.tmod x5_j1 a1))) rfl ?_)
        refine G_q rfl (op_lss rfl rfl ?_)
        refine G_nil ?_
        refine kC_normal ?_
        refine k_cond_d (p := (Int.tmod x5_j1 a1) < 0) rfl (fun hc => ?_) (fun hc => ?_)
        · replace h := ite_t h hc
          refine k_reg .free hmixP (by kernel_rfl) ?_
          refine G_q rfl (op_move (av := .exact (.int .i64 (Int.tmod x5_j1 a1))) rfl ?_)
          refine G_q rfl (op_move (av := .exact (.int .i64 a1)) rfl ?_)
          refine G_q rfl (op_add rfl rfl rfl ?_)
          refine G_q rfl (op_assign (av := .exact (.int .i64 (i64 ((Int.tmod x5_j1 a1) + a1)))) rfl ?_)
          refine G_nil ?_
          refine kI_normal ⟨_, h, ?_⟩
          exact Sub.of_le (AF.le_put (AV.le_eq rfl) (AF.le_put (AV.le_eq rfl) (AF.le_top _)))
        · replace h := ite_f h hc
          refine k_skip ?_
          refine kI_normal ⟨_, h, ?_⟩
          exact Sub.of_le (AF.le_put (AV.le_eq rfl) (AF.le_put (AV.le_eq rfl) (AF.le_top _)))
      · refine k_seq ?_
        refine k_reg .free hmixP (by kernel_rfl) ?_
        refine G_q rfl (op_move (av := .exact (.int .i64 x5_j5)) rfl ?_)
        refine G_q rfl (op_assign (av := .exact (.int .i64 x5_j5)) rfl ?_)
        refine G_nil ?_
        refine kC_normal ?_
        refine k_ret ?_
        obtain rfl := Option.some.inj h
        refine kP_any (endN (af' := (AF.put AF0 (some 4) (.exact (.int .i64 x5_j5)))) (σ' := [boxI 71 w0 [.row 1 c_int a0.1, .exact (.int .i64 (i64 (a0.2 + 1)))]]) _ rfl ?_ ⟨rfl, rfl⟩)
        exact Sub.of_le (AF.le_put (AV.le_eq rfl) (AF.le_top _))
set_option maxHeartbeats 4000000 in
theorem m_law36_pairs_ok {w0 : Nat} (a0 : (List Int) × Int) (a1 : Int) (r : (List (Int × Int)) × ((List Int) × Int)) (h : m_law36_pairs a0 a1 = some r) : Fun Try.prog 13 [(pA w0 0), (.exact (.int .i64 a1))] [boxI 71 w0 [.row 1 c_int a0.1, .exact (.int .i64 a0.2)]] (fun a s => a = .row 2 c_A2_int r.1 ∧ s = [boxI 71 w0 [.row 1 c_int r.2.1, .exact (.int .i64 r.2.2)]]) := by
  unfold m_law36_pairs at h
  refine fun_of_awp Try.func13 rfl Try.ntmps13 (by simp) rfl (res1 rfl) fun E hE => k_end ?_
  refine k_seq ?_
  refine k_reg .free hmixP (by kernel_rfl) ?_
  refine G_q rfl (op_assign (av := .exact (.slice none 0 0)) rfl ?_)
  refine G_nil ?_
  refine kC_normal ?_
  refine k_seq ?_
  refine k_reg .free hmixP (by kernel_rfl) ?_
  refine G_q rfl (op_assign (av := .exact (.slice none 0 0)) rfl ?_)
  refine G_nil ?_
  refine kC_normal ?_
  refine k_join3_1 h (fun (x0_0_j1 : List Int) (x0_1_j1 : Int) (x5_j1 : List (Int × Int)) (v5_j1 : Value) => (AF.put (AF.put AF0 (some 0) (pA w0 0)) (some 5) (.exact v5_j1))) (fun (x0_0_j1 : List Int) (x0_1_j1 : Int) (x5_j1 : List (Int × Int)) (v5_j1 : Value) => [boxI 71 w0 [.row 1 c_int x0_0_j1, .exact (.int .i64 x0_1_j1)], vecT Try.prog 23 2 c_A2_int v5_j1 x5_j1]) (fun k1 h => ?_) (fun x0_0_j1 x0_1_j1 x5_j1 v5_j1 h => ?_)
  · refine k_seq ?_
    refine k_reg .free hmixP (by kernel_rfl) ?_
    refine G_q rfl (op_move (av := pA w0 0) rfl ?_)
    refine G_q rfl (op_move (av := .exact (.int .i64 a1)) rfl ?_)
    refine G_q rfl (op_add rfl rfl rfl ?_)
    obtain ⟨y22, hy22, h⟩ := bnd1_some h
    refine G_l rfl (op_fun_1_0_1 (m_gen2_Tape_Next_ok _ _ _ hy22) Try.func14 (by kernel_rfl) (LEs.cons (AV.le_eq rfl) (LEs.cons (AV.le_eq rfl) LEs.nil)) ?_)
    refine G_q rfl (op_assign (av := .exact (.int .i64 y22.1)) rfl ?_)
    refine G_nil ?_
    refine kC_normal ?_
    refine k_block ?_
    refine k_loop4_1 (m_law36_pairs_L2 k1) (m_law36_pairs_B2 k1) (fun _ _ _ _ => rfl) (fun m _ _ _ _ => rfl) h (fun (x0_0_l2 : List Int) (x0_1_l2 : Int) (x5_l2 : List (Int × Int)) (x6_l2 : Int) (v5_l2 : Value) => (AF.put (AF.put (AF.put AF0 (some 0) (pA w0 0)) (some 5) (.exact v5_l2)) (some 6) (.exact (.int .i64 x6_l2)))) (fun (x0_0_l2 : List Int) (x0_1_l2 : Int) (x5_l2 : List (Int × Int)) (x6_l2 : Int) (v5_l2 : Value) => [boxI 71 w0 [.row 1 c_int x0_0_l2, .exact (.int .i64 x0_1_l2)], vecT Try.prog 23 2 c_A2_int v5_l2 x5_l2]) (.slice none 0 0) ?_ (fun rec2 x0_0_l2 x0_1_l2 x5_l2 x6_l2 v5_l2 h => ?_)
    · refine Sub.trans (SubU.to (SubU.nilT (P := Try.prog) (t := 23) (n := 2) (enc := c_A2_int))) ?_
      refine Sub.trans (SubU.to SubU.f1) ?_
      exact Sub.of_le (AF.le_put (AV.le_eq rfl) (AF.le_put (AV.le_eq rfl) (AF.le_put (AV.le_eq rfl) (AF.le_top _))))
    · unfold m_law36_pairs_B2 at h
      refine k_seq ?_
      refine k_seq ?_
      refine k_reg .free hmixP (by kernel_rfl) ?_
      refine G_q rfl (op_move (av := .exact (.int .i64 x6_l2)) rfl ?_)
      refine G_q rfl (op_gtr rfl rfl ?_)
      refine G_nil ?_
      refine kC_normal ?_
      refine k_cond_d (p := 0 < x6_l2) rfl (fun hc => ?_) (fun hc => ?_)
      · replace h := ite_t h hc
        refine k_skip ?_
        refine kC_normal ?_
        refine k_seq ?_
        refine k_block ?_
        refine k_reg .free hmixP (by kernel_rfl) ?_
        refine G_q rfl (op_move (av := .exact v5_l2) rfl ?_)
        refine G_q rfl (op_move (av := pA w0 0) rfl ?_)
        obtain ⟨y35, hy35, h⟩ := bnd1_some h
        refine G_l rfl (op_fun_1_0_1 (m_gen2_Tape_Next_ok _ _ _ hy35) Try.func14 (by kernel_rfl) (LEs.cons (AV.le_eq rfl) (LEs.cons (AV.le_eq rfl) LEs.nil)) ?_)
        refine G_q rfl (op_move (av := pA w0 0) rfl ?_)
        obtain ⟨y36, hy36, h⟩ := bnd1_some h
        refine G_l rfl (op_fun_1_0_1 (m_gen2_Tape_Next_ok _ _ _ hy36) Try.func14 (by kernel_rfl) (LEs.cons (AV.le_eq rfl) (LEs.cons (AV.le_eq rfl) LEs.nil)) ?_)
        refine G_q rfl (op_mul rfl rfl rfl ?_)
        refine G_q rfl (op_add rfl rfl rfl ?_)
        refine G_q rfl (op_mul rfl rfl rfl ?_)
        refine G_q rfl (op_move (av := pA w0 0) rfl ?_)
        obtain ⟨y37, hy37, h⟩ := bnd1_some h
        refine G_l rfl (op_fun_1_0_1 (m_gen2_Tape_Next_ok _ _ _ hy37) Try.func14 (by kernel_rfl) (LEs.cons (AV.le_eq rfl) (LEs.cons (AV.le_eq rfl) LEs.nil)) ?_)
        refine G_q rfl (op_move (av := pA w0 0) rfl ?_)
        obtain ⟨y38, hy38, h⟩ := bnd1_some h
        refine G_l rfl (op_fun_1_0_1 (m_gen2_Tape_Next_ok _ _ _ hy38) Try.func14 (by kernel_rfl) (LEs.cons (AV.le_eq rfl) (LEs.cons (AV.le_eq rfl) LEs.nil)) ?_)
        refine G_q rfl (op_mul rfl rfl rfl ?_)
        refine G_q rfl (op_add rfl rfl rfl ?_)
        refine G_q rfl (op_mul rfl rfl rfl ?_)
        refine G_q rfl (op_bld (c' := c_A2_int (i64 (y35.1 * (i64 (1 + (i64 (200 * y36.1))))), i64 (y37.1 * (i64 (1 + (i64 (90 * y38.1))))))) (CellsAll.cons rfl CellsOf.int (CellsAll.cons rfl CellsOf.int CellsAll.nil)) rfl (LEs.cons (AV.le_eq rfl) (LEs.cons (AV.le_eq rfl) LEs.nil)) ?_)
        refine G_q rfl (op_litT (n := 2) (enc := c_A2_int) [(i64 (y35.1 * (i64 (1 + (i64 (200 * y36.1))))), i64 (y37.1 * (i64 (1 + (i64 (90 * y38.1))))))] (CellsAll.cons rfl CellsOf.agg CellsAll.nil) rfl (by kernel_rfl) (LEss.cons (LEs.cons (AV.le_eq rfl) (LEs.cons (AV.le_eq rfl) LEs.nil)) LEss.nil) ?_)
        obtain ⟨n39, h⟩ := need_some h
        refine G_l rfl (opB_f1 (op_appT (by kernel_rfl) rfl rfl oc_c_A2_int n39 (fun v40 => ?_)))
        refine G_q rfl (op_assign (av := .exact v40) rfl ?_)
        refine G_nil ?_
        refine kB_normal ?_
        refine kC_normal ?_
        refine k_reg .free hmixP (by kernel_rfl) ?_
        refine G_q rfl (op_move (av := .exact (.int .i64 x6_l2)) rfl ?_)
        refine G_q rfl (op_sub rfl rfl rfl ?_)
        refine G_q rfl (op_assign (av := .exact (.int .i64 (i64 (x6_l2 - 1)))) rfl ?_)
        refine G_nil ?_
        refine kI_normal ⟨_, _, _, _, v40, h, ?_⟩
        refine Sub.trans (SubU.to SubU.f1) ?_
        exact Sub.of_le (AF.le_put (AV.le_eq rfl) (AF.le_put (AV.le_eq rfl) (AF.le_put (AV.le_eq rfl) (AF.le_top _))))
      · replace h := ite_f h hc
        refine k_exit ?_
        refine kC_exit ?_
        refine kI_exit ?_
        refine kB_exit ?_
        refine kI_normal ⟨_, _, _, v5_l2, h, ?_⟩
        exact Sub.of_le (AF.le_put (AV.le_eq rfl) (AF.le_put (AV.le_eq rfl) (AF.le_top _)))
  · refine k_seq ?_
    refine k_reg .free hmixP (by kernel_rfl) ?_
    refine G_q rfl (op_move (av := .exact v5_j1) rfl ?_)
    refine G_q rfl (op_assign (av := .exact v5_j1) rfl ?_)
    refine G_nil ?_
    refine kC_normal ?_
    refine k_ret ?_
    obtain rfl := Option.some.inj h
    refine kP_any (endN (af' := (AF.put AF0 (some 4) (.row 2 c_A2_int x5_j1))) (σ' := [boxI 71 w0 [.row 1 c_int x0_0_j1, .exact (.int .i64 x0_1_j1)]]) _ rfl ?_ ⟨rfl, rfl⟩)
    refine Sub.trans (SubU.to SubU.f1) ?_
    refine Sub.trans (SubU.to (SubU.freezeT (s := 4) rfl len_c_A2_int)) ?_
    exact Sub.of_le (AF.le_put (AV.le_eq rfl) (AF.le_top _))
end Go.Proofs.Ytkplmgdmkfgjhaa
/- The functions compute their models, by program. -/
namespace Go.Proofs.Ytkplmgdmkfgjhaa
open Go.RowKit
attribute [local irreducible] AV.exact AV.top AV.row AV.ptr AV.agg AV.tup AV.eptr AV.fn AV.nilq AV.nilqn opA opB opM opR Quiet Loud Reads wpG awp den Sub SubU Pure Fun vecI vecT boxI CellsAll CellsOf OneC LEs LEss
set_option maxRecDepth 100000

set_option maxHeartbeats 4000000 in
theorem m_gen2_New_ok (a0 : List Int) (r : ((List Int) × Int)) (h : m_gen2_New a0 = some r) : Fun Try.prog 10 [(.row 1 c_int a0)] [] (fun a s => ∃ z0, a = pA z0 0 ∧ s = [boxI 71 z0 [.row 1 c_int r.1, .exact (.int .i64 r.2)]]) := by
  unfold m_gen2_New at h
  refine fun_of_awp Try.func10 rfl Try.ntmps10 (by simp) rfl (res1 rfl) fun E hE => k_end ?_
  refine k_seq ?_
  refine k_reg .free hmixP (by kernel_rfl) ?_
  refine G_q rfl (op_assign (av := .exact (.pointer none)) rfl ?_)
  refine G_nil ?_
  refine kC_normal ?_
  refine k_seq ?_
  refine k_reg .free hmixP (by kernel_rfl) ?_
  refine G_q rfl (op_move (av := .row 1 c_int a0) rfl ?_)
  refine G_q rfl (op_bld (c' := c_cspcheckgen2_Tape (a0, 0)) (CellsAll.cons rfl CellsOf.row CellsAll.nil) rfl (LEs.cons (AV.le_eq rfl) (LEs.cons (AV.le_eq rfl) LEs.nil)) ?_)
  refine G_l rfl (op_boxI (c := [.row 1 c_int ((a0, 0).1), .exact (.int .i64 ((a0, 0).2))]) rfl CellsOf.agg (LEs.cons (AV.le_eq rfl) (LEs.cons (AV.le_eq rfl) LEs.nil)) (fun b1 => ?_))
  refine G_q rfl (op_assign (av := pA b1 0) rfl ?_)
  refine G_nil ?_
  refine kC_normal ?_
  refine k_ret ?_
  obtain rfl := Option.some.inj h
  refine kP_any (endN (af' := (AF.put AF0 (some 2) (pA b1 0))) (σ' := [boxI 71 b1 [.row 1 c_int ((a0, 0).1), .exact (.int .i64 ((a0, 0).2))]]) _ rfl ?_ ⟨b1, rfl, rfl⟩)
  exact Sub.of_le (AF.le_put (AV.le_eq rfl) (AF.le_top _))
set_option maxHeartbeats 4000000 in
theorem m_frontier_Write_ok {w0 : Nat} {w0o : List Nat} (a0 : Dk) (a1 : List UInt8) (a2 : List (Int × Int)) (a3 : Int) (r : Int × Dk) (h : m_frontier_Write a0 a1 a2 a3 = some r) : Fun Try.prog 22 [(pA w0 0), (.exact (.string (bs a1))), (.row 2 c_A2_int a2), (.exact (.int .i64 a3))] [dskI w0 w0o a0] (fun a s => ∃ zo0, a = .exact (.int .i64 r.1) ∧ s = [dskI w0 zo0 r.2]) := by
  unfold m_frontier_Write at h
  refine fun_of_awp Try.func22 rfl Try.ntmps22 (by simp) rfl (res1 rfl) fun E hE => k_end ?_
  refine k_seq ?_
  refine k_reg .free hmixP (by kernel_rfl) ?_
  refine G_q rfl (op_assign (av := .exact (.int .i64 0)) rfl ?_)
  refine G_nil ?_
  refine kC_normal ?_
  refine k_seq ?_
  refine k_join1_0 h (fun (x23_j5 : Bool) => (AF.put (AF.put (AF.put (AF.put (AF.put AF0 (some 0) (pA w0 0)) (some 1) (.exact (.string (bs a1)))) (some 2) (.row 2 c_A2_int a2)) (some 3) (.exact (.int .i64 a3))) (some 23) (.exact (.bool x23_j5)))) (fun (x23_j5 : Bool) => [dskI w0 w0o a0]) (fun k5 h => ?_) (fun x23_j5 h => ?_)
  · refine k_reg .free hmixP (by kernel_rfl) ?_
    refine G_q rfl (op_move (av := .row 2 c_A2_int a2) rfl ?_)
    obtain ⟨y7, hy7, h⟩ := bnd1_some h
    refine G_q rfl (op_pure (m_frontier_isRun_ok _ _ hy7) Try.func48 (by kernel_rfl) (LEs.cons (AV.le_eq rfl) LEs.nil) ?_)
    refine G_q rfl (op_not rfl ?_)
    refine G_q rfl (op_move (av := .exact (.bool (!y7))) rfl ?_)
    refine G_splitB (c := !y7) 16 rfl (fun hc => ?_) (fun hc => ?_)
    · replace h := ite_t h hc
      refine G_n rfl rfl ?_
      refine G_n rfl rfl ?_
      refine G_q rfl (op_pick_t rfl (av := .exact (.bool true)) rfl ?_)
      refine G_q rfl (op_move (av := .exact (.bool true)) rfl ?_)
      refine G_n rfl rfl ?_
      refine G_n rfl rfl ?_
      refine G_q rfl (op_pick_t rfl (av := .exact (.bool true)) rfl ?_)
      refine G_nil ?_
      refine kI_normal ⟨_, h, ?_⟩
      exact Sub.of_le (AF.le_put (AV.le_eq rfl) (AF.le_put (AV.le_eq rfl) (AF.le_put (AV.le_eq rfl) (AF.le_put (AV.le_eq rfl) (AF.le_put (AV.le_eq rfl) (AF.le_top _))))))
    · replace h := ite_f h hc
      refine Gy_q rfl rfl rfl (op_move (av := .exact (.int .i64 a3)) rfl ?_)
      refine Gy_q rfl rfl rfl (op_lss rfl rfl ?_)
      refine G_q rfl (op_pick_f rfl (av := .exact (.bool (decide (a3 < 1)))) rfl ?_)
      refine G_q rfl (op_move (av := .exact (.bool (decide (a3 < 1)))) rfl ?_)
      refine G_split (p := a3 < 1) 20 rfl (fun hc => ?_) (fun hc => ?_)
      · replace h := ite_t h hc
        refine G_n rfl rfl ?_
        refine G_n rfl rfl ?_
        refine G_q rfl (op_pick_t rfl (av := .exact (.bool true)) rfl ?_)
        refine G_nil ?_
        refine kI_normal ⟨_, h, ?_⟩
        exact Sub.of_le (AF.le_put (AV.le_eq rfl) (AF.le_put (AV.le_eq rfl) (AF.le_put (AV.le_eq rfl) (AF.le_put (AV.le_eq rfl) (AF.le_put (AV.le_eq rfl) (AF.le_top _))))))
      · replace h := ite_f h hc
        refine Gy_q rfl rfl rfl (op_move (av := .exact (.int .i64 a3)) rfl ?_)
        refine Gy_q rfl rfl rfl (op_gtr rfl rfl ?_)
        refine G_q rfl (op_pick_f rfl (av := .exact (.bool (decide (1024 < a3)))) rfl ?_)
        refine G_nil ?_
        refine kI_normal ⟨_, h, ?_⟩
        exact Sub.of_le (AF.le_put (AV.le_eq rfl) (AF.le_put (AV.le_eq rfl) (AF.le_put (AV.le_eq rfl) (AF.le_put (AV.le_eq rfl) (AF.le_put (AV.le_eq rfl) (AF.le_top _))))))
  · refine k_cond_b (c := x23_j5) rfl (fun hc => ?_) (fun hc => ?_)
    · replace h := ite_t h hc
      refine k_seq ?_
      refine k_reg .free hmixP (by kernel_rfl) ?_
      refine G_q rfl (op_assign (av := .exact (.int .i64 1)) rfl ?_)
      refine G_nil ?_
      refine kC_normal ?_
      refine k_ret ?_
      refine kC_ret ?_
      obtain rfl := Option.some.inj h
      refine kP_any (endN (af' := (AF.put AF0 (some 8) (.exact (.int .i64 1)))) (σ' := [dskI w0 w0o a0]) _ rfl ?_ ⟨w0o, rfl, rfl⟩)
      exact Sub.of_le (AF.le_put (AV.le_eq rfl) (AF.le_top _))
    · replace h := ite_f h hc
      refine k_skip ?_
      refine kC_normal ?_
      refine k_join1_1 h (fun (x0d_j8 : Dk) (o0_j8 : List Nat) => (AF.put (AF.put (AF.put (AF.put AF0 (some 0) (pA w0 0)) (some 1) (.exact (.string (bs a1)))) (some 2) (.row 2 c_A2_int a2)) (some 3) (.exact (.int .i64 a3)))) (fun (x0d_j8 : Dk) (o0_j8 : List Nat) => [dskI w0 o0_j8 x0d_j8]) (fun k8 h => ?_) (fun x0d_j8 o0_j8 h => ?_)
      · refine k_seq ?_
        refine k_reg .free hmixP (by kernel_rfl) ?_
        refine G_q rfl (op_move (av := .row 2 c_A2_int a2) rfl ?_)
        refine G_q rfl (op_len_row (by kernel_rfl) rfl ?_)
        refine G_q rfl (op_eql rfl rfl ?_)
        refine G_nil ?_
        refine kC_normal ?_
        refine k_cond_d (p := (List.length a2 : Int) = 0) rfl (fun hc => ?_) (fun hc => ?_)
        · replace h := ite_t h hc
          refine k_seq ?_
          refine k_reg .free hmixP (by kernel_rfl) ?_
          refine G_q rfl (op_move (av := pA w0 0) rfl ?_)
          refine G_q rfl (op_move (av := .exact (.string (bs a1))) rfl ?_)
          obtain ⟨y11, hy11, h⟩ := bnd1_some h
          refine G_l rfl (op_fun_1_1_1 (m_disk_Append_ok _ _ _ _ hy11) Try.func27 (by kernel_rfl) (LEs.cons (AV.le_eq rfl) (LEs.cons (AV.le_eq rfl) (LEs.cons (row_nil (by decide)) LEs.nil))) (fun o12 => ?_))
          refine G_q rfl (op_assign (av := .exact (.int .i64 y11.1)) rfl ?_)
          refine G_nil ?_
          refine kC_normal ?_
          refine k_seq ?_
          refine k_reg .free hmixP (by kernel_rfl) ?_
          refine G_q rfl (op_move (av := .exact (.int .i64 y11.1)) rfl ?_)
          refine G_q rfl (op_neq rfl rfl ?_)
          refine G_nil ?_
          refine kC_normal ?_
          refine k_cond_d (p := ¬ y11.1 = 0) rfl (fun hc => ?_) (fun hc => ?_)
          · replace h := ite_t h hc
            refine k_seq ?_
            refine k_reg .free hmixP (by kernel_rfl) ?_
            refine G_q rfl (op_move (av := .exact (.int .i64 y11.1)) rfl ?_)
            refine G_q rfl (op_assign (av := .exact (.int .i64 y11.1)) rfl ?_)
            refine G_nil ?_
            refine kC_normal ?_
            refine k_ret ?_
            refine kI_ret ?_
            obtain rfl := Option.some.inj h
            refine kP_any (endN (af' := (AF.put AF0 (some 8) (.exact (.int .i64 y11.1)))) (σ' := [dskI w0 o12 y11.2]) _ rfl ?_ ⟨o12, rfl, rfl⟩)
            exact Sub.of_le (AF.le_put (AV.le_eq rfl) (AF.le_top _))
          · replace h := ite_f h hc
            refine k_skip ?_
            refine kI_normal ⟨_, o12, h, ?_⟩
            exact Sub.of_le (AF.le_put (AV.le_eq rfl) (AF.le_put (AV.le_eq rfl) (AF.le_put (AV.le_eq rfl) (AF.le_put (AV.le_eq rfl) (AF.le_top _)))))
        · replace h := ite_f h hc
          refine k_skip ?_
          refine kI_normal ⟨_, w0o, h, ?_⟩
          exact Sub.of_le (AF.le_put (AV.le_eq rfl) (AF.le_put (AV.le_eq rfl) (AF.le_put (AV.le_eq rfl) (AF.le_put (AV.le_eq rfl) (AF.le_top _)))))
      · refine k_join1_1 h (fun (x0d_j13 : Dk) (o0_j13 : List Nat) => (AF.put (AF.put AF0 (some 0) (pA w0 0)) (some 1) (.exact (.string (bs a1))))) (fun (x0d_j13 : Dk) (o0_j13 : List Nat) => [dskI w0 o0_j13 x0d_j13]) (fun k13 h => ?_) (fun x0d_j13 o0_j13 h => ?_)
        · refine k_seq ?_
          refine k_reg .free hmixP (by kernel_rfl) ?_
          refine G_q rfl (op_assign (av := .exact (.int .i64 0)) rfl ?_)
          refine G_nil ?_
          refine kC_normal ?_
          refine k_block ?_
          refine k_loop2_1 (m_frontier_Write_L2 a1 a2 a3 k13) (m_frontier_Write_B2 a1 a2 a3 k13) (fun _ _ => rfl) (fun m _ _ => rfl) h (fun (x0d_l2 : Dk) (x10_l2 : Int) (o0_l2 : List Nat) => (AF.put (AF.put (AF.put (AF.put (AF.put AF0 (some 0) (pA w0 0)) (some 1) (.exact (.string (bs a1)))) (some 2) (.row 2 c_A2_int a2)) (some 3) (.exact (.int .i64 a3))) (some 10) (.exact (.int .i64 x10_l2)))) (fun (x0d_l2 : Dk) (x10_l2 : Int) (o0_l2 : List Nat) => [dskI w0 o0_l2 x0d_l2]) o0_j8 ?_ (fun rec2 x0d_l2 x10_l2 o0_l2 h => ?_)
          · exact Sub.of_le (AF.le_put (AV.le_eq rfl) (AF.le_put (AV.le_eq rfl) (AF.le_put (AV.le_eq rfl) (AF.le_put (AV.le_eq rfl) (AF.le_put (AV.le_eq rfl) (AF.le_top _))))))
          · unfold m_frontier_Write_B2 at h
            refine k_seq ?_
            refine k_seq ?_
            refine k_reg .free hmixP (by kernel_rfl) ?_
            refine G_q rfl (op_move (av := .exact (.int .i64 x10_l2)) rfl ?_)
            refine G_q rfl (op_move (av := .row 2 c_A2_int a2) rfl ?_)
            refine G_q rfl (op_len_row (by kernel_rfl) rfl ?_)
            refine G_q rfl (op_lss rfl rfl ?_)
            refine G_nil ?_
            refine kC_normal ?_
            refine k_cond_d (p := x10_l2 < (List.length a2 : Int)) rfl (fun hc => ?_) (fun hc => ?_)
            · replace h := ite_t h hc
              refine k_skip ?_
              refine kC_normal ?_
              refine k_seq ?_
              refine k_block ?_
              refine k_seq ?_
              refine k_reg .free hmixP (by kernel_rfl) ?_
              refine G_q rfl (op_move (av := .exact (.int .i64 x10_l2)) rfl ?_)
              refine G_q rfl (op_move (av := .exact (.int .i64 a3)) rfl ?_)
              refine G_q rfl (op_add rfl rfl rfl ?_)
              refine G_q rfl (op_move (av := .row 2 c_A2_int a2) rfl ?_)
              refine G_q rfl (op_len_row (by kernel_rfl) rfl ?_)
              refine G_q rfl (op_min rfl rfl ?_)
              refine G_q rfl (op_assign (av := .exact (.int .i64 (min (i64 (x10_l2 + a3)) (List.length a2 : Int)))) rfl ?_)
              refine G_nil ?_
              refine kC_normal ?_
              refine k_seq ?_
              refine k_reg .free hmixP (by kernel_rfl) ?_
              refine G_q rfl (op_move (av := pA w0 0) rfl ?_)
              refine G_q rfl (op_move (av := .exact (.string (bs a1))) rfl ?_)
              refine G_q rfl (op_move (av := .row 2 c_A2_int a2) rfl ?_)
              refine G_q rfl (op_move (av := .exact (.int .i64 x10_l2)) rfl ?_)
              refine G_q rfl (op_move (av := .exact (.int .i64 (min (i64 (x10_l2 + a3)) (List.length a2 : Int)))) rfl ?_)
              refine G_q rfl (op_move (av := .exact (.int .i64 (min (i64 (x10_l2 + a3)) (List.length a2 : Int)))) rfl ?_)
              obtain ⟨n35, h⟩ := need_some h
              refine G_q rfl (op_slice_row3 (by kernel_rfl) rfl (bnd_some rfl) rfl rfl n35.1 n35.2.1 (Int.le_refl _) n35.2.2 ?_)
              obtain ⟨y36, hy36, h⟩ := bnd1_some h
              refine G_q rfl (op_pure (m_frontier_encode_ok _ _ hy36) Try.func49 (by kernel_rfl) (LEs.cons (AV.le_eq rfl) LEs.nil) ?_)
              obtain ⟨y37, hy37, h⟩ := bnd1_some h
              refine G_l rfl (op_fun_1_1_1 (m_disk_Append_ok _ _ _ _ hy37) Try.func27 (by kernel_rfl) (LEs.cons (AV.le_eq rfl) (LEs.cons (AV.le_eq rfl) (LEs.cons (AV.le_eq rfl) LEs.nil))) (fun o38 => ?_))
              refine G_q rfl (op_assign (av := .exact (.int .i64 y37.1)) rfl ?_)
              refine G_nil ?_
              refine kC_normal ?_
              refine k_seq ?_
              refine k_reg .free hmixP (by kernel_rfl) ?_
              refine G_q rfl (op_move (av := .exact (.int .i64 y37.1)) rfl ?_)
              refine G_q rfl (op_neq rfl rfl ?_)
              refine G_nil ?_
              refine kC_normal ?_
              refine k_cond_d (p := ¬ y37.1 = 0) rfl (fun hc => ?_) (fun hc => ?_)
              · replace h := ite_t h hc
                refine k_seq ?_
                refine k_reg .free hmixP (by kernel_rfl) ?_
                refine G_q rfl (op_move (av := .exact (.int .i64 y37.1)) rfl ?_)
                refine G_q rfl (op_assign (av := .exact (.int .i64 y37.1)) rfl ?_)
                refine G_nil ?_
                refine kC_normal ?_
                refine k_ret ?_
                refine kB_ret ?_
                refine kC_ret ?_
                refine kI_ret ?_
                refine kB_ret ?_
                refine kI_ret ?_
                obtain rfl := Option.some.inj h
                refine kP_any (endN (af' := (AF.put AF0 (some 8) (.exact (.int .i64 y37.1)))) (σ' := [dskI w0 o38 y37.2]) _ rfl ?_ ⟨o38, rfl, rfl⟩)
                exact Sub.of_le (AF.le_put (AV.le_eq rfl) (AF.le_top _))
              · replace h := ite_f h hc
                refine k_skip ?_
                refine kB_normal ?_
                refine kC_normal ?_
                refine k_reg .free hmixP (by kernel_rfl) ?_
                refine G_q rfl (op_move (av := .exact (.int .i64 x10_l2)) rfl ?_)
                refine G_q rfl (op_move (av := .exact (.int .i64 a3)) rfl ?_)
                refine G_q rfl (op_add rfl rfl rfl ?_)
                refine G_q rfl (op_assign (av := .exact (.int .i64 (i64 (x10_l2 + a3)))) rfl ?_)
                refine G_nil ?_
                refine kI_normal ⟨_, _, o38, h, ?_⟩
                exact Sub.of_le (AF.le_put (AV.le_eq rfl) (AF.le_put (AV.le_eq rfl) (AF.le_put (AV.le_eq rfl) (AF.le_put (AV.le_eq rfl) (AF.le_put (AV.le_eq rfl) (AF.le_top _))))))
            · replace h := ite_f h hc
              refine k_exit ?_
              refine kC_exit ?_
              refine kI_exit ?_
              refine kB_exit ?_
              refine kI_normal ⟨_, o0_l2, h, ?_⟩
              exact Sub.of_le (AF.le_put (AV.le_eq rfl) (AF.le_put (AV.le_eq rfl) (AF.le_top _)))
        · refine k_seq ?_
          refine k_reg .free hmixP (by kernel_rfl) ?_
          refine G_q rfl (op_move (av := pA w0 0) rfl ?_)
          refine G_q rfl (op_move (av := .exact (.string (bs a1))) rfl ?_)
          obtain ⟨y39, hy39, h⟩ := bnd1_some h
          refine G_l rfl (op_fun_1_1_1 (m_disk_Sync_ok _ _ _ hy39) Try.func50 (by kernel_rfl) (LEs.cons (AV.le_eq rfl) (LEs.cons (AV.le_eq rfl) LEs.nil)) (fun o40 => ?_))
          refine G_q rfl (op_assign (av := .exact (.int .i64 y39.1)) rfl ?_)
          refine G_nil ?_
          refine kC_normal ?_
          refine k_ret ?_
          obtain rfl := Option.some.inj h
          refine kP_any (endN (af' := (AF.put AF0 (some 8) (.exact (.int .i64 y39.1)))) (σ' := [dskI w0 o40 y39.2]) _ rfl ?_ ⟨o40, rfl, rfl⟩)
          exact Sub.of_le (AF.le_put (AV.le_eq rfl) (AF.le_top _))
set_option maxHeartbeats 4000000 in
theorem m_frontier_read_ok {w0 : Nat} {w0o : List Nat} (a0 : Dk) (a1 : List UInt8) (r : (List (Int × Int)) × Int × Int × Dk) (h : m_frontier_read a0 a1 = some r) : Fun Try.prog 51 [(pA w0 0), (.exact (.string (bs a1)))] [dskI w0 w0o a0] (fun a s => ∃ zo0, a = .tup [.row 2 c_A2_int r.1, .exact (.int .i64 r.2.1), .exact (.int .i64 r.2.2.1)] ∧ s = [dskI w0 zo0 r.2.2.2]) := by
  unfold m_frontier_read at h
  refine fun_of_awp Try.func51 rfl Try.ntmps51 (by simp) rfl (res3 rfl) fun E hE => k_end ?_
  refine k_seq ?_
  refine k_reg .free hmixP (by kernel_rfl) ?_
  refine G_q rfl (op_assign (av := .exact (.slice none 0 0)) rfl ?_)
  refine G_q rfl (op_assign (av := .exact (.int .i64 0)) rfl ?_)
  refine G_q rfl (op_assign (av := .exact (.int .i64 0)) rfl ?_)
  refine G_nil ?_
  refine kC_normal ?_
  refine k_seq ?_
  refine k_reg .free hmixP (by kernel_rfl) ?_
  refine G_q rfl (op_move (av := pA w0 0) rfl ?_)
  refine G_q rfl (op_move (av := .exact (.string (bs a1))) rfl ?_)
  obtain ⟨y1, hy1, h⟩ := bnd1_some h
  refine G_l rfl (op_fun_1_1_1 (m_disk_Read_ok _ _ _ hy1) Try.func26 (by kernel_rfl) (LEs.cons (AV.le_eq rfl) (LEs.cons (AV.le_eq rfl) LEs.nil)) (fun o2 => ?_))
  refine G_q rfl (op_move (av := .tup [.row 1 c_uint8 y1.1, .exact (.int .i64 y1.2.1)]) rfl ?_)
  refine G_q rfl (op_extract (av := .row 1 c_uint8 y1.1) rfl rfl ?_)
  refine G_q rfl (op_extract (av := .exact (.int .i64 y1.2.1)) rfl rfl ?_)
  refine G_q rfl (op_assign (av := .row 1 c_uint8 y1.1) rfl ?_)
  refine G_q rfl (op_assign (av := .exact (.int .i64 y1.2.1)) rfl ?_)
  refine G_nil ?_
  refine kC_normal ?_
  refine k_seq ?_
  refine k_reg .free hmixP (by kernel_rfl) ?_
  refine G_q rfl (op_assign (av := .exact (.slice none 0 0)) rfl ?_)
  refine G_nil ?_
  refine kC_normal ?_
  refine k_seq ?_
  refine k_reg .free hmixP (by kernel_rfl) ?_
  refine G_q rfl (op_assign (av := .exact (.int .i64 0)) rfl ?_)
  refine G_nil ?_
  refine kC_normal ?_
  refine k_join3_1 h (fun (x8_j3 : Int) (x9_j3 : List (Int × Int)) (x10_j3 : Int) (v9_j3 : Value) => (AF.put (AF.put (AF.put (AF.put AF0 (some 0) (pA w0 0)) (some 8) (.exact (.int .i64 x8_j3))) (some 9) (.exact v9_j3)) (some 10) (.exact (.int .i64 x10_j3)))) (fun (x8_j3 : Int) (x9_j3 : List (Int × Int)) (x10_j3 : Int) (v9_j3 : Value) => [dskI w0 o2 y1.2.2, vecT Try.prog 23 2 c_A2_int v9_j3 x9_j3]) (fun k3 h => ?_) (fun x8_j3 x9_j3 x10_j3 v9_j3 h => ?_)
  · refine k_seq ?_
    refine k_reg .free hmixP (by kernel_rfl) ?_
    refine G_q rfl (op_assign (av := .exact (.int .i64 0)) rfl ?_)
    refine G_nil ?_
    refine kC_normal ?_
    refine k_block ?_
    refine k_loop4_1 (m_frontier_read_L2 y1 k3) (m_frontier_read_B2 y1 k3) (fun _ _ _ _ => rfl) (fun m _ _ _ _ => rfl) h (fun (x8_l2 : Int) (x9_l2 : List (Int × Int)) (x10_l2 : Int) (x11_l2 : Int) (v9_l2 : Value) => (AF.put (AF.put (AF.put (AF.put (AF.put (AF.put AF0 (some 0) (pA w0 0)) (some 7) (.row 1 c_uint8 y1.1)) (some 8) (.exact (.int .i64 x8_l2))) (some 9) (.exact v9_l2)) (some 10) (.exact (.int .i64 x10_l2))) (some 11) (.exact (.int .i64 x11_l2)))) (fun (x8_l2 : Int) (x9_l2 : List (Int × Int)) (x10_l2 : Int) (x11_l2 : Int) (v9_l2 : Value) => [dskI w0 o2 y1.2.2, vecT Try.prog 23 2 c_A2_int v9_l2 x9_l2]) (.slice none 0 0) ?_ (fun rec2 x8_l2 x9_l2 x10_l2 x11_l2 v9_l2 h => ?_)
    · refine Sub.trans (SubU.to (SubU.nilT (P := Try.prog) (t := 23) (n := 2) (enc := c_A2_int))) ?_
      refine Sub.trans (SubU.to SubU.f1) ?_
      exact Sub.of_le (AF.le_put (AV.le_eq rfl) (AF.le_put (AV.le_eq rfl) (AF.le_put (AV.le_eq rfl) (AF.le_put (AV.le_eq rfl) (AF.le_put (AV.le_eq rfl) (AF.le_put (AV.le_eq rfl) (AF.le_top _)))))))
    · unfold m_frontier_read_B2 at h
      refine k_seq ?_
      refine k_join1_0 h (fun (x26_j175 : Bool) => (AF.put (AF.put (AF.put (AF.put (AF.put (AF.put (AF.put AF0 (some 0) (pA w0 0)) (some 7) (.row 1 c_uint8 y1.1)) (some 8) (.exact (.int .i64 x8_l2))) (some 9) (.exact v9_l2)) (some 10) (.exact (.int .i64 x10_l2))) (some 11) (.exact (.int .i64 x11_l2))) (some 26) (.exact (.bool x26_j175)))) (fun (x26_j175 : Bool) => [dskI w0 o2 y1.2.2, vecT Try.prog 23 2 c_A2_int v9_l2 x9_l2]) (fun k175 h => ?_) (fun x26_j175 h => ?_)
      · refine k_reg .free hmixP (by kernel_rfl) ?_
        refine G_q rfl (op_move (av := .exact (.int .i64 x8_l2)) rfl ?_)
        refine G_q rfl (op_eql rfl rfl ?_)
        refine G_q rfl (op_move (av := .exact (.bool (decide (x8_l2 = 0)))) rfl ?_)
        refine G_split (p := x8_l2 = 0) 21 rfl (fun hc => ?_) (fun hc => ?_)
        · replace h := ite_t h hc
          refine Gy_q rfl rfl rfl (op_move (av := .exact (.int .i64 x11_l2)) rfl ?_)
          refine Gy_q rfl rfl rfl (op_move (av := .row 1 c_uint8 y1.1) rfl ?_)
          refine Gy_q rfl rfl rfl (op_len_row (by kernel_rfl) rfl ?_)
          refine Gy_q rfl rfl rfl (op_lss rfl rfl ?_)
          refine G_q rfl (op_pick_t rfl (av := .exact (.bool (decide (x11_l2 < (List.length y1.1 : Int))))) rfl ?_)
          refine G_nil ?_
          refine kI_normal ⟨_, h, ?_⟩
          exact Sub.of_le (AF.le_put (AV.le_eq rfl) (AF.le_put (AV.le_eq rfl) (AF.le_put (AV.le_eq rfl) (AF.le_put (AV.le_eq rfl) (AF.le_put (AV.le_eq rfl) (AF.le_put (AV.le_eq rfl) (AF.le_put (AV.le_eq rfl) (AF.le_top _))))))))
        · replace h := ite_f h hc
          refine G_n rfl rfl ?_
          refine G_n rfl rfl ?_
          refine G_n rfl rfl ?_
          refine G_n rfl rfl ?_
          refine G_q rfl (op_pick_f rfl (av := .exact (.bool false)) rfl ?_)
          refine G_nil ?_
          refine kI_normal ⟨_, h, ?_⟩
          exact Sub.of_le (AF.le_put (AV.le_eq rfl) (AF.le_put (AV.le_eq rfl) (AF.le_put (AV.le_eq rfl) (AF.le_put (AV.le_eq rfl) (AF.le_put (AV.le_eq rfl) (AF.le_put (AV.le_eq rfl) (AF.le_put (AV.le_eq rfl) (AF.le_top _))))))))
      · refine k_cond_b (c := x26_j175) rfl (fun hc => ?_) (fun hc => ?_)
        · replace h := ite_t h hc
          refine k_skip ?_
          refine kC_normal ?_
          refine k_seq ?_
          refine k_block ?_
          refine k_seq ?_
          refine k_reg .free hmixP (by kernel_rfl) ?_
          refine G_q rfl (op_assign (av := .exact (.slice none 0 0)) rfl ?_)
          refine G_nil ?_
          refine kC_normal ?_
          refine k_seq ?_
          refine k_reg .free hmixP (by kernel_rfl) ?_
          refine G_q rfl (op_move (av := .row 1 c_uint8 y1.1) rfl ?_)
          refine G_q rfl (op_move (av := .exact (.int .i64 x11_l2)) rfl ?_)
          obtain ⟨y195, hy195, h⟩ := bnd1_some h
          refine G_q rfl (op_pure (m_frontier_DecodeBlock_ok _ _ _ hy195) Try.func45 (by kernel_rfl) (LEs.cons (AV.le_eq rfl) (LEs.cons (AV.le_eq rfl) LEs.nil)) ?_)
          refine G_q rfl (op_move (av := .tup [.row 2 c_A2_int y195.1, .exact (.int .i64 y195.2.1), .exact (.int .i64 y195.2.2)]) rfl ?_)
          refine G_q rfl (op_extract (av := .row 2 c_A2_int y195.1) rfl rfl ?_)
          refine G_q rfl (op_extract (av := .exact (.int .i64 y195.2.1)) rfl rfl ?_)
          refine G_q rfl (op_extract (av := .exact (.int .i64 y195.2.2)) rfl rfl ?_)
          refine G_q rfl (op_assign (av := .row 2 c_A2_int y195.1) rfl ?_)
          refine G_q rfl (op_assign (av := .exact (.int .i64 y195.2.1)) rfl ?_)
          refine G_q rfl (op_assign (av := .exact (.int .i64 y195.2.2)) rfl ?_)
          refine G_nil ?_
          refine kC_normal ?_
          refine k_join1_0 h (fun (x8_j196 : Int) => (AF.put (AF.put (AF.put (AF.put (AF.put (AF.put (AF.put AF0 (some 0) (pA w0 0)) (some 7) (.row 1 c_uint8 y1.1)) (some 8) (.exact (.int .i64 x8_j196))) (some 9) (.exact v9_l2)) (some 10) (.exact (.int .i64 x10_l2))) (some 11) (.exact (.int .i64 y195.2.1))) (some 12) (.row 2 c_A2_int y195.1))) (fun (x8_j196 : Int) => [dskI w0 o2 y1.2.2, vecT Try.prog 23 2 c_A2_int v9_l2 x9_l2]) (fun k196 h => ?_) (fun x8_j196 h => ?_)
          · refine k_join1_0 h (fun (x55_j204 : Bool) => (AF.put (AF.put (AF.put (AF.put (AF.put (AF.put (AF.put (AF.put AF0 (some 0) (pA w0 0)) (some 7) (.row 1 c_uint8 y1.1)) (some 8) (.exact (.int .i64 y195.2.2))) (some 9) (.exact v9_l2)) (some 10) (.exact (.int .i64 x10_l2))) (some 11) (.exact (.int .i64 y195.2.1))) (some 12) (.row 2 c_A2_int y195.1)) (some 55) (.exact (.bool x55_j204)))) (fun (x55_j204 : Bool) => [dskI w0 o2 y1.2.2, vecT Try.prog 23 2 c_A2_int v9_l2 x9_l2]) (fun k204 h => ?_) (fun x55_j204 h => ?_)
            · refine k_plan [] [(0, 0), (0, 1), (0, 2), (0, 3), (1, 4), (0, 5), (0, 6), (0, 7), (0, 8), (0, 9), (0, 14), (0, 15), (0, 16), (1, 10), (0, 11), (1, 12), (1, 13), (0, 17), (0, 18), (0, 19)] hmixP (by kernel_rfl) ?_
              refine P_q no34_0 rfl (op_move (av := .exact (.int .i64 y195.2.2)) rfl ?_)
              refine P_q no34_0 rfl (op_eql rfl rfl ?_)
              refine P_q no34_0 rfl (op_move (av := .exact (.bool (decide (y195.2.2 = 0)))) rfl ?_)
              refine P_split (p := y195.2.2 = 0) 38 rfl (fun hc => ?_) (fun hc => ?_)
              · replace h := ite_t h hc
                refine Py_q no34_0 rfl rfl rfl (op_move (av := .exact v9_l2) rfl ?_)
                refine Py_r rfl rfl rfl (opR_f1 (op_len_vec (by kernel_rfl) rfl ?_))
                refine Py_q no34_0 rfl rfl rfl (op_gtr rfl rfl ?_)
                refine P_q no34_0 rfl (op_pick_t rfl (av := .exact (.bool (decide (0 < (List.length x9_l2 : Int))))) rfl ?_)
                refine P_q no34_0 rfl (op_move (av := .exact (.bool (decide (0 < (List.length x9_l2 : Int))))) rfl ?_)
                refine P_split (p := 0 < (List.length x9_l2 : Int)) 43 rfl (fun hc => ?_) (fun hc => ?_)
                · replace h := ite_t h hc
                  refine Py_q no34_0 rfl rfl rfl (op_move (av := .exact v9_l2) rfl ?_)
                  refine Py_q no34_0 rfl rfl rfl (op_move (av := .exact v9_l2) rfl ?_)
                  refine Py_q no34_0 rfl rfl rfl (op_move (av := .row 2 c_A2_int y195.1) rfl ?_)
                  obtain ⟨n208, h⟩ := need_some h
                  refine Py_q no34_0 rfl rfl rfl (op_index_row (by kernel_rfl) rfl rfl n208.1 n208.2 ?_)
                  refine Py_q no34_0 rfl rfl rfl (op_loadNp (m := 2) (c' := c_A2_int (gi y195.1 0)) (by kernel_rfl) rfl rfl rfl ?_)
                  refine Py_r rfl rfl rfl (opR_f1 (op_len_vec (by kernel_rfl) rfl ?_))
                  refine Py_q no34_0 rfl rfl rfl (op_sub rfl rfl rfl ?_)
                  obtain ⟨n209, h⟩ := need_some h
                  refine Py_r rfl rfl rfl (opR_f1 (op_index_vec (by kernel_rfl) rfl rfl n209.1 n209.2 ?_))
                  refine Py_r rfl rfl rfl (opR_f1 (op_load_vecN (i := i64 ((List.length x9_l2 : Int) - 1)) (o := 0) (m := 2) (c' := c_A2_int (gi x9_l2 (i64 ((List.length x9_l2 : Int) - 1)))) (by kernel_rfl) len_c_A2_int rfl n209.1 n209.2 rfl rfl ?_))
                  obtain ⟨y210, hy210, h⟩ := bnd1_some h
                  refine Py_q no34_0 rfl rfl rfl (op_pure (m_frontier_compare_ok _ _ _ hy210) Try.func61 (by kernel_rfl) (LEs.cons (AV.le_eq rfl) (LEs.cons (AV.le_eq rfl) LEs.nil)) ?_)
                  refine Py_q no34_0 rfl rfl rfl (op_geq rfl rfl ?_)
                  refine P_q no34_0 rfl (op_pick_t rfl (av := .exact (.bool (decide (0 ≤ y210)))) rfl ?_)
                  refine P_nil ?_
                  refine kI_normal ⟨_, h, ?_⟩
                  exact Sub.of_le (AF.le_put (AV.le_eq rfl) (AF.le_put (AV.le_eq rfl) (AF.le_put (AV.le_eq rfl) (AF.le_put (AV.le_eq rfl) (AF.le_put (AV.le_eq rfl) (AF.le_put (AV.le_eq rfl) (AF.le_put (AV.le_eq rfl) (AF.le_put (AV.le_eq rfl) (AF.le_top _)))))))))
                · replace h := ite_f h hc
                  refine P_n no34_0 rfl rfl rfl ?_
                  refine P_n no34_0 rfl rfl rfl ?_
                  refine P_n no34_0 rfl rfl rfl ?_
                  refine P_n no34_0 rfl rfl rfl ?_
                  refine P_n no34_0 rfl rfl rfl ?_
                  refine P_n no34_1 rfl rfl rfl ?_
                  refine P_n no34_0 rfl rfl rfl ?_
                  refine P_n no34_1 rfl rfl rfl ?_
                  refine P_n no34_1 rfl rfl rfl ?_
                  refine P_n no34_0 rfl rfl rfl ?_
                  refine P_n no34_0 rfl rfl rfl ?_
                  refine P_q no34_0 rfl (op_pick_f rfl (av := .exact (.bool false)) rfl ?_)
                  refine P_nil ?_
                  refine kI_normal ⟨_, h, ?_⟩
                  exact Sub.of_le (AF.le_put (AV.le_eq rfl) (AF.le_put (AV.le_eq rfl) (AF.le_put (AV.le_eq rfl) (AF.le_put (AV.le_eq rfl) (AF.le_put (AV.le_eq rfl) (AF.le_put (AV.le_eq rfl) (AF.le_put (AV.le_eq rfl) (AF.le_put (AV.le_eq rfl) (AF.le_top _)))))))))
              · replace h := ite_f h hc
                refine P_n no34_0 rfl rfl rfl ?_
                refine P_n no34_1 rfl rfl rfl ?_
                refine P_n no34_0 rfl rfl rfl ?_
                refine P_q no34_0 rfl (op_pick_f rfl (av := .exact (.bool false)) rfl ?_)
                refine P_q no34_0 rfl (op_move (av := .exact (.bool false)) rfl ?_)
                refine P_n no34_0 rfl rfl rfl ?_
                refine P_n no34_0 rfl rfl rfl ?_
                refine P_n no34_0 rfl rfl rfl ?_
                refine P_n no34_0 rfl rfl rfl ?_
                refine P_n no34_0 rfl rfl rfl ?_
                refine P_n no34_1 rfl rfl rfl ?_
                refine P_n no34_0 rfl rfl rfl ?_
                refine P_n no34_1 rfl rfl rfl ?_
                refine P_n no34_1 rfl rfl rfl ?_
                refine P_n no34_0 rfl rfl rfl ?_
                refine P_n no34_0 rfl rfl rfl ?_
                refine P_q no34_0 rfl (op_pick_f rfl (av := .exact (.bool false)) rfl ?_)
                refine P_nil ?_
                refine kI_normal ⟨_, h, ?_⟩
                exact Sub.of_le (AF.le_put (AV.le_eq rfl) (AF.le_put (AV.le_eq rfl) (AF.le_put (AV.le_eq rfl) (AF.le_put (AV.le_eq rfl) (AF.le_put (AV.le_eq rfl) (AF.le_put (AV.le_eq rfl) (AF.le_put (AV.le_eq rfl) (AF.le_put (AV.le_eq rfl) (AF.le_top _)))))))))
            · refine k_cond_b (c := x55_j204) rfl (fun hc => ?_) (fun hc => ?_)
              · replace h := ite_t h hc
                refine k_reg .free hmixP (by kernel_rfl) ?_
                refine G_q rfl (op_assign (av := .exact (.int .i64 22)) rfl ?_)
                refine G_nil ?_
                refine kI_normal ⟨_, h, ?_⟩
                exact Sub.of_le (AF.le_put (AV.le_eq rfl) (AF.le_put (AV.le_eq rfl) (AF.le_put (AV.le_eq rfl) (AF.le_put (AV.le_eq rfl) (AF.le_put (AV.le_eq rfl) (AF.le_put (AV.le_eq rfl) (AF.le_put (AV.le_eq rfl) (AF.le_top _))))))))
              · replace h := ite_f h hc
                refine k_skip ?_
                refine kI_normal ⟨_, h, ?_⟩
                exact Sub.of_le (AF.le_put (AV.le_eq rfl) (AF.le_put (AV.le_eq rfl) (AF.le_put (AV.le_eq rfl) (AF.le_put (AV.le_eq rfl) (AF.le_put (AV.le_eq rfl) (AF.le_put (AV.le_eq rfl) (AF.le_put (AV.le_eq rfl) (AF.le_top _))))))))
          · refine k_reg .free hmixP (by kernel_rfl) ?_
            refine G_q rfl (op_move (av := .exact v9_l2) rfl ?_)
            refine G_q rfl (op_move (av := .row 2 c_A2_int y195.1) rfl ?_)
            obtain ⟨n211, h⟩ := need_some h
            refine G_l rfl (opB_f1 (op_appT (by kernel_rfl) rfl rfl oc_c_A2_int n211 (fun v212 => ?_)))
            refine G_q rfl (op_assign (av := .exact v212) rfl ?_)
            refine G_nil ?_
            refine kB_normal ?_
            refine kC_normal ?_
            refine k_reg .free hmixP (by kernel_rfl) ?_
            refine G_q rfl (op_move (av := .exact (.int .i64 x10_l2)) rfl ?_)
            refine G_q rfl (op_add rfl rfl rfl ?_)
            refine G_q rfl (op_assign (av := .exact (.int .i64 (i64 (x10_l2 + 1)))) rfl ?_)
            refine G_nil ?_
            refine kI_normal ⟨_, _, _, _, v212, h, ?_⟩
            refine Sub.trans (SubU.to SubU.f1) ?_
            exact Sub.of_le (AF.le_put (AV.le_eq rfl) (AF.le_put (AV.le_eq rfl) (AF.le_put (AV.le_eq rfl) (AF.le_put (AV.le_eq rfl) (AF.le_put (AV.le_eq rfl) (AF.le_put (AV.le_eq rfl) (AF.le_top _)))))))
        · replace h := ite_f h hc
          refine k_exit ?_
          refine kC_exit ?_
          refine kI_exit ?_
          refine kB_exit ?_
          refine kI_normal ⟨_, _, _, v9_l2, h, ?_⟩
          exact Sub.of_le (AF.le_put (AV.le_eq rfl) (AF.le_put (AV.le_eq rfl) (AF.le_put (AV.le_eq rfl) (AF.le_put (AV.le_eq rfl) (AF.le_top _)))))
  · refine k_seq ?_
    refine k_seq ?_
    refine k_reg .free hmixP (by kernel_rfl) ?_
    refine G_q rfl (op_move (av := .exact (.int .i64 x8_j3)) rfl ?_)
    refine G_q rfl (op_neq rfl rfl ?_)
    refine G_nil ?_
    refine kC_normal ?_
    refine k_cond_d (p := ¬ x8_j3 = 0) rfl (fun hc => ?_) (fun hc => ?_)
    · replace h := ite_t h hc
      refine k_seq ?_
      refine k_reg .free hmixP (by kernel_rfl) ?_
      refine G_q rfl (op_move (av := .exact (.int .i64 x8_j3)) rfl ?_)
      refine G_q rfl (op_assign (av := .exact (.slice none 0 0)) rfl ?_)
      refine G_q rfl (op_assign (av := .exact (.int .i64 0)) rfl ?_)
      refine G_q rfl (op_assign (av := .exact (.int .i64 x8_j3)) rfl ?_)
      refine G_nil ?_
      refine kC_normal ?_
      refine k_ret ?_
      refine kC_ret ?_
      obtain rfl := Option.some.inj h
      refine kP_any (endN (af' := (AF.put (AF.put (AF.put AF0 (some 4) (.row 2 c_A2_int [])) (some 5) (.exact (.int .i64 0))) (some 6) (.exact (.int .i64 x8_j3)))) (σ' := [dskI w0 o2 y1.2.2]) _ rfl ?_ ⟨o2, rfl, rfl⟩)
      refine Sub.trans (SubU.to SubU.f1) ?_
      refine Sub.trans (SubU.to SubU.drop) ?_
      exact Sub.of_le (AF.le_put (AV.le_eq rfl) (AF.le_put (AV.le_eq rfl) (AF.le_put (row_nil (by decide)) (AF.le_top _))))
    · replace h := ite_f h hc
      refine k_skip ?_
      refine kC_normal ?_
      refine k_seq ?_
      refine k_reg .free hmixP (by kernel_rfl) ?_
      refine G_q rfl (op_move (av := .exact v9_j3) rfl ?_)
      refine G_q rfl (op_move (av := .exact (.int .i64 x10_j3)) rfl ?_)
      refine G_q rfl (op_assign (av := .exact v9_j3) rfl ?_)
      refine G_q rfl (op_assign (av := .exact (.int .i64 x10_j3)) rfl ?_)
      refine G_q rfl (op_assign (av := .exact (.int .i64 0)) rfl ?_)
      refine G_nil ?_
      refine kC_normal ?_
      refine k_ret ?_
      obtain rfl := Option.some.inj h
      refine kP_any (endN (af' := (AF.put (AF.put (AF.put AF0 (some 4) (.row 2 c_A2_int x9_j3)) (some 5) (.exact (.int .i64 x10_j3))) (some 6) (.exact (.int .i64 0)))) (σ' := [dskI w0 o2 y1.2.2]) _ rfl ?_ ⟨o2, rfl, rfl⟩)
      refine Sub.trans (SubU.to SubU.f1) ?_
      refine Sub.trans (SubU.to (SubU.freezeT (s := 4) rfl len_c_A2_int)) ?_
      exact Sub.of_le (AF.le_put (AV.le_eq rfl) (AF.le_put (AV.le_eq rfl) (AF.le_put (AV.le_eq rfl) (AF.le_top _))))
set_option maxHeartbeats 4000000 in
theorem m_frontier_Blocks_ok {w0 : Nat} {w0o : List Nat} (a0 : Dk) (a1 : List UInt8) (r : Int × Int × Dk) (h : m_frontier_Blocks a0 a1 = some r) : Fun Try.prog 24 [(pA w0 0), (.exact (.string (bs a1)))] [dskI w0 w0o a0] (fun a s => ∃ zo0, a = .tup [.exact (.int .i64 r.1), .exact (.int .i64 r.2.1)] ∧ s = [dskI w0 zo0 r.2.2]) := by
  unfold m_frontier_Blocks at h
  refine fun_of_awp Try.func24 rfl Try.ntmps24 (by simp) rfl (res2 rfl) fun E hE => k_end ?_
  refine k_seq ?_
  refine k_reg .free hmixP (by kernel_rfl) ?_
  refine G_q rfl (op_assign (av := .exact (.int .i64 0)) rfl ?_)
  refine G_q rfl (op_assign (av := .exact (.int .i64 0)) rfl ?_)
  refine G_nil ?_
  refine kC_normal ?_
  refine k_seq ?_
  refine k_reg .free hmixP (by kernel_rfl) ?_
  refine G_q rfl (op_move (av := pA w0 0) rfl ?_)
  refine G_q rfl (op_move (av := .exact (.string (bs a1))) rfl ?_)
  obtain ⟨y1, hy1, h⟩ := bnd1_some h
  refine G_l rfl (op_fun_1_1_1 (m_frontier_read_ok _ _ _ hy1) Try.func51 (by kernel_rfl) (LEs.cons (AV.le_eq rfl) (LEs.cons (AV.le_eq rfl) LEs.nil)) (fun o2 => ?_))
  refine G_q rfl (op_move (av := .tup [.row 2 c_A2_int y1.1, .exact (.int .i64 y1.2.1), .exact (.int .i64 y1.2.2.1)]) rfl ?_)
  refine G_q rfl (op_extract (av := .row 2 c_A2_int y1.1) rfl rfl ?_)
  refine G_q rfl (op_extract (av := .exact (.int .i64 y1.2.1)) rfl rfl ?_)
  refine G_q rfl (op_extract (av := .exact (.int .i64 y1.2.2.1)) rfl rfl ?_)
  refine G_q rfl (op_assign (av := .row 2 c_A2_int y1.1) rfl ?_)
  refine G_q rfl (op_assign (av := .exact (.int .i64 y1.2.1)) rfl ?_)
  refine G_q rfl (op_assign (av := .exact (.int .i64 y1.2.2.1)) rfl ?_)
  refine G_nil ?_
  refine kC_normal ?_
  refine k_seq ?_
  refine k_reg .free hmixP (by kernel_rfl) ?_
  refine G_q rfl (op_move (av := .exact (.int .i64 y1.2.1)) rfl ?_)
  refine G_q rfl (op_move (av := .exact (.int .i64 y1.2.2.1)) rfl ?_)
  refine G_q rfl (op_assign (av := .exact (.int .i64 y1.2.1)) rfl ?_)
  refine G_q rfl (op_assign (av := .exact (.int .i64 y1.2.2.1)) rfl ?_)
  refine G_nil ?_
  refine kC_normal ?_
  refine k_ret ?_
  obtain rfl := Option.some.inj h
  refine kP_any (endN (af' := (AF.put (AF.put AF0 (some 4) (.exact (.int .i64 y1.2.1))) (some 5) (.exact (.int .i64 y1.2.2.1)))) (σ' := [dskI w0 o2 y1.2.2.2]) _ rfl ?_ ⟨o2, rfl, rfl⟩)
  exact Sub.of_le (AF.le_put (AV.le_eq rfl) (AF.le_put (AV.le_eq rfl) (AF.le_top _)))
set_option maxHeartbeats 4000000 in
theorem m_law36_run_ok {w0 : Nat} (a0 : (List Int) × Int) (a1 : Int) (r : (List (Int × Int)) × ((List Int) × Int)) (h : m_law36_run a0 a1 = some r) : Fun Try.prog 12 [(pA w0 0), (.exact (.int .i64 a1))] [boxI 71 w0 [.row 1 c_int a0.1, .exact (.int .i64 a0.2)]] (fun a s => a = .row 2 c_A2_int r.1 ∧ s = [boxI 71 w0 [.row 1 c_int r.2.1, .exact (.int .i64 r.2.2)]]) := by
  unfold m_law36_run at h
  refine fun_of_awp Try.func12 rfl Try.ntmps12 (by simp) rfl (res1 rfl) fun E hE => k_end ?_
  refine k_seq ?_
  refine k_reg .free hmixP (by kernel_rfl) ?_
  refine G_q rfl (op_assign (av := .exact (.slice none 0 0)) rfl ?_)
  refine G_nil ?_
  refine kC_normal ?_
  refine k_seq ?_
  refine k_reg .free hmixP (by kernel_rfl) ?_
  refine G_q rfl (op_move (av := pA w0 0) rfl ?_)
  refine G_q rfl (op_move (av := .exact (.int .i64 a1)) rfl ?_)
  obtain ⟨y1, hy1, h⟩ := bnd1_some h
  refine G_l rfl (op_fun_1_0_1 (m_law36_pairs_ok _ _ _ hy1) Try.func13 (by kernel_rfl) (LEs.cons (AV.le_eq rfl) (LEs.cons (AV.le_eq rfl) LEs.nil)) ?_)
  obtain ⟨y2, hy2, h⟩ := bnd1_some h
  refine G_q rfl (op_pure (m_ref35_Sorted_ok _ _ hy2) Try.func42 (by kernel_rfl) (LEs.cons (AV.le_eq rfl) LEs.nil) ?_)
  refine G_q rfl (op_assign (av := .row 2 c_A2_int y2) rfl ?_)
  refine G_nil ?_
  refine kC_normal ?_
  refine k_ret ?_
  obtain rfl := Option.some.inj h
  refine kP_any (endN (af' := (AF.put AF0 (some 4) (.row 2 c_A2_int y2))) (σ' := [boxI 71 w0 [.row 1 c_int y1.2.1, .exact (.int .i64 y1.2.2)]]) _ rfl ?_ ⟨rfl, rfl⟩)
  exact Sub.of_le (AF.le_put (AV.le_eq rfl) (AF.le_top _))
set_option maxHeartbeats 4000000 in
theorem m_frontier_Read_ok {w0 : Nat} {w0o : List Nat} (a0 : Dk) (a1 : List UInt8) (r : (List (Int × Int)) × Int × Dk) (h : m_frontier_Read a0 a1 = some r) : Fun Try.prog 23 [(pA w0 0), (.exact (.string (bs a1)))] [dskI w0 w0o a0] (fun a s => ∃ zo0, a = .tup [.row 2 c_A2_int r.1, .exact (.int .i64 r.2.1)] ∧ s = [dskI w0 zo0 r.2.2]) := by
  unfold m_frontier_Read at h
  refine fun_of_awp Try.func23 rfl Try.ntmps23 (by simp) rfl (res2 rfl) fun E hE => k_end ?_
  refine k_seq ?_
  refine k_reg .free hmixP (by kernel_rfl) ?_
  refine G_q rfl (op_assign (av := .exact (.slice none 0 0)) rfl ?_)
  refine G_q rfl (op_assign (av := .exact (.int .i64 0)) rfl ?_)
  refine G_nil ?_
  refine kC_normal ?_
  refine k_seq ?_
  refine k_reg .free hmixP (by kernel_rfl) ?_
  refine G_q rfl (op_move (av := pA w0 0) rfl ?_)
  refine G_q rfl (op_move (av := .exact (.string (bs a1))) rfl ?_)
  obtain ⟨y1, hy1, h⟩ := bnd1_some h
  refine G_l rfl (op_fun_1_1_1 (m_frontier_read_ok _ _ _ hy1) Try.func51 (by kernel_rfl) (LEs.cons (AV.le_eq rfl) (LEs.cons (AV.le_eq rfl) LEs.nil)) (fun o2 => ?_))
  refine G_q rfl (op_move (av := .tup [.row 2 c_A2_int y1.1, .exact (.int .i64 y1.2.1), .exact (.int .i64 y1.2.2.1)]) rfl ?_)
  refine G_q rfl (op_extract (av := .row 2 c_A2_int y1.1) rfl rfl ?_)
  refine G_q rfl (op_extract (av := .exact (.int .i64 y1.2.1)) rfl rfl ?_)
  refine G_q rfl (op_extract (av := .exact (.int .i64 y1.2.2.1)) rfl rfl ?_)
  refine G_q rfl (op_assign (av := .row 2 c_A2_int y1.1) rfl ?_)
  refine G_q rfl (op_assign (av := .exact (.int .i64 y1.2.1)) rfl ?_)
  refine G_q rfl (op_assign (av := .exact (.int .i64 y1.2.2.1)) rfl ?_)
  refine G_nil ?_
  refine kC_normal ?_
  refine k_seq ?_
  refine k_reg .free hmixP (by kernel_rfl) ?_
  refine G_q rfl (op_move (av := .row 2 c_A2_int y1.1) rfl ?_)
  refine G_q rfl (op_move (av := .exact (.int .i64 y1.2.2.1)) rfl ?_)
  refine G_q rfl (op_assign (av := .row 2 c_A2_int y1.1) rfl ?_)
  refine G_q rfl (op_assign (av := .exact (.int .i64 y1.2.2.1)) rfl ?_)
  refine G_nil ?_
  refine kC_normal ?_
  refine k_ret ?_
  obtain rfl := Option.some.inj h
  refine kP_any (endN (af' := (AF.put (AF.put AF0 (some 4) (.row 2 c_A2_int y1.1)) (some 5) (.exact (.int .i64 y1.2.2.1)))) (σ' := [dskI w0 o2 y1.2.2.2]) _ rfl ?_ ⟨o2, rfl, rfl⟩)
  exact Sub.of_le (AF.le_put (AV.le_eq rfl) (AF.le_put (AV.le_eq rfl) (AF.le_top _)))
end Go.Proofs.Ytkplmgdmkfgjhaa
/- The functions compute their models, by program. -/
namespace Go.Proofs.Ytkplmgdmkfgjhaa
open Go.RowKit
attribute [local irreducible] AV.exact AV.top AV.row AV.ptr AV.agg AV.tup AV.eptr AV.fn AV.nilq AV.nilqn opA opB opM opR Quiet Loud Reads wpG awp den Sub SubU Pure Fun vecI vecT boxI CellsAll CellsOf OneC LEs LEss
set_option maxRecDepth 100000

set_option maxHeartbeats 4000000 in
theorem m_ref35_New_ok (a0 : Int) (r : (Int × (List ((List UInt8) × Int)) × (List ((List UInt8) × Int)) × (List ((List UInt8) × Int)) × (List (Int × (List UInt8) × (List UInt8) × Int)) × Int × Bool × Int) × Int) (h : m_ref35_New a0 = some r) : Fun Try.prog 33 [(.exact (.int .i64 a0))] [] (fun a s => ∃ z0, a = .tup [pA z0 0, .exact (.int .i64 r.2)] ∧ s = [boxI 67 z0 [.exact (.int .i64 r.1.1), .row 2 c_cspcheckref35_File r.1.2.1, .row 2 c_cspcheckref35_Name r.1.2.2.1, .row 2 c_cspcheckref35_Name r.1.2.2.2.1, .row 4 c_cspcheckref35_Op r.1.2.2.2.2.1, .exact (.int .i64 r.1.2.2.2.2.2.1), .exact (.bool r.1.2.2.2.2.2.2.1), .exact (.int .i64 r.1.2.2.2.2.2.2.2)]]) := by
  unfold m_ref35_New at h
  refine fun_of_awp Try.func33 rfl Try.ntmps33 (by simp) rfl (res2 rfl) fun E hE => k_end ?_
  refine k_seq ?_
  refine k_reg .free hmixP (by kernel_rfl) ?_
  refine G_q rfl (op_assign (av := .exact (.pointer none)) rfl ?_)
  refine G_q rfl (op_assign (av := .exact (.int .i64 0)) rfl ?_)
  refine G_nil ?_
  refine kC_normal ?_
  refine k_seq ?_
  refine k_join1_0 h (fun (x9_j3 : Bool) => (AF.put (AF.put AF0 (some 0) (.exact (.int .i64 a0))) (some 9) (.exact (.bool x9_j3)))) (fun (x9_j3 : Bool) => []) (fun k3 h => ?_) (fun x9_j3 h => ?_)
  · refine k_reg .free hmixP (by kernel_rfl) ?_
    refine G_q rfl (op_move (av := .exact (.int .i64 a0)) rfl ?_)
    refine G_q rfl (op_lss rfl rfl ?_)
    refine G_q rfl (op_move (av := .exact (.bool (decide (a0 < 0)))) rfl ?_)
    refine G_split (p := a0 < 0) 6 rfl (fun hc => ?_) (fun hc => ?_)
    · replace h := ite_t h hc
      refine G_n rfl rfl ?_
      refine G_n rfl rfl ?_
      refine G_q rfl (op_pick_t rfl (av := .exact (.bool true)) rfl ?_)
      refine G_nil ?_
      refine kI_normal ⟨_, h, ?_⟩
      exact Sub.of_le (AF.le_put (AV.le_eq rfl) (AF.le_put (AV.le_eq rfl) (AF.le_top _)))
    · replace h := ite_f h hc
      refine Gy_q rfl rfl rfl (op_move (av := .exact (.int .i64 a0)) rfl ?_)
      refine Gy_q rfl rfl rfl (op_gtr rfl rfl ?_)
      refine G_q rfl (op_pick_f rfl (av := .exact (.bool (decide (4194304 < a0)))) rfl ?_)
      refine G_nil ?_
      refine kI_normal ⟨_, h, ?_⟩
      exact Sub.of_le (AF.le_put (AV.le_eq rfl) (AF.le_put (AV.le_eq rfl) (AF.le_top _)))
  · refine k_cond_b (c := x9_j3) rfl (fun hc => ?_) (fun hc => ?_)
    · replace h := ite_t h hc
      refine k_seq ?_
      refine k_reg .free hmixP (by kernel_rfl) ?_
      refine G_q rfl (op_assign (av := .exact (.pointer none)) rfl ?_)
      refine G_q rfl (op_assign (av := .exact (.int .i64 1)) rfl ?_)
      refine G_nil ?_
      refine kC_normal ?_
      cases h
    · replace h := ite_f h hc
      refine k_skip ?_
      refine kC_normal ?_
      refine k_seq ?_
      refine k_reg .free hmixP (by kernel_rfl) ?_
      refine G_q rfl (op_move (av := .exact (.int .i64 a0)) rfl ?_)
      refine G_q rfl (op_bld (c' := c_cspcheckref35_Disk ((a0, [], [], [], [], 0, false, 0) : Int × (List ((List UInt8) × Int)) × (List ((List UInt8) × Int)) × (List ((List UInt8) × Int)) × (List (Int × (List UInt8) × (List UInt8) × Int)) × Int × Bool × Int)) (CellsAll.cons rfl CellsOf.int CellsAll.nil) rfl (LEs.cons (AV.le_eq rfl) (LEs.cons (row_nil (by decide)) (LEs.cons (row_nil (by decide)) (LEs.cons (row_nil (by decide)) (LEs.cons (row_nil (by decide)) (LEs.cons (AV.le_eq rfl) (LEs.cons (AV.le_eq rfl) (LEs.cons (AV.le_eq rfl) LEs.nil)))))))) ?_)
      refine G_l rfl (op_boxI (c := [.exact (.int .i64 (((a0, [], [], [], [], 0, false, 0) : Int × (List ((List UInt8) × Int)) × (List ((List UInt8) × Int)) × (List ((List UInt8) × Int)) × (List (Int × (List UInt8) × (List UInt8) × Int)) × Int × Bool × Int).1)), .row 2 c_cspcheckref35_File (((a0, [], [], [], [], 0, false, 0) : Int × (List ((List UInt8) × Int)) × (List ((List UInt8) × Int)) × (List ((List UInt8) × Int)) × (List (Int × (List UInt8) × (List UInt8) × Int)) × Int × Bool × Int).2.1), .row 2 c_cspcheckref35_Name (((a0, [], [], [], [], 0, false, 0) : Int × (List ((List UInt8) × Int)) × (List ((List UInt8) × Int)) × (List ((List UInt8) × Int)) × (List (Int × (List UInt8) × (List UInt8) × Int)) × Int × Bool × Int).2.2.1), .row 2 c_cspcheckref35_Name (((a0, [], [], [], [], 0, false, 0) : Int × (List ((List UInt8) × Int)) × (List ((List UInt8) × Int)) × (List ((List UInt8) × Int)) × (List (Int × (List UInt8) × (List UInt8) × Int)) × Int × Bool × Int).2.2.2.1), .row 4 c_cspcheckref35_Op (((a0, [], [], [], [], 0, false, 0) : Int × (List ((List UInt8) × Int)) × (List ((List UInt8) × Int)) × (List ((List UInt8) × Int)) × (List (Int × (List UInt8) × (List UInt8) × Int)) × Int × Bool × Int).2.2.2.2.1), .exact (.int .i64 (((a0, [], [], [], [], 0, false, 0) : Int × (List ((List UInt8) × Int)) × (List ((List UInt8) × Int)) × (List ((List UInt8) × Int)) × (List (Int × (List UInt8) × (List UInt8) × Int)) × Int × Bool × Int).2.2.2.2.2.1)), .exact (.bool (((a0, [], [], [], [], 0, false, 0) : Int × (List ((List UInt8) × Int)) × (List ((List UInt8) × Int)) × (List ((List UInt8) × Int)) × (List (Int × (List UInt8) × (List UInt8) × Int)) × Int × Bool × Int).2.2.2.2.2.2.1)), .exact (.int .i64 (((a0, [], [], [], [], 0, false, 0) : Int × (List ((List UInt8) × Int)) × (List ((List UInt8) × Int)) × (List ((List UInt8) × Int)) × (List (Int × (List UInt8) × (List UInt8) × Int)) × Int × Bool × Int).2.2.2.2.2.2.2))]) rfl CellsOf.agg (LEs.cons (AV.le_eq rfl) (LEs.cons (AV.le_eq rfl) (LEs.cons (AV.le_eq rfl) (LEs.cons (AV.le_eq rfl) (LEs.cons (AV.le_eq rfl) (LEs.cons (AV.le_eq rfl) (LEs.cons (AV.le_eq rfl) (LEs.cons (AV.le_eq rfl) LEs.nil)))))))) (fun b4 => ?_))
      refine G_q rfl (op_assign (av := pA b4 0) rfl ?_)
      refine G_q rfl (op_assign (av := .exact (.int .i64 0)) rfl ?_)
      refine G_nil ?_
      refine kC_normal ?_
      refine k_ret ?_
      obtain rfl := Option.some.inj h
      refine kP_any (endN (af' := (AF.put (AF.put AF0 (some 2) (pA b4 0)) (some 3) (.exact (.int .i64 0)))) (σ' := [boxI 67 b4 ([.exact (.int .i64 (((a0, [], [], [], [], 0, false, 0) : Int × (List ((List UInt8) × Int)) × (List ((List UInt8) × Int)) × (List ((List UInt8) × Int)) × (List (Int × (List UInt8) × (List UInt8) × Int)) × Int × Bool × Int).1)), .row 2 c_cspcheckref35_File (((a0, [], [], [], [], 0, false, 0) : Int × (List ((List UInt8) × Int)) × (List ((List UInt8) × Int)) × (List ((List UInt8) × Int)) × (List (Int × (List UInt8) × (List UInt8) × Int)) × Int × Bool × Int).2.1), .row 2 c_cspcheckref35_Name (((a0, [], [], [], [], 0, false, 0) : Int × (List ((List UInt8) × Int)) × (List ((List UInt8) × Int)) × (List ((List UInt8) × Int)) × (List (Int × (List UInt8) × (List UInt8) × Int)) × Int × Bool × Int).2.2.1), .row 2 c_cspcheckref35_Name (((a0, [], [], [], [], 0, false, 0) : Int × (List ((List UInt8) × Int)) × (List ((List UInt8) × Int)) × (List ((List UInt8) × Int)) × (List (Int × (List UInt8) × (List UInt8) × Int)) × Int × Bool × Int).2.2.2.1), .row 4 c_cspcheckref35_Op (((a0, [], [], [], [], 0, false, 0) : Int × (List ((List UInt8) × Int)) × (List ((List UInt8) × Int)) × (List ((List UInt8) × Int)) × (List (Int × (List UInt8) × (List UInt8) × Int)) × Int × Bool × Int).2.2.2.2.1), .exact (.int .i64 (((a0, [], [], [], [], 0, false, 0) : Int × (List ((List UInt8) × Int)) × (List ((List UInt8) × Int)) × (List ((List UInt8) × Int)) × (List (Int × (List UInt8) × (List UInt8) × Int)) × Int × Bool × Int).2.2.2.2.2.1)), .exact (.bool (((a0, [], [], [], [], 0, false, 0) : Int × (List ((List UInt8) × Int)) × (List ((List UInt8) × Int)) × (List ((List UInt8) × Int)) × (List (Int × (List UInt8) × (List UInt8) × Int)) × Int × Bool × Int).2.2.2.2.2.2.1)), .exact (.int .i64 (((a0, [], [], [], [], 0, false, 0) : Int × (List ((List UInt8) × Int)) × (List ((List UInt8) × Int)) × (List ((List UInt8) × Int)) × (List (Int × (List UInt8) × (List UInt8) × Int)) × Int × Bool × Int).2.2.2.2.2.2.2))])]) _ rfl ?_ ⟨b4, rfl, rfl⟩)
      exact Sub.of_le (AF.le_put (AV.le_eq rfl) (AF.le_put (AV.le_eq rfl) (AF.le_top _)))
set_option maxHeartbeats 4000000 in
theorem m_ref35_Disk_Fail_ok {w0 : Nat} (a0 : Int × (List ((List UInt8) × Int)) × (List ((List UInt8) × Int)) × (List ((List UInt8) × Int)) × (List (Int × (List UInt8) × (List UInt8) × Int)) × Int × Bool × Int) (a1 : Int) (r : (Int × (List ((List UInt8) × Int)) × (List ((List UInt8) × Int)) × (List ((List UInt8) × Int)) × (List (Int × (List UInt8) × (List UInt8) × Int)) × Int × Bool × Int)) (h : m_ref35_Disk_Fail a0 a1 = some r) : Fun Try.prog 35 [(pA w0 0), (.exact (.int .i64 a1))] [boxI 67 w0 [.exact (.int .i64 a0.1), .row 2 c_cspcheckref35_File a0.2.1, .row 2 c_cspcheckref35_Name a0.2.2.1, .row 2 c_cspcheckref35_Name a0.2.2.2.1, .row 4 c_cspcheckref35_Op a0.2.2.2.2.1, .exact (.int .i64 a0.2.2.2.2.2.1), .exact (.bool a0.2.2.2.2.2.2.1), .exact (.int .i64 a0.2.2.2.2.2.2.2)]] (fun a s => a = .tup [] ∧ s = [boxI 67 w0 [.exact (.int .i64 r.1), .row 2 c_cspcheckref35_File r.2.1, .row 2 c_cspcheckref35_Name r.2.2.1, .row 2 c_cspcheckref35_Name r.2.2.2.1, .row 4 c_cspcheckref35_Op r.2.2.2.2.1, .exact (.int .i64 r.2.2.2.2.2.1), .exact (.bool r.2.2.2.2.2.2.1), .exact (.int .i64 r.2.2.2.2.2.2.2)]]) := by
  unfold m_ref35_Disk_Fail at h
  refine fun_of_awp Try.func35 rfl Try.ntmps35 (by simp) rfl (res0 rfl) fun E hE => k_end ?_
  refine k_seq ?_
  refine k_reg .free hmixP (by kernel_rfl) ?_
  refine G_q rfl (op_move (av := pA w0 0) rfl ?_)
  refine G_q rfl (op_nilCheck rfl ?_)
  refine G_q rfl (op_fieldAddr (o := 6) (by kernel_rfl) rfl ?_)
  refine G_r rfl (op_load_box1 (a := .exact (.bool a0.2.2.2.2.2.2.1)) (by kernel_rfl) rfl rfl ?_)
  refine G_q rfl (op_not rfl ?_)
  refine G_nil ?_
  refine kC_normal ?_
  refine k_cond_b (c := !a0.2.2.2.2.2.2.1) rfl (fun hc => ?_) (fun hc => ?_)
  · replace h := ite_t h hc
    refine k_reg .free hmixP (by kernel_rfl) ?_
    refine G_q rfl (op_move (av := pA w0 0) rfl ?_)
    refine G_q rfl (op_move (av := .exact (.int .i64 a1)) rfl ?_)
    refine G_q rfl (op_max rfl rfl ?_)
    refine G_q rfl (op_nilCheck rfl ?_)
    refine G_q rfl (op_fieldAddr (o := 5) (by kernel_rfl) rfl ?_)
    refine G_l rfl (op_store_box (c' := [.exact (.int .i64 (max a1 0))]) (c3 := [.exact (.int .i64 a0.1), .row 2 c_cspcheckref35_File a0.2.1, .row 2 c_cspcheckref35_Name a0.2.2.1, .row 2 c_cspcheckref35_Name a0.2.2.2.1, .row 4 c_cspcheckref35_Op a0.2.2.2.2.1, .exact (.int .i64 (max a1 0)), .exact (.bool a0.2.2.2.2.2.2.1), .exact (.int .i64 a0.2.2.2.2.2.2.2)]) rfl rfl CellsOf.int (LEs.cons (AV.le_eq rfl) LEs.nil) (OneC.int OneC.nil) (by kernel_rfl) (Nat.le_of_ble_eq_true rfl) rfl ?_)
    refine G_nil ?_
    obtain rfl := Option.some.inj h
    refine kP_any (endNn (af' := AF0) (σ' := [boxI 67 w0 [.exact (.int .i64 a0.1), .row 2 c_cspcheckref35_File a0.2.1, .row 2 c_cspcheckref35_Name a0.2.2.1, .row 2 c_cspcheckref35_Name a0.2.2.2.1, .row 4 c_cspcheckref35_Op a0.2.2.2.2.1, .exact (.int .i64 (max a1 0)), .exact (.bool a0.2.2.2.2.2.2.1), .exact (.int .i64 a0.2.2.2.2.2.2.2)]]) _ rfl ?_ ⟨rfl, rfl⟩)
    exact Sub.of_le (AF.le_top _)
  · replace h := ite_f h hc
    refine k_skip ?_
    obtain rfl := Option.some.inj h
    refine kP_any (endNn (af' := AF0) (σ' := [boxI 67 w0 [.exact (.int .i64 a0.1), .row 2 c_cspcheckref35_File a0.2.1, .row 2 c_cspcheckref35_Name a0.2.2.1, .row 2 c_cspcheckref35_Name a0.2.2.2.1, .row 4 c_cspcheckref35_Op a0.2.2.2.2.1, .exact (.int .i64 a0.2.2.2.2.2.1), .exact (.bool a0.2.2.2.2.2.2.1), .exact (.int .i64 a0.2.2.2.2.2.2.2)]]) _ rfl ?_ ⟨rfl, rfl⟩)
    exact Sub.of_le (AF.le_top _)
set_option maxHeartbeats 4000000 in
theorem m_ref35_find_ok (a0 : List ((List UInt8) × Int)) (a1 : List UInt8) (r : Int) (h : m_ref35_find a0 a1 = some r) : Pure Try.prog 91 [(.row 2 c_cspcheckref35_Name a0), (.exact (.string (bs a1)))] (.exact (.int .i64 r)) := by
  unfold m_ref35_find at h
  refine Pure.ofFun (fun_of_awp Try.func91 rfl Try.ntmps91 (by simp) rfl (res1 rfl) fun E hE => k_end ?_)
  refine k_seq ?_
  refine k_reg .free hmixP (by kernel_rfl) ?_
  refine G_q rfl (op_assign (av := .exact (.int .i64 0)) rfl ?_)
  refine G_nil ?_
  refine kC_normal ?_
  refine k_join0_0 h (AF0) ([]) (fun k1 h => ?_) (fun  h => ?_)
  · refine k_seq ?_
    refine k_reg .free hmixP (by kernel_rfl) ?_
    refine G_q rfl (op_assign (av := .exact (.int .i64 0)) rfl ?_)
    refine G_nil ?_
    refine kC_normal ?_
    refine k_block ?_
    refine k_loop1_0 (m_ref35_find_L2 a0 a1 k1) (m_ref35_find_B2 a0 a1 k1) (fun _ => rfl) (fun m _ => rfl) h (fun (x5_l2 : Int) => (AF.put (AF.put (AF.put AF0 (some 0) (.row 2 c_cspcheckref35_Name a0)) (some 1) (.exact (.string (bs a1)))) (some 5) (.exact (.int .i64 x5_l2)))) (fun (x5_l2 : Int) => []) ?_ (fun rec2 x5_l2 h => ?_)
    · exact Sub.of_le (AF.le_put (AV.le_eq rfl) (AF.le_put (AV.le_eq rfl) (AF.le_put (AV.le_eq rfl) (AF.le_top _))))
    · unfold m_ref35_find_B2 at h
      refine k_seq ?_
      refine k_seq ?_
      refine k_reg .free hmixP (by kernel_rfl) ?_
      refine G_q rfl (op_move (av := .exact (.int .i64 x5_l2)) rfl ?_)
      refine G_q rfl (op_move (av := .row 2 c_cspcheckref35_Name a0) rfl ?_)
      refine G_q rfl (op_len_row (by kernel_rfl) rfl ?_)
      refine G_q rfl (op_lss rfl rfl ?_)
      refine G_nil ?_
      refine kC_normal ?_
      refine k_cond_d (p := x5_l2 < (List.length a0 : Int)) rfl (fun hc => ?_) (fun hc => ?_)
      · replace h := ite_t h hc
        refine k_skip ?_
        refine kC_normal ?_
        refine k_seq ?_
        refine k_block ?_
        refine k_seq ?_
        refine k_reg .free hmixP (by kernel_rfl) ?_
        refine G_q rfl (op_move (av := .row 2 c_cspcheckref35_Name a0) rfl ?_)
        refine G_q rfl (op_move (av := .exact (.int .i64 x5_l2)) rfl ?_)
        obtain ⟨n13, h⟩ := need_some h
        refine G_q rfl (op_index_row (by kernel_rfl) rfl rfl n13.1 n13.2 ?_)
        refine G_q rfl (op_fieldAddr_ptr (o := 0) (c' := (List.drop 0 (c_cspcheckref35_Name (gi a0 x5_l2)))) (by kernel_rfl) rfl rfl ?_)
        refine G_q rfl (op_load1p (a := .exact (.string (bs ((gi a0 x5_l2).1)))) (by kernel_rfl) rfl rfl ?_)
        refine G_q rfl (op_move (av := .exact (.string (bs a1))) rfl ?_)
        refine G_q rfl (op_eqlS rfl rfl ?_)
        refine G_nil ?_
        refine kC_normal ?_
        refine k_cond_d (p := ((gi a0 x5_l2).1) = a1) rfl (fun hc => ?_) (fun hc => ?_)
        · replace h := ite_t h hc
          refine k_seq ?_
          refine k_reg .free hmixP (by kernel_rfl) ?_
          refine G_q rfl (op_move (av := .row 2 c_cspcheckref35_Name a0) rfl ?_)
          refine G_q rfl (op_move (av := .exact (.int .i64 x5_l2)) rfl ?_)
          obtain ⟨n14, h⟩ := need_some h
          refine G_q rfl (op_index_row (by kernel_rfl) rfl rfl n14.1 n14.2 ?_)
          refine G_q rfl (op_fieldAddr_ptr (o := 1) (c' := (List.drop 1 (c_cspcheckref35_Name (gi a0 x5_l2)))) (by kernel_rfl) rfl rfl ?_)
          refine G_q rfl (op_load1p (a := .exact (.int .i64 ((gi a0 x5_l2).2))) (by kernel_rfl) rfl rfl ?_)
          refine G_q rfl (op_assign (av := .exact (.int .i64 ((gi a0 x5_l2).2))) rfl ?_)
          refine G_nil ?_
          refine kC_normal ?_
          refine k_ret ?_
          refine kB_ret ?_
          refine kC_ret ?_
          refine kI_ret ?_
          refine kB_ret ?_
          refine kI_ret ?_
          obtain rfl := Option.some.inj h
          refine kP_any (endN (af' := (AF.put AF0 (some 4) (.exact (.int .i64 ((gi a0 x5_l2).2))))) (σ' := []) _ rfl ?_ ⟨rfl, rfl⟩)
          exact Sub.of_le (AF.le_put (AV.le_eq rfl) (AF.le_top _))
        · replace h := ite_f h hc
          refine k_skip ?_
          refine kB_normal ?_
          refine kC_normal ?_
          refine k_reg .free hmixP (by kernel_rfl) ?_
          refine G_q rfl (op_move (av := .exact (.int .i64 x5_l2)) rfl ?_)
          refine G_q rfl (op_add rfl rfl rfl ?_)
          refine G_q rfl (op_assign (av := .exact (.int .i64 (i64 (x5_l2 + 1)))) rfl ?_)
          refine G_nil ?_
          refine kI_normal ⟨_, h, ?_⟩
          exact Sub.of_le (AF.le_put (AV.le_eq rfl) (AF.le_put (AV.le_eq rfl) (AF.le_put (AV.le_eq rfl) (AF.le_top _))))
      · replace h := ite_f h hc
        refine k_exit ?_
        refine kC_exit ?_
        refine kI_exit ?_
        refine kB_exit ?_
        refine kI_normal ⟨h, ?_⟩
        exact Sub.of_le (AF.le_top _)
  · refine k_seq ?_
    refine k_reg .free hmixP (by kernel_rfl) ?_
    refine G_q rfl (op_assign (av := .exact (.int .i64 (-1))) rfl ?_)
    refine G_nil ?_
    refine kC_normal ?_
    refine k_ret ?_
    obtain rfl := Option.some.inj h
    refine kP_any (endN (af' := (AF.put AF0 (some 4) (.exact (.int .i64 (-1))))) (σ' := []) _ rfl ?_ ⟨rfl, rfl⟩)
    exact Sub.of_le (AF.le_put (AV.le_eq rfl) (AF.le_top _))
set_option maxHeartbeats 4000000 in
theorem m_ref35_good_ok (a0 : List UInt8) (r : Bool) (h : m_ref35_good a0 = some r) : Pure Try.prog 92 [(.exact (.string (bs a0)))] (.exact (.bool r)) := by
  unfold m_ref35_good at h
  refine Pure.ofFun (fun_of_awp Try.func92 rfl Try.ntmps92 (by simp) rfl (res1 rfl) fun E hE => k_end ?_)
  refine k_seq ?_
  refine k_reg .free hmixP (by kernel_rfl) ?_
  refine G_q rfl (op_assign (av := .exact (.bool false)) rfl ?_)
  refine G_nil ?_
  refine kC_normal ?_
  refine k_join1_0 h (fun (x2_j1 : Bool) => (AF.put AF0 (some 2) (.exact (.bool x2_j1)))) (fun (x2_j1 : Bool) => []) (fun k1 h => ?_) (fun x2_j1 h => ?_)
  · refine k_reg .free hmixP (by kernel_rfl) ?_
    refine G_q rfl (op_move (av := .exact (.string (bs a0))) rfl ?_)
    refine G_q rfl (op_lenS (by kernel_rfl) rfl ?_)
    refine G_q rfl (op_geq rfl rfl ?_)
    refine G_q rfl (op_move (av := .exact (.bool (decide (1 ≤ (List.length a0 : Int))))) rfl ?_)
    refine G_split (p := 1 ≤ (List.length a0 : Int)) 6 rfl (fun hc => ?_) (fun hc => ?_)
    · replace h := ite_t h hc
      refine Gy_q rfl rfl rfl (op_move (av := .exact (.string (bs a0))) rfl ?_)
      refine Gy_q rfl rfl rfl (op_lenS (by kernel_rfl) rfl ?_)
      refine Gy_q rfl rfl rfl (op_leq rfl rfl ?_)
      refine G_q rfl (op_pick_t rfl (av := .exact (.bool (decide ((List.length a0 : Int) ≤ 32)))) rfl ?_)
      refine G_q rfl (op_assign (av := .exact (.bool (decide ((List.length a0 : Int) ≤ 32)))) rfl ?_)
      refine G_nil ?_
      refine kI_normal ⟨_, h, ?_⟩
      exact Sub.of_le (AF.le_put (AV.le_eq rfl) (AF.le_top _))
    · replace h := ite_f h hc
      refine G_n rfl rfl ?_
      refine G_n rfl rfl ?_
      refine G_n rfl rfl ?_
      refine G_q rfl (op_pick_f rfl (av := .exact (.bool false)) rfl ?_)
      refine G_q rfl (op_assign (av := .exact (.bool false)) rfl ?_)
      refine G_nil ?_
      refine kI_normal ⟨_, h, ?_⟩
      exact Sub.of_le (AF.le_put (AV.le_eq rfl) (AF.le_top _))
  · refine k_ret ?_
    obtain rfl := Option.some.inj h
    refine kP_any (endN (af' := (AF.put AF0 (some 2) (.exact (.bool x2_j1)))) (σ' := []) _ rfl ?_ ⟨rfl, rfl⟩)
    exact Sub.of_le (AF.le_put (AV.le_eq rfl) (AF.le_top _))
set_option maxHeartbeats 4000000 in
theorem m_ref35_Disk_Used_ok {w0 : Nat} (a0 : Int × (List ((List UInt8) × Int)) × (List ((List UInt8) × Int)) × (List ((List UInt8) × Int)) × (List (Int × (List UInt8) × (List UInt8) × Int)) × Int × Bool × Int) (r : Int) (h : m_ref35_Disk_Used a0 = some r) : Fun Try.prog 93 [(pA w0 0)] [boxI 67 w0 [.exact (.int .i64 a0.1), .row 2 c_cspcheckref35_File a0.2.1, .row 2 c_cspcheckref35_Name a0.2.2.1, .row 2 c_cspcheckref35_Name a0.2.2.2.1, .row 4 c_cspcheckref35_Op a0.2.2.2.2.1, .exact (.int .i64 a0.2.2.2.2.2.1), .exact (.bool a0.2.2.2.2.2.2.1), .exact (.int .i64 a0.2.2.2.2.2.2.2)]] (fun a s => a = .exact (.int .i64 r) ∧ s = [boxI 67 w0 [.exact (.int .i64 a0.1), .row 2 c_cspcheckref35_File a0.2.1, .row 2 c_cspcheckref35_Name a0.2.2.1, .row 2 c_cspcheckref35_Name a0.2.2.2.1, .row 4 c_cspcheckref35_Op a0.2.2.2.2.1, .exact (.int .i64 a0.2.2.2.2.2.1), .exact (.bool a0.2.2.2.2.2.2.1), .exact (.int .i64 a0.2.2.2.2.2.2.2)]]) := by
  unfold m_ref35_Disk_Used at h
  refine fun_of_awp Try.func93 rfl Try.ntmps93 (by simp) rfl (res1 rfl) fun E hE => k_end ?_
  refine k_seq ?_
  refine k_reg .free hmixP (by kernel_rfl) ?_
  refine G_q rfl (op_assign (av := .exact (.int .i64 0)) rfl ?_)
  refine G_nil ?_
  refine kC_normal ?_
  refine k_seq ?_
  refine k_reg .free hmixP (by kernel_rfl) ?_
  refine G_q rfl (op_assign (av := .exact (.int .i64 0)) rfl ?_)
  refine G_nil ?_
  refine kC_normal ?_
  refine k_join1_0 h (fun (x3_j1 : Int) => (AF.put (AF.put AF0 (some 0) (pA w0 0)) (some 3) (.exact (.int .i64 x3_j1)))) (fun (x3_j1 : Int) => [boxI 67 w0 [.exact (.int .i64 a0.1), .row 2 c_cspcheckref35_File a0.2.1, .row 2 c_cspcheckref35_Name a0.2.2.1, .row 2 c_cspcheckref35_Name a0.2.2.2.1, .row 4 c_cspcheckref35_Op a0.2.2.2.2.1, .exact (.int .i64 a0.2.2.2.2.2.1), .exact (.bool a0.2.2.2.2.2.2.1), .exact (.int .i64 a0.2.2.2.2.2.2.2)]]) (fun k1 h => ?_) (fun x3_j1 h => ?_)
  · refine k_seq ?_
    refine k_reg .free hmixP (by kernel_rfl) ?_
    refine G_q rfl (op_assign (av := .exact (.int .i64 0)) rfl ?_)
    refine G_nil ?_
    refine kC_normal ?_
    refine k_block ?_
    refine k_loop2_0 (m_ref35_Disk_Used_L2 a0 k1) (m_ref35_Disk_Used_B2 a0 k1) (fun _ _ => rfl) (fun m _ _ => rfl) h (fun (x3_l2 : Int) (x4_l2 : Int) => (AF.put (AF.put (AF.put AF0 (some 0) (pA w0 0)) (some 3) (.exact (.int .i64 x3_l2))) (some 4) (.exact (.int .i64 x4_l2)))) (fun (x3_l2 : Int) (x4_l2 : Int) => [boxI 67 w0 [.exact (.int .i64 a0.1), .row 2 c_cspcheckref35_File a0.2.1, .row 2 c_cspcheckref35_Name a0.2.2.1, .row 2 c_cspcheckref35_Name a0.2.2.2.1, .row 4 c_cspcheckref35_Op a0.2.2.2.2.1, .exact (.int .i64 a0.2.2.2.2.2.1), .exact (.bool a0.2.2.2.2.2.2.1), .exact (.int .i64 a0.2.2.2.2.2.2.2)]]) ?_ (fun rec2 x3_l2 x4_l2 h => ?_)
    · exact Sub.of_le (AF.le_put (AV.le_eq rfl) (AF.le_put (AV.le_eq rfl) (AF.le_put (AV.le_eq rfl) (AF.le_top _))))
    · unfold m_ref35_Disk_Used_B2 at h
      refine k_seq ?_
      refine k_seq ?_
      refine k_reg .free hmixP (by kernel_rfl) ?_
      refine G_q rfl (op_move (av := .exact (.int .i64 x4_l2)) rfl ?_)
      refine G_q rfl (op_move (av := pA w0 0) rfl ?_)
      refine G_q rfl (op_nilCheck rfl ?_)
      refine G_q rfl (op_fieldAddr (o := 2) (by kernel_rfl) rfl ?_)
      refine G_r rfl (op_load_box1 (a := .row 2 c_cspcheckref35_Name a0.2.2.1) (by kernel_rfl) rfl rfl ?_)
      refine G_q rfl (op_len_row (by kernel_rfl) rfl ?_)
      refine G_q rfl (op_lss rfl rfl ?_)
      refine G_nil ?_
      refine kC_normal ?_
      refine k_cond_d (p := x4_l2 < (List.length a0.2.2.1 : Int)) rfl (fun hc => ?_) (fun hc => ?_)
      · replace h := ite_t h hc
        refine k_skip ?_
        refine kC_normal ?_
        refine k_seq ?_
        refine k_block ?_
        refine k_plan [] [(0, 0), (0, 1), (0, 2), (0, 3), (0, 5), (0, 6), (0, 7), (0, 9), (1, 4), (1, 8), (0, 10), (0, 11), (0, 12), (0, 13), (0, 14), (0, 15), (0, 16), (0, 17), (0, 18)] hmixP (by kernel_rfl) ?_
        refine P_q no34_0 rfl (op_move (av := .exact (.int .i64 x3_l2)) rfl ?_)
        refine P_q no34_0 rfl (op_move (av := pA w0 0) rfl ?_)
        refine P_q no34_0 rfl (op_nilCheck rfl ?_)
        refine P_q no34_0 rfl (op_fieldAddr (o := 1) (by kernel_rfl) rfl ?_)
        refine P_q no34_0 rfl (op_move (av := pA w0 0) rfl ?_)
        refine P_q no34_0 rfl (op_nilCheck rfl ?_)
        refine P_q no34_0 rfl (op_fieldAddr (o := 2) (by kernel_rfl) rfl ?_)
        refine P_q no34_0 rfl (op_move (av := .exact (.int .i64 x4_l2)) rfl ?_)
        refine P_r rfl (op_load_box1 (a := .row 2 c_cspcheckref35_File a0.2.1) (by kernel_rfl) rfl rfl ?_)
        refine P_r rfl (op_load_box1 (a := .row 2 c_cspcheckref35_Name a0.2.2.1) (by kernel_rfl) rfl rfl ?_)
        obtain ⟨n13, h⟩ := need_some h
        refine P_q no34_0 rfl (op_index_row (by kernel_rfl) rfl rfl n13.1 n13.2 ?_)
        refine P_q no34_0 rfl (op_fieldAddr_ptr (o := 1) (c' := (List.drop 1 (c_cspcheckref35_Name (gi a0.2.2.1 x4_l2)))) (by kernel_rfl) rfl rfl ?_)
        refine P_q no34_0 rfl (op_load1p (a := .exact (.int .i64 ((gi a0.2.2.1 x4_l2).2))) (by kernel_rfl) rfl rfl ?_)
        obtain ⟨n14, h⟩ := need_some h
        refine P_q no34_0 rfl (op_index_row (by kernel_rfl) rfl rfl n14.1 n14.2 ?_)
        refine P_q no34_0 rfl (op_fieldAddr_ptr (o := 0) (c' := (List.drop 0 (c_cspcheckref35_File (gi a0.2.1 ((gi a0.2.2.1 x4_l2).2))))) (by kernel_rfl) rfl rfl ?_)
        refine P_q no34_0 rfl (op_load1p (a := .row 1 c_uint8 ((gi a0.2.1 ((gi a0.2.2.1 x4_l2).2)).1)) (by kernel_rfl) rfl rfl ?_)
        refine P_q no34_0 rfl (op_len_row (by kernel_rfl) rfl ?_)
        refine P_q no34_0 rfl (op_add rfl rfl rfl ?_)
        refine P_q no34_0 rfl (op_assign (av := .exact (.int .i64 (i64 (x3_l2 + (List.length ((gi a0.2.1 ((gi a0.2.2.1 x4_l2).2)).1) : Int))))) rfl ?_)
        refine P_nil ?_
        refine kB_normal ?_
        refine kC_normal ?_
        refine k_reg .free hmixP (by kernel_rfl) ?_
        refine G_q rfl (op_move (av := .exact (.int .i64 x4_l2)) rfl ?_)
        refine G_q rfl (op_add rfl rfl rfl ?_)
        refine G_q rfl (op_assign (av := .exact (.int .i64 (i64 (x4_l2 + 1)))) rfl ?_)
        refine G_nil ?_
        refine kI_normal ⟨_, _, h, ?_⟩
        exact Sub.of_le (AF.le_put (AV.le_eq rfl) (AF.le_put (AV.le_eq rfl) (AF.le_put (AV.le_eq rfl) (AF.le_top _))))
      · replace h := ite_f h hc
        refine k_exit ?_
        refine kC_exit ?_
        refine kI_exit ?_
        refine kB_exit ?_
        refine kI_normal ⟨_, h, ?_⟩
        exact Sub.of_le (AF.le_put (AV.le_eq rfl) (AF.le_put (AV.le_eq rfl) (AF.le_top _)))
  · refine k_seq ?_
    refine k_reg .free hmixP (by kernel_rfl) ?_
    refine G_q rfl (op_move (av := .exact (.int .i64 x3_j1)) rfl ?_)
    refine G_q rfl (op_assign (av := .exact (.int .i64 x3_j1)) rfl ?_)
    refine G_nil ?_
    refine kC_normal ?_
    refine k_ret ?_
    obtain rfl := Option.some.inj h
    refine kP_any (endN (af' := (AF.put AF0 (some 2) (.exact (.int .i64 x3_j1)))) (σ' := [boxI 67 w0 [.exact (.int .i64 a0.1), .row 2 c_cspcheckref35_File a0.2.1, .row 2 c_cspcheckref35_Name a0.2.2.1, .row 2 c_cspcheckref35_Name a0.2.2.2.1, .row 4 c_cspcheckref35_Op a0.2.2.2.2.1, .exact (.int .i64 a0.2.2.2.2.2.1), .exact (.bool a0.2.2.2.2.2.2.1), .exact (.int .i64 a0.2.2.2.2.2.2.2)]]) _ rfl ?_ ⟨rfl, rfl⟩)
    exact Sub.of_le (AF.le_put (AV.le_eq rfl) (AF.le_top _))
set_option maxHeartbeats 4000000 in
theorem m_ref35_Disk_write_ok {w0 : Nat} (a0 : Int × (List ((List UInt8) × Int)) × (List ((List UInt8) × Int)) × (List ((List UInt8) × Int)) × (List (Int × (List UInt8) × (List UInt8) × Int)) × Int × Bool × Int) (r : Bool × (Int × (List ((List UInt8) × Int)) × (List ((List UInt8) × Int)) × (List ((List UInt8) × Int)) × (List (Int × (List UInt8) × (List UInt8) × Int)) × Int × Bool × Int)) (h : m_ref35_Disk_write a0 = some r) : Fun Try.prog 94 [(pA w0 0)] [boxI 67 w0 [.exact (.int .i64 a0.1), .row 2 c_cspcheckref35_File a0.2.1, .row 2 c_cspcheckref35_Name a0.2.2.1, .row 2 c_cspcheckref35_Name a0.2.2.2.1, .row 4 c_cspcheckref35_Op a0.2.2.2.2.1, .exact (.int .i64 a0.2.2.2.2.2.1), .exact (.bool a0.2.2.2.2.2.2.1), .exact (.int .i64 a0.2.2.2.2.2.2.2)]] (fun a s => a = .exact (.bool r.1) ∧ s = [boxI 67 w0 [.exact (.int .i64 r.2.1), .row 2 c_cspcheckref35_File r.2.2.1, .row 2 c_cspcheckref35_Name r.2.2.2.1, .row 2 c_cspcheckref35_Name r.2.2.2.2.1, .row 4 c_cspcheckref35_Op r.2.2.2.2.2.1, .exact (.int .i64 r.2.2.2.2.2.2.1), .exact (.bool r.2.2.2.2.2.2.2.1), .exact (.int .i64 r.2.2.2.2.2.2.2.2)]]) := by
  unfold m_ref35_Disk_write at h
  refine fun_of_awp Try.func94 rfl Try.ntmps94 (by simp) rfl (res1 rfl) fun E hE => k_end ?_
  refine k_seq ?_
  refine k_reg .free hmixP (by kernel_rfl) ?_
  refine G_q rfl (op_assign (av := .exact (.bool false)) rfl ?_)
  refine G_nil ?_
  refine kC_normal ?_
  refine k_seq ?_
  refine k_reg .free hmixP (by kernel_rfl) ?_
  refine G_q rfl (op_move (av := pA w0 0) rfl ?_)
  refine G_q rfl (op_nilCheck rfl ?_)
  refine G_q rfl (op_fieldAddr (o := 7) (by kernel_rfl) rfl ?_)
  refine G_r rfl (op_load_box1 (a := .exact (.int .i64 a0.2.2.2.2.2.2.2)) (by kernel_rfl) rfl rfl ?_)
  refine G_q rfl (op_add rfl rfl rfl ?_)
  refine G_q rfl (op_nilCheck rfl ?_)
  refine G_q rfl (op_fieldAddr (o := 7) (by kernel_rfl) rfl ?_)
  refine G_l rfl (op_store_box (c' := [.exact (.int .i64 (i64 (a0.2.2.2.2.2.2.2 + 1)))]) (c3 := [.exact (.int .i64 a0.1), .row 2 c_cspcheckref35_File a0.2.1, .row 2 c_cspcheckref35_Name a0.2.2.1, .row 2 c_cspcheckref35_Name a0.2.2.2.1, .row 4 c_cspcheckref35_Op a0.2.2.2.2.1, .exact (.int .i64 a0.2.2.2.2.2.1), .exact (.bool a0.2.2.2.2.2.2.1), .exact (.int .i64 (i64 (a0.2.2.2.2.2.2.2 + 1)))]) rfl rfl CellsOf.int (LEs.cons (AV.le_eq rfl) LEs.nil) (OneC.int OneC.nil) (by kernel_rfl) (Nat.le_of_ble_eq_true rfl) rfl ?_)
  refine G_nil ?_
  refine kC_normal ?_
  refine k_join2_0 h (fun (x0_5_j1 : Int) (x0_6_j1 : Bool) => (AF.put AF0 (some 0) (pA w0 0))) (fun (x0_5_j1 : Int) (x0_6_j1 : Bool) => [boxI 67 w0 [.exact (.int .i64 a0.1), .row 2 c_cspcheckref35_File a0.2.1, .row 2 c_cspcheckref35_Name a0.2.2.1, .row 2 c_cspcheckref35_Name a0.2.2.2.1, .row 4 c_cspcheckref35_Op a0.2.2.2.2.1, .exact (.int .i64 x0_5_j1), .exact (.bool x0_6_j1), .exact (.int .i64 (i64 (a0.2.2.2.2.2.2.2 + 1)))]]) (fun k1 h => ?_) (fun x0_5_j1 x0_6_j1 h => ?_)
  · refine k_seq ?_
    refine k_reg .free hmixP (by kernel_rfl) ?_
    refine G_q rfl (op_move (av := pA w0 0) rfl ?_)
    refine G_q rfl (op_nilCheck rfl ?_)
    refine G_q rfl (op_fieldAddr (o := 5) (by kernel_rfl) rfl ?_)
    refine G_r rfl (op_load_box1 (a := .exact (.int .i64 a0.2.2.2.2.2.1)) (by kernel_rfl) rfl rfl ?_)
    refine G_q rfl (op_gtr rfl rfl ?_)
    refine G_nil ?_
    refine kC_normal ?_
    refine k_cond_d (p := 0 < a0.2.2.2.2.2.1) rfl (fun hc => ?_) (fun hc => ?_)
    · replace h := ite_t h hc
      refine k_seq ?_
      refine k_reg .free hmixP (by kernel_rfl) ?_
      refine G_q rfl (op_move (av := pA w0 0) rfl ?_)
      refine G_q rfl (op_nilCheck rfl ?_)
      refine G_q rfl (op_fieldAddr (o := 5) (by kernel_rfl) rfl ?_)
      refine G_r rfl (op_load_box1 (a := .exact (.int .i64 a0.2.2.2.2.2.1)) (by kernel_rfl) rfl rfl ?_)
      refine G_q rfl (op_sub rfl rfl rfl ?_)
      refine G_q rfl (op_nilCheck rfl ?_)
      refine G_q rfl (op_fieldAddr (o := 5) (by kernel_rfl) rfl ?_)
      refine G_l rfl (op_store_box (c' := [.exact (.int .i64 (i64 (a0.2.2.2.2.2.1 - 1)))]) (c3 := [.exact (.int .i64 a0.1), .row 2 c_cspcheckref35_File a0.2.1, .row 2 c_cspcheckref35_Name a0.2.2.1, .row 2 c_cspcheckref35_Name a0.2.2.2.1, .row 4 c_cspcheckref35_Op a0.2.2.2.2.1, .exact (.int .i64 (i64 (a0.2.2.2.2.2.1 - 1))), .exact (.bool a0.2.2.2.2.2.2.1), .exact (.int .i64 (i64 (a0.2.2.2.2.2.2.2 + 1)))]) rfl rfl CellsOf.int (LEs.cons (AV.le_eq rfl) LEs.nil) (OneC.int OneC.nil) (by kernel_rfl) (Nat.le_of_ble_eq_true rfl) rfl ?_)
      refine G_nil ?_
      refine kC_normal ?_
      refine k_reg .free hmixP (by kernel_rfl) ?_
      refine G_q rfl (op_move (av := pA w0 0) rfl ?_)
      refine G_q rfl (op_move (av := pA w0 0) rfl ?_)
      refine G_q rfl (op_nilCheck rfl ?_)
      refine G_q rfl (op_fieldAddr (o := 5) (by kernel_rfl) rfl ?_)
      refine G_r rfl (op_load_box1 (a := .exact (.int .i64 (i64 (a0.2.2.2.2.2.1 - 1)))) (by kernel_rfl) rfl rfl ?_)
      refine G_q rfl (op_eql rfl rfl ?_)
      refine G_q rfl (op_nilCheck rfl ?_)
      refine G_q rfl (op_fieldAddr (o := 6) (by kernel_rfl) rfl ?_)
      refine G_l rfl (op_store_box (c' := [.exact (.bool (decide ((i64 (a0.2.2.2.2.2.1 - 1)) = 0)))]) (c3 := [.exact (.int .i64 a0.1), .row 2 c_cspcheckref35_File a0.2.1, .row 2 c_cspcheckref35_Name a0.2.2.1, .row 2 c_cspcheckref35_Name a0.2.2.2.1, .row 4 c_cspcheckref35_Op a0.2.2.2.2.1, .exact (.int .i64 (i64 (a0.2.2.2.2.2.1 - 1))), .exact (.bool (decide ((i64 (a0.2.2.2.2.2.1 - 1)) = 0))), .exact (.int .i64 (i64 (a0.2.2.2.2.2.2.2 + 1)))]) rfl rfl CellsOf.bool (LEs.cons (AV.le_eq rfl) LEs.nil) (OneC.bool OneC.nil) (by kernel_rfl) (Nat.le_of_ble_eq_true rfl) rfl ?_)
      refine G_nil ?_
      refine kI_normal ⟨_, _, h, ?_⟩
      exact Sub.of_le (AF.le_put (AV.le_eq rfl) (AF.le_top _))
    · replace h := ite_f h hc
      refine k_skip ?_
      refine kI_normal ⟨_, _, h, ?_⟩
      exact Sub.of_le (AF.le_put (AV.le_eq rfl) (AF.le_top _))
  · refine k_seq ?_
    refine k_reg .free hmixP (by kernel_rfl) ?_
    refine G_q rfl (op_move (av := pA w0 0) rfl ?_)
    refine G_q rfl (op_nilCheck rfl ?_)
    refine G_q rfl (op_fieldAddr (o := 6) (by kernel_rfl) rfl ?_)
    refine G_r rfl (op_load_box1 (a := .exact (.bool x0_6_j1)) (by kernel_rfl) rfl rfl ?_)
    refine G_q rfl (op_assign (av := .exact (.bool x0_6_j1)) rfl ?_)
    refine G_nil ?_
    refine kC_normal ?_
    refine k_ret ?_
    obtain rfl := Option.some.inj h
    refine kP_any (endN (af' := (AF.put AF0 (some 2) (.exact (.bool x0_6_j1)))) (σ' := [boxI 67 w0 [.exact (.int .i64 a0.1), .row 2 c_cspcheckref35_File a0.2.1, .row 2 c_cspcheckref35_Name a0.2.2.1, .row 2 c_cspcheckref35_Name a0.2.2.2.1, .row 4 c_cspcheckref35_Op a0.2.2.2.2.1, .exact (.int .i64 x0_5_j1), .exact (.bool x0_6_j1), .exact (.int .i64 (i64 (a0.2.2.2.2.2.2.2 + 1)))]]) _ rfl ?_ ⟨rfl, rfl⟩)
    exact Sub.of_le (AF.le_put (AV.le_eq rfl) (AF.le_top _))
set_option maxHeartbeats 4000000 in
theorem m_ref35_without_ok (a0 : List ((List UInt8) × Int)) (a1 : List UInt8) (r : (List ((List UInt8) × Int))) (h : m_ref35_without a0 a1 = some r) : Pure Try.prog 100 [(.row 2 c_cspcheckref35_Name a0), (.exact (.string (bs a1)))] (.row 2 c_cspcheckref35_Name r) := by
  unfold m_ref35_without at h
  refine Pure.ofFun (fun_of_awp Try.func100 rfl Try.ntmps100 (by simp) rfl (res1 rfl) fun E hE => k_end ?_)
  refine k_seq ?_
  refine k_reg .free hmixP (by kernel_rfl) ?_
  refine G_q rfl (op_assign (av := .exact (.slice none 0 0)) rfl ?_)
  refine G_nil ?_
  refine kC_normal ?_
  refine k_seq ?_
  refine k_reg .free hmixP (by kernel_rfl) ?_
  refine G_q rfl (op_assign (av := .exact (.slice none 0 0)) rfl ?_)
  refine G_nil ?_
  refine kC_normal ?_
  refine k_join1_1 h (fun (x5_j1 : List ((List UInt8) × Int)) (v5_j1 : Value) => (AF.put AF0 (some 5) (.exact v5_j1))) (fun (x5_j1 : List ((List UInt8) × Int)) (v5_j1 : Value) => [vecT Try.prog 64 2 c_cspcheckref35_Name v5_j1 x5_j1]) (fun k1 h => ?_) (fun x5_j1 v5_j1 h => ?_)
  · refine k_seq ?_
    refine k_reg .free hmixP (by kernel_rfl) ?_
    refine G_q rfl (op_assign (av := .exact (.int .i64 0)) rfl ?_)
    refine G_nil ?_
    refine kC_normal ?_
    refine k_block ?_
    refine k_loop2_1 (m_ref35_without_L2 a0 a1 k1) (m_ref35_without_B2 a0 a1 k1) (fun _ _ => rfl) (fun m _ _ => rfl) h (fun (x5_l2 : List ((List UInt8) × Int)) (x6_l2 : Int) (v5_l2 : Value) => (AF.put (AF.put (AF.put (AF.put AF0 (some 0) (.row 2 c_cspcheckref35_Name a0)) (some 1) (.exact (.string (bs a1)))) (some 5) (.exact v5_l2)) (some 6) (.exact (.int .i64 x6_l2)))) (fun (x5_l2 : List ((List UInt8) × Int)) (x6_l2 : Int) (v5_l2 : Value) => [vecT Try.prog 64 2 c_cspcheckref35_Name v5_l2 x5_l2]) (.slice none 0 0) ?_ (fun rec2 x5_l2 x6_l2 v5_l2 h => ?_)
    · refine Sub.trans (SubU.to (SubU.nilT (P := Try.prog) (t := 64) (n := 2) (enc := c_cspcheckref35_Name))) ?_
      exact Sub.of_le (AF.le_put (AV.le_eq rfl) (AF.le_put (AV.le_eq rfl) (AF.le_put (AV.le_eq rfl) (AF.le_put (AV.le_eq rfl) (AF.le_top _)))))
    · unfold m_ref35_without_B2 at h
      refine k_seq ?_
      refine k_seq ?_
      refine k_reg .free hmixP (by kernel_rfl) ?_
      refine G_q rfl (op_move (av := .exact (.int .i64 x6_l2)) rfl ?_)
      refine G_q rfl (op_move (av := .row 2 c_cspcheckref35_Name a0) rfl ?_)
      refine G_q rfl (op_len_row (by kernel_rfl) rfl ?_)
      refine G_q rfl (op_lss rfl rfl ?_)
      refine G_nil ?_
      refine kC_normal ?_
      refine k_cond_d (p := x6_l2 < (List.length a0 : Int)) rfl (fun hc => ?_) (fun hc => ?_)
      · replace h := ite_t h hc
        refine k_skip ?_
        refine kC_normal ?_
        refine k_join1_1 h (fun (x5_j48 : List ((List UInt8) × Int)) (v5_j48 : Value) => (AF.put (AF.put (AF.put (AF.put AF0 (some 0) (.row 2 c_cspcheckref35_Name a0)) (some 1) (.exact (.string (bs a1)))) (some 5) (.exact v5_j48)) (some 6) (.exact (.int .i64 x6_l2)))) (fun (x5_j48 : List ((List UInt8) × Int)) (v5_j48 : Value) => [vecT Try.prog 64 2 c_cspcheckref35_Name v5_j48 x5_j48]) (fun k48 h => ?_) (fun x5_j48 v5_j48 h => ?_)
        · refine k_block ?_
          refine k_seq ?_
          refine k_reg .free hmixP (by kernel_rfl) ?_
          refine G_q rfl (op_move (av := .row 2 c_cspcheckref35_Name a0) rfl ?_)
          refine G_q rfl (op_move (av := .exact (.int .i64 x6_l2)) rfl ?_)
          obtain ⟨n53, h⟩ := need_some h
          refine G_q rfl (op_index_row (by kernel_rfl) rfl rfl n53.1 n53.2 ?_)
          refine G_q rfl (op_fieldAddr_ptr (o := 0) (c' := (List.drop 0 (c_cspcheckref35_Name (gi a0 x6_l2)))) (by kernel_rfl) rfl rfl ?_)
          refine G_q rfl (op_load1p (a := .exact (.string (bs ((gi a0 x6_l2).1)))) (by kernel_rfl) rfl rfl ?_)
          refine G_q rfl (op_move (av := .exact (.string (bs a1))) rfl ?_)
          refine G_q rfl (op_neqS rfl rfl ?_)
          refine G_nil ?_
          refine kC_normal ?_
          refine k_cond_d (p := ¬ ((gi a0 x6_l2).1) = a1) rfl (fun hc => ?_) (fun hc => ?_)
          · replace h := ite_t h hc
            refine k_reg .free hmixP (by kernel_rfl) ?_
            refine G_q rfl (op_move (av := .exact v5_l2) rfl ?_)
            refine G_q rfl (op_move (av := .row 2 c_cspcheckref35_Name a0) rfl ?_)
            refine G_q rfl (op_move (av := .exact (.int .i64 x6_l2)) rfl ?_)
            obtain ⟨n54, h⟩ := need_some h
            refine G_q rfl (op_index_row (by kernel_rfl) rfl rfl n54.1 n54.2 ?_)
            refine G_q rfl (op_loadNp (m := 2) (c' := c_cspcheckref35_Name (gi a0 x6_l2)) (by kernel_rfl) rfl rfl rfl ?_)
            refine G_q rfl (op_litT (n := 2) (enc := c_cspcheckref35_Name) [gi a0 x6_l2] (CellsAll.cons rfl CellsOf.agg CellsAll.nil) rfl (by kernel_rfl) (LEss.cons (LEs.cons (AV.le_eq rfl) (LEs.cons (AV.le_eq rfl) LEs.nil)) LEss.nil) ?_)
            obtain ⟨n55, h⟩ := need_some h
            refine G_l rfl (op_appT (by kernel_rfl) rfl rfl oc_c_cspcheckref35_Name n55 (fun v56 => ?_))
            refine G_q rfl (op_assign (av := .exact v56) rfl ?_)
            refine G_nil ?_
            refine kB_normal ?_
            refine kI_normal ⟨_, v56, h, ?_⟩
            exact Sub.of_le (AF.le_put (AV.le_eq rfl) (AF.le_put (AV.le_eq rfl) (AF.le_put (AV.le_eq rfl) (AF.le_put (AV.le_eq rfl) (AF.le_top _)))))
          · replace h := ite_f h hc
            refine k_skip ?_
            refine kB_normal ?_
            refine kI_normal ⟨_, v5_l2, h, ?_⟩
            exact Sub.of_le (AF.le_put (AV.le_eq rfl) (AF.le_put (AV.le_eq rfl) (AF.le_put (AV.le_eq rfl) (AF.le_put (AV.le_eq rfl) (AF.le_top _)))))
        · refine k_reg .free hmixP (by kernel_rfl) ?_
          refine G_q rfl (op_move (av := .exact (.int .i64 x6_l2)) rfl ?_)
          refine G_q rfl (op_add rfl rfl rfl ?_)
          refine G_q rfl (op_assign (av := .exact (.int .i64 (i64 (x6_l2 + 1)))) rfl ?_)
          refine G_nil ?_
          refine kI_normal ⟨_, _, v5_j48, h, ?_⟩
          exact Sub.of_le (AF.le_put (AV.le_eq rfl) (AF.le_put (AV.le_eq rfl) (AF.le_put (AV.le_eq rfl) (AF.le_put (AV.le_eq rfl) (AF.le_top _)))))
      · replace h := ite_f h hc
        refine k_exit ?_
        refine kC_exit ?_
        refine kI_exit ?_
        refine kB_exit ?_
        refine kI_normal ⟨_, v5_l2, h, ?_⟩
        exact Sub.of_le (AF.le_put (AV.le_eq rfl) (AF.le_top _))
  · refine k_seq ?_
    refine k_reg .free hmixP (by kernel_rfl) ?_
    refine G_q rfl (op_move (av := .exact v5_j1) rfl ?_)
    refine G_q rfl (op_assign (av := .exact v5_j1) rfl ?_)
    refine G_nil ?_
    refine kC_normal ?_
    refine k_ret ?_
    obtain rfl := Option.some.inj h
    refine kP_any (endN (af' := (AF.put AF0 (some 4) (.row 2 c_cspcheckref35_Name x5_j1))) (σ' := []) _ rfl ?_ ⟨rfl, rfl⟩)
    refine Sub.trans (SubU.to (SubU.freezeT (s := 4) rfl len_c_cspcheckref35_Name)) ?_
    exact Sub.of_le (AF.le_put (AV.le_eq rfl) (AF.le_top _))
set_option maxHeartbeats 4000000 in
theorem m_ref35_with_ok (a0 : List ((List UInt8) × Int)) (a1 : List UInt8) (a2 : Int) (r : (List ((List UInt8) × Int))) (h : m_ref35_with a0 a1 a2 = some r) : Pure Try.prog 99 [(.row 2 c_cspcheckref35_Name a0), (.exact (.string (bs a1))), (.exact (.int .i64 a2))] (.row 2 c_cspcheckref35_Name r) := by
  unfold m_ref35_with at h
  refine Pure.ofFun (fun_of_awp Try.func99 rfl Try.ntmps99 (by simp) rfl (res1 rfl) fun E hE => k_end ?_)
  refine k_seq ?_
  refine k_reg .free hmixP (by kernel_rfl) ?_
  refine G_q rfl (op_assign (av := .exact (.slice none 0 0)) rfl ?_)
  refine G_nil ?_
  refine kC_normal ?_
  refine k_seq ?_
  refine k_reg .free hmixP (by kernel_rfl) ?_
  refine G_q rfl (op_assign (av := .exact (.slice none 0 0)) rfl ?_)
  refine G_nil ?_
  refine kC_normal ?_
  refine k_seq ?_
  refine k_reg .free hmixP (by kernel_rfl) ?_
  refine G_q rfl (op_move (av := .row 2 c_cspcheckref35_Name a0) rfl ?_)
  refine G_q rfl (op_move (av := .exact (.string (bs a1))) rfl ?_)
  obtain ⟨y1, hy1, h⟩ := bnd1_some h
  refine G_q rfl (op_pure (m_ref35_without_ok _ _ _ hy1) Try.func100 (by kernel_rfl) (LEs.cons (AV.le_eq rfl) (LEs.cons (AV.le_eq rfl) LEs.nil)) ?_)
  refine G_q rfl (op_assign (av := .row 2 c_cspcheckref35_Name y1) rfl ?_)
  refine G_nil ?_
  refine kC_normal ?_
  refine k_seq ?_
  refine k_reg .free hmixP (by kernel_rfl) ?_
  refine G_q rfl (op_assign (av := .exact (.int .i64 0)) rfl ?_)
  refine G_nil ?_
  refine kC_normal ?_
  refine k_join1_0 h (fun (x8_j2 : Int) => (AF.put (AF.put (AF.put (AF.put (AF.put AF0 (some 0) (.row 2 c_cspcheckref35_Name y1)) (some 1) (.exact (.string (bs a1)))) (some 2) (.exact (.int .i64 a2))) (some 7) (.exact (.slice none 0 0))) (some 8) (.exact (.int .i64 x8_j2)))) (fun (x8_j2 : Int) => []) (fun k2 h => ?_) (fun x8_j2 h => ?_)
  · refine k_block ?_
    refine k_loop1_0 (m_ref35_with_L2 a1 y1 k2) (m_ref35_with_B2 a1 y1 k2) (fun _ => rfl) (fun m _ => rfl) h (fun (x8_l2 : Int) => (AF.put (AF.put (AF.put (AF.put (AF.put AF0 (some 0) (.row 2 c_cspcheckref35_Name y1)) (some 1) (.exact (.string (bs a1)))) (some 2) (.exact (.int .i64 a2))) (some 7) (.exact (.slice none 0 0))) (some 8) (.exact (.int .i64 x8_l2)))) (fun (x8_l2 : Int) => []) ?_ (fun rec2 x8_l2 h => ?_)
    · exact Sub.of_le (AF.le_put (AV.le_eq rfl) (AF.le_put (AV.le_eq rfl) (AF.le_put (AV.le_eq rfl) (AF.le_put (AV.le_eq rfl) (AF.le_put (AV.le_eq rfl) (AF.le_top _))))))
    · unfold m_ref35_with_B2 at h
      refine k_seq ?_
      refine k_join1_0 h (fun (x24_j43 : Bool) => (AF.put (AF.put (AF.put (AF.put (AF.put (AF.put AF0 (some 0) (.row 2 c_cspcheckref35_Name y1)) (some 1) (.exact (.string (bs a1)))) (some 2) (.exact (.int .i64 a2))) (some 7) (.exact (.slice none 0 0))) (some 8) (.exact (.int .i64 x8_l2))) (some 24) (.exact (.bool x24_j43)))) (fun (x24_j43 : Bool) => []) (fun k43 h => ?_) (fun x24_j43 h => ?_)
      · refine k_reg .free hmixP (by kernel_rfl) ?_
        refine G_q rfl (op_move (av := .exact (.int .i64 x8_l2)) rfl ?_)
        refine G_q rfl (op_move (av := .row 2 c_cspcheckref35_Name y1) rfl ?_)
        refine G_q rfl (op_len_row (by kernel_rfl) rfl ?_)
        refine G_q rfl (op_lss rfl rfl ?_)
        refine G_q rfl (op_move (av := .exact (.bool (decide (x8_l2 < (List.length y1 : Int))))) rfl ?_)
        refine G_split (p := x8_l2 < (List.length y1 : Int)) 16 rfl (fun hc => ?_) (fun hc => ?_)
        · replace h := ite_t h hc
          refine Gy_q rfl rfl rfl (op_move (av := .row 2 c_cspcheckref35_Name y1) rfl ?_)
          refine Gy_q rfl rfl rfl (op_move (av := .exact (.int .i64 x8_l2)) rfl ?_)
          obtain ⟨n45, h⟩ := need_some h
          refine Gy_q rfl rfl rfl (op_index_row (by kernel_rfl) rfl rfl n45.1 n45.2 ?_)
          refine Gy_q rfl rfl rfl (op_fieldAddr_ptr (o := 0) (c' := (List.drop 0 (c_cspcheckref35_Name (gi y1 x8_l2)))) (by kernel_rfl) rfl rfl ?_)
          refine Gy_q rfl rfl rfl (op_load1p (a := .exact (.string (bs ((gi y1 x8_l2).1)))) (by kernel_rfl) rfl rfl ?_)
          refine Gy_q rfl rfl rfl (op_move (av := .exact (.string (bs a1))) rfl ?_)
          refine Gy_q rfl rfl rfl (op_lssS rfl rfl ?_)
          refine G_q rfl (op_pick_t rfl (av := .exact (.bool (decide (ltS ((gi y1 x8_l2).1) a1)))) rfl ?_)
          refine G_nil ?_
          refine kI_normal ⟨_, h, ?_⟩
          exact Sub.of_le (AF.le_put (AV.le_eq rfl) (AF.le_put (AV.le_eq rfl) (AF.le_put (AV.le_eq rfl) (AF.le_put (AV.le_eq rfl) (AF.le_put (AV.le_eq rfl) (AF.le_put (AV.le_eq rfl) (AF.le_top _)))))))
        · replace h := ite_f h hc
          refine G_n rfl rfl ?_
          refine G_n rfl rfl ?_
          refine G_n rfl rfl ?_
          refine G_n rfl rfl ?_
          refine G_n rfl rfl ?_
          refine G_n rfl rfl ?_
          refine G_n rfl rfl ?_
          refine G_q rfl (op_pick_f rfl (av := .exact (.bool false)) rfl ?_)
          refine G_nil ?_
          refine kI_normal ⟨_, h, ?_⟩
          exact Sub.of_le (AF.le_put (AV.le_eq rfl) (AF.le_put (AV.le_eq rfl) (AF.le_put (AV.le_eq rfl) (AF.le_put (AV.le_eq rfl) (AF.le_put (AV.le_eq rfl) (AF.le_put (AV.le_eq rfl) (AF.le_top _)))))))
      · refine k_cond_b (c := x24_j43) rfl (fun hc => ?_) (fun hc => ?_)
        · replace h := ite_t h hc
          refine k_skip ?_
          refine kC_normal ?_
          refine k_block ?_
          refine k_reg .free hmixP (by kernel_rfl) ?_
          refine G_q rfl (op_move (av := .exact (.int .i64 x8_l2)) rfl ?_)
          refine G_q rfl (op_add rfl rfl rfl ?_)
          refine G_q rfl (op_assign (av := .exact (.int .i64 (i64 (x8_l2 + 1)))) rfl ?_)
          refine G_nil ?_
          refine kB_normal ?_
          refine kI_normal ⟨_, h, ?_⟩
          exact Sub.of_le (AF.le_put (AV.le_eq rfl) (AF.le_put (AV.le_eq rfl) (AF.le_put (AV.le_eq rfl) (AF.le_put (AV.le_eq rfl) (AF.le_put (AV.le_eq rfl) (AF.le_top _))))))
        · replace h := ite_f h hc
          refine k_exit ?_
          refine kC_exit ?_
          refine kI_exit ?_
          refine kB_exit ?_
          refine kI_normal ⟨_, h, ?_⟩
          exact Sub.of_le (AF.le_put (AV.le_eq rfl) (AF.le_put (AV.le_eq rfl) (AF.le_put (AV.le_eq rfl) (AF.le_put (AV.le_eq rfl) (AF.le_put (AV.le_eq rfl) (AF.le_top _))))))
  · refine k_seq ?_
    refine k_reg .free hmixP (by kernel_rfl) ?_
    refine G_q rfl (op_move (av := .exact (.slice none 0 0)) rfl ?_)
    refine G_q rfl (op_move (av := .row 2 c_cspcheckref35_Name y1) rfl ?_)
    refine G_q rfl (op_move (av := .exact (.int .i64 x8_j2)) rfl ?_)
    obtain ⟨n46, h⟩ := need_some h
    refine G_q rfl (op_slice_rowt (by kernel_rfl) rfl bnd_none (bnd_some rfl) (Int.le_refl 0) n46.1 n46.2 ?_)
    obtain ⟨n47, h⟩ := need_some h
    refine G_l rfl (op_appN (enc := c_cspcheckref35_Name) (by kernel_rfl) rfl rfl oc_c_cspcheckref35_Name n47 (fun v48 => ?_))
    refine G_q rfl (op_assign (av := .exact v48) rfl ?_)
    refine G_nil ?_
    refine kC_normal ?_
    refine k_seq ?_
    refine k_reg .free hmixP (by kernel_rfl) ?_
    refine G_q rfl (op_move (av := .exact v48) rfl ?_)
    refine G_q rfl (op_move (av := .exact (.string (bs a1))) rfl ?_)
    refine G_q rfl (op_move (av := .exact (.int .i64 a2)) rfl ?_)
    refine G_q rfl (op_bld (c' := c_cspcheckref35_Name (a1, a2)) (CellsAll.cons rfl CellsOf.str (CellsAll.cons rfl CellsOf.int CellsAll.nil)) rfl (LEs.cons (AV.le_eq rfl) (LEs.cons (AV.le_eq rfl) LEs.nil)) ?_)
    refine G_q rfl (op_litT (n := 2) (enc := c_cspcheckref35_Name) [(a1, a2)] (CellsAll.cons rfl CellsOf.agg CellsAll.nil) rfl (by kernel_rfl) (LEss.cons (LEs.cons (AV.le_eq rfl) (LEs.cons (AV.le_eq rfl) LEs.nil)) LEss.nil) ?_)
    obtain ⟨n49, h⟩ := need_some h
    refine G_l rfl (op_appT (by kernel_rfl) rfl rfl oc_c_cspcheckref35_Name n49 (fun v50 => ?_))
    refine G_q rfl (op_assign (av := .exact v50) rfl ?_)
    refine G_nil ?_
    refine kC_normal ?_
    refine k_seq ?_
    refine k_reg .free hmixP (by kernel_rfl) ?_
    refine G_q rfl (op_move (av := .exact v50) rfl ?_)
    refine G_q rfl (op_move (av := .row 2 c_cspcheckref35_Name y1) rfl ?_)
    refine G_q rfl (op_move (av := .exact (.int .i64 x8_j2)) rfl ?_)
    obtain ⟨n51, h⟩ := need_some h
    refine G_q rfl (op_slice_rowd (by kernel_rfl) rfl (bnd_some rfl) bnd_none n51.1 n51.2 (Int.le_refl _) ?_)
    obtain ⟨n52, h⟩ := need_some h
    refine G_l rfl (op_appT (by kernel_rfl) rfl rfl oc_c_cspcheckref35_Name n52 (fun v53 => ?_))
    refine G_q rfl (op_assign (av := .exact v53) rfl ?_)
    refine G_nil ?_
    refine kC_normal ?_
    refine k_ret ?_
    obtain rfl := Option.some.inj h
    refine kP_any (endN (af' := (AF.put AF0 (some 6) (.row 2 c_cspcheckref35_Name ((List.take (Int.toNat x8_j2) y1 ++ [(a1, a2)]) ++ (List.drop (Int.toNat x8_j2) y1))))) (σ' := []) _ rfl ?_ ⟨rfl, rfl⟩)
    refine Sub.trans (SubU.to (SubU.freezeT (s := 6) rfl len_c_cspcheckref35_Name)) ?_
    exact Sub.of_le (AF.le_put (AV.le_eq rfl) (AF.le_top _))
set_option maxHeartbeats 4000000 in
theorem m_ref35_done_ok (a0 : List ((List UInt8) × Int)) (a1 : Int × (List UInt8) × (List UInt8) × Int) (r : (List ((List UInt8) × Int))) (h : m_ref35_done a0 a1 = some r) : Pure Try.prog 75 [(.row 2 c_cspcheckref35_Name a0), (.agg (c_cspcheckref35_Op a1))] (.row 2 c_cspcheckref35_Name r) := by
  unfold m_ref35_done at h
  refine Pure.ofFun (fun_of_awp Try.func75 rfl Try.ntmps75 (by simp) rfl (res1 rfl) fun E hE => k_end ?_)
  refine k_seq ?_
  refine k_reg .free hmixP (by kernel_rfl) ?_
  refine G_q rfl (op_box (c := c_cspcheckref35_Op a1) rfl CellsOf.agg ?_)
  refine G_q rfl (op_assign (av := .exact (.slice none 0 0)) rfl ?_)
  refine G_nil ?_
  refine kC_normal ?_
  refine k_seq ?_
  refine k_seq ?_
  refine k_reg .free hmixP (by kernel_rfl) ?_
  refine G_q rfl (op_fieldAddr_ptr (o := 0) (c' := (List.drop 0 (c_cspcheckref35_Op a1))) (by kernel_rfl) rfl rfl ?_)
  refine G_q rfl (op_load1p (a := .exact (.int .i64 a1.1)) (by kernel_rfl) rfl rfl ?_)
  refine G_nil ?_
  refine kC_normal ?_
  refine k_block ?_
  refine k_seq ?_
  refine k_reg .free hmixP (by kernel_rfl) ?_
  refine G_q rfl (op_eql rfl rfl ?_)
  refine G_q rfl (op_assign (av := .exact (.bool (decide (a1.1 = 1)))) rfl ?_)
  refine G_nil ?_
  refine kC_normal ?_
  refine k_cond_d (p := a1.1 = 1) rfl (fun hc => ?_) (fun hc => ?_)
  · replace h := ite_t h hc
    refine k_seq ?_
    refine k_reg .free hmixP (by kernel_rfl) ?_
    refine G_q rfl (op_move (av := .row 2 c_cspcheckref35_Name a0) rfl ?_)
    refine G_q rfl (op_fieldAddr_ptr (o := 1) (c' := (List.drop 1 (c_cspcheckref35_Op a1))) (by kernel_rfl) rfl rfl ?_)
    refine G_q rfl (op_load1p (a := .exact (.string (bs a1.2.1))) (by kernel_rfl) rfl rfl ?_)
    refine G_q rfl (op_fieldAddr_ptr (o := 3) (c' := (List.drop 3 (c_cspcheckref35_Op a1))) (by kernel_rfl) rfl rfl ?_)
    refine G_q rfl (op_load1p (a := .exact (.int .i64 a1.2.2.2)) (by kernel_rfl) rfl rfl ?_)
    obtain ⟨y1, hy1, h⟩ := bnd1_some h
    refine G_q rfl (op_pure (m_ref35_with_ok _ _ _ _ hy1) Try.func99 (by kernel_rfl) (LEs.cons (AV.le_eq rfl) (LEs.cons (AV.le_eq rfl) (LEs.cons (AV.le_eq rfl) LEs.nil))) ?_)
    refine G_q rfl (op_assign (av := .row 2 c_cspcheckref35_Name y1) rfl ?_)
    refine G_nil ?_
    refine kC_normal ?_
    refine k_ret ?_
    refine kB_ret ?_
    refine kC_ret ?_
    obtain rfl := Option.some.inj h
    refine kP_any (endN (af' := (AF.put AF0 (some 4) (.row 2 c_cspcheckref35_Name y1))) (σ' := []) _ rfl ?_ ⟨rfl, rfl⟩)
    exact Sub.of_le (AF.le_put (AV.le_eq rfl) (AF.le_top _))
  · replace h := ite_f h hc
    refine k_seq ?_
    refine k_reg .free hmixP (by kernel_rfl) ?_
    refine G_q rfl (op_eql rfl rfl ?_)
    refine G_q rfl (op_assign (av := .exact (.bool (decide (a1.1 = 2)))) rfl ?_)
    refine G_nil ?_
    refine kC_normal ?_
    refine k_cond_d (p := a1.1 = 2) rfl (fun hc => ?_) (fun hc => ?_)
    · replace h := ite_t h hc
      refine k_seq ?_
      refine k_plan [] [(0, 0), (0, 1), (0, 2), (0, 3), (0, 4), (0, 5), (0, 6), (0, 7), (0, 8), (0, 9)] hmixP (by kernel_rfl) ?_
      refine P_q no34_0 rfl (op_move (av := .row 2 c_cspcheckref35_Name a0) rfl ?_)
      refine P_q no34_0 rfl (op_fieldAddr_ptr (o := 1) (c' := (List.drop 1 (c_cspcheckref35_Op a1))) (by kernel_rfl) rfl rfl ?_)
      refine P_q no34_0 rfl (op_load1p (a := .exact (.string (bs a1.2.1))) (by kernel_rfl) rfl rfl ?_)
      obtain ⟨y2, hy2, h⟩ := bnd1_some h
      refine P_q no34_0 rfl (op_pure (m_ref35_without_ok _ _ _ hy2) Try.func100 (by kernel_rfl) (LEs.cons (AV.le_eq rfl) (LEs.cons (AV.le_eq rfl) LEs.nil)) ?_)
      refine P_q no34_0 rfl (op_fieldAddr_ptr (o := 2) (c' := (List.drop 2 (c_cspcheckref35_Op a1))) (by kernel_rfl) rfl rfl ?_)
      refine P_q no34_0 rfl (op_load1p (a := .exact (.string (bs a1.2.2.1))) (by kernel_rfl) rfl rfl ?_)
      refine P_q no34_0 rfl (op_fieldAddr_ptr (o := 3) (c' := (List.drop 3 (c_cspcheckref35_Op a1))) (by kernel_rfl) rfl rfl ?_)
      refine P_q no34_0 rfl (op_load1p (a := .exact (.int .i64 a1.2.2.2)) (by kernel_rfl) rfl rfl ?_)
      obtain ⟨y3, hy3, h⟩ := bnd1_some h
      refine P_q no34_0 rfl (op_pure (m_ref35_with_ok _ _ _ _ hy3) Try.func99 (by kernel_rfl) (LEs.cons (AV.le_eq rfl) (LEs.cons (AV.le_eq rfl) (LEs.cons (AV.le_eq rfl) LEs.nil))) ?_)
      refine P_q no34_0 rfl (op_assign (av := .row 2 c_cspcheckref35_Name y3) rfl ?_)
      refine P_nil ?_
      refine kC_normal ?_
      refine k_ret ?_
      refine kB_ret ?_
      refine kC_ret ?_
      obtain rfl := Option.some.inj h
      refine kP_any (endN (af' := (AF.put AF0 (some 4) (.row 2 c_cspcheckref35_Name y3))) (σ' := []) _ rfl ?_ ⟨rfl, rfl⟩)
      exact Sub.of_le (AF.le_put (AV.le_eq rfl) (AF.le_top _))
    · replace h := ite_f h hc
      refine k_skip ?_
      refine kB_normal ?_
      refine kC_normal ?_
      refine k_seq ?_
      refine k_reg .free hmixP (by kernel_rfl) ?_
      refine G_q rfl (op_move (av := .row 2 c_cspcheckref35_Name a0) rfl ?_)
      refine G_q rfl (op_fieldAddr_ptr (o := 1) (c' := (List.drop 1 (c_cspcheckref35_Op a1))) (by kernel_rfl) rfl rfl ?_)
      refine G_q rfl (op_load1p (a := .exact (.string (bs a1.2.1))) (by kernel_rfl) rfl rfl ?_)
      obtain ⟨y4, hy4, h⟩ := bnd1_some h
      refine G_q rfl (op_pure (m_ref35_without_ok _ _ _ hy4) Try.func100 (by kernel_rfl) (LEs.cons (AV.le_eq rfl) (LEs.cons (AV.le_eq rfl) LEs.nil)) ?_)
      refine G_q rfl (op_assign (av := .row 2 c_cspcheckref35_Name y4) rfl ?_)
      refine G_nil ?_
      refine kC_normal ?_
      refine k_ret ?_
      obtain rfl := Option.some.inj h
      refine kP_any (endN (af' := (AF.put AF0 (some 4) (.row 2 c_cspcheckref35_Name y4))) (σ' := []) _ rfl ?_ ⟨rfl, rfl⟩)
      exact Sub.of_le (AF.le_put (AV.le_eq rfl) (AF.le_top _))
set_option maxHeartbeats 4000000 in
theorem m_ref35_Disk_perform_ok {w0 : Nat} (a0 : Int × (List ((List UInt8) × Int)) × (List ((List UInt8) × Int)) × (List ((List UInt8) × Int)) × (List (Int × (List UInt8) × (List UInt8) × Int)) × Int × Bool × Int) (a1 : Int × (List UInt8) × (List UInt8) × Int) (r : (Int × (List ((List UInt8) × Int)) × (List ((List UInt8) × Int)) × (List ((List UInt8) × Int)) × (List (Int × (List UInt8) × (List UInt8) × Int)) × Int × Bool × Int)) (h : m_ref35_Disk_perform a0 a1 = some r) : Fun Try.prog 95 [(pA w0 0), (.agg (c_cspcheckref35_Op a1))] [boxI 67 w0 [.exact (.int .i64 a0.1), .row 2 c_cspcheckref35_File a0.2.1, .row 2 c_cspcheckref35_Name a0.2.2.1, .row 2 c_cspcheckref35_Name a0.2.2.2.1, .row 4 c_cspcheckref35_Op a0.2.2.2.2.1, .exact (.int .i64 a0.2.2.2.2.2.1), .exact (.bool a0.2.2.2.2.2.2.1), .exact (.int .i64 a0.2.2.2.2.2.2.2)]] (fun a s => a = .tup [] ∧ s = [boxI 67 w0 [.exact (.int .i64 r.1), .row 2 c_cspcheckref35_File r.2.1, .row 2 c_cspcheckref35_Name r.2.2.1, .row 2 c_cspcheckref35_Name r.2.2.2.1, .row 4 c_cspcheckref35_Op r.2.2.2.2.1, .exact (.int .i64 r.2.2.2.2.2.1), .exact (.bool r.2.2.2.2.2.2.1), .exact (.int .i64 r.2.2.2.2.2.2.2)]]) := by
  unfold m_ref35_Disk_perform at h
  refine fun_of_awp Try.func95 rfl Try.ntmps95 (by simp) rfl (res0 rfl) fun E hE => k_end ?_
  refine k_seq ?_
  refine k_reg .free hmixP (by kernel_rfl) ?_
  refine G_q rfl (op_box (c := c_cspcheckref35_Op a1) rfl CellsOf.agg ?_)
  refine G_nil ?_
  refine kC_normal ?_
  refine k_seq ?_
  refine k_plan [] [(0, 0), (0, 1), (0, 2), (0, 3), (0, 5), (1, 4), (0, 6), (0, 7), (0, 8), (2, 9)] hmixP (by kernel_rfl) ?_
  refine P_q no34_0 rfl (op_move (av := pA w0 0) rfl ?_)
  refine P_q no34_0 rfl (op_move (av := pA w0 0) rfl ?_)
  refine P_q no34_0 rfl (op_nilCheck rfl ?_)
  refine P_q no34_0 rfl (op_fieldAddr (o := 2) (by kernel_rfl) rfl ?_)
  refine P_q no34_0 rfl (op_loadNp (m := 4) (c' := c_cspcheckref35_Op a1) (by kernel_rfl) rfl rfl rfl ?_)
  refine P_r rfl (op_load_box1 (a := .row 2 c_cspcheckref35_Name a0.2.2.1) (by kernel_rfl) rfl rfl ?_)
  obtain ⟨y1, hy1, h⟩ := bnd1_some h
  refine P_q no34_0 rfl (op_pure (m_ref35_done_ok _ _ _ hy1) Try.func75 (by kernel_rfl) (LEs.cons (AV.le_eq rfl) (LEs.cons (AV.le_eq rfl) LEs.nil)) ?_)
  refine P_q no34_0 rfl (op_nilCheck rfl ?_)
  refine P_q no34_0 rfl (op_fieldAddr (o := 2) (by kernel_rfl) rfl ?_)
  refine P_l rfl (op_store_box (c' := [.row 2 c_cspcheckref35_Name y1]) (c3 := [.exact (.int .i64 a0.1), .row 2 c_cspcheckref35_File a0.2.1, .row 2 c_cspcheckref35_Name y1, .row 2 c_cspcheckref35_Name a0.2.2.2.1, .row 4 c_cspcheckref35_Op a0.2.2.2.2.1, .exact (.int .i64 a0.2.2.2.2.2.1), .exact (.bool a0.2.2.2.2.2.2.1), .exact (.int .i64 a0.2.2.2.2.2.2.2)]) rfl rfl CellsOf.row (LEs.cons (AV.le_eq rfl) LEs.nil) (OneC.row OneC.nil) (by kernel_rfl) (Nat.le_of_ble_eq_true rfl) rfl ?_)
  refine P_nil ?_
  refine kC_normal ?_
  refine k_plan [boxI 67 w0 [.exact (.int .i64 a0.1), .row 2 c_cspcheckref35_File a0.2.1, .row 2 c_cspcheckref35_Name y1, .row 2 c_cspcheckref35_Name a0.2.2.2.1, .row 4 c_cspcheckref35_Op a0.2.2.2.2.1, .exact (.int .i64 a0.2.2.2.2.2.1), .exact (.bool a0.2.2.2.2.2.2.1), .exact (.int .i64 a0.2.2.2.2.2.2.2)]] [(0, 0), (0, 2), (0, 3), (0, 4), (0, 7), (0, 8), (4, 5), (3, 1), (2, 6), (2, 9), (0, 10), (0, 11), (2, 12)] hmixP (by kernel_rfl) ?_
  refine P_q no34_0 rfl (op_move (av := pA w0 0) rfl ?_)
  refine P_q no34_0 rfl (op_move (av := pA w0 0) rfl ?_)
  refine P_q no34_0 rfl (op_nilCheck rfl ?_)
  refine P_q no34_0 rfl (op_fieldAddr (o := 4) (by kernel_rfl) rfl ?_)
  refine P_q no34_0 rfl (op_loadNp (m := 4) (c' := c_cspcheckref35_Op a1) (by kernel_rfl) rfl rfl rfl ?_)
  refine P_q no34_0 rfl (op_litT (n := 4) (enc := c_cspcheckref35_Op) [a1] (CellsAll.cons rfl CellsOf.agg CellsAll.nil) rfl (by kernel_rfl) (LEss.cons (LEs.cons (AV.le_eq rfl) (LEs.cons (AV.le_eq rfl) (LEs.cons (AV.le_eq rfl) (LEs.cons (AV.le_eq rfl) LEs.nil)))) LEss.nil) ?_)
  refine P_r4 (Has.cons (List.Mem.head _) Has.mk0) rfl (opI_mk (List.Mem.head _) (fun _ => op_load_box1 (a := .row 4 c_cspcheckref35_Op a0.2.2.2.2.1) (by kernel_rfl) rfl rfl rfl) ?_)
  refine P_l3 rfl (op_lit0I (enc := c_cspcheckref35_Op) (n := 4) (by kernel_rfl) (fun v2 => ⟨(Has.cons (List.Mem.tail _ (List.Mem.head _)) Has.mk0), ?_⟩))
  obtain ⟨n3, h⟩ := need_some h
  refine P_l rfl (op_appT (by kernel_rfl) rfl rfl oc_c_cspcheckref35_Op n3 (fun v4 => ?_))
  obtain ⟨n5, h⟩ := need_some h
  refine P_l rfl (opB_frz (t := 65) (n := 4) (enc := c_cspcheckref35_Op) rfl len_c_cspcheckref35_Op (op_appT (by kernel_rfl) rfl rfl oc_c_cspcheckref35_Op n5 (fun v6 => ⟨v6, _, _, rfl, rfl, ?_⟩)))
  refine P_q no34_0 rfl (op_nilCheck rfl ?_)
  refine P_q no34_0 rfl (op_fieldAddr (o := 4) (by kernel_rfl) rfl ?_)
  refine P_l rfl (op_store_box (c' := [.row 4 c_cspcheckref35_Op ((([] : List (Int × (List UInt8) × (List UInt8) × Int)) ++ a0.2.2.2.2.1) ++ [a1])]) (c3 := [.exact (.int .i64 a0.1), .row 2 c_cspcheckref35_File a0.2.1, .row 2 c_cspcheckref35_Name y1, .row 2 c_cspcheckref35_Name a0.2.2.2.1, .row 4 c_cspcheckref35_Op ((([] : List (Int × (List UInt8) × (List UInt8) × Int)) ++ a0.2.2.2.2.1) ++ [a1]), .exact (.int .i64 a0.2.2.2.2.2.1), .exact (.bool a0.2.2.2.2.2.2.1), .exact (.int .i64 a0.2.2.2.2.2.2.2)]) rfl rfl CellsOf.row (LEs.cons (AV.le_eq rfl) LEs.nil) (OneC.row OneC.nil) (by kernel_rfl) (Nat.le_of_ble_eq_true rfl) rfl ?_)
  refine P_nil ?_
  obtain rfl := Option.some.inj h
  refine kP_any (endNn (af' := AF0) (σ' := [boxI 67 w0 ([.exact (.int .i64 a0.1), .row 2 c_cspcheckref35_File a0.2.1, .row 2 c_cspcheckref35_Name y1, .row 2 c_cspcheckref35_Name a0.2.2.2.1, .row 4 c_cspcheckref35_Op ((([] : List (Int × (List UInt8) × (List UInt8) × Int)) ++ a0.2.2.2.2.1) ++ [a1]), .exact (.int .i64 a0.2.2.2.2.2.1), .exact (.bool a0.2.2.2.2.2.2.1), .exact (.int .i64 a0.2.2.2.2.2.2.2)])]) _ rfl ?_ ⟨rfl, rfl⟩)
  exact Sub.of_le (AF.le_top _)
set_option maxHeartbeats 4000000 in
theorem m_ref35_Disk_Append_ok {w0 : Nat} (a0 : Int × (List ((List UInt8) × Int)) × (List ((List UInt8) × Int)) × (List ((List UInt8) × Int)) × (List (Int × (List UInt8) × (List UInt8) × Int)) × Int × Bool × Int) (a1 : List UInt8) (a2 : List UInt8) (r : Int × (Int × (List ((List UInt8) × Int)) × (List ((List UInt8) × Int)) × (List ((List UInt8) × Int)) × (List (Int × (List UInt8) × (List UInt8) × Int)) × Int × Bool × Int)) (h : m_ref35_Disk_Append a0 a1 a2 = some r) : Fun Try.prog 66 [(pA w0 0), (.exact (.string (bs a1))), (.row 1 c_uint8 a2)] [boxI 67 w0 [.exact (.int .i64 a0.1), .row 2 c_cspcheckref35_File a0.2.1, .row 2 c_cspcheckref35_Name a0.2.2.1, .row 2 c_cspcheckref35_Name a0.2.2.2.1, .row 4 c_cspcheckref35_Op a0.2.2.2.2.1, .exact (.int .i64 a0.2.2.2.2.2.1), .exact (.bool a0.2.2.2.2.2.2.1), .exact (.int .i64 a0.2.2.2.2.2.2.2)]] (fun a s => a = .exact (.int .i64 r.1) ∧ s = [boxI 67 w0 [.exact (.int .i64 r.2.1), .row 2 c_cspcheckref35_File r.2.2.1, .row 2 c_cspcheckref35_Name r.2.2.2.1, .row 2 c_cspcheckref35_Name r.2.2.2.2.1, .row 4 c_cspcheckref35_Op r.2.2.2.2.2.1, .exact (.int .i64 r.2.2.2.2.2.2.1), .exact (.bool r.2.2.2.2.2.2.2.1), .exact (.int .i64 r.2.2.2.2.2.2.2.2)]]) := by
  unfold m_ref35_Disk_Append at h
  refine fun_of_awp Try.func66 rfl Try.ntmps66 (by simp) rfl (res1 rfl) fun E hE => k_end ?_
  refine k_seq ?_
  refine k_reg .free hmixP (by kernel_rfl) ?_
  refine G_q rfl (op_assign (av := .exact (.int .i64 0)) rfl ?_)
  refine G_nil ?_
  refine kC_normal ?_
  refine k_seq ?_
  refine k_reg .free hmixP (by kernel_rfl) ?_
  refine G_q rfl (op_move (av := pA w0 0) rfl ?_)
  refine G_q rfl (op_nilCheck rfl ?_)
  refine G_q rfl (op_fieldAddr (o := 2) (by kernel_rfl) rfl ?_)
  refine G_r rfl (op_load_box1 (a := .row 2 c_cspcheckref35_Name a0.2.2.1) (by kernel_rfl) rfl rfl ?_)
  refine G_q rfl (op_move (av := .exact (.string (bs a1))) rfl ?_)
  obtain ⟨y1, hy1, h⟩ := bnd1_some h
  refine G_q rfl (op_pure (m_ref35_find_ok _ _ _ hy1) Try.func91 (by kernel_rfl) (LEs.cons (AV.le_eq rfl) (LEs.cons (AV.le_eq rfl) LEs.nil)) ?_)
  refine G_q rfl (op_assign (av := .exact (.int .i64 y1)) rfl ?_)
  refine G_nil ?_
  refine kC_normal ?_
  refine k_seq ?_
  refine k_block ?_
  refine k_seq ?_
  refine k_reg .free hmixP (by kernel_rfl) ?_
  refine G_q rfl (op_move (av := pA w0 0) rfl ?_)
  refine G_q rfl (op_nilCheck rfl ?_)
  refine G_q rfl (op_fieldAddr (o := 6) (by kernel_rfl) rfl ?_)
  refine G_r rfl (op_load_box1 (a := .exact (.bool a0.2.2.2.2.2.2.1)) (by kernel_rfl) rfl rfl ?_)
  refine G_q rfl (op_assign (av := .exact (.bool a0.2.2.2.2.2.2.1)) rfl ?_)
  refine G_nil ?_
  refine kC_normal ?_
  refine k_cond_b (c := a0.2.2.2.2.2.2.1) rfl (fun hc => ?_) (fun hc => ?_)
  · replace h := ite_t h hc
    refine k_seq ?_
    refine k_reg .free hmixP (by kernel_rfl) ?_
    refine G_q rfl (op_assign (av := .exact (.int .i64 25)) rfl ?_)
    refine G_nil ?_
    refine kC_normal ?_
    refine k_ret ?_
    refine kB_ret ?_
    refine kC_ret ?_
    obtain rfl := Option.some.inj h
    refine kP_any (endN (af' := (AF.put AF0 (some 6) (.exact (.int .i64 25)))) (σ' := [boxI 67 w0 [.exact (.int .i64 a0.1), .row 2 c_cspcheckref35_File a0.2.1, .row 2 c_cspcheckref35_Name a0.2.2.1, .row 2 c_cspcheckref35_Name a0.2.2.2.1, .row 4 c_cspcheckref35_Op a0.2.2.2.2.1, .exact (.int .i64 a0.2.2.2.2.2.1), .exact (.bool a0.2.2.2.2.2.2.1), .exact (.int .i64 a0.2.2.2.2.2.2.2)]]) _ rfl ?_ ⟨rfl, rfl⟩)
    exact Sub.of_le (AF.le_put (AV.le_eq rfl) (AF.le_top _))
  · replace h := ite_f h hc
    refine k_seq ?_
    refine k_reg .free hmixP (by kernel_rfl) ?_
    refine G_q rfl (op_move (av := .exact (.string (bs a1))) rfl ?_)
    obtain ⟨y9, hy9, h⟩ := bnd1_some h
    refine G_q rfl (op_pure (m_ref35_good_ok _ _ hy9) Try.func92 (by kernel_rfl) (LEs.cons (AV.le_eq rfl) LEs.nil) ?_)
    refine G_q rfl (op_not rfl ?_)
    refine G_q rfl (op_assign (av := .exact (.bool (!y9))) rfl ?_)
    refine G_nil ?_
    refine kC_normal ?_
    refine k_cond_b (c := !y9) rfl (fun hc => ?_) (fun hc => ?_)
    · replace h := ite_t h hc
      refine k_seq ?_
      refine k_reg .free hmixP (by kernel_rfl) ?_
      refine G_q rfl (op_assign (av := .exact (.int .i64 1)) rfl ?_)
      refine G_nil ?_
      refine kC_normal ?_
      refine k_ret ?_
      refine kB_ret ?_
      refine kC_ret ?_
      obtain rfl := Option.some.inj h
      refine kP_any (endN (af' := (AF.put AF0 (some 6) (.exact (.int .i64 1)))) (σ' := [boxI 67 w0 [.exact (.int .i64 a0.1), .row 2 c_cspcheckref35_File a0.2.1, .row 2 c_cspcheckref35_Name a0.2.2.1, .row 2 c_cspcheckref35_Name a0.2.2.2.1, .row 4 c_cspcheckref35_Op a0.2.2.2.2.1, .exact (.int .i64 a0.2.2.2.2.2.1), .exact (.bool a0.2.2.2.2.2.2.1), .exact (.int .i64 a0.2.2.2.2.2.2.2)]]) _ rfl ?_ ⟨rfl, rfl⟩)
      exact Sub.of_le (AF.le_put (AV.le_eq rfl) (AF.le_top _))
    · replace h := ite_f h hc
      refine k_join1_0 h (fun (x25_j10 : Bool) => (AF.put (AF.put (AF.put (AF.put (AF.put AF0 (some 0) (pA w0 0)) (some 1) (.exact (.string (bs a1)))) (some 2) (.row 1 c_uint8 a2)) (some 7) (.exact (.int .i64 y1))) (some 25) (.exact (.bool x25_j10)))) (fun (x25_j10 : Bool) => [boxI 67 w0 [.exact (.int .i64 a0.1), .row 2 c_cspcheckref35_File a0.2.1, .row 2 c_cspcheckref35_Name a0.2.2.1, .row 2 c_cspcheckref35_Name a0.2.2.2.1, .row 4 c_cspcheckref35_Op a0.2.2.2.2.1, .exact (.int .i64 a0.2.2.2.2.2.1), .exact (.bool a0.2.2.2.2.2.2.1), .exact (.int .i64 a0.2.2.2.2.2.2.2)]]) (fun k10 h => ?_) (fun x25_j10 h => ?_)
      · refine k_plan [boxI 67 w0 [.exact (.int .i64 a0.1), .row 2 c_cspcheckref35_File a0.2.1, .row 2 c_cspcheckref35_Name a0.2.2.1, .row 2 c_cspcheckref35_Name a0.2.2.2.1, .row 4 c_cspcheckref35_Op a0.2.2.2.2.1, .exact (.int .i64 a0.2.2.2.2.2.1), .exact (.bool a0.2.2.2.2.2.2.1), .exact (.int .i64 a0.2.2.2.2.2.2.2)]] [(0, 0), (0, 1), (0, 2), (0, 3), (0, 4), (0, 5), (1, 6), (0, 7), (0, 8), (0, 9), (0, 10), (0, 11), (0, 13), (0, 14), (0, 16), (0, 17), (0, 18), (4, 19), (3, 12), (0, 15), (0, 20), (0, 21), (0, 22)] hmixP (by kernel_rfl) ?_
        refine P_q no34_0 rfl (op_move (av := .exact (.int .i64 y1)) rfl ?_)
        refine P_q no34_0 rfl (op_lss rfl rfl ?_)
        refine P_q no34_0 rfl (op_move (av := .exact (.bool (decide (y1 < 0)))) rfl ?_)
        refine P_split (p := y1 < 0) 28 rfl (fun hc => ?_) (fun hc => ?_)
        · replace h := ite_t h hc
          refine Py_q no34_0 rfl rfl rfl (op_move (av := pA w0 0) rfl ?_)
          refine Py_q no34_0 rfl rfl rfl (op_nilCheck rfl ?_)
          refine Py_q no34_0 rfl rfl rfl (op_fieldAddr (o := 2) (by kernel_rfl) rfl ?_)
          refine Py_r rfl rfl rfl (op_load_box1 (a := .row 2 c_cspcheckref35_Name a0.2.2.1) (by kernel_rfl) rfl rfl ?_)
          refine Py_q no34_0 rfl rfl rfl (op_len_row (by kernel_rfl) rfl ?_)
          refine Py_q no34_0 rfl rfl rfl (op_geq rfl rfl ?_)
          refine P_q no34_0 rfl (op_pick_t rfl (av := .exact (.bool (decide (64 ≤ (List.length a0.2.2.1 : Int))))) rfl ?_)
          refine P_q no34_0 rfl (op_move (av := .exact (.bool (decide (64 ≤ (List.length a0.2.2.1 : Int))))) rfl ?_)
          refine P_split (p := 64 ≤ (List.length a0.2.2.1 : Int)) 36 rfl (fun hc => ?_) (fun hc => ?_)
          · replace h := ite_t h hc
            refine P_n no34_0 rfl rfl rfl ?_
            refine P_n no34_0 rfl rfl rfl ?_
            refine P_n no34_0 rfl rfl rfl ?_
            refine P_n no34_0 rfl rfl rfl ?_
            refine P_n no34_0 rfl rfl rfl ?_
            refine P_n no34_0 rfl rfl rfl ?_
            refine P_n (fun _ => (Has.cons (List.Mem.head _) Has.mk0)) rfl rfl rfl ?_
            refine P_n (fun _ => (Has.cons (List.Mem.head _) Has.mk0)) rfl rfl rfl ?_
            refine P_n no34_0 rfl rfl rfl ?_
            refine P_n no34_0 rfl rfl rfl ?_
            refine P_q no34_0 rfl (op_pick_t rfl (av := .exact (.bool true)) rfl ?_)
            refine P_q no34_0 rfl (op_assign (av := .exact (.bool true)) rfl ?_)
            refine P_nil ?_
            refine kI_normal ⟨_, h, ?_⟩
            exact Sub.of_le (AF.le_put (AV.le_eq rfl) (AF.le_put (AV.le_eq rfl) (AF.le_put (AV.le_eq rfl) (AF.le_put (AV.le_eq rfl) (AF.le_put (AV.le_eq rfl) (AF.le_top _))))))
          · replace h := ite_f h hc
            refine Py_q no34_0 rfl rfl rfl (op_move (av := pA w0 0) rfl ?_)
            refine Py_q no34_0 rfl rfl rfl (op_move (av := .row 1 c_uint8 a2) rfl ?_)
            refine Py_q no34_0 rfl rfl rfl (op_len_row (by kernel_rfl) rfl ?_)
            refine Py_q no34_0 rfl rfl rfl (op_move (av := pA w0 0) rfl ?_)
            refine Py_q no34_0 rfl rfl rfl (op_nilCheck rfl ?_)
            refine Py_q no34_0 rfl rfl rfl (op_fieldAddr (o := 0) (by kernel_rfl) rfl ?_)
            refine Py_r4 (Has.cons (List.Mem.head _) Has.mk0) rfl rfl rfl (opI_mk (List.Mem.head _) (fun _ => op_load_box1 (a := .exact (.int .i64 a0.1)) (by kernel_rfl) rfl rfl rfl) ?_)
            obtain ⟨y13, hy13, h⟩ := bnd1_some h
            refine Py_l3 rfl rfl rfl (op_fun_1_0_1 (m_ref35_Disk_Used_ok _ _ hy13) Try.func93 (by kernel_rfl) (LEs.cons (AV.le_eq rfl) LEs.nil) ⟨(Has.cons (List.Mem.head _) Has.mk0), ?_⟩)
            refine Py_q no34_0 rfl rfl rfl (op_add rfl rfl rfl ?_)
            refine Py_q no34_0 rfl rfl rfl (op_gtr rfl rfl ?_)
            refine P_q no34_0 rfl (op_pick_f rfl (av := .exact (.bool (decide (a0.1 < (i64 (y13 + (List.length a2 : Int))))))) rfl ?_)
            refine P_q no34_0 rfl (op_assign (av := .exact (.bool (decide (a0.1 < (i64 (y13 + (List.length a2 : Int))))))) rfl ?_)
            refine P_nil ?_
            refine kI_normal ⟨_, h, ?_⟩
            exact Sub.of_le (AF.le_put (AV.le_eq rfl) (AF.le_put (AV.le_eq rfl) (AF.le_put (AV.le_eq rfl) (AF.le_put (AV.le_eq rfl) (AF.le_put (AV.le_eq rfl) (AF.le_top _))))))
        · replace h := ite_f h hc
          refine P_n no34_0 rfl rfl rfl ?_
          refine P_n no34_0 rfl rfl rfl ?_
          refine P_n no34_0 rfl rfl rfl ?_
          refine P_n no34_1 rfl rfl rfl ?_
          refine P_n no34_0 rfl rfl rfl ?_
          refine P_n no34_0 rfl rfl rfl ?_
          refine P_q no34_0 rfl (op_pick_f rfl (av := .exact (.bool false)) rfl ?_)
          refine P_q no34_0 rfl (op_move (av := .exact (.bool false)) rfl ?_)
          refine Py_q no34_0 rfl rfl rfl (op_move (av := pA w0 0) rfl ?_)
          refine Py_q no34_0 rfl rfl rfl (op_move (av := .row 1 c_uint8 a2) rfl ?_)
          refine Py_q no34_0 rfl rfl rfl (op_len_row (by kernel_rfl) rfl ?_)
          refine Py_q no34_0 rfl rfl rfl (op_move (av := pA w0 0) rfl ?_)
          refine Py_q no34_0 rfl rfl rfl (op_nilCheck rfl ?_)
          refine Py_q no34_0 rfl rfl rfl (op_fieldAddr (o := 0) (by kernel_rfl) rfl ?_)
          refine Py_r4 (Has.cons (List.Mem.head _) Has.mk0) rfl rfl rfl (opI_mk (List.Mem.head _) (fun _ => op_load_box1 (a := .exact (.int .i64 a0.1)) (by kernel_rfl) rfl rfl rfl) ?_)
          obtain ⟨y14, hy14, h⟩ := bnd1_some h
          refine Py_l3 rfl rfl rfl (op_fun_1_0_1 (m_ref35_Disk_Used_ok _ _ hy14) Try.func93 (by kernel_rfl) (LEs.cons (AV.le_eq rfl) LEs.nil) ⟨(Has.cons (List.Mem.head _) Has.mk0), ?_⟩)
          refine Py_q no34_0 rfl rfl rfl (op_add rfl rfl rfl ?_)
          refine Py_q no34_0 rfl rfl rfl (op_gtr rfl rfl ?_)
          refine P_q no34_0 rfl (op_pick_f rfl (av := .exact (.bool (decide (a0.1 < (i64 (y14 + (List.length a2 : Int))))))) rfl ?_)
          refine P_q no34_0 rfl (op_assign (av := .exact (.bool (decide (a0.1 < (i64 (y14 + (List.length a2 : Int))))))) rfl ?_)
          refine P_nil ?_
          refine kI_normal ⟨_, h, ?_⟩
          exact Sub.of_le (AF.le_put (AV.le_eq rfl) (AF.le_put (AV.le_eq rfl) (AF.le_put (AV.le_eq rfl) (AF.le_put (AV.le_eq rfl) (AF.le_put (AV.le_eq rfl) (AF.le_top _))))))
      · refine k_cond_b (c := x25_j10) rfl (fun hc => ?_) (fun hc => ?_)
        · replace h := ite_t h hc
          refine k_seq ?_
          refine k_reg .free hmixP (by kernel_rfl) ?_
          refine G_q rfl (op_assign (av := .exact (.int .i64 10)) rfl ?_)
          refine G_nil ?_
          refine kC_normal ?_
          refine k_ret ?_
          refine kB_ret ?_
          refine kC_ret ?_
          obtain rfl := Option.some.inj h
          refine kP_any (endN (af' := (AF.put AF0 (some 6) (.exact (.int .i64 10)))) (σ' := [boxI 67 w0 [.exact (.int .i64 a0.1), .row 2 c_cspcheckref35_File a0.2.1, .row 2 c_cspcheckref35_Name a0.2.2.1, .row 2 c_cspcheckref35_Name a0.2.2.2.1, .row 4 c_cspcheckref35_Op a0.2.2.2.2.1, .exact (.int .i64 a0.2.2.2.2.2.1), .exact (.bool a0.2.2.2.2.2.2.1), .exact (.int .i64 a0.2.2.2.2.2.2.2)]]) _ rfl ?_ ⟨rfl, rfl⟩)
          exact Sub.of_le (AF.le_put (AV.le_eq rfl) (AF.le_top _))
        · replace h := ite_f h hc
          refine k_skip ?_
          refine kB_normal ?_
          refine kC_normal ?_
          refine k_seq ?_
          refine k_reg .free hmixP (by kernel_rfl) ?_
          refine G_q rfl (op_move (av := pA w0 0) rfl ?_)
          obtain ⟨y15, hy15, h⟩ := bnd1_some h
          refine G_l rfl (op_fun_1_0_1 (m_ref35_Disk_write_ok _ _ hy15) Try.func94 (by kernel_rfl) (LEs.cons (AV.le_eq rfl) LEs.nil) ?_)
          refine G_q rfl (op_assign (av := .exact (.bool y15.1)) rfl ?_)
          refine G_nil ?_
          refine kC_normal ?_
          refine k_join9_0 h (fun (x0_0_j16 : Int) (x0_1_j16 : List ((List UInt8) × Int)) (x0_2_j16 : List ((List UInt8) × Int)) (x0_3_j16 : List ((List UInt8) × Int)) (x0_4_j16 : List (Int × (List UInt8) × (List UInt8) × Int)) (x0_5_j16 : Int) (x0_6_j16 : Bool) (x0_7_j16 : Int) (x7_j16 : Int) => (AF.put (AF.put (AF.put (AF.put AF0 (some 0) (pA w0 0)) (some 2) (.row 1 c_uint8 a2)) (some 7) (.exact (.int .i64 x7_j16))) (some 8) (.exact (.bool y15.1)))) (fun (x0_0_j16 : Int) (x0_1_j16 : List ((List UInt8) × Int)) (x0_2_j16 : List ((List UInt8) × Int)) (x0_3_j16 : List ((List UInt8) × Int)) (x0_4_j16 : List (Int × (List UInt8) × (List UInt8) × Int)) (x0_5_j16 : Int) (x0_6_j16 : Bool) (x0_7_j16 : Int) (x7_j16 : Int) => [boxI 67 w0 [.exact (.int .i64 x0_0_j16), .row 2 c_cspcheckref35_File x0_1_j16, .row 2 c_cspcheckref35_Name x0_2_j16, .row 2 c_cspcheckref35_Name x0_3_j16, .row 4 c_cspcheckref35_Op x0_4_j16, .exact (.int .i64 x0_5_j16), .exact (.bool x0_6_j16), .exact (.int .i64 x0_7_j16)]]) (fun k16 h => ?_) (fun x0_0_j16 x0_1_j16 x0_2_j16 x0_3_j16 x0_4_j16 x0_5_j16 x0_6_j16 x0_7_j16 x7_j16 h => ?_)
          · refine k_seq ?_
            refine k_reg .free hmixP (by kernel_rfl) ?_
            refine G_q rfl (op_move (av := .exact (.int .i64 y1)) rfl ?_)
            refine G_q rfl (op_lss rfl rfl ?_)
            refine G_nil ?_
            refine kC_normal ?_
            refine k_cond_d (p := y1 < 0) rfl (fun hc => ?_) (fun hc => ?_)
            · replace h := ite_t h hc
              refine k_seq ?_
              refine k_reg .free hmixP (by kernel_rfl) ?_
              refine G_q rfl (op_move (av := pA w0 0) rfl ?_)
              refine G_q rfl (op_nilCheck rfl ?_)
              refine G_q rfl (op_fieldAddr (o := 1) (by kernel_rfl) rfl ?_)
              refine G_r rfl (op_load_box1 (a := .row 2 c_cspcheckref35_File y15.2.2.1) (by kernel_rfl) rfl rfl ?_)
              refine G_q rfl (op_len_row (by kernel_rfl) rfl ?_)
              refine G_q rfl (op_assign (av := .exact (.int .i64 (List.length y15.2.2.1 : Int))) rfl ?_)
              refine G_nil ?_
              refine kC_normal ?_
              refine k_seq ?_
              refine k_reg .free hmixP (by kernel_rfl) ?_
              refine G_q rfl (op_move (av := pA w0 0) rfl ?_)
              refine G_l rfl (op_lit0I (enc := c_cspcheckref35_File) (n := 2) (by kernel_rfl) (fun v23 => ?_))
              refine G_q rfl (op_move (av := pA w0 0) rfl ?_)
              refine G_q rfl (op_nilCheck rfl ?_)
              refine G_q rfl (op_fieldAddr (o := 1) (by kernel_rfl) rfl ?_)
              refine G_r rfl (opR_f1 (op_load_box1 (a := .row 2 c_cspcheckref35_File y15.2.2.1) (by kernel_rfl) rfl rfl ?_))
              obtain ⟨n24, h⟩ := need_some h
              refine G_l rfl (op_appT (by kernel_rfl) rfl rfl oc_c_cspcheckref35_File n24 (fun v25 => ?_))
              refine G_q rfl (op_bld (c' := c_cspcheckref35_File (([], 0) : (List UInt8) × Int)) CellsAll.nil rfl (LEs.cons (row_nil (by decide)) (LEs.cons (AV.le_eq rfl) LEs.nil)) ?_)
              refine G_q rfl (op_litT (n := 2) (enc := c_cspcheckref35_File) [(([], 0) : (List UInt8) × Int)] (CellsAll.cons rfl CellsOf.agg CellsAll.nil) rfl (by kernel_rfl) (LEss.cons (LEs.cons (AV.le_eq rfl) (LEs.cons (AV.le_eq rfl) LEs.nil)) LEss.nil) ?_)
              obtain ⟨n26, h⟩ := need_some h
              refine G_l rfl (op_appT (by kernel_rfl) rfl rfl oc_c_cspcheckref35_File n26 (fun v27 => ?_))
              refine G_q rfl (op_nilCheck rfl ?_)
              refine G_q rfl (op_fieldAddr (o := 1) (by kernel_rfl) rfl ?_)
              refine G_sub rfl (SubU.freezeT (s := 66) rfl len_c_cspcheckref35_File) ?_
              refine G_l rfl (op_store_box (c' := [.row 2 c_cspcheckref35_File ((([] : List ((List UInt8) × Int)) ++ y15.2.2.1) ++ ([(([], 0) : (List UInt8) × Int)]))]) (c3 := [.exact (.int .i64 y15.2.1), .row 2 c_cspcheckref35_File ((([] : List ((List UInt8) × Int)) ++ y15.2.2.1) ++ ([(([], 0) : (List UInt8) × Int)])), .row 2 c_cspcheckref35_Name y15.2.2.2.1, .row 2 c_cspcheckref35_Name y15.2.2.2.2.1, .row 4 c_cspcheckref35_Op y15.2.2.2.2.2.1, .exact (.int .i64 y15.2.2.2.2.2.2.1), .exact (.bool y15.2.2.2.2.2.2.2.1), .exact (.int .i64 y15.2.2.2.2.2.2.2.2)]) rfl rfl CellsOf.row (LEs.cons (AV.le_eq rfl) LEs.nil) (OneC.row OneC.nil) (by kernel_rfl) (Nat.le_of_ble_eq_true rfl) rfl ?_)
              refine G_nil ?_
              refine kC_normal ?_
              refine k_reg .free hmixP (by kernel_rfl) ?_
              refine G_q rfl (op_move (av := pA w0 0) rfl ?_)
              refine G_q rfl (op_move (av := .exact (.string (bs a1))) rfl ?_)
              refine G_q rfl (op_move (av := .exact (.int .i64 (List.length y15.2.2.1 : Int))) rfl ?_)
              refine G_q rfl (op_bld (c' := c_cspcheckref35_Op ((1, a1, [], (List.length y15.2.2.1 : Int)) : Int × (List UInt8) × (List UInt8) × Int)) (CellsAll.cons rfl CellsOf.int (CellsAll.cons rfl CellsOf.str (CellsAll.cons rfl CellsOf.int CellsAll.nil))) rfl (LEs.cons (AV.le_eq rfl) (LEs.cons (AV.le_eq rfl) (LEs.cons (AV.le_eq rfl) (LEs.cons (AV.le_eq rfl) LEs.nil)))) ?_)
              obtain ⟨y28, hy28, h⟩ := bnd1_some h
              refine G_l rfl (op_fun_1_0_1 (m_ref35_Disk_perform_ok _ _ _ hy28) Try.func95 (by kernel_rfl) (LEs.cons (AV.le_eq rfl) (LEs.cons (AV.le_eq rfl) LEs.nil)) ?_)
              refine G_nil ?_
              refine kI_normal ⟨_, _, _, _, _, _, _, _, _, h, ?_⟩
              exact Sub.of_le (AF.le_put (AV.le_eq rfl) (AF.le_put (AV.le_eq rfl) (AF.le_put (AV.le_eq rfl) (AF.le_put (AV.le_eq rfl) (AF.le_top _)))))
            · replace h := ite_f h hc
              refine k_skip ?_
              refine kI_normal ⟨_, _, _, _, _, _, _, _, _, h, ?_⟩
              exact Sub.of_le (AF.le_put (AV.le_eq rfl) (AF.le_put (AV.le_eq rfl) (AF.le_put (AV.le_eq rfl) (AF.le_put (AV.le_eq rfl) (AF.le_top _)))))
          · refine k_join1_0 h (fun (x2_j29 : List UInt8) => (AF.put (AF.put (AF.put (AF.put AF0 (some 0) (pA w0 0)) (some 2) (.row 1 c_uint8 x2_j29)) (some 7) (.exact (.int .i64 x7_j16))) (some 8) (.exact (.bool y15.1)))) (fun (x2_j29 : List UInt8) => [boxI 67 w0 [.exact (.int .i64 x0_0_j16), .row 2 c_cspcheckref35_File x0_1_j16, .row 2 c_cspcheckref35_Name x0_2_j16, .row 2 c_cspcheckref35_Name x0_3_j16, .row 4 c_cspcheckref35_Op x0_4_j16, .exact (.int .i64 x0_5_j16), .exact (.bool x0_6_j16), .exact (.int .i64 x0_7_j16)]]) (fun k29 h => ?_) (fun x2_j29 h => ?_)
            · refine k_seq ?_
              refine k_reg .free hmixP (by kernel_rfl) ?_
              refine G_q rfl (op_move (av := .exact (.bool y15.1)) rfl ?_)
              refine G_nil ?_
              refine kC_normal ?_
              refine k_cond_b (c := y15.1) rfl (fun hc => ?_) (fun hc => ?_)
              · replace h := ite_t h hc
                refine k_reg .free hmixP (by kernel_rfl) ?_
                refine G_q rfl (op_move (av := .row 1 c_uint8 a2) rfl ?_)
                refine G_q rfl (op_move (av := .row 1 c_uint8 a2) rfl ?_)
                refine G_q rfl (op_len_row (by kernel_rfl) rfl ?_)
                refine G_q rfl (op_quo rfl rfl (by decide) rfl ?_)
                obtain ⟨n31, h⟩ := need_some h
                refine G_q rfl (op_slice_rowt (by kernel_rfl) rfl bnd_none (bnd_some rfl) (Int.le_refl 0) n31.1 n31.2 ?_)
                refine G_q rfl (op_assign (av := .row 1 c_uint8 (List.take (Int.toNat (i64 (Int.tdiv (List.length a2 : Int) 2))) a2)) rfl ?_)
                refine G_nil ?_
                refine kI_normal ⟨_, h, ?_⟩
                exact Sub.of_le (AF.le_put (AV.le_eq rfl) (AF.le_put (AV.le_eq rfl) (AF.le_put (AV.le_eq rfl) (AF.le_put (AV.le_eq rfl) (AF.le_top _)))))
              · replace h := ite_f h hc
                refine k_skip ?_
                refine kI_normal ⟨_, h, ?_⟩
                exact Sub.of_le (AF.le_put (AV.le_eq rfl) (AF.le_put (AV.le_eq rfl) (AF.le_put (AV.le_eq rfl) (AF.le_put (AV.le_eq rfl) (AF.le_top _)))))
            · refine k_seq ?_
              refine k_reg .free hmixP (by kernel_rfl) ?_
              refine G_l rfl (op_lit0I (enc := c_cspcheckref35_File) (n := 2) (by kernel_rfl) (fun v32 => ?_))
              refine G_q rfl (op_move (av := pA w0 0) rfl ?_)
              refine G_q rfl (op_nilCheck rfl ?_)
              refine G_q rfl (op_fieldAddr (o := 1) (by kernel_rfl) rfl ?_)
              refine G_r rfl (opR_f1 (op_load_box1 (a := .row 2 c_cspcheckref35_File x0_1_j16) (by kernel_rfl) rfl rfl ?_))
              obtain ⟨n33, h⟩ := need_some h
              refine G_l rfl (op_appT (by kernel_rfl) rfl rfl oc_c_cspcheckref35_File n33 (fun v34 => ?_))
              refine G_q rfl (op_assign (av := .exact v34) rfl ?_)
              refine G_nil ?_
              refine kC_normal ?_
              refine k_seq ?_
              refine k_reg .free hmixP (by kernel_rfl) ?_
              refine G_q rfl (op_move (av := .exact v34) rfl ?_)
              refine G_q rfl (op_move (av := .exact (.int .i64 x7_j16)) rfl ?_)
              refine G_l rfl (op_lit0I (enc := c_uint8) (n := 1) (by kernel_rfl) (fun v35 => ?_))
              refine G_q rfl (op_move (av := .exact v34) rfl ?_)
              refine G_q rfl (op_move (av := .exact (.int .i64 x7_j16)) rfl ?_)
              obtain ⟨n36, h⟩ := need_some h
              refine G_r rfl (opR_f1 (op_index_vec (by kernel_rfl) rfl rfl n36.1 n36.2 ?_))
              refine G_q rfl (op_field_eptr (o := 0) (by kernel_rfl) rfl ?_)
              refine G_r rfl (opR_f1 (op_load_vec1 (i := x7_j16) (o := 0) (a := .row 1 c_uint8 ((gi (([] : List ((List UInt8) × Int)) ++ x0_1_j16) x7_j16).1)) (by kernel_rfl) len_c_cspcheckref35_File rfl n36.1 n36.2 rfl ?_))
              obtain ⟨n37, h⟩ := need_some h
              refine G_l rfl (op_appT (by kernel_rfl) rfl rfl oc_c_uint8 n37 (fun v38 => ?_))
              refine G_q rfl (op_move (av := .row 1 c_uint8 x2_j29) rfl ?_)
              obtain ⟨n39, h⟩ := need_some h
              refine G_l rfl (op_appT (by kernel_rfl) rfl rfl oc_c_uint8 n39 (fun v40 => ?_))
              obtain ⟨n41, h⟩ := need_some h
              refine G_r rfl (opR_f1 (op_index_vec (by kernel_rfl) rfl rfl n41.1 n41.2 ?_))
              refine G_q rfl (op_field_eptr (o := 0) (by kernel_rfl) rfl ?_)
              refine G_sub rfl (SubU.freezeT (s := 96) rfl len_c_uint8) ?_
              refine G_l rfl (op_store_vec (i := x7_j16) (o := 0) (z := (((([] : List UInt8) ++ ((gi (([] : List ((List UInt8) × Int)) ++ x0_1_j16) x7_j16).1)) ++ x2_j29), (gi (([] : List ((List UInt8) × Int)) ++ x0_1_j16) x7_j16).2)) (c' := [.row 1 c_uint8 ((([] : List UInt8) ++ ((gi (([] : List ((List UInt8) × Int)) ++ x0_1_j16) x7_j16).1)) ++ x2_j29)]) (by kernel_rfl) len_c_cspcheckref35_File rfl n41.1 n41.2 rfl CellsOf.row (LEs.cons (AV.le_eq rfl) LEs.nil) (OneC.row OneC.nil) (by kernel_rfl) (Nat.le_of_ble_eq_true rfl) rfl ?_)
              refine G_nil ?_
              refine kC_normal ?_
              refine k_seq ?_
              refine k_reg .free hmixP (by kernel_rfl) ?_
              refine G_q rfl (op_move (av := pA w0 0) rfl ?_)
              refine G_q rfl (op_move (av := .exact v34) rfl ?_)
              refine G_q rfl (op_nilCheck rfl ?_)
              refine G_q rfl (op_fieldAddr (o := 1) (by kernel_rfl) rfl ?_)
              refine G_sub rfl (SubU.freezeT3 (s1 := 86) (s2 := 89) (s3 := 100) rfl rfl rfl len_c_cspcheckref35_File) ?_
              refine G_l rfl (op_store_box (c' := [.row 2 c_cspcheckref35_File (List.set (([] : List ((List UInt8) × Int)) ++ x0_1_j16) (Int.toNat x7_j16) (((([] : List UInt8) ++ ((gi (([] : List ((List UInt8) × Int)) ++ x0_1_j16) x7_j16).1)) ++ x2_j29), (gi (([] : List ((List UInt8) × Int)) ++ x0_1_j16) x7_j16).2))]) (c3 := [.exact (.int .i64 x0_0_j16), .row 2 c_cspcheckref35_File (List.set (([] : List ((List UInt8) × Int)) ++ x0_1_j16) (Int.toNat x7_j16) (((([] : List UInt8) ++ ((gi (([] : List ((List UInt8) × Int)) ++ x0_1_j16) x7_j16).1)) ++ x2_j29), (gi (([] : List ((List UInt8) × Int)) ++ x0_1_j16) x7_j16).2)), .row 2 c_cspcheckref35_Name x0_2_j16, .row 2 c_cspcheckref35_Name x0_3_j16, .row 4 c_cspcheckref35_Op x0_4_j16, .exact (.int .i64 x0_5_j16), .exact (.bool x0_6_j16), .exact (.int .i64 x0_7_j16)]) rfl rfl CellsOf.row (LEs.cons (AV.le_eq rfl) LEs.nil) (OneC.row OneC.nil) (by kernel_rfl) (Nat.le_of_ble_eq_true rfl) rfl ?_)
              refine G_nil ?_
              refine kC_normal ?_
              refine k_seq ?_
              refine k_seq ?_
              refine k_reg .free hmixP (by kernel_rfl) ?_
              refine G_q rfl (op_move (av := .exact (.bool y15.1)) rfl ?_)
              refine G_nil ?_
              refine kC_normal ?_
              refine k_cond_b (c := y15.1) rfl (fun hc => ?_) (fun hc => ?_)
              · replace h := ite_t h hc
                refine k_seq ?_
                refine k_reg .free hmixP (by kernel_rfl) ?_
                refine G_q rfl (op_assign (av := .exact (.int .i64 25)) rfl ?_)
                refine G_nil ?_
                refine kC_normal ?_
                refine k_ret ?_
                refine kC_ret ?_
                obtain rfl := Option.some.inj h
                refine kP_any (endN (af' := (AF.put AF0 (some 6) (.exact (.int .i64 25)))) (σ' := [boxI 67 w0 ([.exact (.int .i64 x0_0_j16), .row 2 c_cspcheckref35_File (List.set (([] : List ((List UInt8) × Int)) ++ x0_1_j16) (Int.toNat x7_j16) (((([] : List UInt8) ++ ((gi (([] : List ((List UInt8) × Int)) ++ x0_1_j16) x7_j16).1)) ++ x2_j29), (gi (([] : List ((List UInt8) × Int)) ++ x0_1_j16) x7_j16).2)), .row 2 c_cspcheckref35_Name x0_2_j16, .row 2 c_cspcheckref35_Name x0_3_j16, .row 4 c_cspcheckref35_Op x0_4_j16, .exact (.int .i64 x0_5_j16), .exact (.bool x0_6_j16), .exact (.int .i64 x0_7_j16)])]) _ rfl ?_ ⟨rfl, rfl⟩)
                exact Sub.of_le (AF.le_put (AV.le_eq rfl) (AF.le_top _))
              · replace h := ite_f h hc
                refine k_skip ?_
                refine kC_normal ?_
                refine k_seq ?_
                refine k_reg .free hmixP (by kernel_rfl) ?_
                refine G_q rfl (op_assign (av := .exact (.int .i64 0)) rfl ?_)
                refine G_nil ?_
                refine kC_normal ?_
                refine k_ret ?_
                obtain rfl := Option.some.inj h
                refine kP_any (endN (af' := (AF.put AF0 (some 6) (.exact (.int .i64 0)))) (σ' := [boxI 67 w0 ([.exact (.int .i64 x0_0_j16), .row 2 c_cspcheckref35_File (List.set (([] : List ((List UInt8) × Int)) ++ x0_1_j16) (Int.toNat x7_j16) (((([] : List UInt8) ++ ((gi (([] : List ((List UInt8) × Int)) ++ x0_1_j16) x7_j16).1)) ++ x2_j29), (gi (([] : List ((List UInt8) × Int)) ++ x0_1_j16) x7_j16).2)), .row 2 c_cspcheckref35_Name x0_2_j16, .row 2 c_cspcheckref35_Name x0_3_j16, .row 4 c_cspcheckref35_Op x0_4_j16, .exact (.int .i64 x0_5_j16), .exact (.bool x0_6_j16), .exact (.int .i64 x0_7_j16)])]) _ rfl ?_ ⟨rfl, rfl⟩)
                exact Sub.of_le (AF.le_put (AV.le_eq rfl) (AF.le_top _))
end Go.Proofs.Ytkplmgdmkfgjhaa
