/- The functions compute their models, by program. -/
import Derived.Test.YtkplmgdmkfgjhaaQa4
namespace Go.Proofs.Ytkplmgdmkfgjhaa
open Go.RowKit
attribute [local irreducible] AV.exact AV.top AV.row AV.ptr AV.agg AV.tup AV.eptr AV.fn AV.nilq AV.nilqn opA opB opM opR Quiet Loud Reads wpG awp den Sub SubU Pure Fun vecI vecT boxI CellsAll CellsOf OneC LEs LEss
set_option maxRecDepth 100000

set_option maxHeartbeats 4000000 in
theorem m_frontier_Write_ok {w0 : Nat} {w0o : List Nat} (a0 : Dk) (a1 : List UInt8) (a2 : List (Int × Int)) (a3 : Int) (r : Int × Dk) (h : m_frontier_Write a0 a1 a2 a3 = some r) : Fun Try.prog 22 [(pA w0 0), (.exact (.string (bs a1))), (.row 2 c_A2_int a2), (.exact (.int .i64 a3))] [dskI w0 w0o a0] (fun a s => ∃ zo0, a = .exact (.int .i64 r.1) ∧ s = [dskI w0 zo0 r.2]) := by
  unfold m_frontier_Write at h
  refine fun_of_awp Try.func22 rfl Try.ntmps22 (by simp) rfl (res1 rfl) fun E hE => k_end ?_
  refine k_seq ?_
  refine k_reg .free hmixP (by kernel_rfl) ?_
  refine G_q rfl (op_assign (av := .exact (.int .i64 0)) rfl ?_)
  refine G_nil ?_
  refine kC_normal ?_
  refine k_seq ?_
  refine k_join1_0 h (fun (x23_j5 : Bool) => (AF.put (AF.put (AF.put (AF.put (AF.put AF0 (some 0) (pA w0 0)) (some 1) (.exact (.string (bs a1)))) (some 2) (.row 2 c_A2_int a2)) (some 3) (.exact (.int .i64 a3))) (some 23) (.exact (.bool x23_j5)))) (fun (x23_j5 : Bool) => [dskI w0 w0o a0]) (fun k5 h => ?_) (fun x23_j5 h => ?_)
  · refine k_reg .free hmixP (by kernel_rfl) ?_
    refine G_q rfl (op_move (av := .row 2 c_A2_int a2) rfl ?_)
    obtain ⟨y7, hy7, h⟩ := bnd1_some h
    refine G_q rfl (op_pure (m_frontier_isRun_ok _ _ hy7) Try.func48 (by kernel_rfl) (LEs.cons (AV.le_eq rfl) LEs.nil) ?_)
    refine G_q rfl (op_not rfl ?_)
    refine G_q rfl (op_move (av := .exact (.bool (!y7))) rfl ?_)
    refine G_splitB (c := !y7) 16 rfl (fun hc => ?_) (fun hc => ?_)
    · replace h := ite_t h hc
      refine G_n rfl rfl ?_
      refine G_n rfl rfl ?_
      refine G_q rfl (op_pick_t rfl (av := .exact (.bool true)) rfl ?_)
      refine G_q rfl (op_move (av := .exact (.bool true)) rfl ?_)
      refine G_n rfl rfl ?_
      refine G_n rfl rfl ?_
      refine G_q rfl (op_pick_t rfl (av := .exact (.bool true)) rfl ?_)
      refine G_nil ?_
      refine kI_normal ⟨_, h, ?_⟩
      exact Sub.of_le (AF.le_put (AV.le_eq rfl) (AF.le_put (AV.le_eq rfl) (AF.le_put (AV.le_eq rfl) (AF.le_put (AV.le_eq rfl) (AF.le_put (AV.le_eq rfl) (AF.le_top _))))))
    · replace h := ite_f h hc
      refine Gy_q rfl rfl rfl (op_move (av := .exact (.int .i64 a3)) rfl ?_)
      refine Gy_q rfl rfl rfl (op_lss rfl rfl ?_)
      refine G_q rfl (op_pick_f rfl (av := .exact (.bool (decide (a3 < 1)))) rfl ?_)
      refine G_q rfl (op_move (av := .exact (.bool (decide (a3 < 1)))) rfl ?_)
      refine G_split (p := a3 < 1) 20 rfl (fun hc => ?_) (fun hc => ?_)
      · replace h := ite_t h hc
        refine G_n rfl rfl ?_
        refine G_n rfl rfl ?_
        refine G_q rfl (op_pick_t rfl (av := .exact (.bool true)) rfl ?_)
        refine G_nil ?_
        refine kI_normal ⟨_, h, ?_⟩
        exact Sub.of_le (AF.le_put (AV.le_eq rfl) (AF.le_put (AV.le_eq rfl) (AF.le_put (AV.le_eq rfl) (AF.le_put (AV.le_eq rfl) (AF.le_put (AV.le_eq rfl) (AF.le_top _))))))
      · replace h := ite_f h hc
        refine Gy_q rfl rfl rfl (op_move (av := .exact (.int .i64 a3)) rfl ?_)
        refine Gy_q rfl rfl rfl (op_gtr rfl rfl ?_)
        refine G_q rfl (op_pick_f rfl (av := .exact (.bool (decide (1024 < a3)))) rfl ?_)
        refine G_nil ?_
        refine kI_normal ⟨_, h, ?_⟩
        exact Sub.of_le (AF.le_put (AV.le_eq rfl) (AF.le_put (AV.le_eq rfl) (AF.le_put (AV.le_eq rfl) (AF.le_put (AV.le_eq rfl) (AF.le_put (AV.le_eq rfl) (AF.le_top _))))))
  · refine k_cond_b (c := x23_j5) rfl (fun hc => ?_) (fun hc => ?_)
    · replace h := ite_t h hc
      refine k_seq ?_
      refine k_reg .free hmixP (by kernel_rfl) ?_
      refine G_q rfl (op_assign (av := .exact (.int .i64 1)) rfl ?_)
      refine G_nil ?_
      refine kC_normal ?_
      refine k_ret ?_
      refine kC_ret ?_
      obtain rfl := Option.some.inj h
      refine kP_any (endN (af' := (AF.put AF0 (some 8) (.exact (.int .i64 1)))) (σ' := [dskI w0 w0o a0]) _ rfl ?_ ⟨w0o, rfl, rfl⟩)
      exact Sub.of_le (AF.le_put (AV.le_eq rfl) (AF.le_top _))
    · replace h := ite_f h hc
      refine k_skip ?_
      refine kC_normal ?_
      refine k_join1_1 h (fun (x0d_j8 : Dk) (o0_j8 : List Nat) => (AF.put (AF.put (AF.put (AF.put AF0 (some 0) (pA w0 0)) (some 1) (.exact (.string (bs a1)))) (some 2) (.row 2 c_A2_int a2)) (some 3) (.exact (.int .i64 a3)))) (fun (x0d_j8 : Dk) (o0_j8 : List Nat) => [dskI w0 o0_j8 x0d_j8]) (fun k8 h => ?_) (fun x0d_j8 o0_j8 h => ?_)
      · refine k_seq ?_
        refine k_reg .free hmixP (by kernel_rfl) ?_
        refine G_q rfl (op_move (av := .row 2 c_A2_int a2) rfl ?_)
        refine G_q rfl (op_len_row (by kernel_rfl) rfl ?_)
        refine G_q rfl (op_eql rfl rfl ?_)
        refine G_nil ?_
        refine kC_normal ?_
        refine k_cond_d (p := (List.length a2 : Int) = 0) rfl (fun hc => ?_) (fun hc => ?_)
        · replace h := ite_t h hc
          refine k_seq ?_
          refine k_reg .free hmixP (by kernel_rfl) ?_
          refine G_q rfl (op_move (av := pA w0 0) rfl ?_)
          refine G_q rfl (op_move (av := .exact (.string (bs a1))) rfl ?_)
          obtain ⟨y11, hy11, h⟩ := bnd1_some h
          refine G_l rfl (op_fun_1_1_1 (m_disk_Append_ok _ _ _ _ hy11) Try.func27 (by kernel_rfl) (LEs.cons (AV.le_eq rfl) (LEs.cons (AV.le_eq rfl) (LEs.cons (row_nil (by decide)) LEs.nil))) (fun o12 => ?_))
          refine G_q rfl (op_assign (av := .exact (.int .i64 y11.1)) rfl ?_)
          refine G_nil ?_
          refine kC_normal ?_
          refine k_seq ?_
          refine k_reg .free hmixP (by kernel_rfl) ?_
          refine G_q rfl (op_move (av := .exact (.int .i64 y11.1)) rfl ?_)
          refine G_q rfl (op_neq rfl rfl ?_)
          refine G_nil ?_
          refine kC_normal ?_
          refine k_cond_d (p := ¬ y11.1 = 0) rfl (fun hc => ?_) (fun hc => ?_)
          · replace h := ite_t h hc
            refine k_seq ?_
            refine k_reg .free hmixP (by kernel_rfl) ?_
            refine G_q rfl (op_move (av := .exact (.int .i64 y11.1)) rfl ?_)
            refine G_q rfl (op_assign (av := .exact (.int .i64 y11.1)) rfl ?_)
            refine G_nil ?_
            refine kC_normal ?_
            refine k_ret ?_
            refine kI_ret ?_
            obtain rfl := Option.some.inj h
            refine kP_any (endN (af' := (AF.put AF0 (some 8) (.exact (.int .i64 y11.1)))) (σ' := [dskI w0 o12 y11.2]) _ rfl ?_ ⟨o12, rfl, rfl⟩)
            exact Sub.of_le (AF.le_put (AV.le_eq rfl) (AF.le_top _))
          · replace h := ite_f h hc
            refine k_skip ?_
            refine kI_normal ⟨_, o12, h, ?_⟩
            exact Sub.of_le (AF.le_put (AV.le_eq rfl) (AF.le_put (AV.le_eq rfl) (AF.le_put (AV.le_eq rfl) (AF.le_put (AV.le_eq rfl) (AF.le_top _)))))
        · replace h := ite_f h hc
          refine k_skip ?_
          refine kI_normal ⟨_, w0o, h, ?_⟩
          exact Sub.of_le (AF.le_put (AV.le_eq rfl) (AF.le_put (AV.le_eq rfl) (AF.le_put (AV.le_eq rfl) (AF.le_put (AV.le_eq rfl) (AF.le_top _)))))
      · refine k_join1_1 h (fun (x0d_j13 : Dk) (o0_j13 : List Nat) => (AF.put (AF.put AF0 (some 0) (pA w0 0)) (some 1) (.exact (.string (bs a1))))) (fun (x0d_j13 : Dk) (o0_j13 : List Nat) => [dskI w0 o0_j13 x0d_j13]) (fun k13 h => ?_) (fun x0d_j13 o0_j13 h => ?_)
        · refine k_seq ?_
          refine k_reg .free hmixP (by kernel_rfl) ?_
          refine G_q rfl (op_assign (av := .exact (.int .i64 0)) rfl ?_)
          refine G_nil ?_
          refine kC_normal ?_
          refine k_block ?_
          refine k_loop2_1 (m_frontier_Write_L2 a1 a2 a3 k13) (m_frontier_Write_B2 a1 a2 a3 k13) (fun _ _ => rfl) (fun m _ _ => rfl) h (fun (x0d_l2 : Dk) (x10_l2 : Int) (o0_l2 : List Nat) => (AF.put (AF.put (AF.put (AF.put (AF.put AF0 (some 0) (pA w0 0)) (some 1) (.exact (.string (bs a1)))) (some 2) (.row 2 c_A2_int a2)) (some 3) (.exact (.int .i64 a3))) (some 10) (.exact (.int .i64 x10_l2)))) (fun (x0d_l2 : Dk) (x10_l2 : Int) (o0_l2 : List Nat) => [dskI w0 o0_l2 x0d_l2]) o0_j8 ?_ (fun rec2 x0d_l2 x10_l2 o0_l2 h => ?_)
          · exact Sub.of_le (AF.le_put (AV.le_eq rfl) (AF.le_put (AV.le_eq rfl) (AF.le_put (AV.le_eq rfl) (AF.le_put (AV.le_eq rfl) (AF.le_put (AV.le_eq rfl) (AF.le_top _))))))
          · unfold m_frontier_Write_B2 at h
            refine k_seq ?_
            refine k_seq ?_
            refine k_reg .free hmixP (by kernel_rfl) ?_
            refine G_q rfl (op_move (av := .exact (.int .i64 x10_l2)) rfl ?_)
            refine G_q rfl (op_move (av := .row 2 c_A2_int a2) rfl ?_)
            refine G_q rfl (op_len_row (by kernel_rfl) rfl ?_)
            refine G_q rfl (op_lss rfl rfl ?_)
            refine G_nil ?_
            refine kC_normal ?_
            refine k_cond_d (p := x10_l2 < (List.length a2 : Int)) rfl (fun hc => ?_) (fun hc => ?_)
            · replace h := ite_t h hc
              refine k_skip ?_
              refine kC_normal ?_
              refine k_seq ?_
              refine k_block ?_
              refine k_seq ?_
              refine k_reg .free hmixP (by kernel_rfl) ?_
              refine G_q rfl (op_move (av := .exact (.int .i64 x10_l2)) rfl ?_)
              refine G_q rfl (op_move (av := .exact (.int .i64 a3)) rfl ?_)
              refine G_q rfl (op_add rfl rfl rfl ?_)
              refine G_q rfl (op_move (av := .row 2 c_A2_int a2) rfl ?_)
              refine G_q rfl (op_len_row (by kernel_rfl) rfl ?_)
              refine G_q rfl (op_min rfl rfl ?_)
              refine G_q rfl (op_assign (av := .exact (.int .i64 (min (i64 (x10_l2 + a3)) (List.length a2 : Int)))) rfl ?_)
              refine G_nil ?_
              refine kC_normal ?_
              refine k_seq ?_
              refine k_reg .free hmixP (by kernel_rfl) ?_
              refine G_q rfl (op_move (av := pA w0 0) rfl ?_)
              refine G_q rfl (op_move (av := .exact (.string (bs a1))) rfl ?_)
              refine G_q rfl (op_move (av := .row 2 c_A2_int a2) rfl ?_)
              refine G_q rfl (op_move (av := .exact (.int .i64 x10_l2)) rfl ?_)
              refine G_q rfl (op_move (av := .exact (.int .i64 (min (i64 (x10_l2 + a3)) (List.length a2 : Int)))) rfl ?_)
              refine G_q rfl (op_move (av := .exact (.int .i64 (min (i64 (x10_l2 + a3)) (List.length a2 : Int)))) rfl ?_)
              obtain ⟨n35, h⟩ := need_some h
              refine G_q rfl (op_slice_row3 (by kernel_rfl) rfl (bnd_some rfl) rfl rfl n35.1 n35.2.1 (Int.le_refl _) n35.2.2 ?_)
              obtain ⟨y36, hy36, h⟩ := bnd1_some h
              refine G_q rfl (op_pure (m_frontier_encode_ok _ _ hy36) Try.func49 (by kernel_rfl) (LEs.cons (AV.le_eq rfl) LEs.nil) ?_)
              obtain ⟨y37, hy37, h⟩ := bnd1_some h
              refine G_l rfl (op_fun_1_1_1 (m_disk_Append_ok _ _ _ _ hy37) Try.func27 (by kernel_rfl) (LEs.cons (AV.le_eq rfl) (LEs.cons (AV.le_eq rfl) (LEs.cons (AV.le_eq rfl) LEs.nil))) (fun o38 => ?_))
              refine G_q rfl (op_assign (av := .exact (.int .i64 y37.1)) rfl ?_)
              refine G_nil ?_
              refine kC_normal ?_
              refine k_seq ?_
              refine k_reg .free hmixP (by kernel_rfl) ?_
              refine G_q rfl (op_move (av := .exact (.int .i64 y37.1)) rfl ?_)
              refine G_q rfl (op_neq rfl rfl ?_)
              refine G_nil ?_
              refine kC_normal ?_
              refine k_cond_d (p := ¬ y37.1 = 0) rfl (fun hc => ?_) (fun hc => ?_)
              · replace h := ite_t h hc
                refine k_seq ?_
                refine k_reg .free hmixP (by kernel_rfl) ?_
                refine G_q rfl (op_move (av := .exact (.int .i64 y37.1)) rfl ?_)
                refine G_q rfl (op_assign (av := .exact (.int .i64 y37.1)) rfl ?_)
                refine G_nil ?_
                refine kC_normal ?_
                refine k_ret ?_
                refine kB_ret ?_
                refine kC_ret ?_
                refine kI_ret ?_
                refine kB_ret ?_
                refine kI_ret ?_
                obtain rfl := Option.some.inj h
                refine kP_any (endN (af' := (AF.put AF0 (some 8) (.exact (.int .i64 y37.1)))) (σ' := [dskI w0 o38 y37.2]) _ rfl ?_ ⟨o38, rfl, rfl⟩)
                exact Sub.of_le (AF.le_put (AV.le_eq rfl) (AF.le_top _))
              · replace h := ite_f h hc
                refine k_skip ?_
                refine kB_normal ?_
                refine kC_normal ?_
                refine k_reg .free hmixP (by kernel_rfl) ?_
                refine G_q rfl (op_move (av := .exact (.int .i64 x10_l2)) rfl ?_)
                refine G_q rfl (op_move (av := .exact (.int .i64 a3)) rfl ?_)
                refine G_q rfl (op_add rfl rfl rfl ?_)
                refine G_q rfl (op_assign (av := .exact (.int .i64 (i64 (x10_l2 + a3)))) rfl ?_)
                refine G_nil ?_
                refine kI_normal ⟨_, _, o38, h, ?_⟩
                exact Sub.of_le (AF.le_put (AV.le_eq rfl) (AF.le_put (AV.le_eq rfl) (AF.le_put (AV.le_eq rfl) (AF.le_put (AV.le_eq rfl) (AF.le_put (AV.le_eq rfl) (AF.le_top _))))))
            · replace h := ite_f h hc
              refine k_exit ?_
              refine kC_exit ?_
              refine kI_exit ?_
              refine kB_exit ?_
              refine kI_normal ⟨_, o0_l2, h, ?_⟩
              exact Sub.of_le (AF.le_put (AV.le_eq rfl) (AF.le_put (AV.le_eq rfl) (AF.le_top _)))
        · refine k_seq ?_
          refine k_reg .free hmixP (by kernel_rfl) ?_
          refine G_q rfl (op_move (av := pA w0 0) rfl ?_)
          refine G_q rfl (op_move (av := .exact (.string (bs a1))) rfl ?_)
          obtain ⟨y39, hy39, h⟩ := bnd1_some h
          refine G_l rfl (op_fun_1_1_1 (m_disk_Sync_ok _ _ _ hy39) Try.func50 (by kernel_rfl) (LEs.cons (AV.le_eq rfl) (LEs.cons (AV.le_eq rfl) LEs.nil)) (fun o40 => ?_))
          refine G_q rfl (op_assign (av := .exact (.int .i64 y39.1)) rfl ?_)
          refine G_nil ?_
          refine kC_normal ?_
          refine k_ret ?_
          obtain rfl := Option.some.inj h
          refine kP_any (endN (af' := (AF.put AF0 (some 8) (.exact (.int .i64 y39.1)))) (σ' := [dskI w0 o40 y39.2]) _ rfl ?_ ⟨o40, rfl, rfl⟩)
          exact Sub.of_le (AF.le_put (AV.le_eq rfl) (AF.le_top _))
set_option maxHeartbeats 4000000 in
theorem m_frontier_read_ok {w0 : Nat} {w0o : List Nat} (a0 : Dk) (a1 : List UInt8) (r : (List (Int × Int)) × Int × Int × Dk) (h : m_frontier_read a0 a1 = some r) : Fun Try.prog 51 [(pA w0 0), (.exact (.string (bs a1)))] [dskI w0 w0o a0] (fun a s => ∃ zo0, a = .tup [.row 2 c_A2_int r.1, .exact (.int .i64 r.2.1), .exact (.int .i64 r.2.2.1)] ∧ s = [dskI w0 zo0 r.2.2.2]) := by
  unfold m_frontier_read at h
  refine fun_of_awp Try.func51 rfl Try.ntmps51 (by simp) rfl (res3 rfl) fun E hE => k_end ?_
  refine k_seq ?_
  refine k_reg .free hmixP (by kernel_rfl) ?_
  refine G_q rfl (op_assign (av := .exact (.slice none 0 0)) rfl ?_)
  refine G_q rfl (op_assign (av := .exact (.int .i64 0)) rfl ?_)
  refine G_q rfl (op_assign (av := .exact (.int .i64 0)) rfl ?_)
  refine G_nil ?_
  refine kC_normal ?_
  refine k_seq ?_
  refine k_reg .free hmixP (by kernel_rfl) ?_
  refine G_q rfl (op_move (av := pA w0 0) rfl ?_)
  refine G_q rfl (op_move (av := .exact (.string (bs a1))) rfl ?_)
  obtain ⟨y1, hy1, h⟩ := bnd1_some h
  refine G_l rfl (op_fun_1_1_1 (m_disk_Read_ok _ _ _ hy1) Try.func26 (by kernel_rfl) (LEs.cons (AV.le_eq rfl) (LEs.cons (AV.le_eq rfl) LEs.nil)) (fun o2 => ?_))
  refine G_q rfl (op_move (av := .tup [.row 1 c_uint8 y1.1, .exact (.int .i64 y1.2.1)]) rfl ?_)
  refine G_q rfl (op_extract (av := .row 1 c_uint8 y1.1) rfl rfl ?_)
  refine G_q rfl (op_extract (av := .exact (.int .i64 y1.2.1)) rfl rfl ?_)
  refine G_q rfl (op_assign (av := .row 1 c_uint8 y1.1) rfl ?_)
  refine G_q rfl (op_assign (av := .exact (.int .i64 y1.2.1)) rfl ?_)
  refine G_nil ?_
  refine kC_normal ?_
  refine k_seq ?_
  refine k_reg .free hmixP (by kernel_rfl) ?_
  refine G_q rfl (op_assign (av := .exact (.slice none 0 0)) rfl ?_)
  refine G_nil ?_
  refine kC_normal ?_
  refine k_seq ?_
  refine k_reg .free hmixP (by kernel_rfl) ?_
  refine G_q rfl (op_assign (av := .exact (.int .i64 0)) rfl ?_)
  refine G_nil ?_
  refine kC_normal ?_
  refine k_join3_1 h (fun (x8_j3 : Int) (x9_j3 : List (Int × Int)) (x10_j3 : Int) (v9_j3 : Value) => (AF.put (AF.put (AF.put (AF.put AF0 (some 0) (pA w0 0)) (some 8) (.exact (.int .i64 x8_j3))) (some 9) (.exact v9_j3)) (some 10) (.exact (.int .i64 x10_j3)))) (fun (x8_j3 : Int) (x9_j3 : List (Int × Int)) (x10_j3 : Int) (v9_j3 : Value) => [dskI w0 o2 y1.2.2, vecT Try.prog 23 2 c_A2_int v9_j3 x9_j3]) (fun k3 h => ?_) (fun x8_j3 x9_j3 x10_j3 v9_j3 h => ?_)
  · refine k_seq ?_
    refine k_reg .free hmixP (by kernel_rfl) ?_
    refine G_q rfl (op_assign (av := .exact (.int .i64 0)) rfl ?_)
    refine G_nil ?_
    refine kC_normal ?_
    refine k_block ?_
    refine k_loop4_1 (m_frontier_read_L2 y1 k3) (m_frontier_read_B2 y1 k3) (fun _ _ _ _ => rfl) (fun m _ _ _ _ => rfl) h (fun (x8_l2 : Int) (x9_l2 : List (Int × Int)) (x10_l2 : Int) (x11_l2 : Int) (v9_l2 : Value) => (AF.put (AF.put (AF.put (AF.put (AF.put (AF.put AF0 (some 0) (pA w0 0)) (some 7) (.row 1 c_uint8 y1.1)) (some 8) (.exact (.int .i64 x8_l2))) (some 9) (.exact v9_l2)) (some 10) (.exact (.int .i64 x10_l2))) (some 11) (.exact (.int .i64 x11_l2)))) (fun (x8_l2 : Int) (x9_l2 : List (Int × Int)) (x10_l2 : Int) (x11_l2 : Int) (v9_l2 : Value) => [dskI w0 o2 y1.2.2, vecT Try.prog 23 2 c_A2_int v9_l2 x9_l2]) (.slice none 0 0) ?_ (fun rec2 x8_l2 x9_l2 x10_l2 x11_l2 v9_l2 h => ?_)
    · refine Sub.trans (SubU.to (SubU.nilT (P := Try.prog) (t := 23) (n := 2) (enc := c_A2_int))) ?_
      refine Sub.trans (SubU.to SubU.f1) ?_
      exact Sub.of_le (AF.le_put (AV.le_eq rfl) (AF.le_put (AV.le_eq rfl) (AF.le_put (AV.le_eq rfl) (AF.le_put (AV.le_eq rfl) (AF.le_put (AV.le_eq rfl) (AF.le_put (AV.le_eq rfl) (AF.le_top _)))))))
    · unfold m_frontier_read_B2 at h
      refine k_seq ?_
      refine k_join1_0 h (fun (x26_j175 : Bool) => (AF.put (AF.put (AF.put (AF.put (AF.put (AF.put (AF.put AF0 (some 0) (pA w0 0)) (some 7) (.row 1 c_uint8 y1.1)) (some 8) (.exact (.int .i64 x8_l2))) (some 9) (.exact v9_l2)) (some 10) (.exact (.int .i64 x10_l2))) (some 11) (.exact (.int .i64 x11_l2))) (some 26) (.exact (.bool x26_j175)))) (fun (x26_j175 : Bool) => [dskI w0 o2 y1.2.2, vecT Try.prog 23 2 c_A2_int v9_l2 x9_l2]) (fun k175 h => ?_) (fun x26_j175 h => ?_)
      · refine k_reg .free hmixP (by kernel_rfl) ?_
        refine G_q rfl (op_move (av := .exact (.int .i64 x8_l2)) rfl ?_)
        refine G_q rfl (op_eql rfl rfl ?_)
        refine G_q rfl (op_move (av := .exact (.bool (decide (x8_l2 = 0)))) rfl ?_)
        refine G_split (p := x8_l2 = 0) 21 rfl (fun hc => ?_) (fun hc => ?_)
        · replace h := ite_t h hc
          refine Gy_q rfl rfl rfl (op_move (av := .exact (.int .i64 x11_l2)) rfl ?_)
          refine Gy_q rfl rfl rfl (op_move (av := .row 1 c_uint8 y1.1) rfl ?_)
          refine Gy_q rfl rfl rfl (op_len_row (by kernel_rfl) rfl ?_)
          refine Gy_q rfl rfl rfl (op_lss rfl rfl ?_)
          refine G_q rfl (op_pick_t rfl (av := .exact (.bool (decide (x11_l2 < (List.length y1.1 : Int))))) rfl ?_)
          refine G_nil ?_
          refine kI_normal ⟨_, h, ?_⟩
          exact Sub.of_le (AF.le_put (AV.le_eq rfl) (AF.le_put (AV.le_eq rfl) (AF.le_put (AV.le_eq rfl) (AF.le_put (AV.le_eq rfl) (AF.le_put (AV.le_eq rfl) (AF.le_put (AV.le_eq rfl) (AF.le_put (AV.le_eq rfl) (AF.le_top _))))))))
        · replace h := ite_f h hc
          refine G_n rfl rfl ?_
          refine G_n rfl rfl ?_
          refine G_n rfl rfl ?_
          refine G_n rfl rfl ?_
          refine G_q rfl (op_pick_f rfl (av := .exact (.bool false)) rfl ?_)
          refine G_nil ?_
          refine kI_normal ⟨_, h, ?_⟩
          exact Sub.of_le (AF.le_put (AV.le_eq rfl) (AF.le_put (AV.le_eq rfl) (AF.le_put (AV.le_eq rfl) (AF.le_put (AV.le_eq rfl) (AF.le_put (AV.le_eq rfl) (AF.le_put (AV.le_eq rfl) (AF.le_put (AV.le_eq rfl) (AF.le_top _))))))))
      · refine k_cond_b (c := x26_j175) rfl (fun hc => ?_) (fun hc => ?_)
        · replace h := ite_t h hc
          refine k_skip ?_
          refine kC_normal ?_
          refine k_seq ?_
          refine k_block ?_
          refine k_seq ?_
          refine k_reg .free hmixP (by kernel_rfl) ?_
          refine G_q rfl (op_assign (av := .exact (.slice none 0 0)) rfl ?_)
          refine G_nil ?_
          refine kC_normal ?_
          refine k_seq ?_
          refine k_reg .free hmixP (by kernel_rfl) ?_
          refine G_q rfl (op_move (av := .row 1 c_uint8 y1.1) rfl ?_)
          refine G_q rfl (op_move (av := .exact (.int .i64 x11_l2)) rfl ?_)
          obtain ⟨y195, hy195, h⟩ := bnd1_some h
          refine G_q rfl (op_pure (m_frontier_DecodeBlock_ok _ _ _ hy195) Try.func45 (by kernel_rfl) (LEs.cons (AV.le_eq rfl) (LEs.cons (AV.le_eq rfl) LEs.nil)) ?_)
          refine G_q rfl (op_move (av := .tup [.row 2 c_A2_int y195.1, .exact (.int .i64 y195.2.1), .exact (.int .i64 y195.2.2)]) rfl ?_)
          refine G_q rfl (op_extract (av := .row 2 c_A2_int y195.1) rfl rfl ?_)
          refine G_q rfl (op_extract (av := .exact (.int .i64 y195.2.1)) rfl rfl ?_)
          refine G_q rfl (op_extract (av := .exact (.int .i64 y195.2.2)) rfl rfl ?_)
          refine G_q rfl (op_assign (av := .row 2 c_A2_int y195.1) rfl ?_)
          refine G_q rfl (op_assign (av := .exact (.int .i64 y195.2.1)) rfl ?_)
          refine G_q rfl (op_assign (av := .exact (.int .i64 y195.2.2)) rfl ?_)
          refine G_nil ?_
          refine kC_normal ?_
          refine k_join1_0 h (fun (x8_j196 : Int) => (AF.put (AF.put (AF.put (AF.put (AF.put (AF.put (AF.put AF0 (some 0) (pA w0 0)) (some 7) (.row 1 c_uint8 y1.1)) (some 8) (.exact (.int .i64 x8_j196))) (some 9) (.exact v9_l2)) (some 10) (.exact (.int .i64 x10_l2))) (some 11) (.exact (.int .i64 y195.2.1))) (some 12) (.row 2 c_A2_int y195.1))) (fun (x8_j196 : Int) => [dskI w0 o2 y1.2.2, vecT Try.prog 23 2 c_A2_int v9_l2 x9_l2]) (fun k196 h => ?_) (fun x8_j196 h => ?_)
          · refine k_join1_0 h (fun (x55_j204 : Bool) => (AF.put (AF.put (AF.put (AF.put (AF.put (AF.put (AF.put (AF.put AF0 (some 0) (pA w0 0)) (some 7) (.row 1 c_uint8 y1.1)) (some 8) (.exact (.int .i64 y195.2.2))) (some 9) (.exact v9_l2)) (some 10) (.exact (.int .i64 x10_l2))) (some 11) (.exact (.int .i64 y195.2.1))) (some 12) (.row 2 c_A2_int y195.1)) (some 55) (.exact (.bool x55_j204)))) (fun (x55_j204 : Bool) => [dskI w0 o2 y1.2.2, vecT Try.prog 23 2 c_A2_int v9_l2 x9_l2]) (fun k204 h => ?_) (fun x55_j204 h => ?_)
            · refine k_plan [] [(0, 0), (0, 1), (0, 2), (0, 3), (1, 4), (0, 5), (0, 6), (0, 7), (0, 8), (0, 9), (0, 14), (0, 15), (0, 16), (1, 10), (0, 11), (1, 12), (1, 13), (0, 17), (0, 18), (0, 19)] hmixP (by kernel_rfl) ?_
              refine P_q no34_0 rfl (op_move (av := .exact (.int .i64 y195.2.2)) rfl ?_)
              refine P_q no34_0 rfl (op_eql rfl rfl ?_)
              refine P_q no34_0 rfl (op_move (av := .exact (.bool (decide (y195.2.2 = 0)))) rfl ?_)
              refine P_split (p := y195.2.2 = 0) 38 rfl (fun hc => ?_) (fun hc => ?_)
              · replace h := ite_t h hc
                refine Py_q no34_0 rfl rfl rfl (op_move (av := .exact v9_l2) rfl ?_)
                refine Py_r rfl rfl rfl (opR_f1 (op_len_vec (by kernel_rfl) rfl ?_))
                refine Py_q no34_0 rfl rfl rfl (op_gtr rfl rfl ?_)
                refine P_q no34_0 rfl (op_pick_t rfl (av := .exact (.bool (decide (0 < (List.length x9_l2 : Int))))) rfl ?_)
                refine P_q no34_0 rfl (op_move (av := .exact (.bool (decide (0 < (List.length x9_l2 : Int))))) rfl ?_)
                refine P_split (p := 0 < (List.length x9_l2 : Int)) 43 rfl (fun hc => ?_) (fun hc => ?_)
                · replace h := ite_t h hc
                  refine Py_q no34_0 rfl rfl rfl (op_move (av := .exact v9_l2) rfl ?_)
                  refine Py_q no34_0 rfl rfl rfl (op_move (av := .exact v9_l2) rfl ?_)
                  refine Py_q no34_0 rfl rfl rfl (op_move (av := .row 2 c_A2_int y195.1) rfl ?_)
                  obtain ⟨n208, h⟩ := need_some h
                  refine Py_q no34_0 rfl rfl rfl (op_index_row (by kernel_rfl) rfl rfl n208.1 n208.2 ?_)
                  refine Py_q no34_0 rfl rfl rfl (op_loadNp (m := 2) (c' := c_A2_int (gi y195.1 0)) (by kernel_rfl) rfl rfl rfl ?_)
                  refine Py_r rfl rfl rfl (opR_f1 (op_len_vec (by kernel_rfl) rfl ?_))
                  refine Py_q no34_0 rfl rfl rfl (op_sub rfl rfl rfl ?_)
                  obtain ⟨n209, h⟩ := need_some h
                  refine Py_r rfl rfl rfl (opR_f1 (op_index_vec (by kernel_rfl) rfl rfl n209.1 n209.2 ?_))
                  refine Py_r rfl rfl rfl (opR_f1 (op_load_vecN (i := i64 ((List.length x9_l2 : Int) - 1)) (o := 0) (m := 2) (c' := c_A2_int (gi x9_l2 (i64 ((List.length x9_l2 : Int) - 1)))) (by kernel_rfl) len_c_A2_int rfl n209.1 n209.2 rfl rfl ?_))
                  obtain ⟨y210, hy210, h⟩ := bnd1_some h
                  refine Py_q no34_0 rfl rfl rfl (op_pure (m_frontier_compare_ok _ _ _ hy210) Try.func61 (by kernel_rfl) (LEs.cons (AV.le_eq rfl) (LEs.cons (AV.le_eq rfl) LEs.nil)) ?_)
                  refine Py_q no34_0 rfl rfl rfl (op_geq rfl rfl ?_)
                  refine P_q no34_0 rfl (op_pick_t rfl (av := .exact (.bool (decide (0 ≤ y210)))) rfl ?_)
                  refine P_nil ?_
                  refine kI_normal ⟨_, h, ?_⟩
                  exact Sub.of_le (AF.le_put (AV.le_eq rfl) (AF.le_put (AV.le_eq rfl) (AF.le_put (AV.le_eq rfl) (AF.le_put (AV.le_eq rfl) (AF.le_put (AV.le_eq rfl) (AF.le_put (AV.le_eq rfl) (AF.le_put (AV.le_eq rfl) (AF.le_put (AV.le_eq rfl) (AF.le_top _)))))))))
                · replace h := ite_f h hc
                  refine P_n no34_0 rfl rfl rfl ?_
                  refine P_n no34_0 rfl rfl rfl ?_
                  refine P_n no34_0 rfl rfl rfl ?_
                  refine P_n no34_0 rfl rfl rfl ?_
                  refine P_n no34_0 rfl rfl rfl ?_
                  refine P_n no34_1 rfl rfl rfl ?_
                  refine P_n no34_0 rfl rfl rfl ?_
                  refine P_n no34_1 rfl rfl rfl ?_
                  refine P_n no34_1 rfl rfl rfl ?_
                  refine P_n no34_0 rfl rfl rfl ?_
                  refine P_n no34_0 rfl rfl rfl ?_
                  refine P_q no34_0 rfl (op_pick_f rfl (av := .exact (.bool false)) rfl ?_)
                  refine P_nil ?_
                  refine kI_normal ⟨_, h, ?_⟩
                  exact Sub.of_le (AF.le_put (AV.le_eq rfl) (AF.le_put (AV.le_eq rfl) (AF.le_put (AV.le_eq rfl) (AF.le_put (AV.le_eq rfl) (AF.le_put (AV.le_eq rfl) (AF.le_put (AV.le_eq rfl) (AF.le_put (AV.le_eq rfl) (AF.le_put (AV.le_eq rfl) (AF.le_top _)))))))))
              · replace h := ite_f h hc
                refine P_n no34_0 rfl rfl rfl ?_
                refine P_n no34_1 rfl rfl rfl ?_
                refine P_n no34_0 rfl rfl rfl ?_
                refine P_q no34_0 rfl (op_pick_f rfl (av := .exact (.bool false)) rfl ?_)
                refine P_q no34_0 rfl (op_move (av := .exact (.bool false)) rfl ?_)
                refine P_n no34_0 rfl rfl rfl ?_
                refine P_n no34_0 rfl rfl rfl ?_
                refine P_n no34_0 rfl rfl rfl ?_
                refine P_n no34_0 rfl rfl rfl ?_
                refine P_n no34_0 rfl rfl rfl ?_
                refine P_n no34_1 rfl rfl rfl ?_
                refine P_n no34_0 rfl rfl rfl ?_
                refine P_n no34_1 rfl rfl rfl ?_
                refine P_n no34_1 rfl rfl rfl ?_
                refine P_n no34_0 rfl rfl rfl ?_
                refine P_n no34_0 rfl rfl rfl ?_
                refine P_q no34_0 rfl (op_pick_f rfl (av := .exact (.bool false)) rfl ?_)
                refine P_nil ?_
                refine kI_normal ⟨_, h, ?_⟩
                exact Sub.of_le (AF.le_put (AV.le_eq rfl) (AF.le_put (AV.le_eq rfl) (AF.le_put (AV.le_eq rfl) (AF.le_put (AV.le_eq rfl) (AF.le_put (AV.le_eq rfl) (AF.le_put (AV.le_eq rfl) (AF.le_put (AV.le_eq rfl) (AF.le_put (AV.le_eq rfl) (AF.le_top _)))))))))
            · refine k_cond_b (c := x55_j204) rfl (fun hc => ?_) (fun hc => ?_)
              · replace h := ite_t h hc
                refine k_reg .free hmixP (by kernel_rfl) ?_
                refine G_q rfl (op_assign (av := .exact (.int .i64 22)) rfl ?_)
                refine G_nil ?_
                refine kI_normal ⟨_, h, ?_⟩
                exact Sub.of_le (AF.le_put (AV.le_eq rfl) (AF.le_put (AV.le_eq rfl) (AF.le_put (AV.le_eq rfl) (AF.le_put (AV.le_eq rfl) (AF.le_put (AV.le_eq rfl) (AF.le_put (AV.le_eq rfl) (AF.le_put (AV.le_eq rfl) (AF.le_top _))))))))
              · replace h := ite_f h hc
                refine k_skip ?_
                refine kI_normal ⟨_, h, ?_⟩
                exact Sub.of_le (AF.le_put (AV.le_eq rfl) (AF.le_put (AV.le_eq rfl) (AF.le_put (AV.le_eq rfl) (AF.le_put (AV.le_eq rfl) (AF.le_put (AV.le_eq rfl) (AF.le_put (AV.le_eq rfl) (AF.le_put (AV.le_eq rfl) (AF.le_top _))))))))
          · refine k_reg .free hmixP (by kernel_rfl) ?_
            refine G_q rfl (op_move (av := .exact v9_l2) rfl ?_)
            refine G_q rfl (op_move (av := .row 2 c_A2_int y195.1) rfl ?_)
            obtain ⟨n211, h⟩ := need_some h
            refine G_l rfl (opB_f1 (op_appT (by kernel_rfl) rfl rfl oc_c_A2_int n211 (fun v212 => ?_)))
            refine G_q rfl (op_assign (av := .exact v212) rfl ?_)
            refine G_nil ?_
            refine kB_normal ?_
            refine kC_normal ?_
            refine k_reg .free hmixP (by kernel_rfl) ?_
            refine G_q rfl (op_move (av := .exact (.int .i64 x10_l2)) rfl ?_)
            refine G_q rfl (op_add rfl rfl rfl ?_)
            refine G_q rfl (op_assign (av := .exact (.int .i64 (i64 (x10_l2 + 1)))) rfl ?_)
            refine G_nil ?_
            refine kI_normal ⟨_, _, _, _, v212, h, ?_⟩
            refine Sub.trans (SubU.to SubU.f1) ?_
            exact Sub.of_le (AF.le_put (AV.le_eq rfl) (AF.le_put (AV.le_eq rfl) (AF.le_put (AV.le_eq rfl) (AF.le_put (AV.le_eq rfl) (AF.le_put (AV.le_eq rfl) (AF.le_put (AV.le_eq rfl) (AF.le_top _)))))))
        · replace h := ite_f h hc
          refine k_exit ?_
          refine kC_exit ?_
          refine kI_exit ?_
          refine kB_exit ?_
          refine kI_normal ⟨_, _, _, v9_l2, h, ?_⟩
          exact Sub.of_le (AF.le_put (AV.le_eq rfl) (AF.le_put (AV.le_eq rfl) (AF.le_put (AV.le_eq rfl) (AF.le_put (AV.le_eq rfl) (AF.le_top _)))))
  · refine k_seq ?_
    refine k_seq ?_
    refine k_reg .free hmixP (by kernel_rfl) ?_
    refine G_q rfl (op_move (av := .exact (.int .i64 x8_j3)) rfl ?_)
    refine G_q rfl (op_neq rfl rfl ?_)
    refine G_nil ?_
    refine kC_normal ?_
    refine k_cond_d (p := ¬ x8_j3 = 0) rfl (fun hc => ?_) (fun hc => ?_)
    · replace h := ite_t h hc
      refine k_seq ?_
      refine k_reg .free hmixP (by kernel_rfl) ?_
      refine G_q rfl (op_move (av := .exact (.int .i64 x8_j3)) rfl ?_)
      refine G_q rfl (op_assign (av := .exact (.slice none 0 0)) rfl ?_)
      refine G_q rfl (op_assign (av := .exact (.int .i64 0)) rfl ?_)
      refine G_q rfl (op_assign (av := .exact (.int .i64 x8_j3)) rfl ?_)
      refine G_nil ?_
      refine kC_normal ?_
      refine k_ret ?_
      refine kC_ret ?_
      obtain rfl := Option.some.inj h
      refine kP_any (endN (af' := (AF.put (AF.put (AF.put AF0 (some 4) (.row 2 c_A2_int [])) (some 5) (.exact (.int .i64 0))) (some 6) (.exact (.int .i64 x8_j3)))) (σ' := [dskI w0 o2 y1.2.2]) _ rfl ?_ ⟨o2, rfl, rfl⟩)
      refine Sub.trans (SubU.to SubU.f1) ?_
      refine Sub.trans (SubU.to SubU.drop) ?_
      exact Sub.of_le (AF.le_put (AV.le_eq rfl) (AF.le_put (AV.le_eq rfl) (AF.le_put (row_nil (by decide)) (AF.le_top _))))
    · replace h := ite_f h hc
      refine k_skip ?_
      refine kC_normal ?_
      refine k_seq ?_
      refine k_reg .free hmixP (by kernel_rfl) ?_
      refine G_q rfl (op_move (av := .exact v9_j3) rfl ?_)
      refine G_q rfl (op_move (av := .exact (.int .i64 x10_j3)) rfl ?_)
      refine G_q rfl (op_assign (av := .exact v9_j3) rfl ?_)
      refine G_q rfl (op_assign (av := .exact (.int .i64 x10_j3)) rfl ?_)
      refine G_q rfl (op_assign (av := .exact (.int .i64 0)) rfl ?_)
      refine G_nil ?_
      refine kC_normal ?_
      refine k_ret ?_
      obtain rfl := Option.some.inj h
      refine kP_any (endN (af' := (AF.put (AF.put (AF.put AF0 (some 4) (.row 2 c_A2_int x9_j3)) (some 5) (.exact (.int .i64 x10_j3))) (some 6) (.exact (.int .i64 0)))) (σ' := [dskI w0 o2 y1.2.2]) _ rfl ?_ ⟨o2, rfl, rfl⟩)
      refine Sub.trans (SubU.to SubU.f1) ?_
      refine Sub.trans (SubU.to (SubU.freezeT (s := 4) rfl len_c_A2_int)) ?_
      exact Sub.of_le (AF.le_put (AV.le_eq rfl) (AF.le_put (AV.le_eq rfl) (AF.le_put (AV.le_eq rfl) (AF.le_top _))))
set_option maxHeartbeats 4000000 in
theorem m_frontier_Blocks_ok {w0 : Nat} {w0o : List Nat} (a0 : Dk) (a1 : List UInt8) (r : Int × Int × Dk) (h : m_frontier_Blocks a0 a1 = some r) : Fun Try.prog 24 [(pA w0 0), (.exact (.string (bs a1)))] [dskI w0 w0o a0] (fun a s => ∃ zo0, a = .tup [.exact (.int .i64 r.1), .exact (.int .i64 r.2.1)] ∧ s = [dskI w0 zo0 r.2.2]) := by
  unfold m_frontier_Blocks at h
  refine fun_of_awp Try.func24 rfl Try.ntmps24 (by simp) rfl (res2 rfl) fun E hE => k_end ?_
  refine k_seq ?_
  refine k_reg .free hmixP (by kernel_rfl) ?_
  refine G_q rfl (op_assign (av := .exact (.int .i64 0)) rfl ?_)
  refine G_q rfl (op_assign (av := .exact (.int .i64 0)) rfl ?_)
  refine G_nil ?_
  refine kC_normal ?_
  refine k_seq ?_
  refine k_reg .free hmixP (by kernel_rfl) ?_
  refine G_q rfl (op_move (av := pA w0 0) rfl ?_)
  refine G_q rfl (op_move (av := .exact (.string (bs a1))) rfl ?_)
  obtain ⟨y1, hy1, h⟩ := bnd1_some h
  refine G_l rfl (op_fun_1_1_1 (m_frontier_read_ok _ _ _ hy1) Try.func51 (by kernel_rfl) (LEs.cons (AV.le_eq rfl) (LEs.cons (AV.le_eq rfl) LEs.nil)) (fun o2 => ?_))
  refine G_q rfl (op_move (av := .tup [.row 2 c_A2_int y1.1, .exact (.int .i64 y1.2.1), .exact (.int .i64 y1.2.2.1)]) rfl ?_)
  refine G_q rfl (op_extract (av := .row 2 c_A2_int y1.1) rfl rfl ?_)
  refine G_q rfl (op_extract (av := .exact (.int .i64 y1.2.1)) rfl rfl ?_)
  refine G_q rfl (op_extract (av := .exact (.int .i64 y1.2.2.1)) rfl rfl ?_)
  refine G_q rfl (op_assign (av := .row 2 c_A2_int y1.1) rfl ?_)
  refine G_q rfl (op_assign (av := .exact (.int .i64 y1.2.1)) rfl ?_)
  refine G_q rfl (op_assign (av := .exact (.int .i64 y1.2.2.1)) rfl ?_)
  refine G_nil ?_
  refine kC_normal ?_
  refine k_seq ?_
  refine k_reg .free hmixP (by kernel_rfl) ?_
  refine G_q rfl (op_move (av := .exact (.int .i64 y1.2.1)) rfl ?_)
  refine G_q rfl (op_move (av := .exact (.int .i64 y1.2.2.1)) rfl ?_)
  refine G_q rfl (op_assign (av := .exact (.int .i64 y1.2.1)) rfl ?_)
  refine G_q rfl (op_assign (av := .exact (.int .i64 y1.2.2.1)) rfl ?_)
  refine G_nil ?_
  refine kC_normal ?_
  refine k_ret ?_
  obtain rfl := Option.some.inj h
  refine kP_any (endN (af' := (AF.put (AF.put AF0 (some 4) (.exact (.int .i64 y1.2.1))) (some 5) (.exact (.int .i64 y1.2.2.1)))) (σ' := [dskI w0 o2 y1.2.2.2]) _ rfl ?_ ⟨o2, rfl, rfl⟩)
  exact Sub.of_le (AF.le_put (AV.le_eq rfl) (AF.le_put (AV.le_eq rfl) (AF.le_top _)))
set_option maxHeartbeats 4000000 in
theorem m_frontier_Read_ok {w0 : Nat} {w0o : List Nat} (a0 : Dk) (a1 : List UInt8) (r : (List (Int × Int)) × Int × Dk) (h : m_frontier_Read a0 a1 = some r) : Fun Try.prog 23 [(pA w0 0), (.exact (.string (bs a1)))] [dskI w0 w0o a0] (fun a s => ∃ zo0, a = .tup [.row 2 c_A2_int r.1, .exact (.int .i64 r.2.1)] ∧ s = [dskI w0 zo0 r.2.2]) := by
  unfold m_frontier_Read at h
  refine fun_of_awp Try.func23 rfl Try.ntmps23 (by simp) rfl (res2 rfl) fun E hE => k_end ?_
  refine k_seq ?_
  refine k_reg .free hmixP (by kernel_rfl) ?_
  refine G_q rfl (op_assign (av := .exact (.slice none 0 0)) rfl ?_)
  refine G_q rfl (op_assign (av := .exact (.int .i64 0)) rfl ?_)
  refine G_nil ?_
  refine kC_normal ?_
  refine k_seq ?_
  refine k_reg .free hmixP (by kernel_rfl) ?_
  refine G_q rfl (op_move (av := pA w0 0) rfl ?_)
  refine G_q rfl (op_move (av := .exact (.string (bs a1))) rfl ?_)
  obtain ⟨y1, hy1, h⟩ := bnd1_some h
  refine G_l rfl (op_fun_1_1_1 (m_frontier_read_ok _ _ _ hy1) Try.func51 (by kernel_rfl) (LEs.cons (AV.le_eq rfl) (LEs.cons (AV.le_eq rfl) LEs.nil)) (fun o2 => ?_))
  refine G_q rfl (op_move (av := .tup [.row 2 c_A2_int y1.1, .exact (.int .i64 y1.2.1), .exact (.int .i64 y1.2.2.1)]) rfl ?_)
  refine G_q rfl (op_extract (av := .row 2 c_A2_int y1.1) rfl rfl ?_)
  refine G_q rfl (op_extract (av := .exact (.int .i64 y1.2.1)) rfl rfl ?_)
  refine G_q rfl (op_extract (av := .exact (.int .i64 y1.2.2.1)) rfl rfl ?_)
  refine G_q rfl (op_assign (av := .row 2 c_A2_int y1.1) rfl ?_)
  refine G_q rfl (op_assign (av := .exact (.int .i64 y1.2.1)) rfl ?_)
  refine G_q rfl (op_assign (av := .exact (.int .i64 y1.2.2.1)) rfl ?_)
  refine G_nil ?_
  refine kC_normal ?_
  refine k_seq ?_
  refine k_reg .free hmixP (by kernel_rfl) ?_
  refine G_q rfl (op_move (av := .row 2 c_A2_int y1.1) rfl ?_)
  refine G_q rfl (op_move (av := .exact (.int .i64 y1.2.2.1)) rfl ?_)
  refine G_q rfl (op_assign (av := .row 2 c_A2_int y1.1) rfl ?_)
  refine G_q rfl (op_assign (av := .exact (.int .i64 y1.2.2.1)) rfl ?_)
  refine G_nil ?_
  refine kC_normal ?_
  refine k_ret ?_
  obtain rfl := Option.some.inj h
  refine kP_any (endN (af' := (AF.put (AF.put AF0 (some 4) (.row 2 c_A2_int y1.1)) (some 5) (.exact (.int .i64 y1.2.2.1)))) (σ' := [dskI w0 o2 y1.2.2.2]) _ rfl ?_ ⟨o2, rfl, rfl⟩)
  exact Sub.of_le (AF.le_put (AV.le_eq rfl) (AF.le_put (AV.le_eq rfl) (AF.le_top _)))
set_option maxHeartbeats 4000000 in
theorem m_law36_FrontierRoundTrip_ok (a0 : List Int) (a1 : Int) (r : Bool) (h : m_law36_FrontierRoundTrip a0 a1 = some r) : Pure Try.prog 5 [(.row 1 c_int a0), (.exact (.int .i64 a1))] (.exact (.bool r)) := by
  unfold m_law36_FrontierRoundTrip at h
  refine Pure.ofFun (fun_of_awp Try.func5 rfl Try.ntmps5 (by simp) rfl (res1 rfl) fun E hE => k_end ?_)
  refine k_seq ?_
  refine k_reg .free hmixP (by kernel_rfl) ?_
  refine G_q rfl (op_assign (av := .exact (.bool false)) rfl ?_)
  refine G_nil ?_
  refine kC_normal ?_
  refine k_seq ?_
  refine k_reg .free hmixP (by kernel_rfl) ?_
  refine G_q rfl (op_move (av := .row 1 c_int a0) rfl ?_)
  obtain ⟨y1, hy1, h⟩ := bnd1_some h
  refine G_l rfl (op_fun_0_1_1 (m_gen2_New_ok _ _ hy1) Try.func10 (by kernel_rfl) (LEs.cons (AV.le_eq rfl) LEs.nil) (fun b2 => ?_))
  refine G_q rfl (op_assign (av := pA b2 0) rfl ?_)
  refine G_nil ?_
  refine kC_normal ?_
  refine k_seq ?_
  refine k_reg .free hmixP (by kernel_rfl) ?_
  refine G_q rfl (op_move (av := pA b2 0) rfl ?_)
  obtain ⟨y3, hy3, h⟩ := bnd1_some h
  refine G_l rfl (op_fun_1_1_2 (m_law36_run_ok _ _ _ hy3) Try.func12 (by kernel_rfl) (LEs.cons (AV.le_eq rfl) (LEs.cons (AV.le_eq rfl) LEs.nil)) (fun v4 => ?_))
  refine G_q rfl (op_assign (av := .exact v4) rfl ?_)
  refine G_nil ?_
  refine kC_normal ?_
  refine k_seq ?_
  refine k_reg .free hmixP (by kernel_rfl) ?_
  refine G_q rfl (op_move (av := .exact (.int .i64 a1)) rfl ?_)
  refine G_q rfl (op_litT (n := 1) (enc := c_int) [a1] (CellsAll.cons rfl CellsOf.int CellsAll.nil) rfl (by kernel_rfl) (LEss.cons (LEs.cons (AV.le_eq rfl) LEs.nil) LEss.nil) ?_)
  obtain ⟨y5, hy5, h⟩ := bnd1_some h
  refine G_l rfl (op_fun_0_1_1 (m_gen2_New_ok _ _ hy5) Try.func10 (by kernel_rfl) (LEs.cons (AV.le_eq rfl) LEs.nil) (fun b6 => ?_))
  obtain ⟨y7, hy7, h⟩ := bnd1_some h
  refine G_l rfl (op_fun_1_0_1 (m_gen2_Tape_Next_ok _ _ _ hy7) Try.func14 (by kernel_rfl) (LEs.cons (AV.le_eq rfl) (LEs.cons (AV.le_eq rfl) LEs.nil)) ?_)
  refine G_q rfl (op_add rfl rfl rfl ?_)
  refine G_q rfl (op_assign (av := .exact (.int .i64 (i64 (1 + y7.1)))) rfl ?_)
  refine G_nil ?_
  refine kC_normal ?_
  refine k_seq ?_
  refine k_reg .free hmixP (by kernel_rfl) ?_
  obtain ⟨y8, hy8, h⟩ := bnd1_some h
  refine G_l rfl (op_fun_0_2_1 (m_disk_New_ok _ _ hy8) Try.func21 (by kernel_rfl) (LEs.cons (AV.le_eq rfl) LEs.nil) (fun b9 b9o => ?_))
  refine G_q rfl (op_move (av := .tup [pA b9 0, .exact (.int .i64 y8.2)]) rfl ?_)
  refine G_q rfl (op_extract (av := pA b9 0) rfl rfl ?_)
  refine G_q rfl (op_extract (av := .exact (.int .i64 y8.2)) rfl rfl ?_)
  refine G_q rfl (op_assign (av := pA b9 0) rfl ?_)
  refine G_q rfl (op_assign (av := .exact (.int .i64 y8.2)) rfl ?_)
  refine G_nil ?_
  refine kC_normal ?_
  refine k_seq ?_
  refine k_reg .free hmixP (by kernel_rfl) ?_
  refine G_q rfl (op_move (av := pA b9 0) rfl ?_)
  refine G_q rfl (op_move (av := .exact v4) rfl ?_)
  refine G_q rfl (op_move (av := .exact (.int .i64 (i64 (1 + y7.1)))) rfl ?_)
  refine G_sub rfl (SubU.trans SubU.f2 (SubU.freezeT3 (s1 := 6) (s2 := 22) (s3 := 33) rfl rfl rfl len_c_A2_int)) ?_
  obtain ⟨y10, hy10, h⟩ := bnd1_some h
  refine G_l rfl (op_fun_1_1_1 (m_frontier_Write_ok _ _ _ _ _ hy10) Try.func22 (by kernel_rfl) (LEs.cons (AV.le_eq rfl) (LEs.cons (AV.le_eq rfl) (LEs.cons (AV.le_eq rfl) (LEs.cons (AV.le_eq rfl) LEs.nil)))) (fun o11 => ?_))
  refine G_q rfl (op_assign (av := .exact (.int .i64 y10.1)) rfl ?_)
  refine G_nil ?_
  refine kC_normal ?_
  refine k_seq ?_
  refine k_reg .free hmixP (by kernel_rfl) ?_
  refine G_q rfl (op_move (av := pA b9 0) rfl ?_)
  obtain ⟨y12, hy12, h⟩ := bnd1_some h
  refine G_l rfl (op_fun_1_1_1 (m_frontier_Read_ok _ _ _ hy12) Try.func23 (by kernel_rfl) (LEs.cons (AV.le_eq rfl) (LEs.cons (AV.le_eq rfl) LEs.nil)) (fun o13 => ?_))
  refine G_q rfl (op_move (av := .tup [.row 2 c_A2_int y12.1, .exact (.int .i64 y12.2.1)]) rfl ?_)
  refine G_q rfl (op_extract (av := .row 2 c_A2_int y12.1) rfl rfl ?_)
  refine G_q rfl (op_extract (av := .exact (.int .i64 y12.2.1)) rfl rfl ?_)
  refine G_q rfl (op_assign (av := .row 2 c_A2_int y12.1) rfl ?_)
  refine G_q rfl (op_assign (av := .exact (.int .i64 y12.2.1)) rfl ?_)
  refine G_nil ?_
  refine kC_normal ?_
  refine k_seq ?_
  refine k_reg .free hmixP (by kernel_rfl) ?_
  refine G_q rfl (op_move (av := pA b9 0) rfl ?_)
  obtain ⟨y14, hy14, h⟩ := bnd1_some h
  refine G_l rfl (op_fun_1_1_1 (m_frontier_Blocks_ok _ _ _ hy14) Try.func24 (by kernel_rfl) (LEs.cons (AV.le_eq rfl) (LEs.cons (AV.le_eq rfl) LEs.nil)) (fun o15 => ?_))
  refine G_q rfl (op_move (av := .tup [.exact (.int .i64 y14.1), .exact (.int .i64 y14.2.1)]) rfl ?_)
  refine G_q rfl (op_extract (av := .exact (.int .i64 y14.1)) rfl rfl ?_)
  refine G_q rfl (op_extract (av := .exact (.int .i64 y14.2.1)) rfl rfl ?_)
  refine G_q rfl (op_assign (av := .exact (.int .i64 y14.1)) rfl ?_)
  refine G_q rfl (op_assign (av := .exact (.int .i64 y14.2.1)) rfl ?_)
  refine G_nil ?_
  refine kC_normal ?_
  refine k_seq ?_
  refine k_join1_0 h (fun (x72_j22 : Bool) => (AF.put (AF.put (AF.put AF0 (some 5) (pA b2 0)) (some 8) (pA b9 0)) (some 72) (.exact (.bool x72_j22)))) (fun (x72_j22 : Bool) => [boxI 71 b2 [.row 1 c_int y3.2.1, .exact (.int .i64 y3.2.2)], dskI b9 o15 y14.2.2]) (fun k22 h => ?_) (fun x72_j22 h => ?_)
  · refine k_reg .free hmixP (by kernel_rfl) ?_
    refine G_q rfl (op_move (av := .exact (.int .i64 y10.1)) rfl ?_)
    refine G_q rfl (op_neq rfl rfl ?_)
    refine G_q rfl (op_move (av := .exact (.bool (decide (¬ y10.1 = 0)))) rfl ?_)
    refine G_split (p := ¬ y10.1 = 0) 48 rfl (fun hc => ?_) (fun hc => ?_)
    · replace h := ite_t h hc
      refine G_n rfl rfl ?_
      refine G_n rfl rfl ?_
      refine G_q rfl (op_pick_t rfl (av := .exact (.bool true)) rfl ?_)
      refine G_q rfl (op_move (av := .exact (.bool true)) rfl ?_)
      refine G_n rfl rfl ?_
      refine G_n rfl rfl ?_
      refine G_q rfl (op_pick_t rfl (av := .exact (.bool true)) rfl ?_)
      refine G_q rfl (op_move (av := .exact (.bool true)) rfl ?_)
      refine G_n rfl rfl ?_
      refine G_n rfl rfl ?_
      refine G_n rfl rfl ?_
      refine G_n rfl rfl ?_
      refine G_q rfl (op_pick_t rfl (av := .exact (.bool true)) rfl ?_)
      refine G_q rfl (op_move (av := .exact (.bool true)) rfl ?_)
      refine G_n rfl rfl ?_
      refine G_n rfl rfl ?_
      refine G_n rfl rfl ?_
      refine G_n rfl rfl ?_
      refine G_n rfl rfl ?_
      refine G_n rfl rfl ?_
      refine G_n rfl rfl ?_
      refine G_n rfl rfl ?_
      refine G_n rfl rfl ?_
      refine G_q rfl (op_pick_t rfl (av := .exact (.bool true)) rfl ?_)
      refine G_nil ?_
      refine kI_normal ⟨_, h, ?_⟩
      refine Sub.trans (SubU.to SubU.f1) ?_
      refine Sub.trans (SubU.to SubU.drop) ?_
      refine Sub.trans (SubU.to SubU.f1) ?_
      exact Sub.of_le (AF.le_put (AV.le_eq rfl) (AF.le_put (AV.le_eq rfl) (AF.le_put (AV.le_eq rfl) (AF.le_top _))))
    · replace h := ite_f h hc
      refine Gy_q rfl rfl rfl (op_move (av := .exact (.int .i64 y12.2.1)) rfl ?_)
      refine Gy_q rfl rfl rfl (op_neq rfl rfl ?_)
      refine G_q rfl (op_pick_f rfl (av := .exact (.bool (decide (¬ y12.2.1 = 0)))) rfl ?_)
      refine G_q rfl (op_move (av := .exact (.bool (decide (¬ y12.2.1 = 0)))) rfl ?_)
      refine G_split (p := ¬ y12.2.1 = 0) 52 rfl (fun hc => ?_) (fun hc => ?_)
      · replace h := ite_t h hc
        refine G_n rfl rfl ?_
        refine G_n rfl rfl ?_
        refine G_q rfl (op_pick_t rfl (av := .exact (.bool true)) rfl ?_)
        refine G_q rfl (op_move (av := .exact (.bool true)) rfl ?_)
        refine G_n rfl rfl ?_
        refine G_n rfl rfl ?_
        refine G_n rfl rfl ?_
        refine G_n rfl rfl ?_
        refine G_q rfl (op_pick_t rfl (av := .exact (.bool true)) rfl ?_)
        refine G_q rfl (op_move (av := .exact (.bool true)) rfl ?_)
        refine G_n rfl rfl ?_
        refine G_n rfl rfl ?_
        refine G_n rfl rfl ?_
        refine G_n rfl rfl ?_
        refine G_n rfl rfl ?_
        refine G_n rfl rfl ?_
        refine G_n rfl rfl ?_
        refine G_n rfl rfl ?_
        refine G_n rfl rfl ?_
        refine G_q rfl (op_pick_t rfl (av := .exact (.bool true)) rfl ?_)
        refine G_nil ?_
        refine kI_normal ⟨_, h, ?_⟩
        refine Sub.trans (SubU.to SubU.f1) ?_
        refine Sub.trans (SubU.to SubU.drop) ?_
        refine Sub.trans (SubU.to SubU.f1) ?_
        exact Sub.of_le (AF.le_put (AV.le_eq rfl) (AF.le_put (AV.le_eq rfl) (AF.le_put (AV.le_eq rfl) (AF.le_top _))))
      · replace h := ite_f h hc
        refine Gy_q rfl rfl rfl (op_move (av := .exact (.int .i64 y14.2.1)) rfl ?_)
        refine Gy_q rfl rfl rfl (op_neq rfl rfl ?_)
        refine G_q rfl (op_pick_f rfl (av := .exact (.bool (decide (¬ y14.2.1 = 0)))) rfl ?_)
        refine G_q rfl (op_move (av := .exact (.bool (decide (¬ y14.2.1 = 0)))) rfl ?_)
        refine G_split (p := ¬ y14.2.1 = 0) 56 rfl (fun hc => ?_) (fun hc => ?_)
        · replace h := ite_t h hc
          refine G_n rfl rfl ?_
          refine G_n rfl rfl ?_
          refine G_n rfl rfl ?_
          refine G_n rfl rfl ?_
          refine G_q rfl (op_pick_t rfl (av := .exact (.bool true)) rfl ?_)
          refine G_q rfl (op_move (av := .exact (.bool true)) rfl ?_)
          refine G_n rfl rfl ?_
          refine G_n rfl rfl ?_
          refine G_n rfl rfl ?_
          refine G_n rfl rfl ?_
          refine G_n rfl rfl ?_
          refine G_n rfl rfl ?_
          refine G_n rfl rfl ?_
          refine G_n rfl rfl ?_
          refine G_n rfl rfl ?_
          refine G_q rfl (op_pick_t rfl (av := .exact (.bool true)) rfl ?_)
          refine G_nil ?_
          refine kI_normal ⟨_, h, ?_⟩
          refine Sub.trans (SubU.to SubU.f1) ?_
          refine Sub.trans (SubU.to SubU.drop) ?_
          refine Sub.trans (SubU.to SubU.f1) ?_
          exact Sub.of_le (AF.le_put (AV.le_eq rfl) (AF.le_put (AV.le_eq rfl) (AF.le_put (AV.le_eq rfl) (AF.le_top _))))
        · replace h := ite_f h hc
          refine Gy_q rfl rfl rfl (op_move (av := .row 2 c_A2_int y3.1) rfl ?_)
          refine Gy_q rfl rfl rfl (op_move (av := .row 2 c_A2_int y12.1) rfl ?_)
          obtain ⟨y25, hy25, h⟩ := bnd1_some h
          refine Gy_q rfl rfl rfl (op_pure (m_law36_same_ok _ _ _ hy25) Try.func25 (by kernel_rfl) (LEs.cons (AV.le_eq rfl) (LEs.cons (AV.le_eq rfl) LEs.nil)) ?_)
          refine Gy_q rfl rfl rfl (op_not rfl ?_)
          refine G_q rfl (op_pick_f rfl (av := .exact (.bool (!y25))) rfl ?_)
          refine G_q rfl (op_move (av := .exact (.bool (!y25))) rfl ?_)
          refine G_splitB (c := !y25) 62 rfl (fun hc => ?_) (fun hc => ?_)
          · replace h := ite_t h hc
            refine G_n rfl rfl ?_
            refine G_n rfl rfl ?_
            refine G_n rfl rfl ?_
            refine G_n rfl rfl ?_
            refine G_n rfl rfl ?_
            refine G_n rfl rfl ?_
            refine G_n rfl rfl ?_
            refine G_n rfl rfl ?_
            refine G_n rfl rfl ?_
            refine G_q rfl (op_pick_t rfl (av := .exact (.bool true)) rfl ?_)
            refine G_nil ?_
            refine kI_normal ⟨_, h, ?_⟩
            refine Sub.trans (SubU.to SubU.f1) ?_
            refine Sub.trans (SubU.to SubU.drop) ?_
            refine Sub.trans (SubU.to SubU.f1) ?_
            exact Sub.of_le (AF.le_put (AV.le_eq rfl) (AF.le_put (AV.le_eq rfl) (AF.le_put (AV.le_eq rfl) (AF.le_top _))))
          · replace h := ite_f h hc
            refine Gy_q rfl rfl rfl (op_move (av := .exact (.int .i64 y14.1)) rfl ?_)
            refine Gy_q rfl rfl rfl (op_move (av := .row 2 c_A2_int y3.1) rfl ?_)
            refine Gy_q rfl rfl rfl (op_len_row (by kernel_rfl) rfl ?_)
            refine Gy_q rfl rfl rfl (op_move (av := .exact (.int .i64 (i64 (1 + y7.1)))) rfl ?_)
            refine Gy_q rfl rfl rfl (op_add rfl rfl rfl ?_)
            refine Gy_q rfl rfl rfl (op_sub rfl rfl rfl ?_)
            refine Gy_q rfl rfl rfl (op_move (av := .exact (.int .i64 (i64 (1 + y7.1)))) rfl ?_)
            obtain ⟨n26, h⟩ := need_some h
            refine Gy_q rfl rfl rfl (op_quo rfl rfl n26 rfl ?_)
            refine Gy_q rfl rfl rfl (op_neq rfl rfl ?_)
            refine G_q rfl (op_pick_f rfl (av := .exact (.bool (decide (¬ y14.1 = (i64 (Int.tdiv (i64 ((i64 ((List.length y3.1 : Int) + (i64 (1 + y7.1)))) - 1)) (i64 (1 + y7.1)))))))) rfl ?_)
            refine G_nil ?_
            refine kI_normal ⟨_, h, ?_⟩
            refine Sub.trans (SubU.to SubU.f1) ?_
            refine Sub.trans (SubU.to SubU.drop) ?_
            refine Sub.trans (SubU.to SubU.f1) ?_
            exact Sub.of_le (AF.le_put (AV.le_eq rfl) (AF.le_put (AV.le_eq rfl) (AF.le_put (AV.le_eq rfl) (AF.le_top _))))
  · refine k_cond_b (c := x72_j22) rfl (fun hc => ?_) (fun hc => ?_)
    · replace h := ite_t h hc
      refine k_seq ?_
      refine k_reg .free hmixP (by kernel_rfl) ?_
      refine G_q rfl (op_assign (av := .exact (.bool false)) rfl ?_)
      refine G_nil ?_
      refine kC_normal ?_
      refine k_ret ?_
      refine kC_ret ?_
      obtain rfl := Option.some.inj h
      refine kP_any (endN (af' := (AF.put AF0 (some 4) (.exact (.bool false)))) (σ' := []) _ rfl ?_ ⟨rfl, rfl⟩)
      refine Sub.trans (SubU.to SubU.drop) ?_
      refine Sub.trans (SubU.to SubU.drop) ?_
      exact Sub.of_le (AF.le_put (AV.le_eq rfl) (AF.le_top _))
    · replace h := ite_f h hc
      refine k_skip ?_
      refine kC_normal ?_
      refine k_seq ?_
      refine k_reg .free hmixP (by kernel_rfl) ?_
      refine G_q rfl (op_move (av := pA b9 0) rfl ?_)
      obtain ⟨y27, hy27, h⟩ := bnd1_some h
      refine G_l rfl (opB_f1 (op_fun_1_1_1 (m_disk_Read_ok _ _ _ hy27) Try.func26 (by kernel_rfl) (LEs.cons (AV.le_eq rfl) (LEs.cons (AV.le_eq rfl) LEs.nil)) (fun o28 => ?_)))
      refine G_q rfl (op_move (av := .tup [.row 1 c_uint8 y27.1, .exact (.int .i64 y27.2.1)]) rfl ?_)
      refine G_q rfl (op_extract (av := .row 1 c_uint8 y27.1) rfl rfl ?_)
      refine G_q rfl (op_extract (av := .exact (.int .i64 y27.2.1)) rfl rfl ?_)
      refine G_q rfl (op_assign (av := .row 1 c_uint8 y27.1) rfl ?_)
      refine G_q rfl (op_assign (av := .exact (.int .i64 y27.2.1)) rfl ?_)
      refine G_nil ?_
      refine kC_normal ?_
      refine k_seq ?_
      refine k_seq ?_
      refine k_reg .free hmixP (by kernel_rfl) ?_
      refine G_q rfl (op_move (av := .row 1 c_uint8 y27.1) rfl ?_)
      refine G_q rfl (op_len_row (by kernel_rfl) rfl ?_)
      refine G_q rfl (op_eql rfl rfl ?_)
      refine G_nil ?_
      refine kC_normal ?_
      refine k_cond_d (p := (List.length y27.1 : Int) = 0) rfl (fun hc => ?_) (fun hc => ?_)
      · replace h := ite_t h hc
        refine k_seq ?_
        refine k_reg .free hmixP (by kernel_rfl) ?_
        obtain ⟨y29, hy29, h⟩ := bnd1_some h
        refine G_q rfl (op_pure (m_law36_sane_ok _ hy29) Try.func15 (by kernel_rfl) LEs.nil ?_)
        refine G_q rfl (op_assign (av := .exact (.bool y29)) rfl ?_)
        refine G_nil ?_
        refine kC_normal ?_
        refine k_ret ?_
        refine kC_ret ?_
        obtain rfl := Option.some.inj h
        refine kP_any (endN (af' := (AF.put AF0 (some 4) (.exact (.bool y29)))) (σ' := []) _ rfl ?_ ⟨rfl, rfl⟩)
        refine Sub.trans (SubU.to SubU.drop) ?_
        refine Sub.trans (SubU.to SubU.drop) ?_
        exact Sub.of_le (AF.le_put (AV.le_eq rfl) (AF.le_top _))
      · replace h := ite_f h hc
        refine k_skip ?_
        refine kC_normal ?_
        refine k_seq ?_
        refine k_reg .free hmixP (by kernel_rfl) ?_
        refine G_q rfl (op_move (av := pA b9 0) rfl ?_)
        refine G_q rfl (op_move (av := .row 1 c_uint8 y27.1) rfl ?_)
        refine G_q rfl (op_move (av := .row 1 c_uint8 y27.1) rfl ?_)
        refine G_q rfl (op_len_row (by kernel_rfl) rfl ?_)
        refine G_q rfl (op_sub rfl rfl rfl ?_)
        refine G_q rfl (op_move (av := pA b2 0) rfl ?_)
        obtain ⟨y30, hy30, h⟩ := bnd1_some h
        refine G_l rfl (opB_f1 (op_fun_1_0_1 (m_gen2_Tape_Next_ok _ _ _ hy30) Try.func14 (by kernel_rfl) (LEs.cons (AV.le_eq rfl) (LEs.cons (AV.le_eq rfl) LEs.nil)) ?_))
        refine G_q rfl (op_sub rfl rfl rfl ?_)
        obtain ⟨n31, h⟩ := need_some h
        refine G_q rfl (op_slice_rowt (by kernel_rfl) rfl bnd_none (bnd_some rfl) (Int.le_refl 0) n31.1 n31.2 ?_)
        obtain ⟨y32, hy32, h⟩ := bnd1_some h
        refine G_l rfl (opB_f1 (op_fun_1_1_1 (m_disk_Append_ok _ _ _ _ hy32) Try.func27 (by kernel_rfl) (LEs.cons (AV.le_eq rfl) (LEs.cons (AV.le_eq rfl) (LEs.cons (AV.le_eq rfl) LEs.nil))) (fun o33 => ?_)))
        refine G_nil ?_
        refine kC_normal ?_
        refine k_seq ?_
        refine k_reg .free hmixP (by kernel_rfl) ?_
        refine G_q rfl (op_move (av := pA b9 0) rfl ?_)
        obtain ⟨y34, hy34, h⟩ := bnd1_some h
        refine G_l rfl (op_fun_1_1_1 (m_frontier_Read_ok _ _ _ hy34) Try.func23 (by kernel_rfl) (LEs.cons (AV.le_eq rfl) (LEs.cons (AV.le_eq rfl) LEs.nil)) (fun o35 => ?_))
        refine G_q rfl (op_move (av := .tup [.row 2 c_A2_int y34.1, .exact (.int .i64 y34.2.1)]) rfl ?_)
        refine G_q rfl (op_extract (av := .row 2 c_A2_int y34.1) rfl rfl ?_)
        refine G_q rfl (op_extract (av := .exact (.int .i64 y34.2.1)) rfl rfl ?_)
        refine G_q rfl (op_assign (av := .row 2 c_A2_int y34.1) rfl ?_)
        refine G_q rfl (op_assign (av := .exact (.int .i64 y34.2.1)) rfl ?_)
        refine G_nil ?_
        refine kC_normal ?_
        refine k_join1_0 h (fun (x4_j36 : Bool) => (AF.put AF0 (some 4) (.exact (.bool x4_j36)))) (fun (x4_j36 : Bool) => []) (fun k36 h => ?_) (fun x4_j36 h => ?_)
        · refine k_reg .free hmixP (by kernel_rfl) ?_
          refine G_q rfl (op_move (av := .exact (.int .i64 y34.2.1)) rfl ?_)
          refine G_q rfl (op_eql rfl rfl ?_)
          refine G_q rfl (op_move (av := .exact (.bool (decide (y34.2.1 = 23)))) rfl ?_)
          refine G_split (p := y34.2.1 = 23) 99 rfl (fun hc => ?_) (fun hc => ?_)
          · replace h := ite_t h hc
            obtain ⟨y38, hy38, h⟩ := bnd1_some h
            refine Gy_q rfl rfl rfl (op_pure (m_law36_sane_ok _ hy38) Try.func15 (by kernel_rfl) LEs.nil ?_)
            refine G_q rfl (op_pick_t rfl (av := .exact (.bool y38)) rfl ?_)
            refine G_q rfl (op_assign (av := .exact (.bool y38)) rfl ?_)
            refine G_nil ?_
            refine kI_normal ⟨_, h, ?_⟩
            refine Sub.trans (SubU.to SubU.drop) ?_
            refine Sub.trans (SubU.to SubU.drop) ?_
            exact Sub.of_le (AF.le_put (AV.le_eq rfl) (AF.le_top _))
          · replace h := ite_f h hc
            refine G_n rfl rfl ?_
            refine G_q rfl (op_pick_f rfl (av := .exact (.bool false)) rfl ?_)
            refine G_q rfl (op_assign (av := .exact (.bool false)) rfl ?_)
            refine G_nil ?_
            refine kI_normal ⟨_, h, ?_⟩
            refine Sub.trans (SubU.to SubU.drop) ?_
            refine Sub.trans (SubU.to SubU.drop) ?_
            exact Sub.of_le (AF.le_put (AV.le_eq rfl) (AF.le_top _))
        · refine k_ret ?_
          obtain rfl := Option.some.inj h
          refine kP_any (endN (af' := (AF.put AF0 (some 4) (.exact (.bool x4_j36)))) (σ' := []) _ rfl ?_ ⟨rfl, rfl⟩)
          exact Sub.of_le (AF.le_put (AV.le_eq rfl) (AF.le_top _))
end Go.Proofs.Ytkplmgdmkfgjhaa
