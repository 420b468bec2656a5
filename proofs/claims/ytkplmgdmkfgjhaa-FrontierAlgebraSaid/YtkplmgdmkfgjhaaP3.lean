/- The functions compute their models, by program. -/
import Derived.Test.YtkplmgdmkfgjhaaP2
namespace Go.Proofs.Ytkplmgdmkfgjhaa
open Go.RowKit
attribute [local irreducible] AV.exact AV.top AV.row AV.ptr AV.agg AV.tup AV.eptr AV.fn AV.nilq AV.nilqn opA opB opM opR Quiet Loud Reads wpG awp den Sub SubU Pure Fun vecI vecT boxI CellsAll CellsOf OneC LEs LEss
set_option maxRecDepth 100000

set_option maxHeartbeats 4000000 in
theorem m_gen2_Tape_Bytes_ok {w0 : Nat} (a0 : (List Int) × Int) (a1 : List UInt8) (r : (List UInt8) × ((List Int) × Int)) (h : m_gen2_Tape_Bytes a0 a1 = some r) : Fun Try.prog 18 [(pA w0 0), (.row 1 c_uint8 a1)] [boxI 71 w0 [.row 1 c_int a0.1, .exact (.int .i64 a0.2)]] (fun a s => a = .row 1 c_uint8 r.1 ∧ s = [boxI 71 w0 [.row 1 c_int r.2.1, .exact (.int .i64 r.2.2)]]) := by
  unfold m_gen2_Tape_Bytes at h
  refine fun_of_awp Try.func18 rfl Try.ntmps18 (by simp) rfl (res1 rfl) fun E hE => k_end ?_
  refine k_seq ?_
  refine k_reg .free hmixP (by kernel_rfl) ?_
  refine G_q rfl (op_assign (av := .exact (.slice none 0 0)) rfl ?_)
  refine G_nil ?_
  refine kC_normal ?_
  refine k_seq ?_
  refine k_reg .free hmixP (by kernel_rfl) ?_
  refine G_l rfl (op_lit0I (enc := c_uint8) (n := 1) (by kernel_rfl) (fun v1 => ?_))
  refine G_q rfl (op_move (av := .row 1 c_uint8 a1) rfl ?_)
  obtain ⟨n2, h⟩ := need_some h
  refine G_l rfl (op_appT (by kernel_rfl) rfl rfl oc_c_uint8 n2 (fun v3 => ?_))
  refine G_q rfl (op_assign (av := .exact v3) rfl ?_)
  refine G_nil ?_
  refine kC_normal ?_
  refine k_seq ?_
  refine k_seq ?_
  refine k_reg .free hmixP (by kernel_rfl) ?_
  refine G_q rfl (op_move (av := .exact v3) rfl ?_)
  refine G_r rfl (op_len_vec (by kernel_rfl) rfl ?_)
  refine G_q rfl (op_eql rfl rfl ?_)
  refine G_nil ?_
  refine kC_normal ?_
  refine k_cond_d (p := (List.length (([] : List UInt8) ++ a1) : Int) = 0) rfl (fun hc => ?_) (fun hc => ?_)
  · replace h := ite_t h hc
    refine k_seq ?_
    refine k_reg .free hmixP (by kernel_rfl) ?_
    refine G_q rfl (op_move (av := pA w0 0) rfl ?_)
    obtain ⟨y4, hy4, h⟩ := bnd1_some h
    refine G_l rfl (opB_f1 (op_fun_1_0_1 (m_gen2_Tape_Next_ok _ _ _ hy4) Try.func14 (by kernel_rfl) (LEs.cons (AV.le_eq rfl) (LEs.cons (AV.le_eq rfl) LEs.nil)) ?_))
    refine G_q rfl (op_convInt (k := .u8) (r := (UInt8.toNat (u8i y4.1) : Int)) (by kernel_rfl) rfl (u8i_eq _) ?_)
    refine G_q rfl (op_litT (n := 1) (enc := c_uint8) [u8i y4.1] (CellsAll.cons rfl CellsOf.int CellsAll.nil) rfl (by kernel_rfl) (LEss.cons (LEs.cons (AV.le_eq rfl) LEs.nil) LEss.nil) ?_)
    refine G_q rfl (op_assign (av := .row 1 c_uint8 [u8i y4.1]) rfl ?_)
    refine G_nil ?_
    refine kC_normal ?_
    refine k_ret ?_
    refine kC_ret ?_
    obtain rfl := Option.some.inj h
    refine kP_any (endN (af' := (AF.put AF0 (some 4) (.row 1 c_uint8 [u8i y4.1]))) (σ' := [boxI 71 w0 [.row 1 c_int y4.2.1, .exact (.int .i64 y4.2.2)]]) _ rfl ?_ ⟨rfl, rfl⟩)
    refine Sub.trans (SubU.to SubU.f1) ?_
    refine Sub.trans (SubU.to SubU.drop) ?_
    exact Sub.of_le (AF.le_put (AV.le_eq rfl) (AF.le_top _))
  · replace h := ite_f h hc
    refine k_skip ?_
    refine kC_normal ?_
    refine k_seq ?_
    refine k_reg .free hmixP (by kernel_rfl) ?_
    refine G_q rfl (op_move (av := pA w0 0) rfl ?_)
    refine G_q rfl (op_move (av := .exact v3) rfl ?_)
    refine G_r rfl (op_len_vec (by kernel_rfl) rfl ?_)
    obtain ⟨y5, hy5, h⟩ := bnd1_some h
    refine G_l rfl (opB_f1 (op_fun_1_0_1 (m_gen2_Tape_Next_ok _ _ _ hy5) Try.func14 (by kernel_rfl) (LEs.cons (AV.le_eq rfl) (LEs.cons (AV.le_eq rfl) LEs.nil)) ?_))
    refine G_q rfl (op_assign (av := .exact (.int .i64 y5.1)) rfl ?_)
    refine G_nil ?_
    refine kC_normal ?_
    refine k_join3_1 h (fun (x0_0_j6 : List Int) (x0_1_j6 : Int) (x5_j6 : List UInt8) (v5_j6 : Value) => (AF.put (AF.put AF0 (some 0) (pA w0 0)) (some 5) (.exact v5_j6))) (fun (x0_0_j6 : List Int) (x0_1_j6 : Int) (x5_j6 : List UInt8) (v5_j6 : Value) => [boxI 71 w0 [.row 1 c_int x0_0_j6, .exact (.int .i64 x0_1_j6)], vecT Try.prog 32 1 c_uint8 v5_j6 x5_j6]) (fun k6 h => ?_) (fun x0_0_j6 x0_1_j6 x5_j6 v5_j6 h => ?_)
    · refine k_seq ?_
      refine k_reg .free hmixP (by kernel_rfl) ?_
      refine G_q rfl (op_move (av := pA w0 0) rfl ?_)
      obtain ⟨y20, hy20, h⟩ := bnd1_some h
      refine G_l rfl (op_fun_1_0_1 (m_gen2_Tape_Next_ok _ _ _ hy20) Try.func14 (by kernel_rfl) (LEs.cons (AV.le_eq rfl) (LEs.cons (AV.le_eq rfl) LEs.nil)) ?_)
      refine G_nil ?_
      refine kC_normal ?_
      refine k_block ?_
      refine k_seq ?_
      refine k_reg .free hmixP (by kernel_rfl) ?_
      refine G_q rfl (op_eql rfl rfl ?_)
      refine G_q rfl (op_assign (av := .exact (.bool (decide (y20.1 = 0)))) rfl ?_)
      refine G_nil ?_
      refine kC_normal ?_
      refine k_cond_d (p := y20.1 = 0) rfl (fun hc => ?_) (fun hc => ?_)
      · replace h := ite_t h hc
        refine k_plan [vecT Try.prog 32 1 c_uint8 v3 (([] : List UInt8) ++ a1)] [(0, 0), (0, 1), (0, 4), (4, 2), (4, 3), (3, 5), (0, 6), (0, 7), (0, 8), (1, 9), (2, 10)] hmixP (by kernel_rfl) ?_
        refine P_q no34_0 rfl (op_move (av := .exact v3) rfl ?_)
        refine P_q no34_0 rfl (op_move (av := .exact (.int .i64 y5.1)) rfl ?_)
        refine P_q no34_0 rfl (op_move (av := pA w0 0) rfl ?_)
        obtain ⟨n21, h⟩ := need_some h
        refine P_r4 (Has.cons (List.Mem.tail _ (List.Mem.head _)) Has.mk0) rfl (opI_mk (List.Mem.head _) (fun _ => op_index_vec (by kernel_rfl) rfl rfl n21.1 n21.2 rfl) ?_)
        refine P_r4 (Has.cons (List.Mem.tail _ (List.Mem.head _)) Has.mk0) rfl (opI_mk (List.Mem.head _) (fun _ => op_load_vec1 (i := y5.1) (o := 0) (a := .exact (.int .u8 (UInt8.toNat (gi (([] : List UInt8) ++ a1) y5.1) : Int))) (by kernel_rfl) len_c_uint8 rfl n21.1 n21.2 rfl rfl) ?_)
        obtain ⟨y22, hy22, h⟩ := bnd1_some h
        refine P_l3 rfl (op_fun_1_0_1 (m_gen2_Tape_Next_ok _ _ _ hy22) Try.func14 (by kernel_rfl) (LEs.cons (AV.le_eq rfl) (LEs.cons (AV.le_eq rfl) LEs.nil)) ⟨(Has.cons (List.Mem.tail _ (List.Mem.head _)) Has.mk0), ?_⟩)
        refine P_q no34_0 rfl (op_add rfl rfl rfl ?_)
        refine P_q no34_0 rfl (op_convInt (k := .u8) (r := (UInt8.toNat (u8i (i64 (1 + y22.1))) : Int)) (by kernel_rfl) rfl (u8i_eq _) ?_)
        refine P_q no34_0 rfl (op_xorU (a := (gi (([] : List UInt8) ++ a1) y5.1)) (b := (u8i (i64 (1 + y22.1)))) rfl rfl ?_)
        obtain ⟨n23, h⟩ := need_some h
        refine P_r rfl (opR_f1 (op_index_vec (by kernel_rfl) rfl rfl n23.1 n23.2 ?_))
        refine P_l rfl (opB_f1 (op_store_vec (i := y5.1) (o := 0) (z := (gi (([] : List UInt8) ++ a1) y5.1) ^^^ (u8i (i64 (1 + y22.1)))) (c' := [.exact (.int .u8 (UInt8.toNat ((gi (([] : List UInt8) ++ a1) y5.1) ^^^ (u8i (i64 (1 + y22.1)))) : Int))]) (by kernel_rfl) len_c_uint8 rfl n23.1 n23.2 rfl CellsOf.int (LEs.cons (AV.le_eq rfl) LEs.nil) (OneC.int OneC.nil) (by kernel_rfl) (Nat.le_of_ble_eq_true rfl) rfl ?_))
        refine P_nil ?_
        refine kB_normal ?_
        refine kI_normal ⟨_, _, _, v3, h, ?_⟩
        refine Sub.trans (SubU.to SubU.f1) ?_
        exact Sub.of_le (AF.le_put (AV.le_eq rfl) (AF.le_put (AV.le_eq rfl) (AF.le_top _)))
      · replace h := ite_f h hc
        refine k_seq ?_
        refine k_reg .free hmixP (by kernel_rfl) ?_
        refine G_q rfl (op_eql rfl rfl ?_)
        refine G_q rfl (op_assign (av := .exact (.bool (decide (y20.1 = 1)))) rfl ?_)
        refine G_nil ?_
        refine kC_normal ?_
        refine k_cond_d (p := y20.1 = 1) rfl (fun hc => ?_) (fun hc => ?_)
        · replace h := ite_t h hc
          refine k_reg .free hmixP (by kernel_rfl) ?_
          refine G_q rfl (op_move (av := .exact v3) rfl ?_)
          refine G_q rfl (op_move (av := .exact (.int .i64 y5.1)) rfl ?_)
          obtain ⟨n24, h⟩ := need_some h
          refine G_l rfl (opB_f1 (op_trunc (by kernel_rfl) len_c_uint8 rfl (bnd_some rfl) n24.1 n24.2 (fun v25 => ?_)))
          refine G_q rfl (op_assign (av := .exact v25) rfl ?_)
          refine G_nil ?_
          refine kB_normal ?_
          refine kI_normal ⟨_, _, _, v25, h, ?_⟩
          refine Sub.trans (SubU.to SubU.f1) ?_
          exact Sub.of_le (AF.le_put (AV.le_eq rfl) (AF.le_put (AV.le_eq rfl) (AF.le_top _)))
        · replace h := ite_f h hc
          refine k_seq ?_
          refine k_reg .free hmixP (by kernel_rfl) ?_
          refine G_q rfl (op_eql rfl rfl ?_)
          refine G_q rfl (op_assign (av := .exact (.bool (decide (y20.1 = 2)))) rfl ?_)
          refine G_nil ?_
          refine kC_normal ?_
          refine k_cond_d (p := y20.1 = 2) rfl (fun hc => ?_) (fun hc => ?_)
          · replace h := ite_t h hc
            refine k_reg .free hmixP (by kernel_rfl) ?_
            refine G_q rfl (op_move (av := .exact v3) rfl ?_)
            refine G_q rfl (op_move (av := pA w0 0) rfl ?_)
            obtain ⟨y26, hy26, h⟩ := bnd1_some h
            refine G_l rfl (op_fun_1_0_1 (m_gen2_Tape_Next_ok _ _ _ hy26) Try.func14 (by kernel_rfl) (LEs.cons (AV.le_eq rfl) (LEs.cons (AV.le_eq rfl) LEs.nil)) ?_)
            refine G_q rfl (op_convInt (k := .u8) (r := (UInt8.toNat (u8i y26.1) : Int)) (by kernel_rfl) rfl (u8i_eq _) ?_)
            refine G_q rfl (op_litT (n := 1) (enc := c_uint8) [u8i y26.1] (CellsAll.cons rfl CellsOf.int CellsAll.nil) rfl (by kernel_rfl) (LEss.cons (LEs.cons (AV.le_eq rfl) LEs.nil) LEss.nil) ?_)
            obtain ⟨n27, h⟩ := need_some h
            refine G_l rfl (opB_f1 (op_appT (by kernel_rfl) rfl rfl oc_c_uint8 n27 (fun v28 => ?_)))
            refine G_q rfl (op_assign (av := .exact v28) rfl ?_)
            refine G_nil ?_
            refine kB_normal ?_
            refine kI_normal ⟨_, _, _, v28, h, ?_⟩
            refine Sub.trans (SubU.to SubU.f1) ?_
            exact Sub.of_le (AF.le_put (AV.le_eq rfl) (AF.le_put (AV.le_eq rfl) (AF.le_top _)))
          · replace h := ite_f h hc
            refine k_plan [] [(0, 0), (0, 1), (0, 3), (0, 4), (0, 5), (1, 2), (1, 6), (2, 7), (0, 8)] hmixP (by kernel_rfl) ?_
            refine P_q no34_0 rfl (op_move (av := .exact v3) rfl ?_)
            refine P_q no34_0 rfl (op_move (av := .exact (.int .i64 y5.1)) rfl ?_)
            refine P_q no34_0 rfl (op_move (av := .exact v3) rfl ?_)
            refine P_q no34_0 rfl (op_move (av := .exact (.int .i64 y5.1)) rfl ?_)
            refine P_q no34_0 rfl (op_add rfl rfl rfl ?_)
            obtain ⟨n29, h⟩ := need_some h
            refine P_r rfl (opR_f1 (op_slice_vec (by kernel_rfl) rfl bnd_none (bnd_some rfl) n29.1 n29.2.1 n29.2.2 ?_))
            obtain ⟨n30, h⟩ := need_some h
            refine P_r rfl (opR_f1 (op_slice_vec (by kernel_rfl) rfl (bnd_some rfl) bnd_none n30.1 n30.2.1 n30.2.2 ?_))
            obtain ⟨n32, h⟩ := need_some h
            refine P_l rfl (opB_f1 (op_appdel (by kernel_rfl) len_c_uint8 oc_c_uint8 rfl rfl (by have := n32; try simp only [i64] at *; omega) (by have := n30; have := n29; try simp only [i64] at *; omega) (fun v31 => ?_)))
            refine P_q no34_0 rfl (op_assign (av := .exact v31) rfl ?_)
            refine P_nil ?_
            refine kB_normal ?_
            refine kI_normal ⟨_, _, _, v31, h, ?_⟩
            refine Sub.trans (SubU.to SubU.f1) ?_
            exact Sub.of_le (AF.le_put (AV.le_eq rfl) (AF.le_put (AV.le_eq rfl) (AF.le_top _)))
    · refine k_seq ?_
      refine k_reg .free hmixP (by kernel_rfl) ?_
      refine G_q rfl (op_move (av := .exact v5_j6) rfl ?_)
      refine G_q rfl (op_assign (av := .exact v5_j6) rfl ?_)
      refine G_nil ?_
      refine kC_normal ?_
      refine k_ret ?_
      obtain rfl := Option.some.inj h
      refine kP_any (endN (af' := (AF.put AF0 (some 4) (.row 1 c_uint8 x5_j6))) (σ' := [boxI 71 w0 [.row 1 c_int x0_0_j6, .exact (.int .i64 x0_1_j6)]]) _ rfl ?_ ⟨rfl, rfl⟩)
      refine Sub.trans (SubU.to SubU.f1) ?_
      refine Sub.trans (SubU.to (SubU.freezeT (s := 4) rfl len_c_uint8)) ?_
      exact Sub.of_le (AF.le_put (AV.le_eq rfl) (AF.le_top _))
set_option maxHeartbeats 4000000 in
theorem m_gen2_New_ok (a0 : List Int) (r : ((List Int) × Int)) (h : m_gen2_New a0 = some r) : Fun Try.prog 10 [(.row 1 c_int a0)] [] (fun a s => ∃ z0, a = pA z0 0 ∧ s = [boxI 71 z0 [.row 1 c_int r.1, .exact (.int .i64 r.2)]]) := by
  unfold m_gen2_New at h
  refine fun_of_awp Try.func10 rfl Try.ntmps10 (by simp) rfl (res1 rfl) fun E hE => k_end ?_
  refine k_seq ?_
  refine k_reg .free hmixP (by kernel_rfl) ?_
  refine G_q rfl (op_assign (av := _) rfl ?_)
  refine G_nil ?_
  refine kC_normal ?_
  refine k_seq ?_
  refine k_reg .free hmixP (by kernel_rfl) ?_
  refine G_q rfl (op_move (av := .row 1 c_int a0) rfl ?_)
  refine G_q rfl (op_bld (c' := c_cspcheckgen2_Tape (a0, 0)) (CellsAll.cons rfl CellsOf.row CellsAll.nil) rfl (LEs.cons (AV.le_eq rfl) (LEs.cons (AV.le_eq rfl) LEs.nil)) ?_)
  refine G_l rfl (op_boxI (c := [.row 1 c_int ((a0, 0).1), .exact (.int .i64 ((a0, 0).2))]) rfl CellsOf.agg (LEs.cons (AV.le_eq rfl) (LEs.cons (AV.le_eq rfl) LEs.nil)) (fun b1 => ?_))
  refine G_q rfl (op_assign (av := pA b1 0) rfl ?_)
  refine G_nil ?_
  refine kC_normal ?_
  refine k_ret ?_
  obtain rfl := Option.some.inj h
  refine kP_any (endN (af' := (AF.put AF0 (some 2) (pA b1 0))) (σ' := [boxI 71 b1 [.row 1 c_int ((a0, 0).1), .exact (.int .i64 ((a0, 0).2))]]) _ rfl ?_ ⟨b1, rfl, rfl⟩)
  exact Sub.of_le (AF.le_put (AV.le_eq rfl) (AF.le_top _))
set_option maxHeartbeats 4000000 in
theorem m_law36_decodes_ok (a0 : List UInt8) (a1 : Int) (r : Bool) (h : m_law36_decodes a0 a1 = some r) : Pure Try.prog 19 [(.row 1 c_uint8 a0), (.exact (.int .i64 a1))] (.exact (.bool r)) := by
  unfold m_law36_decodes at h
  refine Pure.ofFun (fun_of_awp Try.func19 rfl Try.ntmps19 (by simp) rfl (res1 rfl) fun E hE => k_end ?_)
  refine k_seq ?_
  refine k_reg .free hmixP (by kernel_rfl) ?_
  refine G_q rfl (op_assign (av := .exact (.bool false)) rfl ?_)
  refine G_nil ?_
  refine kC_normal ?_
  refine k_seq ?_
  refine k_reg .free hmixP (by kernel_rfl) ?_
  refine G_q rfl (op_move (av := .row 1 c_uint8 a0) rfl ?_)
  refine G_q rfl (op_move (av := .exact (.int .i64 a1)) rfl ?_)
  obtain ⟨y1, hy1, h⟩ := bnd1_some h
  refine G_q rfl (op_pure (m_frontier_DecodeBlock_ok _ _ _ hy1) Try.func45 (by kernel_rfl) (LEs.cons (AV.le_eq rfl) (LEs.cons (AV.le_eq rfl) LEs.nil)) ?_)
  refine G_q rfl (op_move (av := .tup [.row 2 c_A2_int y1.1, .exact (.int .i64 y1.2.1), .exact (.int .i64 y1.2.2)]) rfl ?_)
  refine G_q rfl (op_extract (av := .row 2 c_A2_int y1.1) rfl rfl ?_)
  refine G_q rfl (op_extract (av := .exact (.int .i64 y1.2.1)) rfl rfl ?_)
  refine G_q rfl (op_extract (av := .exact (.int .i64 y1.2.2)) rfl rfl ?_)
  refine G_q rfl (op_assign (av := .row 2 c_A2_int y1.1) rfl ?_)
  refine G_q rfl (op_assign (av := .exact (.int .i64 y1.2.1)) rfl ?_)
  refine G_q rfl (op_assign (av := .exact (.int .i64 y1.2.2)) rfl ?_)
  refine G_nil ?_
  refine kC_normal ?_
  refine k_seq ?_
  refine k_reg .free hmixP (by kernel_rfl) ?_
  refine G_q rfl (op_move (av := .row 1 c_uint8 a0) rfl ?_)
  refine G_q rfl (op_move (av := .exact (.int .i64 a1)) rfl ?_)
  obtain ⟨y2, hy2, h⟩ := bnd1_some h
  refine G_q rfl (op_pure (m_ref35_DecodeBlock_ok _ _ _ hy2) Try.func46 (by kernel_rfl) (LEs.cons (AV.le_eq rfl) (LEs.cons (AV.le_eq rfl) LEs.nil)) ?_)
  refine G_q rfl (op_move (av := .tup [.row 2 c_A2_int y2.1, .exact (.int .i64 y2.2.1), .exact (.int .i64 y2.2.2)]) rfl ?_)
  refine G_q rfl (op_extract (av := .row 2 c_A2_int y2.1) rfl rfl ?_)
  refine G_q rfl (op_extract (av := .exact (.int .i64 y2.2.1)) rfl rfl ?_)
  refine G_q rfl (op_extract (av := .exact (.int .i64 y2.2.2)) rfl rfl ?_)
  refine G_q rfl (op_assign (av := .row 2 c_A2_int y2.1) rfl ?_)
  refine G_q rfl (op_assign (av := .exact (.int .i64 y2.2.1)) rfl ?_)
  refine G_q rfl (op_assign (av := .exact (.int .i64 y2.2.2)) rfl ?_)
  refine G_nil ?_
  refine kC_normal ?_
  refine k_join1_0 h (fun (x4_j3 : Bool) => (AF.put AF0 (some 4) (.exact (.bool x4_j3)))) (fun (x4_j3 : Bool) => []) (fun k3 h => ?_) (fun x4_j3 h => ?_)
  · refine k_reg .free hmixP (by kernel_rfl) ?_
    refine G_q rfl (op_move (av := .exact (.int .i64 y1.2.2)) rfl ?_)
    refine G_q rfl (op_move (av := .exact (.int .i64 y2.2.2)) rfl ?_)
    refine G_q rfl (op_eql rfl rfl ?_)
    refine G_q rfl (op_move (av := .exact (.bool (decide (y1.2.2 = y2.2.2)))) rfl ?_)
    refine G_split (p := y1.2.2 = y2.2.2) 28 rfl (fun hc => ?_) (fun hc => ?_)
    · replace h := ite_t h hc
      refine Gy_q rfl rfl rfl (op_move (av := .exact (.int .i64 y1.2.1)) rfl ?_)
      refine Gy_q rfl rfl rfl (op_move (av := .exact (.int .i64 y2.2.1)) rfl ?_)
      refine Gy_q rfl rfl rfl (op_eql rfl rfl ?_)
      refine G_q rfl (op_pick_t rfl (av := .exact (.bool (decide (y1.2.1 = y2.2.1)))) rfl ?_)
      refine G_q rfl (op_move (av := .exact (.bool (decide (y1.2.1 = y2.2.1)))) rfl ?_)
      refine G_split (p := y1.2.1 = y2.2.1) 33 rfl (fun hc => ?_) (fun hc => ?_)
      · replace h := ite_t h hc
        refine Gy_q rfl rfl rfl (op_move (av := .row 2 c_A2_int y1.1) rfl ?_)
        refine Gy_q rfl rfl rfl (op_move (av := .row 2 c_A2_int y2.1) rfl ?_)
        obtain ⟨y5, hy5, h⟩ := bnd1_some h
        refine Gy_q rfl rfl rfl (op_pure (m_law36_same_ok _ _ _ hy5) Try.func25 (by kernel_rfl) (LEs.cons (AV.le_eq rfl) (LEs.cons (AV.le_eq rfl) LEs.nil)) ?_)
        refine G_q rfl (op_pick_t rfl (av := .exact (.bool y5)) rfl ?_)
        refine G_q rfl (op_assign (av := .exact (.bool y5)) rfl ?_)
        refine G_nil ?_
        refine kI_normal ⟨_, h, ?_⟩
        exact Sub.of_le (AF.le_put (AV.le_eq rfl) (AF.le_top _))
      · replace h := ite_f h hc
        refine G_n rfl rfl ?_
        refine G_n rfl rfl ?_
        refine G_n rfl rfl ?_
        refine G_q rfl (op_pick_f rfl (av := .exact (.bool false)) rfl ?_)
        refine G_q rfl (op_assign (av := .exact (.bool false)) rfl ?_)
        refine G_nil ?_
        refine kI_normal ⟨_, h, ?_⟩
        exact Sub.of_le (AF.le_put (AV.le_eq rfl) (AF.le_top _))
    · replace h := ite_f h hc
      refine G_n rfl rfl ?_
      refine G_n rfl rfl ?_
      refine G_n rfl rfl ?_
      refine G_q rfl (op_pick_f rfl (av := .exact (.bool false)) rfl ?_)
      refine G_q rfl (op_move (av := .exact (.bool false)) rfl ?_)
      refine G_n rfl rfl ?_
      refine G_n rfl rfl ?_
      refine G_n rfl rfl ?_
      refine G_q rfl (op_pick_f rfl (av := .exact (.bool false)) rfl ?_)
      refine G_q rfl (op_assign (av := .exact (.bool false)) rfl ?_)
      refine G_nil ?_
      refine kI_normal ⟨_, h, ?_⟩
      exact Sub.of_le (AF.le_put (AV.le_eq rfl) (AF.le_top _))
  · refine k_ret ?_
    obtain rfl := Option.some.inj h
    refine kP_any (endN (af' := (AF.put AF0 (some 4) (.exact (.bool x4_j3)))) (σ' := []) _ rfl ?_ ⟨rfl, rfl⟩)
    exact Sub.of_le (AF.le_put (AV.le_eq rfl) (AF.le_top _))
set_option maxHeartbeats 4000000 in
theorem m_law36_run_ok {w0 : Nat} (a0 : (List Int) × Int) (a1 : Int) (r : (List (Int × Int)) × ((List Int) × Int)) (h : m_law36_run a0 a1 = some r) : Fun Try.prog 12 [(pA w0 0), (.exact (.int .i64 a1))] [boxI 71 w0 [.row 1 c_int a0.1, .exact (.int .i64 a0.2)]] (fun a s => ∃ z0, a = .exact z0 ∧ s = [vecT Try.prog 23 2 c_A2_int z0 r.1, boxI 71 w0 [.row 1 c_int r.2.1, .exact (.int .i64 r.2.2)]]) := by
  unfold m_law36_run at h
  refine fun_of_awp Try.func12 rfl Try.ntmps12 (by simp) rfl (res1 rfl) fun E hE => k_end ?_
  refine k_seq ?_
  refine k_reg .free hmixP (by kernel_rfl) ?_
  refine G_q rfl (op_assign (av := .exact (.slice none 0 0)) rfl ?_)
  refine G_nil ?_
  refine kC_normal ?_
  refine k_seq ?_
  refine k_reg .free hmixP (by kernel_rfl) ?_
  refine G_q rfl (op_move (av := pA w0 0) rfl ?_)
  refine G_q rfl (op_move (av := .exact (.int .i64 a1)) rfl ?_)
  obtain ⟨y1, hy1, h⟩ := bnd1_some h
  refine G_l rfl (op_fun_1_0_1 (m_law36_pairs_ok _ _ _ hy1) Try.func13 (by kernel_rfl) (LEs.cons (AV.le_eq rfl) (LEs.cons (AV.le_eq rfl) LEs.nil)) ?_)
  obtain ⟨y2, hy2, h⟩ := bnd1_some h
  refine G_l rfl (op_fun_0_1_1 (m_ref35_Sorted_ok _ _ hy2) Try.func42 (by kernel_rfl) (LEs.cons (AV.le_eq rfl) LEs.nil) (fun v3 => ?_))
  refine G_q rfl (op_assign (av := .exact v3) rfl ?_)
  refine G_nil ?_
  refine kC_normal ?_
  refine k_ret ?_
  obtain rfl := Option.some.inj h
  refine kP_any (endN (af' := (AF.put AF0 (some 4) (.exact v3))) (σ' := [vecT Try.prog 23 2 c_A2_int v3 y2, boxI 71 w0 [.row 1 c_int y1.2.1, .exact (.int .i64 y1.2.2)]]) _ rfl ?_ ⟨v3, rfl, rfl⟩)
  exact Sub.of_le (AF.le_put (AV.le_eq rfl) (AF.le_top _))
set_option maxHeartbeats 4000000 in
theorem m_law36_FrontierDecode_ok (a0 : List Int) (a1 : List UInt8) (a2 : Int) (r : Bool) (h : m_law36_FrontierDecode a0 a1 a2 = some r) : Pure Try.prog 4 [(.row 1 c_int a0), (.row 1 c_uint8 a1), (.exact (.int .i64 a2))] (.exact (.bool r)) := by
  unfold m_law36_FrontierDecode at h
  refine Pure.ofFun (fun_of_awp Try.func4 rfl Try.ntmps4 (by simp) rfl (res1 rfl) fun E hE => k_end ?_)
  refine k_seq ?_
  refine k_reg .free hmixP (by kernel_rfl) ?_
  refine G_q rfl (op_assign (av := .exact (.bool false)) rfl ?_)
  refine G_nil ?_
  refine kC_normal ?_
  refine k_seq ?_
  refine k_reg .free hmixP (by kernel_rfl) ?_
  refine G_q rfl (op_move (av := .row 1 c_int a0) rfl ?_)
  obtain ⟨y1, hy1, h⟩ := bnd1_some h
  refine G_l rfl (op_fun_0_1_1 (m_gen2_New_ok _ _ hy1) Try.func10 (by kernel_rfl) (LEs.cons (AV.le_eq rfl) LEs.nil) (fun b2 => ?_))
  refine G_q rfl (op_assign (av := pA b2 0) rfl ?_)
  refine G_nil ?_
  refine kC_normal ?_
  refine k_join0_0 h ((AF.put (AF.put AF0 (some 1) (.row 1 c_uint8 a1)) (some 2) (.exact (.int .i64 a2)))) ([]) (fun k3 h => ?_) (fun  h => ?_)
  · refine k_seq ?_
    refine k_reg .free hmixP (by kernel_rfl) ?_
    refine G_q rfl (op_assign (av := .exact (.int .i64 0)) rfl ?_)
    refine G_nil ?_
    refine kC_normal ?_
    refine k_block ?_
    refine k_loop3_0 (m_law36_FrontierDecode_L2 a2 k3) (m_law36_FrontierDecode_B2 a2 k3) (fun _ _ _ => rfl) (fun m _ _ _ => rfl) h (fun (x7_0_l2 : List Int) (x7_1_l2 : Int) (x8_l2 : Int) => (AF.put (AF.put (AF.put (AF.put AF0 (some 1) (.row 1 c_uint8 a1)) (some 2) (.exact (.int .i64 a2))) (some 7) (pA b2 0)) (some 8) (.exact (.int .i64 x8_l2)))) (fun (x7_0_l2 : List Int) (x7_1_l2 : Int) (x8_l2 : Int) => [boxI 71 b2 [.row 1 c_int x7_0_l2, .exact (.int .i64 x7_1_l2)]]) ?_ (fun rec2 x7_0_l2 x7_1_l2 x8_l2 h => ?_)
    · exact Sub.of_le (AF.le_put (AV.le_eq rfl) (AF.le_put (AV.le_eq rfl) (AF.le_put (AV.le_eq rfl) (AF.le_put (AV.le_eq rfl) (AF.le_top _)))))
    · unfold m_law36_FrontierDecode_B2 at h
      refine k_seq ?_
      refine k_seq ?_
      refine k_reg .free hmixP (by kernel_rfl) ?_
      refine G_q rfl (op_move (av := .exact (.int .i64 x8_l2)) rfl ?_)
      refine G_q rfl (op_lss rfl rfl ?_)
      refine G_nil ?_
      refine kC_normal ?_
      refine k_cond_d (p := x8_l2 < 5) rfl (fun hc => ?_) (fun hc => ?_)
      · replace h := ite_t h hc
        refine k_skip ?_
        refine kC_normal ?_
        refine k_seq ?_
        refine k_block ?_
        refine k_seq ?_
        refine k_reg .free hmixP (by kernel_rfl) ?_
        refine G_q rfl (op_bld (c' := c_A2_int (0, 0)) (CellsAll.cons rfl CellsOf.int (CellsAll.cons rfl CellsOf.int CellsAll.nil)) rfl (LEs.cons (AV.le_eq rfl) (LEs.cons (AV.le_eq rfl) LEs.nil)) ?_)
        refine G_l rfl (op_litI (n := 2) (enc := c_A2_int) [(0, 0)] (by kernel_rfl) (CellsAll.cons rfl CellsOf.agg CellsAll.nil) rfl (by kernel_rfl) (LEss.cons (LEs.cons (AV.le_eq rfl) (LEs.cons (AV.le_eq rfl) LEs.nil)) LEss.nil) (fun v418 => ?_))
        refine G_q rfl (op_move (av := pA b2 0) rfl ?_)
        obtain ⟨y419, hy419, h⟩ := bnd1_some h
        refine G_l rfl (opB_f1 (op_fun_1_1_2 (m_law36_run_ok _ _ _ hy419) Try.func12 (by kernel_rfl) (LEs.cons (AV.le_eq rfl) (LEs.cons (AV.le_eq rfl) LEs.nil)) (fun v420 => ?_)))
        refine G_q rfl (op_bld (c' := c_A2_int (0, 0)) (CellsAll.cons rfl CellsOf.int (CellsAll.cons rfl CellsOf.int CellsAll.nil)) rfl (LEs.cons (AV.le_eq rfl) (LEs.cons (AV.le_eq rfl) LEs.nil)) ?_)
        refine G_q rfl (op_litT (n := 2) (enc := c_A2_int) [(0, 0)] (CellsAll.cons rfl CellsOf.agg CellsAll.nil) rfl (by kernel_rfl) (LEss.cons (LEs.cons (AV.le_eq rfl) (LEs.cons (AV.le_eq rfl) LEs.nil)) LEss.nil) ?_)
        refine G_sub rfl (SubU.freezeT (s := 25) rfl len_c_A2_int) ?_
        obtain ⟨y421, hy421, h⟩ := bnd1_some h
        refine G_q rfl (op_pure (m_ref35_Subtract_ok _ _ _ hy421) Try.func17 (by kernel_rfl) (LEs.cons (AV.le_eq rfl) (LEs.cons (AV.le_eq rfl) LEs.nil)) ?_)
        obtain ⟨n422, h⟩ := need_some h
        refine G_l rfl (opB_f1 (op_appT (by kernel_rfl) rfl rfl oc_c_A2_int n422 (fun v423 => ?_)))
        refine G_sub rfl (SubU.freezeT (s := 29) rfl len_c_A2_int) ?_
        obtain ⟨y424, hy424, h⟩ := bnd1_some h
        refine G_q rfl (op_pure (m_ref35_EncodeBlock_ok _ _ hy424) Try.func16 (by kernel_rfl) (LEs.cons (AV.le_eq rfl) LEs.nil) ?_)
        refine G_q rfl (op_move (av := .tup [.row 1 c_uint8 y424.1, .exact (.int .i64 y424.2)]) rfl ?_)
        refine G_q rfl (op_extract (av := .row 1 c_uint8 y424.1) rfl rfl ?_)
        refine G_q rfl (op_extract (av := .exact (.int .i64 y424.2)) rfl rfl ?_)
        refine G_q rfl (op_assign (av := .row 1 c_uint8 y424.1) rfl ?_)
        refine G_q rfl (op_assign (av := .exact (.int .i64 y424.2)) rfl ?_)
        refine G_nil ?_
        refine kC_normal ?_
        refine k_seq ?_
        refine k_reg .free hmixP (by kernel_rfl) ?_
        refine G_q rfl (op_move (av := pA b2 0) rfl ?_)
        obtain ⟨y425, hy425, h⟩ := bnd1_some h
        refine G_l rfl (op_fun_1_0_1 (m_gen2_Tape_Next_ok _ _ _ hy425) Try.func14 (by kernel_rfl) (LEs.cons (AV.le_eq rfl) (LEs.cons (AV.le_eq rfl) LEs.nil)) ?_)
        refine G_q rfl (op_bld (c' := c_A2_int (1, y425.1)) (CellsAll.cons rfl CellsOf.int (CellsAll.cons rfl CellsOf.int CellsAll.nil)) rfl (LEs.cons (AV.le_eq rfl) (LEs.cons (AV.le_eq rfl) LEs.nil)) ?_)
        refine G_q rfl (op_bld (c' := c_A2_int (900, 2)) (CellsAll.cons rfl CellsOf.int (CellsAll.cons rfl CellsOf.int CellsAll.nil)) rfl (LEs.cons (AV.le_eq rfl) (LEs.cons (AV.le_eq rfl) LEs.nil)) ?_)
        refine G_q rfl (op_litT (n := 2) (enc := c_A2_int) [(1, y425.1), (900, 2)] (CellsAll.cons rfl CellsOf.agg (CellsAll.cons rfl CellsOf.agg CellsAll.nil)) rfl (by kernel_rfl) (LEss.cons (LEs.cons (AV.le_eq rfl) (LEs.cons (AV.le_eq rfl) LEs.nil)) (LEss.cons (LEs.cons (AV.le_eq rfl) (LEs.cons (AV.le_eq rfl) LEs.nil)) LEss.nil)) ?_)
        obtain ⟨y426, hy426, h⟩ := bnd1_some h
        refine G_q rfl (op_pure (m_ref35_EncodeBlock_ok _ _ hy426) Try.func16 (by kernel_rfl) (LEs.cons (AV.le_eq rfl) LEs.nil) ?_)
        refine G_q rfl (op_move (av := .tup [.row 1 c_uint8 y426.1, .exact (.int .i64 y426.2)]) rfl ?_)
        refine G_q rfl (op_extract (av := .row 1 c_uint8 y426.1) rfl rfl ?_)
        refine G_q rfl (op_extract (av := .exact (.int .i64 y426.2)) rfl rfl ?_)
        refine G_q rfl (op_assign (av := .row 1 c_uint8 y426.1) rfl ?_)
        refine G_q rfl (op_assign (av := .exact (.int .i64 y426.2)) rfl ?_)
        refine G_nil ?_
        refine kC_normal ?_
        refine k_seq ?_
        refine k_reg .free hmixP (by kernel_rfl) ?_
        refine G_l rfl (op_lit0I (enc := c_uint8) (n := 1) (by kernel_rfl) (fun v427 => ?_))
        refine G_q rfl (op_move (av := .row 1 c_uint8 y424.1) rfl ?_)
        obtain ⟨n428, h⟩ := need_some h
        refine G_l rfl (op_appT (by kernel_rfl) rfl rfl oc_c_uint8 n428 (fun v429 => ?_))
        refine G_q rfl (op_move (av := .row 1 c_uint8 y426.1) rfl ?_)
        obtain ⟨n430, h⟩ := need_some h
        refine G_l rfl (op_appT (by kernel_rfl) rfl rfl oc_c_uint8 n430 (fun v431 => ?_))
        refine G_q rfl (op_assign (av := .exact v431) rfl ?_)
        refine G_nil ?_
        refine kC_normal ?_
        refine k_seq ?_
        refine k_reg .free hmixP (by kernel_rfl) ?_
        refine G_q rfl (op_move (av := pA b2 0) rfl ?_)
        refine G_q rfl (op_move (av := .row 1 c_uint8 y424.1) rfl ?_)
        refine G_q rfl (op_move (av := .row 1 c_uint8 y424.1) rfl ?_)
        refine G_q rfl (op_len_row (by kernel_rfl) rfl ?_)
        refine G_q rfl (op_sub rfl rfl rfl ?_)
        obtain ⟨n432, h⟩ := need_some h
        refine G_q rfl (op_slice_rowt (by kernel_rfl) rfl bnd_none (bnd_some rfl) (Int.le_refl 0) n432.1 n432.2 ?_)
        obtain ⟨y433, hy433, h⟩ := bnd1_some h
        refine G_l rfl (opB_f1 (op_fun_1_0_1 (m_gen2_Tape_Bytes_ok _ _ _ hy433) Try.func18 (by kernel_rfl) (LEs.cons (AV.le_eq rfl) (LEs.cons (AV.le_eq rfl) LEs.nil)) ?_))
        refine G_q rfl (op_assign (av := .row 1 c_uint8 y433.1) rfl ?_)
        refine G_nil ?_
        refine kC_normal ?_
        refine k_join3_0 h (fun (x7_0_j434 : List Int) (x7_1_j434 : Int) (x98_j434 : Bool) => (AF.put (AF.put (AF.put (AF.put (AF.put AF0 (some 1) (.row 1 c_uint8 a1)) (some 2) (.exact (.int .i64 a2))) (some 7) (pA b2 0)) (some 8) (.exact (.int .i64 x8_l2))) (some 98) (.exact (.bool x98_j434)))) (fun (x7_0_j434 : List Int) (x7_1_j434 : Int) (x98_j434 : Bool) => [boxI 71 b2 [.row 1 c_int x7_0_j434, .exact (.int .i64 x7_1_j434)]]) (fun k434 h => ?_) (fun x7_0_j434 x7_1_j434 x98_j434 h => ?_)
        · refine k_reg .free hmixP (by kernel_rfl) ?_
          refine G_q rfl (op_move (av := .exact v431) rfl ?_)
          refine G_sub rfl (SubU.trans SubU.f1 (SubU.freezeT3 (s1 := 13) (s2 := 46) (s3 := 54) rfl rfl rfl len_c_uint8)) ?_
          obtain ⟨y445, hy445, h⟩ := bnd1_some h
          refine G_q rfl (op_pure (m_law36_decodes_ok _ _ _ hy445) Try.func19 (by kernel_rfl) (LEs.cons (AV.le_eq rfl) (LEs.cons (AV.le_eq rfl) LEs.nil)) ?_)
          refine G_q rfl (op_not rfl ?_)
          refine G_q rfl (op_move (av := .exact (.bool (!y445))) rfl ?_)
          refine G_splitB (c := !y445) 57 rfl (fun hc => ?_) (fun hc => ?_)
          · replace h := ite_t h hc
            refine G_n rfl rfl ?_
            refine G_n rfl rfl ?_
            refine G_n rfl rfl ?_
            refine G_n rfl rfl ?_
            refine G_n rfl rfl ?_
            refine G_q rfl (op_pick_t rfl (av := .exact (.bool true)) rfl ?_)
            refine G_q rfl (op_move (av := .exact (.bool true)) rfl ?_)
            refine G_n rfl rfl ?_
            refine G_n rfl rfl ?_
            refine G_n rfl rfl ?_
            refine G_n rfl rfl ?_
            refine G_n rfl rfl ?_
            refine G_q rfl (op_pick_t rfl (av := .exact (.bool true)) rfl ?_)
            refine G_q rfl (op_move (av := .exact (.bool true)) rfl ?_)
            refine G_n rfl rfl ?_
            refine G_n rfl rfl ?_
            refine G_n rfl rfl ?_
            refine G_n rfl rfl ?_
            refine G_n rfl rfl ?_
            refine G_n rfl rfl ?_
            refine G_n rfl rfl ?_
            refine G_q rfl (op_pick_t rfl (av := .exact (.bool true)) rfl ?_)
            refine G_q rfl (op_move (av := .exact (.bool true)) rfl ?_)
            refine G_n rfl rfl ?_
            refine G_n rfl rfl ?_
            refine G_n rfl rfl ?_
            refine G_n rfl rfl ?_
            refine G_n rfl rfl ?_
            refine G_q rfl (op_pick_t rfl (av := .exact (.bool true)) rfl ?_)
            refine G_q rfl (op_move (av := .exact (.bool true)) rfl ?_)
            refine G_n rfl rfl ?_
            refine G_n rfl rfl ?_
            refine G_n rfl rfl ?_
            refine G_n rfl rfl ?_
            refine G_q rfl (op_pick_t rfl (av := .exact (.bool true)) rfl ?_)
            refine G_q rfl (op_move (av := .exact (.bool true)) rfl ?_)
            refine G_n rfl rfl ?_
            refine G_n rfl rfl ?_
            refine G_n rfl rfl ?_
            refine G_n rfl rfl ?_
            refine G_q rfl (op_pick_t rfl (av := .exact (.bool true)) rfl ?_)
            refine G_nil ?_
            refine kI_normal ⟨_, _, _, h, ?_⟩
            exact Sub.of_le (AF.le_put (AV.le_eq rfl) (AF.le_put (AV.le_eq rfl) (AF.le_put (AV.le_eq rfl) (AF.le_put (AV.le_eq rfl) (AF.le_put (AV.le_eq rfl) (AF.le_top _))))))
          · replace h := ite_f h hc
            refine Gy_q rfl rfl rfl (op_move (av := .row 1 c_uint8 ((([] : List UInt8) ++ y424.1) ++ y426.1)) rfl ?_)
            refine Gy_q rfl rfl rfl (op_move (av := .row 1 c_uint8 y424.1) rfl ?_)
            refine Gy_q rfl rfl rfl (op_len_row (by kernel_rfl) rfl ?_)
            obtain ⟨y446, hy446, h⟩ := bnd1_some h
            refine Gy_q rfl rfl rfl (op_pure (m_law36_decodes_ok _ _ _ hy446) Try.func19 (by kernel_rfl) (LEs.cons (AV.le_eq rfl) (LEs.cons (AV.le_eq rfl) LEs.nil)) ?_)
            refine Gy_q rfl rfl rfl (op_not rfl ?_)
            refine G_q rfl (op_pick_f rfl (av := .exact (.bool (!y446))) rfl ?_)
            refine G_q rfl (op_move (av := .exact (.bool (!y446))) rfl ?_)
            refine G_splitB (c := !y446) 64 rfl (fun hc => ?_) (fun hc => ?_)
            · replace h := ite_t h hc
              refine G_n rfl rfl ?_
              refine G_n rfl rfl ?_
              refine G_n rfl rfl ?_
              refine G_n rfl rfl ?_
              refine G_n rfl rfl ?_
              refine G_q rfl (op_pick_t rfl (av := .exact (.bool true)) rfl ?_)
              refine G_q rfl (op_move (av := .exact (.bool true)) rfl ?_)
              refine G_n rfl rfl ?_
              refine G_n rfl rfl ?_
              refine G_n rfl rfl ?_
              refine G_n rfl rfl ?_
              refine G_n rfl rfl ?_
              refine G_n rfl rfl ?_
              refine G_n rfl rfl ?_
              refine G_q rfl (op_pick_t rfl (av := .exact (.bool true)) rfl ?_)
              refine G_q rfl (op_move (av := .exact (.bool true)) rfl ?_)
              refine G_n rfl rfl ?_
              refine G_n rfl rfl ?_
              refine G_n rfl rfl ?_
              refine G_n rfl rfl ?_
              refine G_n rfl rfl ?_
              refine G_q rfl (op_pick_t rfl (av := .exact (.bool true)) rfl ?_)
              refine G_q rfl (op_move (av := .exact (.bool true)) rfl ?_)
              refine G_n rfl rfl ?_
              refine G_n rfl rfl ?_
              refine G_n rfl rfl ?_
              refine G_n rfl rfl ?_
              refine G_q rfl (op_pick_t rfl (av := .exact (.bool true)) rfl ?_)
              refine G_q rfl (op_move (av := .exact (.bool true)) rfl ?_)
              refine G_n rfl rfl ?_
              refine G_n rfl rfl ?_
              refine G_n rfl rfl ?_
              refine G_n rfl rfl ?_
              refine G_q rfl (op_pick_t rfl (av := .exact (.bool true)) rfl ?_)
              refine G_nil ?_
              refine kI_normal ⟨_, _, _, h, ?_⟩
              exact Sub.of_le (AF.le_put (AV.le_eq rfl) (AF.le_put (AV.le_eq rfl) (AF.le_put (AV.le_eq rfl) (AF.le_put (AV.le_eq rfl) (AF.le_put (AV.le_eq rfl) (AF.le_top _))))))
            · replace h := ite_f h hc
              refine Gy_q rfl rfl rfl (op_move (av := .row 1 c_uint8 ((([] : List UInt8) ++ y424.1) ++ y426.1)) rfl ?_)
              refine Gy_q rfl rfl rfl (op_move (av := .row 1 c_uint8 ((([] : List UInt8) ++ y424.1) ++ y426.1)) rfl ?_)
              refine Gy_q rfl rfl rfl (op_len_row (by kernel_rfl) rfl ?_)
              obtain ⟨y447, hy447, h⟩ := bnd1_some h
              refine Gy_q rfl rfl rfl (op_pure (m_law36_decodes_ok _ _ _ hy447) Try.func19 (by kernel_rfl) (LEs.cons (AV.le_eq rfl) (LEs.cons (AV.le_eq rfl) LEs.nil)) ?_)
              refine Gy_q rfl rfl rfl (op_not rfl ?_)
              refine G_q rfl (op_pick_f rfl (av := .exact (.bool (!y447))) rfl ?_)
              refine G_q rfl (op_move (av := .exact (.bool (!y447))) rfl ?_)
              refine G_splitB (c := !y447) 71 rfl (fun hc => ?_) (fun hc => ?_)
              · replace h := ite_t h hc
                refine G_n rfl rfl ?_
                refine G_n rfl rfl ?_
                refine G_n rfl rfl ?_
                refine G_n rfl rfl ?_
                refine G_n rfl rfl ?_
                refine G_n rfl rfl ?_
                refine G_n rfl rfl ?_
                refine G_q rfl (op_pick_t rfl (av := .exact (.bool true)) rfl ?_)
                refine G_q rfl (op_move (av := .exact (.bool true)) rfl ?_)
                refine G_n rfl rfl ?_
                refine G_n rfl rfl ?_
                refine G_n rfl rfl ?_
                refine G_n rfl rfl ?_
                refine G_n rfl rfl ?_
                refine G_q rfl (op_pick_t rfl (av := .exact (.bool true)) rfl ?_)
                refine G_q rfl (op_move (av := .exact (.bool true)) rfl ?_)
                refine G_n rfl rfl ?_
                refine G_n rfl rfl ?_
                refine G_n rfl rfl ?_
                refine G_n rfl rfl ?_
                refine G_q rfl (op_pick_t rfl (av := .exact (.bool true)) rfl ?_)
                refine G_q rfl (op_move (av := .exact (.bool true)) rfl ?_)
                refine G_n rfl rfl ?_
                refine G_n rfl rfl ?_
                refine G_n rfl rfl ?_
                refine G_n rfl rfl ?_
                refine G_q rfl (op_pick_t rfl (av := .exact (.bool true)) rfl ?_)
                refine G_nil ?_
                refine kI_normal ⟨_, _, _, h, ?_⟩
                exact Sub.of_le (AF.le_put (AV.le_eq rfl) (AF.le_put (AV.le_eq rfl) (AF.le_put (AV.le_eq rfl) (AF.le_put (AV.le_eq rfl) (AF.le_put (AV.le_eq rfl) (AF.le_top _))))))
              · replace h := ite_f h hc
                refine Gy_q rfl rfl rfl (op_move (av := .row 1 c_uint8 ((([] : List UInt8) ++ y424.1) ++ y426.1)) rfl ?_)
                refine Gy_q rfl rfl rfl (op_move (av := pA b2 0) rfl ?_)
                refine Gy_q rfl rfl rfl (op_move (av := .row 1 c_uint8 ((([] : List UInt8) ++ y424.1) ++ y426.1)) rfl ?_)
                refine Gy_q rfl rfl rfl (op_len_row (by kernel_rfl) rfl ?_)
                obtain ⟨y448, hy448, h⟩ := bnd1_some h
                refine Gy_l rfl rfl rfl (op_fun_1_0_1 (m_gen2_Tape_Next_ok _ _ _ hy448) Try.func14 (by kernel_rfl) (LEs.cons (AV.le_eq rfl) (LEs.cons (AV.le_eq rfl) LEs.nil)) ?_)
                obtain ⟨y449, hy449, h⟩ := bnd1_some h
                refine Gy_q rfl rfl rfl (op_pure (m_law36_decodes_ok _ _ _ hy449) Try.func19 (by kernel_rfl) (LEs.cons (AV.le_eq rfl) (LEs.cons (AV.le_eq rfl) LEs.nil)) ?_)
                refine Gy_q rfl rfl rfl (op_not rfl ?_)
                refine G_q rfl (op_pick_f rfl (av := .exact (.bool (!y449))) rfl ?_)
                refine G_q rfl (op_move (av := .exact (.bool (!y449))) rfl ?_)
                refine G_splitB (c := !y449) 80 rfl (fun hc => ?_) (fun hc => ?_)
                · replace h := ite_t h hc
                  refine G_n rfl rfl ?_
                  refine G_n rfl rfl ?_
                  refine G_n rfl rfl ?_
                  refine G_n rfl rfl ?_
                  refine G_n rfl rfl ?_
                  refine G_q rfl (op_pick_t rfl (av := .exact (.bool true)) rfl ?_)
                  refine G_q rfl (op_move (av := .exact (.bool true)) rfl ?_)
                  refine G_n rfl rfl ?_
                  refine G_n rfl rfl ?_
                  refine G_n rfl rfl ?_
                  refine G_n rfl rfl ?_
                  refine G_q rfl (op_pick_t rfl (av := .exact (.bool true)) rfl ?_)
                  refine G_q rfl (op_move (av := .exact (.bool true)) rfl ?_)
                  refine G_n rfl rfl ?_
                  refine G_n rfl rfl ?_
                  refine G_n rfl rfl ?_
                  refine G_n rfl rfl ?_
                  refine G_q rfl (op_pick_t rfl (av := .exact (.bool true)) rfl ?_)
                  refine G_nil ?_
                  refine kI_normal ⟨_, _, _, h, ?_⟩
                  exact Sub.of_le (AF.le_put (AV.le_eq rfl) (AF.le_put (AV.le_eq rfl) (AF.le_put (AV.le_eq rfl) (AF.le_put (AV.le_eq rfl) (AF.le_put (AV.le_eq rfl) (AF.le_top _))))))
                · replace h := ite_f h hc
                  refine Gy_q rfl rfl rfl (op_move (av := pA b2 0) rfl ?_)
                  refine Gy_q rfl rfl rfl (op_move (av := .row 1 c_uint8 ((([] : List UInt8) ++ y424.1) ++ y426.1)) rfl ?_)
                  obtain ⟨y450, hy450, h⟩ := bnd1_some h
                  refine Gy_l rfl rfl rfl (op_fun_1_0_1 (m_gen2_Tape_Bytes_ok _ _ _ hy450) Try.func18 (by kernel_rfl) (LEs.cons (AV.le_eq rfl) (LEs.cons (AV.le_eq rfl) LEs.nil)) ?_)
                  obtain ⟨y451, hy451, h⟩ := bnd1_some h
                  refine Gy_q rfl rfl rfl (op_pure (m_law36_decodes_ok _ _ _ hy451) Try.func19 (by kernel_rfl) (LEs.cons (AV.le_eq rfl) (LEs.cons (AV.le_eq rfl) LEs.nil)) ?_)
                  refine Gy_q rfl rfl rfl (op_not rfl ?_)
                  refine G_q rfl (op_pick_f rfl (av := .exact (.bool (!y451))) rfl ?_)
                  refine G_q rfl (op_move (av := .exact (.bool (!y451))) rfl ?_)
                  refine G_splitB (c := !y451) 87 rfl (fun hc => ?_) (fun hc => ?_)
                  · replace h := ite_t h hc
                    refine G_n rfl rfl ?_
                    refine G_n rfl rfl ?_
                    refine G_n rfl rfl ?_
                    refine G_n rfl rfl ?_
                    refine G_q rfl (op_pick_t rfl (av := .exact (.bool true)) rfl ?_)
                    refine G_q rfl (op_move (av := .exact (.bool true)) rfl ?_)
                    refine G_n rfl rfl ?_
                    refine G_n rfl rfl ?_
                    refine G_n rfl rfl ?_
                    refine G_n rfl rfl ?_
                    refine G_q rfl (op_pick_t rfl (av := .exact (.bool true)) rfl ?_)
                    refine G_nil ?_
                    refine kI_normal ⟨_, _, _, h, ?_⟩
                    exact Sub.of_le (AF.le_put (AV.le_eq rfl) (AF.le_put (AV.le_eq rfl) (AF.le_put (AV.le_eq rfl) (AF.le_put (AV.le_eq rfl) (AF.le_put (AV.le_eq rfl) (AF.le_top _))))))
                  · replace h := ite_f h hc
                    refine Gy_q rfl rfl rfl (op_move (av := .row 1 c_uint8 y433.1) rfl ?_)
                    obtain ⟨y452, hy452, h⟩ := bnd1_some h
                    refine Gy_q rfl rfl rfl (op_pure (m_ref23_Sealed_ok _ _ hy452) Try.func20 (by kernel_rfl) (LEs.cons (AV.le_eq rfl) LEs.nil) ?_)
                    obtain ⟨y453, hy453, h⟩ := bnd1_some h
                    refine Gy_q rfl rfl rfl (op_pure (m_law36_decodes_ok _ _ _ hy453) Try.func19 (by kernel_rfl) (LEs.cons (AV.le_eq rfl) (LEs.cons (AV.le_eq rfl) LEs.nil)) ?_)
                    refine Gy_q rfl rfl rfl (op_not rfl ?_)
                    refine G_q rfl (op_pick_f rfl (av := .exact (.bool (!y453))) rfl ?_)
                    refine G_q rfl (op_move (av := .exact (.bool (!y453))) rfl ?_)
                    refine G_splitB (c := !y453) 93 rfl (fun hc => ?_) (fun hc => ?_)
                    · replace h := ite_t h hc
                      refine G_n rfl rfl ?_
                      refine G_n rfl rfl ?_
                      refine G_n rfl rfl ?_
                      refine G_n rfl rfl ?_
                      refine G_q rfl (op_pick_t rfl (av := .exact (.bool true)) rfl ?_)
                      refine G_nil ?_
                      refine kI_normal ⟨_, _, _, h, ?_⟩
                      exact Sub.of_le (AF.le_put (AV.le_eq rfl) (AF.le_put (AV.le_eq rfl) (AF.le_put (AV.le_eq rfl) (AF.le_put (AV.le_eq rfl) (AF.le_put (AV.le_eq rfl) (AF.le_top _))))))
                    · replace h := ite_f h hc
                      refine Gy_q rfl rfl rfl (op_move (av := .row 1 c_uint8 ((([] : List UInt8) ++ y424.1) ++ y426.1)) rfl ?_)
                      refine Gy_q rfl rfl rfl (op_move (av := .exact (.int .i64 a2)) rfl ?_)
                      obtain ⟨y454, hy454, h⟩ := bnd1_some h
                      refine Gy_q rfl rfl rfl (op_pure (m_law36_decodes_ok _ _ _ hy454) Try.func19 (by kernel_rfl) (LEs.cons (AV.le_eq rfl) (LEs.cons (AV.le_eq rfl) LEs.nil)) ?_)
                      refine Gy_q rfl rfl rfl (op_not rfl ?_)
                      refine G_q rfl (op_pick_f rfl (av := .exact (.bool (!y454))) rfl ?_)
                      refine G_nil ?_
                      refine kI_normal ⟨_, _, _, h, ?_⟩
                      exact Sub.of_le (AF.le_put (AV.le_eq rfl) (AF.le_put (AV.le_eq rfl) (AF.le_put (AV.le_eq rfl) (AF.le_put (AV.le_eq rfl) (AF.le_put (AV.le_eq rfl) (AF.le_top _))))))
        · refine k_cond_b (c := x98_j434) rfl (fun hc => ?_) (fun hc => ?_)
          · replace h := ite_t h hc
            refine k_seq ?_
            refine k_reg .free hmixP (by kernel_rfl) ?_
            refine G_q rfl (op_assign (av := .exact (.bool false)) rfl ?_)
            refine G_nil ?_
            refine kC_normal ?_
            refine k_ret ?_
            refine kB_ret ?_
            refine kC_ret ?_
            refine kI_ret ?_
            refine kB_ret ?_
            refine kI_ret ?_
            obtain rfl := Option.some.inj h
            refine kP_any (endN (af' := (AF.put AF0 (some 6) (.exact (.bool false)))) (σ' := []) _ rfl ?_ ⟨rfl, rfl⟩)
            refine Sub.trans (SubU.to SubU.drop) ?_
            exact Sub.of_le (AF.le_put (AV.le_eq rfl) (AF.le_top _))
          · replace h := ite_f h hc
            refine k_skip ?_
            refine kB_normal ?_
            refine kC_normal ?_
            refine k_reg .free hmixP (by kernel_rfl) ?_
            refine G_q rfl (op_move (av := .exact (.int .i64 x8_l2)) rfl ?_)
            refine G_q rfl (op_add rfl rfl rfl ?_)
            refine G_q rfl (op_assign (av := .exact (.int .i64 (i64 (x8_l2 + 1)))) rfl ?_)
            refine G_nil ?_
            refine kI_normal ⟨_, _, _, h, ?_⟩
            exact Sub.of_le (AF.le_put (AV.le_eq rfl) (AF.le_put (AV.le_eq rfl) (AF.le_put (AV.le_eq rfl) (AF.le_put (AV.le_eq rfl) (AF.le_top _)))))
      · replace h := ite_f h hc
        refine k_exit ?_
        refine kC_exit ?_
        refine kI_exit ?_
        refine kB_exit ?_
        refine kI_normal ⟨h, ?_⟩
        refine Sub.trans (SubU.to SubU.drop) ?_
        exact Sub.of_le (AF.le_put (AV.le_eq rfl) (AF.le_put (AV.le_eq rfl) (AF.le_top _)))
  · refine k_join1_0 h (fun (x6_j455 : Bool) => (AF.put AF0 (some 6) (.exact (.bool x6_j455)))) (fun (x6_j455 : Bool) => []) (fun k455 h => ?_) (fun x6_j455 h => ?_)
    · refine k_reg .free hmixP (by kernel_rfl) ?_
      refine G_q rfl (op_move (av := .row 1 c_uint8 a1) rfl ?_)
      refine G_q rfl (op_len_row (by kernel_rfl) rfl ?_)
      refine G_q rfl (op_gtr rfl rfl ?_)
      refine G_q rfl (op_move (av := .exact (.bool (decide (300 < (List.length a1 : Int))))) rfl ?_)
      refine G_split (p := 300 < (List.length a1 : Int)) 102 rfl (fun hc => ?_) (fun hc => ?_)
      · replace h := ite_t h hc
        refine G_n rfl rfl ?_
        refine G_n rfl rfl ?_
        refine G_n rfl rfl ?_
        refine G_n rfl rfl ?_
        refine G_u rfl rfl ?_
        refine G_u rfl rfl ?_
        refine G_u rfl rfl ?_
        refine G_n rfl rfl ?_
        refine G_n rfl rfl ?_
        refine G_u rfl rfl ?_
        refine G_n rfl rfl ?_
        refine G_q rfl (op_pick_t rfl (av := .exact (.bool true)) rfl ?_)
        refine G_q rfl (op_assign (av := .exact (.bool true)) rfl ?_)
        refine G_nil ?_
        refine kI_normal ⟨_, h, ?_⟩
        exact Sub.of_le (AF.le_put (AV.le_eq rfl) (AF.le_top _))
      · replace h := ite_f h hc
        refine Gy_q rfl rfl rfl (op_move (av := .row 1 c_uint8 a1) rfl ?_)
        refine Gy_q rfl rfl rfl (op_move (av := .exact (.int .i64 a2)) rfl ?_)
        obtain ⟨y460, hy460, h⟩ := bnd1_some h
        refine Gy_q rfl rfl rfl (op_pure (m_law36_decodes_ok _ _ _ hy460) Try.func19 (by kernel_rfl) (LEs.cons (AV.le_eq rfl) (LEs.cons (AV.le_eq rfl) LEs.nil)) ?_)
        refine Gy_q rfl rfl rfl (op_move (av := .exact (.bool y460)) rfl ?_)
        refine G_splitB (c := y460) 106 rfl (fun hc => ?_) (fun hc => ?_)
        · replace h := ite_t h hc
          refine Gy_q rfl rfl rfl (op_move (av := .row 1 c_uint8 a1) rfl ?_)
          obtain ⟨y461, hy461, h⟩ := bnd1_some h
          refine Gy_q rfl rfl rfl (op_pure (m_ref23_Sealed_ok _ _ hy461) Try.func20 (by kernel_rfl) (LEs.cons (AV.le_eq rfl) LEs.nil) ?_)
          obtain ⟨y462, hy462, h⟩ := bnd1_some h
          refine Gy_q rfl rfl rfl (op_pure (m_law36_decodes_ok _ _ _ hy462) Try.func19 (by kernel_rfl) (LEs.cons (AV.le_eq rfl) (LEs.cons (AV.le_eq rfl) LEs.nil)) ?_)
          refine Gy_q rfl rfl rfl (op_pick_t rfl (av := .exact (.bool y462)) rfl ?_)
          refine Gy_q rfl rfl rfl (op_move (av := .exact (.bool y462)) rfl ?_)
          refine G_splitB (c := y462) 111 rfl (fun hc => ?_) (fun hc => ?_)
          · replace h := ite_t h hc
            obtain ⟨y463, hy463, h⟩ := bnd1_some h
            refine Gy_q rfl rfl rfl (op_pure (m_law36_sane_ok _ hy463) Try.func15 (by kernel_rfl) LEs.nil ?_)
            refine Gy_q rfl rfl rfl (op_pick_t rfl (av := .exact (.bool y463)) rfl ?_)
            refine G_q rfl (op_pick_f rfl (av := .exact (.bool y463)) rfl ?_)
            refine G_q rfl (op_assign (av := .exact (.bool y463)) rfl ?_)
            refine G_nil ?_
            refine kI_normal ⟨_, h, ?_⟩
            exact Sub.of_le (AF.le_put (AV.le_eq rfl) (AF.le_top _))
          · replace h := ite_f h hc
            refine G_n rfl rfl ?_
            refine Gy_q rfl rfl rfl (op_pick_f rfl (av := .exact (.bool false)) rfl ?_)
            refine G_q rfl (op_pick_f rfl (av := .exact (.bool false)) rfl ?_)
            refine G_q rfl (op_assign (av := .exact (.bool false)) rfl ?_)
            refine G_nil ?_
            refine kI_normal ⟨_, h, ?_⟩
            exact Sub.of_le (AF.le_put (AV.le_eq rfl) (AF.le_top _))
        · replace h := ite_f h hc
          refine G_n rfl rfl ?_
          refine G_n rfl rfl ?_
          refine G_n rfl rfl ?_
          refine Gy_q rfl rfl rfl (op_pick_f rfl (av := .exact (.bool false)) rfl ?_)
          refine Gy_q rfl rfl rfl (op_move (av := .exact (.bool false)) rfl ?_)
          refine G_n rfl rfl ?_
          refine Gy_q rfl rfl rfl (op_pick_f rfl (av := .exact (.bool false)) rfl ?_)
          refine G_q rfl (op_pick_f rfl (av := .exact (.bool false)) rfl ?_)
          refine G_q rfl (op_assign (av := .exact (.bool false)) rfl ?_)
          refine G_nil ?_
          refine kI_normal ⟨_, h, ?_⟩
          exact Sub.of_le (AF.le_put (AV.le_eq rfl) (AF.le_top _))
    · refine k_ret ?_
      obtain rfl := Option.some.inj h
      refine kP_any (endN (af' := (AF.put AF0 (some 6) (.exact (.bool x6_j455)))) (σ' := []) _ rfl ?_ ⟨rfl, rfl⟩)
      exact Sub.of_le (AF.le_put (AV.le_eq rfl) (AF.le_top _))
set_option maxHeartbeats 4000000 in
theorem m_slices_Clone_L_2_int_2_int_ok (a0 : List (Int × Int)) (r : (List (Int × Int))) (h : m_slices_Clone_L_2_int_2_int a0 = some r) : Fun Try.prog 63 [(.row 2 c_A2_int a0)] [] (fun a s => ∃ z0, a = .exact z0 ∧ s = [vecT Try.prog 23 2 c_A2_int z0 r]) := by
  unfold m_slices_Clone_L_2_int_2_int at h
  refine fun_of_awp Try.func63 rfl Try.ntmps63 (by simp) rfl (res1 rfl) fun E hE => k_end ?_
  refine k_seq ?_
  refine k_reg .free hmixP (by kernel_rfl) ?_
  refine G_q rfl (op_assign (av := .exact (.slice none 0 0)) rfl ?_)
  refine G_nil ?_
  refine kC_normal ?_
  refine k_seq ?_
  refine k_seq ?_
  refine k_reg .free hmixP (by kernel_rfl) ?_
  refine G_q rfl (op_move (av := .row 2 c_A2_int a0) rfl ?_)
  refine G_q rfl (op_eqnil_row (by kernel_rfl) rfl ?_)
  refine G_nil ?_
  refine kC_normal ?_
  obtain ⟨h1, h⟩ := nilc_some h
  refine k_cond_u (p := a0 = []) rfl (fun hc => ?_) ?_
  · replace h := h1 hc
    refine k_seq ?_
    refine k_reg .free hmixP (by kernel_rfl) ?_
    refine G_q rfl (op_assign (av := .exact (.slice none 0 0)) rfl ?_)
    refine G_nil ?_
    refine kC_normal ?_
    refine k_ret ?_
    refine kC_ret ?_
    obtain rfl := Option.some.inj h
    refine kP_any (endN (af' := (AF.put AF0 (some 2) (.exact (.slice none 0 0)))) (σ' := [vecT Try.prog 23 2 c_A2_int (.slice none 0 0) []]) _ rfl ?_ ⟨(.slice none 0 0), rfl, rfl⟩)
    refine Sub.trans (SubU.to (SubU.nilT (P := Try.prog) (t := 23) (n := 2) (enc := c_A2_int))) ?_
    exact Sub.of_le (AF.le_put (AV.le_eq rfl) (AF.le_top _))
  · refine k_skip ?_
    refine kC_normal ?_
    refine k_seq ?_
    refine k_reg .free hmixP (by kernel_rfl) ?_
    refine G_l rfl (op_lit0I (enc := c_A2_int) (n := 2) (by kernel_rfl) (fun v1 => ?_))
    refine G_q rfl (op_move (av := .row 2 c_A2_int a0) rfl ?_)
    obtain ⟨n2, h⟩ := need_some h
    refine G_l rfl (op_appT (by kernel_rfl) rfl rfl oc_c_A2_int n2 (fun v3 => ?_))
    refine G_q rfl (op_assign (av := .exact v3) rfl ?_)
    refine G_nil ?_
    refine kC_normal ?_
    refine k_ret ?_
    obtain rfl := Option.some.inj h
    refine kP_any (endN (af' := (AF.put AF0 (some 2) (.exact v3))) (σ' := [vecT Try.prog 23 2 c_A2_int v3 (([] : List (Int × Int)) ++ a0)]) _ rfl ?_ ⟨v3, rfl, rfl⟩)
    exact Sub.of_le (AF.le_put (AV.le_eq rfl) (AF.le_top _))
theorem m_slices_Clone_L_2_int_2_int_fz (a0 : List (Int × Int)) (r : (List (Int × Int))) (h : m_slices_Clone_L_2_int_2_int a0 = some r) : Pure Try.prog 63 [(.row 2 c_A2_int a0)] (.row 2 c_A2_int r) := Pure.ofOwn len_c_A2_int (m_slices_Clone_L_2_int_2_int_ok a0 r h)
set_option maxHeartbeats 4000000 in
theorem m_slices_Compact_L_2_int_2_int_ok {w0 : Value} (a0 : List (Int × Int)) (r : (List (Int × Int))) (h : m_slices_Compact_L_2_int_2_int a0 = some r) : Fun Try.prog 65 [(.exact w0)] [vecT Try.prog 23 2 c_A2_int w0 a0] (fun a s => a = .row 2 c_A2_int r ∧ s = []) := by
  unfold m_slices_Compact_L_2_int_2_int at h
  refine fun_of_awp Try.func65 rfl Try.ntmps65 (by simp) rfl (res1 rfl) fun E hE => k_end ?_
  refine k_seq ?_
  refine k_reg .free hmixP (by kernel_rfl) ?_
  refine G_q rfl (op_assign (av := .exact (.slice none 0 0)) rfl ?_)
  refine G_nil ?_
  refine kC_normal ?_
  refine k_seq ?_
  refine k_seq ?_
  refine k_reg .free hmixP (by kernel_rfl) ?_
  refine G_q rfl (op_move (av := .exact w0) rfl ?_)
  refine G_r rfl (op_len_vec (by kernel_rfl) rfl ?_)
  refine G_q rfl (op_lss rfl rfl ?_)
  refine G_nil ?_
  refine kC_normal ?_
  refine k_cond_d (p := (List.length a0 : Int) < 2) rfl (fun hc => ?_) (fun hc => ?_)
  · replace h := ite_t h hc
    refine k_seq ?_
    refine k_reg .free hmixP (by kernel_rfl) ?_
    refine G_q rfl (op_move (av := .exact w0) rfl ?_)
    refine G_q rfl (op_assign (av := .exact w0) rfl ?_)
    refine G_nil ?_
    refine kC_normal ?_
    refine k_ret ?_
    refine kC_ret ?_
    obtain rfl := Option.some.inj h
    refine kP_any (endN (af' := (AF.put AF0 (some 2) (.row 2 c_A2_int a0))) (σ' := []) _ rfl ?_ ⟨rfl, rfl⟩)
    refine Sub.trans (SubU.to (SubU.freezeT (s := 2) rfl len_c_A2_int)) ?_
    exact Sub.of_le (AF.le_put (AV.le_eq rfl) (AF.le_top _))
  · replace h := ite_f h hc
    refine k_skip ?_
    refine kC_normal ?_
    refine k_join0_0 h ((AF.put AF0 (some 0) (.exact w0))) ([vecT Try.prog 23 2 c_A2_int w0 a0]) (fun k1 h => ?_) (fun  h => ?_)
    · refine k_seq ?_
      refine k_reg .free hmixP (by kernel_rfl) ?_
      refine G_q rfl (op_assign (av := .exact (.int .i64 1)) rfl ?_)
      refine G_nil ?_
      refine kC_normal ?_
      refine k_block ?_
      refine k_loop1_0 (m_slices_Compact_L_2_int_2_int_L14 a0 k1) (m_slices_Compact_L_2_int_2_int_B14 a0 k1) (fun _ => rfl) (fun m _ => rfl) h (fun (x3_l14 : Int) => (AF.put (AF.put AF0 (some 0) (.exact w0)) (some 3) (.exact (.int .i64 x3_l14)))) (fun (x3_l14 : Int) => [vecT Try.prog 23 2 c_A2_int w0 a0]) ?_ (fun rec14 x3_l14 h => ?_)
      · exact Sub.of_le (AF.le_put (AV.le_eq rfl) (AF.le_put (AV.le_eq rfl) (AF.le_top _)))
      · unfold m_slices_Compact_L_2_int_2_int_B14 at h
        refine k_seq ?_
        refine k_seq ?_
        refine k_reg .free hmixP (by kernel_rfl) ?_
        refine G_q rfl (op_move (av := .exact (.int .i64 x3_l14)) rfl ?_)
        refine G_q rfl (op_move (av := .exact w0) rfl ?_)
        refine G_r rfl (op_len_vec (by kernel_rfl) rfl ?_)
        refine G_q rfl (op_lss rfl rfl ?_)
        refine G_nil ?_
        refine kC_normal ?_
        refine k_cond_d (p := x3_l14 < (List.length a0 : Int)) rfl (fun hc => ?_) (fun hc => ?_)
        · replace h := ite_t h hc
          refine k_skip ?_
          refine kC_normal ?_
          refine k_join0_0 h ((AF.put (AF.put AF0 (some 0) (.exact w0)) (some 3) (.exact (.int .i64 x3_l14)))) ([vecT Try.prog 23 2 c_A2_int w0 a0]) (fun k628 h => ?_) (fun  h => ?_)
          · refine k_block ?_
            refine k_seq ?_
            refine k_plan [] [(0, 0), (0, 1), (0, 4), (0, 5), (0, 6), (1, 2), (1, 3), (1, 7), (1, 8), (0, 9)] hmixP (by kernel_rfl) ?_
            refine P_q no34_0 rfl (op_move (av := .exact w0) rfl ?_)
            refine P_q no34_0 rfl (op_move (av := .exact (.int .i64 x3_l14)) rfl ?_)
            refine P_q no34_0 rfl (op_move (av := .exact w0) rfl ?_)
            refine P_q no34_0 rfl (op_move (av := .exact (.int .i64 x3_l14)) rfl ?_)
            refine P_q no34_0 rfl (op_sub rfl rfl rfl ?_)
            obtain ⟨n691, h⟩ := need_some h
            refine P_r rfl (op_index_vec (by kernel_rfl) rfl rfl n691.1 n691.2 ?_)
            refine P_r rfl (op_load_vecN (i := x3_l14) (o := 0) (m := 2) (c' := c_A2_int (gi a0 x3_l14)) (by kernel_rfl) len_c_A2_int rfl n691.1 n691.2 rfl rfl ?_)
            obtain ⟨n692, h⟩ := need_some h
            refine P_r rfl (op_index_vec (by kernel_rfl) rfl rfl n692.1 n692.2 ?_)
            refine P_r rfl (op_load_vecN (i := i64 (x3_l14 - 1)) (o := 0) (m := 2) (c' := c_A2_int (gi a0 (i64 (x3_l14 - 1)))) (by kernel_rfl) len_c_A2_int rfl n692.1 n692.2 rfl rfl ?_)
            refine P_q no34_0 rfl (op_eqlA (a := (gi a0 x3_l14)) (b := (gi a0 (i64 (x3_l14 - 1)))) (by kernel_rfl) (eq_c_A2_int _ _) rfl rfl ?_)
            refine P_nil ?_
            refine kC_normal ?_
            refine k_cond_d (p := (gi a0 x3_l14) = (gi a0 (i64 (x3_l14 - 1)))) rfl (fun hc => ?_) (fun hc => ?_)
            · replace h := ite_t h hc
              refine k_seq ?_
              refine k_reg .free hmixP (by kernel_rfl) ?_
              refine G_q rfl (op_move (av := .exact w0) rfl ?_)
              refine G_q rfl (op_move (av := .exact (.int .i64 x3_l14)) rfl ?_)
              obtain ⟨n693, h⟩ := need_some h
              refine G_r rfl (op_slice_vec (by kernel_rfl) rfl (bnd_some rfl) bnd_none n693.1 n693.2.1 n693.2.2 ?_)
              refine G_q rfl (op_assign (av := .vsub w0 2 (Int.toNat x3_l14) (Int.toNat (List.length a0 : Int) - Int.toNat x3_l14)) rfl ?_)
              refine G_nil ?_
              refine kC_normal ?_
              refine k_join2_0 h (fun (x0_j694 : List (Int × Int)) (x3_j694 : Int) => (AF.put (AF.put AF0 (some 0) (.exact w0)) (some 3) (.exact (.int .i64 x3_j694)))) (fun (x0_j694 : List (Int × Int)) (x3_j694 : Int) => [vecT Try.prog 23 2 c_A2_int w0 x0_j694]) (fun k694 h => ?_) (fun x0_j694 x3_j694 h => ?_)
              · refine k_seq ?_
                refine k_reg .free hmixP (by kernel_rfl) ?_
                refine G_q rfl (op_assign (av := .exact (.int .i64 1)) rfl ?_)
                refine G_nil ?_
                refine kC_normal ?_
                refine k_block ?_
                refine k_loop3_0 (m_slices_Compact_L_2_int_2_int_L26 a0 x3_l14 k694) (m_slices_Compact_L_2_int_2_int_B26 a0 x3_l14 k694) (fun _ _ _ => rfl) (fun m _ _ _ => rfl) h (fun (x0_l26 : List (Int × Int)) (x3_l26 : Int) (x5_l26 : Int) => (AF.put (AF.put (AF.put (AF.put AF0 (some 0) (.exact w0)) (some 3) (.exact (.int .i64 x3_l26))) (some 4) (.vsub w0 2 (Int.toNat x3_l14) (Int.toNat (List.length a0 : Int) - Int.toNat x3_l14))) (some 5) (.exact (.int .i64 x5_l26)))) (fun (x0_l26 : List (Int × Int)) (x3_l26 : Int) (x5_l26 : Int) => [vecT Try.prog 23 2 c_A2_int w0 x0_l26]) ?_ (fun rec26 x0_l26 x3_l26 x5_l26 h => ?_)
                · exact Sub.of_le (AF.le_put (AV.le_eq rfl) (AF.le_put (AV.le_eq rfl) (AF.le_put (AV.le_eq rfl) (AF.le_put (AV.le_eq rfl) (AF.le_top _)))))
                · unfold m_slices_Compact_L_2_int_2_int_B26 at h
                  refine k_seq ?_
                  refine k_seq ?_
                  refine k_reg .free hmixP (by kernel_rfl) ?_
                  refine G_q rfl (op_move (av := .exact (.int .i64 x5_l26)) rfl ?_)
                  refine G_q rfl (op_move (av := .vsub w0 2 (Int.toNat x3_l14) (Int.toNat (List.length a0 : Int) - Int.toNat x3_l14)) rfl ?_)
                  refine G_q rfl (op_len_vsub (by kernel_rfl) rfl ?_)
                  refine G_q rfl (op_lss rfl rfl ?_)
                  refine G_nil ?_
                  refine kC_normal ?_
                  refine k_cond_d (p := x5_l26 < ((Int.toNat (List.length a0 : Int) - Int.toNat x3_l14 : Nat) : Int)) rfl (fun hc => ?_) (fun hc => ?_)
                  · replace h := ite_t h hc
                    refine k_skip ?_
                    refine kC_normal ?_
                    refine k_join2_0 h (fun (x0_j741 : List (Int × Int)) (x3_j741 : Int) => (AF.put (AF.put (AF.put (AF.put AF0 (some 0) (.exact w0)) (some 3) (.exact (.int .i64 x3_j741))) (some 4) (.vsub w0 2 (Int.toNat x3_l14) (Int.toNat (List.length a0 : Int) - Int.toNat x3_l14))) (some 5) (.exact (.int .i64 x5_l26)))) (fun (x0_j741 : List (Int × Int)) (x3_j741 : Int) => [vecT Try.prog 23 2 c_A2_int w0 x0_j741]) (fun k741 h => ?_) (fun x0_j741 x3_j741 h => ?_)
                    · refine k_block ?_
                      refine k_seq ?_
                      refine k_plan [] [(0, 0), (0, 1), (0, 4), (0, 5), (0, 6), (1, 2), (1, 3), (1, 7), (1, 8), (0, 9)] hmixP (by kernel_rfl) ?_
                      refine P_q no34_0 rfl (op_move (av := .vsub w0 2 (Int.toNat x3_l14) (Int.toNat (List.length a0 : Int) - Int.toNat x3_l14)) rfl ?_)
                      refine P_q no34_0 rfl (op_move (av := .exact (.int .i64 x5_l26)) rfl ?_)
                      refine P_q no34_0 rfl (op_move (av := .vsub w0 2 (Int.toNat x3_l14) (Int.toNat (List.length a0 : Int) - Int.toNat x3_l14)) rfl ?_)
                      refine P_q no34_0 rfl (op_move (av := .exact (.int .i64 x5_l26)) rfl ?_)
                      refine P_q no34_0 rfl (op_sub rfl rfl rfl ?_)
                      obtain ⟨n746, h⟩ := need_some h
                      refine P_r rfl (op_index_vsub (j := (x3_l14 + x5_l26)) (by kernel_rfl) rfl rfl n746.2.1 (by have hh := n746; try simp only [i64] at *; omega) (by have hh := n746; try simp only [i64] at *; omega) (by have hh := n746; try simp only [i64] at *; omega) ?_)
                      refine P_r rfl (op_load_vecN (i := (x3_l14 + x5_l26)) (o := 0) (m := 2) (c' := c_A2_int (gi x0_l26 (x3_l14 + x5_l26))) (by kernel_rfl) len_c_A2_int rfl n746.2.2.2.1 n746.2.2.2.2 rfl rfl ?_)
                      obtain ⟨n747, h⟩ := need_some h
                      refine P_r rfl (op_index_vsub (j := (x3_l14 + (i64 (x5_l26 - 1)))) (by kernel_rfl) rfl rfl n747.2.1 (by have hh := n747; try simp only [i64] at *; omega) (by have hh := n747; try simp only [i64] at *; omega) (by have hh := n747; try simp only [i64] at *; omega) ?_)
                      refine P_r rfl (op_load_vecN (i := (x3_l14 + (i64 (x5_l26 - 1)))) (o := 0) (m := 2) (c' := c_A2_int (gi x0_l26 (x3_l14 + (i64 (x5_l26 - 1))))) (by kernel_rfl) len_c_A2_int rfl n747.2.2.2.1 n747.2.2.2.2 rfl rfl ?_)
                      refine P_q no34_0 rfl (op_neqA (a := (gi x0_l26 (x3_l14 + x5_l26))) (b := (gi x0_l26 (x3_l14 + (i64 (x5_l26 - 1))))) (by kernel_rfl) (eq_c_A2_int _ _) rfl rfl ?_)
                      refine P_nil ?_
                      refine kC_normal ?_
                      refine k_cond_d (p := ¬ (gi x0_l26 (x3_l14 + x5_l26)) = (gi x0_l26 (x3_l14 + (i64 (x5_l26 - 1))))) rfl (fun hc => ?_) (fun hc => ?_)
                      · replace h := ite_t h hc
                        refine k_seq ?_
                        refine k_reg .free hmixP (by kernel_rfl) ?_
                        refine G_q rfl (op_move (av := .exact w0) rfl ?_)
                        refine G_q rfl (op_move (av := .exact (.int .i64 x3_l26)) rfl ?_)
                        refine G_q rfl (op_move (av := .vsub w0 2 (Int.toNat x3_l14) (Int.toNat (List.length a0 : Int) - Int.toNat x3_l14)) rfl ?_)
                        refine G_q rfl (op_move (av := .exact (.int .i64 x5_l26)) rfl ?_)
                        obtain ⟨n748, h⟩ := need_some h
                        refine G_r rfl (op_index_vsub (j := (x3_l14 + x5_l26)) (by kernel_rfl) rfl rfl n748.2.1 (by have hh := n748; try simp only [i64] at *; omega) (by have hh := n748; try simp only [i64] at *; omega) (by have hh := n748; try simp only [i64] at *; omega) ?_)
                        refine G_r rfl (op_load_vecN (i := (x3_l14 + x5_l26)) (o := 0) (m := 2) (c' := c_A2_int (gi x0_l26 (x3_l14 + x5_l26))) (by kernel_rfl) len_c_A2_int rfl n748.2.2.2.1 n748.2.2.2.2 rfl rfl ?_)
                        obtain ⟨n749, h⟩ := need_some h
                        refine G_r rfl (op_index_vec (by kernel_rfl) rfl rfl n749.1 n749.2 ?_)
                        refine G_l rfl (op_store_vec (i := x3_l26) (o := 0) (z := gi x0_l26 (x3_l14 + x5_l26)) (c' := [.exact (.int .i64 ((gi x0_l26 (x3_l14 + x5_l26)).1)), .exact (.int .i64 ((gi x0_l26 (x3_l14 + x5_l26)).2))]) (by kernel_rfl) len_c_A2_int rfl n749.1 n749.2 rfl CellsOf.agg (LEs.cons (AV.le_eq rfl) (LEs.cons (AV.le_eq rfl) LEs.nil)) (oc_c_A2_int _) (by kernel_rfl) (Nat.le_of_ble_eq_true rfl) rfl ?_)
                        refine G_nil ?_
                        refine kC_normal ?_
                        refine k_reg .free hmixP (by kernel_rfl) ?_
                        refine G_q rfl (op_move (av := .exact (.int .i64 x3_l26)) rfl ?_)
                        refine G_q rfl (op_add rfl rfl rfl ?_)
                        refine G_q rfl (op_assign (av := .exact (.int .i64 (i64 (x3_l26 + 1)))) rfl ?_)
                        refine G_nil ?_
                        refine kB_normal ?_
                        refine kI_normal ⟨_, _, h, ?_⟩
                        exact Sub.of_le (AF.le_put (AV.le_eq rfl) (AF.le_put (AV.le_eq rfl) (AF.le_put (AV.le_eq rfl) (AF.le_put (AV.le_eq rfl) (AF.le_top _)))))
                      · replace h := ite_f h hc
                        refine k_skip ?_
                        refine kB_normal ?_
                        refine kI_normal ⟨_, _, h, ?_⟩
                        exact Sub.of_le (AF.le_put (AV.le_eq rfl) (AF.le_put (AV.le_eq rfl) (AF.le_put (AV.le_eq rfl) (AF.le_put (AV.le_eq rfl) (AF.le_top _)))))
                    · refine k_reg .free hmixP (by kernel_rfl) ?_
                      refine G_q rfl (op_move (av := .exact (.int .i64 x5_l26)) rfl ?_)
                      refine G_q rfl (op_add rfl rfl rfl ?_)
                      refine G_q rfl (op_assign (av := .exact (.int .i64 (i64 (x5_l26 + 1)))) rfl ?_)
                      refine G_nil ?_
                      refine kI_normal ⟨_, _, _, h, ?_⟩
                      exact Sub.of_le (AF.le_put (AV.le_eq rfl) (AF.le_put (AV.le_eq rfl) (AF.le_put (AV.le_eq rfl) (AF.le_put (AV.le_eq rfl) (AF.le_top _)))))
                  · replace h := ite_f h hc
                    refine k_exit ?_
                    refine kC_exit ?_
                    refine kI_exit ?_
                    refine kB_exit ?_
                    refine kI_normal ⟨_, _, h, ?_⟩
                    exact Sub.of_le (AF.le_put (AV.le_eq rfl) (AF.le_put (AV.le_eq rfl) (AF.le_top _)))
              · refine k_seq ?_
                refine k_reg .free hmixP (by kernel_rfl) ?_
                refine G_q rfl (op_move (av := .exact w0) rfl ?_)
                refine G_q rfl (op_move (av := .exact (.int .i64 x3_j694)) rfl ?_)
                obtain ⟨n750, h⟩ := need_some h
                refine G_r rfl (op_slice_vec (by kernel_rfl) rfl (bnd_some rfl) bnd_none n750.1 n750.2.1 n750.2.2 ?_)
                refine G_l rfl (op_clear (zr := (0, 0)) (by kernel_rfl) len_c_A2_int oc_c_A2_int rfl (by have := n750; omega) Try.zeroValue29 (fun _ _ => (Fit.ex (Fit.ex Fit.nil0))) ?_)
                refine G_nil ?_
                refine kC_normal ?_
                refine k_seq ?_
                refine k_reg .free hmixP (by kernel_rfl) ?_
                refine G_q rfl (op_move (av := .exact w0) rfl ?_)
                refine G_q rfl (op_move (av := .exact (.int .i64 x3_j694)) rfl ?_)
                refine G_sub rfl (SubU.freezeT3 (s1 := 0) (s2 := 54) (s3 := 57) rfl rfl rfl len_c_A2_int) ?_
                obtain ⟨n751, h⟩ := need_some h
                refine G_q rfl (op_slice_rowt (by kernel_rfl) rfl bnd_none (bnd_some rfl) (Int.le_refl 0) n751.1 n751.2 ?_)
                refine G_q rfl (op_assign (av := .row 2 c_A2_int (List.take (Int.toNat x3_j694) (List.take (Int.toNat x3_j694) x0_j694 ++ List.replicate (Int.toNat (List.length x0_j694 : Int) - Int.toNat x3_j694) ((0, 0) : Int × Int) ++ List.drop (Int.toNat x3_j694 + (Int.toNat (List.length x0_j694 : Int) - Int.toNat x3_j694)) x0_j694))) rfl ?_)
                refine G_nil ?_
                refine kC_normal ?_
                refine k_ret ?_
                refine kB_ret ?_
                refine kI_ret ?_
                refine kI_ret ?_
                refine kB_ret ?_
                refine kI_ret ?_
                obtain rfl := Option.some.inj h
                refine kP_any (endN (af' := (AF.put AF0 (some 2) (.row 2 c_A2_int (List.take (Int.toNat x3_j694) (List.take (Int.toNat x3_j694) x0_j694 ++ List.replicate (Int.toNat (List.length x0_j694 : Int) - Int.toNat x3_j694) ((0, 0) : Int × Int) ++ List.drop (Int.toNat x3_j694 + (Int.toNat (List.length x0_j694 : Int) - Int.toNat x3_j694)) x0_j694))))) (σ' := []) _ rfl ?_ ⟨rfl, rfl⟩)
                exact Sub.of_le (AF.le_put (AV.le_eq rfl) (AF.le_top _))
            · replace h := ite_f h hc
              refine k_skip ?_
              refine kB_normal ?_
              refine kI_normal ⟨h, ?_⟩
              exact Sub.of_le (AF.le_put (AV.le_eq rfl) (AF.le_put (AV.le_eq rfl) (AF.le_top _)))
          · refine k_reg .free hmixP (by kernel_rfl) ?_
            refine G_q rfl (op_move (av := .exact (.int .i64 x3_l14)) rfl ?_)
            refine G_q rfl (op_add rfl rfl rfl ?_)
            refine G_q rfl (op_assign (av := .exact (.int .i64 (i64 (x3_l14 + 1)))) rfl ?_)
            refine G_nil ?_
            refine kI_normal ⟨_, h, ?_⟩
            exact Sub.of_le (AF.le_put (AV.le_eq rfl) (AF.le_put (AV.le_eq rfl) (AF.le_top _)))
        · replace h := ite_f h hc
          refine k_exit ?_
          refine kC_exit ?_
          refine kI_exit ?_
          refine kB_exit ?_
          refine kI_normal ⟨h, ?_⟩
          exact Sub.of_le (AF.le_put (AV.le_eq rfl) (AF.le_top _))
    · refine k_seq ?_
      refine k_reg .free hmixP (by kernel_rfl) ?_
      refine G_q rfl (op_move (av := .exact w0) rfl ?_)
      refine G_q rfl (op_assign (av := .exact w0) rfl ?_)
      refine G_nil ?_
      refine kC_normal ?_
      refine k_ret ?_
      obtain rfl := Option.some.inj h
      refine kP_any (endN (af' := (AF.put AF0 (some 2) (.row 2 c_A2_int a0))) (σ' := []) _ rfl ?_ ⟨rfl, rfl⟩)
      refine Sub.trans (SubU.to (SubU.freezeT (s := 2) rfl len_c_A2_int)) ?_
      exact Sub.of_le (AF.le_put (AV.le_eq rfl) (AF.le_top _))
set_option maxHeartbeats 4000000 in
theorem m_frontier_Sorted_ok (a0 : List (Int × Int)) (r : (List (Int × Int))) (h : m_frontier_Sorted a0 = some r) : Pure Try.prog 31 [(.row 2 c_A2_int a0)] (.row 2 c_A2_int r) := by
  unfold m_frontier_Sorted at h
  refine Pure.ofFun (fun_of_awp Try.func31 rfl Try.ntmps31 (by simp) rfl (res1 rfl) fun E hE => k_end ?_)
  refine k_seq ?_
  refine k_reg .free hmixP (by kernel_rfl) ?_
  refine G_q rfl (op_assign (av := .exact (.slice none 0 0)) rfl ?_)
  refine G_nil ?_
  refine kC_normal ?_
  refine k_join0_0 h ((AF.put AF0 (some 0) (.row 2 c_A2_int a0))) ([]) (fun k1 h => ?_) (fun  h => ?_)
  · refine k_seq ?_
    refine k_reg .free hmixP (by kernel_rfl) ?_
    refine G_q rfl (op_move (av := .row 2 c_A2_int a0) rfl ?_)
    refine G_q rfl (op_len_row (by kernel_rfl) rfl ?_)
    refine G_q rfl (op_move (av := .exact (.int .i64 0)) rfl ?_)
    refine G_nil ?_
    refine kC_normal ?_
    refine k_block ?_
    refine k_loop1_0 (m_frontier_Sorted_L2 a0 k1) (m_frontier_Sorted_B2 a0 k1) (fun _ => rfl) (fun m _ => rfl) h (fun (x8_l2 : Int) => (AF.put (AF.put (AF.put (AF.put AF0 (some 0) (.row 2 c_A2_int a0)) (some 6) (.row 2 c_A2_int a0)) (some 7) (.exact (.int .i64 (List.length a0 : Int)))) (some 8) (.exact (.int .i64 x8_l2)))) (fun (x8_l2 : Int) => []) ?_ (fun rec2 x8_l2 h => ?_)
    · exact Sub.of_le (AF.le_put (AV.le_eq rfl) (AF.le_put (AV.le_eq rfl) (AF.le_put (AV.le_eq rfl) (AF.le_put (AV.le_eq rfl) (AF.le_top _)))))
    · unfold m_frontier_Sorted_B2 at h
      refine k_seq ?_
      refine k_reg .free hmixP (by kernel_rfl) ?_
      refine G_q rfl (op_lss rfl rfl ?_)
      refine G_nil ?_
      refine kC_normal ?_
      refine k_seq ?_
      refine k_cond_d (p := x8_l2 < (List.length a0 : Int)) rfl (fun hc => ?_) (fun hc => ?_)
      · replace h := ite_t h hc
        refine k_skip ?_
        refine kC_normal ?_
        refine k_seq ?_
        refine k_block ?_
        refine k_seq ?_
        refine k_reg .free hmixP (by kernel_rfl) ?_
        obtain ⟨n18, h⟩ := need_some h
        refine G_q rfl (op_index_row (by kernel_rfl) rfl rfl n18.1 n18.2 ?_)
        refine G_q rfl (op_loadNp (m := 2) (c' := c_A2_int (gi a0 x8_l2)) (by kernel_rfl) rfl rfl rfl ?_)
        refine G_l rfl (op_alloc (c := [.exact (.int .i64 ((0, 0).1)), .exact (.int .i64 ((0, 0).2))]) rfl (LEs.cons (AV.le_eq rfl) (LEs.cons (AV.le_eq rfl) LEs.nil)) (fun b19 => ?_))
        refine G_l rfl (op_store_box (c' := [.exact (.int .i64 ((gi a0 x8_l2).1)), .exact (.int .i64 ((gi a0 x8_l2).2))]) (c3 := [.exact (.int .i64 ((gi a0 x8_l2).1)), .exact (.int .i64 ((gi a0 x8_l2).2))]) rfl rfl CellsOf.agg (LEs.cons (AV.le_eq rfl) (LEs.cons (AV.le_eq rfl) LEs.nil)) (oc_c_A2_int _) (by kernel_rfl) (Nat.le_of_ble_eq_true rfl) rfl ?_)
        refine G_nil ?_
        refine kC_normal ?_
        refine k_seq ?_
        refine k_reg .free hmixP (by kernel_rfl) ?_
        refine G_r rfl (op_load_boxN (m := 2) (c' := c_A2_int ((gi a0 x8_l2).1, (gi a0 x8_l2).2)) (by kernel_rfl) rfl rfl rfl ?_)
        obtain ⟨y20, hy20, h⟩ := bnd1_some h
        refine G_q rfl (op_pure (m_frontier_isPair_ok _ _ hy20) Try.func62 (by kernel_rfl) (LEs.cons (AV.le_eq rfl) LEs.nil) ?_)
        refine G_q rfl (op_not rfl ?_)
        refine G_nil ?_
        refine kC_normal ?_
        refine k_cond_b (c := !y20) rfl (fun hc => ?_) (fun hc => ?_)
        · replace h := ite_t h hc
          refine k_seq ?_
          refine k_reg .free hmixP (by kernel_rfl) ?_
          refine G_q rfl (op_assign (av := .exact (.slice none 0 0)) rfl ?_)
          refine G_nil ?_
          refine kC_normal ?_
          refine k_ret ?_
          refine kB_ret ?_
          refine kC_ret ?_
          refine kI_ret ?_
          refine kB_ret ?_
          refine kI_ret ?_
          obtain rfl := Option.some.inj h
          refine kP_any (endN (af' := (AF.put AF0 (some 2) (.row 2 c_A2_int []))) (σ' := []) _ rfl ?_ ⟨rfl, rfl⟩)
          refine Sub.trans (SubU.to SubU.drop) ?_
          exact Sub.of_le (AF.le_put (row_nil (by decide)) (AF.le_top _))
        · replace h := ite_f h hc
          refine k_skip ?_
          refine kB_normal ?_
          refine kC_normal ?_
          refine k_reg .free hmixP (by kernel_rfl) ?_
          refine G_q rfl (op_add rfl rfl rfl ?_)
          refine G_q rfl (op_move (av := .exact (.int .i64 (i64 (x8_l2 + 1)))) rfl ?_)
          refine G_nil ?_
          refine kI_normal ⟨_, h, ?_⟩
          refine Sub.trans (SubU.to SubU.drop) ?_
          exact Sub.of_le (AF.le_put (AV.le_eq rfl) (AF.le_put (AV.le_eq rfl) (AF.le_put (AV.le_eq rfl) (AF.le_put (AV.le_eq rfl) (AF.le_top _)))))
      · replace h := ite_f h hc
        refine k_exit ?_
        refine kC_exit ?_
        refine kI_exit ?_
        refine kB_exit ?_
        refine kI_normal ⟨h, ?_⟩
        exact Sub.of_le (AF.le_put (AV.le_eq rfl) (AF.le_top _))
  · refine k_seq ?_
    refine k_reg .free hmixP (by kernel_rfl) ?_
    refine G_q rfl (op_move (av := .row 2 c_A2_int a0) rfl ?_)
    obtain ⟨y21, hy21, h⟩ := bnd1_some h
    refine G_l rfl (op_fun_0_1_1 (m_slices_Clone_L_2_int_2_int_ok _ _ hy21) Try.func63 (by kernel_rfl) (LEs.cons (AV.le_eq rfl) LEs.nil) (fun v22 => ?_))
    refine G_q rfl (op_assign (av := .exact v22) rfl ?_)
    refine G_nil ?_
    refine kC_normal ?_
    refine k_seq ?_
    refine k_reg .free hmixP (by kernel_rfl) ?_
    refine G_q rfl (op_move (av := .exact v22) rfl ?_)
    obtain ⟨y23, hy23, h⟩ := bnd1_some h
    refine G_l rfl (op_fun_1_0_1 (m_sortP_ok m_frontier_compare_ok _ _ hy23) Try.func64 (by kernel_rfl) (LEs.cons (AV.le_eq rfl) (LEs.cons (AV.le_eq rfl) LEs.nil)) ?_)
    refine G_nil ?_
    refine kC_normal ?_
    refine k_seq ?_
    refine k_reg .free hmixP (by kernel_rfl) ?_
    refine G_q rfl (op_move (av := .exact v22) rfl ?_)
    obtain ⟨y24, hy24, h⟩ := bnd1_some h
    refine G_l rfl (op_fun_1_0_0 (m_slices_Compact_L_2_int_2_int_ok _ _ hy24) Try.func65 (by kernel_rfl) (LEs.cons (AV.le_eq rfl) LEs.nil) ?_)
    refine G_q rfl (op_assign (av := .row 2 c_A2_int y24) rfl ?_)
    refine G_nil ?_
    refine kC_normal ?_
    refine k_ret ?_
    obtain rfl := Option.some.inj h
    refine kP_any (endN (af' := (AF.put AF0 (some 2) (.row 2 c_A2_int y24))) (σ' := []) _ rfl ?_ ⟨rfl, rfl⟩)
    exact Sub.of_le (AF.le_put (AV.le_eq rfl) (AF.le_top _))
set_option maxHeartbeats 4000000 in
theorem m_slices_Grow_L_2_int_2_int_ok (a1 : Int) (r : (List (Int × Int))) (h : m_slices_Grow_L_2_int_2_int a1 = some r) : Fun Try.prog 87 [(.exact (.slice none 0 0)), (.exact (.int .i64 a1))] [] (fun a s => ∃ z0, a = .exact z0 ∧ s = [vecT Try.prog 23 2 c_A2_int z0 r]) := by
  unfold m_slices_Grow_L_2_int_2_int at h
  refine fun_of_awp Try.func87 rfl Try.ntmps87 (by simp) rfl (res1 rfl) fun E hE => k_end ?_
  refine k_seq ?_
  refine k_reg .free hmixP (by kernel_rfl) ?_
  refine G_q rfl (op_assign (av := .exact (.slice none 0 0)) rfl ?_)
  refine G_nil ?_
  refine kC_normal ?_
  refine k_seq ?_
  refine k_seq ?_
  refine k_reg .free hmixP (by kernel_rfl) ?_
  refine G_q rfl (op_move (av := .exact (.int .i64 a1)) rfl ?_)
  refine G_q rfl (op_lss rfl rfl ?_)
  refine G_nil ?_
  refine kC_normal ?_
  refine k_cond_d (p := a1 < 0) rfl (fun hc => ?_) (fun hc => ?_)
  · replace h := ite_t h hc
    cases h
  · replace h := ite_f h hc
    refine k_skip ?_
    refine kC_normal ?_
    refine k_join1_1 h (fun (x0_j2 : List (Int × Int)) (v0_j2 : Value) => (AF.put AF0 (some 0) (.exact v0_j2))) (fun (x0_j2 : List (Int × Int)) (v0_j2 : Value) => [vecT Try.prog 23 2 c_A2_int v0_j2 x0_j2]) (fun k2 h => ?_) (fun x0_j2 v0_j2 h => ?_)
    · refine k_seq ?_
      refine k_reg .free hmixP (by kernel_rfl) ?_
      refine G_q rfl (op_move (av := .exact (.int .i64 a1)) rfl ?_)
      refine G_q rfl (op_move (av := .exact (.slice none 0 0)) rfl ?_)
      refine G_q rfl (op_cap_nil (by kernel_rfl) rfl ?_)
      refine G_q rfl (op_move (av := .exact (.slice none 0 0)) rfl ?_)
      refine G_q rfl (op_len_slice (by kernel_rfl) rfl ?_)
      refine G_q rfl (op_sub rfl rfl rfl ?_)
      refine G_q rfl (op_sub rfl rfl rfl ?_)
      refine G_q rfl (op_assign (av := .exact (.int .i64 (i64 (a1 - (i64 (0 - 0)))))) rfl ?_)
      refine G_nil ?_
      refine kC_normal ?_
      refine k_seq ?_
      refine k_reg .free hmixP (by kernel_rfl) ?_
      refine G_q rfl (op_move (av := .exact (.int .i64 (i64 (a1 - (i64 (0 - 0)))))) rfl ?_)
      refine G_q rfl (op_gtr rfl rfl ?_)
      refine G_nil ?_
      refine kC_normal ?_
      refine k_cond_d (p := 0 < (i64 (a1 - (i64 (0 - 0))))) rfl (fun hc => ?_) (fun hc => ?_)
      · replace h := ite_t h hc
        refine k_reg .free hmixP (by kernel_rfl) ?_
        refine G_q rfl (op_move (av := .exact (.slice none 0 0)) rfl ?_)
        refine G_q rfl (op_move (av := .exact (.slice none 0 0)) rfl ?_)
        refine G_q rfl (op_cap_nil (by kernel_rfl) rfl ?_)
        refine G_q rfl (op_slice_nil (n := 2) (by kernel_rfl) rfl (bnd_some rfl) ?_)
        refine G_q rfl (op_move (av := .exact (.int .i64 (i64 (a1 - (i64 (0 - 0)))))) rfl ?_)
        obtain ⟨n7, h⟩ := need_some h
        refine G_l rfl (op_appMake0 (kn := .i64) (enc := c_A2_int) (zr := (0, 0)) (by kernel_rfl) (by kernel_rfl) rfl rfl n7.1 n7.2 len_c_A2_int Try.zeroValue29 (fun _ _ => (Fit.ex (Fit.ex Fit.nil0))) (fun v8 => ?_))
        refine G_q rfl (op_move (av := .exact (.slice none 0 0)) rfl ?_)
        refine G_q rfl (op_len_slice (by kernel_rfl) rfl ?_)
        obtain ⟨n9, h⟩ := need_some h
        refine G_l rfl (op_trunc (by kernel_rfl) len_c_A2_int rfl (bnd_some rfl) n9.1 n9.2 (fun v10 => ?_))
        refine G_q rfl (op_assign (av := .exact v10) rfl ?_)
        refine G_nil ?_
        refine kI_normal ⟨_, v10, h, ?_⟩
        exact Sub.of_le (AF.le_put (AV.le_eq rfl) (AF.le_top _))
      · replace h := ite_f h hc
        refine k_skip ?_
        refine kI_normal ⟨_, (.slice none 0 0), h, ?_⟩
        refine Sub.trans (SubU.to (SubU.nilT (P := Try.prog) (t := 23) (n := 2) (enc := c_A2_int))) ?_
        exact Sub.of_le (AF.le_put (AV.le_eq rfl) (AF.le_top _))
    · refine k_seq ?_
      refine k_reg .free hmixP (by kernel_rfl) ?_
      refine G_q rfl (op_move (av := .exact v0_j2) rfl ?_)
      refine G_q rfl (op_assign (av := .exact v0_j2) rfl ?_)
      refine G_nil ?_
      refine kC_normal ?_
      refine k_ret ?_
      obtain rfl := Option.some.inj h
      refine kP_any (endN (af' := (AF.put AF0 (some 4) (.exact v0_j2))) (σ' := [vecT Try.prog 23 2 c_A2_int v0_j2 x0_j2]) _ rfl ?_ ⟨v0_j2, rfl, rfl⟩)
      exact Sub.of_le (AF.le_put (AV.le_eq rfl) (AF.le_top _))
theorem m_slices_Grow_L_2_int_2_int_fz (a1 : Int) (r : (List (Int × Int))) (h : m_slices_Grow_L_2_int_2_int a1 = some r) : Pure Try.prog 87 [(.exact (.slice none 0 0)), (.exact (.int .i64 a1))] (.row 2 c_A2_int r) := Pure.ofOwn len_c_A2_int (m_slices_Grow_L_2_int_2_int_ok a1 r h)
set_option maxHeartbeats 4000000 in
theorem m_slices_Concat_L_2_int_2_int_ok (a0 : List (List (Int × Int))) (r : (List (Int × Int))) (h : m_slices_Concat_L_2_int_2_int a0 = some r) : Pure Try.prog 59 [(.row 1 c_L_A2_int a0)] (.row 2 c_A2_int r) := by
  unfold m_slices_Concat_L_2_int_2_int at h
  refine Pure.ofFun (fun_of_awp Try.func59 rfl Try.ntmps59 (by simp) rfl (res1 rfl) fun E hE => k_end ?_)
  refine k_seq ?_
  refine k_reg .free hmixP (by kernel_rfl) ?_
  refine G_q rfl (op_assign (av := .exact (.slice none 0 0)) rfl ?_)
  refine G_nil ?_
  refine kC_normal ?_
  refine k_seq ?_
  refine k_reg .free hmixP (by kernel_rfl) ?_
  refine G_q rfl (op_assign (av := .exact (.int .i64 0)) rfl ?_)
  refine G_nil ?_
  refine kC_normal ?_
  refine k_join1_0 h (fun (x3_j1 : Int) => (AF.put (AF.put AF0 (some 0) (.row 1 c_L_A2_int a0)) (some 3) (.exact (.int .i64 x3_j1)))) (fun (x3_j1 : Int) => []) (fun k1 h => ?_) (fun x3_j1 h => ?_)
  · refine k_seq ?_
    refine k_reg .free hmixP (by kernel_rfl) ?_
    refine G_q rfl (op_move (av := .row 1 c_L_A2_int a0) rfl ?_)
    refine G_q rfl (op_len_row (by kernel_rfl) rfl ?_)
    refine G_q rfl (op_move (av := .exact (.int .i64 0)) rfl ?_)
    refine G_nil ?_
    refine kC_normal ?_
    refine k_block ?_
    refine k_loop2_0 (m_slices_Concat_L_2_int_2_int_L2 a0 k1) (m_slices_Concat_L_2_int_2_int_B2 a0 k1) (fun _ _ => rfl) (fun m _ _ => rfl) h (fun (x3_l2 : Int) (x11_l2 : Int) => (AF.put (AF.put (AF.put (AF.put (AF.put AF0 (some 0) (.row 1 c_L_A2_int a0)) (some 3) (.exact (.int .i64 x3_l2))) (some 9) (.row 1 c_L_A2_int a0)) (some 10) (.exact (.int .i64 (List.length a0 : Int)))) (some 11) (.exact (.int .i64 x11_l2)))) (fun (x3_l2 : Int) (x11_l2 : Int) => []) ?_ (fun rec2 x3_l2 x11_l2 h => ?_)
    · exact Sub.of_le (AF.le_put (AV.le_eq rfl) (AF.le_put (AV.le_eq rfl) (AF.le_put (AV.le_eq rfl) (AF.le_put (AV.le_eq rfl) (AF.le_put (AV.le_eq rfl) (AF.le_top _))))))
    · unfold m_slices_Concat_L_2_int_2_int_B2 at h
      refine k_seq ?_
      refine k_reg .free hmixP (by kernel_rfl) ?_
      refine G_q rfl (op_lss rfl rfl ?_)
      refine G_nil ?_
      refine kC_normal ?_
      refine k_seq ?_
      refine k_cond_d (p := x11_l2 < (List.length a0 : Int)) rfl (fun hc => ?_) (fun hc => ?_)
      · replace h := ite_t h hc
        refine k_skip ?_
        refine kC_normal ?_
        refine k_seq ?_
        refine k_block ?_
        refine k_seq ?_
        refine k_reg .free hmixP (by kernel_rfl) ?_
        obtain ⟨n20, h⟩ := need_some h
        refine G_q rfl (op_index_row (by kernel_rfl) rfl rfl n20.1 n20.2 ?_)
        refine G_q rfl (op_load1p (a := .row 2 c_A2_int (gi a0 x11_l2)) (by kernel_rfl) rfl rfl ?_)
        refine G_q rfl (op_assign (av := .row 2 c_A2_int (gi a0 x11_l2)) rfl ?_)
        refine G_nil ?_
        refine kC_normal ?_
        refine k_seq ?_
        refine k_reg .free hmixP (by kernel_rfl) ?_
        refine G_q rfl (op_move (av := .exact (.int .i64 x3_l2)) rfl ?_)
        refine G_q rfl (op_move (av := .row 2 c_A2_int (gi a0 x11_l2)) rfl ?_)
        refine G_q rfl (op_len_row (by kernel_rfl) rfl ?_)
        refine G_q rfl (op_add rfl rfl rfl ?_)
        refine G_q rfl (op_assign (av := .exact (.int .i64 (i64 (x3_l2 + (List.length (gi a0 x11_l2) : Int))))) rfl ?_)
        refine G_nil ?_
        refine kC_normal ?_
        refine k_seq ?_
        refine k_reg .free hmixP (by kernel_rfl) ?_
        refine G_q rfl (op_move (av := .exact (.int .i64 (i64 (x3_l2 + (List.length (gi a0 x11_l2) : Int))))) rfl ?_)
        refine G_q rfl (op_lss rfl rfl ?_)
        refine G_nil ?_
        refine kC_normal ?_
        refine k_cond_d (p := (i64 (x3_l2 + (List.length (gi a0 x11_l2) : Int))) < 0) rfl (fun hc => ?_) (fun hc => ?_)
        · replace h := ite_t h hc
          cases h
        · replace h := ite_f h hc
          refine k_skip ?_
          refine kB_normal ?_
          refine kC_normal ?_
          refine k_reg .free hmixP (by kernel_rfl) ?_
          refine G_q rfl (op_add rfl rfl rfl ?_)
          refine G_q rfl (op_move (av := .exact (.int .i64 (i64 (x11_l2 + 1)))) rfl ?_)
          refine G_nil ?_
          refine kI_normal ⟨_, _, h, ?_⟩
          exact Sub.of_le (AF.le_put (AV.le_eq rfl) (AF.le_put (AV.le_eq rfl) (AF.le_put (AV.le_eq rfl) (AF.le_put (AV.le_eq rfl) (AF.le_put (AV.le_eq rfl) (AF.le_top _))))))
      · replace h := ite_f h hc
        refine k_exit ?_
        refine kC_exit ?_
        refine kI_exit ?_
        refine kB_exit ?_
        refine kI_normal ⟨_, h, ?_⟩
        exact Sub.of_le (AF.le_put (AV.le_eq rfl) (AF.le_put (AV.le_eq rfl) (AF.le_top _)))
  · refine k_seq ?_
    refine k_reg .free hmixP (by kernel_rfl) ?_
    refine G_q rfl (op_move (av := .exact (.int .i64 x3_j1)) rfl ?_)
    obtain ⟨y21, hy21, h⟩ := bnd1_some h
    refine G_l rfl (op_fun_0_1_1 (m_slices_Grow_L_2_int_2_int_ok _ _ hy21) Try.func87 (by kernel_rfl) (LEs.cons (AV.le_eq rfl) (LEs.cons (AV.le_eq rfl) LEs.nil)) (fun v22 => ?_))
    refine G_q rfl (op_assign (av := .exact v22) rfl ?_)
    refine G_nil ?_
    refine kC_normal ?_
    refine k_join1_1 h (fun (x6_j23 : List (Int × Int)) (v6_j23 : Value) => (AF.put AF0 (some 6) (.exact v6_j23))) (fun (x6_j23 : List (Int × Int)) (v6_j23 : Value) => [vecT Try.prog 23 2 c_A2_int v6_j23 x6_j23]) (fun k23 h => ?_) (fun x6_j23 v6_j23 h => ?_)
    · refine k_seq ?_
      refine k_reg .free hmixP (by kernel_rfl) ?_
      refine G_q rfl (op_move (av := .row 1 c_L_A2_int a0) rfl ?_)
      refine G_q rfl (op_len_row (by kernel_rfl) rfl ?_)
      refine G_q rfl (op_move (av := .exact (.int .i64 0)) rfl ?_)
      refine G_nil ?_
      refine kC_normal ?_
      refine k_block ?_
      refine k_loop2_1 (m_slices_Concat_L_2_int_2_int_L4 a0 k23) (m_slices_Concat_L_2_int_2_int_B4 a0 k23) (fun _ _ => rfl) (fun m _ _ => rfl) h (fun (x6_l4 : List (Int × Int)) (x27_l4 : Int) (v6_l4 : Value) => (AF.put (AF.put (AF.put (AF.put AF0 (some 6) (.exact v6_l4)) (some 25) (.row 1 c_L_A2_int a0)) (some 26) (.exact (.int .i64 (List.length a0 : Int)))) (some 27) (.exact (.int .i64 x27_l4)))) (fun (x6_l4 : List (Int × Int)) (x27_l4 : Int) (v6_l4 : Value) => [vecT Try.prog 23 2 c_A2_int v6_l4 x6_l4]) v22 ?_ (fun rec4 x6_l4 x27_l4 v6_l4 h => ?_)
      · exact Sub.of_le (AF.le_put (AV.le_eq rfl) (AF.le_put (AV.le_eq rfl) (AF.le_put (AV.le_eq rfl) (AF.le_put (AV.le_eq rfl) (AF.le_top _)))))
      · unfold m_slices_Concat_L_2_int_2_int_B4 at h
        refine k_seq ?_
        refine k_reg .free hmixP (by kernel_rfl) ?_
        refine G_q rfl (op_lss rfl rfl ?_)
        refine G_nil ?_
        refine kC_normal ?_
        refine k_seq ?_
        refine k_cond_d (p := x27_l4 < (List.length a0 : Int)) rfl (fun hc => ?_) (fun hc => ?_)
        · replace h := ite_t h hc
          refine k_skip ?_
          refine kC_normal ?_
          refine k_seq ?_
          refine k_block ?_
          refine k_seq ?_
          refine k_reg .free hmixP (by kernel_rfl) ?_
          obtain ⟨n40, h⟩ := need_some h
          refine G_q rfl (op_index_row (by kernel_rfl) rfl rfl n40.1 n40.2 ?_)
          refine G_q rfl (op_load1p (a := .row 2 c_A2_int (gi a0 x27_l4)) (by kernel_rfl) rfl rfl ?_)
          refine G_q rfl (op_assign (av := .row 2 c_A2_int (gi a0 x27_l4)) rfl ?_)
          refine G_nil ?_
          refine kC_normal ?_
          refine k_reg .free hmixP (by kernel_rfl) ?_
          refine G_q rfl (op_move (av := .exact v6_l4) rfl ?_)
          refine G_q rfl (op_move (av := .row 2 c_A2_int (gi a0 x27_l4)) rfl ?_)
          obtain ⟨n41, h⟩ := need_some h
          refine G_l rfl (op_appT (by kernel_rfl) rfl rfl oc_c_A2_int n41 (fun v42 => ?_))
          refine G_q rfl (op_assign (av := .exact v42) rfl ?_)
          refine G_nil ?_
          refine kB_normal ?_
          refine kC_normal ?_
          refine k_reg .free hmixP (by kernel_rfl) ?_
          refine G_q rfl (op_add rfl rfl rfl ?_)
          refine G_q rfl (op_move (av := .exact (.int .i64 (i64 (x27_l4 + 1)))) rfl ?_)
          refine G_nil ?_
          refine kI_normal ⟨_, _, v42, h, ?_⟩
          exact Sub.of_le (AF.le_put (AV.le_eq rfl) (AF.le_put (AV.le_eq rfl) (AF.le_put (AV.le_eq rfl) (AF.le_put (AV.le_eq rfl) (AF.le_top _)))))
        · replace h := ite_f h hc
          refine k_exit ?_
          refine kC_exit ?_
          refine kI_exit ?_
          refine kB_exit ?_
          refine kI_normal ⟨_, v6_l4, h, ?_⟩
          exact Sub.of_le (AF.le_put (AV.le_eq rfl) (AF.le_top _))
    · refine k_seq ?_
      refine k_reg .free hmixP (by kernel_rfl) ?_
      refine G_q rfl (op_move (av := .exact v6_j23) rfl ?_)
      refine G_q rfl (op_assign (av := .exact v6_j23) rfl ?_)
      refine G_nil ?_
      refine kC_normal ?_
      refine k_ret ?_
      obtain rfl := Option.some.inj h
      refine kP_any (endN (af' := (AF.put AF0 (some 2) (.row 2 c_A2_int x6_j23))) (σ' := []) _ rfl ?_ ⟨rfl, rfl⟩)
      refine Sub.trans (SubU.to (SubU.freezeT (s := 2) rfl len_c_A2_int)) ?_
      exact Sub.of_le (AF.le_put (AV.le_eq rfl) (AF.le_top _))
set_option maxHeartbeats 4000000 in
theorem m_frontier_Merge_ok (a0 : List (Int × Int)) (a1 : List (Int × Int)) (r : (List (Int × Int))) (h : m_frontier_Merge a0 a1 = some r) : Pure Try.prog 29 [(.row 2 c_A2_int a0), (.row 2 c_A2_int a1)] (.row 2 c_A2_int r) := by
  unfold m_frontier_Merge at h
  refine Pure.ofFun (fun_of_awp Try.func29 rfl Try.ntmps29 (by simp) rfl (res1 rfl) fun E hE => k_end ?_)
  refine k_seq ?_
  refine k_reg .free hmixP (by kernel_rfl) ?_
  refine G_q rfl (op_assign (av := .exact (.slice none 0 0)) rfl ?_)
  refine G_nil ?_
  refine kC_normal ?_
  refine k_seq ?_
  refine k_join1_0 h (fun (x12_j7 : Bool) => (AF.put (AF.put (AF.put AF0 (some 0) (.row 2 c_A2_int a0)) (some 1) (.row 2 c_A2_int a1)) (some 12) (.exact (.bool x12_j7)))) (fun (x12_j7 : Bool) => []) (fun k7 h => ?_) (fun x12_j7 h => ?_)
  · refine k_reg .free hmixP (by kernel_rfl) ?_
    refine G_q rfl (op_move (av := .row 2 c_A2_int a0) rfl ?_)
    obtain ⟨y10, hy10, h⟩ := bnd1_some h
    refine G_q rfl (op_pure (m_frontier_isRun_ok _ _ hy10) Try.func48 (by kernel_rfl) (LEs.cons (AV.le_eq rfl) LEs.nil) ?_)
    refine G_q rfl (op_not rfl ?_)
    refine G_q rfl (op_move (av := .exact (.bool (!y10))) rfl ?_)
    refine G_splitB (c := !y10) 8 rfl (fun hc => ?_) (fun hc => ?_)
    · replace h := ite_t h hc
      refine G_n rfl rfl ?_
      refine G_n rfl rfl ?_
      refine G_n rfl rfl ?_
      refine G_q rfl (op_pick_t rfl (av := .exact (.bool true)) rfl ?_)
      refine G_nil ?_
      refine kI_normal ⟨_, h, ?_⟩
      exact Sub.of_le (AF.le_put (AV.le_eq rfl) (AF.le_put (AV.le_eq rfl) (AF.le_put (AV.le_eq rfl) (AF.le_top _))))
    · replace h := ite_f h hc
      refine Gy_q rfl rfl rfl (op_move (av := .row 2 c_A2_int a1) rfl ?_)
      obtain ⟨y11, hy11, h⟩ := bnd1_some h
      refine Gy_q rfl rfl rfl (op_pure (m_frontier_isRun_ok _ _ hy11) Try.func48 (by kernel_rfl) (LEs.cons (AV.le_eq rfl) LEs.nil) ?_)
      refine Gy_q rfl rfl rfl (op_not rfl ?_)
      refine G_q rfl (op_pick_f rfl (av := .exact (.bool (!y11))) rfl ?_)
      refine G_nil ?_
      refine kI_normal ⟨_, h, ?_⟩
      exact Sub.of_le (AF.le_put (AV.le_eq rfl) (AF.le_put (AV.le_eq rfl) (AF.le_put (AV.le_eq rfl) (AF.le_top _))))
  · refine k_cond_b (c := x12_j7) rfl (fun hc => ?_) (fun hc => ?_)
    · replace h := ite_t h hc
      refine k_seq ?_
      refine k_reg .free hmixP (by kernel_rfl) ?_
      refine G_q rfl (op_assign (av := .exact (.slice none 0 0)) rfl ?_)
      refine G_nil ?_
      refine kC_normal ?_
      refine k_ret ?_
      refine kC_ret ?_
      obtain rfl := Option.some.inj h
      refine kP_any (endN (af' := (AF.put AF0 (some 4) (.row 2 c_A2_int []))) (σ' := []) _ rfl ?_ ⟨rfl, rfl⟩)
      exact Sub.of_le (AF.le_put (row_nil (by decide)) (AF.le_top _))
    · replace h := ite_f h hc
      refine k_skip ?_
      refine kC_normal ?_
      refine k_seq ?_
      refine k_reg .free hmixP (by kernel_rfl) ?_
      refine G_q rfl (op_move (av := .row 2 c_A2_int a0) rfl ?_)
      refine G_q rfl (op_move (av := .row 2 c_A2_int a1) rfl ?_)
      refine G_q rfl (op_litT (n := 1) (enc := c_L_A2_int) [a0, a1] (CellsAll.cons rfl CellsOf.row (CellsAll.cons rfl CellsOf.row CellsAll.nil)) rfl (by kernel_rfl) (LEss.cons (LEs.cons (AV.le_eq rfl) LEs.nil) (LEss.cons (LEs.cons (AV.le_eq rfl) LEs.nil) LEss.nil)) ?_)
      obtain ⟨y12, hy12, h⟩ := bnd1_some h
      refine G_q rfl (op_pure (m_slices_Concat_L_2_int_2_int_ok _ _ hy12) Try.func59 (by kernel_rfl) (LEs.cons (AV.le_eq rfl) LEs.nil) ?_)
      obtain ⟨y13, hy13, h⟩ := bnd1_some h
      refine G_q rfl (op_pure (m_frontier_Sorted_ok _ _ hy13) Try.func31 (by kernel_rfl) (LEs.cons (AV.le_eq rfl) LEs.nil) ?_)
      refine G_q rfl (op_assign (av := .row 2 c_A2_int y13) rfl ?_)
      refine G_nil ?_
      refine kC_normal ?_
      refine k_ret ?_
      obtain rfl := Option.some.inj h
      refine kP_any (endN (af' := (AF.put AF0 (some 4) (.row 2 c_A2_int y13))) (σ' := []) _ rfl ?_ ⟨rfl, rfl⟩)
      exact Sub.of_le (AF.le_put (AV.le_eq rfl) (AF.le_top _))
set_option maxHeartbeats 4000000 in
theorem m_law36_combines_ok (a0 : List (Int × Int)) (a1 : List (Int × Int)) (r : Bool) (h : m_law36_combines a0 a1 = some r) : Pure Try.prog 28 [(.row 2 c_A2_int a0), (.row 2 c_A2_int a1)] (.exact (.bool r)) := by
  unfold m_law36_combines at h
  refine Pure.ofFun (fun_of_awp Try.func28 rfl Try.ntmps28 (by simp) rfl (res1 rfl) fun E hE => k_end ?_)
  refine k_seq ?_
  refine k_reg .free hmixP (by kernel_rfl) ?_
  refine G_q rfl (op_assign (av := .exact (.bool false)) rfl ?_)
  refine G_nil ?_
  refine kC_normal ?_
  refine k_join1_0 h (fun (x4_j1 : Bool) => (AF.put AF0 (some 4) (.exact (.bool x4_j1)))) (fun (x4_j1 : Bool) => []) (fun k1 h => ?_) (fun x4_j1 h => ?_)
  · refine k_reg .free hmixP (by kernel_rfl) ?_
    refine G_q rfl (op_move (av := .row 2 c_A2_int a0) rfl ?_)
    obtain ⟨y11, hy11, h⟩ := bnd1_some h
    refine G_q rfl (op_pure (m_frontier_Sorted_ok _ _ hy11) Try.func31 (by kernel_rfl) (LEs.cons (AV.le_eq rfl) LEs.nil) ?_)
    refine G_q rfl (op_move (av := .row 2 c_A2_int a0) rfl ?_)
    obtain ⟨y12, hy12, h⟩ := bnd1_some h
    refine G_q rfl (op_pure (m_ref35_Sorted_fz _ _ hy12) Try.func42 (by kernel_rfl) (LEs.cons (AV.le_eq rfl) LEs.nil) ?_)
    obtain ⟨y13, hy13, h⟩ := bnd1_some h
    refine G_q rfl (op_pure (m_law36_same_ok _ _ _ hy13) Try.func25 (by kernel_rfl) (LEs.cons (AV.le_eq rfl) (LEs.cons (AV.le_eq rfl) LEs.nil)) ?_)
    refine G_q rfl (op_move (av := .exact (.bool y13)) rfl ?_)
    refine G_splitB (c := y13) 10 rfl (fun hc => ?_) (fun hc => ?_)
    · replace h := ite_t h hc
      refine Gy_q rfl rfl rfl (op_move (av := .row 2 c_A2_int a0) rfl ?_)
      refine Gy_q rfl rfl rfl (op_move (av := .row 2 c_A2_int a1) rfl ?_)
      obtain ⟨y14, hy14, h⟩ := bnd1_some h
      refine Gy_q rfl rfl rfl (op_pure (m_frontier_Subtract_ok _ _ _ hy14) Try.func30 (by kernel_rfl) (LEs.cons (AV.le_eq rfl) (LEs.cons (AV.le_eq rfl) LEs.nil)) ?_)
      refine Gy_q rfl rfl rfl (op_move (av := .row 2 c_A2_int a0) rfl ?_)
      refine Gy_q rfl rfl rfl (op_move (av := .row 2 c_A2_int a1) rfl ?_)
      obtain ⟨y15, hy15, h⟩ := bnd1_some h
      refine Gy_q rfl rfl rfl (op_pure (m_ref35_Subtract_ok _ _ _ hy15) Try.func17 (by kernel_rfl) (LEs.cons (AV.le_eq rfl) (LEs.cons (AV.le_eq rfl) LEs.nil)) ?_)
      obtain ⟨y16, hy16, h⟩ := bnd1_some h
      refine Gy_q rfl rfl rfl (op_pure (m_law36_same_ok _ _ _ hy16) Try.func25 (by kernel_rfl) (LEs.cons (AV.le_eq rfl) (LEs.cons (AV.le_eq rfl) LEs.nil)) ?_)
      refine G_q rfl (op_pick_t rfl (av := .exact (.bool y16)) rfl ?_)
      refine G_q rfl (op_move (av := .exact (.bool y16)) rfl ?_)
      refine G_splitB (c := y16) 19 rfl (fun hc => ?_) (fun hc => ?_)
      · replace h := ite_t h hc
        refine Gy_q rfl rfl rfl (op_move (av := .row 2 c_A2_int a0) rfl ?_)
        refine Gy_q rfl rfl rfl (op_move (av := .row 2 c_A2_int a1) rfl ?_)
        obtain ⟨y17, hy17, h⟩ := bnd1_some h
        refine Gy_q rfl rfl rfl (op_pure (m_frontier_Merge_ok _ _ _ hy17) Try.func29 (by kernel_rfl) (LEs.cons (AV.le_eq rfl) (LEs.cons (AV.le_eq rfl) LEs.nil)) ?_)
        refine Gy_q rfl rfl rfl (op_move (av := .row 2 c_A2_int a0) rfl ?_)
        refine Gy_q rfl rfl rfl (op_move (av := .row 2 c_A2_int a1) rfl ?_)
        obtain ⟨y18, hy18, h⟩ := bnd1_some h
        refine Gy_q rfl rfl rfl (op_pure (m_ref35_Merge_ok _ _ _ hy18) Try.func58 (by kernel_rfl) (LEs.cons (AV.le_eq rfl) (LEs.cons (AV.le_eq rfl) LEs.nil)) ?_)
        obtain ⟨y19, hy19, h⟩ := bnd1_some h
        refine Gy_q rfl rfl rfl (op_pure (m_law36_same_ok _ _ _ hy19) Try.func25 (by kernel_rfl) (LEs.cons (AV.le_eq rfl) (LEs.cons (AV.le_eq rfl) LEs.nil)) ?_)
        refine G_q rfl (op_pick_t rfl (av := .exact (.bool y19)) rfl ?_)
        refine G_q rfl (op_assign (av := .exact (.bool y19)) rfl ?_)
        refine G_nil ?_
        refine kI_normal ⟨_, h, ?_⟩
        exact Sub.of_le (AF.le_put (AV.le_eq rfl) (AF.le_top _))
      · replace h := ite_f h hc
        refine G_n rfl rfl ?_
        refine G_n rfl rfl ?_
        refine G_n rfl rfl ?_
        refine G_n rfl rfl ?_
        refine G_n rfl rfl ?_
        refine G_n rfl rfl ?_
        refine G_n rfl rfl ?_
        refine G_q rfl (op_pick_f rfl (av := .exact (.bool false)) rfl ?_)
        refine G_q rfl (op_assign (av := .exact (.bool false)) rfl ?_)
        refine G_nil ?_
        refine kI_normal ⟨_, h, ?_⟩
        exact Sub.of_le (AF.le_put (AV.le_eq rfl) (AF.le_top _))
    · replace h := ite_f h hc
      refine G_n rfl rfl ?_
      refine G_n rfl rfl ?_
      refine G_n rfl rfl ?_
      refine G_n rfl rfl ?_
      refine G_n rfl rfl ?_
      refine G_n rfl rfl ?_
      refine G_n rfl rfl ?_
      refine G_q rfl (op_pick_f rfl (av := .exact (.bool false)) rfl ?_)
      refine G_q rfl (op_move (av := .exact (.bool false)) rfl ?_)
      refine G_n rfl rfl ?_
      refine G_n rfl rfl ?_
      refine G_n rfl rfl ?_
      refine G_n rfl rfl ?_
      refine G_n rfl rfl ?_
      refine G_n rfl rfl ?_
      refine G_n rfl rfl ?_
      refine G_q rfl (op_pick_f rfl (av := .exact (.bool false)) rfl ?_)
      refine G_q rfl (op_assign (av := .exact (.bool false)) rfl ?_)
      refine G_nil ?_
      refine kI_normal ⟨_, h, ?_⟩
      exact Sub.of_le (AF.le_put (AV.le_eq rfl) (AF.le_top _))
  · refine k_ret ?_
    obtain rfl := Option.some.inj h
    refine kP_any (endN (af' := (AF.put AF0 (some 4) (.exact (.bool x4_j1)))) (σ' := []) _ rfl ?_ ⟨rfl, rfl⟩)
    exact Sub.of_le (AF.le_put (AV.le_eq rfl) (AF.le_top _))
end Go.Proofs.Ytkplmgdmkfgjhaa
