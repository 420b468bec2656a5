/- The functions compute their models, by program. -/
import Derived.Test.YtkbbeeeoogjknaaKE4
namespace Go.Proofs.Ytkbbeeeoogjknaa
open Go.RowKit
attribute [local irreducible] AV.exact AV.top AV.row AV.ptr AV.agg AV.tup AV.eptr AV.fn AV.nilq AV.nilqn opA opB opM opR Quiet Loud Reads wpG awp den Sub SubU Pure Fun vecI vecT boxI CellsAll CellsOf OneC LEs LEss
set_option maxRecDepth 100000

set_option maxHeartbeats 4000000 in
theorem m_law15_awake_ok  (r : Bool) (h : m_law15_awake = some r) : Pure Try.prog 23 [] (.exact (.bool r)) := by
  unfold m_law15_awake at h
  refine Pure.ofFun (fun_of_awp Try.func23 rfl Try.ntmps23 (by simp) rfl (res1 rfl) fun E hE => k_end ?_)
  refine k_seq ?_
  refine k_reg .free hmixP (by kernel_rfl) ?_
  refine G_q rfl (op_assign (av := .exact (.bool false)) rfl ?_)
  refine G_nil ?_
  refine kC_normal ?_
  refine k_seq ?_
  refine k_reg .free hmixP (by kernel_rfl) ?_
  refine G_q rfl (op_bld (c' := c_api_Pair (2, 3)) (CellsAll.cons rfl CellsOf.int (CellsAll.cons rfl CellsOf.int CellsAll.nil)) rfl (LEs.cons (AV.le_eq rfl) (LEs.cons (AV.le_eq rfl) LEs.nil)) ?_)
  refine G_q rfl (op_bld (c' := c_api_Pair (2, 5)) (CellsAll.cons rfl CellsOf.int (CellsAll.cons rfl CellsOf.int CellsAll.nil)) rfl (LEs.cons (AV.le_eq rfl) (LEs.cons (AV.le_eq rfl) LEs.nil)) ?_)
  refine G_q rfl (op_litT (n := 2) (enc := c_api_Pair) [(2, 3), (2, 5)] (CellsAll.cons rfl CellsOf.agg (CellsAll.cons rfl CellsOf.agg CellsAll.nil)) rfl (by kernel_rfl) (LEss.cons (LEs.cons (AV.le_eq rfl) (LEs.cons (AV.le_eq rfl) LEs.nil)) (LEss.cons (LEs.cons (AV.le_eq rfl) (LEs.cons (AV.le_eq rfl) LEs.nil)) LEss.nil)) ?_)
  refine G_q rfl (op_assign (av := .row 2 c_api_Pair [(2, 3), (2, 5)]) rfl ?_)
  refine G_nil ?_
  refine kC_normal ?_
  refine k_seq ?_
  refine k_reg .free hmixP (by kernel_rfl) ?_
  refine G_q rfl (op_bld (c' := c_api_Above (3, 4)) (CellsAll.cons rfl CellsOf.int (CellsAll.cons rfl CellsOf.int CellsAll.nil)) rfl (LEs.cons (AV.le_eq rfl) (LEs.cons (AV.le_eq rfl) LEs.nil)) ?_)
  refine G_q rfl (op_bld (c' := c_api_Above (2, 3)) (CellsAll.cons rfl CellsOf.int (CellsAll.cons rfl CellsOf.int CellsAll.nil)) rfl (LEs.cons (AV.le_eq rfl) (LEs.cons (AV.le_eq rfl) LEs.nil)) ?_)
  refine G_q rfl (op_litT (n := 2) (enc := c_api_Above) [(3, 4), (2, 3)] (CellsAll.cons rfl CellsOf.agg (CellsAll.cons rfl CellsOf.agg CellsAll.nil)) rfl (by kernel_rfl) (LEss.cons (LEs.cons (AV.le_eq rfl) (LEs.cons (AV.le_eq rfl) LEs.nil)) (LEss.cons (LEs.cons (AV.le_eq rfl) (LEs.cons (AV.le_eq rfl) LEs.nil)) LEss.nil)) ?_)
  obtain ⟨y1, hy1, h⟩ := bnd1_some h
  refine G_q rfl (op_pure (m_close_ok _ _ hy1) Try.func13 (by kernel_rfl) (LEs.cons (AV.le_eq rfl) LEs.nil) ?_)
  refine G_q rfl (op_move (av := .tup [.row 2 c_api_Above y1.1, .exact (.int .i64 y1.2)]) rfl ?_)
  refine G_q rfl (op_extract (av := .row 2 c_api_Above y1.1) rfl rfl ?_)
  refine G_q rfl (op_extract (av := .exact (.int .i64 y1.2)) rfl rfl ?_)
  refine G_q rfl (op_assign (av := .row 2 c_api_Above y1.1) rfl ?_)
  refine G_q rfl (op_assign (av := .exact (.int .i64 y1.2)) rfl ?_)
  refine G_nil ?_
  refine kC_normal ?_
  refine k_join1_0 h (fun (x0_j2 : Bool) => (AF.put AF0 (some 0) (.exact (.bool x0_j2)))) (fun (x0_j2 : Bool) => []) (fun k2 h => ?_) (fun x0_j2 h => ?_)
  · refine k_reg .free hmixP (by kernel_rfl) ?_
    refine G_q rfl (op_move (av := .row 2 c_api_Pair [(2, 3), (2, 5)]) rfl ?_)
    obtain ⟨y9, hy9, h⟩ := bnd1_some h
    refine G_q rfl (op_pure (m_alphabet_Image_ok _ _ _ hy9) Try.func32 (by kernel_rfl) (LEs.cons (AV.le_eq rfl) (LEs.cons (AV.le_eq rfl) LEs.nil)) ?_)
    refine G_q rfl (op_litT (n := 1) (enc := c_int) [3, 5] (CellsAll.cons rfl CellsOf.int (CellsAll.cons rfl CellsOf.int CellsAll.nil)) rfl (by kernel_rfl) (LEss.cons (LEs.cons (AV.le_eq rfl) LEs.nil) (LEss.cons (LEs.cons (AV.le_eq rfl) LEs.nil) LEss.nil)) ?_)
    obtain ⟨y10, hy10, h⟩ := bnd1_some h
    refine G_q rfl (op_pure (m_help_Equal_int_ok _ _ _ hy10) Try.func18 (by kernel_rfl) (LEs.cons (AV.le_eq rfl) (LEs.cons (AV.le_eq rfl) LEs.nil)) ?_)
    refine G_q rfl (op_move (av := .exact (.bool y10)) rfl ?_)
    refine G_splitB (c := y10) 18 rfl (fun hc => ?_) (fun hc => ?_)
    · replace h := ite_t h hc
      refine Gy_q rfl rfl rfl (op_move (av := .row 2 c_api_Pair [(2, 3), (2, 5)]) rfl ?_)
      obtain ⟨y11, hy11, h⟩ := bnd1_some h
      refine Gy_q rfl rfl rfl (op_pure (m_alphabet_Image_ok _ _ _ hy11) Try.func32 (by kernel_rfl) (LEs.cons (AV.le_eq rfl) (LEs.cons (AV.le_eq rfl) LEs.nil)) ?_)
      refine Gy_q rfl rfl rfl (op_litT (n := 1) (enc := c_int) [4] (CellsAll.cons rfl CellsOf.int CellsAll.nil) rfl (by kernel_rfl) (LEss.cons (LEs.cons (AV.le_eq rfl) LEs.nil) LEss.nil) ?_)
      obtain ⟨y12, hy12, h⟩ := bnd1_some h
      refine Gy_q rfl rfl rfl (op_pure (m_help_Equal_int_ok _ _ _ hy12) Try.func18 (by kernel_rfl) (LEs.cons (AV.le_eq rfl) (LEs.cons (AV.le_eq rfl) LEs.nil)) ?_)
      refine G_q rfl (op_pick_t rfl (av := .exact (.bool y12)) rfl ?_)
      refine G_q rfl (op_move (av := .exact (.bool y12)) rfl ?_)
      refine G_splitB (c := y12) 24 rfl (fun hc => ?_) (fun hc => ?_)
      · replace h := ite_t h hc
        refine Gy_q rfl rfl rfl (op_move (av := .exact (.int .i64 y1.2)) rfl ?_)
        refine Gy_q rfl rfl rfl (op_eql rfl rfl ?_)
        refine G_q rfl (op_pick_t rfl (av := .exact (.bool (decide (y1.2 = 0)))) rfl ?_)
        refine G_q rfl (op_move (av := .exact (.bool (decide (y1.2 = 0)))) rfl ?_)
        refine G_split (p := y1.2 = 0) 28 rfl (fun hc => ?_) (fun hc => ?_)
        · replace h := ite_t h hc
          refine Gy_q rfl rfl rfl (op_move (av := .row 2 c_api_Above y1.1) rfl ?_)
          refine Gy_q rfl rfl rfl (op_len_row (by kernel_rfl) rfl ?_)
          refine Gy_q rfl rfl rfl (op_eql rfl rfl ?_)
          refine G_q rfl (op_pick_t rfl (av := .exact (.bool (decide ((List.length y1.1 : Int) = 3)))) rfl ?_)
          refine G_q rfl (op_move (av := .exact (.bool (decide ((List.length y1.1 : Int) = 3)))) rfl ?_)
          refine G_split (p := (List.length y1.1 : Int) = 3) 33 rfl (fun hc => ?_) (fun hc => ?_)
          · replace h := ite_t h hc
            refine Gy_q rfl rfl rfl (op_move (av := .row 2 c_api_Above y1.1) rfl ?_)
            refine Gy_q rfl rfl rfl (op_litT (n := 1) (enc := c_int) [0, 2, 5] (CellsAll.cons rfl CellsOf.int (CellsAll.cons rfl CellsOf.int (CellsAll.cons rfl CellsOf.int CellsAll.nil))) rfl (by kernel_rfl) (LEss.cons (LEs.cons (AV.le_eq rfl) LEs.nil) (LEss.cons (LEs.cons (AV.le_eq rfl) LEs.nil) (LEss.cons (LEs.cons (AV.le_eq rfl) LEs.nil) LEss.nil))) ?_)
            obtain ⟨y13, hy13, h⟩ := bnd1_some h
            refine Gy_q rfl rfl rfl (op_pure (m_alphabet_Keep_ok _ _ _ hy13) Try.func19 (by kernel_rfl) (LEs.cons (AV.le_eq rfl) (LEs.cons (AV.le_eq rfl) LEs.nil)) ?_)
            refine Gy_q rfl rfl rfl (op_litT (n := 1) (enc := c_int) [0, 5] (CellsAll.cons rfl CellsOf.int (CellsAll.cons rfl CellsOf.int CellsAll.nil)) rfl (by kernel_rfl) (LEss.cons (LEs.cons (AV.le_eq rfl) LEs.nil) (LEss.cons (LEs.cons (AV.le_eq rfl) LEs.nil) LEss.nil)) ?_)
            obtain ⟨y14, hy14, h⟩ := bnd1_some h
            refine Gy_q rfl rfl rfl (op_pure (m_help_Equal_int_ok _ _ _ hy14) Try.func18 (by kernel_rfl) (LEs.cons (AV.le_eq rfl) (LEs.cons (AV.le_eq rfl) LEs.nil)) ?_)
            refine G_q rfl (op_pick_t rfl (av := .exact (.bool y14)) rfl ?_)
            refine G_q rfl (op_assign (av := .exact (.bool y14)) rfl ?_)
            refine G_nil ?_
            refine kI_normal ⟨_, h, ?_⟩
            exact Sub.of_le (AF.le_put (AV.le_eq rfl) (AF.le_top _))
          · replace h := ite_f h hc
            refine G_n rfl rfl ?_
            refine G_n rfl rfl ?_
            refine G_n rfl rfl ?_
            refine G_n rfl rfl ?_
            refine G_n rfl rfl ?_
            refine G_q rfl (op_pick_f rfl (av := .exact (.bool false)) rfl ?_)
            refine G_q rfl (op_assign (av := .exact (.bool false)) rfl ?_)
            refine G_nil ?_
            refine kI_normal ⟨_, h, ?_⟩
            exact Sub.of_le (AF.le_put (AV.le_eq rfl) (AF.le_top _))
        · replace h := ite_f h hc
          refine G_n rfl rfl ?_
          refine G_n rfl rfl ?_
          refine G_n rfl rfl ?_
          refine G_q rfl (op_pick_f rfl (av := .exact (.bool false)) rfl ?_)
          refine G_q rfl (op_move (av := .exact (.bool false)) rfl ?_)
          refine G_n rfl rfl ?_
          refine G_n rfl rfl ?_
          refine G_n rfl rfl ?_
          refine G_n rfl rfl ?_
          refine G_n rfl rfl ?_
          refine G_q rfl (op_pick_f rfl (av := .exact (.bool false)) rfl ?_)
          refine G_q rfl (op_assign (av := .exact (.bool false)) rfl ?_)
          refine G_nil ?_
          refine kI_normal ⟨_, h, ?_⟩
          exact Sub.of_le (AF.le_put (AV.le_eq rfl) (AF.le_top _))
      · replace h := ite_f h hc
        refine G_n rfl rfl ?_
        refine G_n rfl rfl ?_
        refine G_q rfl (op_pick_f rfl (av := .exact (.bool false)) rfl ?_)
        refine G_q rfl (op_move (av := .exact (.bool false)) rfl ?_)
        refine G_n rfl rfl ?_
        refine G_n rfl rfl ?_
        refine G_n rfl rfl ?_
        refine G_q rfl (op_pick_f rfl (av := .exact (.bool false)) rfl ?_)
        refine G_q rfl (op_move (av := .exact (.bool false)) rfl ?_)
        refine G_n rfl rfl ?_
        refine G_n rfl rfl ?_
        refine G_n rfl rfl ?_
        refine G_n rfl rfl ?_
        refine G_n rfl rfl ?_
        refine G_q rfl (op_pick_f rfl (av := .exact (.bool false)) rfl ?_)
        refine G_q rfl (op_assign (av := .exact (.bool false)) rfl ?_)
        refine G_nil ?_
        refine kI_normal ⟨_, h, ?_⟩
        exact Sub.of_le (AF.le_put (AV.le_eq rfl) (AF.le_top _))
    · replace h := ite_f h hc
      refine G_n rfl rfl ?_
      refine G_n rfl rfl ?_
      refine G_n rfl rfl ?_
      refine G_n rfl rfl ?_
      refine G_q rfl (op_pick_f rfl (av := .exact (.bool false)) rfl ?_)
      refine G_q rfl (op_move (av := .exact (.bool false)) rfl ?_)
      refine G_n rfl rfl ?_
      refine G_n rfl rfl ?_
      refine G_q rfl (op_pick_f rfl (av := .exact (.bool false)) rfl ?_)
      refine G_q rfl (op_move (av := .exact (.bool false)) rfl ?_)
      refine G_n rfl rfl ?_
      refine G_n rfl rfl ?_
      refine G_n rfl rfl ?_
      refine G_q rfl (op_pick_f rfl (av := .exact (.bool false)) rfl ?_)
      refine G_q rfl (op_move (av := .exact (.bool false)) rfl ?_)
      refine G_n rfl rfl ?_
      refine G_n rfl rfl ?_
      refine G_n rfl rfl ?_
      refine G_n rfl rfl ?_
      refine G_n rfl rfl ?_
      refine G_q rfl (op_pick_f rfl (av := .exact (.bool false)) rfl ?_)
      refine G_q rfl (op_assign (av := .exact (.bool false)) rfl ?_)
      refine G_nil ?_
      refine kI_normal ⟨_, h, ?_⟩
      exact Sub.of_le (AF.le_put (AV.le_eq rfl) (AF.le_top _))
  · refine k_ret ?_
    obtain rfl := Option.some.inj h
    refine kP_any (endN (af' := (AF.put AF0 (some 0) (.exact (.bool x0_j2)))) (σ' := []) _ rfl ?_ ⟨rfl, rfl⟩)
    exact Sub.of_le (AF.le_put (AV.le_eq rfl) (AF.le_top _))
set_option maxHeartbeats 4000000 in
theorem m_gen_New_ok (a0 : List Int) (r : ((List Int) × Int)) (h : m_gen_New a0 = some r) : Fun Try.prog 10 [(.row 1 c_int a0)] [] (fun a s => ∃ z0, a = pA z0 0 ∧ s = [boxI 58 z0 [.row 1 c_int r.1, .exact (.int .i64 r.2)]]) := by
  unfold m_gen_New at h
  refine fun_of_awp Try.func10 rfl Try.ntmps10 (by simp) rfl (res1 rfl) fun E hE => k_end ?_
  refine k_seq ?_
  refine k_reg .free hmixP (by kernel_rfl) ?_
  refine G_q rfl (op_assign (av := _) rfl ?_)
  refine G_nil ?_
  refine kC_normal ?_
  refine k_seq ?_
  refine k_reg .free hmixP (by kernel_rfl) ?_
  refine G_q rfl (op_move (av := .row 1 c_int a0) rfl ?_)
  refine G_q rfl (op_bld (c' := c_cspcheckgen_Choices (a0, 0)) (CellsAll.cons rfl CellsOf.row CellsAll.nil) rfl (LEs.cons (AV.le_eq rfl) (LEs.cons (AV.le_eq rfl) LEs.nil)) ?_)
  refine G_l rfl (op_boxI (c := [.row 1 c_int ((a0, 0).1), .exact (.int .i64 ((a0, 0).2))]) rfl CellsOf.agg (LEs.cons (AV.le_eq rfl) (LEs.cons (AV.le_eq rfl) LEs.nil)) (fun b1 => ?_))
  refine G_q rfl (op_assign (av := pA b1 0) rfl ?_)
  refine G_nil ?_
  refine kC_normal ?_
  refine k_ret ?_
  obtain rfl := Option.some.inj h
  refine kP_any (endN (af' := (AF.put AF0 (some 2) (pA b1 0))) (σ' := [boxI 58 b1 [.row 1 c_int ((a0, 0).1), .exact (.int .i64 ((a0, 0).2))]]) _ rfl ?_ ⟨b1, rfl, rfl⟩)
  exact Sub.of_le (AF.le_put (AV.le_eq rfl) (AF.le_top _))
set_option maxHeartbeats 4000000 in
theorem m_ref16_before_ok (a0 : Int × Int) (a1 : Int × Int) (r : Bool) (h : m_ref16_before a0 a1 = some r) : Pure Try.prog 58 [(.agg (c_api_Pair a0)), (.agg (c_api_Pair a1))] (.exact (.bool r)) := by
  unfold m_ref16_before at h
  refine Pure.ofFun (fun_of_awp Try.func58 rfl Try.ntmps58 (by simp) rfl (res1 rfl) fun E hE => k_end ?_)
  refine k_seq ?_
  refine k_reg .free hmixP (by kernel_rfl) ?_
  refine G_q rfl (op_box (c := c_api_Pair a0) rfl CellsOf.agg ?_)
  refine G_q rfl (op_box (c := c_api_Pair a1) rfl CellsOf.agg ?_)
  refine G_q rfl (op_assign (av := .exact (.bool false)) rfl ?_)
  refine G_nil ?_
  refine kC_normal ?_
  refine k_join1_0 h (fun (x4_j1 : Bool) => (AF.put AF0 (some 4) (.exact (.bool x4_j1)))) (fun (x4_j1 : Bool) => []) (fun k1 h => ?_) (fun x4_j1 h => ?_)
  · refine k_reg .free hmixP (by kernel_rfl) ?_
    refine G_q rfl (op_fieldAddr_ptr (o := 0) (c' := (List.drop 0 (c_api_Pair a0))) (by kernel_rfl) rfl rfl ?_)
    refine G_q rfl (op_load1p (a := .exact (.int .i64 a0.1)) (by kernel_rfl) rfl rfl ?_)
    refine G_q rfl (op_fieldAddr_ptr (o := 0) (c' := (List.drop 0 (c_api_Pair a1))) (by kernel_rfl) rfl rfl ?_)
    refine G_q rfl (op_load1p (a := .exact (.int .i64 a1.1)) (by kernel_rfl) rfl rfl ?_)
    refine G_q rfl (op_lss rfl rfl ?_)
    refine G_q rfl (op_move (av := .exact (.bool (decide (a0.1 < a1.1)))) rfl ?_)
    refine G_split (p := a0.1 < a1.1) 10 rfl (fun hc => ?_) (fun hc => ?_)
    · replace h := ite_t h hc
      refine G_n rfl rfl ?_
      refine G_n rfl rfl ?_
      refine G_n rfl rfl ?_
      refine G_n rfl rfl ?_
      refine G_n rfl rfl ?_
      refine G_n rfl rfl ?_
      refine G_u rfl rfl ?_
      refine G_u rfl rfl ?_
      refine G_u rfl rfl ?_
      refine G_u rfl rfl ?_
      refine G_u rfl rfl ?_
      refine G_n rfl rfl ?_
      refine G_q rfl (op_pick_t rfl (av := .exact (.bool true)) rfl ?_)
      refine G_q rfl (op_assign (av := .exact (.bool true)) rfl ?_)
      refine G_nil ?_
      refine kI_normal ⟨_, h, ?_⟩
      exact Sub.of_le (AF.le_put (AV.le_eq rfl) (AF.le_top _))
    · replace h := ite_f h hc
      refine Gy_q rfl rfl rfl (op_fieldAddr_ptr (o := 0) (c' := (List.drop 0 (c_api_Pair a0))) (by kernel_rfl) rfl rfl ?_)
      refine Gy_q rfl rfl rfl (op_load1p (a := .exact (.int .i64 a0.1)) (by kernel_rfl) rfl rfl ?_)
      refine Gy_q rfl rfl rfl (op_fieldAddr_ptr (o := 0) (c' := (List.drop 0 (c_api_Pair a1))) (by kernel_rfl) rfl rfl ?_)
      refine Gy_q rfl rfl rfl (op_load1p (a := .exact (.int .i64 a1.1)) (by kernel_rfl) rfl rfl ?_)
      refine Gy_q rfl rfl rfl (op_eql rfl rfl ?_)
      refine Gy_q rfl rfl rfl (op_move (av := .exact (.bool (decide (a0.1 = a1.1)))) rfl ?_)
      refine G_split (p := a0.1 = a1.1) 16 rfl (fun hc => ?_) (fun hc => ?_)
      · replace h := ite_t h hc
        refine Gy_q rfl rfl rfl (op_fieldAddr_ptr (o := 1) (c' := (List.drop 1 (c_api_Pair a0))) (by kernel_rfl) rfl rfl ?_)
        refine Gy_q rfl rfl rfl (op_load1p (a := .exact (.int .i64 a0.2)) (by kernel_rfl) rfl rfl ?_)
        refine Gy_q rfl rfl rfl (op_fieldAddr_ptr (o := 1) (c' := (List.drop 1 (c_api_Pair a1))) (by kernel_rfl) rfl rfl ?_)
        refine Gy_q rfl rfl rfl (op_load1p (a := .exact (.int .i64 a1.2)) (by kernel_rfl) rfl rfl ?_)
        refine Gy_q rfl rfl rfl (op_lss rfl rfl ?_)
        refine Gy_q rfl rfl rfl (op_pick_t rfl (av := .exact (.bool (decide (a0.2 < a1.2)))) rfl ?_)
        refine G_q rfl (op_pick_f rfl (av := .exact (.bool (decide (a0.2 < a1.2)))) rfl ?_)
        refine G_q rfl (op_assign (av := .exact (.bool (decide (a0.2 < a1.2)))) rfl ?_)
        refine G_nil ?_
        refine kI_normal ⟨_, h, ?_⟩
        exact Sub.of_le (AF.le_put (AV.le_eq rfl) (AF.le_top _))
      · replace h := ite_f h hc
        refine G_n rfl rfl ?_
        refine G_n rfl rfl ?_
        refine G_n rfl rfl ?_
        refine G_n rfl rfl ?_
        refine G_n rfl rfl ?_
        refine Gy_q rfl rfl rfl (op_pick_f rfl (av := .exact (.bool false)) rfl ?_)
        refine G_q rfl (op_pick_f rfl (av := .exact (.bool false)) rfl ?_)
        refine G_q rfl (op_assign (av := .exact (.bool false)) rfl ?_)
        refine G_nil ?_
        refine kI_normal ⟨_, h, ?_⟩
        exact Sub.of_le (AF.le_put (AV.le_eq rfl) (AF.le_top _))
  · refine k_ret ?_
    obtain rfl := Option.some.inj h
    refine kP_any (endN (af' := (AF.put AF0 (some 4) (.exact (.bool x4_j1)))) (σ' := []) _ rfl ?_ ⟨rfl, rfl⟩)
    exact Sub.of_le (AF.le_put (AV.le_eq rfl) (AF.le_top _))
set_option maxHeartbeats 4000000 in
theorem m_ref16_Relation_ok (a0 : List (Int × Int)) (r : (List (Int × Int))) (h : m_ref16_Relation a0 = some r) : Fun Try.prog 31 [(.row 2 c_api_Pair a0)] [] (fun a s => ∃ z0, a = .exact z0 ∧ s = [vecT Try.prog 44 2 c_api_Pair z0 r]) := by
  unfold m_ref16_Relation at h
  refine fun_of_awp Try.func31 rfl Try.ntmps31 (by simp) rfl (res1 rfl) fun E hE => k_end ?_
  refine k_seq ?_
  refine k_reg .free hmixP (by kernel_rfl) ?_
  refine G_q rfl (op_assign (av := .exact (.slice none 0 0)) rfl ?_)
  refine G_nil ?_
  refine kC_normal ?_
  refine k_seq ?_
  refine k_reg .free hmixP (by kernel_rfl) ?_
  refine G_q rfl (op_assign (av := .exact (.slice none 0 0)) rfl ?_)
  refine G_nil ?_
  refine kC_normal ?_
  refine k_join1_1 h (fun (x3_j1 : List (Int × Int)) (v3_j1 : Value) => (AF.put AF0 (some 3) (.exact v3_j1))) (fun (x3_j1 : List (Int × Int)) (v3_j1 : Value) => [vecT Try.prog 44 2 c_api_Pair v3_j1 x3_j1]) (fun k1 h => ?_) (fun x3_j1 v3_j1 h => ?_)
  · refine k_seq ?_
    refine k_reg .free hmixP (by kernel_rfl) ?_
    refine G_q rfl (op_assign (av := .exact (.int .i64 0)) rfl ?_)
    refine G_nil ?_
    refine kC_normal ?_
    refine k_block ?_
    refine k_loop2_1 (m_ref16_Relation_L14 a0 k1) (m_ref16_Relation_B14 a0 k1) (fun _ _ => rfl) (fun m _ _ => rfl) h (fun (x3_l14 : List (Int × Int)) (x4_l14 : Int) (v3_l14 : Value) => (AF.put (AF.put (AF.put AF0 (some 0) (.row 2 c_api_Pair a0)) (some 3) (.exact v3_l14)) (some 4) (.exact (.int .i64 x4_l14)))) (fun (x3_l14 : List (Int × Int)) (x4_l14 : Int) (v3_l14 : Value) => [vecT Try.prog 44 2 c_api_Pair v3_l14 x3_l14]) (.slice none 0 0) ?_ (fun rec14 x3_l14 x4_l14 v3_l14 h => ?_)
    · refine Sub.trans (SubU.to (SubU.nilT (P := Try.prog) (t := 44) (n := 2) (enc := c_api_Pair))) ?_
      exact Sub.of_le (AF.le_put (AV.le_eq rfl) (AF.le_put (AV.le_eq rfl) (AF.le_put (AV.le_eq rfl) (AF.le_top _))))
    · unfold m_ref16_Relation_B14 at h
      refine k_seq ?_
      refine k_seq ?_
      refine k_reg .free hmixP (by kernel_rfl) ?_
      refine G_q rfl (op_move (av := .exact (.int .i64 x4_l14)) rfl ?_)
      refine G_q rfl (op_move (av := .row 2 c_api_Pair a0) rfl ?_)
      refine G_q rfl (op_len_row (by kernel_rfl) rfl ?_)
      refine G_q rfl (op_lss rfl rfl ?_)
      refine G_nil ?_
      refine kC_normal ?_
      refine k_cond_d (p := x4_l14 < (List.length a0 : Int)) rfl (fun hc => ?_) (fun hc => ?_)
      · replace h := ite_t h hc
        refine k_skip ?_
        refine kC_normal ?_
        refine k_join1_1 h (fun (x3_j1034 : List (Int × Int)) (v3_j1034 : Value) => (AF.put (AF.put (AF.put AF0 (some 0) (.row 2 c_api_Pair a0)) (some 3) (.exact v3_j1034)) (some 4) (.exact (.int .i64 x4_l14)))) (fun (x3_j1034 : List (Int × Int)) (v3_j1034 : Value) => [vecT Try.prog 44 2 c_api_Pair v3_j1034 x3_j1034]) (fun k1034 h => ?_) (fun x3_j1034 v3_j1034 h => ?_)
        · refine k_block ?_
          refine k_seq ?_
          refine k_join1_0 h (fun (x27_j1174 : Bool) => (AF.put (AF.put (AF.put (AF.put AF0 (some 0) (.row 2 c_api_Pair a0)) (some 3) (.exact v3_l14)) (some 4) (.exact (.int .i64 x4_l14))) (some 27) (.exact (.bool x27_j1174)))) (fun (x27_j1174 : Bool) => [vecT Try.prog 44 2 c_api_Pair v3_l14 x3_l14]) (fun k1174 h => ?_) (fun x27_j1174 h => ?_)
          · refine k_reg .free hmixP (by kernel_rfl) ?_
            refine G_q rfl (op_move (av := .row 2 c_api_Pair a0) rfl ?_)
            refine G_q rfl (op_move (av := .exact (.int .i64 x4_l14)) rfl ?_)
            obtain ⟨n1179, h⟩ := need_some h
            refine G_q rfl (op_index_row (by kernel_rfl) rfl rfl n1179.1 n1179.2 ?_)
            refine G_q rfl (op_fieldAddr_ptr (o := 0) (c' := (List.drop 0 (c_api_Pair (gi a0 x4_l14)))) (by kernel_rfl) rfl rfl ?_)
            refine G_q rfl (op_load1p (a := .exact (.int .i64 ((gi a0 x4_l14).1))) (by kernel_rfl) rfl rfl ?_)
            obtain ⟨y1180, hy1180, h⟩ := bnd1_some h
            refine G_q rfl (op_pure (m_ref16_Visible_ok _ _ hy1180) Try.func56 (by kernel_rfl) (LEs.cons (AV.le_eq rfl) LEs.nil) ?_)
            refine G_q rfl (op_not rfl ?_)
            refine G_q rfl (op_move (av := .exact (.bool (!y1180))) rfl ?_)
            refine G_splitB (c := !y1180) 19 rfl (fun hc => ?_) (fun hc => ?_)
            · replace h := ite_t h hc
              refine G_n rfl rfl ?_
              refine G_n rfl rfl ?_
              refine G_n rfl rfl ?_
              refine G_n rfl rfl ?_
              refine G_n rfl rfl ?_
              refine G_n rfl rfl ?_
              refine G_n rfl rfl ?_
              refine G_q rfl (op_pick_t rfl (av := .exact (.bool true)) rfl ?_)
              refine G_nil ?_
              refine kI_normal ⟨_, h, ?_⟩
              exact Sub.of_le (AF.le_put (AV.le_eq rfl) (AF.le_put (AV.le_eq rfl) (AF.le_put (AV.le_eq rfl) (AF.le_put (AV.le_eq rfl) (AF.le_top _)))))
            · replace h := ite_f h hc
              refine Gy_q rfl rfl rfl (op_move (av := .row 2 c_api_Pair a0) rfl ?_)
              refine Gy_q rfl rfl rfl (op_move (av := .exact (.int .i64 x4_l14)) rfl ?_)
              obtain ⟨n1181, h⟩ := need_some h
              refine Gy_q rfl rfl rfl (op_index_row (by kernel_rfl) rfl rfl n1181.1 n1181.2 ?_)
              refine Gy_q rfl rfl rfl (op_fieldAddr_ptr (o := 1) (c' := (List.drop 1 (c_api_Pair (gi a0 x4_l14)))) (by kernel_rfl) rfl rfl ?_)
              refine Gy_q rfl rfl rfl (op_load1p (a := .exact (.int .i64 ((gi a0 x4_l14).2))) (by kernel_rfl) rfl rfl ?_)
              obtain ⟨y1182, hy1182, h⟩ := bnd1_some h
              refine Gy_q rfl rfl rfl (op_pure (m_ref16_Visible_ok _ _ hy1182) Try.func56 (by kernel_rfl) (LEs.cons (AV.le_eq rfl) LEs.nil) ?_)
              refine Gy_q rfl rfl rfl (op_not rfl ?_)
              refine G_q rfl (op_pick_f rfl (av := .exact (.bool (!y1182))) rfl ?_)
              refine G_nil ?_
              refine kI_normal ⟨_, h, ?_⟩
              exact Sub.of_le (AF.le_put (AV.le_eq rfl) (AF.le_put (AV.le_eq rfl) (AF.le_put (AV.le_eq rfl) (AF.le_put (AV.le_eq rfl) (AF.le_top _)))))
          · refine k_cond_b (c := x27_j1174) rfl (fun hc => ?_) (fun hc => ?_)
            · replace h := ite_t h hc
              refine k_exit ?_
              refine kC_exit ?_
              refine kB_exit ?_
              refine kI_normal ⟨_, v3_l14, h, ?_⟩
              exact Sub.of_le (AF.le_put (AV.le_eq rfl) (AF.le_put (AV.le_eq rfl) (AF.le_put (AV.le_eq rfl) (AF.le_top _))))
            · replace h := ite_f h hc
              refine k_skip ?_
              refine kC_normal ?_
              refine k_seq ?_
              refine k_reg .free hmixP (by kernel_rfl) ?_
              refine G_q rfl (op_assign (av := .exact (.int .i64 0)) rfl ?_)
              refine G_nil ?_
              refine kC_normal ?_
              refine k_join1_0 h (fun (x5_j1183 : Int) => (AF.put (AF.put (AF.put (AF.put AF0 (some 0) (.row 2 c_api_Pair a0)) (some 3) (.exact v3_l14)) (some 4) (.exact (.int .i64 x4_l14))) (some 5) (.exact (.int .i64 x5_j1183)))) (fun (x5_j1183 : Int) => [vecT Try.prog 44 2 c_api_Pair v3_l14 x3_l14]) (fun k1183 h => ?_) (fun x5_j1183 h => ?_)
              · refine k_block ?_
                refine k_loop1_0 (m_ref16_Relation_L26 a0 x3_l14 x4_l14 k1183) (m_ref16_Relation_B26 a0 x3_l14 x4_l14 k1183) (fun _ => rfl) (fun m _ => rfl) h (fun (x5_l26 : Int) => (AF.put (AF.put (AF.put (AF.put AF0 (some 0) (.row 2 c_api_Pair a0)) (some 3) (.exact v3_l14)) (some 4) (.exact (.int .i64 x4_l14))) (some 5) (.exact (.int .i64 x5_l26)))) (fun (x5_l26 : Int) => [vecT Try.prog 44 2 c_api_Pair v3_l14 x3_l14]) ?_ (fun rec26 x5_l26 h => ?_)
                · exact Sub.of_le (AF.le_put (AV.le_eq rfl) (AF.le_put (AV.le_eq rfl) (AF.le_put (AV.le_eq rfl) (AF.le_put (AV.le_eq rfl) (AF.le_top _)))))
                · unfold m_ref16_Relation_B26 at h
                  refine k_seq ?_
                  refine k_join1_0 h (fun (x42_j1268 : Bool) => (AF.put (AF.put (AF.put (AF.put (AF.put AF0 (some 0) (.row 2 c_api_Pair a0)) (some 3) (.exact v3_l14)) (some 4) (.exact (.int .i64 x4_l14))) (some 5) (.exact (.int .i64 x5_l26))) (some 42) (.exact (.bool x42_j1268)))) (fun (x42_j1268 : Bool) => [vecT Try.prog 44 2 c_api_Pair v3_l14 x3_l14]) (fun k1268 h => ?_) (fun x42_j1268 h => ?_)
                  · refine k_plan [] [(0, 0), (0, 1), (1, 2), (0, 3), (0, 4), (0, 5), (0, 6), (0, 9), (0, 10), (0, 11), (0, 12), (1, 7), (1, 8), (0, 13), (0, 14)] hmixP (by kernel_rfl) ?_
                    refine P_q no34_0 rfl (op_move (av := .exact (.int .i64 x5_l26)) rfl ?_)
                    refine P_q no34_0 rfl (op_move (av := .exact v3_l14) rfl ?_)
                    refine P_r rfl (op_len_vec (by kernel_rfl) rfl ?_)
                    refine P_q no34_0 rfl (op_lss rfl rfl ?_)
                    refine P_q no34_0 rfl (op_move (av := .exact (.bool (decide (x5_l26 < (List.length x3_l14 : Int))))) rfl ?_)
                    refine P_split (p := x5_l26 < (List.length x3_l14 : Int)) 32 rfl (fun hc => ?_) (fun hc => ?_)
                    · replace h := ite_t h hc
                      refine Py_q no34_0 rfl rfl rfl (op_move (av := .exact v3_l14) rfl ?_)
                      refine Py_q no34_0 rfl rfl rfl (op_move (av := .exact (.int .i64 x5_l26)) rfl ?_)
                      refine Py_q no34_0 rfl rfl rfl (op_move (av := .row 2 c_api_Pair a0) rfl ?_)
                      refine Py_q no34_0 rfl rfl rfl (op_move (av := .exact (.int .i64 x4_l14)) rfl ?_)
                      obtain ⟨n1272, h⟩ := need_some h
                      refine Py_q no34_0 rfl rfl rfl (op_index_row (by kernel_rfl) rfl rfl n1272.1 n1272.2 ?_)
                      refine Py_q no34_0 rfl rfl rfl (op_loadNp (m := 2) (c' := c_api_Pair (gi a0 x4_l14)) (by kernel_rfl) rfl rfl rfl ?_)
                      obtain ⟨n1273, h⟩ := need_some h
                      refine Py_r rfl rfl rfl (op_index_vec (by kernel_rfl) rfl rfl n1273.1 n1273.2 ?_)
                      refine Py_r rfl rfl rfl (op_load_vecN (i := x5_l26) (o := 0) (m := 2) (c' := c_api_Pair (gi x3_l14 x5_l26)) (by kernel_rfl) len_c_api_Pair rfl n1273.1 n1273.2 rfl rfl ?_)
                      obtain ⟨y1274, hy1274, h⟩ := bnd1_some h
                      refine Py_q no34_0 rfl rfl rfl (op_pure (m_ref16_before_ok _ _ _ hy1274) Try.func58 (by kernel_rfl) (LEs.cons (AV.le_eq rfl) (LEs.cons (AV.le_eq rfl) LEs.nil)) ?_)
                      refine P_q no34_0 rfl (op_pick_t rfl (av := .exact (.bool y1274)) rfl ?_)
                      refine P_nil ?_
                      refine kI_normal ⟨_, h, ?_⟩
                      exact Sub.of_le (AF.le_put (AV.le_eq rfl) (AF.le_put (AV.le_eq rfl) (AF.le_put (AV.le_eq rfl) (AF.le_put (AV.le_eq rfl) (AF.le_put (AV.le_eq rfl) (AF.le_top _))))))
                    · replace h := ite_f h hc
                      refine P_n no34_0 rfl rfl rfl ?_
                      refine P_n no34_0 rfl rfl rfl ?_
                      refine P_n no34_0 rfl rfl rfl ?_
                      refine P_n no34_0 rfl rfl rfl ?_
                      refine P_n no34_0 rfl rfl rfl ?_
                      refine P_n no34_0 rfl rfl rfl ?_
                      refine P_n no34_1 rfl rfl rfl ?_
                      refine P_n no34_1 rfl rfl rfl ?_
                      refine P_n no34_0 rfl rfl rfl ?_
                      refine P_q no34_0 rfl (op_pick_f rfl (av := .exact (.bool false)) rfl ?_)
                      refine P_nil ?_
                      refine kI_normal ⟨_, h, ?_⟩
                      exact Sub.of_le (AF.le_put (AV.le_eq rfl) (AF.le_put (AV.le_eq rfl) (AF.le_put (AV.le_eq rfl) (AF.le_put (AV.le_eq rfl) (AF.le_put (AV.le_eq rfl) (AF.le_top _))))))
                  · refine k_cond_b (c := x42_j1268) rfl (fun hc => ?_) (fun hc => ?_)
                    · replace h := ite_t h hc
                      refine k_skip ?_
                      refine kC_normal ?_
                      refine k_block ?_
                      refine k_reg .free hmixP (by kernel_rfl) ?_
                      refine G_q rfl (op_move (av := .exact (.int .i64 x5_l26)) rfl ?_)
                      refine G_q rfl (op_add rfl rfl rfl ?_)
                      refine G_q rfl (op_assign (av := .exact (.int .i64 (i64 (x5_l26 + 1)))) rfl ?_)
                      refine G_nil ?_
                      refine kB_normal ?_
                      refine kI_normal ⟨_, h, ?_⟩
                      exact Sub.of_le (AF.le_put (AV.le_eq rfl) (AF.le_put (AV.le_eq rfl) (AF.le_put (AV.le_eq rfl) (AF.le_put (AV.le_eq rfl) (AF.le_top _)))))
                    · replace h := ite_f h hc
                      refine k_exit ?_
                      refine kC_exit ?_
                      refine kI_exit ?_
                      refine kB_exit ?_
                      refine kI_normal ⟨_, h, ?_⟩
                      exact Sub.of_le (AF.le_put (AV.le_eq rfl) (AF.le_put (AV.le_eq rfl) (AF.le_put (AV.le_eq rfl) (AF.le_put (AV.le_eq rfl) (AF.le_top _)))))
              · refine k_seq ?_
                refine k_join1_0 h (fun (x59_j1281 : Bool) => (AF.put (AF.put (AF.put (AF.put (AF.put AF0 (some 0) (.row 2 c_api_Pair a0)) (some 3) (.exact v3_l14)) (some 4) (.exact (.int .i64 x4_l14))) (some 5) (.exact (.int .i64 x5_j1183))) (some 59) (.exact (.bool x59_j1281)))) (fun (x59_j1281 : Bool) => [vecT Try.prog 44 2 c_api_Pair v3_l14 x3_l14]) (fun k1281 h => ?_) (fun x59_j1281 h => ?_)
                · refine k_plan [] [(0, 0), (0, 1), (1, 2), (0, 3), (0, 4), (0, 5), (0, 6), (0, 9), (0, 10), (0, 11), (0, 12), (1, 7), (1, 8), (0, 13), (0, 14)] hmixP (by kernel_rfl) ?_
                  refine P_q no34_0 rfl (op_move (av := .exact (.int .i64 x5_j1183)) rfl ?_)
                  refine P_q no34_0 rfl (op_move (av := .exact v3_l14) rfl ?_)
                  refine P_r rfl (op_len_vec (by kernel_rfl) rfl ?_)
                  refine P_q no34_0 rfl (op_lss rfl rfl ?_)
                  refine P_q no34_0 rfl (op_move (av := .exact (.bool (decide (x5_j1183 < (List.length x3_l14 : Int))))) rfl ?_)
                  refine P_split (p := x5_j1183 < (List.length x3_l14 : Int)) 49 rfl (fun hc => ?_) (fun hc => ?_)
                  · replace h := ite_t h hc
                    refine Py_q no34_0 rfl rfl rfl (op_move (av := .exact v3_l14) rfl ?_)
                    refine Py_q no34_0 rfl rfl rfl (op_move (av := .exact (.int .i64 x5_j1183)) rfl ?_)
                    refine Py_q no34_0 rfl rfl rfl (op_move (av := .row 2 c_api_Pair a0) rfl ?_)
                    refine Py_q no34_0 rfl rfl rfl (op_move (av := .exact (.int .i64 x4_l14)) rfl ?_)
                    obtain ⟨n1284, h⟩ := need_some h
                    refine Py_q no34_0 rfl rfl rfl (op_index_row (by kernel_rfl) rfl rfl n1284.1 n1284.2 ?_)
                    refine Py_q no34_0 rfl rfl rfl (op_loadNp (m := 2) (c' := c_api_Pair (gi a0 x4_l14)) (by kernel_rfl) rfl rfl rfl ?_)
                    obtain ⟨n1285, h⟩ := need_some h
                    refine Py_r rfl rfl rfl (op_index_vec (by kernel_rfl) rfl rfl n1285.1 n1285.2 ?_)
                    refine Py_r rfl rfl rfl (op_load_vecN (i := x5_j1183) (o := 0) (m := 2) (c' := c_api_Pair (gi x3_l14 x5_j1183)) (by kernel_rfl) len_c_api_Pair rfl n1285.1 n1285.2 rfl rfl ?_)
                    refine Py_q no34_0 rfl rfl rfl (op_eqlA (a := (gi x3_l14 x5_j1183)) (b := (gi a0 x4_l14)) (by kernel_rfl) (eq_c_api_Pair _ _) rfl rfl ?_)
                    refine P_q no34_0 rfl (op_pick_t rfl (av := .exact (.bool (decide ((gi x3_l14 x5_j1183) = (gi a0 x4_l14))))) rfl ?_)
                    refine P_nil ?_
                    refine kI_normal ⟨_, h, ?_⟩
                    exact Sub.of_le (AF.le_put (AV.le_eq rfl) (AF.le_put (AV.le_eq rfl) (AF.le_put (AV.le_eq rfl) (AF.le_put (AV.le_eq rfl) (AF.le_put (AV.le_eq rfl) (AF.le_top _))))))
                  · replace h := ite_f h hc
                    refine P_n no34_0 rfl rfl rfl ?_
                    refine P_n no34_0 rfl rfl rfl ?_
                    refine P_n no34_0 rfl rfl rfl ?_
                    refine P_n no34_0 rfl rfl rfl ?_
                    refine P_n no34_0 rfl rfl rfl ?_
                    refine P_n no34_0 rfl rfl rfl ?_
                    refine P_n no34_1 rfl rfl rfl ?_
                    refine P_n no34_1 rfl rfl rfl ?_
                    refine P_n no34_0 rfl rfl rfl ?_
                    refine P_q no34_0 rfl (op_pick_f rfl (av := .exact (.bool false)) rfl ?_)
                    refine P_nil ?_
                    refine kI_normal ⟨_, h, ?_⟩
                    exact Sub.of_le (AF.le_put (AV.le_eq rfl) (AF.le_put (AV.le_eq rfl) (AF.le_put (AV.le_eq rfl) (AF.le_put (AV.le_eq rfl) (AF.le_put (AV.le_eq rfl) (AF.le_top _))))))
                · refine k_cond_b (c := x59_j1281) rfl (fun hc => ?_) (fun hc => ?_)
                  · replace h := ite_t h hc
                    refine k_exit ?_
                    refine kC_exit ?_
                    refine kB_exit ?_
                    refine kI_normal ⟨_, v3_l14, h, ?_⟩
                    exact Sub.of_le (AF.le_put (AV.le_eq rfl) (AF.le_put (AV.le_eq rfl) (AF.le_put (AV.le_eq rfl) (AF.le_top _))))
                  · replace h := ite_f h hc
                    refine k_skip ?_
                    refine kC_normal ?_
                    refine k_seq ?_
                    refine k_reg .free hmixP (by kernel_rfl) ?_
                    refine G_q rfl (op_move (av := .exact v3_l14) rfl ?_)
                    refine G_q rfl (op_bld (c' := c_api_Pair (0, 0)) CellsAll.nil rfl (LEs.cons (AV.le_eq rfl) (LEs.cons (AV.le_eq rfl) LEs.nil)) ?_)
                    refine G_q rfl (op_litT (n := 2) (enc := c_api_Pair) [(0, 0)] (CellsAll.cons rfl CellsOf.agg CellsAll.nil) rfl (by kernel_rfl) (LEss.cons (LEs.cons (AV.le_eq rfl) (LEs.cons (AV.le_eq rfl) LEs.nil)) LEss.nil) ?_)
                    obtain ⟨n1286, h⟩ := need_some h
                    refine G_l rfl (op_appT (by kernel_rfl) rfl rfl oc_c_api_Pair n1286 (fun v1287 => ?_))
                    refine G_q rfl (op_assign (av := .exact v1287) rfl ?_)
                    refine G_nil ?_
                    refine kC_normal ?_
                    refine k_seq ?_
                    refine k_plan [] [(0, 0), (0, 1), (0, 2), (0, 4), (0, 5), (1, 3), (1, 6), (2, 7)] hmixP (by kernel_rfl) ?_
                    refine P_q no34_0 rfl (op_move (av := .exact v1287) rfl ?_)
                    refine P_q no34_0 rfl (op_move (av := .exact (.int .i64 x5_j1183)) rfl ?_)
                    refine P_q no34_0 rfl (op_add rfl rfl rfl ?_)
                    refine P_q no34_0 rfl (op_move (av := .exact v1287) rfl ?_)
                    refine P_q no34_0 rfl (op_move (av := .exact (.int .i64 x5_j1183)) rfl ?_)
                    obtain ⟨n1288, h⟩ := need_some h
                    refine P_r rfl (op_slice_vec (by kernel_rfl) rfl (bnd_some rfl) bnd_none n1288.1 n1288.2.1 n1288.2.2 ?_)
                    obtain ⟨n1289, h⟩ := need_some h
                    refine P_r rfl (op_slice_vec (by kernel_rfl) rfl (bnd_some rfl) bnd_none n1289.1 n1289.2.1 n1289.2.2 ?_)
                    refine P_l rfl (op_copy (q := (Nat.min (Int.toNat (List.length (x3_l14 ++ [(0, 0)]) : Int) - Int.toNat x5_j1183) (Int.toNat (List.length (x3_l14 ++ [(0, 0)]) : Int) - Int.toNat (i64 (x5_j1183 + 1))))) (by kernel_rfl) (by kernel_rfl) len_c_api_Pair oc_c_api_Pair rfl rfl (by have hh := n1288; first | omega | (simp only [i64] at hh; omega) | (simp only [i64] at hh ⊢; omega)) (by have hh := n1289; first | omega | (simp only [i64] at hh; omega) | (simp only [i64] at hh ⊢; omega)) rfl ?_)
                    refine P_nil ?_
                    refine kC_normal ?_
                    refine k_reg .free hmixP (by kernel_rfl) ?_
                    refine G_q rfl (op_move (av := .exact v1287) rfl ?_)
                    refine G_q rfl (op_move (av := .exact (.int .i64 x5_j1183)) rfl ?_)
                    refine G_q rfl (op_move (av := .row 2 c_api_Pair a0) rfl ?_)
                    refine G_q rfl (op_move (av := .exact (.int .i64 x4_l14)) rfl ?_)
                    obtain ⟨n1290, h⟩ := need_some h
                    refine G_q rfl (op_index_row (by kernel_rfl) rfl rfl n1290.1 n1290.2 ?_)
                    refine G_q rfl (op_loadNp (m := 2) (c' := c_api_Pair (gi a0 x4_l14)) (by kernel_rfl) rfl rfl rfl ?_)
                    obtain ⟨n1291, h⟩ := need_some h
                    refine G_r rfl (op_index_vec (by kernel_rfl) rfl rfl n1291.1 n1291.2 ?_)
                    refine G_l rfl (op_store_vec (i := x5_j1183) (o := 0) (z := gi a0 x4_l14) (c' := [.exact (.int .i64 ((gi a0 x4_l14).1)), .exact (.int .i64 ((gi a0 x4_l14).2))]) (by kernel_rfl) len_c_api_Pair rfl n1291.1 n1291.2 rfl CellsOf.agg (LEs.cons (AV.le_eq rfl) (LEs.cons (AV.le_eq rfl) LEs.nil)) (oc_c_api_Pair _) (by kernel_rfl) (Nat.le_of_ble_eq_true rfl) rfl ?_)
                    refine G_nil ?_
                    refine kB_normal ?_
                    refine kI_normal ⟨_, v1287, h, ?_⟩
                    exact Sub.of_le (AF.le_put (AV.le_eq rfl) (AF.le_put (AV.le_eq rfl) (AF.le_put (AV.le_eq rfl) (AF.le_top _))))
        · refine k_reg .free hmixP (by kernel_rfl) ?_
          refine G_q rfl (op_move (av := .exact (.int .i64 x4_l14)) rfl ?_)
          refine G_q rfl (op_add rfl rfl rfl ?_)
          refine G_q rfl (op_assign (av := .exact (.int .i64 (i64 (x4_l14 + 1)))) rfl ?_)
          refine G_nil ?_
          refine kI_normal ⟨_, _, v3_j1034, h, ?_⟩
          exact Sub.of_le (AF.le_put (AV.le_eq rfl) (AF.le_put (AV.le_eq rfl) (AF.le_put (AV.le_eq rfl) (AF.le_top _))))
      · replace h := ite_f h hc
        refine k_exit ?_
        refine kC_exit ?_
        refine kI_exit ?_
        refine kB_exit ?_
        refine kI_normal ⟨_, v3_l14, h, ?_⟩
        exact Sub.of_le (AF.le_put (AV.le_eq rfl) (AF.le_top _))
  · refine k_seq ?_
    refine k_reg .free hmixP (by kernel_rfl) ?_
    refine G_q rfl (op_move (av := .exact v3_j1) rfl ?_)
    refine G_q rfl (op_assign (av := .exact v3_j1) rfl ?_)
    refine G_nil ?_
    refine kC_normal ?_
    refine k_ret ?_
    obtain rfl := Option.some.inj h
    refine kP_any (endN (af' := (AF.put AF0 (some 2) (.exact v3_j1))) (σ' := [vecT Try.prog 44 2 c_api_Pair v3_j1 x3_j1]) _ rfl ?_ ⟨v3_j1, rfl, rfl⟩)
    exact Sub.of_le (AF.le_put (AV.le_eq rfl) (AF.le_top _))
set_option maxHeartbeats 4000000 in
theorem m_help_Equal_api_Pair_ok (a0 : List (Int × Int)) (a1 : List (Int × Int)) (r : Bool) (h : m_help_Equal_api_Pair a0 a1 = some r) : Pure Try.prog 29 [(.row 2 c_api_Pair a0), (.row 2 c_api_Pair a1)] (.exact (.bool r)) := by
  unfold m_help_Equal_api_Pair at h
  refine Pure.ofFun (fun_of_awp Try.func29 rfl Try.ntmps29 (by simp) rfl (res1 rfl) fun E hE => k_end ?_)
  refine k_seq ?_
  refine k_reg .free hmixP (by kernel_rfl) ?_
  refine G_q rfl (op_assign (av := .exact (.bool false)) rfl ?_)
  refine G_nil ?_
  refine kC_normal ?_
  refine k_seq ?_
  refine k_seq ?_
  refine k_reg .free hmixP (by kernel_rfl) ?_
  refine G_q rfl (op_move (av := .row 2 c_api_Pair a0) rfl ?_)
  refine G_q rfl (op_len_row (by kernel_rfl) rfl ?_)
  refine G_q rfl (op_move (av := .row 2 c_api_Pair a1) rfl ?_)
  refine G_q rfl (op_len_row (by kernel_rfl) rfl ?_)
  refine G_q rfl (op_neq rfl rfl ?_)
  refine G_nil ?_
  refine kC_normal ?_
  refine k_cond_d (p := ¬ (List.length a0 : Int) = (List.length a1 : Int)) rfl (fun hc => ?_) (fun hc => ?_)
  · replace h := ite_t h hc
    refine k_seq ?_
    refine k_reg .free hmixP (by kernel_rfl) ?_
    refine G_q rfl (op_assign (av := .exact (.bool false)) rfl ?_)
    refine G_nil ?_
    refine kC_normal ?_
    refine k_ret ?_
    refine kC_ret ?_
    obtain rfl := Option.some.inj h
    refine kP_any (endN (af' := (AF.put AF0 (some 4) (.exact (.bool false)))) (σ' := []) _ rfl ?_ ⟨rfl, rfl⟩)
    exact Sub.of_le (AF.le_put (AV.le_eq rfl) (AF.le_top _))
  · replace h := ite_f h hc
    refine k_skip ?_
    refine kC_normal ?_
    refine k_join0_0 h (AF0) ([]) (fun k1 h => ?_) (fun  h => ?_)
    · refine k_seq ?_
      refine k_reg .free hmixP (by kernel_rfl) ?_
      refine G_q rfl (op_assign (av := .exact (.int .i64 0)) rfl ?_)
      refine G_nil ?_
      refine kC_normal ?_
      refine k_block ?_
      refine k_loop1_0 (m_help_Equal_api_Pair_L2 a0 a1 k1) (m_help_Equal_api_Pair_B2 a0 a1 k1) (fun _ => rfl) (fun m _ => rfl) h (fun (x5_l2 : Int) => (AF.put (AF.put (AF.put AF0 (some 0) (.row 2 c_api_Pair a0)) (some 1) (.row 2 c_api_Pair a1)) (some 5) (.exact (.int .i64 x5_l2)))) (fun (x5_l2 : Int) => []) ?_ (fun rec2 x5_l2 h => ?_)
      · exact Sub.of_le (AF.le_put (AV.le_eq rfl) (AF.le_put (AV.le_eq rfl) (AF.le_put (AV.le_eq rfl) (AF.le_top _))))
      · unfold m_help_Equal_api_Pair_B2 at h
        refine k_seq ?_
        refine k_seq ?_
        refine k_reg .free hmixP (by kernel_rfl) ?_
        refine G_q rfl (op_move (av := .exact (.int .i64 x5_l2)) rfl ?_)
        refine G_q rfl (op_move (av := .row 2 c_api_Pair a0) rfl ?_)
        refine G_q rfl (op_len_row (by kernel_rfl) rfl ?_)
        refine G_q rfl (op_lss rfl rfl ?_)
        refine G_nil ?_
        refine kC_normal ?_
        refine k_cond_d (p := x5_l2 < (List.length a0 : Int)) rfl (fun hc => ?_) (fun hc => ?_)
        · replace h := ite_t h hc
          refine k_skip ?_
          refine kC_normal ?_
          refine k_seq ?_
          refine k_block ?_
          refine k_seq ?_
          refine k_plan [] [(0, 0), (0, 1), (0, 2), (0, 3), (0, 4), (0, 5), (0, 6), (0, 7), (0, 8)] hmixP (by kernel_rfl) ?_
          refine P_q no34_0 rfl (op_move (av := .row 2 c_api_Pair a0) rfl ?_)
          refine P_q no34_0 rfl (op_move (av := .exact (.int .i64 x5_l2)) rfl ?_)
          obtain ⟨n13, h⟩ := need_some h
          refine P_q no34_0 rfl (op_index_row (by kernel_rfl) rfl rfl n13.1 n13.2 ?_)
          refine P_q no34_0 rfl (op_loadNp (m := 2) (c' := c_api_Pair (gi a0 x5_l2)) (by kernel_rfl) rfl rfl rfl ?_)
          refine P_q no34_0 rfl (op_move (av := .row 2 c_api_Pair a1) rfl ?_)
          refine P_q no34_0 rfl (op_move (av := .exact (.int .i64 x5_l2)) rfl ?_)
          obtain ⟨n14, h⟩ := need_some h
          refine P_q no34_0 rfl (op_index_row (by kernel_rfl) rfl rfl n14.1 n14.2 ?_)
          refine P_q no34_0 rfl (op_loadNp (m := 2) (c' := c_api_Pair (gi a1 x5_l2)) (by kernel_rfl) rfl rfl rfl ?_)
          refine P_q no34_0 rfl (op_neqA (a := (gi a0 x5_l2)) (b := (gi a1 x5_l2)) (by kernel_rfl) (eq_c_api_Pair _ _) rfl rfl ?_)
          refine P_nil ?_
          refine kC_normal ?_
          refine k_cond_d (p := ¬ (gi a0 x5_l2) = (gi a1 x5_l2)) rfl (fun hc => ?_) (fun hc => ?_)
          · replace h := ite_t h hc
            refine k_seq ?_
            refine k_reg .free hmixP (by kernel_rfl) ?_
            refine G_q rfl (op_assign (av := .exact (.bool false)) rfl ?_)
            refine G_nil ?_
            refine kC_normal ?_
            refine k_ret ?_
            refine kB_ret ?_
            refine kC_ret ?_
            refine kI_ret ?_
            refine kB_ret ?_
            refine kI_ret ?_
            obtain rfl := Option.some.inj h
            refine kP_any (endN (af' := (AF.put AF0 (some 4) (.exact (.bool false)))) (σ' := []) _ rfl ?_ ⟨rfl, rfl⟩)
            exact Sub.of_le (AF.le_put (AV.le_eq rfl) (AF.le_top _))
          · replace h := ite_f h hc
            refine k_skip ?_
            refine kB_normal ?_
            refine kC_normal ?_
            refine k_reg .free hmixP (by kernel_rfl) ?_
            refine G_q rfl (op_move (av := .exact (.int .i64 x5_l2)) rfl ?_)
            refine G_q rfl (op_add rfl rfl rfl ?_)
            refine G_q rfl (op_assign (av := .exact (.int .i64 (i64 (x5_l2 + 1)))) rfl ?_)
            refine G_nil ?_
            refine kI_normal ⟨_, h, ?_⟩
            exact Sub.of_le (AF.le_put (AV.le_eq rfl) (AF.le_put (AV.le_eq rfl) (AF.le_put (AV.le_eq rfl) (AF.le_top _))))
        · replace h := ite_f h hc
          refine k_exit ?_
          refine kC_exit ?_
          refine kI_exit ?_
          refine kB_exit ?_
          refine kI_normal ⟨h, ?_⟩
          exact Sub.of_le (AF.le_top _)
    · refine k_seq ?_
      refine k_reg .free hmixP (by kernel_rfl) ?_
      refine G_q rfl (op_assign (av := .exact (.bool true)) rfl ?_)
      refine G_nil ?_
      refine kC_normal ?_
      refine k_ret ?_
      obtain rfl := Option.some.inj h
      refine kP_any (endN (af' := (AF.put AF0 (some 4) (.exact (.bool true)))) (σ' := []) _ rfl ?_ ⟨rfl, rfl⟩)
      exact Sub.of_le (AF.le_put (AV.le_eq rfl) (AF.le_top _))
set_option maxHeartbeats 4000000 in
theorem m_alphabet_Compose_1_ok (a0 : Int × Int) (a1 : Int × Int) (r : Bool) (h : m_alphabet_Compose_1 a0 a1 = some r) : Pure Try.prog 71 [(.agg (c_api_Pair a0)), (.ptr (c_api_Pair a1))] (.exact (.bool r)) := by
  unfold m_alphabet_Compose_1 at h
  refine Pure.ofFun (fun_of_awp Try.func71 rfl Try.ntmps71 (by simp) rfl (res1 rfl) fun E hE => k_end ?_)
  refine k_seq ?_
  refine k_reg .free hmixP (by kernel_rfl) ?_
  refine G_q rfl (op_box (c := c_api_Pair a0) rfl CellsOf.agg ?_)
  refine G_q rfl (op_assign (av := .exact (.bool false)) rfl ?_)
  refine G_nil ?_
  refine kC_normal ?_
  refine k_seq ?_
  refine k_reg .free hmixP (by kernel_rfl) ?_
  refine G_q rfl (op_fieldAddr_ptr (o := 0) (c' := (List.drop 0 (c_api_Pair a0))) (by kernel_rfl) rfl rfl ?_)
  refine G_q rfl (op_load1p (a := .exact (.int .i64 a0.1)) (by kernel_rfl) rfl rfl ?_)
  refine G_q rfl (op_fieldAddr_ptr (o := 0) (c' := (List.drop 0 (c_api_Pair a1))) (by kernel_rfl) rfl rfl ?_)
  refine G_q rfl (op_load1p (a := .exact (.int .i64 a1.1)) (by kernel_rfl) rfl rfl ?_)
  refine G_q rfl (op_eql rfl rfl ?_)
  refine G_q rfl (op_assign (av := .exact (.bool (decide (a0.1 = a1.1)))) rfl ?_)
  refine G_nil ?_
  refine kC_normal ?_
  refine k_ret ?_
  obtain rfl := Option.some.inj h
  refine kP_any (endN (af' := (AF.put AF0 (some 3) (.exact (.bool (decide (a0.1 = a1.1)))))) (σ' := []) _ rfl ?_ ⟨rfl, rfl⟩)
  exact Sub.of_le (AF.le_put (AV.le_eq rfl) (AF.le_top _))
end Go.Proofs.Ytkbbeeeoogjknaa
/- The functions compute their models, by program. -/
namespace Go.Proofs.Ytkbbeeeoogjknaa
open Go.RowKit
attribute [local irreducible] AV.exact AV.top AV.row AV.ptr AV.agg AV.tup AV.eptr AV.fn AV.nilq AV.nilqn opA opB opM opR Quiet Loud Reads wpG awp den Sub SubU Pure Fun vecI vecT boxI CellsAll CellsOf OneC LEs LEss
set_option maxRecDepth 100000

set_option maxHeartbeats 4000000 in
theorem m_slices_IndexFunc_L_api_Pair_api_Pair_ok (a0 : List (Int × Int)) (a1 : (Int × Int) → Option Bool) (r : Int) (h : m_slices_IndexFunc_L_api_Pair_api_Pair a0 a1 = some r) : Pure Try.prog 86 [(.row 2 c_api_Pair a0), (.fn Try.prog (fun (i : (Int × Int)) => [.agg (c_api_Pair i)]) (fun (i : (Int × Int)) => a1 i) (fun (r : Bool) => .exact (.bool r)))] (.exact (.int .i64 r)) := by
  unfold m_slices_IndexFunc_L_api_Pair_api_Pair at h
  refine Pure.ofFun (fun_of_awp Try.func86 rfl Try.ntmps86 (by simp) rfl (res1 rfl) fun E hE => k_end ?_)
  refine k_seq ?_
  refine k_reg .free hmixP (by kernel_rfl) ?_
  refine G_q rfl (op_assign (av := .exact (.int .i64 0)) rfl ?_)
  refine G_nil ?_
  refine kC_normal ?_
  refine k_join0_0 h (AF0) ([]) (fun k1 h => ?_) (fun  h => ?_)
  · refine k_seq ?_
    refine k_reg .free hmixP (by kernel_rfl) ?_
    refine G_q rfl (op_move (av := .row 2 c_api_Pair a0) rfl ?_)
    refine G_q rfl (op_len_row (by kernel_rfl) rfl ?_)
    refine G_q rfl (op_move (av := .exact (.int .i64 0)) rfl ?_)
    refine G_nil ?_
    refine kC_normal ?_
    refine k_block ?_
    refine k_loop1_0 (m_slices_IndexFunc_L_api_Pair_api_Pair_L2 a0 a1 k1) (m_slices_IndexFunc_L_api_Pair_api_Pair_B2 a0 a1 k1) (fun _ => rfl) (fun m _ => rfl) h (fun (x8_l2 : Int) => (AF.put (AF.put (AF.put (AF.put AF0 (some 0) (.row 2 c_api_Pair a0)) (some 1) (.fn Try.prog (fun (i : (Int × Int)) => [.agg (c_api_Pair i)]) (fun (i : (Int × Int)) => a1 i) (fun (r : Bool) => .exact (.bool r)))) (some 7) (.exact (.int .i64 (List.length a0 : Int)))) (some 8) (.exact (.int .i64 x8_l2)))) (fun (x8_l2 : Int) => []) ?_ (fun rec2 x8_l2 h => ?_)
    · exact Sub.of_le (AF.le_put (AV.le_eq rfl) (AF.le_put (AV.le_eq rfl) (AF.le_put (AV.le_eq rfl) (AF.le_put (AV.le_eq rfl) (AF.le_top _)))))
    · unfold m_slices_IndexFunc_L_api_Pair_api_Pair_B2 at h
      refine k_seq ?_
      refine k_reg .free hmixP (by kernel_rfl) ?_
      refine G_q rfl (op_lss rfl rfl ?_)
      refine G_nil ?_
      refine kC_normal ?_
      refine k_seq ?_
      refine k_cond_d (p := x8_l2 < (List.length a0 : Int)) rfl (fun hc => ?_) (fun hc => ?_)
      · replace h := ite_t h hc
        refine k_skip ?_
        refine kC_normal ?_
        refine k_seq ?_
        refine k_block ?_
        refine k_seq ?_
        refine k_reg .free hmixP (by kernel_rfl) ?_
        refine G_q rfl (op_move (av := .exact (.int .i64 x8_l2)) rfl ?_)
        refine G_q rfl (op_assign (av := .exact (.int .i64 x8_l2)) rfl ?_)
        refine G_nil ?_
        refine kC_normal ?_
        refine k_seq ?_
        refine k_reg .free hmixP (by kernel_rfl) ?_
        refine G_q rfl (op_move (av := .fn Try.prog (fun (i : (Int × Int)) => [.agg (c_api_Pair i)]) (fun (i : (Int × Int)) => a1 i) (fun (r : Bool) => .exact (.bool r))) rfl ?_)
        refine G_q rfl (op_move (av := .row 2 c_api_Pair a0) rfl ?_)
        refine G_q rfl (op_move (av := .exact (.int .i64 x8_l2)) rfl ?_)
        obtain ⟨n13, h⟩ := need_some h
        refine G_q rfl (op_index_row (by kernel_rfl) rfl rfl n13.1 n13.2 ?_)
        refine G_q rfl (op_loadNp (m := 2) (c' := c_api_Pair (gi a0 x8_l2)) (by kernel_rfl) rfl rfl rfl ?_)
        obtain ⟨y14, hy14, h⟩ := bnd1_some h
        refine G_q rfl (op_callfn (gi a0 x8_l2) rfl hy14 (LEs.cons (AV.le_eq rfl) LEs.nil) ?_)
        refine G_nil ?_
        refine kC_normal ?_
        refine k_cond_b (c := y14) rfl (fun hc => ?_) (fun hc => ?_)
        · replace h := ite_t h hc
          refine k_seq ?_
          refine k_reg .free hmixP (by kernel_rfl) ?_
          refine G_q rfl (op_move (av := .exact (.int .i64 x8_l2)) rfl ?_)
          refine G_q rfl (op_assign (av := .exact (.int .i64 x8_l2)) rfl ?_)
          refine G_nil ?_
          refine kC_normal ?_
          refine k_ret ?_
          refine kB_ret ?_
          refine kC_ret ?_
          refine kI_ret ?_
          refine kB_ret ?_
          refine kI_ret ?_
          obtain rfl := Option.some.inj h
          refine kP_any (endN (af' := (AF.put AF0 (some 4) (.exact (.int .i64 x8_l2)))) (σ' := []) _ rfl ?_ ⟨rfl, rfl⟩)
          exact Sub.of_le (AF.le_put (AV.le_eq rfl) (AF.le_top _))
        · replace h := ite_f h hc
          refine k_skip ?_
          refine kB_normal ?_
          refine kC_normal ?_
          refine k_reg .free hmixP (by kernel_rfl) ?_
          refine G_q rfl (op_add rfl rfl rfl ?_)
          refine G_q rfl (op_move (av := .exact (.int .i64 (i64 (x8_l2 + 1)))) rfl ?_)
          refine G_nil ?_
          refine kI_normal ⟨_, h, ?_⟩
          exact Sub.of_le (AF.le_put (AV.le_eq rfl) (AF.le_put (AV.le_eq rfl) (AF.le_put (AV.le_eq rfl) (AF.le_put (AV.le_eq rfl) (AF.le_top _)))))
      · replace h := ite_f h hc
        refine k_exit ?_
        refine kC_exit ?_
        refine kI_exit ?_
        refine kB_exit ?_
        refine kI_normal ⟨h, ?_⟩
        exact Sub.of_le (AF.le_top _)
  · refine k_seq ?_
    refine k_reg .free hmixP (by kernel_rfl) ?_
    refine G_q rfl (op_assign (av := .exact (.int .i64 (-1))) rfl ?_)
    refine G_nil ?_
    refine kC_normal ?_
    refine k_ret ?_
    obtain rfl := Option.some.inj h
    refine kP_any (endN (af' := (AF.put AF0 (some 4) (.exact (.int .i64 (-1))))) (σ' := []) _ rfl ?_ ⟨rfl, rfl⟩)
    exact Sub.of_le (AF.le_put (AV.le_eq rfl) (AF.le_top _))
set_option maxHeartbeats 4000000 in
theorem m_slices_ContainsFunc_L_api_Pair_api_Pair_ok (a0 : List (Int × Int)) (a1 : (Int × Int) → Option Bool) (r : Bool) (h : m_slices_ContainsFunc_L_api_Pair_api_Pair a0 a1 = some r) : Pure Try.prog 70 [(.row 2 c_api_Pair a0), (.fn Try.prog (fun (i : (Int × Int)) => [.agg (c_api_Pair i)]) (fun (i : (Int × Int)) => a1 i) (fun (r : Bool) => .exact (.bool r)))] (.exact (.bool r)) := by
  unfold m_slices_ContainsFunc_L_api_Pair_api_Pair at h
  refine Pure.ofFun (fun_of_awp Try.func70 rfl Try.ntmps70 (by simp) rfl (res1 rfl) fun E hE => k_end ?_)
  refine k_seq ?_
  refine k_reg .free hmixP (by kernel_rfl) ?_
  refine G_q rfl (op_assign (av := .exact (.bool false)) rfl ?_)
  refine G_nil ?_
  refine kC_normal ?_
  refine k_seq ?_
  refine k_reg .free hmixP (by kernel_rfl) ?_
  refine G_q rfl (op_move (av := .row 2 c_api_Pair a0) rfl ?_)
  refine G_q rfl (op_move (av := .fn Try.prog (fun (i : (Int × Int)) => [.agg (c_api_Pair i)]) (fun (i : (Int × Int)) => a1 i) (fun (r : Bool) => .exact (.bool r))) rfl ?_)
  obtain ⟨y1, hy1, h⟩ := bnd1_some h
  refine G_q rfl (op_pure (m_slices_IndexFunc_L_api_Pair_api_Pair_ok _ _ _ hy1) Try.func86 (by kernel_rfl) (LEs.cons (AV.le_eq rfl) (LEs.cons (AV.le_eq rfl) LEs.nil)) ?_)
  refine G_q rfl (op_geq rfl rfl ?_)
  refine G_q rfl (op_assign (av := .exact (.bool (decide (0 ≤ y1)))) rfl ?_)
  refine G_nil ?_
  refine kC_normal ?_
  refine k_ret ?_
  obtain rfl := Option.some.inj h
  refine kP_any (endN (af' := (AF.put AF0 (some 4) (.exact (.bool (decide (0 ≤ y1)))))) (σ' := []) _ rfl ?_ ⟨rfl, rfl⟩)
  exact Sub.of_le (AF.le_put (AV.le_eq rfl) (AF.le_top _))
set_option maxHeartbeats 4000000 in
theorem m_alphabet_Compose_ok (a0 : List (Int × Int)) (a1 : List (Int × Int)) (r : (List (Int × Int))) (h : m_alphabet_Compose a0 a1 = some r) : Pure Try.prog 34 [(.row 2 c_api_Pair a0), (.row 2 c_api_Pair a1)] (.row 2 c_api_Pair r) := by
  unfold m_alphabet_Compose at h
  refine Pure.ofFun (fun_of_awp Try.func34 rfl Try.ntmps34 (by simp) rfl (res1 rfl) fun E hE => k_end ?_)
  refine k_seq ?_
  refine k_reg .free hmixP (by kernel_rfl) ?_
  refine G_q rfl (op_assign (av := .exact (.slice none 0 0)) rfl ?_)
  refine G_nil ?_
  refine kC_normal ?_
  refine k_seq ?_
  refine k_reg .free hmixP (by kernel_rfl) ?_
  refine G_q rfl (op_move (av := .row 2 c_api_Pair a0) rfl ?_)
  obtain ⟨y1, hy1, h⟩ := bnd1_some h
  refine G_q rfl (op_pure (m_alphabet_Relation_ok _ _ hy1) Try.func30 (by kernel_rfl) (LEs.cons (AV.le_eq rfl) LEs.nil) ?_)
  refine G_q rfl (op_move (av := .row 2 c_api_Pair a1) rfl ?_)
  obtain ⟨y2, hy2, h⟩ := bnd1_some h
  refine G_q rfl (op_pure (m_alphabet_Relation_ok _ _ hy2) Try.func30 (by kernel_rfl) (LEs.cons (AV.le_eq rfl) LEs.nil) ?_)
  refine G_q rfl (op_assign (av := .row 2 c_api_Pair y1) rfl ?_)
  refine G_q rfl (op_assign (av := .row 2 c_api_Pair y2) rfl ?_)
  refine G_nil ?_
  refine kC_normal ?_
  refine k_seq ?_
  refine k_reg .free hmixP (by kernel_rfl) ?_
  refine G_q rfl (op_assign (av := .exact (.slice none 0 0)) rfl ?_)
  refine G_nil ?_
  refine kC_normal ?_
  refine k_join1_1 h (fun (x5_j3 : List (Int × Int)) (v5_j3 : Value) => (AF.put (AF.put (AF.put AF0 (some 0) (.row 2 c_api_Pair y1)) (some 1) (.row 2 c_api_Pair y2)) (some 5) (.exact v5_j3))) (fun (x5_j3 : List (Int × Int)) (v5_j3 : Value) => [vecT Try.prog 44 2 c_api_Pair v5_j3 x5_j3]) (fun k3 h => ?_) (fun x5_j3 v5_j3 h => ?_)
  · refine k_seq ?_
    refine k_reg .free hmixP (by kernel_rfl) ?_
    refine G_q rfl (op_move (av := .row 2 c_api_Pair y1) rfl ?_)
    refine G_q rfl (op_len_row (by kernel_rfl) rfl ?_)
    refine G_q rfl (op_move (av := .exact (.int .i64 0)) rfl ?_)
    refine G_nil ?_
    refine kC_normal ?_
    refine k_block ?_
    refine k_loop2_1 (m_alphabet_Compose_L8 y1 y2 k3) (m_alphabet_Compose_B8 y1 y2 k3) (fun _ _ => rfl) (fun m _ _ => rfl) h (fun (x5_l8 : List (Int × Int)) (x18_l8 : Int) (v5_l8 : Value) => (AF.put (AF.put (AF.put (AF.put (AF.put (AF.put AF0 (some 0) (.row 2 c_api_Pair y1)) (some 1) (.row 2 c_api_Pair y2)) (some 5) (.exact v5_l8)) (some 16) (.row 2 c_api_Pair y1)) (some 17) (.exact (.int .i64 (List.length y1 : Int)))) (some 18) (.exact (.int .i64 x18_l8)))) (fun (x5_l8 : List (Int × Int)) (x18_l8 : Int) (v5_l8 : Value) => [vecT Try.prog 44 2 c_api_Pair v5_l8 x5_l8]) (.slice none 0 0) ?_ (fun rec8 x5_l8 x18_l8 v5_l8 h => ?_)
    · refine Sub.trans (SubU.to (SubU.nilT (P := Try.prog) (t := 44) (n := 2) (enc := c_api_Pair))) ?_
      exact Sub.of_le (AF.le_put (AV.le_eq rfl) (AF.le_put (AV.le_eq rfl) (AF.le_put (AV.le_eq rfl) (AF.le_put (AV.le_eq rfl) (AF.le_put (AV.le_eq rfl) (AF.le_put (AV.le_eq rfl) (AF.le_top _)))))))
    · unfold m_alphabet_Compose_B8 at h
      refine k_seq ?_
      refine k_reg .free hmixP (by kernel_rfl) ?_
      refine G_q rfl (op_lss rfl rfl ?_)
      refine G_nil ?_
      refine kC_normal ?_
      refine k_seq ?_
      refine k_cond_d (p := x18_l8 < (List.length y1 : Int)) rfl (fun hc => ?_) (fun hc => ?_)
      · replace h := ite_t h hc
        refine k_skip ?_
        refine kC_normal ?_
        refine k_join1_1 h (fun (x5_j140 : List (Int × Int)) (v5_j140 : Value) => (AF.put (AF.put (AF.put (AF.put (AF.put (AF.put AF0 (some 0) (.row 2 c_api_Pair y1)) (some 1) (.row 2 c_api_Pair y2)) (some 5) (.exact v5_j140)) (some 16) (.row 2 c_api_Pair y1)) (some 17) (.exact (.int .i64 (List.length y1 : Int)))) (some 18) (.exact (.int .i64 x18_l8)))) (fun (x5_j140 : List (Int × Int)) (v5_j140 : Value) => [vecT Try.prog 44 2 c_api_Pair v5_j140 x5_j140]) (fun k140 h => ?_) (fun x5_j140 v5_j140 h => ?_)
        · refine k_block ?_
          refine k_seq ?_
          refine k_reg .free hmixP (by kernel_rfl) ?_
          obtain ⟨n154, h⟩ := need_some h
          refine G_q rfl (op_index_row (by kernel_rfl) rfl rfl n154.1 n154.2 ?_)
          refine G_q rfl (op_loadNp (m := 2) (c' := c_api_Pair (gi y1 x18_l8)) (by kernel_rfl) rfl rfl rfl ?_)
          refine G_l rfl (op_alloc (c := [.exact (.int .i64 ((0, 0).1)), .exact (.int .i64 ((0, 0).2))]) rfl (LEs.cons (AV.le_eq rfl) (LEs.cons (AV.le_eq rfl) LEs.nil)) (fun b155 => ?_))
          refine G_l rfl (op_store_box (c' := [.exact (.int .i64 ((gi y1 x18_l8).1)), .exact (.int .i64 ((gi y1 x18_l8).2))]) (c3 := [.exact (.int .i64 ((gi y1 x18_l8).1)), .exact (.int .i64 ((gi y1 x18_l8).2))]) rfl rfl CellsOf.agg (LEs.cons (AV.le_eq rfl) (LEs.cons (AV.le_eq rfl) LEs.nil)) (oc_c_api_Pair _) (by kernel_rfl) (Nat.le_of_ble_eq_true rfl) rfl ?_)
          refine G_nil ?_
          refine kC_normal ?_
          refine k_seq ?_
          refine k_reg .free hmixP (by kernel_rfl) ?_
          refine G_q rfl (op_move (av := .row 2 c_api_Pair y2) rfl ?_)
          refine G_q rfl (op_fieldAddr (o := 1) (by kernel_rfl) rfl ?_)
          refine G_r rfl (op_load_box1 (a := .exact (.int .i64 ((gi y1 x18_l8).2))) (by kernel_rfl) rfl rfl ?_)
          obtain ⟨y156, hy156, h⟩ := bnd1_some h
          refine G_q rfl (op_pure (m_alphabet_Image_ok _ _ _ hy156) Try.func32 (by kernel_rfl) (LEs.cons (AV.le_eq rfl) (LEs.cons (AV.le_eq rfl) LEs.nil)) ?_)
          refine G_q rfl (op_len_row (by kernel_rfl) rfl ?_)
          refine G_q rfl (op_move (av := .exact (.int .i64 0)) rfl ?_)
          refine G_nil ?_
          refine kC_normal ?_
          refine k_block ?_
          refine k_loop2_1 (m_alphabet_Compose_L14 y1 x18_l8 k140 y156) (m_alphabet_Compose_B14 y1 x18_l8 k140 y156) (fun _ _ => rfl) (fun m _ _ => rfl) h (fun (x5_l14 : List (Int × Int)) (x27_l14 : Int) (v5_l14 : Value) => (AF.put (AF.put (AF.put (AF.put (AF.put (AF.put (AF.put (AF.put (AF.put (AF.put AF0 (some 0) (.row 2 c_api_Pair y1)) (some 1) (.row 2 c_api_Pair y2)) (some 5) (.exact v5_l14)) (some 7) (pA b155 0)) (some 16) (.row 2 c_api_Pair y1)) (some 17) (.exact (.int .i64 (List.length y1 : Int)))) (some 18) (.exact (.int .i64 x18_l8))) (some 25) (.row 1 c_int y156)) (some 26) (.exact (.int .i64 (List.length y156 : Int)))) (some 27) (.exact (.int .i64 x27_l14)))) (fun (x5_l14 : List (Int × Int)) (x27_l14 : Int) (v5_l14 : Value) => [vecT Try.prog 44 2 c_api_Pair v5_l14 x5_l14, boxI 48 b155 [.exact (.int .i64 ((gi y1 x18_l8).1)), .exact (.int .i64 ((gi y1 x18_l8).2))]]) v5_l8 ?_ (fun rec14 x5_l14 x27_l14 v5_l14 h => ?_)
          · refine Sub.trans (SubU.to SubU.f1) ?_
            exact Sub.of_le (AF.le_put (AV.le_eq rfl) (AF.le_put (AV.le_eq rfl) (AF.le_put (AV.le_eq rfl) (AF.le_put (AV.le_eq rfl) (AF.le_put (AV.le_eq rfl) (AF.le_put (AV.le_eq rfl) (AF.le_put (AV.le_eq rfl) (AF.le_put (AV.le_eq rfl) (AF.le_put (AV.le_eq rfl) (AF.le_put (AV.le_eq rfl) (AF.le_top _)))))))))))
          · unfold m_alphabet_Compose_B14 at h
            refine k_seq ?_
            refine k_reg .free hmixP (by kernel_rfl) ?_
            refine G_q rfl (op_lss rfl rfl ?_)
            refine G_nil ?_
            refine kC_normal ?_
            refine k_seq ?_
            refine k_cond_d (p := x27_l14 < (List.length y156 : Int)) rfl (fun hc => ?_) (fun hc => ?_)
            · replace h := ite_t h hc
              refine k_skip ?_
              refine kC_normal ?_
              refine k_seq ?_
              refine k_block ?_
              refine k_seq ?_
              refine k_reg .free hmixP (by kernel_rfl) ?_
              obtain ⟨n163, h⟩ := need_some h
              refine G_q rfl (op_index_row (by kernel_rfl) rfl rfl n163.1 n163.2 ?_)
              refine G_q rfl (op_load1p (a := .exact (.int .i64 (gi y156 x27_l14))) (by kernel_rfl) rfl rfl ?_)
              refine G_q rfl (op_assign (av := .exact (.int .i64 (gi y156 x27_l14))) rfl ?_)
              refine G_nil ?_
              refine kC_normal ?_
              refine k_reg .free hmixP (by kernel_rfl) ?_
              refine G_q rfl (op_move (av := .exact v5_l14) rfl ?_)
              refine G_q rfl (op_fieldAddr (o := 0) (by kernel_rfl) rfl ?_)
              refine G_r rfl (opR_f1 (op_load_box1 (a := .exact (.int .i64 ((gi y1 x18_l8).1))) (by kernel_rfl) rfl rfl ?_))
              refine G_q rfl (op_move (av := .exact (.int .i64 (gi y156 x27_l14))) rfl ?_)
              refine G_q rfl (op_bld (c' := c_api_Pair ((gi y1 x18_l8).1, gi y156 x27_l14)) (CellsAll.cons rfl CellsOf.int (CellsAll.cons rfl CellsOf.int CellsAll.nil)) rfl (LEs.cons (AV.le_eq rfl) (LEs.cons (AV.le_eq rfl) LEs.nil)) ?_)
              refine G_q rfl (op_litT (n := 2) (enc := c_api_Pair) [((gi y1 x18_l8).1, gi y156 x27_l14)] (CellsAll.cons rfl CellsOf.agg CellsAll.nil) rfl (by kernel_rfl) (LEss.cons (LEs.cons (AV.le_eq rfl) (LEs.cons (AV.le_eq rfl) LEs.nil)) LEss.nil) ?_)
              obtain ⟨n164, h⟩ := need_some h
              refine G_l rfl (op_appT (by kernel_rfl) rfl rfl oc_c_api_Pair n164 (fun v165 => ?_))
              refine G_q rfl (op_assign (av := .exact v165) rfl ?_)
              refine G_nil ?_
              refine kB_normal ?_
              refine kC_normal ?_
              refine k_reg .free hmixP (by kernel_rfl) ?_
              refine G_q rfl (op_add rfl rfl rfl ?_)
              refine G_q rfl (op_move (av := .exact (.int .i64 (i64 (x27_l14 + 1)))) rfl ?_)
              refine G_nil ?_
              refine kI_normal ⟨_, _, v165, h, ?_⟩
              exact Sub.of_le (AF.le_put (AV.le_eq rfl) (AF.le_put (AV.le_eq rfl) (AF.le_put (AV.le_eq rfl) (AF.le_put (AV.le_eq rfl) (AF.le_put (AV.le_eq rfl) (AF.le_put (AV.le_eq rfl) (AF.le_put (AV.le_eq rfl) (AF.le_put (AV.le_eq rfl) (AF.le_put (AV.le_eq rfl) (AF.le_put (AV.le_eq rfl) (AF.le_top _)))))))))))
            · replace h := ite_f h hc
              refine k_exit ?_
              refine kC_exit ?_
              refine kI_exit ?_
              refine kB_exit ?_
              refine kB_normal ?_
              refine kI_normal ⟨_, v5_l14, h, ?_⟩
              refine Sub.trans (SubU.to SubU.f1) ?_
              refine Sub.trans (SubU.to SubU.drop) ?_
              exact Sub.of_le (AF.le_put (AV.le_eq rfl) (AF.le_put (AV.le_eq rfl) (AF.le_put (AV.le_eq rfl) (AF.le_put (AV.le_eq rfl) (AF.le_put (AV.le_eq rfl) (AF.le_put (AV.le_eq rfl) (AF.le_top _)))))))
        · refine k_reg .free hmixP (by kernel_rfl) ?_
          refine G_q rfl (op_add rfl rfl rfl ?_)
          refine G_q rfl (op_move (av := .exact (.int .i64 (i64 (x18_l8 + 1)))) rfl ?_)
          refine G_nil ?_
          refine kI_normal ⟨_, _, v5_j140, h, ?_⟩
          exact Sub.of_le (AF.le_put (AV.le_eq rfl) (AF.le_put (AV.le_eq rfl) (AF.le_put (AV.le_eq rfl) (AF.le_put (AV.le_eq rfl) (AF.le_put (AV.le_eq rfl) (AF.le_put (AV.le_eq rfl) (AF.le_top _)))))))
      · replace h := ite_f h hc
        refine k_exit ?_
        refine kC_exit ?_
        refine kI_exit ?_
        refine kB_exit ?_
        refine kI_normal ⟨_, v5_l8, h, ?_⟩
        exact Sub.of_le (AF.le_put (AV.le_eq rfl) (AF.le_put (AV.le_eq rfl) (AF.le_put (AV.le_eq rfl) (AF.le_top _))))
  · refine k_join1_1 h (fun (x5_j166 : List (Int × Int)) (v5_j166 : Value) => (AF.put AF0 (some 5) (.exact v5_j166))) (fun (x5_j166 : List (Int × Int)) (v5_j166 : Value) => [vecT Try.prog 44 2 c_api_Pair v5_j166 x5_j166]) (fun k166 h => ?_) (fun x5_j166 v5_j166 h => ?_)
    · refine k_seq ?_
      refine k_reg .free hmixP (by kernel_rfl) ?_
      refine G_q rfl (op_move (av := .row 2 c_api_Pair y2) rfl ?_)
      refine G_q rfl (op_len_row (by kernel_rfl) rfl ?_)
      refine G_q rfl (op_move (av := .exact (.int .i64 0)) rfl ?_)
      refine G_nil ?_
      refine kC_normal ?_
      refine k_block ?_
      refine k_loop2_1 (m_alphabet_Compose_L16 y1 y2 k166) (m_alphabet_Compose_B16 y1 y2 k166) (fun _ _ => rfl) (fun m _ _ => rfl) h (fun (x5_l16 : List (Int × Int)) (x42_l16 : Int) (v5_l16 : Value) => (AF.put (AF.put (AF.put (AF.put (AF.put AF0 (some 0) (.row 2 c_api_Pair y1)) (some 5) (.exact v5_l16)) (some 40) (.row 2 c_api_Pair y2)) (some 41) (.exact (.int .i64 (List.length y2 : Int)))) (some 42) (.exact (.int .i64 x42_l16)))) (fun (x5_l16 : List (Int × Int)) (x42_l16 : Int) (v5_l16 : Value) => [vecT Try.prog 44 2 c_api_Pair v5_l16 x5_l16]) v5_j3 ?_ (fun rec16 x5_l16 x42_l16 v5_l16 h => ?_)
      · exact Sub.of_le (AF.le_put (AV.le_eq rfl) (AF.le_put (AV.le_eq rfl) (AF.le_put (AV.le_eq rfl) (AF.le_put (AV.le_eq rfl) (AF.le_put (AV.le_eq rfl) (AF.le_top _))))))
      · unfold m_alphabet_Compose_B16 at h
        refine k_seq ?_
        refine k_reg .free hmixP (by kernel_rfl) ?_
        refine G_q rfl (op_lss rfl rfl ?_)
        refine G_nil ?_
        refine kC_normal ?_
        refine k_seq ?_
        refine k_cond_d (p := x42_l16 < (List.length y2 : Int)) rfl (fun hc => ?_) (fun hc => ?_)
        · replace h := ite_t h hc
          refine k_skip ?_
          refine kC_normal ?_
          refine k_join1_1 h (fun (x5_j223 : List (Int × Int)) (v5_j223 : Value) => (AF.put (AF.put (AF.put (AF.put (AF.put AF0 (some 0) (.row 2 c_api_Pair y1)) (some 5) (.exact v5_j223)) (some 40) (.row 2 c_api_Pair y2)) (some 41) (.exact (.int .i64 (List.length y2 : Int)))) (some 42) (.exact (.int .i64 x42_l16)))) (fun (x5_j223 : List (Int × Int)) (v5_j223 : Value) => [vecT Try.prog 44 2 c_api_Pair v5_j223 x5_j223]) (fun k223 h => ?_) (fun x5_j223 v5_j223 h => ?_)
          · refine k_block ?_
            refine k_seq ?_
            refine k_reg .free hmixP (by kernel_rfl) ?_
            obtain ⟨n229, h⟩ := need_some h
            refine G_q rfl (op_index_row (by kernel_rfl) rfl rfl n229.1 n229.2 ?_)
            refine G_q rfl (op_loadNp (m := 2) (c' := c_api_Pair (gi y2 x42_l16)) (by kernel_rfl) rfl rfl rfl ?_)
            refine G_l rfl (op_alloc (c := [.exact (.int .i64 ((0, 0).1)), .exact (.int .i64 ((0, 0).2))]) rfl (LEs.cons (AV.le_eq rfl) (LEs.cons (AV.le_eq rfl) LEs.nil)) (fun b230 => ?_))
            refine G_l rfl (op_store_box (c' := [.exact (.int .i64 ((gi y2 x42_l16).1)), .exact (.int .i64 ((gi y2 x42_l16).2))]) (c3 := [.exact (.int .i64 ((gi y2 x42_l16).1)), .exact (.int .i64 ((gi y2 x42_l16).2))]) rfl rfl CellsOf.agg (LEs.cons (AV.le_eq rfl) (LEs.cons (AV.le_eq rfl) LEs.nil)) (oc_c_api_Pair _) (by kernel_rfl) (Nat.le_of_ble_eq_true rfl) rfl ?_)
            refine G_nil ?_
            refine kC_normal ?_
            refine k_seq ?_
            refine k_reg .free hmixP (by kernel_rfl) ?_
            refine G_q rfl (op_move (av := .row 2 c_api_Pair y1) rfl ?_)
            refine G_sub rfl (SubU.freezeBox (s := 11) rfl) ?_
            refine G_q rfl (op_makeFunc (args := (fun (i : (Int × Int)) => [.agg (c_api_Pair i)])) (f := (fun (i : (Int × Int)) => (fun (x0 : Int × Int) => m_alphabet_Compose_1 x0 ((gi y2 x42_l16).1, (gi y2 x42_l16).2)) i)) (res := (fun (r : Bool) => .exact (.bool r))) Try.func71 (by kernel_rfl) [.ptr (c_api_Pair ((gi y2 x42_l16).1, (gi y2 x42_l16).2))] (LEs.cons (AV.le_eq rfl) LEs.nil) (fun i r h => m_alphabet_Compose_1_ok i ((gi y2 x42_l16).1, (gi y2 x42_l16).2) r h) ?_)
            obtain ⟨y231, hy231, h⟩ := bnd1_some h
            refine G_q rfl (op_pure (m_slices_ContainsFunc_L_api_Pair_api_Pair_ok _ _ _ hy231) Try.func70 (by kernel_rfl) (LEs.cons (AV.le_eq rfl) (LEs.cons (AV.le_eq rfl) LEs.nil)) ?_)
            refine G_q rfl (op_not rfl ?_)
            refine G_nil ?_
            refine kC_normal ?_
            refine k_cond_b (c := !y231) rfl (fun hc => ?_) (fun hc => ?_)
            · replace h := ite_t h hc
              refine k_reg .free hmixP (by kernel_rfl) ?_
              refine G_q rfl (op_move (av := .exact v5_l16) rfl ?_)
              refine G_q rfl (op_loadNp (m := 2) (c' := c_api_Pair ((gi y2 x42_l16).1, (gi y2 x42_l16).2)) (by kernel_rfl) rfl rfl rfl ?_)
              refine G_q rfl (op_litT (n := 2) (enc := c_api_Pair) [((gi y2 x42_l16).1, (gi y2 x42_l16).2)] (CellsAll.cons rfl CellsOf.agg CellsAll.nil) rfl (by kernel_rfl) (LEss.cons (LEs.cons (AV.le_eq rfl) (LEs.cons (AV.le_eq rfl) LEs.nil)) LEss.nil) ?_)
              obtain ⟨n232, h⟩ := need_some h
              refine G_l rfl (op_appT (by kernel_rfl) rfl rfl oc_c_api_Pair n232 (fun v233 => ?_))
              refine G_q rfl (op_assign (av := .exact v233) rfl ?_)
              refine G_nil ?_
              refine kB_normal ?_
              refine kI_normal ⟨_, v233, h, ?_⟩
              exact Sub.of_le (AF.le_put (AV.le_eq rfl) (AF.le_put (AV.le_eq rfl) (AF.le_put (AV.le_eq rfl) (AF.le_put (AV.le_eq rfl) (AF.le_put (AV.le_eq rfl) (AF.le_top _))))))
            · replace h := ite_f h hc
              refine k_skip ?_
              refine kB_normal ?_
              refine kI_normal ⟨_, v5_l16, h, ?_⟩
              exact Sub.of_le (AF.le_put (AV.le_eq rfl) (AF.le_put (AV.le_eq rfl) (AF.le_put (AV.le_eq rfl) (AF.le_put (AV.le_eq rfl) (AF.le_put (AV.le_eq rfl) (AF.le_top _))))))
          · refine k_reg .free hmixP (by kernel_rfl) ?_
            refine G_q rfl (op_add rfl rfl rfl ?_)
            refine G_q rfl (op_move (av := .exact (.int .i64 (i64 (x42_l16 + 1)))) rfl ?_)
            refine G_nil ?_
            refine kI_normal ⟨_, _, v5_j223, h, ?_⟩
            exact Sub.of_le (AF.le_put (AV.le_eq rfl) (AF.le_put (AV.le_eq rfl) (AF.le_put (AV.le_eq rfl) (AF.le_put (AV.le_eq rfl) (AF.le_put (AV.le_eq rfl) (AF.le_top _))))))
        · replace h := ite_f h hc
          refine k_exit ?_
          refine kC_exit ?_
          refine kI_exit ?_
          refine kB_exit ?_
          refine kI_normal ⟨_, v5_l16, h, ?_⟩
          exact Sub.of_le (AF.le_put (AV.le_eq rfl) (AF.le_top _))
    · refine k_seq ?_
      refine k_reg .free hmixP (by kernel_rfl) ?_
      refine G_q rfl (op_move (av := .exact v5_j166) rfl ?_)
      refine G_sub rfl (SubU.freezeT2 (s1 := 5) (s2 := 55) rfl rfl len_c_api_Pair) ?_
      obtain ⟨y234, hy234, h⟩ := bnd1_some h
      refine G_q rfl (op_pure (m_alphabet_Relation_ok _ _ hy234) Try.func30 (by kernel_rfl) (LEs.cons (AV.le_eq rfl) LEs.nil) ?_)
      refine G_q rfl (op_assign (av := .row 2 c_api_Pair y234) rfl ?_)
      refine G_nil ?_
      refine kC_normal ?_
      refine k_ret ?_
      obtain rfl := Option.some.inj h
      refine kP_any (endN (af' := (AF.put AF0 (some 4) (.row 2 c_api_Pair y234))) (σ' := []) _ rfl ?_ ⟨rfl, rfl⟩)
      exact Sub.of_le (AF.le_put (AV.le_eq rfl) (AF.le_top _))
set_option maxHeartbeats 4000000 in
theorem m_alphabet_Inverse_ok (a0 : List (Int × Int)) (r : (List (Int × Int))) (h : m_alphabet_Inverse a0 = some r) : Pure Try.prog 36 [(.row 2 c_api_Pair a0)] (.row 2 c_api_Pair r) := by
  unfold m_alphabet_Inverse at h
  refine Pure.ofFun (fun_of_awp Try.func36 rfl Try.ntmps36 (by simp) rfl (res1 rfl) fun E hE => k_end ?_)
  refine k_seq ?_
  refine k_reg .free hmixP (by kernel_rfl) ?_
  refine G_q rfl (op_assign (av := .exact (.slice none 0 0)) rfl ?_)
  refine G_nil ?_
  refine kC_normal ?_
  refine k_seq ?_
  refine k_reg .free hmixP (by kernel_rfl) ?_
  refine G_q rfl (op_assign (av := .exact (.slice none 0 0)) rfl ?_)
  refine G_nil ?_
  refine kC_normal ?_
  refine k_join1_1 h (fun (x3_j1 : List (Int × Int)) (v3_j1 : Value) => (AF.put AF0 (some 3) (.exact v3_j1))) (fun (x3_j1 : List (Int × Int)) (v3_j1 : Value) => [vecT Try.prog 44 2 c_api_Pair v3_j1 x3_j1]) (fun k1 h => ?_) (fun x3_j1 v3_j1 h => ?_)
  · refine k_seq ?_
    refine k_reg .free hmixP (by kernel_rfl) ?_
    refine G_q rfl (op_move (av := .row 2 c_api_Pair a0) rfl ?_)
    refine G_q rfl (op_len_row (by kernel_rfl) rfl ?_)
    refine G_q rfl (op_move (av := .exact (.int .i64 0)) rfl ?_)
    refine G_nil ?_
    refine kC_normal ?_
    refine k_block ?_
    refine k_loop2_1 (m_alphabet_Inverse_L2 a0 k1) (m_alphabet_Inverse_B2 a0 k1) (fun _ _ => rfl) (fun m _ _ => rfl) h (fun (x3_l2 : List (Int × Int)) (x8_l2 : Int) (v3_l2 : Value) => (AF.put (AF.put (AF.put (AF.put AF0 (some 3) (.exact v3_l2)) (some 6) (.row 2 c_api_Pair a0)) (some 7) (.exact (.int .i64 (List.length a0 : Int)))) (some 8) (.exact (.int .i64 x8_l2)))) (fun (x3_l2 : List (Int × Int)) (x8_l2 : Int) (v3_l2 : Value) => [vecT Try.prog 44 2 c_api_Pair v3_l2 x3_l2]) (.slice none 0 0) ?_ (fun rec2 x3_l2 x8_l2 v3_l2 h => ?_)
    · refine Sub.trans (SubU.to (SubU.nilT (P := Try.prog) (t := 44) (n := 2) (enc := c_api_Pair))) ?_
      exact Sub.of_le (AF.le_put (AV.le_eq rfl) (AF.le_put (AV.le_eq rfl) (AF.le_put (AV.le_eq rfl) (AF.le_put (AV.le_eq rfl) (AF.le_top _)))))
    · unfold m_alphabet_Inverse_B2 at h
      refine k_seq ?_
      refine k_reg .free hmixP (by kernel_rfl) ?_
      refine G_q rfl (op_lss rfl rfl ?_)
      refine G_nil ?_
      refine kC_normal ?_
      refine k_seq ?_
      refine k_cond_d (p := x8_l2 < (List.length a0 : Int)) rfl (fun hc => ?_) (fun hc => ?_)
      · replace h := ite_t h hc
        refine k_skip ?_
        refine kC_normal ?_
        refine k_seq ?_
        refine k_block ?_
        refine k_seq ?_
        refine k_reg .free hmixP (by kernel_rfl) ?_
        obtain ⟨n23, h⟩ := need_some h
        refine G_q rfl (op_index_row (by kernel_rfl) rfl rfl n23.1 n23.2 ?_)
        refine G_q rfl (op_loadNp (m := 2) (c' := c_api_Pair (gi a0 x8_l2)) (by kernel_rfl) rfl rfl rfl ?_)
        refine G_l rfl (op_alloc (c := [.exact (.int .i64 ((0, 0).1)), .exact (.int .i64 ((0, 0).2))]) rfl (LEs.cons (AV.le_eq rfl) (LEs.cons (AV.le_eq rfl) LEs.nil)) (fun b24 => ?_))
        refine G_l rfl (op_store_box (c' := [.exact (.int .i64 ((gi a0 x8_l2).1)), .exact (.int .i64 ((gi a0 x8_l2).2))]) (c3 := [.exact (.int .i64 ((gi a0 x8_l2).1)), .exact (.int .i64 ((gi a0 x8_l2).2))]) rfl rfl CellsOf.agg (LEs.cons (AV.le_eq rfl) (LEs.cons (AV.le_eq rfl) LEs.nil)) (oc_c_api_Pair _) (by kernel_rfl) (Nat.le_of_ble_eq_true rfl) rfl ?_)
        refine G_nil ?_
        refine kC_normal ?_
        refine k_reg .free hmixP (by kernel_rfl) ?_
        refine G_q rfl (op_move (av := .exact v3_l2) rfl ?_)
        refine G_q rfl (op_fieldAddr (o := 1) (by kernel_rfl) rfl ?_)
        refine G_r rfl (op_load_box1 (a := .exact (.int .i64 ((gi a0 x8_l2).2))) (by kernel_rfl) rfl rfl ?_)
        refine G_q rfl (op_fieldAddr (o := 0) (by kernel_rfl) rfl ?_)
        refine G_r rfl (op_load_box1 (a := .exact (.int .i64 ((gi a0 x8_l2).1))) (by kernel_rfl) rfl rfl ?_)
        refine G_q rfl (op_bld (c' := c_api_Pair ((gi a0 x8_l2).2, (gi a0 x8_l2).1)) (CellsAll.cons rfl CellsOf.int (CellsAll.cons rfl CellsOf.int CellsAll.nil)) rfl (LEs.cons (AV.le_eq rfl) (LEs.cons (AV.le_eq rfl) LEs.nil)) ?_)
        refine G_q rfl (op_litT (n := 2) (enc := c_api_Pair) [((gi a0 x8_l2).2, (gi a0 x8_l2).1)] (CellsAll.cons rfl CellsOf.agg CellsAll.nil) rfl (by kernel_rfl) (LEss.cons (LEs.cons (AV.le_eq rfl) (LEs.cons (AV.le_eq rfl) LEs.nil)) LEss.nil) ?_)
        obtain ⟨n25, h⟩ := need_some h
        refine G_l rfl (opB_f1 (op_appT (by kernel_rfl) rfl rfl oc_c_api_Pair n25 (fun v26 => ?_)))
        refine G_q rfl (op_assign (av := .exact v26) rfl ?_)
        refine G_nil ?_
        refine kB_normal ?_
        refine kC_normal ?_
        refine k_reg .free hmixP (by kernel_rfl) ?_
        refine G_q rfl (op_add rfl rfl rfl ?_)
        refine G_q rfl (op_move (av := .exact (.int .i64 (i64 (x8_l2 + 1)))) rfl ?_)
        refine G_nil ?_
        refine kI_normal ⟨_, _, v26, h, ?_⟩
        refine Sub.trans (SubU.to SubU.f1) ?_
        refine Sub.trans (SubU.to SubU.drop) ?_
        exact Sub.of_le (AF.le_put (AV.le_eq rfl) (AF.le_put (AV.le_eq rfl) (AF.le_put (AV.le_eq rfl) (AF.le_put (AV.le_eq rfl) (AF.le_top _)))))
      · replace h := ite_f h hc
        refine k_exit ?_
        refine kC_exit ?_
        refine kI_exit ?_
        refine kB_exit ?_
        refine kI_normal ⟨_, v3_l2, h, ?_⟩
        exact Sub.of_le (AF.le_put (AV.le_eq rfl) (AF.le_top _))
  · refine k_seq ?_
    refine k_reg .free hmixP (by kernel_rfl) ?_
    refine G_q rfl (op_move (av := .exact v3_j1) rfl ?_)
    refine G_sub rfl (SubU.freezeT2 (s1 := 3) (s2 := 21) rfl rfl len_c_api_Pair) ?_
    obtain ⟨y27, hy27, h⟩ := bnd1_some h
    refine G_q rfl (op_pure (m_alphabet_Relation_ok _ _ hy27) Try.func30 (by kernel_rfl) (LEs.cons (AV.le_eq rfl) LEs.nil) ?_)
    refine G_q rfl (op_assign (av := .row 2 c_api_Pair y27) rfl ?_)
    refine G_nil ?_
    refine kC_normal ?_
    refine k_ret ?_
    obtain rfl := Option.some.inj h
    refine kP_any (endN (af' := (AF.put AF0 (some 2) (.row 2 c_api_Pair y27))) (σ' := []) _ rfl ?_ ⟨rfl, rfl⟩)
    exact Sub.of_le (AF.le_put (AV.le_eq rfl) (AF.le_top _))
set_option maxHeartbeats 4000000 in
theorem m_gen_Choices_Next_ok {w0 : Nat} (a0 : (List Int) × Int) (a1 : Int) (r : Int × ((List Int) × Int)) (h : m_gen_Choices_Next a0 a1 = some r) : Fun Try.prog 11 [(pA w0 0), (.exact (.int .i64 a1))] [boxI 58 w0 [.row 1 c_int a0.1, .exact (.int .i64 a0.2)]] (fun a s => a = .exact (.int .i64 r.1) ∧ s = [boxI 58 w0 [.row 1 c_int r.2.1, .exact (.int .i64 r.2.2)]]) := by
  unfold m_gen_Choices_Next at h
  refine fun_of_awp Try.func11 rfl Try.ntmps11 (by simp) rfl (res1 rfl) fun E hE => k_end ?_
  refine k_seq ?_
  refine k_reg .free hmixP (by kernel_rfl) ?_
  refine G_q rfl (op_assign (av := .exact (.int .i64 0)) rfl ?_)
  refine G_nil ?_
  refine kC_normal ?_
  refine k_seq ?_
  refine k_seq ?_
  refine k_plan [] [(0, 0), (0, 1), (0, 2), (0, 4), (0, 5), (0, 6), (1, 3), (1, 7), (0, 8), (0, 9)] hmixP (by kernel_rfl) ?_
  refine P_q no34_0 rfl (op_move (av := pA w0 0) rfl ?_)
  refine P_q no34_0 rfl (op_nilCheck rfl ?_)
  refine P_q no34_0 rfl (op_fieldAddr (o := 1) (by kernel_rfl) rfl ?_)
  refine P_q no34_0 rfl (op_move (av := pA w0 0) rfl ?_)
  refine P_q no34_0 rfl (op_nilCheck rfl ?_)
  refine P_q no34_0 rfl (op_fieldAddr (o := 0) (by kernel_rfl) rfl ?_)
  refine P_r rfl (op_load_box1 (a := .exact (.int .i64 a0.2)) (by kernel_rfl) rfl rfl ?_)
  refine P_r rfl (op_load_box1 (a := .row 1 c_int a0.1) (by kernel_rfl) rfl rfl ?_)
  refine P_q no34_0 rfl (op_len_row (by kernel_rfl) rfl ?_)
  refine P_q no34_0 rfl (op_geq rfl rfl ?_)
  refine P_nil ?_
  refine kC_normal ?_
  refine k_cond_d (p := (List.length a0.1 : Int) ≤ a0.2) rfl (fun hc => ?_) (fun hc => ?_)
  · replace h := ite_t h hc
    refine k_seq ?_
    refine k_reg .free hmixP (by kernel_rfl) ?_
    refine G_q rfl (op_assign (av := .exact (.int .i64 0)) rfl ?_)
    refine G_nil ?_
    refine kC_normal ?_
    refine k_ret ?_
    refine kC_ret ?_
    obtain rfl := Option.some.inj h
    refine kP_any (endN (af' := (AF.put AF0 (some 4) (.exact (.int .i64 0)))) (σ' := [boxI 58 w0 [.row 1 c_int a0.1, .exact (.int .i64 a0.2)]]) _ rfl ?_ ⟨rfl, rfl⟩)
    exact Sub.of_le (AF.le_put (AV.le_eq rfl) (AF.le_top _))
  · replace h := ite_f h hc
    refine k_skip ?_
    refine kC_normal ?_
    refine k_seq ?_
    refine k_reg .free hmixP (by kernel_rfl) ?_
    refine G_q rfl (op_move (av := pA w0 0) rfl ?_)
    refine G_q rfl (op_nilCheck rfl ?_)
    refine G_q rfl (op_fieldAddr (o := 1) (by kernel_rfl) rfl ?_)
    refine G_r rfl (op_load_box1 (a := .exact (.int .i64 a0.2)) (by kernel_rfl) rfl rfl ?_)
    refine G_q rfl (op_add rfl rfl rfl ?_)
    refine G_q rfl (op_nilCheck rfl ?_)
    refine G_q rfl (op_fieldAddr (o := 1) (by kernel_rfl) rfl ?_)
    refine G_l rfl (op_store_box (c' := [.exact (.int .i64 (i64 (a0.2 + 1)))]) (c3 := [.row 1 c_int a0.1, .exact (.int .i64 (i64 (a0.2 + 1)))]) rfl rfl CellsOf.int (LEs.cons (AV.le_eq rfl) LEs.nil) (OneC.int OneC.nil) (by kernel_rfl) (Nat.le_of_ble_eq_true rfl) rfl ?_)
    refine G_nil ?_
    refine kC_normal ?_
    refine k_seq ?_
    refine k_plan [] [(0, 0), (0, 1), (0, 2), (0, 4), (0, 5), (0, 6), (0, 11), (1, 3), (1, 7), (0, 8), (0, 9), (0, 10), (0, 12), (0, 13)] hmixP (by kernel_rfl) ?_
    refine P_q no34_0 rfl (op_move (av := pA w0 0) rfl ?_)
    refine P_q no34_0 rfl (op_nilCheck rfl ?_)
    refine P_q no34_0 rfl (op_fieldAddr (o := 0) (by kernel_rfl) rfl ?_)
    refine P_q no34_0 rfl (op_move (av := pA w0 0) rfl ?_)
    refine P_q no34_0 rfl (op_nilCheck rfl ?_)
    refine P_q no34_0 rfl (op_fieldAddr (o := 1) (by kernel_rfl) rfl ?_)
    refine P_q no34_0 rfl (op_move (av := .exact (.int .i64 a1)) rfl ?_)
    refine P_r rfl (op_load_box1 (a := .row 1 c_int a0.1) (by kernel_rfl) rfl rfl ?_)
    refine P_r rfl (op_load_box1 (a := .exact (.int .i64 (i64 (a0.2 + 1)))) (by kernel_rfl) rfl rfl ?_)
    refine P_q no34_0 rfl (op_sub rfl rfl rfl ?_)
    obtain ⟨n1, h⟩ := need_some h
    refine P_q no34_0 rfl (op_index_row (by kernel_rfl) rfl rfl n1.1 n1.2 ?_)
    refine P_q no34_0 rfl (op_load1p (a := .exact (.int .i64 (gi a0.1 (i64 ((i64 (a0.2 + 1)) - 1))))) (by kernel_rfl) rfl rfl ?_)
    obtain ⟨y2, hy2, h⟩ := bnd1_some h
    refine P_q no34_0 rfl (op_pure (m_help_Mod_ok _ _ _ hy2) Try.func25 (by kernel_rfl) (LEs.cons (AV.le_eq rfl) (LEs.cons (AV.le_eq rfl) LEs.nil)) ?_)
    refine P_q no34_0 rfl (op_assign (av := .exact (.int .i64 y2)) rfl ?_)
    refine P_nil ?_
    refine kC_normal ?_
    refine k_ret ?_
    obtain rfl := Option.some.inj h
    refine kP_any (endN (af' := (AF.put AF0 (some 4) (.exact (.int .i64 y2)))) (σ' := [boxI 58 w0 [.row 1 c_int a0.1, .exact (.int .i64 (i64 (a0.2 + 1)))]]) _ rfl ?_ ⟨rfl, rfl⟩)
    exact Sub.of_le (AF.le_put (AV.le_eq rfl) (AF.le_top _))
set_option maxHeartbeats 4000000 in
theorem m_gen_Choices_Event_ok {w0 : Nat} (a0 : (List Int) × Int) (r : Int × ((List Int) × Int)) (h : m_gen_Choices_Event a0 = some r) : Fun Try.prog 12 [(pA w0 0)] [boxI 58 w0 [.row 1 c_int a0.1, .exact (.int .i64 a0.2)]] (fun a s => a = .exact (.int .i64 r.1) ∧ s = [boxI 58 w0 [.row 1 c_int r.2.1, .exact (.int .i64 r.2.2)]]) := by
  unfold m_gen_Choices_Event at h
  refine fun_of_awp Try.func12 rfl Try.ntmps12 (by simp) rfl (res1 rfl) fun E hE => k_end ?_
  refine k_seq ?_
  refine k_reg .free hmixP (by kernel_rfl) ?_
  refine G_q rfl (op_assign (av := .exact (.int .i64 0)) rfl ?_)
  refine G_nil ?_
  refine kC_normal ?_
  refine k_seq ?_
  refine k_reg .free hmixP (by kernel_rfl) ?_
  refine G_q rfl (op_move (av := pA w0 0) rfl ?_)
  obtain ⟨y1, hy1, h⟩ := bnd1_some h
  refine G_l rfl (op_fun_1_0_1 (m_gen_Choices_Next_ok _ _ _ hy1) Try.func11 (by kernel_rfl) (LEs.cons (AV.le_eq rfl) (LEs.cons (AV.le_eq rfl) LEs.nil)) ?_)
  refine G_q rfl (op_add rfl rfl rfl ?_)
  refine G_q rfl (op_assign (av := .exact (.int .i64 (i64 (2 + y1.1)))) rfl ?_)
  refine G_nil ?_
  refine kC_normal ?_
  refine k_ret ?_
  obtain rfl := Option.some.inj h
  refine kP_any (endN (af' := (AF.put AF0 (some 2) (.exact (.int .i64 (i64 (2 + y1.1)))))) (σ' := [boxI 58 w0 [.row 1 c_int y1.2.1, .exact (.int .i64 y1.2.2)]]) _ rfl ?_ ⟨rfl, rfl⟩)
  exact Sub.of_le (AF.le_put (AV.le_eq rfl) (AF.le_top _))
set_option maxHeartbeats 4000000 in
theorem m_gen_Choices_Pairs_ok {w0 : Nat} (a0 : (List Int) × Int) (r : (List (Int × Int)) × ((List Int) × Int)) (h : m_gen_Choices_Pairs a0 = some r) : Fun Try.prog 38 [(pA w0 0)] [boxI 58 w0 [.row 1 c_int a0.1, .exact (.int .i64 a0.2)]] (fun a s => ∃ z0, a = .exact z0 ∧ s = [vecT Try.prog 44 2 c_api_Pair z0 r.1, boxI 58 w0 [.row 1 c_int r.2.1, .exact (.int .i64 r.2.2)]]) := by
  unfold m_gen_Choices_Pairs at h
  refine fun_of_awp Try.func38 rfl Try.ntmps38 (by simp) rfl (res1 rfl) fun E hE => k_end ?_
  refine k_seq ?_
  refine k_reg .free hmixP (by kernel_rfl) ?_
  refine G_q rfl (op_assign (av := .exact (.slice none 0 0)) rfl ?_)
  refine G_nil ?_
  refine kC_normal ?_
  refine k_seq ?_
  refine k_reg .free hmixP (by kernel_rfl) ?_
  refine G_q rfl (op_assign (av := .exact (.slice none 0 0)) rfl ?_)
  refine G_nil ?_
  refine kC_normal ?_
  refine k_join3_1 h (fun (x0_0_j1 : List Int) (x0_1_j1 : Int) (x3_j1 : List (Int × Int)) (v3_j1 : Value) => (AF.put (AF.put AF0 (some 0) (pA w0 0)) (some 3) (.exact v3_j1))) (fun (x0_0_j1 : List Int) (x0_1_j1 : Int) (x3_j1 : List (Int × Int)) (v3_j1 : Value) => [boxI 58 w0 [.row 1 c_int x0_0_j1, .exact (.int .i64 x0_1_j1)], vecT Try.prog 44 2 c_api_Pair v3_j1 x3_j1]) (fun k1 h => ?_) (fun x0_0_j1 x0_1_j1 x3_j1 v3_j1 h => ?_)
  · refine k_seq ?_
    refine k_reg .free hmixP (by kernel_rfl) ?_
    refine G_q rfl (op_move (av := pA w0 0) rfl ?_)
    obtain ⟨y16, hy16, h⟩ := bnd1_some h
    refine G_l rfl (op_fun_1_0_1 (m_gen_Choices_Next_ok _ _ _ hy16) Try.func11 (by kernel_rfl) (LEs.cons (AV.le_eq rfl) (LEs.cons (AV.le_eq rfl) LEs.nil)) ?_)
    refine G_q rfl (op_assign (av := .exact (.int .i64 y16.1)) rfl ?_)
    refine G_nil ?_
    refine kC_normal ?_
    refine k_block ?_
    refine k_loop4_1 (m_gen_Choices_Pairs_L2 k1) (m_gen_Choices_Pairs_B2 k1) (fun _ _ _ _ => rfl) (fun m _ _ _ _ => rfl) h (fun (x0_0_l2 : List Int) (x0_1_l2 : Int) (x3_l2 : List (Int × Int)) (x4_l2 : Int) (v3_l2 : Value) => (AF.put (AF.put (AF.put AF0 (some 0) (pA w0 0)) (some 3) (.exact v3_l2)) (some 4) (.exact (.int .i64 x4_l2)))) (fun (x0_0_l2 : List Int) (x0_1_l2 : Int) (x3_l2 : List (Int × Int)) (x4_l2 : Int) (v3_l2 : Value) => [boxI 58 w0 [.row 1 c_int x0_0_l2, .exact (.int .i64 x0_1_l2)], vecT Try.prog 44 2 c_api_Pair v3_l2 x3_l2]) (.slice none 0 0) ?_ (fun rec2 x0_0_l2 x0_1_l2 x3_l2 x4_l2 v3_l2 h => ?_)
    · refine Sub.trans (SubU.to (SubU.nilT (P := Try.prog) (t := 44) (n := 2) (enc := c_api_Pair))) ?_
      refine Sub.trans (SubU.to SubU.f1) ?_
      exact Sub.of_le (AF.le_put (AV.le_eq rfl) (AF.le_put (AV.le_eq rfl) (AF.le_put (AV.le_eq rfl) (AF.le_top _))))
    · unfold m_gen_Choices_Pairs_B2 at h
      refine k_seq ?_
      refine k_seq ?_
      refine k_reg .free hmixP (by kernel_rfl) ?_
      refine G_q rfl (op_move (av := .exact (.int .i64 x4_l2)) rfl ?_)
      refine G_q rfl (op_gtr rfl rfl ?_)
      refine G_nil ?_
      refine kC_normal ?_
      refine k_cond_d (p := 0 < x4_l2) rfl (fun hc => ?_) (fun hc => ?_)
      · replace h := ite_t h hc
        refine k_skip ?_
        refine kC_normal ?_
        refine k_seq ?_
        refine k_block ?_
        refine k_reg .free hmixP (by kernel_rfl) ?_
        refine G_q rfl (op_move (av := .exact v3_l2) rfl ?_)
        refine G_q rfl (op_move (av := pA w0 0) rfl ?_)
        obtain ⟨y25, hy25, h⟩ := bnd1_some h
        refine G_l rfl (op_fun_1_0_1 (m_gen_Choices_Event_ok _ _ hy25) Try.func12 (by kernel_rfl) (LEs.cons (AV.le_eq rfl) LEs.nil) ?_)
        refine G_q rfl (op_move (av := pA w0 0) rfl ?_)
        obtain ⟨y26, hy26, h⟩ := bnd1_some h
        refine G_l rfl (op_fun_1_0_1 (m_gen_Choices_Event_ok _ _ hy26) Try.func12 (by kernel_rfl) (LEs.cons (AV.le_eq rfl) LEs.nil) ?_)
        refine G_q rfl (op_bld (c' := c_api_Pair (y25.1, y26.1)) (CellsAll.cons rfl CellsOf.int (CellsAll.cons rfl CellsOf.int CellsAll.nil)) rfl (LEs.cons (AV.le_eq rfl) (LEs.cons (AV.le_eq rfl) LEs.nil)) ?_)
        refine G_q rfl (op_litT (n := 2) (enc := c_api_Pair) [(y25.1, y26.1)] (CellsAll.cons rfl CellsOf.agg CellsAll.nil) rfl (by kernel_rfl) (LEss.cons (LEs.cons (AV.le_eq rfl) (LEs.cons (AV.le_eq rfl) LEs.nil)) LEss.nil) ?_)
        obtain ⟨n27, h⟩ := need_some h
        refine G_l rfl (opB_f1 (op_appT (by kernel_rfl) rfl rfl oc_c_api_Pair n27 (fun v28 => ?_)))
        refine G_q rfl (op_assign (av := .exact v28) rfl ?_)
        refine G_nil ?_
        refine kB_normal ?_
        refine kC_normal ?_
        refine k_reg .free hmixP (by kernel_rfl) ?_
        refine G_q rfl (op_move (av := .exact (.int .i64 x4_l2)) rfl ?_)
        refine G_q rfl (op_sub rfl rfl rfl ?_)
        refine G_q rfl (op_assign (av := .exact (.int .i64 (i64 (x4_l2 - 1)))) rfl ?_)
        refine G_nil ?_
        refine kI_normal ⟨_, _, _, _, v28, h, ?_⟩
        refine Sub.trans (SubU.to SubU.f1) ?_
        exact Sub.of_le (AF.le_put (AV.le_eq rfl) (AF.le_put (AV.le_eq rfl) (AF.le_put (AV.le_eq rfl) (AF.le_top _))))
      · replace h := ite_f h hc
        refine k_exit ?_
        refine kC_exit ?_
        refine kI_exit ?_
        refine kB_exit ?_
        refine kI_normal ⟨_, _, _, v3_l2, h, ?_⟩
        exact Sub.of_le (AF.le_put (AV.le_eq rfl) (AF.le_put (AV.le_eq rfl) (AF.le_top _)))
  · refine k_seq ?_
    refine k_reg .free hmixP (by kernel_rfl) ?_
    refine G_q rfl (op_move (av := .exact v3_j1) rfl ?_)
    refine G_sub rfl (SubU.trans SubU.f1 (SubU.freezeT2 (s1 := 3) (s2 := 19) rfl rfl len_c_api_Pair)) ?_
    obtain ⟨y29, hy29, h⟩ := bnd1_some h
    refine G_l rfl (op_fun_0_1_1 (m_ref16_Relation_ok _ _ hy29) Try.func31 (by kernel_rfl) (LEs.cons (AV.le_eq rfl) LEs.nil) (fun v30 => ?_))
    refine G_q rfl (op_assign (av := .exact v30) rfl ?_)
    refine G_nil ?_
    refine kC_normal ?_
    refine k_ret ?_
    obtain rfl := Option.some.inj h
    refine kP_any (endN (af' := (AF.put AF0 (some 2) (.exact v30))) (σ' := [vecT Try.prog 44 2 c_api_Pair v30 y29, boxI 58 w0 [.row 1 c_int x0_0_j1, .exact (.int .i64 x0_1_j1)]]) _ rfl ?_ ⟨v30, rfl, rfl⟩)
    exact Sub.of_le (AF.le_put (AV.le_eq rfl) (AF.le_top _))
set_option maxHeartbeats 4000000 in
theorem m_law15_AlphabetComposes_ok (a0 : List Int) (r : Bool) (h : m_law15_AlphabetComposes a0 = some r) : Pure Try.prog 8 [(.row 1 c_int a0)] (.exact (.bool r)) := by
  unfold m_law15_AlphabetComposes at h
  refine Pure.ofFun (fun_of_awp Try.func8 rfl Try.ntmps8 (by simp) rfl (res1 rfl) fun E hE => k_end ?_)
  refine k_seq ?_
  refine k_reg .free hmixP (by kernel_rfl) ?_
  refine G_q rfl (op_assign (av := .exact (.bool false)) rfl ?_)
  refine G_nil ?_
  refine kC_normal ?_
  refine k_seq ?_
  refine k_reg .free hmixP (by kernel_rfl) ?_
  refine G_q rfl (op_move (av := .row 1 c_int a0) rfl ?_)
  obtain ⟨y1, hy1, h⟩ := bnd1_some h
  refine G_l rfl (op_fun_0_1_1 (m_gen_New_ok _ _ hy1) Try.func10 (by kernel_rfl) (LEs.cons (AV.le_eq rfl) LEs.nil) (fun b2 => ?_))
  refine G_q rfl (op_assign (av := pA b2 0) rfl ?_)
  refine G_nil ?_
  refine kC_normal ?_
  refine k_seq ?_
  refine k_reg .free hmixP (by kernel_rfl) ?_
  refine G_q rfl (op_move (av := pA b2 0) rfl ?_)
  obtain ⟨y3, hy3, h⟩ := bnd1_some h
  refine G_l rfl (op_fun_1_1_2 (m_gen_Choices_Pairs_ok _ _ hy3) Try.func38 (by kernel_rfl) (LEs.cons (AV.le_eq rfl) LEs.nil) (fun v4 => ?_))
  refine G_q rfl (op_move (av := pA b2 0) rfl ?_)
  obtain ⟨y5, hy5, h⟩ := bnd1_some h
  refine G_l rfl (opB_f1 (op_fun_1_1_2 (m_gen_Choices_Pairs_ok _ _ hy5) Try.func38 (by kernel_rfl) (LEs.cons (AV.le_eq rfl) LEs.nil) (fun v6 => ?_)))
  refine G_q rfl (op_move (av := pA b2 0) rfl ?_)
  obtain ⟨y7, hy7, h⟩ := bnd1_some h
  refine G_l rfl (opB_f1 (op_fun_1_1_2 (m_gen_Choices_Pairs_ok _ _ hy7) Try.func38 (by kernel_rfl) (LEs.cons (AV.le_eq rfl) LEs.nil) (fun v8 => ?_)))
  refine G_q rfl (op_assign (av := .exact v4) rfl ?_)
  refine G_q rfl (op_assign (av := .exact v6) rfl ?_)
  refine G_q rfl (op_assign (av := .exact v8) rfl ?_)
  refine G_nil ?_
  refine kC_normal ?_
  refine k_seq ?_
  refine k_reg .free hmixP (by kernel_rfl) ?_
  refine G_q rfl (op_move (av := .exact v4) rfl ?_)
  refine G_q rfl (op_move (av := .exact v6) rfl ?_)
  refine G_sub rfl (SubU.trans SubU.f3 (SubU.freezeT3 (s1 := 4) (s2 := 16) (s3 := 21) rfl rfl rfl len_c_api_Pair)) ?_
  refine G_sub rfl (SubU.trans SubU.f2 (SubU.freezeT3 (s1 := 5) (s2 := 18) (s3 := 22) rfl rfl rfl len_c_api_Pair)) ?_
  obtain ⟨y9, hy9, h⟩ := bnd1_some h
  refine G_q rfl (op_pure (m_alphabet_Compose_ok _ _ _ hy9) Try.func34 (by kernel_rfl) (LEs.cons (AV.le_eq rfl) (LEs.cons (AV.le_eq rfl) LEs.nil)) ?_)
  refine G_q rfl (op_move (av := .row 2 c_api_Pair y5.1) rfl ?_)
  refine G_q rfl (op_move (av := .exact v8) rfl ?_)
  refine G_sub rfl (SubU.freezeT3 (s1 := 6) (s2 := 20) (s3 := 25) rfl rfl rfl len_c_api_Pair) ?_
  obtain ⟨y10, hy10, h⟩ := bnd1_some h
  refine G_q rfl (op_pure (m_alphabet_Compose_ok _ _ _ hy10) Try.func34 (by kernel_rfl) (LEs.cons (AV.le_eq rfl) (LEs.cons (AV.le_eq rfl) LEs.nil)) ?_)
  refine G_q rfl (op_assign (av := .row 2 c_api_Pair y9) rfl ?_)
  refine G_q rfl (op_assign (av := .row 2 c_api_Pair y10) rfl ?_)
  refine G_nil ?_
  refine kC_normal ?_
  refine k_join0_0 h ((AF.put AF0 (some 4) (.row 2 c_api_Pair y3.1))) ([]) (fun k11 h => ?_) (fun  h => ?_)
  · refine k_seq ?_
    refine k_reg .free hmixP (by kernel_rfl) ?_
    refine G_q rfl (op_assign (av := .exact (.int .i64 0)) rfl ?_)
    refine G_nil ?_
    refine kC_normal ?_
    refine k_block ?_
    refine k_loop1_0 (m_law15_AlphabetComposes_L14 y3 y5 y7 y9 y10 k11) (m_law15_AlphabetComposes_B14 y3 y5 y7 y9 y10 k11) (fun _ => rfl) (fun m _ => rfl) h (fun (x9_l14 : Int) => (AF.put (AF.put (AF.put (AF.put (AF.put (AF.put AF0 (some 4) (.row 2 c_api_Pair y3.1)) (some 5) (.row 2 c_api_Pair y5.1)) (some 6) (.row 2 c_api_Pair y7.1)) (some 7) (.row 2 c_api_Pair y9)) (some 8) (.row 2 c_api_Pair y10)) (some 9) (.exact (.int .i64 x9_l14)))) (fun (x9_l14 : Int) => []) ?_ (fun rec14 x9_l14 h => ?_)
    · refine Sub.trans (SubU.to SubU.drop) ?_
      exact Sub.of_le (AF.le_put (AV.le_eq rfl) (AF.le_put (AV.le_eq rfl) (AF.le_put (AV.le_eq rfl) (AF.le_put (AV.le_eq rfl) (AF.le_put (AV.le_eq rfl) (AF.le_put (AV.le_eq rfl) (AF.le_top _)))))))
    · unfold m_law15_AlphabetComposes_B14 at h
      refine k_seq ?_
      refine k_seq ?_
      refine k_reg .free hmixP (by kernel_rfl) ?_
      refine G_q rfl (op_move (av := .exact (.int .i64 x9_l14)) rfl ?_)
      refine G_q rfl (op_lss rfl rfl ?_)
      refine G_nil ?_
      refine kC_normal ?_
      refine k_cond_d (p := x9_l14 < 8) rfl (fun hc => ?_) (fun hc => ?_)
      · replace h := ite_t h hc
        refine k_skip ?_
        refine kC_normal ?_
        refine k_join0_0 h ((AF.put (AF.put (AF.put (AF.put (AF.put (AF.put AF0 (some 4) (.row 2 c_api_Pair y3.1)) (some 5) (.row 2 c_api_Pair y5.1)) (some 6) (.row 2 c_api_Pair y7.1)) (some 7) (.row 2 c_api_Pair y9)) (some 8) (.row 2 c_api_Pair y10)) (some 9) (.exact (.int .i64 x9_l14)))) ([]) (fun k498 h => ?_) (fun  h => ?_)
        · refine k_block ?_
          refine k_seq ?_
          refine k_reg .free hmixP (by kernel_rfl) ?_
          refine G_q rfl (op_assign (av := .exact (.slice none 0 0)) rfl ?_)
          refine G_nil ?_
          refine kC_normal ?_
          refine k_seq ?_
          refine k_reg .free hmixP (by kernel_rfl) ?_
          refine G_q rfl (op_move (av := .row 2 c_api_Pair y3.1) rfl ?_)
          refine G_q rfl (op_move (av := .exact (.int .i64 x9_l14)) rfl ?_)
          obtain ⟨y547, hy547, h⟩ := bnd1_some h
          refine G_q rfl (op_pure (m_alphabet_Image_ok _ _ _ hy547) Try.func32 (by kernel_rfl) (LEs.cons (AV.le_eq rfl) (LEs.cons (AV.le_eq rfl) LEs.nil)) ?_)
          refine G_q rfl (op_assign (av := .row 1 c_int y547) rfl ?_)
          refine G_nil ?_
          refine kC_normal ?_
          refine k_join1_1 h (fun (x10_j548 : List Int) (v10_j548 : Value) => (AF.put (AF.put (AF.put (AF.put (AF.put (AF.put (AF.put AF0 (some 4) (.row 2 c_api_Pair y3.1)) (some 5) (.row 2 c_api_Pair y5.1)) (some 6) (.row 2 c_api_Pair y7.1)) (some 7) (.row 2 c_api_Pair y9)) (some 8) (.row 2 c_api_Pair y10)) (some 9) (.exact (.int .i64 x9_l14))) (some 10) (.exact v10_j548))) (fun (x10_j548 : List Int) (v10_j548 : Value) => [vecT Try.prog 23 1 c_int v10_j548 x10_j548]) (fun k548 h => ?_) (fun x10_j548 v10_j548 h => ?_)
          · refine k_seq ?_
            refine k_reg .free hmixP (by kernel_rfl) ?_
            refine G_q rfl (op_assign (av := .exact (.int .i64 0)) rfl ?_)
            refine G_nil ?_
            refine kC_normal ?_
            refine k_block ?_
            refine k_loop2_1 (m_law15_AlphabetComposes_L26 y5 y547 k548) (m_law15_AlphabetComposes_B26 y5 y547 k548) (fun _ _ => rfl) (fun m _ _ => rfl) h (fun (x10_l26 : List Int) (x12_l26 : Int) (v10_l26 : Value) => (AF.put (AF.put (AF.put (AF.put (AF.put (AF.put (AF.put (AF.put (AF.put AF0 (some 4) (.row 2 c_api_Pair y3.1)) (some 5) (.row 2 c_api_Pair y5.1)) (some 6) (.row 2 c_api_Pair y7.1)) (some 7) (.row 2 c_api_Pair y9)) (some 8) (.row 2 c_api_Pair y10)) (some 9) (.exact (.int .i64 x9_l14))) (some 10) (.exact v10_l26)) (some 11) (.row 1 c_int y547)) (some 12) (.exact (.int .i64 x12_l26)))) (fun (x10_l26 : List Int) (x12_l26 : Int) (v10_l26 : Value) => [vecT Try.prog 23 1 c_int v10_l26 x10_l26]) (.slice none 0 0) ?_ (fun rec26 x10_l26 x12_l26 v10_l26 h => ?_)
            · refine Sub.trans (SubU.to (SubU.nilT (P := Try.prog) (t := 23) (n := 1) (enc := c_int))) ?_
              exact Sub.of_le (AF.le_put (AV.le_eq rfl) (AF.le_put (AV.le_eq rfl) (AF.le_put (AV.le_eq rfl) (AF.le_put (AV.le_eq rfl) (AF.le_put (AV.le_eq rfl) (AF.le_put (AV.le_eq rfl) (AF.le_put (AV.le_eq rfl) (AF.le_put (AV.le_eq rfl) (AF.le_put (AV.le_eq rfl) (AF.le_top _))))))))))
            · unfold m_law15_AlphabetComposes_B26 at h
              refine k_seq ?_
              refine k_seq ?_
              refine k_reg .free hmixP (by kernel_rfl) ?_
              refine G_q rfl (op_move (av := .exact (.int .i64 x12_l26)) rfl ?_)
              refine G_q rfl (op_move (av := .row 1 c_int y547) rfl ?_)
              refine G_q rfl (op_len_row (by kernel_rfl) rfl ?_)
              refine G_q rfl (op_lss rfl rfl ?_)
              refine G_nil ?_
              refine kC_normal ?_
              refine k_cond_d (p := x12_l26 < (List.length y547 : Int)) rfl (fun hc => ?_) (fun hc => ?_)
              · replace h := ite_t h hc
                refine k_skip ?_
                refine kC_normal ?_
                refine k_seq ?_
                refine k_block ?_
                refine k_reg .free hmixP (by kernel_rfl) ?_
                refine G_q rfl (op_move (av := .exact v10_l26) rfl ?_)
                refine G_q rfl (op_move (av := .row 2 c_api_Pair y5.1) rfl ?_)
                refine G_q rfl (op_move (av := .row 1 c_int y547) rfl ?_)
                refine G_q rfl (op_move (av := .exact (.int .i64 x12_l26)) rfl ?_)
                obtain ⟨n570, h⟩ := need_some h
                refine G_q rfl (op_index_row (by kernel_rfl) rfl rfl n570.1 n570.2 ?_)
                refine G_q rfl (op_load1p (a := .exact (.int .i64 (gi y547 x12_l26))) (by kernel_rfl) rfl rfl ?_)
                obtain ⟨y571, hy571, h⟩ := bnd1_some h
                refine G_q rfl (op_pure (m_alphabet_Image_ok _ _ _ hy571) Try.func32 (by kernel_rfl) (LEs.cons (AV.le_eq rfl) (LEs.cons (AV.le_eq rfl) LEs.nil)) ?_)
                obtain ⟨n572, h⟩ := need_some h
                refine G_l rfl (op_appT (by kernel_rfl) rfl rfl oc_c_int n572 (fun v573 => ?_))
                refine G_q rfl (op_assign (av := .exact v573) rfl ?_)
                refine G_nil ?_
                refine kB_normal ?_
                refine kC_normal ?_
                refine k_reg .free hmixP (by kernel_rfl) ?_
                refine G_q rfl (op_move (av := .exact (.int .i64 x12_l26)) rfl ?_)
                refine G_q rfl (op_add rfl rfl rfl ?_)
                refine G_q rfl (op_assign (av := .exact (.int .i64 (i64 (x12_l26 + 1)))) rfl ?_)
                refine G_nil ?_
                refine kI_normal ⟨_, _, v573, h, ?_⟩
                exact Sub.of_le (AF.le_put (AV.le_eq rfl) (AF.le_put (AV.le_eq rfl) (AF.le_put (AV.le_eq rfl) (AF.le_put (AV.le_eq rfl) (AF.le_put (AV.le_eq rfl) (AF.le_put (AV.le_eq rfl) (AF.le_put (AV.le_eq rfl) (AF.le_put (AV.le_eq rfl) (AF.le_put (AV.le_eq rfl) (AF.le_top _))))))))))
              · replace h := ite_f h hc
                refine k_exit ?_
                refine kC_exit ?_
                refine kI_exit ?_
                refine kB_exit ?_
                refine kI_normal ⟨_, v10_l26, h, ?_⟩
                exact Sub.of_le (AF.le_put (AV.le_eq rfl) (AF.le_put (AV.le_eq rfl) (AF.le_put (AV.le_eq rfl) (AF.le_put (AV.le_eq rfl) (AF.le_put (AV.le_eq rfl) (AF.le_put (AV.le_eq rfl) (AF.le_put (AV.le_eq rfl) (AF.le_top _))))))))
          · refine k_seq ?_
            refine k_join1_0 h (fun (x58_j582 : Bool) => (AF.put (AF.put (AF.put (AF.put (AF.put (AF.put (AF.put AF0 (some 4) (.row 2 c_api_Pair y3.1)) (some 5) (.row 2 c_api_Pair y5.1)) (some 6) (.row 2 c_api_Pair y7.1)) (some 7) (.row 2 c_api_Pair y9)) (some 8) (.row 2 c_api_Pair y10)) (some 9) (.exact (.int .i64 x9_l14))) (some 58) (.exact (.bool x58_j582)))) (fun (x58_j582 : Bool) => []) (fun k582 h => ?_) (fun x58_j582 h => ?_)
            · refine k_reg .free hmixP (by kernel_rfl) ?_
              refine G_q rfl (op_move (av := .exact (.int .i64 x9_l14)) rfl ?_)
              refine G_q rfl (op_geq rfl rfl ?_)
              refine G_q rfl (op_move (av := .exact (.bool (decide (2 ≤ x9_l14)))) rfl ?_)
              refine G_split (p := 2 ≤ x9_l14) 50 rfl (fun hc => ?_) (fun hc => ?_)
              · replace h := ite_t h hc
                refine Gy_q rfl rfl rfl (op_move (av := .exact v10_j548) rfl ?_)
                refine G_sub rfl (SubU.freezeT2 (s1 := 10) (s2 := 51) rfl rfl len_c_int) ?_
                obtain ⟨y586, hy586, h⟩ := bnd1_some h
                refine Gy_q rfl rfl rfl (op_pure (m_alphabet_Set_ok _ _ hy586) Try.func43 (by kernel_rfl) (LEs.cons (AV.le_eq rfl) LEs.nil) ?_)
                refine Gy_q rfl rfl rfl (op_move (av := .row 2 c_api_Pair y9) rfl ?_)
                refine Gy_q rfl rfl rfl (op_move (av := .exact (.int .i64 x9_l14)) rfl ?_)
                obtain ⟨y587, hy587, h⟩ := bnd1_some h
                refine Gy_q rfl rfl rfl (op_pure (m_alphabet_Image_ok _ _ _ hy587) Try.func32 (by kernel_rfl) (LEs.cons (AV.le_eq rfl) (LEs.cons (AV.le_eq rfl) LEs.nil)) ?_)
                obtain ⟨y588, hy588, h⟩ := bnd1_some h
                refine Gy_q rfl rfl rfl (op_pure (m_help_Equal_int_ok _ _ _ hy588) Try.func18 (by kernel_rfl) (LEs.cons (AV.le_eq rfl) (LEs.cons (AV.le_eq rfl) LEs.nil)) ?_)
                refine Gy_q rfl rfl rfl (op_not rfl ?_)
                refine G_q rfl (op_pick_t rfl (av := .exact (.bool (!y588))) rfl ?_)
                refine G_nil ?_
                refine kI_normal ⟨_, h, ?_⟩
                exact Sub.of_le (AF.le_put (AV.le_eq rfl) (AF.le_put (AV.le_eq rfl) (AF.le_put (AV.le_eq rfl) (AF.le_put (AV.le_eq rfl) (AF.le_put (AV.le_eq rfl) (AF.le_put (AV.le_eq rfl) (AF.le_put (AV.le_eq rfl) (AF.le_top _))))))))
              · replace h := ite_f h hc
                refine G_n rfl rfl ?_
                refine G_n rfl rfl ?_
                refine G_n rfl rfl ?_
                refine G_n rfl rfl ?_
                refine G_n rfl rfl ?_
                refine G_n rfl rfl ?_
                refine G_n rfl rfl ?_
                refine G_q rfl (op_pick_f rfl (av := .exact (.bool false)) rfl ?_)
                refine G_nil ?_
                refine kI_normal ⟨_, h, ?_⟩
                refine Sub.trans (SubU.to SubU.drop) ?_
                exact Sub.of_le (AF.le_put (AV.le_eq rfl) (AF.le_put (AV.le_eq rfl) (AF.le_put (AV.le_eq rfl) (AF.le_put (AV.le_eq rfl) (AF.le_put (AV.le_eq rfl) (AF.le_put (AV.le_eq rfl) (AF.le_put (AV.le_eq rfl) (AF.le_top _))))))))
            · refine k_cond_b (c := x58_j582) rfl (fun hc => ?_) (fun hc => ?_)
              · replace h := ite_t h hc
                refine k_seq ?_
                refine k_reg .free hmixP (by kernel_rfl) ?_
                refine G_q rfl (op_assign (av := .exact (.bool false)) rfl ?_)
                refine G_nil ?_
                refine kC_normal ?_
                refine k_ret ?_
                refine kC_ret ?_
                refine kB_ret ?_
                refine kI_ret ?_
                refine kI_ret ?_
                refine kB_ret ?_
                refine kI_ret ?_
                obtain rfl := Option.some.inj h
                refine kP_any (endN (af' := (AF.put AF0 (some 2) (.exact (.bool false)))) (σ' := []) _ rfl ?_ ⟨rfl, rfl⟩)
                exact Sub.of_le (AF.le_put (AV.le_eq rfl) (AF.le_top _))
              · replace h := ite_f h hc
                refine k_skip ?_
                refine kC_normal ?_
                refine k_seq ?_
                refine k_reg .free hmixP (by kernel_rfl) ?_
                refine G_q rfl (op_move (av := .row 2 c_api_Pair y9) rfl ?_)
                refine G_q rfl (op_move (av := .row 2 c_api_Pair y7.1) rfl ?_)
                obtain ⟨y589, hy589, h⟩ := bnd1_some h
                refine G_q rfl (op_pure (m_alphabet_Compose_ok _ _ _ hy589) Try.func34 (by kernel_rfl) (LEs.cons (AV.le_eq rfl) (LEs.cons (AV.le_eq rfl) LEs.nil)) ?_)
                refine G_q rfl (op_move (av := .exact (.int .i64 x9_l14)) rfl ?_)
                obtain ⟨y590, hy590, h⟩ := bnd1_some h
                refine G_q rfl (op_pure (m_alphabet_Image_ok _ _ _ hy590) Try.func32 (by kernel_rfl) (LEs.cons (AV.le_eq rfl) (LEs.cons (AV.le_eq rfl) LEs.nil)) ?_)
                refine G_q rfl (op_move (av := .row 2 c_api_Pair y3.1) rfl ?_)
                refine G_q rfl (op_move (av := .row 2 c_api_Pair y10) rfl ?_)
                obtain ⟨y591, hy591, h⟩ := bnd1_some h
                refine G_q rfl (op_pure (m_alphabet_Compose_ok _ _ _ hy591) Try.func34 (by kernel_rfl) (LEs.cons (AV.le_eq rfl) (LEs.cons (AV.le_eq rfl) LEs.nil)) ?_)
                refine G_q rfl (op_move (av := .exact (.int .i64 x9_l14)) rfl ?_)
                obtain ⟨y592, hy592, h⟩ := bnd1_some h
                refine G_q rfl (op_pure (m_alphabet_Image_ok _ _ _ hy592) Try.func32 (by kernel_rfl) (LEs.cons (AV.le_eq rfl) (LEs.cons (AV.le_eq rfl) LEs.nil)) ?_)
                obtain ⟨y593, hy593, h⟩ := bnd1_some h
                refine G_q rfl (op_pure (m_help_Equal_int_ok _ _ _ hy593) Try.func18 (by kernel_rfl) (LEs.cons (AV.le_eq rfl) (LEs.cons (AV.le_eq rfl) LEs.nil)) ?_)
                refine G_q rfl (op_not rfl ?_)
                refine G_nil ?_
                refine kC_normal ?_
                refine k_cond_b (c := !y593) rfl (fun hc => ?_) (fun hc => ?_)
                · replace h := ite_t h hc
                  refine k_seq ?_
                  refine k_reg .free hmixP (by kernel_rfl) ?_
                  refine G_q rfl (op_assign (av := .exact (.bool false)) rfl ?_)
                  refine G_nil ?_
                  refine kC_normal ?_
                  refine k_ret ?_
                  refine kB_ret ?_
                  refine kI_ret ?_
                  refine kI_ret ?_
                  refine kB_ret ?_
                  refine kI_ret ?_
                  obtain rfl := Option.some.inj h
                  refine kP_any (endN (af' := (AF.put AF0 (some 2) (.exact (.bool false)))) (σ' := []) _ rfl ?_ ⟨rfl, rfl⟩)
                  exact Sub.of_le (AF.le_put (AV.le_eq rfl) (AF.le_top _))
                · replace h := ite_f h hc
                  refine k_skip ?_
                  refine kB_normal ?_
                  refine kI_normal ⟨h, ?_⟩
                  exact Sub.of_le (AF.le_put (AV.le_eq rfl) (AF.le_put (AV.le_eq rfl) (AF.le_put (AV.le_eq rfl) (AF.le_put (AV.le_eq rfl) (AF.le_put (AV.le_eq rfl) (AF.le_put (AV.le_eq rfl) (AF.le_top _)))))))
        · refine k_reg .free hmixP (by kernel_rfl) ?_
          refine G_q rfl (op_move (av := .exact (.int .i64 x9_l14)) rfl ?_)
          refine G_q rfl (op_add rfl rfl rfl ?_)
          refine G_q rfl (op_assign (av := .exact (.int .i64 (i64 (x9_l14 + 1)))) rfl ?_)
          refine G_nil ?_
          refine kI_normal ⟨_, h, ?_⟩
          exact Sub.of_le (AF.le_put (AV.le_eq rfl) (AF.le_put (AV.le_eq rfl) (AF.le_put (AV.le_eq rfl) (AF.le_put (AV.le_eq rfl) (AF.le_put (AV.le_eq rfl) (AF.le_put (AV.le_eq rfl) (AF.le_top _)))))))
      · replace h := ite_f h hc
        refine k_exit ?_
        refine kC_exit ?_
        refine kI_exit ?_
        refine kB_exit ?_
        refine kI_normal ⟨h, ?_⟩
        exact Sub.of_le (AF.le_put (AV.le_eq rfl) (AF.le_top _))
  · refine k_join1_0 h (fun (x2_j594 : Bool) => (AF.put AF0 (some 2) (.exact (.bool x2_j594)))) (fun (x2_j594 : Bool) => []) (fun k594 h => ?_) (fun x2_j594 h => ?_)
    · refine k_reg .free hmixP (by kernel_rfl) ?_
      obtain ⟨y599, hy599, h⟩ := bnd1_some h
      refine G_q rfl (op_pure (m_law15_awake_ok _ hy599) Try.func23 (by kernel_rfl) LEs.nil ?_)
      refine G_q rfl (op_move (av := .exact (.bool y599)) rfl ?_)
      refine G_splitB (c := y599) 72 rfl (fun hc => ?_) (fun hc => ?_)
      · replace h := ite_t h hc
        refine Gy_q rfl rfl rfl (op_move (av := .row 2 c_api_Pair y3.1) rfl ?_)
        obtain ⟨y600, hy600, h⟩ := bnd1_some h
        refine Gy_q rfl rfl rfl (op_pure (m_alphabet_Inverse_ok _ _ hy600) Try.func36 (by kernel_rfl) (LEs.cons (AV.le_eq rfl) LEs.nil) ?_)
        obtain ⟨y601, hy601, h⟩ := bnd1_some h
        refine Gy_q rfl rfl rfl (op_pure (m_alphabet_Inverse_ok _ _ hy601) Try.func36 (by kernel_rfl) (LEs.cons (AV.le_eq rfl) LEs.nil) ?_)
        refine Gy_q rfl rfl rfl (op_move (av := .row 2 c_api_Pair y3.1) rfl ?_)
        obtain ⟨y602, hy602, h⟩ := bnd1_some h
        refine Gy_q rfl rfl rfl (op_pure (m_help_Equal_api_Pair_ok _ _ _ hy602) Try.func29 (by kernel_rfl) (LEs.cons (AV.le_eq rfl) (LEs.cons (AV.le_eq rfl) LEs.nil)) ?_)
        refine G_q rfl (op_pick_t rfl (av := .exact (.bool y602)) rfl ?_)
        refine G_q rfl (op_assign (av := .exact (.bool y602)) rfl ?_)
        refine G_nil ?_
        refine kI_normal ⟨_, h, ?_⟩
        exact Sub.of_le (AF.le_put (AV.le_eq rfl) (AF.le_top _))
      · replace h := ite_f h hc
        refine G_n rfl rfl ?_
        refine G_n rfl rfl ?_
        refine G_n rfl rfl ?_
        refine G_n rfl rfl ?_
        refine G_n rfl rfl ?_
        refine G_q rfl (op_pick_f rfl (av := .exact (.bool false)) rfl ?_)
        refine G_q rfl (op_assign (av := .exact (.bool false)) rfl ?_)
        refine G_nil ?_
        refine kI_normal ⟨_, h, ?_⟩
        exact Sub.of_le (AF.le_put (AV.le_eq rfl) (AF.le_top _))
    · refine k_ret ?_
      obtain rfl := Option.some.inj h
      refine kP_any (endN (af' := (AF.put AF0 (some 2) (.exact (.bool x2_j594)))) (σ' := []) _ rfl ?_ ⟨rfl, rfl⟩)
      exact Sub.of_le (AF.le_put (AV.le_eq rfl) (AF.le_top _))
end Go.Proofs.Ytkbbeeeoogjknaa
