/- The functions compute their models, by program. -/
import Derived.Test.YtkplmgdmkfgjhaaP3
namespace Go.Proofs.Ytkplmgdmkfgjhaa
open Go.RowKit
attribute [local irreducible] AV.exact AV.top AV.row AV.ptr AV.agg AV.tup AV.eptr AV.fn AV.nilq AV.nilqn opA opB opM opR Quiet Loud Reads wpG awp den Sub SubU Pure Fun vecI vecT boxI CellsAll CellsOf OneC LEs LEss
set_option maxRecDepth 100000

set_option maxHeartbeats 4000000 in
theorem m_law36_FrontierSets_ok (a0 : List Int) (a1 : List (Int × Int)) (a2 : List (Int × Int)) (r : Bool) (h : m_law36_FrontierSets a0 a1 a2 = some r) : Pure Try.prog 6 [(.row 1 c_int a0), (.row 2 c_A2_int a1), (.row 2 c_A2_int a2)] (.exact (.bool r)) := by
  unfold m_law36_FrontierSets at h
  refine Pure.ofFun (fun_of_awp Try.func6 rfl Try.ntmps6 (by simp) rfl (res1 rfl) fun E hE => k_end ?_)
  refine k_seq ?_
  refine k_reg .free hmixP (by kernel_rfl) ?_
  refine G_q rfl (op_assign (av := .exact (.bool false)) rfl ?_)
  refine G_nil ?_
  refine kC_normal ?_
  refine k_seq ?_
  refine k_reg .free hmixP (by kernel_rfl) ?_
  refine G_q rfl (op_move (av := .row 1 c_int a0) rfl ?_)
  obtain ⟨y1, hy1, h⟩ := bnd1_some h
  refine G_l rfl (op_fun_0_1_1 (m_gen2_New_ok _ _ hy1) Try.func10 (by kernel_rfl) (LEs.cons (AV.le_eq rfl) LEs.nil) (fun b2 => ?_))
  refine G_q rfl (op_assign (av := pA b2 0) rfl ?_)
  refine G_nil ?_
  refine kC_normal ?_
  refine k_join0_0 h ((AF.put (AF.put AF0 (some 1) (.row 2 c_A2_int a1)) (some 2) (.row 2 c_A2_int a2))) ([]) (fun k3 h => ?_) (fun  h => ?_)
  · refine k_seq ?_
    refine k_reg .free hmixP (by kernel_rfl) ?_
    refine G_q rfl (op_assign (av := .exact (.int .i64 0)) rfl ?_)
    refine G_nil ?_
    refine kC_normal ?_
    refine k_block ?_
    refine k_loop3_0 (m_law36_FrontierSets_L2 k3) (m_law36_FrontierSets_B2 k3) (fun _ _ _ => rfl) (fun m _ _ _ => rfl) h (fun (x7_0_l2 : List Int) (x7_1_l2 : Int) (x8_l2 : Int) => (AF.put (AF.put (AF.put (AF.put AF0 (some 1) (.row 2 c_A2_int a1)) (some 2) (.row 2 c_A2_int a2)) (some 7) (pA b2 0)) (some 8) (.exact (.int .i64 x8_l2)))) (fun (x7_0_l2 : List Int) (x7_1_l2 : Int) (x8_l2 : Int) => [boxI 71 b2 [.row 1 c_int x7_0_l2, .exact (.int .i64 x7_1_l2)]]) ?_ (fun rec2 x7_0_l2 x7_1_l2 x8_l2 h => ?_)
    · exact Sub.of_le (AF.le_put (AV.le_eq rfl) (AF.le_put (AV.le_eq rfl) (AF.le_put (AV.le_eq rfl) (AF.le_put (AV.le_eq rfl) (AF.le_top _)))))
    · unfold m_law36_FrontierSets_B2 at h
      refine k_seq ?_
      refine k_seq ?_
      refine k_reg .free hmixP (by kernel_rfl) ?_
      refine G_q rfl (op_move (av := .exact (.int .i64 x8_l2)) rfl ?_)
      refine G_q rfl (op_lss rfl rfl ?_)
      refine G_nil ?_
      refine kC_normal ?_
      refine k_cond_d (p := x8_l2 < 5) rfl (fun hc => ?_) (fun hc => ?_)
      · replace h := ite_t h hc
        refine k_skip ?_
        refine kC_normal ?_
        refine k_seq ?_
        refine k_block ?_
        refine k_seq ?_
        refine k_reg .free hmixP (by kernel_rfl) ?_
        refine G_q rfl (op_move (av := pA b2 0) rfl ?_)
        obtain ⟨y242, hy242, h⟩ := bnd1_some h
        refine G_l rfl (op_fun_1_1_2 (m_law36_run_ok _ _ _ hy242) Try.func12 (by kernel_rfl) (LEs.cons (AV.le_eq rfl) (LEs.cons (AV.le_eq rfl) LEs.nil)) (fun v243 => ?_))
        refine G_q rfl (op_move (av := pA b2 0) rfl ?_)
        obtain ⟨y244, hy244, h⟩ := bnd1_some h
        refine G_l rfl (opB_f1 (op_fun_1_1_2 (m_law36_run_ok _ _ _ hy244) Try.func12 (by kernel_rfl) (LEs.cons (AV.le_eq rfl) (LEs.cons (AV.le_eq rfl) LEs.nil)) (fun v245 => ?_)))
        refine G_q rfl (op_assign (av := .exact v243) rfl ?_)
        refine G_q rfl (op_assign (av := .exact v245) rfl ?_)
        refine G_nil ?_
        refine kC_normal ?_
        refine k_join3_0 h (fun (x7_0_j246 : List Int) (x7_1_j246 : Int) (x47_j246 : Bool) => (AF.put (AF.put (AF.put (AF.put (AF.put AF0 (some 1) (.row 2 c_A2_int a1)) (some 2) (.row 2 c_A2_int a2)) (some 7) (pA b2 0)) (some 8) (.exact (.int .i64 x8_l2))) (some 47) (.exact (.bool x47_j246)))) (fun (x7_0_j246 : List Int) (x7_1_j246 : Int) (x47_j246 : Bool) => [boxI 71 b2 [.row 1 c_int x7_0_j246, .exact (.int .i64 x7_1_j246)]]) (fun k246 h => ?_) (fun x7_0_j246 x7_1_j246 x47_j246 h => ?_)
        · refine k_reg .free hmixP (by kernel_rfl) ?_
          refine G_q rfl (op_move (av := .exact v243) rfl ?_)
          refine G_q rfl (op_move (av := .exact v245) rfl ?_)
          refine G_sub rfl (SubU.freezeT3 (s1 := 10) (s2 := 20) (s3 := 22) rfl rfl rfl len_c_A2_int) ?_
          obtain ⟨y255, hy255, h⟩ := bnd1_some h
          refine G_r rfl (op_borrow (m_law36_combines_ok _ _ _ hy255) Try.func28 (by kernel_rfl) MI.exact (Bors.cons (Bor.vec (List.Mem.tail _ (List.Mem.head _)) len_c_A2_int) (Bors.cons (Bor.le (AV.le_eq rfl)) Bors.nil)) ?_)
          refine G_q rfl (op_not rfl ?_)
          refine G_q rfl (op_move (av := .exact (.bool (!y255))) rfl ?_)
          refine G_splitB (c := !y255) 25 rfl (fun hc => ?_) (fun hc => ?_)
          · replace h := ite_t h hc
            refine G_n rfl rfl ?_
            refine G_n rfl rfl ?_
            refine G_n rfl rfl ?_
            refine G_n rfl rfl ?_
            refine G_n rfl rfl ?_
            refine G_q rfl (op_pick_t rfl (av := .exact (.bool true)) rfl ?_)
            refine G_q rfl (op_move (av := .exact (.bool true)) rfl ?_)
            refine G_n rfl rfl ?_
            refine G_n rfl rfl ?_
            refine G_n rfl rfl ?_
            refine G_n rfl rfl ?_
            refine G_n rfl rfl ?_
            refine G_q rfl (op_pick_t rfl (av := .exact (.bool true)) rfl ?_)
            refine G_q rfl (op_move (av := .exact (.bool true)) rfl ?_)
            refine G_n rfl rfl ?_
            refine G_n rfl rfl ?_
            refine G_n rfl rfl ?_
            refine G_n rfl rfl ?_
            refine G_n rfl rfl ?_
            refine G_n rfl rfl ?_
            refine G_n rfl rfl ?_
            refine G_q rfl (op_pick_t rfl (av := .exact (.bool true)) rfl ?_)
            refine G_nil ?_
            refine kI_normal ⟨_, _, _, h, ?_⟩
            refine Sub.trans (SubU.to SubU.f1) ?_
            refine Sub.trans (SubU.to SubU.drop) ?_
            exact Sub.of_le (AF.le_put (AV.le_eq rfl) (AF.le_put (AV.le_eq rfl) (AF.le_put (AV.le_eq rfl) (AF.le_put (AV.le_eq rfl) (AF.le_put (AV.le_eq rfl) (AF.le_top _))))))
          · replace h := ite_f h hc
            refine Gy_q rfl rfl rfl (op_move (av := pA b2 0) rfl ?_)
            obtain ⟨y256, hy256, h⟩ := bnd1_some h
            refine Gy_l rfl rfl rfl (op_fun_1_0_1 (m_law36_pairs_ok _ _ _ hy256) Try.func13 (by kernel_rfl) (LEs.cons (AV.le_eq rfl) (LEs.cons (AV.le_eq rfl) LEs.nil)) ?_)
            refine Gy_q rfl rfl rfl (op_move (av := .row 2 c_A2_int y244.1) rfl ?_)
            obtain ⟨y257, hy257, h⟩ := bnd1_some h
            refine Gy_q rfl rfl rfl (op_pure (m_law36_combines_ok _ _ _ hy257) Try.func28 (by kernel_rfl) (LEs.cons (AV.le_eq rfl) (LEs.cons (AV.le_eq rfl) LEs.nil)) ?_)
            refine Gy_q rfl rfl rfl (op_not rfl ?_)
            refine G_q rfl (op_pick_f rfl (av := .exact (.bool (!y257))) rfl ?_)
            refine G_q rfl (op_move (av := .exact (.bool (!y257))) rfl ?_)
            refine G_splitB (c := !y257) 32 rfl (fun hc => ?_) (fun hc => ?_)
            · replace h := ite_t h hc
              refine G_n rfl rfl ?_
              refine G_n rfl rfl ?_
              refine G_n rfl rfl ?_
              refine G_n rfl rfl ?_
              refine G_n rfl rfl ?_
              refine G_q rfl (op_pick_t rfl (av := .exact (.bool true)) rfl ?_)
              refine G_q rfl (op_move (av := .exact (.bool true)) rfl ?_)
              refine G_n rfl rfl ?_
              refine G_n rfl rfl ?_
              refine G_n rfl rfl ?_
              refine G_n rfl rfl ?_
              refine G_n rfl rfl ?_
              refine G_n rfl rfl ?_
              refine G_n rfl rfl ?_
              refine G_q rfl (op_pick_t rfl (av := .exact (.bool true)) rfl ?_)
              refine G_nil ?_
              refine kI_normal ⟨_, _, _, h, ?_⟩
              refine Sub.trans (SubU.to SubU.f1) ?_
              refine Sub.trans (SubU.to SubU.drop) ?_
              exact Sub.of_le (AF.le_put (AV.le_eq rfl) (AF.le_put (AV.le_eq rfl) (AF.le_put (AV.le_eq rfl) (AF.le_put (AV.le_eq rfl) (AF.le_put (AV.le_eq rfl) (AF.le_top _))))))
            · replace h := ite_f h hc
              refine Gy_q rfl rfl rfl (op_move (av := .exact v243) rfl ?_)
              refine Gy_q rfl rfl rfl (op_move (av := pA b2 0) rfl ?_)
              obtain ⟨y258, hy258, h⟩ := bnd1_some h
              refine Gy_l rfl rfl rfl (op_fun_1_0_1 (m_law36_pairs_ok _ _ _ hy258) Try.func13 (by kernel_rfl) (LEs.cons (AV.le_eq rfl) (LEs.cons (AV.le_eq rfl) LEs.nil)) ?_)
              obtain ⟨y259, hy259, h⟩ := bnd1_some h
              refine Gy_r rfl rfl rfl (op_borrow (m_law36_combines_ok _ _ _ hy259) Try.func28 (by kernel_rfl) MI.exact (Bors.cons (Bor.vec (List.Mem.tail _ (List.Mem.head _)) len_c_A2_int) (Bors.cons (Bor.le (AV.le_eq rfl)) Bors.nil)) ?_)
              refine Gy_q rfl rfl rfl (op_not rfl ?_)
              refine G_q rfl (op_pick_f rfl (av := .exact (.bool (!y259))) rfl ?_)
              refine G_q rfl (op_move (av := .exact (.bool (!y259))) rfl ?_)
              refine G_splitB (c := !y259) 39 rfl (fun hc => ?_) (fun hc => ?_)
              · replace h := ite_t h hc
                refine G_n rfl rfl ?_
                refine G_n rfl rfl ?_
                refine G_n rfl rfl ?_
                refine G_n rfl rfl ?_
                refine G_n rfl rfl ?_
                refine G_n rfl rfl ?_
                refine G_n rfl rfl ?_
                refine G_q rfl (op_pick_t rfl (av := .exact (.bool true)) rfl ?_)
                refine G_nil ?_
                refine kI_normal ⟨_, _, _, h, ?_⟩
                refine Sub.trans (SubU.to SubU.f1) ?_
                refine Sub.trans (SubU.to SubU.drop) ?_
                exact Sub.of_le (AF.le_put (AV.le_eq rfl) (AF.le_put (AV.le_eq rfl) (AF.le_put (AV.le_eq rfl) (AF.le_put (AV.le_eq rfl) (AF.le_put (AV.le_eq rfl) (AF.le_top _))))))
              · replace h := ite_f h hc
                refine Gy_q rfl rfl rfl (op_move (av := .exact v243) rfl ?_)
                refine Gy_q rfl rfl rfl (op_bld (c' := c_A2_int ((-1), 2)) (CellsAll.cons rfl CellsOf.int (CellsAll.cons rfl CellsOf.int CellsAll.nil)) rfl (LEs.cons (AV.le_eq rfl) (LEs.cons (AV.le_eq rfl) LEs.nil)) ?_)
                refine Gy_q rfl rfl rfl (op_litT (n := 2) (enc := c_A2_int) [((-1), 2)] (CellsAll.cons rfl CellsOf.agg CellsAll.nil) rfl (by kernel_rfl) (LEss.cons (LEs.cons (AV.le_eq rfl) (LEs.cons (AV.le_eq rfl) LEs.nil)) LEss.nil) ?_)
                obtain ⟨n260, h⟩ := need_some h
                refine Gy_l rfl rfl rfl (opB_f1 (op_appT (by kernel_rfl) rfl rfl oc_c_A2_int n260 (fun v261 => ?_)))
                refine Gy_q rfl rfl rfl (op_move (av := .row 2 c_A2_int y244.1) rfl ?_)
                refine G_sub rfl (SubU.freezeT (s := 43) rfl len_c_A2_int) ?_
                obtain ⟨y262, hy262, h⟩ := bnd1_some h
                refine Gy_q rfl rfl rfl (op_pure (m_law36_combines_ok _ _ _ hy262) Try.func28 (by kernel_rfl) (LEs.cons (AV.le_eq rfl) (LEs.cons (AV.le_eq rfl) LEs.nil)) ?_)
                refine Gy_q rfl rfl rfl (op_not rfl ?_)
                refine G_q rfl (op_pick_f rfl (av := .exact (.bool (!y262))) rfl ?_)
                refine G_nil ?_
                refine kI_normal ⟨_, _, _, h, ?_⟩
                exact Sub.of_le (AF.le_put (AV.le_eq rfl) (AF.le_put (AV.le_eq rfl) (AF.le_put (AV.le_eq rfl) (AF.le_put (AV.le_eq rfl) (AF.le_put (AV.le_eq rfl) (AF.le_top _))))))
        · refine k_cond_b (c := x47_j246) rfl (fun hc => ?_) (fun hc => ?_)
          · replace h := ite_t h hc
            refine k_seq ?_
            refine k_reg .free hmixP (by kernel_rfl) ?_
            refine G_q rfl (op_assign (av := .exact (.bool false)) rfl ?_)
            refine G_nil ?_
            refine kC_normal ?_
            refine k_ret ?_
            refine kB_ret ?_
            refine kC_ret ?_
            refine kI_ret ?_
            refine kB_ret ?_
            refine kI_ret ?_
            obtain rfl := Option.some.inj h
            refine kP_any (endN (af' := (AF.put AF0 (some 6) (.exact (.bool false)))) (σ' := []) _ rfl ?_ ⟨rfl, rfl⟩)
            refine Sub.trans (SubU.to SubU.drop) ?_
            exact Sub.of_le (AF.le_put (AV.le_eq rfl) (AF.le_top _))
          · replace h := ite_f h hc
            refine k_skip ?_
            refine kB_normal ?_
            refine kC_normal ?_
            refine k_reg .free hmixP (by kernel_rfl) ?_
            refine G_q rfl (op_move (av := .exact (.int .i64 x8_l2)) rfl ?_)
            refine G_q rfl (op_add rfl rfl rfl ?_)
            refine G_q rfl (op_assign (av := .exact (.int .i64 (i64 (x8_l2 + 1)))) rfl ?_)
            refine G_nil ?_
            refine kI_normal ⟨_, _, _, h, ?_⟩
            exact Sub.of_le (AF.le_put (AV.le_eq rfl) (AF.le_put (AV.le_eq rfl) (AF.le_put (AV.le_eq rfl) (AF.le_put (AV.le_eq rfl) (AF.le_top _)))))
      · replace h := ite_f h hc
        refine k_exit ?_
        refine kC_exit ?_
        refine kI_exit ?_
        refine kB_exit ?_
        refine kI_normal ⟨h, ?_⟩
        refine Sub.trans (SubU.to SubU.drop) ?_
        exact Sub.of_le (AF.le_put (AV.le_eq rfl) (AF.le_put (AV.le_eq rfl) (AF.le_top _)))
  · refine k_join1_0 h (fun (x6_j263 : Bool) => (AF.put AF0 (some 6) (.exact (.bool x6_j263)))) (fun (x6_j263 : Bool) => []) (fun k263 h => ?_) (fun x6_j263 h => ?_)
    · refine k_reg .free hmixP (by kernel_rfl) ?_
      refine G_q rfl (op_move (av := .row 2 c_A2_int a1) rfl ?_)
      refine G_q rfl (op_len_row (by kernel_rfl) rfl ?_)
      refine G_q rfl (op_gtr rfl rfl ?_)
      refine G_q rfl (op_move (av := .exact (.bool (decide (60 < (List.length a1 : Int))))) rfl ?_)
      refine G_split (p := 60 < (List.length a1 : Int)) 51 rfl (fun hc => ?_) (fun hc => ?_)
      · replace h := ite_t h hc
        refine G_n rfl rfl ?_
        refine G_n rfl rfl ?_
        refine G_n rfl rfl ?_
        refine G_q rfl (op_pick_t rfl (av := .exact (.bool true)) rfl ?_)
        refine G_q rfl (op_move (av := .exact (.bool true)) rfl ?_)
        refine G_n rfl rfl ?_
        refine G_n rfl rfl ?_
        refine G_n rfl rfl ?_
        refine G_n rfl rfl ?_
        refine G_u rfl rfl ?_
        refine G_n rfl rfl ?_
        refine G_q rfl (op_pick_t rfl (av := .exact (.bool true)) rfl ?_)
        refine G_q rfl (op_assign (av := .exact (.bool true)) rfl ?_)
        refine G_nil ?_
        refine kI_normal ⟨_, h, ?_⟩
        exact Sub.of_le (AF.le_put (AV.le_eq rfl) (AF.le_top _))
      · replace h := ite_f h hc
        refine Gy_q rfl rfl rfl (op_move (av := .row 2 c_A2_int a2) rfl ?_)
        refine Gy_q rfl rfl rfl (op_len_row (by kernel_rfl) rfl ?_)
        refine Gy_q rfl rfl rfl (op_gtr rfl rfl ?_)
        refine G_q rfl (op_pick_f rfl (av := .exact (.bool (decide (60 < (List.length a2 : Int))))) rfl ?_)
        refine G_q rfl (op_move (av := .exact (.bool (decide (60 < (List.length a2 : Int))))) rfl ?_)
        refine G_split (p := 60 < (List.length a2 : Int)) 56 rfl (fun hc => ?_) (fun hc => ?_)
        · replace h := ite_t h hc
          refine G_n rfl rfl ?_
          refine G_n rfl rfl ?_
          refine G_n rfl rfl ?_
          refine G_n rfl rfl ?_
          refine G_u rfl rfl ?_
          refine G_n rfl rfl ?_
          refine G_q rfl (op_pick_t rfl (av := .exact (.bool true)) rfl ?_)
          refine G_q rfl (op_assign (av := .exact (.bool true)) rfl ?_)
          refine G_nil ?_
          refine kI_normal ⟨_, h, ?_⟩
          exact Sub.of_le (AF.le_put (AV.le_eq rfl) (AF.le_top _))
        · replace h := ite_f h hc
          refine Gy_q rfl rfl rfl (op_move (av := .row 2 c_A2_int a1) rfl ?_)
          refine Gy_q rfl rfl rfl (op_move (av := .row 2 c_A2_int a2) rfl ?_)
          obtain ⟨y266, hy266, h⟩ := bnd1_some h
          refine Gy_q rfl rfl rfl (op_pure (m_law36_combines_ok _ _ _ hy266) Try.func28 (by kernel_rfl) (LEs.cons (AV.le_eq rfl) (LEs.cons (AV.le_eq rfl) LEs.nil)) ?_)
          refine Gy_q rfl rfl rfl (op_move (av := .exact (.bool y266)) rfl ?_)
          refine G_splitB (c := y266) 60 rfl (fun hc => ?_) (fun hc => ?_)
          · replace h := ite_t h hc
            obtain ⟨y267, hy267, h⟩ := bnd1_some h
            refine Gy_q rfl rfl rfl (op_pure (m_law36_sane_ok _ hy267) Try.func15 (by kernel_rfl) LEs.nil ?_)
            refine Gy_q rfl rfl rfl (op_pick_t rfl (av := .exact (.bool y267)) rfl ?_)
            refine G_q rfl (op_pick_f rfl (av := .exact (.bool y267)) rfl ?_)
            refine G_q rfl (op_assign (av := .exact (.bool y267)) rfl ?_)
            refine G_nil ?_
            refine kI_normal ⟨_, h, ?_⟩
            exact Sub.of_le (AF.le_put (AV.le_eq rfl) (AF.le_top _))
          · replace h := ite_f h hc
            refine G_n rfl rfl ?_
            refine Gy_q rfl rfl rfl (op_pick_f rfl (av := .exact (.bool false)) rfl ?_)
            refine G_q rfl (op_pick_f rfl (av := .exact (.bool false)) rfl ?_)
            refine G_q rfl (op_assign (av := .exact (.bool false)) rfl ?_)
            refine G_nil ?_
            refine kI_normal ⟨_, h, ?_⟩
            exact Sub.of_le (AF.le_put (AV.le_eq rfl) (AF.le_top _))
    · refine k_ret ?_
      obtain rfl := Option.some.inj h
      refine kP_any (endN (af' := (AF.put AF0 (some 6) (.exact (.bool x6_j263)))) (σ' := []) _ rfl ?_ ⟨rfl, rfl⟩)
      exact Sub.of_le (AF.le_put (AV.le_eq rfl) (AF.le_top _))
set_option maxHeartbeats 4000000 in
theorem m_law36_FrontierAlgebra_ok (a0 : List Int) (r : Bool) (h : m_law36_FrontierAlgebra a0 = some r) : Pure Try.prog 7 [(.row 1 c_int a0)] (.exact (.bool r)) := by
  unfold m_law36_FrontierAlgebra at h
  refine Pure.ofFun (fun_of_awp Try.func7 rfl Try.ntmps7 (by simp) rfl (res1 rfl) fun E hE => k_end ?_)
  refine k_seq ?_
  refine k_reg .free hmixP (by kernel_rfl) ?_
  refine G_q rfl (op_assign (av := .exact (.bool false)) rfl ?_)
  refine G_nil ?_
  refine kC_normal ?_
  refine k_seq ?_
  refine k_reg .free hmixP (by kernel_rfl) ?_
  refine G_q rfl (op_move (av := .row 1 c_int a0) rfl ?_)
  obtain ⟨y1, hy1, h⟩ := bnd1_some h
  refine G_l rfl (op_fun_0_1_1 (m_gen2_New_ok _ _ hy1) Try.func10 (by kernel_rfl) (LEs.cons (AV.le_eq rfl) LEs.nil) (fun b2 => ?_))
  refine G_q rfl (op_assign (av := pA b2 0) rfl ?_)
  refine G_nil ?_
  refine kC_normal ?_
  refine k_seq ?_
  refine k_reg .free hmixP (by kernel_rfl) ?_
  refine G_q rfl (op_move (av := pA b2 0) rfl ?_)
  obtain ⟨y3, hy3, h⟩ := bnd1_some h
  refine G_l rfl (op_fun_1_1_2 (m_law36_run_ok _ _ _ hy3) Try.func12 (by kernel_rfl) (LEs.cons (AV.le_eq rfl) (LEs.cons (AV.le_eq rfl) LEs.nil)) (fun v4 => ?_))
  refine G_q rfl (op_move (av := pA b2 0) rfl ?_)
  obtain ⟨y5, hy5, h⟩ := bnd1_some h
  refine G_l rfl (opB_f1 (op_fun_1_1_2 (m_law36_run_ok _ _ _ hy5) Try.func12 (by kernel_rfl) (LEs.cons (AV.le_eq rfl) (LEs.cons (AV.le_eq rfl) LEs.nil)) (fun v6 => ?_)))
  refine G_q rfl (op_assign (av := .exact v4) rfl ?_)
  refine G_q rfl (op_assign (av := .exact v6) rfl ?_)
  refine G_nil ?_
  refine kC_normal ?_
  refine k_seq ?_
  refine k_reg .free hmixP (by kernel_rfl) ?_
  refine G_q rfl (op_move (av := .exact v4) rfl ?_)
  refine G_q rfl (op_move (av := .exact v6) rfl ?_)
  refine G_sub rfl (SubU.trans SubU.f2 (SubU.freezeT3 (s1 := 4) (s2 := 11) (s3 := 14) rfl rfl rfl len_c_A2_int)) ?_
  refine G_sub rfl (SubU.freezeT3 (s1 := 5) (s2 := 13) (s3 := 15) rfl rfl rfl len_c_A2_int) ?_
  obtain ⟨y7, hy7, h⟩ := bnd1_some h
  refine G_q rfl (op_pure (m_frontier_Merge_ok _ _ _ hy7) Try.func29 (by kernel_rfl) (LEs.cons (AV.le_eq rfl) (LEs.cons (AV.le_eq rfl) LEs.nil)) ?_)
  refine G_q rfl (op_assign (av := .row 2 c_A2_int y7) rfl ?_)
  refine G_nil ?_
  refine kC_normal ?_
  refine k_seq ?_
  refine k_reg .free hmixP (by kernel_rfl) ?_
  refine G_q rfl (op_move (av := .row 2 c_A2_int y3.1) rfl ?_)
  refine G_q rfl (op_move (av := .row 2 c_A2_int y5.1) rfl ?_)
  obtain ⟨y8, hy8, h⟩ := bnd1_some h
  refine G_q rfl (op_pure (m_frontier_Subtract_ok _ _ _ hy8) Try.func30 (by kernel_rfl) (LEs.cons (AV.le_eq rfl) (LEs.cons (AV.le_eq rfl) LEs.nil)) ?_)
  refine G_q rfl (op_assign (av := .row 2 c_A2_int y8) rfl ?_)
  refine G_nil ?_
  refine kC_normal ?_
  refine k_join1_0 h (fun (x2_j9 : Bool) => (AF.put AF0 (some 2) (.exact (.bool x2_j9)))) (fun (x2_j9 : Bool) => []) (fun k9 h => ?_) (fun x2_j9 h => ?_)
  · refine k_reg .free hmixP (by kernel_rfl) ?_
    refine G_q rfl (op_move (av := .row 2 c_A2_int y7) rfl ?_)
    refine G_q rfl (op_move (av := .row 2 c_A2_int y5.1) rfl ?_)
    refine G_q rfl (op_move (av := .row 2 c_A2_int y3.1) rfl ?_)
    obtain ⟨y25, hy25, h⟩ := bnd1_some h
    refine G_q rfl (op_pure (m_frontier_Merge_ok _ _ _ hy25) Try.func29 (by kernel_rfl) (LEs.cons (AV.le_eq rfl) (LEs.cons (AV.le_eq rfl) LEs.nil)) ?_)
    obtain ⟨y26, hy26, h⟩ := bnd1_some h
    refine G_q rfl (op_pure (m_law36_same_ok _ _ _ hy26) Try.func25 (by kernel_rfl) (LEs.cons (AV.le_eq rfl) (LEs.cons (AV.le_eq rfl) LEs.nil)) ?_)
    refine G_q rfl (op_move (av := .exact (.bool y26)) rfl ?_)
    refine G_splitB (c := y26) 25 rfl (fun hc => ?_) (fun hc => ?_)
    · replace h := ite_t h hc
      refine Gy_q rfl rfl rfl (op_move (av := .row 2 c_A2_int y7) rfl ?_)
      refine Gy_q rfl rfl rfl (op_move (av := .row 2 c_A2_int y5.1) rfl ?_)
      obtain ⟨y27, hy27, h⟩ := bnd1_some h
      refine Gy_q rfl rfl rfl (op_pure (m_frontier_Subtract_ok _ _ _ hy27) Try.func30 (by kernel_rfl) (LEs.cons (AV.le_eq rfl) (LEs.cons (AV.le_eq rfl) LEs.nil)) ?_)
      refine Gy_q rfl rfl rfl (op_move (av := .row 2 c_A2_int y8) rfl ?_)
      obtain ⟨y28, hy28, h⟩ := bnd1_some h
      refine Gy_q rfl rfl rfl (op_pure (m_law36_same_ok _ _ _ hy28) Try.func25 (by kernel_rfl) (LEs.cons (AV.le_eq rfl) (LEs.cons (AV.le_eq rfl) LEs.nil)) ?_)
      refine G_q rfl (op_pick_t rfl (av := .exact (.bool y28)) rfl ?_)
      refine G_q rfl (op_move (av := .exact (.bool y28)) rfl ?_)
      refine G_splitB (c := y28) 32 rfl (fun hc => ?_) (fun hc => ?_)
      · replace h := ite_t h hc
        refine Gy_q rfl rfl rfl (op_move (av := .row 2 c_A2_int y8) rfl ?_)
        refine Gy_q rfl rfl rfl (op_move (av := .row 2 c_A2_int y5.1) rfl ?_)
        obtain ⟨y29, hy29, h⟩ := bnd1_some h
        refine Gy_q rfl rfl rfl (op_pure (m_frontier_Merge_ok _ _ _ hy29) Try.func29 (by kernel_rfl) (LEs.cons (AV.le_eq rfl) (LEs.cons (AV.le_eq rfl) LEs.nil)) ?_)
        refine Gy_q rfl rfl rfl (op_move (av := .row 2 c_A2_int y7) rfl ?_)
        obtain ⟨y30, hy30, h⟩ := bnd1_some h
        refine Gy_q rfl rfl rfl (op_pure (m_law36_same_ok _ _ _ hy30) Try.func25 (by kernel_rfl) (LEs.cons (AV.le_eq rfl) (LEs.cons (AV.le_eq rfl) LEs.nil)) ?_)
        refine G_q rfl (op_pick_t rfl (av := .exact (.bool y30)) rfl ?_)
        refine G_q rfl (op_move (av := .exact (.bool y30)) rfl ?_)
        refine G_splitB (c := y30) 39 rfl (fun hc => ?_) (fun hc => ?_)
        · replace h := ite_t h hc
          refine Gy_l rfl rfl rfl (op_lit0I (enc := c_A2_int) (n := 2) (by kernel_rfl) (fun v31 => ?_))
          refine Gy_q rfl rfl rfl (op_move (av := .row 2 c_A2_int y5.1) rfl ?_)
          obtain ⟨n32, h⟩ := need_some h
          refine Gy_l rfl rfl rfl (op_appT (by kernel_rfl) rfl rfl oc_c_A2_int n32 (fun v33 => ?_))
          refine Gy_q rfl rfl rfl (op_move (av := .row 2 c_A2_int y3.1) rfl ?_)
          obtain ⟨n34, h⟩ := need_some h
          refine Gy_l rfl rfl rfl (op_appT (by kernel_rfl) rfl rfl oc_c_A2_int n34 (fun v35 => ?_))
          refine G_sub rfl (SubU.freezeT (s := 44) rfl len_c_A2_int) ?_
          obtain ⟨y36, hy36, h⟩ := bnd1_some h
          refine Gy_q rfl rfl rfl (op_pure (m_frontier_Sorted_ok _ _ hy36) Try.func31 (by kernel_rfl) (LEs.cons (AV.le_eq rfl) LEs.nil) ?_)
          refine Gy_q rfl rfl rfl (op_move (av := .row 2 c_A2_int y7) rfl ?_)
          obtain ⟨y37, hy37, h⟩ := bnd1_some h
          refine Gy_q rfl rfl rfl (op_pure (m_law36_same_ok _ _ _ hy37) Try.func25 (by kernel_rfl) (LEs.cons (AV.le_eq rfl) (LEs.cons (AV.le_eq rfl) LEs.nil)) ?_)
          refine G_q rfl (op_pick_t rfl (av := .exact (.bool y37)) rfl ?_)
          refine G_q rfl (op_move (av := .exact (.bool y37)) rfl ?_)
          refine G_splitB (c := y37) 49 rfl (fun hc => ?_) (fun hc => ?_)
          · replace h := ite_t h hc
            refine Gy_q rfl rfl rfl (op_move (av := .row 2 c_A2_int y7) rfl ?_)
            refine Gy_q rfl rfl rfl (op_len_row (by kernel_rfl) rfl ?_)
            refine Gy_q rfl rfl rfl (op_move (av := .row 2 c_A2_int y8) rfl ?_)
            refine Gy_q rfl rfl rfl (op_len_row (by kernel_rfl) rfl ?_)
            refine Gy_q rfl rfl rfl (op_move (av := .row 2 c_A2_int y5.1) rfl ?_)
            refine Gy_q rfl rfl rfl (op_len_row (by kernel_rfl) rfl ?_)
            refine Gy_q rfl rfl rfl (op_add rfl rfl rfl ?_)
            refine Gy_q rfl rfl rfl (op_eql rfl rfl ?_)
            refine G_q rfl (op_pick_t rfl (av := .exact (.bool (decide ((List.length y7 : Int) = (i64 ((List.length y8 : Int) + (List.length y5.1 : Int))))))) rfl ?_)
            refine G_q rfl (op_move (av := .exact (.bool (decide ((List.length y7 : Int) = (i64 ((List.length y8 : Int) + (List.length y5.1 : Int))))))) rfl ?_)
            refine G_split (p := (List.length y7 : Int) = (i64 ((List.length y8 : Int) + (List.length y5.1 : Int)))) 59 rfl (fun hc => ?_) (fun hc => ?_)
            · replace h := ite_t h hc
              refine Gy_q rfl rfl rfl (op_move (av := .row 2 c_A2_int y3.1) rfl ?_)
              refine Gy_q rfl rfl rfl (op_move (av := .row 2 c_A2_int y3.1) rfl ?_)
              obtain ⟨y38, hy38, h⟩ := bnd1_some h
              refine Gy_q rfl rfl rfl (op_pure (m_frontier_Subtract_ok _ _ _ hy38) Try.func30 (by kernel_rfl) (LEs.cons (AV.le_eq rfl) (LEs.cons (AV.le_eq rfl) LEs.nil)) ?_)
              refine Gy_q rfl rfl rfl (op_len_row (by kernel_rfl) rfl ?_)
              refine Gy_q rfl rfl rfl (op_eql rfl rfl ?_)
              refine G_q rfl (op_pick_t rfl (av := .exact (.bool (decide ((List.length y38 : Int) = 0)))) rfl ?_)
              refine G_q rfl (op_move (av := .exact (.bool (decide ((List.length y38 : Int) = 0)))) rfl ?_)
              refine G_split (p := (List.length y38 : Int) = 0) 66 rfl (fun hc => ?_) (fun hc => ?_)
              · replace h := ite_t h hc
                obtain ⟨y39, hy39, h⟩ := bnd1_some h
                refine Gy_q rfl rfl rfl (op_pure (m_law36_sane_ok _ hy39) Try.func15 (by kernel_rfl) LEs.nil ?_)
                refine G_q rfl (op_pick_t rfl (av := .exact (.bool y39)) rfl ?_)
                refine G_q rfl (op_assign (av := .exact (.bool y39)) rfl ?_)
                refine G_nil ?_
                refine kI_normal ⟨_, h, ?_⟩
                refine Sub.trans (SubU.to SubU.drop) ?_
                exact Sub.of_le (AF.le_put (AV.le_eq rfl) (AF.le_top _))
              · replace h := ite_f h hc
                refine G_n rfl rfl ?_
                refine G_q rfl (op_pick_f rfl (av := .exact (.bool false)) rfl ?_)
                refine G_q rfl (op_assign (av := .exact (.bool false)) rfl ?_)
                refine G_nil ?_
                refine kI_normal ⟨_, h, ?_⟩
                refine Sub.trans (SubU.to SubU.drop) ?_
                exact Sub.of_le (AF.le_put (AV.le_eq rfl) (AF.le_top _))
            · replace h := ite_f h hc
              refine G_n rfl rfl ?_
              refine G_n rfl rfl ?_
              refine G_n rfl rfl ?_
              refine G_n rfl rfl ?_
              refine G_n rfl rfl ?_
              refine G_q rfl (op_pick_f rfl (av := .exact (.bool false)) rfl ?_)
              refine G_q rfl (op_move (av := .exact (.bool false)) rfl ?_)
              refine G_n rfl rfl ?_
              refine G_q rfl (op_pick_f rfl (av := .exact (.bool false)) rfl ?_)
              refine G_q rfl (op_assign (av := .exact (.bool false)) rfl ?_)
              refine G_nil ?_
              refine kI_normal ⟨_, h, ?_⟩
              refine Sub.trans (SubU.to SubU.drop) ?_
              exact Sub.of_le (AF.le_put (AV.le_eq rfl) (AF.le_top _))
          · replace h := ite_f h hc
            refine G_n rfl rfl ?_
            refine G_n rfl rfl ?_
            refine G_n rfl rfl ?_
            refine G_n rfl rfl ?_
            refine G_n rfl rfl ?_
            refine G_n rfl rfl ?_
            refine G_n rfl rfl ?_
            refine G_n rfl rfl ?_
            refine G_q rfl (op_pick_f rfl (av := .exact (.bool false)) rfl ?_)
            refine G_q rfl (op_move (av := .exact (.bool false)) rfl ?_)
            refine G_n rfl rfl ?_
            refine G_n rfl rfl ?_
            refine G_n rfl rfl ?_
            refine G_n rfl rfl ?_
            refine G_n rfl rfl ?_
            refine G_q rfl (op_pick_f rfl (av := .exact (.bool false)) rfl ?_)
            refine G_q rfl (op_move (av := .exact (.bool false)) rfl ?_)
            refine G_n rfl rfl ?_
            refine G_q rfl (op_pick_f rfl (av := .exact (.bool false)) rfl ?_)
            refine G_q rfl (op_assign (av := .exact (.bool false)) rfl ?_)
            refine G_nil ?_
            refine kI_normal ⟨_, h, ?_⟩
            refine Sub.trans (SubU.to SubU.drop) ?_
            exact Sub.of_le (AF.le_put (AV.le_eq rfl) (AF.le_top _))
        · replace h := ite_f h hc
          refine G_n rfl rfl ?_
          refine G_n rfl rfl ?_
          refine G_n rfl rfl ?_
          refine G_n rfl rfl ?_
          refine G_n rfl rfl ?_
          refine G_n rfl rfl ?_
          refine G_n rfl rfl ?_
          refine G_n rfl rfl ?_
          refine G_q rfl (op_pick_f rfl (av := .exact (.bool false)) rfl ?_)
          refine G_q rfl (op_move (av := .exact (.bool false)) rfl ?_)
          refine G_n rfl rfl ?_
          refine G_n rfl rfl ?_
          refine G_n rfl rfl ?_
          refine G_n rfl rfl ?_
          refine G_n rfl rfl ?_
          refine G_n rfl rfl ?_
          refine G_n rfl rfl ?_
          refine G_n rfl rfl ?_
          refine G_q rfl (op_pick_f rfl (av := .exact (.bool false)) rfl ?_)
          refine G_q rfl (op_move (av := .exact (.bool false)) rfl ?_)
          refine G_n rfl rfl ?_
          refine G_n rfl rfl ?_
          refine G_n rfl rfl ?_
          refine G_n rfl rfl ?_
          refine G_n rfl rfl ?_
          refine G_q rfl (op_pick_f rfl (av := .exact (.bool false)) rfl ?_)
          refine G_q rfl (op_move (av := .exact (.bool false)) rfl ?_)
          refine G_n rfl rfl ?_
          refine G_q rfl (op_pick_f rfl (av := .exact (.bool false)) rfl ?_)
          refine G_q rfl (op_assign (av := .exact (.bool false)) rfl ?_)
          refine G_nil ?_
          refine kI_normal ⟨_, h, ?_⟩
          refine Sub.trans (SubU.to SubU.drop) ?_
          exact Sub.of_le (AF.le_put (AV.le_eq rfl) (AF.le_top _))
      · replace h := ite_f h hc
        refine G_n rfl rfl ?_
        refine G_n rfl rfl ?_
        refine G_n rfl rfl ?_
        refine G_n rfl rfl ?_
        refine G_n rfl rfl ?_
        refine G_q rfl (op_pick_f rfl (av := .exact (.bool false)) rfl ?_)
        refine G_q rfl (op_move (av := .exact (.bool false)) rfl ?_)
        refine G_n rfl rfl ?_
        refine G_n rfl rfl ?_
        refine G_n rfl rfl ?_
        refine G_n rfl rfl ?_
        refine G_n rfl rfl ?_
        refine G_n rfl rfl ?_
        refine G_n rfl rfl ?_
        refine G_n rfl rfl ?_
        refine G_q rfl (op_pick_f rfl (av := .exact (.bool false)) rfl ?_)
        refine G_q rfl (op_move (av := .exact (.bool false)) rfl ?_)
        refine G_n rfl rfl ?_
        refine G_n rfl rfl ?_
        refine G_n rfl rfl ?_
        refine G_n rfl rfl ?_
        refine G_n rfl rfl ?_
        refine G_n rfl rfl ?_
        refine G_n rfl rfl ?_
        refine G_n rfl rfl ?_
        refine G_q rfl (op_pick_f rfl (av := .exact (.bool false)) rfl ?_)
        refine G_q rfl (op_move (av := .exact (.bool false)) rfl ?_)
        refine G_n rfl rfl ?_
        refine G_n rfl rfl ?_
        refine G_n rfl rfl ?_
        refine G_n rfl rfl ?_
        refine G_n rfl rfl ?_
        refine G_q rfl (op_pick_f rfl (av := .exact (.bool false)) rfl ?_)
        refine G_q rfl (op_move (av := .exact (.bool false)) rfl ?_)
        refine G_n rfl rfl ?_
        refine G_q rfl (op_pick_f rfl (av := .exact (.bool false)) rfl ?_)
        refine G_q rfl (op_assign (av := .exact (.bool false)) rfl ?_)
        refine G_nil ?_
        refine kI_normal ⟨_, h, ?_⟩
        refine Sub.trans (SubU.to SubU.drop) ?_
        exact Sub.of_le (AF.le_put (AV.le_eq rfl) (AF.le_top _))
    · replace h := ite_f h hc
      refine G_n rfl rfl ?_
      refine G_n rfl rfl ?_
      refine G_n rfl rfl ?_
      refine G_n rfl rfl ?_
      refine G_n rfl rfl ?_
      refine G_q rfl (op_pick_f rfl (av := .exact (.bool false)) rfl ?_)
      refine G_q rfl (op_move (av := .exact (.bool false)) rfl ?_)
      refine G_n rfl rfl ?_
      refine G_n rfl rfl ?_
      refine G_n rfl rfl ?_
      refine G_n rfl rfl ?_
      refine G_n rfl rfl ?_
      refine G_q rfl (op_pick_f rfl (av := .exact (.bool false)) rfl ?_)
      refine G_q rfl (op_move (av := .exact (.bool false)) rfl ?_)
      refine G_n rfl rfl ?_
      refine G_n rfl rfl ?_
      refine G_n rfl rfl ?_
      refine G_n rfl rfl ?_
      refine G_n rfl rfl ?_
      refine G_n rfl rfl ?_
      refine G_n rfl rfl ?_
      refine G_n rfl rfl ?_
      refine G_q rfl (op_pick_f rfl (av := .exact (.bool false)) rfl ?_)
      refine G_q rfl (op_move (av := .exact (.bool false)) rfl ?_)
      refine G_n rfl rfl ?_
      refine G_n rfl rfl ?_
      refine G_n rfl rfl ?_
      refine G_n rfl rfl ?_
      refine G_n rfl rfl ?_
      refine G_n rfl rfl ?_
      refine G_n rfl rfl ?_
      refine G_n rfl rfl ?_
      refine G_q rfl (op_pick_f rfl (av := .exact (.bool false)) rfl ?_)
      refine G_q rfl (op_move (av := .exact (.bool false)) rfl ?_)
      refine G_n rfl rfl ?_
      refine G_n rfl rfl ?_
      refine G_n rfl rfl ?_
      refine G_n rfl rfl ?_
      refine G_n rfl rfl ?_
      refine G_q rfl (op_pick_f rfl (av := .exact (.bool false)) rfl ?_)
      refine G_q rfl (op_move (av := .exact (.bool false)) rfl ?_)
      refine G_n rfl rfl ?_
      refine G_q rfl (op_pick_f rfl (av := .exact (.bool false)) rfl ?_)
      refine G_q rfl (op_assign (av := .exact (.bool false)) rfl ?_)
      refine G_nil ?_
      refine kI_normal ⟨_, h, ?_⟩
      refine Sub.trans (SubU.to SubU.drop) ?_
      exact Sub.of_le (AF.le_put (AV.le_eq rfl) (AF.le_top _))
  · refine k_ret ?_
    obtain rfl := Option.some.inj h
    refine kP_any (endN (af' := (AF.put AF0 (some 2) (.exact (.bool x2_j9)))) (σ' := []) _ rfl ?_ ⟨rfl, rfl⟩)
    exact Sub.of_le (AF.le_put (AV.le_eq rfl) (AF.le_top _))
end Go.Proofs.Ytkplmgdmkfgjhaa
