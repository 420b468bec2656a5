/- The functions compute their models, by program. -/
import Derived.Test.YtkplmgdmkfgjhaaP2
namespace Go.Proofs.Ytkplmgdmkfgjhaa
open Go.RowKit
attribute [local irreducible] AV.exact AV.top AV.row AV.ptr AV.agg AV.tup AV.eptr opA opB opM opR Quiet Loud Reads wpG awp den Sub SubU Pure Fun vecI vecT boxI CellsAll CellsOf OneC LEs LEss
set_option maxRecDepth 100000

set_option maxHeartbeats 4000000 in
theorem m_law36_decodes_ok (a0 : List UInt8) (a1 : Int) (r : Bool) (h : m_law36_decodes a0 a1 = some r) : Pure Try.prog 19 [(.row 1 c_uint8 a0), (.exact (.int .i64 a1))] (.exact (.bool r)) := by
  unfold m_law36_decodes at h
  refine Pure.ofFun (fun_of_awp Try.func19 rfl Try.ntmps19 (by simp) rfl (res1 rfl) fun E hE => k_end ?_)
  refine k_seq ?_
  refine k_reg .free hmixP (by kernel_rfl) ?_
  refine G_q rfl (op_assign (av := .exact (.bool false)) rfl ?_)
  refine G_nil ?_
  refine kC_normal ?_
  refine k_seq ?_
  refine k_reg .free hmixP (by kernel_rfl) ?_
  refine G_q rfl (op_move (av := .row 1 c_uint8 a0) rfl ?_)
  refine G_q rfl (op_move (av := .exact (.int .i64 a1)) rfl ?_)
  obtain ⟨y1, hy1, h⟩ := bnd1_some h
  refine G_q rfl (op_pure (m_frontier_DecodeBlock_ok _ _ _ hy1) Try.func45 (by kernel_rfl) (LEs.cons (AV.le_eq rfl) (LEs.cons (AV.le_eq rfl) LEs.nil)) ?_)
  refine G_q rfl (op_move (av := .tup [.row 2 c_A2_int y1.1, .exact (.int .i64 y1.2.1), .exact (.int .i64 y1.2.2)]) rfl ?_)
  refine G_q rfl (op_extract (av := .row 2 c_A2_int y1.1) rfl rfl ?_)
  refine G_q rfl (op_extract (av := .exact (.int .i64 y1.2.1)) rfl rfl ?_)
  refine G_q rfl (op_extract (av := .exact (.int .i64 y1.2.2)) rfl rfl ?_)
  refine G_q rfl (op_assign (av := .row 2 c_A2_int y1.1) rfl ?_)
  refine G_q rfl (op_assign (av := .exact (.int .i64 y1.2.1)) rfl ?_)
  refine G_q rfl (op_assign (av := .exact (.int .i64 y1.2.2)) rfl ?_)
  refine G_nil ?_
  refine kC_normal ?_
  refine k_seq ?_
  refine k_reg .free hmixP (by kernel_rfl) ?_
  refine G_q rfl (op_move (av := .row 1 c_uint8 a0) rfl ?_)
  refine G_q rfl (op_move (av := .exact (.int .i64 a1)) rfl ?_)
  obtain ⟨y2, hy2, h⟩ := bnd1_some h
  refine G_q rfl (op_pure (m_ref35_DecodeBlock_ok _ _ _ hy2) Try.func46 (by kernel_rfl) (LEs.cons (AV.le_eq rfl) (LEs.cons (AV.le_eq rfl) LEs.nil)) ?_)
  refine G_q rfl (op_move (av := .tup [.row 2 c_A2_int y2.1, .exact (.int .i64 y2.2.1), .exact (.int .i64 y2.2.2)]) rfl ?_)
  refine G_q rfl (op_extract (av := .row 2 c_A2_int y2.1) rfl rfl ?_)
  refine G_q rfl (op_extract (av := .exact (.int .i64 y2.2.1)) rfl rfl ?_)
  refine G_q rfl (op_extract (av := .exact (.int .i64 y2.2.2)) rfl rfl ?_)
  refine G_q rfl (op_assign (av := .row 2 c_A2_int y2.1) rfl ?_)
  refine G_q rfl (op_assign (av := .exact (.int .i64 y2.2.1)) rfl ?_)
  refine G_q rfl (op_assign (av := .exact (.int .i64 y2.2.2)) rfl ?_)
  refine G_nil ?_
  refine kC_normal ?_
  refine k_join1_0 h (fun (x4_j3 : Bool) => (AF.put AF0 (some 4) (.exact (.bool x4_j3)))) (fun (x4_j3 : Bool) => []) (fun k3 h => ?_) (fun x4_j3 h => ?_)
  · refine k_reg .free hmixP (by kernel_rfl) ?_
    refine G_q rfl (op_move (av := .exact (.int .i64 y1.2.2)) rfl ?_)
    refine G_q rfl (op_move (av := .exact (.int .i64 y2.2.2)) rfl ?_)
    refine G_q rfl (op_eql rfl rfl ?_)
    refine G_q rfl (op_move (av := .exact (.bool (decide (y1.2.2 = y2.2.2)))) rfl ?_)
    refine G_split (p := y1.2.2 = y2.2.2) 28 rfl (fun hc => ?_) (fun hc => ?_)
    · replace h := ite_t h hc
      refine Gy_q rfl rfl rfl (op_move (av := .exact (.int .i64 y1.2.1)) rfl ?_)
      refine Gy_q rfl rfl rfl (op_move (av := .exact (.int .i64 y2.2.1)) rfl ?_)
      refine Gy_q rfl rfl rfl (op_eql rfl rfl ?_)
      refine G_q rfl (op_pick_t rfl (av := .exact (.bool (decide (y1.2.1 = y2.2.1)))) rfl ?_)
      refine G_q rfl (op_move (av := .exact (.bool (decide (y1.2.1 = y2.2.1)))) rfl ?_)
      refine G_split (p := y1.2.1 = y2.2.1) 33 rfl (fun hc => ?_) (fun hc => ?_)
      · replace h := ite_t h hc
        refine Gy_q rfl rfl rfl (op_move (av := .row 2 c_A2_int y1.1) rfl ?_)
        refine Gy_q rfl rfl rfl (op_move (av := .row 2 c_A2_int y2.1) rfl ?_)
        obtain ⟨y5, hy5, h⟩ := bnd1_some h
        refine Gy_q rfl rfl rfl (op_pure (m_law36_same_ok _ _ _ hy5) Try.func25 (by kernel_rfl) (LEs.cons (AV.le_eq rfl) (LEs.cons (AV.le_eq rfl) LEs.nil)) ?_)
        refine G_q rfl (op_pick_t rfl (av := .exact (.bool y5)) rfl ?_)
        refine G_q rfl (op_assign (av := .exact (.bool y5)) rfl ?_)
        refine G_nil ?_
        refine kI_normal ⟨_, h, ?_⟩
        exact Sub.of_le (AF.le_put (AV.le_eq rfl) (AF.le_top _))
      · replace h := ite_f h hc
        refine G_n rfl rfl ?_
        refine G_n rfl rfl ?_
        refine G_n rfl rfl ?_
        refine G_q rfl (op_pick_f rfl (av := .exact (.bool false)) rfl ?_)
        refine G_q rfl (op_assign (av := .exact (.bool false)) rfl ?_)
        refine G_nil ?_
        refine kI_normal ⟨_, h, ?_⟩
        exact Sub.of_le (AF.le_put (AV.le_eq rfl) (AF.le_top _))
    · replace h := ite_f h hc
      refine G_n rfl rfl ?_
      refine G_n rfl rfl ?_
      refine G_n rfl rfl ?_
      refine G_q rfl (op_pick_f rfl (av := .exact (.bool false)) rfl ?_)
      refine G_q rfl (op_move (av := .exact (.bool false)) rfl ?_)
      refine G_n rfl rfl ?_
      refine G_n rfl rfl ?_
      refine G_n rfl rfl ?_
      refine G_q rfl (op_pick_f rfl (av := .exact (.bool false)) rfl ?_)
      refine G_q rfl (op_assign (av := .exact (.bool false)) rfl ?_)
      refine G_nil ?_
      refine kI_normal ⟨_, h, ?_⟩
      exact Sub.of_le (AF.le_put (AV.le_eq rfl) (AF.le_top _))
  · refine k_ret ?_
    obtain rfl := Option.some.inj h
    refine kP_any (endN (af' := (AF.put AF0 (some 4) (.exact (.bool x4_j3)))) (σ' := []) _ rfl ?_ ⟨rfl, rfl⟩)
    exact Sub.of_le (AF.le_put (AV.le_eq rfl) (AF.le_top _))
set_option maxHeartbeats 4000000 in
theorem m_law36_run_ok {w0 : Nat} (a0 : (List Int) × Int) (a1 : Int) (r : (List (Int × Int)) × ((List Int) × Int)) (h : m_law36_run a0 a1 = some r) : Fun Try.prog 12 [(pA w0 0), (.exact (.int .i64 a1))] [boxI 71 w0 [.row 1 c_int a0.1, .exact (.int .i64 a0.2)]] (fun a s => a = .row 2 c_A2_int r.1 ∧ s = [boxI 71 w0 [.row 1 c_int r.2.1, .exact (.int .i64 r.2.2)]]) := by
  unfold m_law36_run at h
  refine fun_of_awp Try.func12 rfl Try.ntmps12 (by simp) rfl (res1 rfl) fun E hE => k_end ?_
  refine k_seq ?_
  refine k_reg .free hmixP (by kernel_rfl) ?_
  refine G_q rfl (op_assign (av := .exact (.slice none 0 0)) rfl ?_)
  refine G_nil ?_
  refine kC_normal ?_
  refine k_seq ?_
  refine k_reg .free hmixP (by kernel_rfl) ?_
  refine G_q rfl (op_move (av := pA w0 0) rfl ?_)
  refine G_q rfl (op_move (av := .exact (.int .i64 a1)) rfl ?_)
  obtain ⟨y1, hy1, h⟩ := bnd1_some h
  refine G_l rfl (op_fun_1_0_1 (m_law36_pairs_ok _ _ _ hy1) Try.func13 (by kernel_rfl) (LEs.cons (AV.le_eq rfl) (LEs.cons (AV.le_eq rfl) LEs.nil)) ?_)
  obtain ⟨y2, hy2, h⟩ := bnd1_some h
  refine G_q rfl (op_pure (m_ref35_Sorted_ok _ _ hy2) Try.func42 (by kernel_rfl) (LEs.cons (AV.le_eq rfl) LEs.nil) ?_)
  refine G_q rfl (op_assign (av := .row 2 c_A2_int y2) rfl ?_)
  refine G_nil ?_
  refine kC_normal ?_
  refine k_ret ?_
  obtain rfl := Option.some.inj h
  refine kP_any (endN (af' := (AF.put AF0 (some 4) (.row 2 c_A2_int y2))) (σ' := [boxI 71 w0 [.row 1 c_int y1.2.1, .exact (.int .i64 y1.2.2)]]) _ rfl ?_ ⟨rfl, rfl⟩)
  exact Sub.of_le (AF.le_put (AV.le_eq rfl) (AF.le_top _))
set_option maxHeartbeats 4000000 in
theorem m_law36_FrontierDecode_ok (a0 : List Int) (a1 : List UInt8) (a2 : Int) (r : Bool) (h : m_law36_FrontierDecode a0 a1 a2 = some r) : Pure Try.prog 4 [(.row 1 c_int a0), (.row 1 c_uint8 a1), (.exact (.int .i64 a2))] (.exact (.bool r)) := by
  unfold m_law36_FrontierDecode at h
  refine Pure.ofFun (fun_of_awp Try.func4 rfl Try.ntmps4 (by simp) rfl (res1 rfl) fun E hE => k_end ?_)
  refine k_seq ?_
  refine k_reg .free hmixP (by kernel_rfl) ?_
  refine G_q rfl (op_assign (av := .exact (.bool false)) rfl ?_)
  refine G_nil ?_
  refine kC_normal ?_
  refine k_seq ?_
  refine k_reg .free hmixP (by kernel_rfl) ?_
  refine G_q rfl (op_move (av := .row 1 c_int a0) rfl ?_)
  obtain ⟨y1, hy1, h⟩ := bnd1_some h
  refine G_l rfl (op_fun_0_1_1 (m_gen2_New_ok _ _ hy1) Try.func10 (by kernel_rfl) (LEs.cons (AV.le_eq rfl) LEs.nil) (fun b2 => ?_))
  refine G_q rfl (op_assign (av := pA b2 0) rfl ?_)
  refine G_nil ?_
  refine kC_normal ?_
  refine k_join0_0 h ((AF.put (AF.put AF0 (some 1) (.row 1 c_uint8 a1)) (some 2) (.exact (.int .i64 a2)))) ([]) (fun k3 h => ?_) (fun  h => ?_)
  · refine k_seq ?_
    refine k_reg .free hmixP (by kernel_rfl) ?_
    refine G_q rfl (op_assign (av := .exact (.int .i64 0)) rfl ?_)
    refine G_nil ?_
    refine kC_normal ?_
    refine k_block ?_
    refine k_loop3_0 (m_law36_FrontierDecode_L2 a2 k3) (m_law36_FrontierDecode_B2 a2 k3) (fun _ _ _ => rfl) (fun m _ _ _ => rfl) h (fun (x7_0_l2 : List Int) (x7_1_l2 : Int) (x8_l2 : Int) => (AF.put (AF.put (AF.put (AF.put AF0 (some 1) (.row 1 c_uint8 a1)) (some 2) (.exact (.int .i64 a2))) (some 7) (pA b2 0)) (some 8) (.exact (.int .i64 x8_l2)))) (fun (x7_0_l2 : List Int) (x7_1_l2 : Int) (x8_l2 : Int) => [boxI 71 b2 [.row 1 c_int x7_0_l2, .exact (.int .i64 x7_1_l2)]]) ?_ (fun rec2 x7_0_l2 x7_1_l2 x8_l2 h => ?_)
    · exact Sub.of_le (AF.le_put (AV.le_eq rfl) (AF.le_put (AV.le_eq rfl) (AF.le_put (AV.le_eq rfl) (AF.le_put (AV.le_eq rfl) (AF.le_top _)))))
    · unfold m_law36_FrontierDecode_B2 at h
      refine k_seq ?_
      refine k_seq ?_
      refine k_reg .free hmixP (by kernel_rfl) ?_
      refine G_q rfl (op_move (av := .exact (.int .i64 x8_l2)) rfl ?_)
      refine G_q rfl (op_lss rfl rfl ?_)
      refine G_nil ?_
      refine kC_normal ?_
      refine k_cond_d (p := x8_l2 < 5) rfl (fun hc => ?_) (fun hc => ?_)
      · replace h := ite_t h hc
        refine k_skip ?_
        refine kC_normal ?_
        refine k_seq ?_
        refine k_block ?_
        refine k_seq ?_
        refine k_reg .free hmixP (by kernel_rfl) ?_
        refine G_q rfl (op_bld (c' := c_A2_int (0, 0)) (CellsAll.cons rfl CellsOf.int (CellsAll.cons rfl CellsOf.int CellsAll.nil)) rfl (LEs.cons (AV.le_eq rfl) (LEs.cons (AV.le_eq rfl) LEs.nil)) ?_)
        refine G_l rfl (op_litI (n := 2) (enc := c_A2_int) [(0, 0)] (by kernel_rfl) (CellsAll.cons rfl CellsOf.agg CellsAll.nil) rfl (by kernel_rfl) (LEss.cons (LEs.cons (AV.le_eq rfl) (LEs.cons (AV.le_eq rfl) LEs.nil)) LEss.nil) (fun v407 => ?_))
        refine G_q rfl (op_move (av := pA b2 0) rfl ?_)
        obtain ⟨y408, hy408, h⟩ := bnd1_some h
        refine G_l rfl (opB_f1 (op_fun_1_0_1 (m_law36_run_ok _ _ _ hy408) Try.func12 (by kernel_rfl) (LEs.cons (AV.le_eq rfl) (LEs.cons (AV.le_eq rfl) LEs.nil)) ?_))
        refine G_q rfl (op_bld (c' := c_A2_int (0, 0)) (CellsAll.cons rfl CellsOf.int (CellsAll.cons rfl CellsOf.int CellsAll.nil)) rfl (LEs.cons (AV.le_eq rfl) (LEs.cons (AV.le_eq rfl) LEs.nil)) ?_)
        refine G_q rfl (op_litT (n := 2) (enc := c_A2_int) [(0, 0)] (CellsAll.cons rfl CellsOf.agg CellsAll.nil) rfl (by kernel_rfl) (LEss.cons (LEs.cons (AV.le_eq rfl) (LEs.cons (AV.le_eq rfl) LEs.nil)) LEss.nil) ?_)
        obtain ⟨y409, hy409, h⟩ := bnd1_some h
        refine G_q rfl (op_pure (m_ref35_Subtract_ok _ _ _ hy409) Try.func17 (by kernel_rfl) (LEs.cons (AV.le_eq rfl) (LEs.cons (AV.le_eq rfl) LEs.nil)) ?_)
        obtain ⟨n410, h⟩ := need_some h
        refine G_l rfl (opB_f1 (op_appT (by kernel_rfl) rfl rfl oc_c_A2_int n410 (fun v411 => ?_)))
        refine G_sub rfl (SubU.freezeT (s := 29) rfl len_c_A2_int) ?_
        obtain ⟨y412, hy412, h⟩ := bnd1_some h
        refine G_q rfl (op_pure (m_ref35_EncodeBlock_ok _ _ hy412) Try.func16 (by kernel_rfl) (LEs.cons (AV.le_eq rfl) LEs.nil) ?_)
        refine G_q rfl (op_move (av := .tup [.row 1 c_uint8 y412.1, .exact (.int .i64 y412.2)]) rfl ?_)
        refine G_q rfl (op_extract (av := .row 1 c_uint8 y412.1) rfl rfl ?_)
        refine G_q rfl (op_extract (av := .exact (.int .i64 y412.2)) rfl rfl ?_)
        refine G_q rfl (op_assign (av := .row 1 c_uint8 y412.1) rfl ?_)
        refine G_q rfl (op_assign (av := .exact (.int .i64 y412.2)) rfl ?_)
        refine G_nil ?_
        refine kC_normal ?_
        refine k_seq ?_
        refine k_reg .free hmixP (by kernel_rfl) ?_
        refine G_q rfl (op_move (av := pA b2 0) rfl ?_)
        obtain ⟨y413, hy413, h⟩ := bnd1_some h
        refine G_l rfl (op_fun_1_0_1 (m_gen2_Tape_Next_ok _ _ _ hy413) Try.func14 (by kernel_rfl) (LEs.cons (AV.le_eq rfl) (LEs.cons (AV.le_eq rfl) LEs.nil)) ?_)
        refine G_q rfl (op_bld (c' := c_A2_int (1, y413.1)) (CellsAll.cons rfl CellsOf.int (CellsAll.cons rfl CellsOf.int CellsAll.nil)) rfl (LEs.cons (AV.le_eq rfl) (LEs.cons (AV.le_eq rfl) LEs.nil)) ?_)
        refine G_q rfl (op_bld (c' := c_A2_int (900, 2)) (CellsAll.cons rfl CellsOf.int (CellsAll.cons rfl CellsOf.int CellsAll.nil)) rfl (LEs.cons (AV.le_eq rfl) (LEs.cons (AV.le_eq rfl) LEs.nil)) ?_)
        refine G_q rfl (op_litT (n := 2) (enc := c_A2_int) [(1, y413.1), (900, 2)] (CellsAll.cons rfl CellsOf.agg (CellsAll.cons rfl CellsOf.agg CellsAll.nil)) rfl (by kernel_rfl) (LEss.cons (LEs.cons (AV.le_eq rfl) (LEs.cons (AV.le_eq rfl) LEs.nil)) (LEss.cons (LEs.cons (AV.le_eq rfl) (LEs.cons (AV.le_eq rfl) LEs.nil)) LEss.nil)) ?_)
        obtain ⟨y414, hy414, h⟩ := bnd1_some h
        refine G_q rfl (op_pure (m_ref35_EncodeBlock_ok _ _ hy414) Try.func16 (by kernel_rfl) (LEs.cons (AV.le_eq rfl) LEs.nil) ?_)
        refine G_q rfl (op_move (av := .tup [.row 1 c_uint8 y414.1, .exact (.int .i64 y414.2)]) rfl ?_)
        refine G_q rfl (op_extract (av := .row 1 c_uint8 y414.1) rfl rfl ?_)
        refine G_q rfl (op_extract (av := .exact (.int .i64 y414.2)) rfl rfl ?_)
        refine G_q rfl (op_assign (av := .row 1 c_uint8 y414.1) rfl ?_)
        refine G_q rfl (op_assign (av := .exact (.int .i64 y414.2)) rfl ?_)
        refine G_nil ?_
        refine kC_normal ?_
        refine k_seq ?_
        refine k_reg .free hmixP (by kernel_rfl) ?_
        refine G_l rfl (op_lit0I (enc := c_uint8) (n := 1) (by kernel_rfl) (fun v415 => ?_))
        refine G_q rfl (op_move (av := .row 1 c_uint8 y412.1) rfl ?_)
        obtain ⟨n416, h⟩ := need_some h
        refine G_l rfl (op_appT (by kernel_rfl) rfl rfl oc_c_uint8 n416 (fun v417 => ?_))
        refine G_q rfl (op_move (av := .row 1 c_uint8 y414.1) rfl ?_)
        obtain ⟨n418, h⟩ := need_some h
        refine G_l rfl (op_appT (by kernel_rfl) rfl rfl oc_c_uint8 n418 (fun v419 => ?_))
        refine G_q rfl (op_assign (av := .exact v419) rfl ?_)
        refine G_nil ?_
        refine kC_normal ?_
        refine k_seq ?_
        refine k_reg .free hmixP (by kernel_rfl) ?_
        refine G_q rfl (op_move (av := pA b2 0) rfl ?_)
        refine G_q rfl (op_move (av := .row 1 c_uint8 y412.1) rfl ?_)
        refine G_q rfl (op_move (av := .row 1 c_uint8 y412.1) rfl ?_)
        refine G_q rfl (op_len_row (by kernel_rfl) rfl ?_)
        refine G_q rfl (op_sub rfl rfl rfl ?_)
        obtain ⟨n420, h⟩ := need_some h
        refine G_q rfl (op_slice_rowt (by kernel_rfl) rfl bnd_none (bnd_some rfl) (Int.le_refl 0) n420.1 n420.2 ?_)
        obtain ⟨y421, hy421, h⟩ := bnd1_some h
        refine G_l rfl (opB_f1 (op_fun_1_0_1 (m_gen2_Tape_Bytes_ok _ _ _ hy421) Try.func18 (by kernel_rfl) (LEs.cons (AV.le_eq rfl) (LEs.cons (AV.le_eq rfl) LEs.nil)) ?_))
        refine G_q rfl (op_assign (av := .row 1 c_uint8 y421.1) rfl ?_)
        refine G_nil ?_
        refine kC_normal ?_
        refine k_join3_0 h (fun (x7_0_j422 : List Int) (x7_1_j422 : Int) (x98_j422 : Bool) => (AF.put (AF.put (AF.put (AF.put (AF.put AF0 (some 1) (.row 1 c_uint8 a1)) (some 2) (.exact (.int .i64 a2))) (some 7) (pA b2 0)) (some 8) (.exact (.int .i64 x8_l2))) (some 98) (.exact (.bool x98_j422)))) (fun (x7_0_j422 : List Int) (x7_1_j422 : Int) (x98_j422 : Bool) => [boxI 71 b2 [.row 1 c_int x7_0_j422, .exact (.int .i64 x7_1_j422)]]) (fun k422 h => ?_) (fun x7_0_j422 x7_1_j422 x98_j422 h => ?_)
        · refine k_reg .free hmixP (by kernel_rfl) ?_
          refine G_q rfl (op_move (av := .exact v419) rfl ?_)
          refine G_sub rfl (SubU.trans SubU.f1 (SubU.freezeT3 (s1 := 13) (s2 := 46) (s3 := 54) rfl rfl rfl len_c_uint8)) ?_
          obtain ⟨y433, hy433, h⟩ := bnd1_some h
          refine G_q rfl (op_pure (m_law36_decodes_ok _ _ _ hy433) Try.func19 (by kernel_rfl) (LEs.cons (AV.le_eq rfl) (LEs.cons (AV.le_eq rfl) LEs.nil)) ?_)
          refine G_q rfl (op_not rfl ?_)
          refine G_q rfl (op_move (av := .exact (.bool (!y433))) rfl ?_)
          refine G_splitB (c := !y433) 57 rfl (fun hc => ?_) (fun hc => ?_)
          · replace h := ite_t h hc
            refine G_n rfl rfl ?_
            refine G_n rfl rfl ?_
            refine G_n rfl rfl ?_
            refine G_n rfl rfl ?_
            refine G_n rfl rfl ?_
            refine G_q rfl (op_pick_t rfl (av := .exact (.bool true)) rfl ?_)
            refine G_q rfl (op_move (av := .exact (.bool true)) rfl ?_)
            refine G_n rfl rfl ?_
            refine G_n rfl rfl ?_
            refine G_n rfl rfl ?_
            refine G_n rfl rfl ?_
            refine G_n rfl rfl ?_
            refine G_q rfl (op_pick_t rfl (av := .exact (.bool true)) rfl ?_)
            refine G_q rfl (op_move (av := .exact (.bool true)) rfl ?_)
            refine G_n rfl rfl ?_
            refine G_n rfl rfl ?_
            refine G_n rfl rfl ?_
            refine G_n rfl rfl ?_
            refine G_n rfl rfl ?_
            refine G_n rfl rfl ?_
            refine G_n rfl rfl ?_
            refine G_q rfl (op_pick_t rfl (av := .exact (.bool true)) rfl ?_)
            refine G_q rfl (op_move (av := .exact (.bool true)) rfl ?_)
            refine G_n rfl rfl ?_
            refine G_n rfl rfl ?_
            refine G_n rfl rfl ?_
            refine G_n rfl rfl ?_
            refine G_n rfl rfl ?_
            refine G_q rfl (op_pick_t rfl (av := .exact (.bool true)) rfl ?_)
            refine G_q rfl (op_move (av := .exact (.bool true)) rfl ?_)
            refine G_n rfl rfl ?_
            refine G_n rfl rfl ?_
            refine G_n rfl rfl ?_
            refine G_n rfl rfl ?_
            refine G_q rfl (op_pick_t rfl (av := .exact (.bool true)) rfl ?_)
            refine G_q rfl (op_move (av := .exact (.bool true)) rfl ?_)
            refine G_n rfl rfl ?_
            refine G_n rfl rfl ?_
            refine G_n rfl rfl ?_
            refine G_n rfl rfl ?_
            refine G_q rfl (op_pick_t rfl (av := .exact (.bool true)) rfl ?_)
            refine G_nil ?_
            refine kI_normal ⟨_, _, _, h, ?_⟩
            exact Sub.of_le (AF.le_put (AV.le_eq rfl) (AF.le_put (AV.le_eq rfl) (AF.le_put (AV.le_eq rfl) (AF.le_put (AV.le_eq rfl) (AF.le_put (AV.le_eq rfl) (AF.le_top _))))))
          · replace h := ite_f h hc
            refine Gy_q rfl rfl rfl (op_move (av := .row 1 c_uint8 ((([] : List UInt8) ++ y412.1) ++ y414.1)) rfl ?_)
            refine Gy_q rfl rfl rfl (op_move (av := .row 1 c_uint8 y412.1) rfl ?_)
            refine Gy_q rfl rfl rfl (op_len_row (by kernel_rfl) rfl ?_)
            obtain ⟨y434, hy434, h⟩ := bnd1_some h
            refine Gy_q rfl rfl rfl (op_pure (m_law36_decodes_ok _ _ _ hy434) Try.func19 (by kernel_rfl) (LEs.cons (AV.le_eq rfl) (LEs.cons (AV.le_eq rfl) LEs.nil)) ?_)
            refine Gy_q rfl rfl rfl (op_not rfl ?_)
            refine G_q rfl (op_pick_f rfl (av := .exact (.bool (!y434))) rfl ?_)
            refine G_q rfl (op_move (av := .exact (.bool (!y434))) rfl ?_)
            refine G_splitB (c := !y434) 64 rfl (fun hc => ?_) (fun hc => ?_)
            · replace h := ite_t h hc
              refine G_n rfl rfl ?_
              refine G_n rfl rfl ?_
              refine G_n rfl rfl ?_
              refine G_n rfl rfl ?_
              refine G_n rfl rfl ?_
              refine G_q rfl (op_pick_t rfl (av := .exact (.bool true)) rfl ?_)
              refine G_q rfl (op_move (av := .exact (.bool true)) rfl ?_)
              refine G_n rfl rfl ?_
              refine G_n rfl rfl ?_
              refine G_n rfl rfl ?_
              refine G_n rfl rfl ?_
              refine G_n rfl rfl ?_
              refine G_n rfl rfl ?_
              refine G_n rfl rfl ?_
              refine G_q rfl (op_pick_t rfl (av := .exact (.bool true)) rfl ?_)
              refine G_q rfl (op_move (av := .exact (.bool true)) rfl ?_)
              refine G_n rfl rfl ?_
              refine G_n rfl rfl ?_
              refine G_n rfl rfl ?_
              refine G_n rfl rfl ?_
              refine G_n rfl rfl ?_
              refine G_q rfl (op_pick_t rfl (av := .exact (.bool true)) rfl ?_)
              refine G_q rfl (op_move (av := .exact (.bool true)) rfl ?_)
              refine G_n rfl rfl ?_
              refine G_n rfl rfl ?_
              refine G_n rfl rfl ?_
              refine G_n rfl rfl ?_
              refine G_q rfl (op_pick_t rfl (av := .exact (.bool true)) rfl ?_)
              refine G_q rfl (op_move (av := .exact (.bool true)) rfl ?_)
              refine G_n rfl rfl ?_
              refine G_n rfl rfl ?_
              refine G_n rfl rfl ?_
              refine G_n rfl rfl ?_
              refine G_q rfl (op_pick_t rfl (av := .exact (.bool true)) rfl ?_)
              refine G_nil ?_
              refine kI_normal ⟨_, _, _, h, ?_⟩
              exact Sub.of_le (AF.le_put (AV.le_eq rfl) (AF.le_put (AV.le_eq rfl) (AF.le_put (AV.le_eq rfl) (AF.le_put (AV.le_eq rfl) (AF.le_put (AV.le_eq rfl) (AF.le_top _))))))
            · replace h := ite_f h hc
              refine Gy_q rfl rfl rfl (op_move (av := .row 1 c_uint8 ((([] : List UInt8) ++ y412.1) ++ y414.1)) rfl ?_)
              refine Gy_q rfl rfl rfl (op_move (av := .row 1 c_uint8 ((([] : List UInt8) ++ y412.1) ++ y414.1)) rfl ?_)
              refine Gy_q rfl rfl rfl (op_len_row (by kernel_rfl) rfl ?_)
              obtain ⟨y435, hy435, h⟩ := bnd1_some h
              refine Gy_q rfl rfl rfl (op_pure (m_law36_decodes_ok _ _ _ hy435) Try.func19 (by kernel_rfl) (LEs.cons (AV.le_eq rfl) (LEs.cons (AV.le_eq rfl) LEs.nil)) ?_)
              refine Gy_q rfl rfl rfl (op_not rfl ?_)
              refine G_q rfl (op_pick_f rfl (av := .exact (.bool (!y435))) rfl ?_)
              refine G_q rfl (op_move (av := .exact (.bool (!y435))) rfl ?_)
              refine G_splitB (c := !y435) 71 rfl (fun hc => ?_) (fun hc => ?_)
              · replace h := ite_t h hc
                refine G_n rfl rfl ?_
                refine G_n rfl rfl ?_
                refine G_n rfl rfl ?_
                refine G_n rfl rfl ?_
                refine G_n rfl rfl ?_
                refine G_n rfl rfl ?_
                refine G_n rfl rfl ?_
                refine G_q rfl (op_pick_t rfl (av := .exact (.bool true)) rfl ?_)
                refine G_q rfl (op_move (av := .exact (.bool true)) rfl ?_)
                refine G_n rfl rfl ?_
                refine G_n rfl rfl ?_
                refine G_n rfl rfl ?_
                refine G_n rfl rfl ?_
                refine G_n rfl rfl ?_
                refine G_q rfl (op_pick_t rfl (av := .exact (.bool true)) rfl ?_)
                refine G_q rfl (op_move (av := .exact (.bool true)) rfl ?_)
                refine G_n rfl rfl ?_
                refine G_n rfl rfl ?_
                refine G_n rfl rfl ?_
                refine G_n rfl rfl ?_
                refine G_q rfl (op_pick_t rfl (av := .exact (.bool true)) rfl ?_)
                refine G_q rfl (op_move (av := .exact (.bool true)) rfl ?_)
                refine G_n rfl rfl ?_
                refine G_n rfl rfl ?_
                refine G_n rfl rfl ?_
                refine G_n rfl rfl ?_
                refine G_q rfl (op_pick_t rfl (av := .exact (.bool true)) rfl ?_)
                refine G_nil ?_
                refine kI_normal ⟨_, _, _, h, ?_⟩
                exact Sub.of_le (AF.le_put (AV.le_eq rfl) (AF.le_put (AV.le_eq rfl) (AF.le_put (AV.le_eq rfl) (AF.le_put (AV.le_eq rfl) (AF.le_put (AV.le_eq rfl) (AF.le_top _))))))
              · replace h := ite_f h hc
                refine Gy_q rfl rfl rfl (op_move (av := .row 1 c_uint8 ((([] : List UInt8) ++ y412.1) ++ y414.1)) rfl ?_)
                refine Gy_q rfl rfl rfl (op_move (av := pA b2 0) rfl ?_)
                refine Gy_q rfl rfl rfl (op_move (av := .row 1 c_uint8 ((([] : List UInt8) ++ y412.1) ++ y414.1)) rfl ?_)
                refine Gy_q rfl rfl rfl (op_len_row (by kernel_rfl) rfl ?_)
                obtain ⟨y436, hy436, h⟩ := bnd1_some h
                refine Gy_l rfl rfl rfl (op_fun_1_0_1 (m_gen2_Tape_Next_ok _ _ _ hy436) Try.func14 (by kernel_rfl) (LEs.cons (AV.le_eq rfl) (LEs.cons (AV.le_eq rfl) LEs.nil)) ?_)
                obtain ⟨y437, hy437, h⟩ := bnd1_some h
                refine Gy_q rfl rfl rfl (op_pure (m_law36_decodes_ok _ _ _ hy437) Try.func19 (by kernel_rfl) (LEs.cons (AV.le_eq rfl) (LEs.cons (AV.le_eq rfl) LEs.nil)) ?_)
                refine Gy_q rfl rfl rfl (op_not rfl ?_)
                refine G_q rfl (op_pick_f rfl (av := .exact (.bool (!y437))) rfl ?_)
                refine G_q rfl (op_move (av := .exact (.bool (!y437))) rfl ?_)
                refine G_splitB (c := !y437) 80 rfl (fun hc => ?_) (fun hc => ?_)
                · replace h := ite_t h hc
                  refine G_n rfl rfl ?_
                  refine G_n rfl rfl ?_
                  refine G_n rfl rfl ?_
                  refine G_n rfl rfl ?_
                  refine G_n rfl rfl ?_
                  refine G_q rfl (op_pick_t rfl (av := .exact (.bool true)) rfl ?_)
                  refine G_q rfl (op_move (av := .exact (.bool true)) rfl ?_)
                  refine G_n rfl rfl ?_
                  refine G_n rfl rfl ?_
                  refine G_n rfl rfl ?_
                  refine G_n rfl rfl ?_
                  refine G_q rfl (op_pick_t rfl (av := .exact (.bool true)) rfl ?_)
                  refine G_q rfl (op_move (av := .exact (.bool true)) rfl ?_)
                  refine G_n rfl rfl ?_
                  refine G_n rfl rfl ?_
                  refine G_n rfl rfl ?_
                  refine G_n rfl rfl ?_
                  refine G_q rfl (op_pick_t rfl (av := .exact (.bool true)) rfl ?_)
                  refine G_nil ?_
                  refine kI_normal ⟨_, _, _, h, ?_⟩
                  exact Sub.of_le (AF.le_put (AV.le_eq rfl) (AF.le_put (AV.le_eq rfl) (AF.le_put (AV.le_eq rfl) (AF.le_put (AV.le_eq rfl) (AF.le_put (AV.le_eq rfl) (AF.le_top _))))))
                · replace h := ite_f h hc
                  refine Gy_q rfl rfl rfl (op_move (av := pA b2 0) rfl ?_)
                  refine Gy_q rfl rfl rfl (op_move (av := .row 1 c_uint8 ((([] : List UInt8) ++ y412.1) ++ y414.1)) rfl ?_)
                  obtain ⟨y438, hy438, h⟩ := bnd1_some h
                  refine Gy_l rfl rfl rfl (op_fun_1_0_1 (m_gen2_Tape_Bytes_ok _ _ _ hy438) Try.func18 (by kernel_rfl) (LEs.cons (AV.le_eq rfl) (LEs.cons (AV.le_eq rfl) LEs.nil)) ?_)
                  obtain ⟨y439, hy439, h⟩ := bnd1_some h
                  refine Gy_q rfl rfl rfl (op_pure (m_law36_decodes_ok _ _ _ hy439) Try.func19 (by kernel_rfl) (LEs.cons (AV.le_eq rfl) (LEs.cons (AV.le_eq rfl) LEs.nil)) ?_)
                  refine Gy_q rfl rfl rfl (op_not rfl ?_)
                  refine G_q rfl (op_pick_f rfl (av := .exact (.bool (!y439))) rfl ?_)
                  refine G_q rfl (op_move (av := .exact (.bool (!y439))) rfl ?_)
                  refine G_splitB (c := !y439) 87 rfl (fun hc => ?_) (fun hc => ?_)
                  · replace h := ite_t h hc
                    refine G_n rfl rfl ?_
                    refine G_n rfl rfl ?_
                    refine G_n rfl rfl ?_
                    refine G_n rfl rfl ?_
                    refine G_q rfl (op_pick_t rfl (av := .exact (.bool true)) rfl ?_)
                    refine G_q rfl (op_move (av := .exact (.bool true)) rfl ?_)
                    refine G_n rfl rfl ?_
                    refine G_n rfl rfl ?_
                    refine G_n rfl rfl ?_
                    refine G_n rfl rfl ?_
                    refine G_q rfl (op_pick_t rfl (av := .exact (.bool true)) rfl ?_)
                    refine G_nil ?_
                    refine kI_normal ⟨_, _, _, h, ?_⟩
                    exact Sub.of_le (AF.le_put (AV.le_eq rfl) (AF.le_put (AV.le_eq rfl) (AF.le_put (AV.le_eq rfl) (AF.le_put (AV.le_eq rfl) (AF.le_put (AV.le_eq rfl) (AF.le_top _))))))
                  · replace h := ite_f h hc
                    refine Gy_q rfl rfl rfl (op_move (av := .row 1 c_uint8 y421.1) rfl ?_)
                    obtain ⟨y440, hy440, h⟩ := bnd1_some h
                    refine Gy_q rfl rfl rfl (op_pure (m_ref23_Sealed_ok _ _ hy440) Try.func20 (by kernel_rfl) (LEs.cons (AV.le_eq rfl) LEs.nil) ?_)
                    obtain ⟨y441, hy441, h⟩ := bnd1_some h
                    refine Gy_q rfl rfl rfl (op_pure (m_law36_decodes_ok _ _ _ hy441) Try.func19 (by kernel_rfl) (LEs.cons (AV.le_eq rfl) (LEs.cons (AV.le_eq rfl) LEs.nil)) ?_)
                    refine Gy_q rfl rfl rfl (op_not rfl ?_)
                    refine G_q rfl (op_pick_f rfl (av := .exact (.bool (!y441))) rfl ?_)
                    refine G_q rfl (op_move (av := .exact (.bool (!y441))) rfl ?_)
                    refine G_splitB (c := !y441) 93 rfl (fun hc => ?_) (fun hc => ?_)
                    · replace h := ite_t h hc
                      refine G_n rfl rfl ?_
                      refine G_n rfl rfl ?_
                      refine G_n rfl rfl ?_
                      refine G_n rfl rfl ?_
                      refine G_q rfl (op_pick_t rfl (av := .exact (.bool true)) rfl ?_)
                      refine G_nil ?_
                      refine kI_normal ⟨_, _, _, h, ?_⟩
                      exact Sub.of_le (AF.le_put (AV.le_eq rfl) (AF.le_put (AV.le_eq rfl) (AF.le_put (AV.le_eq rfl) (AF.le_put (AV.le_eq rfl) (AF.le_put (AV.le_eq rfl) (AF.le_top _))))))
                    · replace h := ite_f h hc
                      refine Gy_q rfl rfl rfl (op_move (av := .row 1 c_uint8 ((([] : List UInt8) ++ y412.1) ++ y414.1)) rfl ?_)
                      refine Gy_q rfl rfl rfl (op_move (av := .exact (.int .i64 a2)) rfl ?_)
                      obtain ⟨y442, hy442, h⟩ := bnd1_some h
                      refine Gy_q rfl rfl rfl (op_pure (m_law36_decodes_ok _ _ _ hy442) Try.func19 (by kernel_rfl) (LEs.cons (AV.le_eq rfl) (LEs.cons (AV.le_eq rfl) LEs.nil)) ?_)
                      refine Gy_q rfl rfl rfl (op_not rfl ?_)
                      refine G_q rfl (op_pick_f rfl (av := .exact (.bool (!y442))) rfl ?_)
                      refine G_nil ?_
                      refine kI_normal ⟨_, _, _, h, ?_⟩
                      exact Sub.of_le (AF.le_put (AV.le_eq rfl) (AF.le_put (AV.le_eq rfl) (AF.le_put (AV.le_eq rfl) (AF.le_put (AV.le_eq rfl) (AF.le_put (AV.le_eq rfl) (AF.le_top _))))))
        · refine k_cond_b (c := x98_j422) rfl (fun hc => ?_) (fun hc => ?_)
          · replace h := ite_t h hc
            refine k_seq ?_
            refine k_reg .free hmixP (by kernel_rfl) ?_
            refine G_q rfl (op_assign (av := .exact (.bool false)) rfl ?_)
            refine G_nil ?_
            refine kC_normal ?_
            refine k_ret ?_
            refine kB_ret ?_
            refine kC_ret ?_
            refine kI_ret ?_
            refine kB_ret ?_
            refine kI_ret ?_
            obtain rfl := Option.some.inj h
            refine kP_any (endN (af' := (AF.put AF0 (some 6) (.exact (.bool false)))) (σ' := []) _ rfl ?_ ⟨rfl, rfl⟩)
            refine Sub.trans (SubU.to SubU.drop) ?_
            exact Sub.of_le (AF.le_put (AV.le_eq rfl) (AF.le_top _))
          · replace h := ite_f h hc
            refine k_skip ?_
            refine kB_normal ?_
            refine kC_normal ?_
            refine k_reg .free hmixP (by kernel_rfl) ?_
            refine G_q rfl (op_move (av := .exact (.int .i64 x8_l2)) rfl ?_)
            refine G_q rfl (op_add rfl rfl rfl ?_)
            refine G_q rfl (op_assign (av := .exact (.int .i64 (i64 (x8_l2 + 1)))) rfl ?_)
            refine G_nil ?_
            refine kI_normal ⟨_, _, _, h, ?_⟩
            exact Sub.of_le (AF.le_put (AV.le_eq rfl) (AF.le_put (AV.le_eq rfl) (AF.le_put (AV.le_eq rfl) (AF.le_put (AV.le_eq rfl) (AF.le_top _)))))
      · replace h := ite_f h hc
        refine k_exit ?_
        refine kC_exit ?_
        refine kI_exit ?_
        refine kB_exit ?_
        refine kI_normal ⟨h, ?_⟩
        refine Sub.trans (SubU.to SubU.drop) ?_
        exact Sub.of_le (AF.le_put (AV.le_eq rfl) (AF.le_put (AV.le_eq rfl) (AF.le_top _)))
  · refine k_join1_0 h (fun (x6_j443 : Bool) => (AF.put AF0 (some 6) (.exact (.bool x6_j443)))) (fun (x6_j443 : Bool) => []) (fun k443 h => ?_) (fun x6_j443 h => ?_)
    · refine k_reg .free hmixP (by kernel_rfl) ?_
      refine G_q rfl (op_move (av := .row 1 c_uint8 a1) rfl ?_)
      refine G_q rfl (op_len_row (by kernel_rfl) rfl ?_)
      refine G_q rfl (op_gtr rfl rfl ?_)
      refine G_q rfl (op_move (av := .exact (.bool (decide (300 < (List.length a1 : Int))))) rfl ?_)
      refine G_split (p := 300 < (List.length a1 : Int)) 102 rfl (fun hc => ?_) (fun hc => ?_)
      · replace h := ite_t h hc
        refine G_n rfl rfl ?_
        refine G_n rfl rfl ?_
        refine G_n rfl rfl ?_
        refine G_n rfl rfl ?_
        refine G_u rfl rfl ?_
        refine G_u rfl rfl ?_
        refine G_u rfl rfl ?_
        refine G_n rfl rfl ?_
        refine G_n rfl rfl ?_
        refine G_u rfl rfl ?_
        refine G_n rfl rfl ?_
        refine G_q rfl (op_pick_t rfl (av := .exact (.bool true)) rfl ?_)
        refine G_q rfl (op_assign (av := .exact (.bool true)) rfl ?_)
        refine G_nil ?_
        refine kI_normal ⟨_, h, ?_⟩
        exact Sub.of_le (AF.le_put (AV.le_eq rfl) (AF.le_top _))
      · replace h := ite_f h hc
        refine Gy_q rfl rfl rfl (op_move (av := .row 1 c_uint8 a1) rfl ?_)
        refine Gy_q rfl rfl rfl (op_move (av := .exact (.int .i64 a2)) rfl ?_)
        obtain ⟨y448, hy448, h⟩ := bnd1_some h
        refine Gy_q rfl rfl rfl (op_pure (m_law36_decodes_ok _ _ _ hy448) Try.func19 (by kernel_rfl) (LEs.cons (AV.le_eq rfl) (LEs.cons (AV.le_eq rfl) LEs.nil)) ?_)
        refine Gy_q rfl rfl rfl (op_move (av := .exact (.bool y448)) rfl ?_)
        refine G_splitB (c := y448) 106 rfl (fun hc => ?_) (fun hc => ?_)
        · replace h := ite_t h hc
          refine Gy_q rfl rfl rfl (op_move (av := .row 1 c_uint8 a1) rfl ?_)
          obtain ⟨y449, hy449, h⟩ := bnd1_some h
          refine Gy_q rfl rfl rfl (op_pure (m_ref23_Sealed_ok _ _ hy449) Try.func20 (by kernel_rfl) (LEs.cons (AV.le_eq rfl) LEs.nil) ?_)
          obtain ⟨y450, hy450, h⟩ := bnd1_some h
          refine Gy_q rfl rfl rfl (op_pure (m_law36_decodes_ok _ _ _ hy450) Try.func19 (by kernel_rfl) (LEs.cons (AV.le_eq rfl) (LEs.cons (AV.le_eq rfl) LEs.nil)) ?_)
          refine Gy_q rfl rfl rfl (op_pick_t rfl (av := .exact (.bool y450)) rfl ?_)
          refine Gy_q rfl rfl rfl (op_move (av := .exact (.bool y450)) rfl ?_)
          refine G_splitB (c := y450) 111 rfl (fun hc => ?_) (fun hc => ?_)
          · replace h := ite_t h hc
            obtain ⟨y451, hy451, h⟩ := bnd1_some h
            refine Gy_q rfl rfl rfl (op_pure (m_law36_sane_ok _ hy451) Try.func15 (by kernel_rfl) LEs.nil ?_)
            refine Gy_q rfl rfl rfl (op_pick_t rfl (av := .exact (.bool y451)) rfl ?_)
            refine G_q rfl (op_pick_f rfl (av := .exact (.bool y451)) rfl ?_)
            refine G_q rfl (op_assign (av := .exact (.bool y451)) rfl ?_)
            refine G_nil ?_
            refine kI_normal ⟨_, h, ?_⟩
            exact Sub.of_le (AF.le_put (AV.le_eq rfl) (AF.le_top _))
          · replace h := ite_f h hc
            refine G_n rfl rfl ?_
            refine Gy_q rfl rfl rfl (op_pick_f rfl (av := .exact (.bool false)) rfl ?_)
            refine G_q rfl (op_pick_f rfl (av := .exact (.bool false)) rfl ?_)
            refine G_q rfl (op_assign (av := .exact (.bool false)) rfl ?_)
            refine G_nil ?_
            refine kI_normal ⟨_, h, ?_⟩
            exact Sub.of_le (AF.le_put (AV.le_eq rfl) (AF.le_top _))
        · replace h := ite_f h hc
          refine G_n rfl rfl ?_
          refine G_n rfl rfl ?_
          refine G_n rfl rfl ?_
          refine Gy_q rfl rfl rfl (op_pick_f rfl (av := .exact (.bool false)) rfl ?_)
          refine Gy_q rfl rfl rfl (op_move (av := .exact (.bool false)) rfl ?_)
          refine G_n rfl rfl ?_
          refine Gy_q rfl rfl rfl (op_pick_f rfl (av := .exact (.bool false)) rfl ?_)
          refine G_q rfl (op_pick_f rfl (av := .exact (.bool false)) rfl ?_)
          refine G_q rfl (op_assign (av := .exact (.bool false)) rfl ?_)
          refine G_nil ?_
          refine kI_normal ⟨_, h, ?_⟩
          exact Sub.of_le (AF.le_put (AV.le_eq rfl) (AF.le_top _))
    · refine k_ret ?_
      obtain rfl := Option.some.inj h
      refine kP_any (endN (af' := (AF.put AF0 (some 6) (.exact (.bool x6_j443)))) (σ' := []) _ rfl ?_ ⟨rfl, rfl⟩)
      exact Sub.of_le (AF.le_put (AV.le_eq rfl) (AF.le_top _))
end Go.Proofs.Ytkplmgdmkfgjhaa
