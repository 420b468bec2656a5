/- The functions compute their models, by program. -/
import Derived.Test.YtkplmgdmkfgjhaaQc7
namespace Go.Proofs.Ytkplmgdmkfgjhaa
open Go.RowKit
attribute [local irreducible] AV.exact AV.top AV.row AV.ptr AV.agg AV.tup AV.eptr AV.fn AV.nilq AV.nilqn opA opB opM opR Quiet Loud Reads wpG awp den Sub SubU Pure Fun vecI vecT boxI CellsAll CellsOf OneC LEs LEss
set_option maxRecDepth 100000

set_option maxHeartbeats 4000000 in
theorem m_ref35_Disk_missing_ok {w0 : Nat} (a0 : Int × (List ((List UInt8) × Int)) × (List ((List UInt8) × Int)) × (List ((List UInt8) × Int)) × (List (Int × (List UInt8) × (List UInt8) × Int)) × Int × Bool × Int) (a1 : List UInt8) (r : Int) (h : m_ref35_Disk_missing a0 a1 = some r) : Fun Try.prog 96 [(pA w0 0), (.exact (.string (bs a1)))] [boxI 67 w0 [.exact (.int .i64 a0.1), .row 2 c_cspcheckref35_File a0.2.1, .row 2 c_cspcheckref35_Name a0.2.2.1, .row 2 c_cspcheckref35_Name a0.2.2.2.1, .row 4 c_cspcheckref35_Op a0.2.2.2.2.1, .exact (.int .i64 a0.2.2.2.2.2.1), .exact (.bool a0.2.2.2.2.2.2.1), .exact (.int .i64 a0.2.2.2.2.2.2.2)]] (fun a s => a = .exact (.int .i64 r) ∧ s = [boxI 67 w0 [.exact (.int .i64 a0.1), .row 2 c_cspcheckref35_File a0.2.1, .row 2 c_cspcheckref35_Name a0.2.2.1, .row 2 c_cspcheckref35_Name a0.2.2.2.1, .row 4 c_cspcheckref35_Op a0.2.2.2.2.1, .exact (.int .i64 a0.2.2.2.2.2.1), .exact (.bool a0.2.2.2.2.2.2.1), .exact (.int .i64 a0.2.2.2.2.2.2.2)]]) := by
  unfold m_ref35_Disk_missing at h
  refine fun_of_awp Try.func96 rfl Try.ntmps96 (by simp) rfl (res1 rfl) fun E hE => k_end ?_
  refine k_seq ?_
  refine k_reg .free hmixP (by kernel_rfl) ?_
  refine G_q rfl (op_assign (av := .exact (.int .i64 0)) rfl ?_)
  refine G_nil ?_
  refine kC_normal ?_
  refine k_seq ?_
  refine k_block ?_
  refine k_seq ?_
  refine k_reg .free hmixP (by kernel_rfl) ?_
  refine G_q rfl (op_move (av := pA w0 0) rfl ?_)
  refine G_q rfl (op_nilCheck rfl ?_)
  refine G_q rfl (op_fieldAddr (o := 6) (by kernel_rfl) rfl ?_)
  refine G_r rfl (op_load_box1 (a := .exact (.bool a0.2.2.2.2.2.2.1)) (by kernel_rfl) rfl rfl ?_)
  refine G_q rfl (op_assign (av := .exact (.bool a0.2.2.2.2.2.2.1)) rfl ?_)
  refine G_nil ?_
  refine kC_normal ?_
  refine k_cond_b (c := a0.2.2.2.2.2.2.1) rfl (fun hc => ?_) (fun hc => ?_)
  · replace h := ite_t h hc
    refine k_seq ?_
    refine k_reg .free hmixP (by kernel_rfl) ?_
    refine G_q rfl (op_assign (av := .exact (.int .i64 25)) rfl ?_)
    refine G_nil ?_
    refine kC_normal ?_
    refine k_ret ?_
    refine kB_ret ?_
    refine kC_ret ?_
    obtain rfl := Option.some.inj h
    refine kP_any (endN (af' := (AF.put AF0 (some 4) (.exact (.int .i64 25)))) (σ' := [boxI 67 w0 [.exact (.int .i64 a0.1), .row 2 c_cspcheckref35_File a0.2.1, .row 2 c_cspcheckref35_Name a0.2.2.1, .row 2 c_cspcheckref35_Name a0.2.2.2.1, .row 4 c_cspcheckref35_Op a0.2.2.2.2.1, .exact (.int .i64 a0.2.2.2.2.2.1), .exact (.bool a0.2.2.2.2.2.2.1), .exact (.int .i64 a0.2.2.2.2.2.2.2)]]) _ rfl ?_ ⟨rfl, rfl⟩)
    exact Sub.of_le (AF.le_put (AV.le_eq rfl) (AF.le_top _))
  · replace h := ite_f h hc
    refine k_seq ?_
    refine k_reg .free hmixP (by kernel_rfl) ?_
    refine G_q rfl (op_move (av := .exact (.string (bs a1))) rfl ?_)
    obtain ⟨y1, hy1, h⟩ := bnd1_some h
    refine G_q rfl (op_pure (m_ref35_good_ok _ _ hy1) Try.func92 (by kernel_rfl) (LEs.cons (AV.le_eq rfl) LEs.nil) ?_)
    refine G_q rfl (op_not rfl ?_)
    refine G_q rfl (op_assign (av := .exact (.bool (!y1))) rfl ?_)
    refine G_nil ?_
    refine kC_normal ?_
    refine k_cond_b (c := !y1) rfl (fun hc => ?_) (fun hc => ?_)
    · replace h := ite_t h hc
      refine k_seq ?_
      refine k_reg .free hmixP (by kernel_rfl) ?_
      refine G_q rfl (op_assign (av := .exact (.int .i64 1)) rfl ?_)
      refine G_nil ?_
      refine kC_normal ?_
      refine k_ret ?_
      refine kB_ret ?_
      refine kC_ret ?_
      obtain rfl := Option.some.inj h
      refine kP_any (endN (af' := (AF.put AF0 (some 4) (.exact (.int .i64 1)))) (σ' := [boxI 67 w0 [.exact (.int .i64 a0.1), .row 2 c_cspcheckref35_File a0.2.1, .row 2 c_cspcheckref35_Name a0.2.2.1, .row 2 c_cspcheckref35_Name a0.2.2.2.1, .row 4 c_cspcheckref35_Op a0.2.2.2.2.1, .exact (.int .i64 a0.2.2.2.2.2.1), .exact (.bool a0.2.2.2.2.2.2.1), .exact (.int .i64 a0.2.2.2.2.2.2.2)]]) _ rfl ?_ ⟨rfl, rfl⟩)
      exact Sub.of_le (AF.le_put (AV.le_eq rfl) (AF.le_top _))
    · replace h := ite_f h hc
      refine k_seq ?_
      refine k_reg .free hmixP (by kernel_rfl) ?_
      refine G_q rfl (op_move (av := pA w0 0) rfl ?_)
      refine G_q rfl (op_nilCheck rfl ?_)
      refine G_q rfl (op_fieldAddr (o := 2) (by kernel_rfl) rfl ?_)
      refine G_r rfl (op_load_box1 (a := .row 2 c_cspcheckref35_Name a0.2.2.1) (by kernel_rfl) rfl rfl ?_)
      refine G_q rfl (op_move (av := .exact (.string (bs a1))) rfl ?_)
      obtain ⟨y2, hy2, h⟩ := bnd1_some h
      refine G_q rfl (op_pure (m_ref35_find_ok _ _ _ hy2) Try.func91 (by kernel_rfl) (LEs.cons (AV.le_eq rfl) (LEs.cons (AV.le_eq rfl) LEs.nil)) ?_)
      refine G_q rfl (op_lss rfl rfl ?_)
      refine G_q rfl (op_assign (av := .exact (.bool (decide (y2 < 0)))) rfl ?_)
      refine G_nil ?_
      refine kC_normal ?_
      refine k_cond_d (p := y2 < 0) rfl (fun hc => ?_) (fun hc => ?_)
      · replace h := ite_t h hc
        refine k_seq ?_
        refine k_reg .free hmixP (by kernel_rfl) ?_
        refine G_q rfl (op_assign (av := .exact (.int .i64 21)) rfl ?_)
        refine G_nil ?_
        refine kC_normal ?_
        refine k_ret ?_
        refine kB_ret ?_
        refine kC_ret ?_
        obtain rfl := Option.some.inj h
        refine kP_any (endN (af' := (AF.put AF0 (some 4) (.exact (.int .i64 21)))) (σ' := [boxI 67 w0 [.exact (.int .i64 a0.1), .row 2 c_cspcheckref35_File a0.2.1, .row 2 c_cspcheckref35_Name a0.2.2.1, .row 2 c_cspcheckref35_Name a0.2.2.2.1, .row 4 c_cspcheckref35_Op a0.2.2.2.2.1, .exact (.int .i64 a0.2.2.2.2.2.1), .exact (.bool a0.2.2.2.2.2.2.1), .exact (.int .i64 a0.2.2.2.2.2.2.2)]]) _ rfl ?_ ⟨rfl, rfl⟩)
        exact Sub.of_le (AF.le_put (AV.le_eq rfl) (AF.le_top _))
      · replace h := ite_f h hc
        refine k_skip ?_
        refine kB_normal ?_
        refine kC_normal ?_
        refine k_seq ?_
        refine k_reg .free hmixP (by kernel_rfl) ?_
        refine G_q rfl (op_assign (av := .exact (.int .i64 0)) rfl ?_)
        refine G_nil ?_
        refine kC_normal ?_
        refine k_ret ?_
        obtain rfl := Option.some.inj h
        refine kP_any (endN (af' := (AF.put AF0 (some 4) (.exact (.int .i64 0)))) (σ' := [boxI 67 w0 [.exact (.int .i64 a0.1), .row 2 c_cspcheckref35_File a0.2.1, .row 2 c_cspcheckref35_Name a0.2.2.1, .row 2 c_cspcheckref35_Name a0.2.2.2.1, .row 4 c_cspcheckref35_Op a0.2.2.2.2.1, .exact (.int .i64 a0.2.2.2.2.2.1), .exact (.bool a0.2.2.2.2.2.2.1), .exact (.int .i64 a0.2.2.2.2.2.2.2)]]) _ rfl ?_ ⟨rfl, rfl⟩)
        exact Sub.of_le (AF.le_put (AV.le_eq rfl) (AF.le_top _))
set_option maxHeartbeats 4000000 in
theorem m_ref35_Disk_Sync_ok {w0 : Nat} (a0 : Int × (List ((List UInt8) × Int)) × (List ((List UInt8) × Int)) × (List ((List UInt8) × Int)) × (List (Int × (List UInt8) × (List UInt8) × Int)) × Int × Bool × Int) (a1 : List UInt8) (r : Int × (Int × (List ((List UInt8) × Int)) × (List ((List UInt8) × Int)) × (List ((List UInt8) × Int)) × (List (Int × (List UInt8) × (List UInt8) × Int)) × Int × Bool × Int)) (h : m_ref35_Disk_Sync a0 a1 = some r) : Fun Try.prog 67 [(pA w0 0), (.exact (.string (bs a1)))] [boxI 67 w0 [.exact (.int .i64 a0.1), .row 2 c_cspcheckref35_File a0.2.1, .row 2 c_cspcheckref35_Name a0.2.2.1, .row 2 c_cspcheckref35_Name a0.2.2.2.1, .row 4 c_cspcheckref35_Op a0.2.2.2.2.1, .exact (.int .i64 a0.2.2.2.2.2.1), .exact (.bool a0.2.2.2.2.2.2.1), .exact (.int .i64 a0.2.2.2.2.2.2.2)]] (fun a s => a = .exact (.int .i64 r.1) ∧ s = [boxI 67 w0 [.exact (.int .i64 r.2.1), .row 2 c_cspcheckref35_File r.2.2.1, .row 2 c_cspcheckref35_Name r.2.2.2.1, .row 2 c_cspcheckref35_Name r.2.2.2.2.1, .row 4 c_cspcheckref35_Op r.2.2.2.2.2.1, .exact (.int .i64 r.2.2.2.2.2.2.1), .exact (.bool r.2.2.2.2.2.2.2.1), .exact (.int .i64 r.2.2.2.2.2.2.2.2)]]) := by
  unfold m_ref35_Disk_Sync at h
  refine fun_of_awp Try.func67 rfl Try.ntmps67 (by simp) rfl (res1 rfl) fun E hE => k_end ?_
  refine k_seq ?_
  refine k_reg .free hmixP (by kernel_rfl) ?_
  refine G_q rfl (op_assign (av := .exact (.int .i64 0)) rfl ?_)
  refine G_nil ?_
  refine kC_normal ?_
  refine k_seq ?_
  refine k_reg .free hmixP (by kernel_rfl) ?_
  refine G_q rfl (op_move (av := pA w0 0) rfl ?_)
  refine G_q rfl (op_move (av := .exact (.string (bs a1))) rfl ?_)
  obtain ⟨y1, hy1, h⟩ := bnd1_some h
  refine G_l rfl (op_fun_1_0_1 (m_ref35_Disk_missing_ok _ _ _ hy1) Try.func96 (by kernel_rfl) (LEs.cons (AV.le_eq rfl) (LEs.cons (AV.le_eq rfl) LEs.nil)) ?_)
  refine G_q rfl (op_assign (av := .exact (.int .i64 y1)) rfl ?_)
  refine G_nil ?_
  refine kC_normal ?_
  refine k_seq ?_
  refine k_seq ?_
  refine k_reg .free hmixP (by kernel_rfl) ?_
  refine G_q rfl (op_move (av := .exact (.int .i64 y1)) rfl ?_)
  refine G_q rfl (op_neq rfl rfl ?_)
  refine G_nil ?_
  refine kC_normal ?_
  refine k_cond_d (p := ¬ y1 = 0) rfl (fun hc => ?_) (fun hc => ?_)
  · replace h := ite_t h hc
    refine k_seq ?_
    refine k_reg .free hmixP (by kernel_rfl) ?_
    refine G_q rfl (op_move (av := .exact (.int .i64 y1)) rfl ?_)
    refine G_q rfl (op_assign (av := .exact (.int .i64 y1)) rfl ?_)
    refine G_nil ?_
    refine kC_normal ?_
    refine k_ret ?_
    refine kC_ret ?_
    obtain rfl := Option.some.inj h
    refine kP_any (endN (af' := (AF.put AF0 (some 4) (.exact (.int .i64 y1)))) (σ' := [boxI 67 w0 [.exact (.int .i64 a0.1), .row 2 c_cspcheckref35_File a0.2.1, .row 2 c_cspcheckref35_Name a0.2.2.1, .row 2 c_cspcheckref35_Name a0.2.2.2.1, .row 4 c_cspcheckref35_Op a0.2.2.2.2.1, .exact (.int .i64 a0.2.2.2.2.2.1), .exact (.bool a0.2.2.2.2.2.2.1), .exact (.int .i64 a0.2.2.2.2.2.2.2)]]) _ rfl ?_ ⟨rfl, rfl⟩)
    exact Sub.of_le (AF.le_put (AV.le_eq rfl) (AF.le_top _))
  · replace h := ite_f h hc
    refine k_skip ?_
    refine kC_normal ?_
    refine k_seq ?_
    refine k_seq ?_
    refine k_reg .free hmixP (by kernel_rfl) ?_
    refine G_q rfl (op_move (av := pA w0 0) rfl ?_)
    obtain ⟨y2, hy2, h⟩ := bnd1_some h
    refine G_l rfl (op_fun_1_0_1 (m_ref35_Disk_write_ok _ _ hy2) Try.func94 (by kernel_rfl) (LEs.cons (AV.le_eq rfl) LEs.nil) ?_)
    refine G_nil ?_
    refine kC_normal ?_
    refine k_cond_b (c := y2.1) rfl (fun hc => ?_) (fun hc => ?_)
    · replace h := ite_t h hc
      refine k_seq ?_
      refine k_reg .free hmixP (by kernel_rfl) ?_
      refine G_q rfl (op_assign (av := .exact (.int .i64 25)) rfl ?_)
      refine G_nil ?_
      refine kC_normal ?_
      refine k_ret ?_
      refine kC_ret ?_
      obtain rfl := Option.some.inj h
      refine kP_any (endN (af' := (AF.put AF0 (some 4) (.exact (.int .i64 25)))) (σ' := [boxI 67 w0 [.exact (.int .i64 y2.2.1), .row 2 c_cspcheckref35_File y2.2.2.1, .row 2 c_cspcheckref35_Name y2.2.2.2.1, .row 2 c_cspcheckref35_Name y2.2.2.2.2.1, .row 4 c_cspcheckref35_Op y2.2.2.2.2.2.1, .exact (.int .i64 y2.2.2.2.2.2.2.1), .exact (.bool y2.2.2.2.2.2.2.2.1), .exact (.int .i64 y2.2.2.2.2.2.2.2.2)]]) _ rfl ?_ ⟨rfl, rfl⟩)
      exact Sub.of_le (AF.le_put (AV.le_eq rfl) (AF.le_top _))
    · replace h := ite_f h hc
      refine k_skip ?_
      refine kC_normal ?_
      refine k_seq ?_
      refine k_reg .free hmixP (by kernel_rfl) ?_
      refine G_q rfl (op_move (av := pA w0 0) rfl ?_)
      refine G_q rfl (op_nilCheck rfl ?_)
      refine G_q rfl (op_fieldAddr (o := 2) (by kernel_rfl) rfl ?_)
      refine G_r rfl (op_load_box1 (a := .row 2 c_cspcheckref35_Name y2.2.2.2.1) (by kernel_rfl) rfl rfl ?_)
      refine G_q rfl (op_move (av := .exact (.string (bs a1))) rfl ?_)
      obtain ⟨y3, hy3, h⟩ := bnd1_some h
      refine G_q rfl (op_pure (m_ref35_find_ok _ _ _ hy3) Try.func91 (by kernel_rfl) (LEs.cons (AV.le_eq rfl) (LEs.cons (AV.le_eq rfl) LEs.nil)) ?_)
      refine G_q rfl (op_assign (av := .exact (.int .i64 y3)) rfl ?_)
      refine G_nil ?_
      refine kC_normal ?_
      refine k_seq ?_
      refine k_reg .free hmixP (by kernel_rfl) ?_
      refine G_l rfl (op_lit0I (enc := c_cspcheckref35_File) (n := 2) (by kernel_rfl) (fun v4 => ?_))
      refine G_q rfl (op_move (av := pA w0 0) rfl ?_)
      refine G_q rfl (op_nilCheck rfl ?_)
      refine G_q rfl (op_fieldAddr (o := 1) (by kernel_rfl) rfl ?_)
      refine G_r rfl (opR_f1 (op_load_box1 (a := .row 2 c_cspcheckref35_File y2.2.2.1) (by kernel_rfl) rfl rfl ?_))
      obtain ⟨n5, h⟩ := need_some h
      refine G_l rfl (op_appT (by kernel_rfl) rfl rfl oc_c_cspcheckref35_File n5 (fun v6 => ?_))
      refine G_q rfl (op_assign (av := .exact v6) rfl ?_)
      refine G_nil ?_
      refine kC_normal ?_
      refine k_seq ?_
      refine k_reg .free hmixP (by kernel_rfl) ?_
      refine G_q rfl (op_move (av := .exact v6) rfl ?_)
      refine G_q rfl (op_move (av := .exact (.int .i64 y3)) rfl ?_)
      refine G_q rfl (op_move (av := .exact v6) rfl ?_)
      refine G_q rfl (op_move (av := .exact (.int .i64 y3)) rfl ?_)
      obtain ⟨n7, h⟩ := need_some h
      refine G_r rfl (op_index_vec (by kernel_rfl) rfl rfl n7.1 n7.2 ?_)
      refine G_q rfl (op_field_eptr (o := 0) (by kernel_rfl) rfl ?_)
      refine G_r rfl (op_load_vec1 (i := y3) (o := 0) (a := .row 1 c_uint8 ((gi (([] : List ((List UInt8) × Int)) ++ y2.2.2.1) y3).1)) (by kernel_rfl) len_c_cspcheckref35_File rfl n7.1 n7.2 rfl ?_)
      refine G_q rfl (op_len_row (by kernel_rfl) rfl ?_)
      obtain ⟨n8, h⟩ := need_some h
      refine G_r rfl (op_index_vec (by kernel_rfl) rfl rfl n8.1 n8.2 ?_)
      refine G_q rfl (op_field_eptr (o := 1) (by kernel_rfl) rfl ?_)
      refine G_l rfl (op_store_vec (i := y3) (o := 1) (z := ((gi (([] : List ((List UInt8) × Int)) ++ y2.2.2.1) y3).1, (List.length ((gi (([] : List ((List UInt8) × Int)) ++ y2.2.2.1) y3).1) : Int))) (c' := [.exact (.int .i64 (List.length ((gi (([] : List ((List UInt8) × Int)) ++ y2.2.2.1) y3).1) : Int))]) (by kernel_rfl) len_c_cspcheckref35_File rfl n8.1 n8.2 rfl CellsOf.int (LEs.cons (AV.le_eq rfl) LEs.nil) (OneC.int OneC.nil) (by kernel_rfl) (Nat.le_of_ble_eq_true rfl) rfl ?_)
      refine G_nil ?_
      refine kC_normal ?_
      refine k_seq ?_
      refine k_reg .free hmixP (by kernel_rfl) ?_
      refine G_q rfl (op_move (av := pA w0 0) rfl ?_)
      refine G_q rfl (op_move (av := .exact v6) rfl ?_)
      refine G_q rfl (op_nilCheck rfl ?_)
      refine G_q rfl (op_fieldAddr (o := 1) (by kernel_rfl) rfl ?_)
      refine G_sub rfl (SubU.freezeT3 (s1 := 28) (s2 := 30) (s3 := 39) rfl rfl rfl len_c_cspcheckref35_File) ?_
      refine G_l rfl (op_store_box (c' := [.row 2 c_cspcheckref35_File (List.set (([] : List ((List UInt8) × Int)) ++ y2.2.2.1) (Int.toNat y3) ((gi (([] : List ((List UInt8) × Int)) ++ y2.2.2.1) y3).1, (List.length ((gi (([] : List ((List UInt8) × Int)) ++ y2.2.2.1) y3).1) : Int)))]) (c3 := [.exact (.int .i64 y2.2.1), .row 2 c_cspcheckref35_File (List.set (([] : List ((List UInt8) × Int)) ++ y2.2.2.1) (Int.toNat y3) ((gi (([] : List ((List UInt8) × Int)) ++ y2.2.2.1) y3).1, (List.length ((gi (([] : List ((List UInt8) × Int)) ++ y2.2.2.1) y3).1) : Int))), .row 2 c_cspcheckref35_Name y2.2.2.2.1, .row 2 c_cspcheckref35_Name y2.2.2.2.2.1, .row 4 c_cspcheckref35_Op y2.2.2.2.2.2.1, .exact (.int .i64 y2.2.2.2.2.2.2.1), .exact (.bool y2.2.2.2.2.2.2.2.1), .exact (.int .i64 y2.2.2.2.2.2.2.2.2)]) rfl rfl CellsOf.row (LEs.cons (AV.le_eq rfl) LEs.nil) (OneC.row OneC.nil) (by kernel_rfl) (Nat.le_of_ble_eq_true rfl) rfl ?_)
      refine G_nil ?_
      refine kC_normal ?_
      refine k_seq ?_
      refine k_reg .free hmixP (by kernel_rfl) ?_
      refine G_q rfl (op_move (av := pA w0 0) rfl ?_)
      refine G_q rfl (op_move (av := pA w0 0) rfl ?_)
      refine G_q rfl (op_move (av := pA w0 0) rfl ?_)
      refine G_q rfl (op_nilCheck rfl ?_)
      refine G_q rfl (op_fieldAddr (o := 2) (by kernel_rfl) rfl ?_)
      refine G_r rfl (op_load_box1 (a := .row 2 c_cspcheckref35_Name y2.2.2.2.1) (by kernel_rfl) rfl rfl ?_)
      refine G_q rfl (op_nilCheck rfl ?_)
      refine G_q rfl (op_fieldAddr (o := 3) (by kernel_rfl) rfl ?_)
      refine G_l rfl (op_store_box (c' := [.row 2 c_cspcheckref35_Name y2.2.2.2.1]) (c3 := [.exact (.int .i64 y2.2.1), .row 2 c_cspcheckref35_File (List.set (([] : List ((List UInt8) × Int)) ++ y2.2.2.1) (Int.toNat y3) ((gi (([] : List ((List UInt8) × Int)) ++ y2.2.2.1) y3).1, (List.length ((gi (([] : List ((List UInt8) × Int)) ++ y2.2.2.1) y3).1) : Int))), .row 2 c_cspcheckref35_Name y2.2.2.2.1, .row 2 c_cspcheckref35_Name y2.2.2.2.1, .row 4 c_cspcheckref35_Op y2.2.2.2.2.2.1, .exact (.int .i64 y2.2.2.2.2.2.2.1), .exact (.bool y2.2.2.2.2.2.2.2.1), .exact (.int .i64 y2.2.2.2.2.2.2.2.2)]) rfl rfl CellsOf.row (LEs.cons (AV.le_eq rfl) LEs.nil) (OneC.row OneC.nil) (by kernel_rfl) (Nat.le_of_ble_eq_true rfl) rfl ?_)
      refine G_q rfl (op_nilCheck rfl ?_)
      refine G_q rfl (op_fieldAddr (o := 4) (by kernel_rfl) rfl ?_)
      refine G_l rfl (op_store_box (c' := [.row 4 c_cspcheckref35_Op []]) (c3 := [.exact (.int .i64 y2.2.1), .row 2 c_cspcheckref35_File (List.set (([] : List ((List UInt8) × Int)) ++ y2.2.2.1) (Int.toNat y3) ((gi (([] : List ((List UInt8) × Int)) ++ y2.2.2.1) y3).1, (List.length ((gi (([] : List ((List UInt8) × Int)) ++ y2.2.2.1) y3).1) : Int))), .row 2 c_cspcheckref35_Name y2.2.2.2.1, .row 2 c_cspcheckref35_Name y2.2.2.2.1, .row 4 c_cspcheckref35_Op [], .exact (.int .i64 y2.2.2.2.2.2.2.1), .exact (.bool y2.2.2.2.2.2.2.2.1), .exact (.int .i64 y2.2.2.2.2.2.2.2.2)]) rfl rfl CellsOf.slice (LEs.cons (row_nil (by decide)) LEs.nil) OneC.nilc (by kernel_rfl) (Nat.le_of_ble_eq_true rfl) rfl ?_)
      refine G_nil ?_
      refine kC_normal ?_
      refine k_seq ?_
      refine k_reg .free hmixP (by kernel_rfl) ?_
      refine G_q rfl (op_assign (av := .exact (.int .i64 0)) rfl ?_)
      refine G_nil ?_
      refine kC_normal ?_
      refine k_ret ?_
      obtain rfl := Option.some.inj h
      refine kP_any (endN (af' := (AF.put AF0 (some 4) (.exact (.int .i64 0)))) (σ' := [boxI 67 w0 ([.exact (.int .i64 y2.2.1), .row 2 c_cspcheckref35_File (List.set (([] : List ((List UInt8) × Int)) ++ y2.2.2.1) (Int.toNat y3) ((gi (([] : List ((List UInt8) × Int)) ++ y2.2.2.1) y3).1, (List.length ((gi (([] : List ((List UInt8) × Int)) ++ y2.2.2.1) y3).1) : Int))), .row 2 c_cspcheckref35_Name y2.2.2.2.1, .row 2 c_cspcheckref35_Name y2.2.2.2.1, .row 4 c_cspcheckref35_Op [], .exact (.int .i64 y2.2.2.2.2.2.2.1), .exact (.bool y2.2.2.2.2.2.2.2.1), .exact (.int .i64 y2.2.2.2.2.2.2.2.2)])]) _ rfl ?_ ⟨rfl, rfl⟩)
      exact Sub.of_le (AF.le_put (AV.le_eq rfl) (AF.le_top _))
set_option maxHeartbeats 4000000 in
theorem m_ref35_Write_ok {w0 : Nat} (a0 : Int × (List ((List UInt8) × Int)) × (List ((List UInt8) × Int)) × (List ((List UInt8) × Int)) × (List (Int × (List UInt8) × (List UInt8) × Int)) × Int × Bool × Int) (a1 : List UInt8) (a2 : List (Int × Int)) (a3 : Int) (r : Int × (Int × (List ((List UInt8) × Int)) × (List ((List UInt8) × Int)) × (List ((List UInt8) × Int)) × (List (Int × (List UInt8) × (List UInt8) × Int)) × Int × Bool × Int)) (h : m_ref35_Write a0 a1 a2 a3 = some r) : Fun Try.prog 36 [(pA w0 0), (.exact (.string (bs a1))), (.row 2 c_A2_int a2), (.exact (.int .i64 a3))] [boxI 67 w0 [.exact (.int .i64 a0.1), .row 2 c_cspcheckref35_File a0.2.1, .row 2 c_cspcheckref35_Name a0.2.2.1, .row 2 c_cspcheckref35_Name a0.2.2.2.1, .row 4 c_cspcheckref35_Op a0.2.2.2.2.1, .exact (.int .i64 a0.2.2.2.2.2.1), .exact (.bool a0.2.2.2.2.2.2.1), .exact (.int .i64 a0.2.2.2.2.2.2.2)]] (fun a s => a = .exact (.int .i64 r.1) ∧ s = [boxI 67 w0 [.exact (.int .i64 r.2.1), .row 2 c_cspcheckref35_File r.2.2.1, .row 2 c_cspcheckref35_Name r.2.2.2.1, .row 2 c_cspcheckref35_Name r.2.2.2.2.1, .row 4 c_cspcheckref35_Op r.2.2.2.2.2.1, .exact (.int .i64 r.2.2.2.2.2.2.1), .exact (.bool r.2.2.2.2.2.2.2.1), .exact (.int .i64 r.2.2.2.2.2.2.2.2)]]) := by
  unfold m_ref35_Write at h
  refine fun_of_awp Try.func36 rfl Try.ntmps36 (by simp) rfl (res1 rfl) fun E hE => k_end ?_
  refine k_seq ?_
  refine k_reg .free hmixP (by kernel_rfl) ?_
  refine G_q rfl (op_assign (av := .exact (.int .i64 0)) rfl ?_)
  refine G_nil ?_
  refine kC_normal ?_
  refine k_seq ?_
  refine k_join1_0 h (fun (x24_j5 : Bool) => (AF.put (AF.put (AF.put (AF.put (AF.put AF0 (some 0) (pA w0 0)) (some 1) (.exact (.string (bs a1)))) (some 2) (.row 2 c_A2_int a2)) (some 3) (.exact (.int .i64 a3))) (some 24) (.exact (.bool x24_j5)))) (fun (x24_j5 : Bool) => [boxI 67 w0 [.exact (.int .i64 a0.1), .row 2 c_cspcheckref35_File a0.2.1, .row 2 c_cspcheckref35_Name a0.2.2.1, .row 2 c_cspcheckref35_Name a0.2.2.2.1, .row 4 c_cspcheckref35_Op a0.2.2.2.2.1, .exact (.int .i64 a0.2.2.2.2.2.1), .exact (.bool a0.2.2.2.2.2.2.1), .exact (.int .i64 a0.2.2.2.2.2.2.2)]]) (fun k5 h => ?_) (fun x24_j5 h => ?_)
  · refine k_reg .free hmixP (by kernel_rfl) ?_
    refine G_q rfl (op_move (av := .row 2 c_A2_int a2) rfl ?_)
    obtain ⟨y7, hy7, h⟩ := bnd1_some h
    refine G_q rfl (op_pure (m_ref35_IsRun_ok _ _ hy7) Try.func40 (by kernel_rfl) (LEs.cons (AV.le_eq rfl) LEs.nil) ?_)
    refine G_q rfl (op_not rfl ?_)
    refine G_q rfl (op_move (av := .exact (.bool (!y7))) rfl ?_)
    refine G_splitB (c := !y7) 17 rfl (fun hc => ?_) (fun hc => ?_)
    · replace h := ite_t h hc
      refine G_n rfl rfl ?_
      refine G_n rfl rfl ?_
      refine G_q rfl (op_pick_t rfl (av := .exact (.bool true)) rfl ?_)
      refine G_q rfl (op_move (av := .exact (.bool true)) rfl ?_)
      refine G_n rfl rfl ?_
      refine G_n rfl rfl ?_
      refine G_q rfl (op_pick_t rfl (av := .exact (.bool true)) rfl ?_)
      refine G_nil ?_
      refine kI_normal ⟨_, h, ?_⟩
      exact Sub.of_le (AF.le_put (AV.le_eq rfl) (AF.le_put (AV.le_eq rfl) (AF.le_put (AV.le_eq rfl) (AF.le_put (AV.le_eq rfl) (AF.le_put (AV.le_eq rfl) (AF.le_top _))))))
    · replace h := ite_f h hc
      refine Gy_q rfl rfl rfl (op_move (av := .exact (.int .i64 a3)) rfl ?_)
      refine Gy_q rfl rfl rfl (op_lss rfl rfl ?_)
      refine G_q rfl (op_pick_f rfl (av := .exact (.bool (decide (a3 < 1)))) rfl ?_)
      refine G_q rfl (op_move (av := .exact (.bool (decide (a3 < 1)))) rfl ?_)
      refine G_split (p := a3 < 1) 21 rfl (fun hc => ?_) (fun hc => ?_)
      · replace h := ite_t h hc
        refine G_n rfl rfl ?_
        refine G_n rfl rfl ?_
        refine G_q rfl (op_pick_t rfl (av := .exact (.bool true)) rfl ?_)
        refine G_nil ?_
        refine kI_normal ⟨_, h, ?_⟩
        exact Sub.of_le (AF.le_put (AV.le_eq rfl) (AF.le_put (AV.le_eq rfl) (AF.le_put (AV.le_eq rfl) (AF.le_put (AV.le_eq rfl) (AF.le_put (AV.le_eq rfl) (AF.le_top _))))))
      · replace h := ite_f h hc
        refine Gy_q rfl rfl rfl (op_move (av := .exact (.int .i64 a3)) rfl ?_)
        refine Gy_q rfl rfl rfl (op_gtr rfl rfl ?_)
        refine G_q rfl (op_pick_f rfl (av := .exact (.bool (decide (1024 < a3)))) rfl ?_)
        refine G_nil ?_
        refine kI_normal ⟨_, h, ?_⟩
        exact Sub.of_le (AF.le_put (AV.le_eq rfl) (AF.le_put (AV.le_eq rfl) (AF.le_put (AV.le_eq rfl) (AF.le_put (AV.le_eq rfl) (AF.le_put (AV.le_eq rfl) (AF.le_top _))))))
  · refine k_cond_b (c := x24_j5) rfl (fun hc => ?_) (fun hc => ?_)
    · replace h := ite_t h hc
      refine k_seq ?_
      refine k_reg .free hmixP (by kernel_rfl) ?_
      refine G_q rfl (op_assign (av := .exact (.int .i64 1)) rfl ?_)
      refine G_nil ?_
      refine kC_normal ?_
      refine k_ret ?_
      refine kC_ret ?_
      obtain rfl := Option.some.inj h
      refine kP_any (endN (af' := (AF.put AF0 (some 8) (.exact (.int .i64 1)))) (σ' := [boxI 67 w0 [.exact (.int .i64 a0.1), .row 2 c_cspcheckref35_File a0.2.1, .row 2 c_cspcheckref35_Name a0.2.2.1, .row 2 c_cspcheckref35_Name a0.2.2.2.1, .row 4 c_cspcheckref35_Op a0.2.2.2.2.1, .exact (.int .i64 a0.2.2.2.2.2.1), .exact (.bool a0.2.2.2.2.2.2.1), .exact (.int .i64 a0.2.2.2.2.2.2.2)]]) _ rfl ?_ ⟨rfl, rfl⟩)
      exact Sub.of_le (AF.le_put (AV.le_eq rfl) (AF.le_top _))
    · replace h := ite_f h hc
      refine k_skip ?_
      refine kC_normal ?_
      refine k_join8_0 h (fun (x0_0_j8 : Int) (x0_1_j8 : List ((List UInt8) × Int)) (x0_2_j8 : List ((List UInt8) × Int)) (x0_3_j8 : List ((List UInt8) × Int)) (x0_4_j8 : List (Int × (List UInt8) × (List UInt8) × Int)) (x0_5_j8 : Int) (x0_6_j8 : Bool) (x0_7_j8 : Int) => (AF.put (AF.put (AF.put (AF.put AF0 (some 0) (pA w0 0)) (some 1) (.exact (.string (bs a1)))) (some 2) (.row 2 c_A2_int a2)) (some 3) (.exact (.int .i64 a3)))) (fun (x0_0_j8 : Int) (x0_1_j8 : List ((List UInt8) × Int)) (x0_2_j8 : List ((List UInt8) × Int)) (x0_3_j8 : List ((List UInt8) × Int)) (x0_4_j8 : List (Int × (List UInt8) × (List UInt8) × Int)) (x0_5_j8 : Int) (x0_6_j8 : Bool) (x0_7_j8 : Int) => [boxI 67 w0 [.exact (.int .i64 x0_0_j8), .row 2 c_cspcheckref35_File x0_1_j8, .row 2 c_cspcheckref35_Name x0_2_j8, .row 2 c_cspcheckref35_Name x0_3_j8, .row 4 c_cspcheckref35_Op x0_4_j8, .exact (.int .i64 x0_5_j8), .exact (.bool x0_6_j8), .exact (.int .i64 x0_7_j8)]]) (fun k8 h => ?_) (fun x0_0_j8 x0_1_j8 x0_2_j8 x0_3_j8 x0_4_j8 x0_5_j8 x0_6_j8 x0_7_j8 h => ?_)
      · refine k_seq ?_
        refine k_reg .free hmixP (by kernel_rfl) ?_
        refine G_q rfl (op_move (av := .row 2 c_A2_int a2) rfl ?_)
        refine G_q rfl (op_len_row (by kernel_rfl) rfl ?_)
        refine G_q rfl (op_eql rfl rfl ?_)
        refine G_nil ?_
        refine kC_normal ?_
        refine k_cond_d (p := (List.length a2 : Int) = 0) rfl (fun hc => ?_) (fun hc => ?_)
        · replace h := ite_t h hc
          refine k_seq ?_
          refine k_reg .free hmixP (by kernel_rfl) ?_
          refine G_q rfl (op_move (av := pA w0 0) rfl ?_)
          refine G_q rfl (op_move (av := .exact (.string (bs a1))) rfl ?_)
          obtain ⟨y10, hy10, h⟩ := bnd1_some h
          refine G_l rfl (op_fun_1_0_1 (m_ref35_Disk_Append_ok _ _ _ _ hy10) Try.func66 (by kernel_rfl) (LEs.cons (AV.le_eq rfl) (LEs.cons (AV.le_eq rfl) (LEs.cons (row_nil (by decide)) LEs.nil))) ?_)
          refine G_q rfl (op_assign (av := .exact (.int .i64 y10.1)) rfl ?_)
          refine G_nil ?_
          refine kC_normal ?_
          refine k_seq ?_
          refine k_reg .free hmixP (by kernel_rfl) ?_
          refine G_q rfl (op_move (av := .exact (.int .i64 y10.1)) rfl ?_)
          refine G_q rfl (op_neq rfl rfl ?_)
          refine G_nil ?_
          refine kC_normal ?_
          refine k_cond_d (p := ¬ y10.1 = 0) rfl (fun hc => ?_) (fun hc => ?_)
          · replace h := ite_t h hc
            refine k_seq ?_
            refine k_reg .free hmixP (by kernel_rfl) ?_
            refine G_q rfl (op_move (av := .exact (.int .i64 y10.1)) rfl ?_)
            refine G_q rfl (op_assign (av := .exact (.int .i64 y10.1)) rfl ?_)
            refine G_nil ?_
            refine kC_normal ?_
            refine k_ret ?_
            refine kI_ret ?_
            obtain rfl := Option.some.inj h
            refine kP_any (endN (af' := (AF.put AF0 (some 8) (.exact (.int .i64 y10.1)))) (σ' := [boxI 67 w0 [.exact (.int .i64 y10.2.1), .row 2 c_cspcheckref35_File y10.2.2.1, .row 2 c_cspcheckref35_Name y10.2.2.2.1, .row 2 c_cspcheckref35_Name y10.2.2.2.2.1, .row 4 c_cspcheckref35_Op y10.2.2.2.2.2.1, .exact (.int .i64 y10.2.2.2.2.2.2.1), .exact (.bool y10.2.2.2.2.2.2.2.1), .exact (.int .i64 y10.2.2.2.2.2.2.2.2)]]) _ rfl ?_ ⟨rfl, rfl⟩)
            exact Sub.of_le (AF.le_put (AV.le_eq rfl) (AF.le_top _))
          · replace h := ite_f h hc
            refine k_skip ?_
            refine kI_normal ⟨_, _, _, _, _, _, _, _, h, ?_⟩
            exact Sub.of_le (AF.le_put (AV.le_eq rfl) (AF.le_put (AV.le_eq rfl) (AF.le_put (AV.le_eq rfl) (AF.le_put (AV.le_eq rfl) (AF.le_top _)))))
        · replace h := ite_f h hc
          refine k_skip ?_
          refine kI_normal ⟨_, _, _, _, _, _, _, _, h, ?_⟩
          exact Sub.of_le (AF.le_put (AV.le_eq rfl) (AF.le_put (AV.le_eq rfl) (AF.le_put (AV.le_eq rfl) (AF.le_put (AV.le_eq rfl) (AF.le_top _)))))
      · refine k_join8_0 h (fun (x0_0_j11 : Int) (x0_1_j11 : List ((List UInt8) × Int)) (x0_2_j11 : List ((List UInt8) × Int)) (x0_3_j11 : List ((List UInt8) × Int)) (x0_4_j11 : List (Int × (List UInt8) × (List UInt8) × Int)) (x0_5_j11 : Int) (x0_6_j11 : Bool) (x0_7_j11 : Int) => (AF.put (AF.put AF0 (some 0) (pA w0 0)) (some 1) (.exact (.string (bs a1))))) (fun (x0_0_j11 : Int) (x0_1_j11 : List ((List UInt8) × Int)) (x0_2_j11 : List ((List UInt8) × Int)) (x0_3_j11 : List ((List UInt8) × Int)) (x0_4_j11 : List (Int × (List UInt8) × (List UInt8) × Int)) (x0_5_j11 : Int) (x0_6_j11 : Bool) (x0_7_j11 : Int) => [boxI 67 w0 [.exact (.int .i64 x0_0_j11), .row 2 c_cspcheckref35_File x0_1_j11, .row 2 c_cspcheckref35_Name x0_2_j11, .row 2 c_cspcheckref35_Name x0_3_j11, .row 4 c_cspcheckref35_Op x0_4_j11, .exact (.int .i64 x0_5_j11), .exact (.bool x0_6_j11), .exact (.int .i64 x0_7_j11)]]) (fun k11 h => ?_) (fun x0_0_j11 x0_1_j11 x0_2_j11 x0_3_j11 x0_4_j11 x0_5_j11 x0_6_j11 x0_7_j11 h => ?_)
        · refine k_seq ?_
          refine k_reg .free hmixP (by kernel_rfl) ?_
          refine G_q rfl (op_assign (av := .exact (.int .i64 0)) rfl ?_)
          refine G_nil ?_
          refine kC_normal ?_
          refine k_block ?_
          refine k_loop9_0 (m_ref35_Write_L2 a1 a2 a3 k11) (m_ref35_Write_B2 a1 a2 a3 k11) (fun _ _ _ _ _ _ _ _ _ => rfl) (fun m _ _ _ _ _ _ _ _ _ => rfl) h (fun (x0_0_l2 : Int) (x0_1_l2 : List ((List UInt8) × Int)) (x0_2_l2 : List ((List UInt8) × Int)) (x0_3_l2 : List ((List UInt8) × Int)) (x0_4_l2 : List (Int × (List UInt8) × (List UInt8) × Int)) (x0_5_l2 : Int) (x0_6_l2 : Bool) (x0_7_l2 : Int) (x10_l2 : Int) => (AF.put (AF.put (AF.put (AF.put (AF.put AF0 (some 0) (pA w0 0)) (some 1) (.exact (.string (bs a1)))) (some 2) (.row 2 c_A2_int a2)) (some 3) (.exact (.int .i64 a3))) (some 10) (.exact (.int .i64 x10_l2)))) (fun (x0_0_l2 : Int) (x0_1_l2 : List ((List UInt8) × Int)) (x0_2_l2 : List ((List UInt8) × Int)) (x0_3_l2 : List ((List UInt8) × Int)) (x0_4_l2 : List (Int × (List UInt8) × (List UInt8) × Int)) (x0_5_l2 : Int) (x0_6_l2 : Bool) (x0_7_l2 : Int) (x10_l2 : Int) => [boxI 67 w0 [.exact (.int .i64 x0_0_l2), .row 2 c_cspcheckref35_File x0_1_l2, .row 2 c_cspcheckref35_Name x0_2_l2, .row 2 c_cspcheckref35_Name x0_3_l2, .row 4 c_cspcheckref35_Op x0_4_l2, .exact (.int .i64 x0_5_l2), .exact (.bool x0_6_l2), .exact (.int .i64 x0_7_l2)]]) ?_ (fun rec2 x0_0_l2 x0_1_l2 x0_2_l2 x0_3_l2 x0_4_l2 x0_5_l2 x0_6_l2 x0_7_l2 x10_l2 h => ?_)
          · exact Sub.of_le (AF.le_put (AV.le_eq rfl) (AF.le_put (AV.le_eq rfl) (AF.le_put (AV.le_eq rfl) (AF.le_put (AV.le_eq rfl) (AF.le_put (AV.le_eq rfl) (AF.le_top _))))))
          · unfold m_ref35_Write_B2 at h
            refine k_seq ?_
            refine k_seq ?_
            refine k_reg .free hmixP (by kernel_rfl) ?_
            refine G_q rfl (op_move (av := .exact (.int .i64 x10_l2)) rfl ?_)
            refine G_q rfl (op_move (av := .row 2 c_A2_int a2) rfl ?_)
            refine G_q rfl (op_len_row (by kernel_rfl) rfl ?_)
            refine G_q rfl (op_lss rfl rfl ?_)
            refine G_nil ?_
            refine kC_normal ?_
            refine k_cond_d (p := x10_l2 < (List.length a2 : Int)) rfl (fun hc => ?_) (fun hc => ?_)
            · replace h := ite_t h hc
              refine k_skip ?_
              refine kC_normal ?_
              refine k_seq ?_
              refine k_block ?_
              refine k_seq ?_
              refine k_reg .free hmixP (by kernel_rfl) ?_
              refine G_q rfl (op_move (av := .row 2 c_A2_int a2) rfl ?_)
              refine G_q rfl (op_move (av := .exact (.int .i64 x10_l2)) rfl ?_)
              refine G_q rfl (op_move (av := .exact (.int .i64 x10_l2)) rfl ?_)
              refine G_q rfl (op_move (av := .exact (.int .i64 a3)) rfl ?_)
              refine G_q rfl (op_add rfl rfl rfl ?_)
              refine G_q rfl (op_move (av := .row 2 c_A2_int a2) rfl ?_)
              refine G_q rfl (op_len_row (by kernel_rfl) rfl ?_)
              refine G_q rfl (op_min rfl rfl ?_)
              obtain ⟨n28, h⟩ := need_some h
              refine G_q rfl (op_slice_row (by kernel_rfl) rfl (bnd_some rfl) (bnd_some rfl) n28.1 n28.2.1 n28.2.2 ?_)
              obtain ⟨y29, hy29, h⟩ := bnd1_some h
              refine G_q rfl (op_pure (m_ref35_EncodeBlock_ok _ _ hy29) Try.func16 (by kernel_rfl) (LEs.cons (AV.le_eq rfl) LEs.nil) ?_)
              refine G_q rfl (op_move (av := .tup [.row 1 c_uint8 y29.1, .exact (.int .i64 y29.2)]) rfl ?_)
              refine G_q rfl (op_extract (av := .row 1 c_uint8 y29.1) rfl rfl ?_)
              refine G_q rfl (op_extract (av := .exact (.int .i64 y29.2)) rfl rfl ?_)
              refine G_q rfl (op_assign (av := .row 1 c_uint8 y29.1) rfl ?_)
              refine G_q rfl (op_assign (av := .exact (.int .i64 y29.2)) rfl ?_)
              refine G_nil ?_
              refine kC_normal ?_
              refine k_seq ?_
              refine k_reg .free hmixP (by kernel_rfl) ?_
              refine G_q rfl (op_move (av := pA w0 0) rfl ?_)
              refine G_q rfl (op_move (av := .exact (.string (bs a1))) rfl ?_)
              refine G_q rfl (op_move (av := .row 1 c_uint8 y29.1) rfl ?_)
              obtain ⟨y30, hy30, h⟩ := bnd1_some h
              refine G_l rfl (op_fun_1_0_1 (m_ref35_Disk_Append_ok _ _ _ _ hy30) Try.func66 (by kernel_rfl) (LEs.cons (AV.le_eq rfl) (LEs.cons (AV.le_eq rfl) (LEs.cons (AV.le_eq rfl) LEs.nil))) ?_)
              refine G_q rfl (op_assign (av := .exact (.int .i64 y30.1)) rfl ?_)
              refine G_nil ?_
              refine kC_normal ?_
              refine k_seq ?_
              refine k_reg .free hmixP (by kernel_rfl) ?_
              refine G_q rfl (op_move (av := .exact (.int .i64 y30.1)) rfl ?_)
              refine G_q rfl (op_neq rfl rfl ?_)
              refine G_nil ?_
              refine kC_normal ?_
              refine k_cond_d (p := ¬ y30.1 = 0) rfl (fun hc => ?_) (fun hc => ?_)
              · replace h := ite_t h hc
                refine k_seq ?_
                refine k_reg .free hmixP (by kernel_rfl) ?_
                refine G_q rfl (op_move (av := .exact (.int .i64 y30.1)) rfl ?_)
                refine G_q rfl (op_assign (av := .exact (.int .i64 y30.1)) rfl ?_)
                refine G_nil ?_
                refine kC_normal ?_
                refine k_ret ?_
                refine kB_ret ?_
                refine kC_ret ?_
                refine kI_ret ?_
                refine kB_ret ?_
                refine kI_ret ?_
                obtain rfl := Option.some.inj h
                refine kP_any (endN (af' := (AF.put AF0 (some 8) (.exact (.int .i64 y30.1)))) (σ' := [boxI 67 w0 [.exact (.int .i64 y30.2.1), .row 2 c_cspcheckref35_File y30.2.2.1, .row 2 c_cspcheckref35_Name y30.2.2.2.1, .row 2 c_cspcheckref35_Name y30.2.2.2.2.1, .row 4 c_cspcheckref35_Op y30.2.2.2.2.2.1, .exact (.int .i64 y30.2.2.2.2.2.2.1), .exact (.bool y30.2.2.2.2.2.2.2.1), .exact (.int .i64 y30.2.2.2.2.2.2.2.2)]]) _ rfl ?_ ⟨rfl, rfl⟩)
                exact Sub.of_le (AF.le_put (AV.le_eq rfl) (AF.le_top _))
              · replace h := ite_f h hc
                refine k_skip ?_
                refine kB_normal ?_
                refine kC_normal ?_
                refine k_reg .free hmixP (by kernel_rfl) ?_
                refine G_q rfl (op_move (av := .exact (.int .i64 x10_l2)) rfl ?_)
                refine G_q rfl (op_move (av := .exact (.int .i64 a3)) rfl ?_)
                refine G_q rfl (op_add rfl rfl rfl ?_)
                refine G_q rfl (op_assign (av := .exact (.int .i64 (i64 (x10_l2 + a3)))) rfl ?_)
                refine G_nil ?_
                refine kI_normal ⟨_, _, _, _, _, _, _, _, _, h, ?_⟩
                exact Sub.of_le (AF.le_put (AV.le_eq rfl) (AF.le_put (AV.le_eq rfl) (AF.le_put (AV.le_eq rfl) (AF.le_put (AV.le_eq rfl) (AF.le_put (AV.le_eq rfl) (AF.le_top _))))))
            · replace h := ite_f h hc
              refine k_exit ?_
              refine kC_exit ?_
              refine kI_exit ?_
              refine kB_exit ?_
              refine kI_normal ⟨_, _, _, _, _, _, _, _, h, ?_⟩
              exact Sub.of_le (AF.le_put (AV.le_eq rfl) (AF.le_put (AV.le_eq rfl) (AF.le_top _)))
        · refine k_seq ?_
          refine k_reg .free hmixP (by kernel_rfl) ?_
          refine G_q rfl (op_move (av := pA w0 0) rfl ?_)
          refine G_q rfl (op_move (av := .exact (.string (bs a1))) rfl ?_)
          obtain ⟨y31, hy31, h⟩ := bnd1_some h
          refine G_l rfl (op_fun_1_0_1 (m_ref35_Disk_Sync_ok _ _ _ hy31) Try.func67 (by kernel_rfl) (LEs.cons (AV.le_eq rfl) (LEs.cons (AV.le_eq rfl) LEs.nil)) ?_)
          refine G_q rfl (op_assign (av := .exact (.int .i64 y31.1)) rfl ?_)
          refine G_nil ?_
          refine kC_normal ?_
          refine k_ret ?_
          obtain rfl := Option.some.inj h
          refine kP_any (endN (af' := (AF.put AF0 (some 8) (.exact (.int .i64 y31.1)))) (σ' := [boxI 67 w0 [.exact (.int .i64 y31.2.1), .row 2 c_cspcheckref35_File y31.2.2.1, .row 2 c_cspcheckref35_Name y31.2.2.2.1, .row 2 c_cspcheckref35_Name y31.2.2.2.2.1, .row 4 c_cspcheckref35_Op y31.2.2.2.2.2.1, .exact (.int .i64 y31.2.2.2.2.2.2.1), .exact (.bool y31.2.2.2.2.2.2.2.1), .exact (.int .i64 y31.2.2.2.2.2.2.2.2)]]) _ rfl ?_ ⟨rfl, rfl⟩)
          exact Sub.of_le (AF.le_put (AV.le_eq rfl) (AF.le_top _))
set_option maxHeartbeats 4000000 in
theorem m_ref35_Disk_Read_ok {w0 : Nat} (a0 : Int × (List ((List UInt8) × Int)) × (List ((List UInt8) × Int)) × (List ((List UInt8) × Int)) × (List (Int × (List UInt8) × (List UInt8) × Int)) × Int × Bool × Int) (a1 : List UInt8) (r : (List UInt8) × Int × (Int × (List ((List UInt8) × Int)) × (List ((List UInt8) × Int)) × (List ((List UInt8) × Int)) × (List (Int × (List UInt8) × (List UInt8) × Int)) × Int × Bool × Int)) (h : m_ref35_Disk_Read a0 a1 = some r) : Fun Try.prog 68 [(pA w0 0), (.exact (.string (bs a1)))] [boxI 67 w0 [.exact (.int .i64 a0.1), .row 2 c_cspcheckref35_File a0.2.1, .row 2 c_cspcheckref35_Name a0.2.2.1, .row 2 c_cspcheckref35_Name a0.2.2.2.1, .row 4 c_cspcheckref35_Op a0.2.2.2.2.1, .exact (.int .i64 a0.2.2.2.2.2.1), .exact (.bool a0.2.2.2.2.2.2.1), .exact (.int .i64 a0.2.2.2.2.2.2.2)]] (fun a s => a = .tup [.row 1 c_uint8 r.1, .exact (.int .i64 r.2.1)] ∧ s = [boxI 67 w0 [.exact (.int .i64 r.2.2.1), .row 2 c_cspcheckref35_File r.2.2.2.1, .row 2 c_cspcheckref35_Name r.2.2.2.2.1, .row 2 c_cspcheckref35_Name r.2.2.2.2.2.1, .row 4 c_cspcheckref35_Op r.2.2.2.2.2.2.1, .exact (.int .i64 r.2.2.2.2.2.2.2.1), .exact (.bool r.2.2.2.2.2.2.2.2.1), .exact (.int .i64 r.2.2.2.2.2.2.2.2.2)]]) := by
  unfold m_ref35_Disk_Read at h
  refine fun_of_awp Try.func68 rfl Try.ntmps68 (by simp) rfl (res2 rfl) fun E hE => k_end ?_
  refine k_seq ?_
  refine k_reg .free hmixP (by kernel_rfl) ?_
  refine G_q rfl (op_assign (av := .exact (.slice none 0 0)) rfl ?_)
  refine G_q rfl (op_assign (av := .exact (.int .i64 0)) rfl ?_)
  refine G_nil ?_
  refine kC_normal ?_
  refine k_seq ?_
  refine k_reg .free hmixP (by kernel_rfl) ?_
  refine G_q rfl (op_move (av := pA w0 0) rfl ?_)
  refine G_q rfl (op_move (av := .exact (.string (bs a1))) rfl ?_)
  obtain ⟨y1, hy1, h⟩ := bnd1_some h
  refine G_l rfl (op_fun_1_0_1 (m_ref35_Disk_missing_ok _ _ _ hy1) Try.func96 (by kernel_rfl) (LEs.cons (AV.le_eq rfl) (LEs.cons (AV.le_eq rfl) LEs.nil)) ?_)
  refine G_q rfl (op_assign (av := .exact (.int .i64 y1)) rfl ?_)
  refine G_nil ?_
  refine kC_normal ?_
  refine k_seq ?_
  refine k_seq ?_
  refine k_reg .free hmixP (by kernel_rfl) ?_
  refine G_q rfl (op_move (av := .exact (.int .i64 y1)) rfl ?_)
  refine G_q rfl (op_neq rfl rfl ?_)
  refine G_nil ?_
  refine kC_normal ?_
  refine k_cond_d (p := ¬ y1 = 0) rfl (fun hc => ?_) (fun hc => ?_)
  · replace h := ite_t h hc
    refine k_seq ?_
    refine k_reg .free hmixP (by kernel_rfl) ?_
    refine G_q rfl (op_move (av := .exact (.int .i64 y1)) rfl ?_)
    refine G_q rfl (op_assign (av := .exact (.slice none 0 0)) rfl ?_)
    refine G_q rfl (op_assign (av := .exact (.int .i64 y1)) rfl ?_)
    refine G_nil ?_
    refine kC_normal ?_
    refine k_ret ?_
    refine kC_ret ?_
    obtain rfl := Option.some.inj h
    refine kP_any (endN (af' := (AF.put (AF.put AF0 (some 4) (.row 1 c_uint8 [])) (some 5) (.exact (.int .i64 y1)))) (σ' := [boxI 67 w0 [.exact (.int .i64 a0.1), .row 2 c_cspcheckref35_File a0.2.1, .row 2 c_cspcheckref35_Name a0.2.2.1, .row 2 c_cspcheckref35_Name a0.2.2.2.1, .row 4 c_cspcheckref35_Op a0.2.2.2.2.1, .exact (.int .i64 a0.2.2.2.2.2.1), .exact (.bool a0.2.2.2.2.2.2.1), .exact (.int .i64 a0.2.2.2.2.2.2.2)]]) _ rfl ?_ ⟨rfl, rfl⟩)
    exact Sub.of_le (AF.le_put (AV.le_eq rfl) (AF.le_put (row_nil (by decide)) (AF.le_top _)))
  · replace h := ite_f h hc
    refine k_skip ?_
    refine kC_normal ?_
    refine k_seq ?_
    refine k_plan [boxI 67 w0 [.exact (.int .i64 a0.1), .row 2 c_cspcheckref35_File a0.2.1, .row 2 c_cspcheckref35_Name a0.2.2.1, .row 2 c_cspcheckref35_Name a0.2.2.2.1, .row 4 c_cspcheckref35_Op a0.2.2.2.2.1, .exact (.int .i64 a0.2.2.2.2.2.1), .exact (.bool a0.2.2.2.2.2.2.1), .exact (.int .i64 a0.2.2.2.2.2.2.2)]] [(0, 1), (0, 2), (0, 3), (0, 5), (0, 6), (0, 7), (0, 9), (4, 4), (4, 8), (0, 10), (0, 11), (0, 12), (0, 13), (3, 0), (2, 14), (0, 15), (0, 16)] hmixP (by kernel_rfl) ?_
    refine P_q no34_0 rfl (op_move (av := pA w0 0) rfl ?_)
    refine P_q no34_0 rfl (op_nilCheck rfl ?_)
    refine P_q no34_0 rfl (op_fieldAddr (o := 1) (by kernel_rfl) rfl ?_)
    refine P_q no34_0 rfl (op_move (av := pA w0 0) rfl ?_)
    refine P_q no34_0 rfl (op_nilCheck rfl ?_)
    refine P_q no34_0 rfl (op_fieldAddr (o := 2) (by kernel_rfl) rfl ?_)
    refine P_q no34_0 rfl (op_move (av := .exact (.string (bs a1))) rfl ?_)
    refine P_r4 (Has.cons (List.Mem.head _) Has.mk0) rfl (opI_mk (List.Mem.head _) (fun _ => op_load_box1 (a := .row 2 c_cspcheckref35_File a0.2.1) (by kernel_rfl) rfl rfl rfl) ?_)
    refine P_r4 (Has.cons (List.Mem.head _) Has.mk0) rfl (opI_mk (List.Mem.head _) (fun _ => op_load_box1 (a := .row 2 c_cspcheckref35_Name a0.2.2.1) (by kernel_rfl) rfl rfl rfl) ?_)
    obtain ⟨y2, hy2, h⟩ := bnd1_some h
    refine P_q no34_0 rfl (op_pure (m_ref35_find_ok _ _ _ hy2) Try.func91 (by kernel_rfl) (LEs.cons (AV.le_eq rfl) (LEs.cons (AV.le_eq rfl) LEs.nil)) ?_)
    obtain ⟨n3, h⟩ := need_some h
    refine P_q no34_0 rfl (op_index_row (by kernel_rfl) rfl rfl n3.1 n3.2 ?_)
    refine P_q no34_0 rfl (op_fieldAddr_ptr (o := 0) (c' := (List.drop 0 (c_cspcheckref35_File (gi a0.2.1 y2)))) (by kernel_rfl) rfl rfl ?_)
    refine P_q no34_0 rfl (op_load1p (a := .row 1 c_uint8 ((gi a0.2.1 y2).1)) (by kernel_rfl) rfl rfl ?_)
    refine P_l3 rfl (op_lit0I (enc := c_uint8) (n := 1) (by kernel_rfl) (fun v4 => ⟨(Has.cons (List.Mem.tail _ (List.Mem.head _)) Has.mk0), ?_⟩))
    obtain ⟨n5, h⟩ := need_some h
    refine P_l rfl (op_appT (by kernel_rfl) rfl rfl oc_c_uint8 n5 (fun v6 => ?_))
    refine P_q no34_0 rfl (op_assign (av := .exact v6) rfl ?_)
    refine P_q no34_0 rfl (op_assign (av := .exact (.int .i64 0)) rfl ?_)
    refine P_nil ?_
    refine kC_normal ?_
    refine k_ret ?_
    obtain rfl := Option.some.inj h
    refine kP_any (endN (af' := (AF.put (AF.put AF0 (some 4) (.row 1 c_uint8 (([] : List UInt8) ++ ((gi a0.2.1 y2).1)))) (some 5) (.exact (.int .i64 0)))) (σ' := [boxI 67 w0 [.exact (.int .i64 a0.1), .row 2 c_cspcheckref35_File a0.2.1, .row 2 c_cspcheckref35_Name a0.2.2.1, .row 2 c_cspcheckref35_Name a0.2.2.2.1, .row 4 c_cspcheckref35_Op a0.2.2.2.2.1, .exact (.int .i64 a0.2.2.2.2.2.1), .exact (.bool a0.2.2.2.2.2.2.1), .exact (.int .i64 a0.2.2.2.2.2.2.2)]]) _ rfl ?_ ⟨rfl, rfl⟩)
    refine Sub.trans (SubU.to (SubU.freezeT (s := 4) rfl len_c_uint8)) ?_
    exact Sub.of_le (AF.le_put (AV.le_eq rfl) (AF.le_put (AV.le_eq rfl) (AF.le_top _)))
set_option maxHeartbeats 4000000 in
theorem m_ref35_Read_ok {w0 : Nat} (a0 : Int × (List ((List UInt8) × Int)) × (List ((List UInt8) × Int)) × (List ((List UInt8) × Int)) × (List (Int × (List UInt8) × (List UInt8) × Int)) × Int × Bool × Int) (a1 : List UInt8) (r : (List (Int × Int)) × Int × Int × (Int × (List ((List UInt8) × Int)) × (List ((List UInt8) × Int)) × (List ((List UInt8) × Int)) × (List (Int × (List UInt8) × (List UInt8) × Int)) × Int × Bool × Int)) (h : m_ref35_Read a0 a1 = some r) : Fun Try.prog 37 [(pA w0 0), (.exact (.string (bs a1)))] [boxI 67 w0 [.exact (.int .i64 a0.1), .row 2 c_cspcheckref35_File a0.2.1, .row 2 c_cspcheckref35_Name a0.2.2.1, .row 2 c_cspcheckref35_Name a0.2.2.2.1, .row 4 c_cspcheckref35_Op a0.2.2.2.2.1, .exact (.int .i64 a0.2.2.2.2.2.1), .exact (.bool a0.2.2.2.2.2.2.1), .exact (.int .i64 a0.2.2.2.2.2.2.2)]] (fun a s => a = .tup [.row 2 c_A2_int r.1, .exact (.int .i64 r.2.1), .exact (.int .i64 r.2.2.1)] ∧ s = [boxI 67 w0 [.exact (.int .i64 r.2.2.2.1), .row 2 c_cspcheckref35_File r.2.2.2.2.1, .row 2 c_cspcheckref35_Name r.2.2.2.2.2.1, .row 2 c_cspcheckref35_Name r.2.2.2.2.2.2.1, .row 4 c_cspcheckref35_Op r.2.2.2.2.2.2.2.1, .exact (.int .i64 r.2.2.2.2.2.2.2.2.1), .exact (.bool r.2.2.2.2.2.2.2.2.2.1), .exact (.int .i64 r.2.2.2.2.2.2.2.2.2.2)]]) := by
  unfold m_ref35_Read at h
  refine fun_of_awp Try.func37 rfl Try.ntmps37 (by simp) rfl (res3 rfl) fun E hE => k_end ?_
  refine k_seq ?_
  refine k_reg .free hmixP (by kernel_rfl) ?_
  refine G_q rfl (op_assign (av := .exact (.slice none 0 0)) rfl ?_)
  refine G_q rfl (op_assign (av := .exact (.int .i64 0)) rfl ?_)
  refine G_q rfl (op_assign (av := .exact (.int .i64 0)) rfl ?_)
  refine G_nil ?_
  refine kC_normal ?_
  refine k_seq ?_
  refine k_reg .free hmixP (by kernel_rfl) ?_
  refine G_q rfl (op_move (av := pA w0 0) rfl ?_)
  refine G_q rfl (op_move (av := .exact (.string (bs a1))) rfl ?_)
  obtain ⟨y1, hy1, h⟩ := bnd1_some h
  refine G_l rfl (op_fun_1_0_1 (m_ref35_Disk_Read_ok _ _ _ hy1) Try.func68 (by kernel_rfl) (LEs.cons (AV.le_eq rfl) (LEs.cons (AV.le_eq rfl) LEs.nil)) ?_)
  refine G_q rfl (op_move (av := .tup [.row 1 c_uint8 y1.1, .exact (.int .i64 y1.2.1)]) rfl ?_)
  refine G_q rfl (op_extract (av := .row 1 c_uint8 y1.1) rfl rfl ?_)
  refine G_q rfl (op_extract (av := .exact (.int .i64 y1.2.1)) rfl rfl ?_)
  refine G_q rfl (op_assign (av := .row 1 c_uint8 y1.1) rfl ?_)
  refine G_q rfl (op_assign (av := .exact (.int .i64 y1.2.1)) rfl ?_)
  refine G_nil ?_
  refine kC_normal ?_
  refine k_seq ?_
  refine k_seq ?_
  refine k_reg .free hmixP (by kernel_rfl) ?_
  refine G_q rfl (op_move (av := .exact (.int .i64 y1.2.1)) rfl ?_)
  refine G_q rfl (op_neq rfl rfl ?_)
  refine G_nil ?_
  refine kC_normal ?_
  refine k_cond_d (p := ¬ y1.2.1 = 0) rfl (fun hc => ?_) (fun hc => ?_)
  · replace h := ite_t h hc
    refine k_seq ?_
    refine k_reg .free hmixP (by kernel_rfl) ?_
    refine G_q rfl (op_move (av := .exact (.int .i64 y1.2.1)) rfl ?_)
    refine G_q rfl (op_assign (av := .exact (.slice none 0 0)) rfl ?_)
    refine G_q rfl (op_assign (av := .exact (.int .i64 0)) rfl ?_)
    refine G_q rfl (op_assign (av := .exact (.int .i64 y1.2.1)) rfl ?_)
    refine G_nil ?_
    refine kC_normal ?_
    refine k_ret ?_
    refine kC_ret ?_
    obtain rfl := Option.some.inj h
    refine kP_any (endN (af' := (AF.put (AF.put (AF.put AF0 (some 4) (.row 2 c_A2_int [])) (some 5) (.exact (.int .i64 0))) (some 6) (.exact (.int .i64 y1.2.1)))) (σ' := [boxI 67 w0 [.exact (.int .i64 y1.2.2.1), .row 2 c_cspcheckref35_File y1.2.2.2.1, .row 2 c_cspcheckref35_Name y1.2.2.2.2.1, .row 2 c_cspcheckref35_Name y1.2.2.2.2.2.1, .row 4 c_cspcheckref35_Op y1.2.2.2.2.2.2.1, .exact (.int .i64 y1.2.2.2.2.2.2.2.1), .exact (.bool y1.2.2.2.2.2.2.2.2.1), .exact (.int .i64 y1.2.2.2.2.2.2.2.2.2)]]) _ rfl ?_ ⟨rfl, rfl⟩)
    exact Sub.of_le (AF.le_put (AV.le_eq rfl) (AF.le_put (AV.le_eq rfl) (AF.le_put (row_nil (by decide)) (AF.le_top _))))
  · replace h := ite_f h hc
    refine k_skip ?_
    refine kC_normal ?_
    refine k_seq ?_
    refine k_reg .free hmixP (by kernel_rfl) ?_
    refine G_q rfl (op_assign (av := .exact (.slice none 0 0)) rfl ?_)
    refine G_nil ?_
    refine kC_normal ?_
    refine k_seq ?_
    refine k_reg .free hmixP (by kernel_rfl) ?_
    refine G_q rfl (op_assign (av := .exact (.int .i64 0)) rfl ?_)
    refine G_nil ?_
    refine kC_normal ?_
    refine k_join2_1 h (fun (x9_j2 : List (Int × Int)) (x10_j2 : Int) (v9_j2 : Value) => (AF.put (AF.put (AF.put AF0 (some 0) (pA w0 0)) (some 9) (.exact v9_j2)) (some 10) (.exact (.int .i64 x10_j2)))) (fun (x9_j2 : List (Int × Int)) (x10_j2 : Int) (v9_j2 : Value) => [boxI 67 w0 [.exact (.int .i64 y1.2.2.1), .row 2 c_cspcheckref35_File y1.2.2.2.1, .row 2 c_cspcheckref35_Name y1.2.2.2.2.1, .row 2 c_cspcheckref35_Name y1.2.2.2.2.2.1, .row 4 c_cspcheckref35_Op y1.2.2.2.2.2.2.1, .exact (.int .i64 y1.2.2.2.2.2.2.2.1), .exact (.bool y1.2.2.2.2.2.2.2.2.1), .exact (.int .i64 y1.2.2.2.2.2.2.2.2.2)], vecT Try.prog 23 2 c_A2_int v9_j2 x9_j2]) (fun k2 h => ?_) (fun x9_j2 x10_j2 v9_j2 h => ?_)
    · refine k_seq ?_
      refine k_reg .free hmixP (by kernel_rfl) ?_
      refine G_q rfl (op_assign (av := .exact (.int .i64 0)) rfl ?_)
      refine G_nil ?_
      refine kC_normal ?_
      refine k_block ?_
      refine k_loop3_1 (m_ref35_Read_L2 y1 k2) (m_ref35_Read_B2 y1 k2) (fun _ _ _ => rfl) (fun m _ _ _ => rfl) h (fun (x9_l2 : List (Int × Int)) (x10_l2 : Int) (x11_l2 : Int) (v9_l2 : Value) => (AF.put (AF.put (AF.put (AF.put (AF.put AF0 (some 0) (pA w0 0)) (some 7) (.row 1 c_uint8 y1.1)) (some 9) (.exact v9_l2)) (some 10) (.exact (.int .i64 x10_l2))) (some 11) (.exact (.int .i64 x11_l2)))) (fun (x9_l2 : List (Int × Int)) (x10_l2 : Int) (x11_l2 : Int) (v9_l2 : Value) => [boxI 67 w0 [.exact (.int .i64 y1.2.2.1), .row 2 c_cspcheckref35_File y1.2.2.2.1, .row 2 c_cspcheckref35_Name y1.2.2.2.2.1, .row 2 c_cspcheckref35_Name y1.2.2.2.2.2.1, .row 4 c_cspcheckref35_Op y1.2.2.2.2.2.2.1, .exact (.int .i64 y1.2.2.2.2.2.2.2.1), .exact (.bool y1.2.2.2.2.2.2.2.2.1), .exact (.int .i64 y1.2.2.2.2.2.2.2.2.2)], vecT Try.prog 23 2 c_A2_int v9_l2 x9_l2]) (.slice none 0 0) ?_ (fun rec2 x9_l2 x10_l2 x11_l2 v9_l2 h => ?_)
      · refine Sub.trans (SubU.to (SubU.nilT (P := Try.prog) (t := 23) (n := 2) (enc := c_A2_int))) ?_
        refine Sub.trans (SubU.to SubU.f1) ?_
        exact Sub.of_le (AF.le_put (AV.le_eq rfl) (AF.le_put (AV.le_eq rfl) (AF.le_put (AV.le_eq rfl) (AF.le_put (AV.le_eq rfl) (AF.le_put (AV.le_eq rfl) (AF.le_top _))))))
      · unfold m_ref35_Read_B2 at h
        refine k_seq ?_
        refine k_seq ?_
        refine k_reg .free hmixP (by kernel_rfl) ?_
        refine G_q rfl (op_move (av := .exact (.int .i64 x11_l2)) rfl ?_)
        refine G_q rfl (op_move (av := .row 1 c_uint8 y1.1) rfl ?_)
        refine G_q rfl (op_len_row (by kernel_rfl) rfl ?_)
        refine G_q rfl (op_lss rfl rfl ?_)
        refine G_nil ?_
        refine kC_normal ?_
        refine k_cond_d (p := x11_l2 < (List.length y1.1 : Int)) rfl (fun hc => ?_) (fun hc => ?_)
        · replace h := ite_t h hc
          refine k_skip ?_
          refine kC_normal ?_
          refine k_block ?_
          refine k_seq ?_
          refine k_reg .free hmixP (by kernel_rfl) ?_
          refine G_q rfl (op_move (av := .row 1 c_uint8 y1.1) rfl ?_)
          refine G_q rfl (op_move (av := .exact (.int .i64 x11_l2)) rfl ?_)
          obtain ⟨y78, hy78, h⟩ := bnd1_some h
          refine G_q rfl (op_pure (m_ref35_DecodeBlock_ok _ _ _ hy78) Try.func46 (by kernel_rfl) (LEs.cons (AV.le_eq rfl) (LEs.cons (AV.le_eq rfl) LEs.nil)) ?_)
          refine G_q rfl (op_move (av := .tup [.row 2 c_A2_int y78.1, .exact (.int .i64 y78.2.1), .exact (.int .i64 y78.2.2)]) rfl ?_)
          refine G_q rfl (op_extract (av := .row 2 c_A2_int y78.1) rfl rfl ?_)
          refine G_q rfl (op_extract (av := .exact (.int .i64 y78.2.1)) rfl rfl ?_)
          refine G_q rfl (op_extract (av := .exact (.int .i64 y78.2.2)) rfl rfl ?_)
          refine G_q rfl (op_assign (av := .row 2 c_A2_int y78.1) rfl ?_)
          refine G_q rfl (op_assign (av := .exact (.int .i64 y78.2.1)) rfl ?_)
          refine G_q rfl (op_assign (av := .exact (.int .i64 y78.2.2)) rfl ?_)
          refine G_nil ?_
          refine kC_normal ?_
          refine k_seq ?_
          refine k_seq ?_
          refine k_reg .free hmixP (by kernel_rfl) ?_
          refine G_q rfl (op_move (av := .exact (.int .i64 y78.2.2)) rfl ?_)
          refine G_q rfl (op_neq rfl rfl ?_)
          refine G_nil ?_
          refine kC_normal ?_
          refine k_cond_d (p := ¬ y78.2.2 = 0) rfl (fun hc => ?_) (fun hc => ?_)
          · replace h := ite_t h hc
            refine k_seq ?_
            refine k_reg .free hmixP (by kernel_rfl) ?_
            refine G_q rfl (op_move (av := .exact (.int .i64 y78.2.2)) rfl ?_)
            refine G_q rfl (op_assign (av := .exact (.slice none 0 0)) rfl ?_)
            refine G_q rfl (op_assign (av := .exact (.int .i64 0)) rfl ?_)
            refine G_q rfl (op_assign (av := .exact (.int .i64 y78.2.2)) rfl ?_)
            refine G_nil ?_
            refine kC_normal ?_
            refine k_ret ?_
            refine kC_ret ?_
            refine kB_ret ?_
            refine kI_ret ?_
            refine kB_ret ?_
            refine kI_ret ?_
            obtain rfl := Option.some.inj h
            refine kP_any (endN (af' := (AF.put (AF.put (AF.put AF0 (some 4) (.row 2 c_A2_int [])) (some 5) (.exact (.int .i64 0))) (some 6) (.exact (.int .i64 y78.2.2)))) (σ' := [boxI 67 w0 [.exact (.int .i64 y1.2.2.1), .row 2 c_cspcheckref35_File y1.2.2.2.1, .row 2 c_cspcheckref35_Name y1.2.2.2.2.1, .row 2 c_cspcheckref35_Name y1.2.2.2.2.2.1, .row 4 c_cspcheckref35_Op y1.2.2.2.2.2.2.1, .exact (.int .i64 y1.2.2.2.2.2.2.2.1), .exact (.bool y1.2.2.2.2.2.2.2.2.1), .exact (.int .i64 y1.2.2.2.2.2.2.2.2.2)]]) _ rfl ?_ ⟨rfl, rfl⟩)
            refine Sub.trans (SubU.to SubU.f1) ?_
            refine Sub.trans (SubU.to SubU.drop) ?_
            exact Sub.of_le (AF.le_put (AV.le_eq rfl) (AF.le_put (AV.le_eq rfl) (AF.le_put (row_nil (by decide)) (AF.le_top _))))
          · replace h := ite_f h hc
            refine k_skip ?_
            refine kC_normal ?_
            refine k_seq ?_
            refine k_join1_0 h (fun (x53_j87 : Bool) => (AF.put (AF.put (AF.put (AF.put (AF.put (AF.put (AF.put AF0 (some 0) (pA w0 0)) (some 7) (.row 1 c_uint8 y1.1)) (some 9) (.exact v9_l2)) (some 10) (.exact (.int .i64 x10_l2))) (some 12) (.row 2 c_A2_int y78.1)) (some 13) (.exact (.int .i64 y78.2.1))) (some 53) (.exact (.bool x53_j87)))) (fun (x53_j87 : Bool) => [boxI 67 w0 [.exact (.int .i64 y1.2.2.1), .row 2 c_cspcheckref35_File y1.2.2.2.1, .row 2 c_cspcheckref35_Name y1.2.2.2.2.1, .row 2 c_cspcheckref35_Name y1.2.2.2.2.2.1, .row 4 c_cspcheckref35_Op y1.2.2.2.2.2.2.1, .exact (.int .i64 y1.2.2.2.2.2.2.2.1), .exact (.bool y1.2.2.2.2.2.2.2.2.1), .exact (.int .i64 y1.2.2.2.2.2.2.2.2.2)], vecT Try.prog 23 2 c_A2_int v9_l2 x9_l2]) (fun k87 h => ?_) (fun x53_j87 h => ?_)
            · refine k_plan [] [(0, 0), (1, 1), (0, 2), (0, 3), (0, 4), (0, 5), (0, 10), (0, 11), (0, 12), (1, 6), (0, 7), (1, 8), (1, 9), (0, 13), (0, 14), (0, 15)] hmixP (by kernel_rfl) ?_
              refine P_q no34_0 rfl (op_move (av := .exact v9_l2) rfl ?_)
              refine P_r rfl (opR_f1 (op_len_vec (by kernel_rfl) rfl ?_))
              refine P_q no34_0 rfl (op_gtr rfl rfl ?_)
              refine P_q no34_0 rfl (op_move (av := .exact (.bool (decide (0 < (List.length x9_l2 : Int))))) rfl ?_)
              refine P_split (p := 0 < (List.length x9_l2 : Int)) 41 rfl (fun hc => ?_) (fun hc => ?_)
              · replace h := ite_t h hc
                refine Py_q no34_0 rfl rfl rfl (op_move (av := .exact v9_l2) rfl ?_)
                refine Py_q no34_0 rfl rfl rfl (op_move (av := .exact v9_l2) rfl ?_)
                refine Py_q no34_0 rfl rfl rfl (op_move (av := .row 2 c_A2_int y78.1) rfl ?_)
                obtain ⟨n91, h⟩ := need_some h
                refine Py_q no34_0 rfl rfl rfl (op_index_row (by kernel_rfl) rfl rfl n91.1 n91.2 ?_)
                refine Py_q no34_0 rfl rfl rfl (op_loadNp (m := 2) (c' := c_A2_int (gi y78.1 0)) (by kernel_rfl) rfl rfl rfl ?_)
                refine Py_r rfl rfl rfl (opR_f1 (op_len_vec (by kernel_rfl) rfl ?_))
                refine Py_q no34_0 rfl rfl rfl (op_sub rfl rfl rfl ?_)
                obtain ⟨n92, h⟩ := need_some h
                refine Py_r rfl rfl rfl (opR_f1 (op_index_vec (by kernel_rfl) rfl rfl n92.1 n92.2 ?_))
                refine Py_r rfl rfl rfl (opR_f1 (op_load_vecN (i := i64 ((List.length x9_l2 : Int) - 1)) (o := 0) (m := 2) (c' := c_A2_int (gi x9_l2 (i64 ((List.length x9_l2 : Int) - 1)))) (by kernel_rfl) len_c_A2_int rfl n92.1 n92.2 rfl rfl ?_))
                obtain ⟨y93, hy93, h⟩ := bnd1_some h
                refine Py_q no34_0 rfl rfl rfl (op_pure (m_ref35_Less_ok _ _ _ hy93) Try.func69 (by kernel_rfl) (LEs.cons (AV.le_eq rfl) (LEs.cons (AV.le_eq rfl) LEs.nil)) ?_)
                refine Py_q no34_0 rfl rfl rfl (op_not rfl ?_)
                refine P_q no34_0 rfl (op_pick_t rfl (av := .exact (.bool (!y93))) rfl ?_)
                refine P_nil ?_
                refine kI_normal ⟨_, h, ?_⟩
                exact Sub.of_le (AF.le_put (AV.le_eq rfl) (AF.le_put (AV.le_eq rfl) (AF.le_put (AV.le_eq rfl) (AF.le_put (AV.le_eq rfl) (AF.le_put (AV.le_eq rfl) (AF.le_put (AV.le_eq rfl) (AF.le_put (AV.le_eq rfl) (AF.le_top _))))))))
              · replace h := ite_f h hc
                refine P_n no34_0 rfl rfl rfl ?_
                refine P_n no34_0 rfl rfl rfl ?_
                refine P_n no34_0 rfl rfl rfl ?_
                refine P_n no34_0 rfl rfl rfl ?_
                refine P_n no34_0 rfl rfl rfl ?_
                refine P_n no34_1 rfl rfl rfl ?_
                refine P_n no34_0 rfl rfl rfl ?_
                refine P_n no34_1 rfl rfl rfl ?_
                refine P_n no34_1 rfl rfl rfl ?_
                refine P_n no34_0 rfl rfl rfl ?_
                refine P_n no34_0 rfl rfl rfl ?_
                refine P_q no34_0 rfl (op_pick_f rfl (av := .exact (.bool false)) rfl ?_)
                refine P_nil ?_
                refine kI_normal ⟨_, h, ?_⟩
                exact Sub.of_le (AF.le_put (AV.le_eq rfl) (AF.le_put (AV.le_eq rfl) (AF.le_put (AV.le_eq rfl) (AF.le_put (AV.le_eq rfl) (AF.le_put (AV.le_eq rfl) (AF.le_put (AV.le_eq rfl) (AF.le_put (AV.le_eq rfl) (AF.le_top _))))))))
            · refine k_cond_b (c := x53_j87) rfl (fun hc => ?_) (fun hc => ?_)
              · replace h := ite_t h hc
                refine k_seq ?_
                refine k_reg .free hmixP (by kernel_rfl) ?_
                refine G_q rfl (op_assign (av := .exact (.slice none 0 0)) rfl ?_)
                refine G_q rfl (op_assign (av := .exact (.int .i64 0)) rfl ?_)
                refine G_q rfl (op_assign (av := .exact (.int .i64 22)) rfl ?_)
                refine G_nil ?_
                refine kC_normal ?_
                refine k_ret ?_
                refine kC_ret ?_
                refine kB_ret ?_
                refine kI_ret ?_
                refine kB_ret ?_
                refine kI_ret ?_
                obtain rfl := Option.some.inj h
                refine kP_any (endN (af' := (AF.put (AF.put (AF.put AF0 (some 4) (.row 2 c_A2_int [])) (some 5) (.exact (.int .i64 0))) (some 6) (.exact (.int .i64 22)))) (σ' := [boxI 67 w0 [.exact (.int .i64 y1.2.2.1), .row 2 c_cspcheckref35_File y1.2.2.2.1, .row 2 c_cspcheckref35_Name y1.2.2.2.2.1, .row 2 c_cspcheckref35_Name y1.2.2.2.2.2.1, .row 4 c_cspcheckref35_Op y1.2.2.2.2.2.2.1, .exact (.int .i64 y1.2.2.2.2.2.2.2.1), .exact (.bool y1.2.2.2.2.2.2.2.2.1), .exact (.int .i64 y1.2.2.2.2.2.2.2.2.2)]]) _ rfl ?_ ⟨rfl, rfl⟩)
                refine Sub.trans (SubU.to SubU.f1) ?_
                refine Sub.trans (SubU.to SubU.drop) ?_
                exact Sub.of_le (AF.le_put (AV.le_eq rfl) (AF.le_put (AV.le_eq rfl) (AF.le_put (row_nil (by decide)) (AF.le_top _))))
              · replace h := ite_f h hc
                refine k_skip ?_
                refine kC_normal ?_
                refine k_seq ?_
                refine k_reg .free hmixP (by kernel_rfl) ?_
                refine G_q rfl (op_move (av := .exact v9_l2) rfl ?_)
                refine G_q rfl (op_move (av := .row 2 c_A2_int y78.1) rfl ?_)
                obtain ⟨n94, h⟩ := need_some h
                refine G_l rfl (opB_f1 (op_appT (by kernel_rfl) rfl rfl oc_c_A2_int n94 (fun v95 => ?_)))
                refine G_q rfl (op_assign (av := .exact v95) rfl ?_)
                refine G_nil ?_
                refine kC_normal ?_
                refine k_seq ?_
                refine k_reg .free hmixP (by kernel_rfl) ?_
                refine G_q rfl (op_move (av := .exact (.int .i64 y78.2.1)) rfl ?_)
                refine G_q rfl (op_assign (av := .exact (.int .i64 y78.2.1)) rfl ?_)
                refine G_nil ?_
                refine kC_normal ?_
                refine k_reg .free hmixP (by kernel_rfl) ?_
                refine G_q rfl (op_move (av := .exact (.int .i64 x10_l2)) rfl ?_)
                refine G_q rfl (op_add rfl rfl rfl ?_)
                refine G_q rfl (op_assign (av := .exact (.int .i64 (i64 (x10_l2 + 1)))) rfl ?_)
                refine G_nil ?_
                refine kB_normal ?_
                refine kI_normal ⟨_, _, _, v95, h, ?_⟩
                refine Sub.trans (SubU.to SubU.f1) ?_
                exact Sub.of_le (AF.le_put (AV.le_eq rfl) (AF.le_put (AV.le_eq rfl) (AF.le_put (AV.le_eq rfl) (AF.le_put (AV.le_eq rfl) (AF.le_put (AV.le_eq rfl) (AF.le_top _))))))
        · replace h := ite_f h hc
          refine k_exit ?_
          refine kC_exit ?_
          refine kI_exit ?_
          refine kB_exit ?_
          refine kI_normal ⟨_, _, v9_l2, h, ?_⟩
          exact Sub.of_le (AF.le_put (AV.le_eq rfl) (AF.le_put (AV.le_eq rfl) (AF.le_put (AV.le_eq rfl) (AF.le_top _))))
    · refine k_seq ?_
      refine k_reg .free hmixP (by kernel_rfl) ?_
      refine G_q rfl (op_move (av := .exact v9_j2) rfl ?_)
      refine G_q rfl (op_move (av := .exact (.int .i64 x10_j2)) rfl ?_)
      refine G_q rfl (op_assign (av := .exact v9_j2) rfl ?_)
      refine G_q rfl (op_assign (av := .exact (.int .i64 x10_j2)) rfl ?_)
      refine G_q rfl (op_assign (av := .exact (.int .i64 0)) rfl ?_)
      refine G_nil ?_
      refine kC_normal ?_
      refine k_ret ?_
      obtain rfl := Option.some.inj h
      refine kP_any (endN (af' := (AF.put (AF.put (AF.put AF0 (some 4) (.row 2 c_A2_int x9_j2)) (some 5) (.exact (.int .i64 x10_j2))) (some 6) (.exact (.int .i64 0)))) (σ' := [boxI 67 w0 [.exact (.int .i64 y1.2.2.1), .row 2 c_cspcheckref35_File y1.2.2.2.1, .row 2 c_cspcheckref35_Name y1.2.2.2.2.1, .row 2 c_cspcheckref35_Name y1.2.2.2.2.2.1, .row 4 c_cspcheckref35_Op y1.2.2.2.2.2.2.1, .exact (.int .i64 y1.2.2.2.2.2.2.2.1), .exact (.bool y1.2.2.2.2.2.2.2.2.1), .exact (.int .i64 y1.2.2.2.2.2.2.2.2.2)]]) _ rfl ?_ ⟨rfl, rfl⟩)
      refine Sub.trans (SubU.to SubU.f1) ?_
      refine Sub.trans (SubU.to (SubU.freezeT (s := 4) rfl len_c_A2_int)) ?_
      exact Sub.of_le (AF.le_put (AV.le_eq rfl) (AF.le_put (AV.le_eq rfl) (AF.le_put (AV.le_eq rfl) (AF.le_top _))))
set_option maxHeartbeats 4000000 in
theorem m_ref35_pick_ok (a0 : List Int) (a1 : Int) (r : Int) (h : m_ref35_pick a0 a1 = some r) : Pure Try.prog 74 [(.row 1 c_int a0), (.exact (.int .i64 a1))] (.exact (.int .i64 r)) := by
  unfold m_ref35_pick at h
  refine Pure.ofFun (fun_of_awp Try.func74 rfl Try.ntmps74 (by simp) rfl (res1 rfl) fun E hE => k_end ?_)
  refine k_seq ?_
  refine k_reg .free hmixP (by kernel_rfl) ?_
  refine G_q rfl (op_assign (av := .exact (.int .i64 0)) rfl ?_)
  refine G_nil ?_
  refine kC_normal ?_
  refine k_seq ?_
  refine k_seq ?_
  refine k_reg .free hmixP (by kernel_rfl) ?_
  refine G_q rfl (op_move (av := .exact (.int .i64 a1)) rfl ?_)
  refine G_q rfl (op_move (av := .row 1 c_int a0) rfl ?_)
  refine G_q rfl (op_len_row (by kernel_rfl) rfl ?_)
  refine G_q rfl (op_geq rfl rfl ?_)
  refine G_nil ?_
  refine kC_normal ?_
  refine k_cond_d (p := (List.length a0 : Int) ≤ a1) rfl (fun hc => ?_) (fun hc => ?_)
  · replace h := ite_t h hc
    refine k_seq ?_
    refine k_reg .free hmixP (by kernel_rfl) ?_
    refine G_q rfl (op_assign (av := .exact (.int .i64 0)) rfl ?_)
    refine G_nil ?_
    refine kC_normal ?_
    refine k_ret ?_
    refine kC_ret ?_
    obtain rfl := Option.some.inj h
    refine kP_any (endN (af' := (AF.put AF0 (some 4) (.exact (.int .i64 0)))) (σ' := []) _ rfl ?_ ⟨rfl, rfl⟩)
    exact Sub.of_le (AF.le_put (AV.le_eq rfl) (AF.le_top _))
  · replace h := ite_f h hc
    refine k_skip ?_
    refine kC_normal ?_
    refine k_seq ?_
    refine k_reg .free hmixP (by kernel_rfl) ?_
    refine G_q rfl (op_move (av := .row 1 c_int a0) rfl ?_)
    refine G_q rfl (op_move (av := .exact (.int .i64 a1)) rfl ?_)
    obtain ⟨n1, h⟩ := need_some h
    refine G_q rfl (op_index_row (by kernel_rfl) rfl rfl n1.1 n1.2 ?_)
    refine G_q rfl (op_load1p (a := .exact (.int .i64 (gi a0 a1))) (by kernel_rfl) rfl rfl ?_)
    refine G_q rfl (op_max rfl rfl ?_)
    refine G_q rfl (op_assign (av := .exact (.int .i64 (max (gi a0 a1) 0))) rfl ?_)
    refine G_nil ?_
    refine kC_normal ?_
    refine k_ret ?_
    obtain rfl := Option.some.inj h
    refine kP_any (endN (af' := (AF.put AF0 (some 4) (.exact (.int .i64 (max (gi a0 a1) 0))))) (σ' := []) _ rfl ?_ ⟨rfl, rfl⟩)
    exact Sub.of_le (AF.le_put (AV.le_eq rfl) (AF.le_top _))
set_option maxHeartbeats 4000000 in
theorem m_ref35_Disk_Crash_ok {w0 : Nat} (a0 : Int × (List ((List UInt8) × Int)) × (List ((List UInt8) × Int)) × (List ((List UInt8) × Int)) × (List (Int × (List UInt8) × (List UInt8) × Int)) × Int × Bool × Int) (a1 : List Int) (r : (Int × (List ((List UInt8) × Int)) × (List ((List UInt8) × Int)) × (List ((List UInt8) × Int)) × (List (Int × (List UInt8) × (List UInt8) × Int)) × Int × Bool × Int)) (h : m_ref35_Disk_Crash a0 a1 = some r) : Fun Try.prog 39 [(pA w0 0), (.row 1 c_int a1)] [boxI 67 w0 [.exact (.int .i64 a0.1), .row 2 c_cspcheckref35_File a0.2.1, .row 2 c_cspcheckref35_Name a0.2.2.1, .row 2 c_cspcheckref35_Name a0.2.2.2.1, .row 4 c_cspcheckref35_Op a0.2.2.2.2.1, .exact (.int .i64 a0.2.2.2.2.2.1), .exact (.bool a0.2.2.2.2.2.2.1), .exact (.int .i64 a0.2.2.2.2.2.2.2)]] (fun a s => a = .tup [] ∧ s = [boxI 67 w0 [.exact (.int .i64 r.1), .row 2 c_cspcheckref35_File r.2.1, .row 2 c_cspcheckref35_Name r.2.2.1, .row 2 c_cspcheckref35_Name r.2.2.2.1, .row 4 c_cspcheckref35_Op r.2.2.2.2.1, .exact (.int .i64 r.2.2.2.2.2.1), .exact (.bool r.2.2.2.2.2.2.1), .exact (.int .i64 r.2.2.2.2.2.2.2)]]) := by
  unfold m_ref35_Disk_Crash at h
  refine fun_of_awp Try.func39 rfl Try.ntmps39 (by simp) rfl (res0 rfl) fun E hE => k_end ?_
  refine k_seq ?_
  refine k_reg .free hmixP (by kernel_rfl) ?_
  refine G_q rfl (op_move (av := pA w0 0) rfl ?_)
  refine G_q rfl (op_nilCheck rfl ?_)
  refine G_q rfl (op_fieldAddr (o := 3) (by kernel_rfl) rfl ?_)
  refine G_r rfl (op_load_box1 (a := .row 2 c_cspcheckref35_Name a0.2.2.2.1) (by kernel_rfl) rfl rfl ?_)
  refine G_q rfl (op_assign (av := .row 2 c_cspcheckref35_Name a0.2.2.2.1) rfl ?_)
  refine G_nil ?_
  refine kC_normal ?_
  refine k_join1_0 h (fun (x4_j1 : List ((List UInt8) × Int)) => (AF.put (AF.put (AF.put AF0 (some 0) (pA w0 0)) (some 1) (.row 1 c_int a1)) (some 4) (.row 2 c_cspcheckref35_Name x4_j1))) (fun (x4_j1 : List ((List UInt8) × Int)) => [boxI 67 w0 [.exact (.int .i64 a0.1), .row 2 c_cspcheckref35_File a0.2.1, .row 2 c_cspcheckref35_Name a0.2.2.1, .row 2 c_cspcheckref35_Name a0.2.2.2.1, .row 4 c_cspcheckref35_Op a0.2.2.2.2.1, .exact (.int .i64 a0.2.2.2.2.2.1), .exact (.bool a0.2.2.2.2.2.2.1), .exact (.int .i64 a0.2.2.2.2.2.2.2)]]) (fun k1 h => ?_) (fun x4_j1 h => ?_)
  · refine k_seq ?_
    refine k_reg .free hmixP (by kernel_rfl) ?_
    refine G_q rfl (op_assign (av := .exact (.int .i64 0)) rfl ?_)
    refine G_nil ?_
    refine kC_normal ?_
    refine k_block ?_
    refine k_loop2_0 (m_ref35_Disk_Crash_L2 a0 a1 k1) (m_ref35_Disk_Crash_B2 a0 a1 k1) (fun _ _ => rfl) (fun m _ _ => rfl) h (fun (x4_l2 : List ((List UInt8) × Int)) (x5_l2 : Int) => (AF.put (AF.put (AF.put (AF.put AF0 (some 0) (pA w0 0)) (some 1) (.row 1 c_int a1)) (some 4) (.row 2 c_cspcheckref35_Name x4_l2)) (some 5) (.exact (.int .i64 x5_l2)))) (fun (x4_l2 : List ((List UInt8) × Int)) (x5_l2 : Int) => [boxI 67 w0 [.exact (.int .i64 a0.1), .row 2 c_cspcheckref35_File a0.2.1, .row 2 c_cspcheckref35_Name a0.2.2.1, .row 2 c_cspcheckref35_Name a0.2.2.2.1, .row 4 c_cspcheckref35_Op a0.2.2.2.2.1, .exact (.int .i64 a0.2.2.2.2.2.1), .exact (.bool a0.2.2.2.2.2.2.1), .exact (.int .i64 a0.2.2.2.2.2.2.2)]]) ?_ (fun rec2 x4_l2 x5_l2 h => ?_)
    · exact Sub.of_le (AF.le_put (AV.le_eq rfl) (AF.le_put (AV.le_eq rfl) (AF.le_put (AV.le_eq rfl) (AF.le_put (AV.le_eq rfl) (AF.le_top _)))))
    · unfold m_ref35_Disk_Crash_B2 at h
      refine k_seq ?_
      refine k_seq ?_
      refine k_plan [] [(0, 0), (0, 1), (0, 2), (0, 3), (0, 4), (0, 5), (1, 6), (0, 7), (0, 8), (0, 9), (0, 10)] hmixP (by kernel_rfl) ?_
      refine P_q no34_0 rfl (op_move (av := .exact (.int .i64 x5_l2)) rfl ?_)
      refine P_q no34_0 rfl (op_move (av := .row 1 c_int a1) rfl ?_)
      obtain ⟨y23, hy23, h⟩ := bnd1_some h
      refine P_q no34_0 rfl (op_pure (m_ref35_pick_ok _ _ _ hy23) Try.func74 (by kernel_rfl) (LEs.cons (AV.le_eq rfl) (LEs.cons (AV.le_eq rfl) LEs.nil)) ?_)
      refine P_q no34_0 rfl (op_move (av := pA w0 0) rfl ?_)
      refine P_q no34_0 rfl (op_nilCheck rfl ?_)
      refine P_q no34_0 rfl (op_fieldAddr (o := 4) (by kernel_rfl) rfl ?_)
      refine P_r rfl (op_load_box1 (a := .row 4 c_cspcheckref35_Op a0.2.2.2.2.1) (by kernel_rfl) rfl rfl ?_)
      refine P_q no34_0 rfl (op_len_row (by kernel_rfl) rfl ?_)
      refine P_q no34_0 rfl (op_add rfl rfl rfl ?_)
      obtain ⟨n24, h⟩ := need_some h
      refine P_q no34_0 rfl (op_rem rfl rfl n24 rfl ?_)
      refine P_q no34_0 rfl (op_lss rfl rfl ?_)
      refine P_nil ?_
      refine kC_normal ?_
      refine k_cond_d (p := x5_l2 < (Int.tmod y23 (i64 ((List.length a0.2.2.2.2.1 : Int) + 1)))) rfl (fun hc => ?_) (fun hc => ?_)
      · replace h := ite_t h hc
        refine k_skip ?_
        refine kC_normal ?_
        refine k_seq ?_
        refine k_block ?_
        refine k_reg .free hmixP (by kernel_rfl) ?_
        refine G_q rfl (op_move (av := .row 2 c_cspcheckref35_Name x4_l2) rfl ?_)
        refine G_q rfl (op_move (av := pA w0 0) rfl ?_)
        refine G_q rfl (op_nilCheck rfl ?_)
        refine G_q rfl (op_fieldAddr (o := 4) (by kernel_rfl) rfl ?_)
        refine G_r rfl (op_load_box1 (a := .row 4 c_cspcheckref35_Op a0.2.2.2.2.1) (by kernel_rfl) rfl rfl ?_)
        refine G_q rfl (op_move (av := .exact (.int .i64 x5_l2)) rfl ?_)
        obtain ⟨n25, h⟩ := need_some h
        refine G_q rfl (op_index_row (by kernel_rfl) rfl rfl n25.1 n25.2 ?_)
        refine G_q rfl (op_loadNp (m := 4) (c' := c_cspcheckref35_Op (gi a0.2.2.2.2.1 x5_l2)) (by kernel_rfl) rfl rfl rfl ?_)
        obtain ⟨y26, hy26, h⟩ := bnd1_some h
        refine G_q rfl (op_pure (m_ref35_done_ok _ _ _ hy26) Try.func75 (by kernel_rfl) (LEs.cons (AV.le_eq rfl) (LEs.cons (AV.le_eq rfl) LEs.nil)) ?_)
        refine G_q rfl (op_assign (av := .row 2 c_cspcheckref35_Name y26) rfl ?_)
        refine G_nil ?_
        refine kB_normal ?_
        refine kC_normal ?_
        refine k_reg .free hmixP (by kernel_rfl) ?_
        refine G_q rfl (op_move (av := .exact (.int .i64 x5_l2)) rfl ?_)
        refine G_q rfl (op_add rfl rfl rfl ?_)
        refine G_q rfl (op_assign (av := .exact (.int .i64 (i64 (x5_l2 + 1)))) rfl ?_)
        refine G_nil ?_
        refine kI_normal ⟨_, _, h, ?_⟩
        exact Sub.of_le (AF.le_put (AV.le_eq rfl) (AF.le_put (AV.le_eq rfl) (AF.le_put (AV.le_eq rfl) (AF.le_put (AV.le_eq rfl) (AF.le_top _)))))
      · replace h := ite_f h hc
        refine k_exit ?_
        refine kC_exit ?_
        refine kI_exit ?_
        refine kB_exit ?_
        refine kI_normal ⟨_, h, ?_⟩
        exact Sub.of_le (AF.le_put (AV.le_eq rfl) (AF.le_put (AV.le_eq rfl) (AF.le_put (AV.le_eq rfl) (AF.le_top _))))
  · refine k_seq ?_
    refine k_reg .free hmixP (by kernel_rfl) ?_
    refine G_l rfl (op_lit0I (enc := c_cspcheckref35_File) (n := 2) (by kernel_rfl) (fun v27 => ?_))
    refine G_q rfl (op_move (av := pA w0 0) rfl ?_)
    refine G_q rfl (op_nilCheck rfl ?_)
    refine G_q rfl (op_fieldAddr (o := 1) (by kernel_rfl) rfl ?_)
    refine G_r rfl (opR_f1 (op_load_box1 (a := .row 2 c_cspcheckref35_File a0.2.1) (by kernel_rfl) rfl rfl ?_))
    obtain ⟨n28, h⟩ := need_some h
    refine G_l rfl (op_appT (by kernel_rfl) rfl rfl oc_c_cspcheckref35_File n28 (fun v29 => ?_))
    refine G_q rfl (op_assign (av := .exact v29) rfl ?_)
    refine G_nil ?_
    refine kC_normal ?_
    refine k_seq ?_
    refine k_reg .free hmixP (by kernel_rfl) ?_
    refine G_q rfl (op_assign (av := .exact (.int .i64 1)) rfl ?_)
    refine G_nil ?_
    refine kC_normal ?_
    refine k_join1_0 h (fun (x6_j30 : List ((List UInt8) × Int)) => (AF.put (AF.put (AF.put AF0 (some 0) (pA w0 0)) (some 4) (.row 2 c_cspcheckref35_Name x4_j1)) (some 6) (.exact v29))) (fun (x6_j30 : List ((List UInt8) × Int)) => [boxI 67 w0 [.exact (.int .i64 a0.1), .row 2 c_cspcheckref35_File a0.2.1, .row 2 c_cspcheckref35_Name a0.2.2.1, .row 2 c_cspcheckref35_Name a0.2.2.2.1, .row 4 c_cspcheckref35_Op a0.2.2.2.2.1, .exact (.int .i64 a0.2.2.2.2.2.1), .exact (.bool a0.2.2.2.2.2.2.1), .exact (.int .i64 a0.2.2.2.2.2.2.2)], vecT Try.prog 63 2 c_cspcheckref35_File v29 x6_j30]) (fun k30 h => ?_) (fun x6_j30 h => ?_)
    · refine k_seq ?_
      refine k_reg .free hmixP (by kernel_rfl) ?_
      refine G_q rfl (op_assign (av := .exact (.int .i64 0)) rfl ?_)
      refine G_nil ?_
      refine kC_normal ?_
      refine k_block ?_
      refine k_loop3_0 (m_ref35_Disk_Crash_L4 a1 x4_j1 k30) (m_ref35_Disk_Crash_B4 a1 x4_j1 k30) (fun _ _ _ => rfl) (fun m _ _ _ => rfl) h (fun (x6_l4 : List ((List UInt8) × Int)) (x7_l4 : Int) (x8_l4 : Int) => (AF.put (AF.put (AF.put (AF.put (AF.put (AF.put AF0 (some 0) (pA w0 0)) (some 1) (.row 1 c_int a1)) (some 4) (.row 2 c_cspcheckref35_Name x4_j1)) (some 6) (.exact v29)) (some 7) (.exact (.int .i64 x7_l4))) (some 8) (.exact (.int .i64 x8_l4)))) (fun (x6_l4 : List ((List UInt8) × Int)) (x7_l4 : Int) (x8_l4 : Int) => [boxI 67 w0 [.exact (.int .i64 a0.1), .row 2 c_cspcheckref35_File a0.2.1, .row 2 c_cspcheckref35_Name a0.2.2.1, .row 2 c_cspcheckref35_Name a0.2.2.2.1, .row 4 c_cspcheckref35_Op a0.2.2.2.2.1, .exact (.int .i64 a0.2.2.2.2.2.1), .exact (.bool a0.2.2.2.2.2.2.1), .exact (.int .i64 a0.2.2.2.2.2.2.2)], vecT Try.prog 63 2 c_cspcheckref35_File v29 x6_l4]) ?_ (fun rec4 x6_l4 x7_l4 x8_l4 h => ?_)
      · refine Sub.trans (SubU.to SubU.f1) ?_
        exact Sub.of_le (AF.le_put (AV.le_eq rfl) (AF.le_put (AV.le_eq rfl) (AF.le_put (AV.le_eq rfl) (AF.le_put (AV.le_eq rfl) (AF.le_put (AV.le_eq rfl) (AF.le_put (AV.le_eq rfl) (AF.le_top _)))))))
      · unfold m_ref35_Disk_Crash_B4 at h
        refine k_seq ?_
        refine k_seq ?_
        refine k_reg .free hmixP (by kernel_rfl) ?_
        refine G_q rfl (op_move (av := .exact (.int .i64 x8_l4)) rfl ?_)
        refine G_q rfl (op_move (av := .row 2 c_cspcheckref35_Name x4_j1) rfl ?_)
        refine G_q rfl (op_len_row (by kernel_rfl) rfl ?_)
        refine G_q rfl (op_lss rfl rfl ?_)
        refine G_nil ?_
        refine kC_normal ?_
        refine k_cond_d (p := x8_l4 < (List.length x4_j1 : Int)) rfl (fun hc => ?_) (fun hc => ?_)
        · replace h := ite_t h hc
          refine k_skip ?_
          refine kC_normal ?_
          refine k_seq ?_
          refine k_block ?_
          refine k_seq ?_
          refine k_reg .free hmixP (by kernel_rfl) ?_
          refine G_q rfl (op_move (av := .row 2 c_cspcheckref35_Name x4_j1) rfl ?_)
          refine G_q rfl (op_move (av := .exact (.int .i64 x8_l4)) rfl ?_)
          obtain ⟨n258, h⟩ := need_some h
          refine G_q rfl (op_index_row (by kernel_rfl) rfl rfl n258.1 n258.2 ?_)
          refine G_q rfl (op_fieldAddr_ptr (o := 1) (c' := (List.drop 1 (c_cspcheckref35_Name (gi x4_j1 x8_l4)))) (by kernel_rfl) rfl rfl ?_)
          refine G_q rfl (op_load1p (a := .exact (.int .i64 ((gi x4_j1 x8_l4).2))) (by kernel_rfl) rfl rfl ?_)
          refine G_q rfl (op_assign (av := .exact (.int .i64 ((gi x4_j1 x8_l4).2))) rfl ?_)
          refine G_nil ?_
          refine kC_normal ?_
          refine k_join2_0 h (fun (x6_j259 : List ((List UInt8) × Int)) (x7_j259 : Int) => (AF.put (AF.put (AF.put (AF.put (AF.put (AF.put (AF.put AF0 (some 0) (pA w0 0)) (some 1) (.row 1 c_int a1)) (some 4) (.row 2 c_cspcheckref35_Name x4_j1)) (some 6) (.exact v29)) (some 7) (.exact (.int .i64 x7_j259))) (some 8) (.exact (.int .i64 x8_l4))) (some 9) (.exact (.int .i64 ((gi x4_j1 x8_l4).2))))) (fun (x6_j259 : List ((List UInt8) × Int)) (x7_j259 : Int) => [boxI 67 w0 [.exact (.int .i64 a0.1), .row 2 c_cspcheckref35_File a0.2.1, .row 2 c_cspcheckref35_Name a0.2.2.1, .row 2 c_cspcheckref35_Name a0.2.2.2.1, .row 4 c_cspcheckref35_Op a0.2.2.2.2.1, .exact (.int .i64 a0.2.2.2.2.2.1), .exact (.bool a0.2.2.2.2.2.2.1), .exact (.int .i64 a0.2.2.2.2.2.2.2)], vecT Try.prog 63 2 c_cspcheckref35_File v29 x6_j259]) (fun k259 h => ?_) (fun x6_j259 x7_j259 h => ?_)
          · refine k_seq ?_
            refine k_plan [] [(0, 0), (0, 1), (0, 6), (0, 7), (1, 2), (0, 3), (1, 4), (0, 5), (1, 8), (0, 9), (1, 10), (0, 11), (0, 12)] hmixP (by kernel_rfl) ?_
            refine P_q no34_0 rfl (op_move (av := .exact v29) rfl ?_)
            refine P_q no34_0 rfl (op_move (av := .exact (.int .i64 ((gi x4_j1 x8_l4).2))) rfl ?_)
            refine P_q no34_0 rfl (op_move (av := .exact v29) rfl ?_)
            refine P_q no34_0 rfl (op_move (av := .exact (.int .i64 ((gi x4_j1 x8_l4).2))) rfl ?_)
            obtain ⟨n268, h⟩ := need_some h
            refine P_r rfl (opR_f1 (op_index_vec (by kernel_rfl) rfl rfl n268.1 n268.2 ?_))
            refine P_q no34_0 rfl (op_field_eptr (o := 0) (by kernel_rfl) rfl ?_)
            refine P_r rfl (opR_f1 (op_load_vec1 (i := (gi x4_j1 x8_l4).2) (o := 0) (a := .row 1 c_uint8 ((gi x6_l4 ((gi x4_j1 x8_l4).2)).1)) (by kernel_rfl) len_c_cspcheckref35_File rfl n268.1 n268.2 rfl ?_))
            refine P_q no34_0 rfl (op_len_row (by kernel_rfl) rfl ?_)
            obtain ⟨n269, h⟩ := need_some h
            refine P_r rfl (opR_f1 (op_index_vec (by kernel_rfl) rfl rfl n269.1 n269.2 ?_))
            refine P_q no34_0 rfl (op_field_eptr (o := 1) (by kernel_rfl) rfl ?_)
            refine P_r rfl (opR_f1 (op_load_vec1 (i := (gi x4_j1 x8_l4).2) (o := 1) (a := .exact (.int .i64 ((gi x6_l4 ((gi x4_j1 x8_l4).2)).2))) (by kernel_rfl) len_c_cspcheckref35_File rfl n269.1 n269.2 rfl ?_))
            refine P_q no34_0 rfl (op_sub rfl rfl rfl ?_)
            refine P_q no34_0 rfl (op_assign (av := .exact (.int .i64 (i64 ((List.length ((gi x6_l4 ((gi x4_j1 x8_l4).2)).1) : Int) - ((gi x6_l4 ((gi x4_j1 x8_l4).2)).2))))) rfl ?_)
            refine P_nil ?_
            refine kC_normal ?_
            refine k_seq ?_
            refine k_reg .free hmixP (by kernel_rfl) ?_
            refine G_q rfl (op_move (av := .exact (.int .i64 (i64 ((List.length ((gi x6_l4 ((gi x4_j1 x8_l4).2)).1) : Int) - ((gi x6_l4 ((gi x4_j1 x8_l4).2)).2))))) rfl ?_)
            refine G_q rfl (op_gtr rfl rfl ?_)
            refine G_nil ?_
            refine kC_normal ?_
            refine k_cond_d (p := 0 < (i64 ((List.length ((gi x6_l4 ((gi x4_j1 x8_l4).2)).1) : Int) - ((gi x6_l4 ((gi x4_j1 x8_l4).2)).2)))) rfl (fun hc => ?_) (fun hc => ?_)
            · replace h := ite_t h hc
              refine k_seq ?_
              refine k_plan [] [(0, 0), (0, 1), (0, 2), (0, 3), (0, 7), (0, 8), (0, 12), (0, 13), (0, 14), (0, 15), (0, 16), (0, 17), (1, 4), (0, 5), (1, 6), (1, 9), (0, 10), (1, 11), (0, 18), (0, 19), (1, 20), (0, 21), (2, 22)] hmixP (by kernel_rfl) ?_
              refine P_q no34_0 rfl (op_move (av := .exact v29) rfl ?_)
              refine P_q no34_0 rfl (op_move (av := .exact (.int .i64 ((gi x4_j1 x8_l4).2))) rfl ?_)
              refine P_q no34_0 rfl (op_move (av := .exact v29) rfl ?_)
              refine P_q no34_0 rfl (op_move (av := .exact (.int .i64 ((gi x4_j1 x8_l4).2))) rfl ?_)
              refine P_q no34_0 rfl (op_move (av := .exact v29) rfl ?_)
              refine P_q no34_0 rfl (op_move (av := .exact (.int .i64 ((gi x4_j1 x8_l4).2))) rfl ?_)
              refine P_q no34_0 rfl (op_move (av := .row 1 c_int a1) rfl ?_)
              refine P_q no34_0 rfl (op_move (av := .exact (.int .i64 x7_l4)) rfl ?_)
              obtain ⟨y270, hy270, h⟩ := bnd1_some h
              refine P_q no34_0 rfl (op_pure (m_ref35_pick_ok _ _ _ hy270) Try.func74 (by kernel_rfl) (LEs.cons (AV.le_eq rfl) (LEs.cons (AV.le_eq rfl) LEs.nil)) ?_)
              refine P_q no34_0 rfl (op_move (av := .exact (.int .i64 (i64 ((List.length ((gi x6_l4 ((gi x4_j1 x8_l4).2)).1) : Int) - ((gi x6_l4 ((gi x4_j1 x8_l4).2)).2))))) rfl ?_)
              refine P_q no34_0 rfl (op_add rfl rfl rfl ?_)
              obtain ⟨n271, h⟩ := need_some h
              refine P_q no34_0 rfl (op_rem rfl rfl n271 rfl ?_)
              obtain ⟨n272, h⟩ := need_some h
              refine P_r rfl (opR_f1 (op_index_vec (by kernel_rfl) rfl rfl n272.1 n272.2 ?_))
              refine P_q no34_0 rfl (op_field_eptr (o := 0) (by kernel_rfl) rfl ?_)
              refine P_r rfl (opR_f1 (op_load_vec1 (i := (gi x4_j1 x8_l4).2) (o := 0) (a := .row 1 c_uint8 ((gi x6_l4 ((gi x4_j1 x8_l4).2)).1)) (by kernel_rfl) len_c_cspcheckref35_File rfl n272.1 n272.2 rfl ?_))
              obtain ⟨n273, h⟩ := need_some h
              refine P_r rfl (opR_f1 (op_index_vec (by kernel_rfl) rfl rfl n273.1 n273.2 ?_))
              refine P_q no34_0 rfl (op_field_eptr (o := 1) (by kernel_rfl) rfl ?_)
              refine P_r rfl (opR_f1 (op_load_vec1 (i := (gi x4_j1 x8_l4).2) (o := 1) (a := .exact (.int .i64 ((gi x6_l4 ((gi x4_j1 x8_l4).2)).2))) (by kernel_rfl) len_c_cspcheckref35_File rfl n273.1 n273.2 rfl ?_))
              refine P_q no34_0 rfl (op_add rfl rfl rfl ?_)
              obtain ⟨n274, h⟩ := need_some h
              refine P_q no34_0 rfl (op_slice_rowt (by kernel_rfl) rfl bnd_none (bnd_some rfl) (Int.le_refl 0) n274.1 n274.2 ?_)
              obtain ⟨n275, h⟩ := need_some h
              refine P_r rfl (opR_f1 (op_index_vec (by kernel_rfl) rfl rfl n275.1 n275.2 ?_))
              refine P_q no34_0 rfl (op_field_eptr (o := 0) (by kernel_rfl) rfl ?_)
              refine P_l rfl (opB_f1 (op_store_vec (i := (gi x4_j1 x8_l4).2) (o := 0) (z := (List.take (Int.toNat (i64 (((gi x6_l4 ((gi x4_j1 x8_l4).2)).2) + (Int.tmod y270 (i64 ((i64 ((List.length ((gi x6_l4 ((gi x4_j1 x8_l4).2)).1) : Int) - ((gi x6_l4 ((gi x4_j1 x8_l4).2)).2))) + 1)))))) ((gi x6_l4 ((gi x4_j1 x8_l4).2)).1), (gi x6_l4 ((gi x4_j1 x8_l4).2)).2)) (c' := [.row 1 c_uint8 (List.take (Int.toNat (i64 (((gi x6_l4 ((gi x4_j1 x8_l4).2)).2) + (Int.tmod y270 (i64 ((i64 ((List.length ((gi x6_l4 ((gi x4_j1 x8_l4).2)).1) : Int) - ((gi x6_l4 ((gi x4_j1 x8_l4).2)).2))) + 1)))))) ((gi x6_l4 ((gi x4_j1 x8_l4).2)).1))]) (by kernel_rfl) len_c_cspcheckref35_File rfl n275.1 n275.2 rfl CellsOf.row (LEs.cons (AV.le_eq rfl) LEs.nil) (OneC.row OneC.nil) (by kernel_rfl) (Nat.le_of_ble_eq_true rfl) rfl ?_))
              refine P_nil ?_
              refine kC_normal ?_
              refine k_reg .free hmixP (by kernel_rfl) ?_
              refine G_q rfl (op_move (av := .exact (.int .i64 x7_l4)) rfl ?_)
              refine G_q rfl (op_add rfl rfl rfl ?_)
              refine G_q rfl (op_assign (av := .exact (.int .i64 (i64 (x7_l4 + 1)))) rfl ?_)
              refine G_nil ?_
              refine kI_normal ⟨_, _, h, ?_⟩
              refine Sub.trans (SubU.to SubU.f1) ?_
              exact Sub.of_le (AF.le_put (AV.le_eq rfl) (AF.le_put (AV.le_eq rfl) (AF.le_put (AV.le_eq rfl) (AF.le_put (AV.le_eq rfl) (AF.le_put (AV.le_eq rfl) (AF.le_put (AV.le_eq rfl) (AF.le_put (AV.le_eq rfl) (AF.le_top _))))))))
            · replace h := ite_f h hc
              refine k_skip ?_
              refine kI_normal ⟨_, _, h, ?_⟩
              exact Sub.of_le (AF.le_put (AV.le_eq rfl) (AF.le_put (AV.le_eq rfl) (AF.le_put (AV.le_eq rfl) (AF.le_put (AV.le_eq rfl) (AF.le_put (AV.le_eq rfl) (AF.le_put (AV.le_eq rfl) (AF.le_put (AV.le_eq rfl) (AF.le_top _))))))))
          · refine k_reg .free hmixP (by kernel_rfl) ?_
            refine G_q rfl (op_move (av := .exact v29) rfl ?_)
            refine G_q rfl (op_move (av := .exact (.int .i64 ((gi x4_j1 x8_l4).2))) rfl ?_)
            refine G_q rfl (op_move (av := .exact v29) rfl ?_)
            refine G_q rfl (op_move (av := .exact (.int .i64 ((gi x4_j1 x8_l4).2))) rfl ?_)
            obtain ⟨n276, h⟩ := need_some h
            refine G_r rfl (opR_f1 (op_index_vec (by kernel_rfl) rfl rfl n276.1 n276.2 ?_))
            refine G_q rfl (op_field_eptr (o := 0) (by kernel_rfl) rfl ?_)
            refine G_r rfl (opR_f1 (op_load_vec1 (i := (gi x4_j1 x8_l4).2) (o := 0) (a := .row 1 c_uint8 ((gi x6_j259 ((gi x4_j1 x8_l4).2)).1)) (by kernel_rfl) len_c_cspcheckref35_File rfl n276.1 n276.2 rfl ?_))
            refine G_q rfl (op_len_row (by kernel_rfl) rfl ?_)
            obtain ⟨n277, h⟩ := need_some h
            refine G_r rfl (opR_f1 (op_index_vec (by kernel_rfl) rfl rfl n277.1 n277.2 ?_))
            refine G_q rfl (op_field_eptr (o := 1) (by kernel_rfl) rfl ?_)
            refine G_l rfl (opB_f1 (op_store_vec (i := (gi x4_j1 x8_l4).2) (o := 1) (z := ((gi x6_j259 ((gi x4_j1 x8_l4).2)).1, (List.length ((gi x6_j259 ((gi x4_j1 x8_l4).2)).1) : Int))) (c' := [.exact (.int .i64 (List.length ((gi x6_j259 ((gi x4_j1 x8_l4).2)).1) : Int))]) (by kernel_rfl) len_c_cspcheckref35_File rfl n277.1 n277.2 rfl CellsOf.int (LEs.cons (AV.le_eq rfl) LEs.nil) (OneC.int OneC.nil) (by kernel_rfl) (Nat.le_of_ble_eq_true rfl) rfl ?_))
            refine G_nil ?_
            refine kB_normal ?_
            refine kC_normal ?_
            refine k_reg .free hmixP (by kernel_rfl) ?_
            refine G_q rfl (op_move (av := .exact (.int .i64 x8_l4)) rfl ?_)
            refine G_q rfl (op_add rfl rfl rfl ?_)
            refine G_q rfl (op_assign (av := .exact (.int .i64 (i64 (x8_l4 + 1)))) rfl ?_)
            refine G_nil ?_
            refine kI_normal ⟨_, _, _, h, ?_⟩
            refine Sub.trans (SubU.to SubU.f1) ?_
            exact Sub.of_le (AF.le_put (AV.le_eq rfl) (AF.le_put (AV.le_eq rfl) (AF.le_put (AV.le_eq rfl) (AF.le_put (AV.le_eq rfl) (AF.le_put (AV.le_eq rfl) (AF.le_put (AV.le_eq rfl) (AF.le_top _)))))))
        · replace h := ite_f h hc
          refine k_exit ?_
          refine kC_exit ?_
          refine kI_exit ?_
          refine kB_exit ?_
          refine kI_normal ⟨_, h, ?_⟩
          exact Sub.of_le (AF.le_put (AV.le_eq rfl) (AF.le_put (AV.le_eq rfl) (AF.le_put (AV.le_eq rfl) (AF.le_top _))))
    · refine k_seq ?_
      refine k_reg .free hmixP (by kernel_rfl) ?_
      refine G_q rfl (op_move (av := pA w0 0) rfl ?_)
      refine G_q rfl (op_move (av := pA w0 0) rfl ?_)
      refine G_q rfl (op_move (av := pA w0 0) rfl ?_)
      refine G_q rfl (op_move (av := pA w0 0) rfl ?_)
      refine G_q rfl (op_move (av := .exact v29) rfl ?_)
      refine G_q rfl (op_move (av := .row 2 c_cspcheckref35_Name x4_j1) rfl ?_)
      refine G_q rfl (op_move (av := .row 2 c_cspcheckref35_Name x4_j1) rfl ?_)
      refine G_q rfl (op_nilCheck rfl ?_)
      refine G_q rfl (op_fieldAddr (o := 1) (by kernel_rfl) rfl ?_)
      refine G_sub rfl (SubU.trans SubU.f1 (SubU.freezeT2 (s1 := 6) (s2 := 106) rfl rfl len_c_cspcheckref35_File)) ?_
      refine G_l rfl (op_store_box (c' := [.row 2 c_cspcheckref35_File x6_j30]) (c3 := [.exact (.int .i64 a0.1), .row 2 c_cspcheckref35_File x6_j30, .row 2 c_cspcheckref35_Name a0.2.2.1, .row 2 c_cspcheckref35_Name a0.2.2.2.1, .row 4 c_cspcheckref35_Op a0.2.2.2.2.1, .exact (.int .i64 a0.2.2.2.2.2.1), .exact (.bool a0.2.2.2.2.2.2.1), .exact (.int .i64 a0.2.2.2.2.2.2.2)]) rfl rfl CellsOf.row (LEs.cons (AV.le_eq rfl) LEs.nil) (OneC.row OneC.nil) (by kernel_rfl) (Nat.le_of_ble_eq_true rfl) rfl ?_)
      refine G_q rfl (op_nilCheck rfl ?_)
      refine G_q rfl (op_fieldAddr (o := 2) (by kernel_rfl) rfl ?_)
      refine G_l rfl (op_store_box (c' := [.row 2 c_cspcheckref35_Name x4_j1]) (c3 := [.exact (.int .i64 a0.1), .row 2 c_cspcheckref35_File x6_j30, .row 2 c_cspcheckref35_Name x4_j1, .row 2 c_cspcheckref35_Name a0.2.2.2.1, .row 4 c_cspcheckref35_Op a0.2.2.2.2.1, .exact (.int .i64 a0.2.2.2.2.2.1), .exact (.bool a0.2.2.2.2.2.2.1), .exact (.int .i64 a0.2.2.2.2.2.2.2)]) rfl rfl CellsOf.row (LEs.cons (AV.le_eq rfl) LEs.nil) (OneC.row OneC.nil) (by kernel_rfl) (Nat.le_of_ble_eq_true rfl) rfl ?_)
      refine G_q rfl (op_nilCheck rfl ?_)
      refine G_q rfl (op_fieldAddr (o := 3) (by kernel_rfl) rfl ?_)
      refine G_l rfl (op_store_box (c' := [.row 2 c_cspcheckref35_Name x4_j1]) (c3 := [.exact (.int .i64 a0.1), .row 2 c_cspcheckref35_File x6_j30, .row 2 c_cspcheckref35_Name x4_j1, .row 2 c_cspcheckref35_Name x4_j1, .row 4 c_cspcheckref35_Op a0.2.2.2.2.1, .exact (.int .i64 a0.2.2.2.2.2.1), .exact (.bool a0.2.2.2.2.2.2.1), .exact (.int .i64 a0.2.2.2.2.2.2.2)]) rfl rfl CellsOf.row (LEs.cons (AV.le_eq rfl) LEs.nil) (OneC.row OneC.nil) (by kernel_rfl) (Nat.le_of_ble_eq_true rfl) rfl ?_)
      refine G_q rfl (op_nilCheck rfl ?_)
      refine G_q rfl (op_fieldAddr (o := 4) (by kernel_rfl) rfl ?_)
      refine G_l rfl (op_store_box (c' := [.row 4 c_cspcheckref35_Op []]) (c3 := [.exact (.int .i64 a0.1), .row 2 c_cspcheckref35_File x6_j30, .row 2 c_cspcheckref35_Name x4_j1, .row 2 c_cspcheckref35_Name x4_j1, .row 4 c_cspcheckref35_Op [], .exact (.int .i64 a0.2.2.2.2.2.1), .exact (.bool a0.2.2.2.2.2.2.1), .exact (.int .i64 a0.2.2.2.2.2.2.2)]) rfl rfl CellsOf.slice (LEs.cons (row_nil (by decide)) LEs.nil) OneC.nilc (by kernel_rfl) (Nat.le_of_ble_eq_true rfl) rfl ?_)
      refine G_nil ?_
      refine kC_normal ?_
      refine k_reg .free hmixP (by kernel_rfl) ?_
      refine G_q rfl (op_move (av := pA w0 0) rfl ?_)
      refine G_q rfl (op_move (av := pA w0 0) rfl ?_)
      refine G_q rfl (op_move (av := pA w0 0) rfl ?_)
      refine G_q rfl (op_nilCheck rfl ?_)
      refine G_q rfl (op_fieldAddr (o := 5) (by kernel_rfl) rfl ?_)
      refine G_l rfl (op_store_box (c' := [.exact (.int .i64 0)]) (c3 := [.exact (.int .i64 a0.1), .row 2 c_cspcheckref35_File x6_j30, .row 2 c_cspcheckref35_Name x4_j1, .row 2 c_cspcheckref35_Name x4_j1, .row 4 c_cspcheckref35_Op [], .exact (.int .i64 0), .exact (.bool a0.2.2.2.2.2.2.1), .exact (.int .i64 a0.2.2.2.2.2.2.2)]) rfl rfl CellsOf.int (LEs.cons (AV.le_eq rfl) LEs.nil) (OneC.int OneC.nil) (by kernel_rfl) (Nat.le_of_ble_eq_true rfl) rfl ?_)
      refine G_q rfl (op_nilCheck rfl ?_)
      refine G_q rfl (op_fieldAddr (o := 6) (by kernel_rfl) rfl ?_)
      refine G_l rfl (op_store_box (c' := [.exact (.bool false)]) (c3 := [.exact (.int .i64 a0.1), .row 2 c_cspcheckref35_File x6_j30, .row 2 c_cspcheckref35_Name x4_j1, .row 2 c_cspcheckref35_Name x4_j1, .row 4 c_cspcheckref35_Op [], .exact (.int .i64 0), .exact (.bool false), .exact (.int .i64 a0.2.2.2.2.2.2.2)]) rfl rfl CellsOf.bool (LEs.cons (AV.le_eq rfl) LEs.nil) (OneC.bool OneC.nil) (by kernel_rfl) (Nat.le_of_ble_eq_true rfl) rfl ?_)
      refine G_q rfl (op_nilCheck rfl ?_)
      refine G_q rfl (op_fieldAddr (o := 7) (by kernel_rfl) rfl ?_)
      refine G_l rfl (op_store_box (c' := [.exact (.int .i64 0)]) (c3 := [.exact (.int .i64 a0.1), .row 2 c_cspcheckref35_File x6_j30, .row 2 c_cspcheckref35_Name x4_j1, .row 2 c_cspcheckref35_Name x4_j1, .row 4 c_cspcheckref35_Op [], .exact (.int .i64 0), .exact (.bool false), .exact (.int .i64 0)]) rfl rfl CellsOf.int (LEs.cons (AV.le_eq rfl) LEs.nil) (OneC.int OneC.nil) (by kernel_rfl) (Nat.le_of_ble_eq_true rfl) rfl ?_)
      refine G_nil ?_
      obtain rfl := Option.some.inj h
      refine kP_any (endNn (af' := AF0) (σ' := [boxI 67 w0 ([.exact (.int .i64 a0.1), .row 2 c_cspcheckref35_File x6_j30, .row 2 c_cspcheckref35_Name x4_j1, .row 2 c_cspcheckref35_Name x4_j1, .row 4 c_cspcheckref35_Op [], .exact (.int .i64 0), .exact (.bool false), .exact (.int .i64 0)])]) _ rfl ?_ ⟨rfl, rfl⟩)
      exact Sub.of_le (AF.le_top _)
set_option maxHeartbeats 4000000 in
theorem m_law36_FrontierFiles_ok (a0 : List Int) (a1 : Int) (a2 : List (Int × Int)) (r : Bool) (h : m_law36_FrontierFiles a0 a1 a2 = some r) : Pure Try.prog 9 [(.row 1 c_int a0), (.exact (.int .i64 a1)), (.row 2 c_A2_int a2)] (.exact (.bool r)) := by
  unfold m_law36_FrontierFiles at h
  refine Pure.ofFun (fun_of_awp Try.func9 rfl Try.ntmps9 (by simp) rfl (res1 rfl) fun E hE => k_end ?_)
  refine k_seq ?_
  refine k_reg .free hmixP (by kernel_rfl) ?_
  refine G_q rfl (op_assign (av := .exact (.bool false)) rfl ?_)
  refine G_nil ?_
  refine kC_normal ?_
  refine k_seq ?_
  refine k_reg .free hmixP (by kernel_rfl) ?_
  refine G_q rfl (op_move (av := .row 1 c_int a0) rfl ?_)
  obtain ⟨y1, hy1, h⟩ := bnd1_some h
  refine G_l rfl (op_fun_0_1_1 (m_gen2_New_ok _ _ hy1) Try.func10 (by kernel_rfl) (LEs.cons (AV.le_eq rfl) LEs.nil) (fun b2 => ?_))
  refine G_q rfl (op_assign (av := pA b2 0) rfl ?_)
  refine G_nil ?_
  refine kC_normal ?_
  refine k_seq ?_
  refine k_reg .free hmixP (by kernel_rfl) ?_
  obtain ⟨y3, hy3, h⟩ := bnd1_some h
  refine G_l rfl (op_fun_0_2_1 (m_disk_New_ok _ _ hy3) Try.func21 (by kernel_rfl) (LEs.cons (AV.le_eq rfl) LEs.nil) (fun b4 b4o => ?_))
  refine G_q rfl (op_move (av := .tup [pA b4 0, .exact (.int .i64 y3.2)]) rfl ?_)
  refine G_q rfl (op_extract (av := pA b4 0) rfl rfl ?_)
  refine G_q rfl (op_extract (av := .exact (.int .i64 y3.2)) rfl rfl ?_)
  refine G_q rfl (op_assign (av := pA b4 0) rfl ?_)
  refine G_q rfl (op_assign (av := .exact (.int .i64 y3.2)) rfl ?_)
  refine G_nil ?_
  refine kC_normal ?_
  refine k_seq ?_
  refine k_reg .free hmixP (by kernel_rfl) ?_
  obtain ⟨y5, hy5, h⟩ := bnd1_some h
  refine G_l rfl (op_fun_0_1_1 (m_ref35_New_ok _ _ hy5) Try.func33 (by kernel_rfl) (LEs.cons (AV.le_eq rfl) LEs.nil) (fun b6 => ?_))
  refine G_q rfl (op_move (av := .tup [pA b6 0, .exact (.int .i64 y5.2)]) rfl ?_)
  refine G_q rfl (op_extract (av := pA b6 0) rfl rfl ?_)
  refine G_q rfl (op_extract (av := .exact (.int .i64 y5.2)) rfl rfl ?_)
  refine G_q rfl (op_assign (av := pA b6 0) rfl ?_)
  refine G_q rfl (op_assign (av := .exact (.int .i64 y5.2)) rfl ?_)
  refine G_nil ?_
  refine kC_normal ?_
  refine k_join1_1 h (fun (x8d_j7 : Dk) (o8_j7 : List Nat) => (AF.put (AF.put AF0 (some 2) (.row 2 c_A2_int a2)) (some 8) (pA b4 0))) (fun (x8d_j7 : Dk) (o8_j7 : List Nat) => [dskI b4 o8_j7 x8d_j7]) (fun k7 h => ?_) (fun x8d_j7 o8_j7 h => ?_)
  · refine k_seq ?_
    refine k_reg .free hmixP (by kernel_rfl) ?_
    refine G_q rfl (op_assign (av := .exact (.int .i64 0)) rfl ?_)
    refine G_nil ?_
    refine kC_normal ?_
    refine k_block ?_
    refine k_loop12_1 (m_law36_FrontierFiles_L2 a1 k7) (m_law36_FrontierFiles_B2 a1 k7) (fun _ _ _ _ _ _ _ _ _ _ _ _ => rfl) (fun m _ _ _ _ _ _ _ _ _ _ _ _ => rfl) h (fun (x7_0_l2 : List Int) (x7_1_l2 : Int) (x8d_l2 : Dk) (x10_0_l2 : Int) (x10_1_l2 : List ((List UInt8) × Int)) (x10_2_l2 : List ((List UInt8) × Int)) (x10_3_l2 : List ((List UInt8) × Int)) (x10_4_l2 : List (Int × (List UInt8) × (List UInt8) × Int)) (x10_5_l2 : Int) (x10_6_l2 : Bool) (x10_7_l2 : Int) (x12_l2 : Int) (o8_l2 : List Nat) => (AF.put (AF.put (AF.put (AF.put (AF.put (AF.put AF0 (some 1) (.exact (.int .i64 a1))) (some 2) (.row 2 c_A2_int a2)) (some 7) (pA b2 0)) (some 8) (pA b4 0)) (some 10) (pA b6 0)) (some 12) (.exact (.int .i64 x12_l2)))) (fun (x7_0_l2 : List Int) (x7_1_l2 : Int) (x8d_l2 : Dk) (x10_0_l2 : Int) (x10_1_l2 : List ((List UInt8) × Int)) (x10_2_l2 : List ((List UInt8) × Int)) (x10_3_l2 : List ((List UInt8) × Int)) (x10_4_l2 : List (Int × (List UInt8) × (List UInt8) × Int)) (x10_5_l2 : Int) (x10_6_l2 : Bool) (x10_7_l2 : Int) (x12_l2 : Int) (o8_l2 : List Nat) => [boxI 71 b2 [.row 1 c_int x7_0_l2, .exact (.int .i64 x7_1_l2)], dskI b4 o8_l2 x8d_l2, boxI 67 b6 [.exact (.int .i64 x10_0_l2), .row 2 c_cspcheckref35_File x10_1_l2, .row 2 c_cspcheckref35_Name x10_2_l2, .row 2 c_cspcheckref35_Name x10_3_l2, .row 4 c_cspcheckref35_Op x10_4_l2, .exact (.int .i64 x10_5_l2), .exact (.bool x10_6_l2), .exact (.int .i64 x10_7_l2)]]) b4o ?_ (fun rec2 x7_0_l2 x7_1_l2 x8d_l2 x10_0_l2 x10_1_l2 x10_2_l2 x10_3_l2 x10_4_l2 x10_5_l2 x10_6_l2 x10_7_l2 x12_l2 o8_l2 h => ?_)
    · refine Sub.trans (SubU.to SubU.f1) ?_
      refine Sub.trans (SubU.to SubU.f2) ?_
      exact Sub.of_le (AF.le_put (AV.le_eq rfl) (AF.le_put (AV.le_eq rfl) (AF.le_put (AV.le_eq rfl) (AF.le_put (AV.le_eq rfl) (AF.le_put (AV.le_eq rfl) (AF.le_put (AV.le_eq rfl) (AF.le_top _)))))))
    · unfold m_law36_FrontierFiles_B2 at h
      refine k_seq ?_
      refine k_seq ?_
      refine k_reg .free hmixP (by kernel_rfl) ?_
      refine G_q rfl (op_move (av := .exact (.int .i64 x12_l2)) rfl ?_)
      refine G_q rfl (op_lss rfl rfl ?_)
      refine G_nil ?_
      refine kC_normal ?_
      refine k_cond_d (p := x12_l2 < 5) rfl (fun hc => ?_) (fun hc => ?_)
      · replace h := ite_t h hc
        refine k_skip ?_
        refine kC_normal ?_
        refine k_join11_1 h (fun (x7_0_j444 : List Int) (x7_1_j444 : Int) (x8d_j444 : Dk) (x10_0_j444 : Int) (x10_1_j444 : List ((List UInt8) × Int)) (x10_2_j444 : List ((List UInt8) × Int)) (x10_3_j444 : List ((List UInt8) × Int)) (x10_4_j444 : List (Int × (List UInt8) × (List UInt8) × Int)) (x10_5_j444 : Int) (x10_6_j444 : Bool) (x10_7_j444 : Int) (o8_j444 : List Nat) => (AF.put (AF.put (AF.put (AF.put (AF.put (AF.put AF0 (some 1) (.exact (.int .i64 a1))) (some 2) (.row 2 c_A2_int a2)) (some 7) (pA b2 0)) (some 8) (pA b4 0)) (some 10) (pA b6 0)) (some 12) (.exact (.int .i64 x12_l2)))) (fun (x7_0_j444 : List Int) (x7_1_j444 : Int) (x8d_j444 : Dk) (x10_0_j444 : Int) (x10_1_j444 : List ((List UInt8) × Int)) (x10_2_j444 : List ((List UInt8) × Int)) (x10_3_j444 : List ((List UInt8) × Int)) (x10_4_j444 : List (Int × (List UInt8) × (List UInt8) × Int)) (x10_5_j444 : Int) (x10_6_j444 : Bool) (x10_7_j444 : Int) (o8_j444 : List Nat) => [boxI 71 b2 [.row 1 c_int x7_0_j444, .exact (.int .i64 x7_1_j444)], dskI b4 o8_j444 x8d_j444, boxI 67 b6 [.exact (.int .i64 x10_0_j444), .row 2 c_cspcheckref35_File x10_1_j444, .row 2 c_cspcheckref35_Name x10_2_j444, .row 2 c_cspcheckref35_Name x10_3_j444, .row 4 c_cspcheckref35_Op x10_4_j444, .exact (.int .i64 x10_5_j444), .exact (.bool x10_6_j444), .exact (.int .i64 x10_7_j444)]]) (fun k444 h => ?_) (fun x7_0_j444 x7_1_j444 x8d_j444 x10_0_j444 x10_1_j444 x10_2_j444 x10_3_j444 x10_4_j444 x10_5_j444 x10_6_j444 x10_7_j444 o8_j444 h => ?_)
        · refine k_block ?_
          refine k_seq ?_
          refine k_reg .free hmixP (by kernel_rfl) ?_
          refine G_q rfl (op_move (av := pA b2 0) rfl ?_)
          obtain ⟨y488, hy488, h⟩ := bnd1_some h
          refine G_l rfl (op_fun_1_0_1 (m_law36_run_ok _ _ _ hy488) Try.func12 (by kernel_rfl) (LEs.cons (AV.le_eq rfl) (LEs.cons (AV.le_eq rfl) LEs.nil)) ?_)
          refine G_q rfl (op_assign (av := .row 2 c_A2_int y488.1) rfl ?_)
          refine G_nil ?_
          refine kC_normal ?_
          refine k_seq ?_
          refine k_reg .free hmixP (by kernel_rfl) ?_
          refine G_q rfl (op_move (av := pA b2 0) rfl ?_)
          obtain ⟨y489, hy489, h⟩ := bnd1_some h
          refine G_l rfl (op_fun_1_0_1 (m_gen2_Tape_Next_ok _ _ _ hy489) Try.func14 (by kernel_rfl) (LEs.cons (AV.le_eq rfl) (LEs.cons (AV.le_eq rfl) LEs.nil)) ?_)
          refine G_q rfl (op_assign (av := .exact (.int .i64 y489.1)) rfl ?_)
          refine G_nil ?_
          refine kC_normal ?_
          refine k_join1_0 h (fun (x14_j490 : Int) => (AF.put (AF.put (AF.put (AF.put (AF.put (AF.put (AF.put (AF.put AF0 (some 1) (.exact (.int .i64 a1))) (some 2) (.row 2 c_A2_int a2)) (some 7) (pA b2 0)) (some 8) (pA b4 0)) (some 10) (pA b6 0)) (some 12) (.exact (.int .i64 x12_l2))) (some 13) (.row 2 c_A2_int y488.1)) (some 14) (.exact (.int .i64 x14_j490)))) (fun (x14_j490 : Int) => [boxI 71 b2 [.row 1 c_int y489.2.1, .exact (.int .i64 y489.2.2)], dskI b4 o8_l2 x8d_l2, boxI 67 b6 [.exact (.int .i64 x10_0_l2), .row 2 c_cspcheckref35_File x10_1_l2, .row 2 c_cspcheckref35_Name x10_2_l2, .row 2 c_cspcheckref35_Name x10_3_l2, .row 4 c_cspcheckref35_Op x10_4_l2, .exact (.int .i64 x10_5_l2), .exact (.bool x10_6_l2), .exact (.int .i64 x10_7_l2)]]) (fun k490 h => ?_) (fun x14_j490 h => ?_)
          · refine k_seq ?_
            refine k_reg .free hmixP (by kernel_rfl) ?_
            refine G_q rfl (op_move (av := .exact (.int .i64 x12_l2)) rfl ?_)
            refine G_q rfl (op_eql rfl rfl ?_)
            refine G_nil ?_
            refine kC_normal ?_
            refine k_cond_d (p := x12_l2 = 4) rfl (fun hc => ?_) (fun hc => ?_)
            · replace h := ite_t h hc
              refine k_reg .free hmixP (by kernel_rfl) ?_
              refine G_q rfl (op_move (av := .exact (.int .i64 a1)) rfl ?_)
              refine G_q rfl (op_assign (av := .exact (.int .i64 a1)) rfl ?_)
              refine G_nil ?_
              refine kI_normal ⟨_, h, ?_⟩
              exact Sub.of_le (AF.le_put (AV.le_eq rfl) (AF.le_put (AV.le_eq rfl) (AF.le_put (AV.le_eq rfl) (AF.le_put (AV.le_eq rfl) (AF.le_put (AV.le_eq rfl) (AF.le_put (AV.le_eq rfl) (AF.le_put (AV.le_eq rfl) (AF.le_put (AV.le_eq rfl) (AF.le_top _)))))))))
            · replace h := ite_f h hc
              refine k_skip ?_
              refine kI_normal ⟨_, h, ?_⟩
              exact Sub.of_le (AF.le_put (AV.le_eq rfl) (AF.le_put (AV.le_eq rfl) (AF.le_put (AV.le_eq rfl) (AF.le_put (AV.le_eq rfl) (AF.le_put (AV.le_eq rfl) (AF.le_put (AV.le_eq rfl) (AF.le_put (AV.le_eq rfl) (AF.le_put (AV.le_eq rfl) (AF.le_top _)))))))))
          · refine k_join3_0 h (fun (x7_0_j491 : List Int) (x7_1_j491 : Int) (x13_j491 : List (Int × Int)) => (AF.put (AF.put (AF.put (AF.put (AF.put (AF.put (AF.put (AF.put AF0 (some 1) (.exact (.int .i64 a1))) (some 2) (.row 2 c_A2_int a2)) (some 7) (pA b2 0)) (some 8) (pA b4 0)) (some 10) (pA b6 0)) (some 12) (.exact (.int .i64 x12_l2))) (some 13) (.row 2 c_A2_int x13_j491)) (some 14) (.exact (.int .i64 x14_j490)))) (fun (x7_0_j491 : List Int) (x7_1_j491 : Int) (x13_j491 : List (Int × Int)) => [boxI 71 b2 [.row 1 c_int x7_0_j491, .exact (.int .i64 x7_1_j491)], dskI b4 o8_l2 x8d_l2, boxI 67 b6 [.exact (.int .i64 x10_0_l2), .row 2 c_cspcheckref35_File x10_1_l2, .row 2 c_cspcheckref35_Name x10_2_l2, .row 2 c_cspcheckref35_Name x10_3_l2, .row 4 c_cspcheckref35_Op x10_4_l2, .exact (.int .i64 x10_5_l2), .exact (.bool x10_6_l2), .exact (.int .i64 x10_7_l2)]]) (fun k491 h => ?_) (fun x7_0_j491 x7_1_j491 x13_j491 h => ?_)
            · refine k_seq ?_
              refine k_reg .free hmixP (by kernel_rfl) ?_
              refine G_q rfl (op_move (av := pA b2 0) rfl ?_)
              obtain ⟨y494, hy494, h⟩ := bnd1_some h
              refine G_l rfl (op_fun_1_0_1 (m_gen2_Tape_Next_ok _ _ _ hy494) Try.func14 (by kernel_rfl) (LEs.cons (AV.le_eq rfl) (LEs.cons (AV.le_eq rfl) LEs.nil)) ?_)
              refine G_q rfl (op_eql rfl rfl ?_)
              refine G_nil ?_
              refine kC_normal ?_
              refine k_cond_d (p := y494.1 = 0) rfl (fun hc => ?_) (fun hc => ?_)
              · replace h := ite_t h hc
                refine k_reg .free hmixP (by kernel_rfl) ?_
                refine G_q rfl (op_move (av := pA b2 0) rfl ?_)
                obtain ⟨y495, hy495, h⟩ := bnd1_some h
                refine G_l rfl (op_fun_1_0_1 (m_law36_pairs_ok _ _ _ hy495) Try.func13 (by kernel_rfl) (LEs.cons (AV.le_eq rfl) (LEs.cons (AV.le_eq rfl) LEs.nil)) ?_)
                refine G_q rfl (op_assign (av := .row 2 c_A2_int y495.1) rfl ?_)
                refine G_nil ?_
                refine kI_normal ⟨_, _, _, h, ?_⟩
                exact Sub.of_le (AF.le_put (AV.le_eq rfl) (AF.le_put (AV.le_eq rfl) (AF.le_put (AV.le_eq rfl) (AF.le_put (AV.le_eq rfl) (AF.le_put (AV.le_eq rfl) (AF.le_put (AV.le_eq rfl) (AF.le_put (AV.le_eq rfl) (AF.le_put (AV.le_eq rfl) (AF.le_top _)))))))))
              · replace h := ite_f h hc
                refine k_skip ?_
                refine kI_normal ⟨_, _, _, h, ?_⟩
                exact Sub.of_le (AF.le_put (AV.le_eq rfl) (AF.le_put (AV.le_eq rfl) (AF.le_put (AV.le_eq rfl) (AF.le_put (AV.le_eq rfl) (AF.le_put (AV.le_eq rfl) (AF.le_put (AV.le_eq rfl) (AF.le_put (AV.le_eq rfl) (AF.le_put (AV.le_eq rfl) (AF.le_top _)))))))))
            · refine k_join11_1 h (fun (x7_0_j496 : List Int) (x7_1_j496 : Int) (x8d_j496 : Dk) (x10_0_j496 : Int) (x10_1_j496 : List ((List UInt8) × Int)) (x10_2_j496 : List ((List UInt8) × Int)) (x10_3_j496 : List ((List UInt8) × Int)) (x10_4_j496 : List (Int × (List UInt8) × (List UInt8) × Int)) (x10_5_j496 : Int) (x10_6_j496 : Bool) (x10_7_j496 : Int) (o8_j496 : List Nat) => (AF.put (AF.put (AF.put (AF.put (AF.put (AF.put (AF.put (AF.put AF0 (some 1) (.exact (.int .i64 a1))) (some 2) (.row 2 c_A2_int a2)) (some 7) (pA b2 0)) (some 8) (pA b4 0)) (some 10) (pA b6 0)) (some 12) (.exact (.int .i64 x12_l2))) (some 13) (.row 2 c_A2_int x13_j491)) (some 14) (.exact (.int .i64 x14_j490)))) (fun (x7_0_j496 : List Int) (x7_1_j496 : Int) (x8d_j496 : Dk) (x10_0_j496 : Int) (x10_1_j496 : List ((List UInt8) × Int)) (x10_2_j496 : List ((List UInt8) × Int)) (x10_3_j496 : List ((List UInt8) × Int)) (x10_4_j496 : List (Int × (List UInt8) × (List UInt8) × Int)) (x10_5_j496 : Int) (x10_6_j496 : Bool) (x10_7_j496 : Int) (o8_j496 : List Nat) => [boxI 71 b2 [.row 1 c_int x7_0_j496, .exact (.int .i64 x7_1_j496)], dskI b4 o8_j496 x8d_j496, boxI 67 b6 [.exact (.int .i64 x10_0_j496), .row 2 c_cspcheckref35_File x10_1_j496, .row 2 c_cspcheckref35_Name x10_2_j496, .row 2 c_cspcheckref35_Name x10_3_j496, .row 4 c_cspcheckref35_Op x10_4_j496, .exact (.int .i64 x10_5_j496), .exact (.bool x10_6_j496), .exact (.int .i64 x10_7_j496)]]) (fun k496 h => ?_) (fun x7_0_j496 x7_1_j496 x8d_j496 x10_0_j496 x10_1_j496 x10_2_j496 x10_3_j496 x10_4_j496 x10_5_j496 x10_6_j496 x10_7_j496 o8_j496 h => ?_)
              · refine k_seq ?_
                refine k_reg .free hmixP (by kernel_rfl) ?_
                refine G_q rfl (op_move (av := pA b2 0) rfl ?_)
                obtain ⟨y501, hy501, h⟩ := bnd1_some h
                refine G_l rfl (op_fun_1_0_1 (m_gen2_Tape_Next_ok _ _ _ hy501) Try.func14 (by kernel_rfl) (LEs.cons (AV.le_eq rfl) (LEs.cons (AV.le_eq rfl) LEs.nil)) ?_)
                refine G_q rfl (op_eql rfl rfl ?_)
                refine G_nil ?_
                refine kC_normal ?_
                refine k_cond_d (p := y501.1 = 0) rfl (fun hc => ?_) (fun hc => ?_)
                · replace h := ite_t h hc
                  refine k_seq ?_
                  refine k_reg .free hmixP (by kernel_rfl) ?_
                  refine G_q rfl (op_move (av := pA b4 0) rfl ?_)
                  obtain ⟨y502, hy502, h⟩ := bnd1_some h
                  refine G_l rfl (opB_f1 (op_fun_1_1_1 (m_disk_Fail_ok _ _ _ hy502) Try.func34 (by kernel_rfl) (LEs.cons (AV.le_eq rfl) (LEs.cons (AV.le_eq rfl) LEs.nil)) (fun o503 => ?_)))
                  refine G_nil ?_
                  refine kC_normal ?_
                  refine k_reg .free hmixP (by kernel_rfl) ?_
                  refine G_q rfl (op_move (av := pA b6 0) rfl ?_)
                  obtain ⟨y504, hy504, h⟩ := bnd1_some h
                  refine G_l rfl (opB_f2 (op_fun_1_0_1 (m_ref35_Disk_Fail_ok _ _ _ hy504) Try.func35 (by kernel_rfl) (LEs.cons (AV.le_eq rfl) (LEs.cons (AV.le_eq rfl) LEs.nil)) ?_))
                  refine G_nil ?_
                  refine kI_normal ⟨_, _, _, _, _, _, _, _, _, _, _, o503, h, ?_⟩
                  refine Sub.trans (SubU.to SubU.f1) ?_
                  refine Sub.trans (SubU.to SubU.f2) ?_
                  exact Sub.of_le (AF.le_put (AV.le_eq rfl) (AF.le_put (AV.le_eq rfl) (AF.le_put (AV.le_eq rfl) (AF.le_put (AV.le_eq rfl) (AF.le_put (AV.le_eq rfl) (AF.le_put (AV.le_eq rfl) (AF.le_put (AV.le_eq rfl) (AF.le_put (AV.le_eq rfl) (AF.le_top _)))))))))
                · replace h := ite_f h hc
                  refine k_skip ?_
                  refine kI_normal ⟨_, _, _, _, _, _, _, _, _, _, _, o8_l2, h, ?_⟩
                  exact Sub.of_le (AF.le_put (AV.le_eq rfl) (AF.le_put (AV.le_eq rfl) (AF.le_put (AV.le_eq rfl) (AF.le_put (AV.le_eq rfl) (AF.le_put (AV.le_eq rfl) (AF.le_put (AV.le_eq rfl) (AF.le_put (AV.le_eq rfl) (AF.le_put (AV.le_eq rfl) (AF.le_top _)))))))))
              · refine k_seq ?_
                refine k_reg .free hmixP (by kernel_rfl) ?_
                refine G_q rfl (op_move (av := pA b4 0) rfl ?_)
                refine G_q rfl (op_move (av := .row 2 c_A2_int x13_j491) rfl ?_)
                refine G_q rfl (op_move (av := .exact (.int .i64 x14_j490)) rfl ?_)
                obtain ⟨y505, hy505, h⟩ := bnd1_some h
                refine G_l rfl (opB_f1 (op_fun_1_1_1 (m_frontier_Write_ok _ _ _ _ _ hy505) Try.func22 (by kernel_rfl) (LEs.cons (AV.le_eq rfl) (LEs.cons (AV.le_eq rfl) (LEs.cons (AV.le_eq rfl) (LEs.cons (AV.le_eq rfl) LEs.nil)))) (fun o506 => ?_)))
                refine G_q rfl (op_move (av := pA b6 0) rfl ?_)
                refine G_q rfl (op_move (av := .row 2 c_A2_int x13_j491) rfl ?_)
                refine G_q rfl (op_move (av := .exact (.int .i64 x14_j490)) rfl ?_)
                obtain ⟨y507, hy507, h⟩ := bnd1_some h
                refine G_l rfl (opB_f2 (op_fun_1_0_1 (m_ref35_Write_ok _ _ _ _ _ hy507) Try.func36 (by kernel_rfl) (LEs.cons (AV.le_eq rfl) (LEs.cons (AV.le_eq rfl) (LEs.cons (AV.le_eq rfl) (LEs.cons (AV.le_eq rfl) LEs.nil)))) ?_))
                refine G_q rfl (op_assign (av := .exact (.int .i64 y505.1)) rfl ?_)
                refine G_q rfl (op_assign (av := .exact (.int .i64 y507.1)) rfl ?_)
                refine G_nil ?_
                refine kC_normal ?_
                refine k_seq ?_
                refine k_reg .free hmixP (by kernel_rfl) ?_
                refine G_q rfl (op_move (av := pA b4 0) rfl ?_)
                obtain ⟨y508, hy508, h⟩ := bnd1_some h
                refine G_l rfl (opB_f1 (op_fun_1_1_1 (m_frontier_Read_ok _ _ _ hy508) Try.func23 (by kernel_rfl) (LEs.cons (AV.le_eq rfl) (LEs.cons (AV.le_eq rfl) LEs.nil)) (fun o509 => ?_)))
                refine G_q rfl (op_move (av := .tup [.row 2 c_A2_int y508.1, .exact (.int .i64 y508.2.1)]) rfl ?_)
                refine G_q rfl (op_extract (av := .row 2 c_A2_int y508.1) rfl rfl ?_)
                refine G_q rfl (op_extract (av := .exact (.int .i64 y508.2.1)) rfl rfl ?_)
                refine G_q rfl (op_assign (av := .row 2 c_A2_int y508.1) rfl ?_)
                refine G_q rfl (op_assign (av := .exact (.int .i64 y508.2.1)) rfl ?_)
                refine G_nil ?_
                refine kC_normal ?_
                refine k_seq ?_
                refine k_reg .free hmixP (by kernel_rfl) ?_
                refine G_q rfl (op_move (av := pA b6 0) rfl ?_)
                obtain ⟨y510, hy510, h⟩ := bnd1_some h
                refine G_l rfl (opB_f1 (op_fun_1_0_1 (m_ref35_Read_ok _ _ _ hy510) Try.func37 (by kernel_rfl) (LEs.cons (AV.le_eq rfl) (LEs.cons (AV.le_eq rfl) LEs.nil)) ?_))
                refine G_q rfl (op_move (av := .tup [.row 2 c_A2_int y510.1, .exact (.int .i64 y510.2.1), .exact (.int .i64 y510.2.2.1)]) rfl ?_)
                refine G_q rfl (op_extract (av := .row 2 c_A2_int y510.1) rfl rfl ?_)
                refine G_q rfl (op_extract (av := .exact (.int .i64 y510.2.1)) rfl rfl ?_)
                refine G_q rfl (op_extract (av := .exact (.int .i64 y510.2.2.1)) rfl rfl ?_)
                refine G_q rfl (op_assign (av := .row 2 c_A2_int y510.1) rfl ?_)
                refine G_q rfl (op_assign (av := .exact (.int .i64 y510.2.1)) rfl ?_)
                refine G_q rfl (op_assign (av := .exact (.int .i64 y510.2.2.1)) rfl ?_)
                refine G_nil ?_
                refine kC_normal ?_
                refine k_seq ?_
                refine k_reg .free hmixP (by kernel_rfl) ?_
                refine G_q rfl (op_move (av := pA b4 0) rfl ?_)
                obtain ⟨y511, hy511, h⟩ := bnd1_some h
                refine G_l rfl (opB_f1 (op_fun_1_1_1 (m_frontier_Blocks_ok _ _ _ hy511) Try.func24 (by kernel_rfl) (LEs.cons (AV.le_eq rfl) (LEs.cons (AV.le_eq rfl) LEs.nil)) (fun o512 => ?_)))
                refine G_q rfl (op_move (av := .tup [.exact (.int .i64 y511.1), .exact (.int .i64 y511.2.1)]) rfl ?_)
                refine G_q rfl (op_extract (av := .exact (.int .i64 y511.1)) rfl rfl ?_)
                refine G_q rfl (op_extract (av := .exact (.int .i64 y511.2.1)) rfl rfl ?_)
                refine G_q rfl (op_assign (av := .exact (.int .i64 y511.1)) rfl ?_)
                refine G_q rfl (op_assign (av := .exact (.int .i64 y511.2.1)) rfl ?_)
                refine G_nil ?_
                refine kC_normal ?_
                refine k_seq ?_
                refine k_join2_1 h (fun (x8d_j521 : Dk) (x114_j521 : Bool) (o8_j521 : List Nat) => (AF.put (AF.put (AF.put (AF.put (AF.put (AF.put (AF.put AF0 (some 1) (.exact (.int .i64 a1))) (some 2) (.row 2 c_A2_int a2)) (some 7) (pA b2 0)) (some 8) (pA b4 0)) (some 10) (pA b6 0)) (some 12) (.exact (.int .i64 x12_l2))) (some 114) (.exact (.bool x114_j521)))) (fun (x8d_j521 : Dk) (x114_j521 : Bool) (o8_j521 : List Nat) => [boxI 71 b2 [.row 1 c_int x7_0_j496, .exact (.int .i64 x7_1_j496)], dskI b4 o8_j521 x8d_j521, boxI 67 b6 [.exact (.int .i64 y510.2.2.2.1), .row 2 c_cspcheckref35_File y510.2.2.2.2.1, .row 2 c_cspcheckref35_Name y510.2.2.2.2.2.1, .row 2 c_cspcheckref35_Name y510.2.2.2.2.2.2.1, .row 4 c_cspcheckref35_Op y510.2.2.2.2.2.2.2.1, .exact (.int .i64 y510.2.2.2.2.2.2.2.2.1), .exact (.bool y510.2.2.2.2.2.2.2.2.2.1), .exact (.int .i64 y510.2.2.2.2.2.2.2.2.2.2)]]) (fun k521 h => ?_) (fun x8d_j521 x114_j521 o8_j521 h => ?_)
                · refine k_plan [boxI 67 b6 [.exact (.int .i64 y510.2.2.2.1), .row 2 c_cspcheckref35_File y510.2.2.2.2.1, .row 2 c_cspcheckref35_Name y510.2.2.2.2.2.1, .row 2 c_cspcheckref35_Name y510.2.2.2.2.2.2.1, .row 4 c_cspcheckref35_Op y510.2.2.2.2.2.2.2.1, .exact (.int .i64 y510.2.2.2.2.2.2.2.2.1), .exact (.bool y510.2.2.2.2.2.2.2.2.2.1), .exact (.int .i64 y510.2.2.2.2.2.2.2.2.2.2)]] [(0, 0), (0, 1), (0, 2), (0, 3), (0, 4), (0, 5), (0, 6), (0, 7), (0, 8), (0, 9), (0, 10), (0, 11), (0, 12), (0, 13), (0, 14), (0, 15), (0, 16), (0, 17), (0, 18), (0, 19), (0, 20), (0, 21), (0, 22), (0, 23), (0, 24), (0, 25), (0, 27), (0, 28), (0, 29), (4, 30), (3, 26), (0, 31), (0, 32)] hmixP (by kernel_rfl) ?_
                  refine P_q no34_0 rfl (op_move (av := .exact (.int .i64 y505.1)) rfl ?_)
                  refine P_q no34_0 rfl (op_move (av := .exact (.int .i64 y507.1)) rfl ?_)
                  refine P_q no34_0 rfl (op_neq rfl rfl ?_)
                  refine P_q no34_0 rfl (op_move (av := .exact (.bool (decide (¬ y505.1 = y507.1)))) rfl ?_)
                  refine P_split (p := ¬ y505.1 = y507.1) 85 rfl (fun hc => ?_) (fun hc => ?_)
                  · replace h := ite_t h hc
                    refine P_n no34_0 rfl rfl rfl ?_
                    refine P_n no34_0 rfl rfl rfl ?_
                    refine P_n no34_0 rfl rfl rfl ?_
                    refine P_q no34_0 rfl (op_pick_t rfl (av := .exact (.bool true)) rfl ?_)
                    refine P_q no34_0 rfl (op_move (av := .exact (.bool true)) rfl ?_)
                    refine P_n no34_0 rfl rfl rfl ?_
                    refine P_n no34_0 rfl rfl rfl ?_
                    refine P_n no34_0 rfl rfl rfl ?_
                    refine P_q no34_0 rfl (op_pick_t rfl (av := .exact (.bool true)) rfl ?_)
                    refine P_q no34_0 rfl (op_move (av := .exact (.bool true)) rfl ?_)
                    refine P_n no34_0 rfl rfl rfl ?_
                    refine P_n no34_0 rfl rfl rfl ?_
                    refine P_n no34_0 rfl rfl rfl ?_
                    refine P_n no34_0 rfl rfl rfl ?_
                    refine P_q no34_0 rfl (op_pick_t rfl (av := .exact (.bool true)) rfl ?_)
                    refine P_q no34_0 rfl (op_move (av := .exact (.bool true)) rfl ?_)
                    refine P_n no34_0 rfl rfl rfl ?_
                    refine P_n no34_0 rfl rfl rfl ?_
                    refine P_n no34_0 rfl rfl rfl ?_
                    refine P_q no34_0 rfl (op_pick_t rfl (av := .exact (.bool true)) rfl ?_)
                    refine P_q no34_0 rfl (op_move (av := .exact (.bool true)) rfl ?_)
                    refine P_n no34_0 rfl rfl rfl ?_
                    refine P_n no34_0 rfl rfl rfl ?_
                    refine P_n no34_0 rfl rfl rfl ?_
                    refine P_n no34_0 rfl rfl rfl ?_
                    refine P_n (fun _ => (Has.cons (List.Mem.tail _ (List.Mem.head _)) Has.mk0)) rfl rfl rfl ?_
                    refine P_n (fun _ => (Has.cons (List.Mem.tail _ (List.Mem.head _)) Has.mk0)) rfl rfl rfl ?_
                    refine P_n no34_0 rfl rfl rfl ?_
                    refine P_q no34_0 rfl (op_pick_t rfl (av := .exact (.bool true)) rfl ?_)
                    refine P_nil ?_
                    refine kI_normal ⟨_, _, o512, h, ?_⟩
                    refine Sub.trans (SubU.to SubU.f1) ?_
                    refine Sub.trans (SubU.to SubU.f1) ?_
                    refine Sub.trans (SubU.to SubU.f2) ?_
                    exact Sub.of_le (AF.le_put (AV.le_eq rfl) (AF.le_put (AV.le_eq rfl) (AF.le_put (AV.le_eq rfl) (AF.le_put (AV.le_eq rfl) (AF.le_put (AV.le_eq rfl) (AF.le_put (AV.le_eq rfl) (AF.le_put (AV.le_eq rfl) (AF.le_top _))))))))
                  · replace h := ite_f h hc
                    refine Py_q no34_0 rfl rfl rfl (op_move (av := .exact (.int .i64 y508.2.1)) rfl ?_)
                    refine Py_q no34_0 rfl rfl rfl (op_move (av := .exact (.int .i64 y510.2.2.1)) rfl ?_)
                    refine Py_q no34_0 rfl rfl rfl (op_neq rfl rfl ?_)
                    refine P_q no34_0 rfl (op_pick_f rfl (av := .exact (.bool (decide (¬ y508.2.1 = y510.2.2.1)))) rfl ?_)
                    refine P_q no34_0 rfl (op_move (av := .exact (.bool (decide (¬ y508.2.1 = y510.2.2.1)))) rfl ?_)
                    refine P_split (p := ¬ y508.2.1 = y510.2.2.1) 90 rfl (fun hc => ?_) (fun hc => ?_)
                    · replace h := ite_t h hc
                      refine P_n no34_0 rfl rfl rfl ?_
                      refine P_n no34_0 rfl rfl rfl ?_
                      refine P_n no34_0 rfl rfl rfl ?_
                      refine P_q no34_0 rfl (op_pick_t rfl (av := .exact (.bool true)) rfl ?_)
                      refine P_q no34_0 rfl (op_move (av := .exact (.bool true)) rfl ?_)
                      refine P_n no34_0 rfl rfl rfl ?_
                      refine P_n no34_0 rfl rfl rfl ?_
                      refine P_n no34_0 rfl rfl rfl ?_
                      refine P_n no34_0 rfl rfl rfl ?_
                      refine P_q no34_0 rfl (op_pick_t rfl (av := .exact (.bool true)) rfl ?_)
                      refine P_q no34_0 rfl (op_move (av := .exact (.bool true)) rfl ?_)
                      refine P_n no34_0 rfl rfl rfl ?_
                      refine P_n no34_0 rfl rfl rfl ?_
                      refine P_n no34_0 rfl rfl rfl ?_
                      refine P_q no34_0 rfl (op_pick_t rfl (av := .exact (.bool true)) rfl ?_)
                      refine P_q no34_0 rfl (op_move (av := .exact (.bool true)) rfl ?_)
                      refine P_n no34_0 rfl rfl rfl ?_
                      refine P_n no34_0 rfl rfl rfl ?_
                      refine P_n no34_0 rfl rfl rfl ?_
                      refine P_n no34_0 rfl rfl rfl ?_
                      refine P_n (fun _ => (Has.cons (List.Mem.tail _ (List.Mem.head _)) Has.mk0)) rfl rfl rfl ?_
                      refine P_n (fun _ => (Has.cons (List.Mem.tail _ (List.Mem.head _)) Has.mk0)) rfl rfl rfl ?_
                      refine P_n no34_0 rfl rfl rfl ?_
                      refine P_q no34_0 rfl (op_pick_t rfl (av := .exact (.bool true)) rfl ?_)
                      refine P_nil ?_
                      refine kI_normal ⟨_, _, o512, h, ?_⟩
                      refine Sub.trans (SubU.to SubU.f1) ?_
                      refine Sub.trans (SubU.to SubU.f1) ?_
                      refine Sub.trans (SubU.to SubU.f2) ?_
                      exact Sub.of_le (AF.le_put (AV.le_eq rfl) (AF.le_put (AV.le_eq rfl) (AF.le_put (AV.le_eq rfl) (AF.le_put (AV.le_eq rfl) (AF.le_put (AV.le_eq rfl) (AF.le_put (AV.le_eq rfl) (AF.le_put (AV.le_eq rfl) (AF.le_top _))))))))
                    · replace h := ite_f h hc
                      refine Py_q no34_0 rfl rfl rfl (op_move (av := .exact (.int .i64 y511.2.1)) rfl ?_)
                      refine Py_q no34_0 rfl rfl rfl (op_move (av := .exact (.int .i64 y510.2.2.1)) rfl ?_)
                      refine Py_q no34_0 rfl rfl rfl (op_neq rfl rfl ?_)
                      refine P_q no34_0 rfl (op_pick_f rfl (av := .exact (.bool (decide (¬ y511.2.1 = y510.2.2.1)))) rfl ?_)
                      refine P_q no34_0 rfl (op_move (av := .exact (.bool (decide (¬ y511.2.1 = y510.2.2.1)))) rfl ?_)
                      refine P_split (p := ¬ y511.2.1 = y510.2.2.1) 95 rfl (fun hc => ?_) (fun hc => ?_)
                      · replace h := ite_t h hc
                        refine P_n no34_0 rfl rfl rfl ?_
                        refine P_n no34_0 rfl rfl rfl ?_
                        refine P_n no34_0 rfl rfl rfl ?_
                        refine P_n no34_0 rfl rfl rfl ?_
                        refine P_q no34_0 rfl (op_pick_t rfl (av := .exact (.bool true)) rfl ?_)
                        refine P_q no34_0 rfl (op_move (av := .exact (.bool true)) rfl ?_)
                        refine P_n no34_0 rfl rfl rfl ?_
                        refine P_n no34_0 rfl rfl rfl ?_
                        refine P_n no34_0 rfl rfl rfl ?_
                        refine P_q no34_0 rfl (op_pick_t rfl (av := .exact (.bool true)) rfl ?_)
                        refine P_q no34_0 rfl (op_move (av := .exact (.bool true)) rfl ?_)
                        refine P_n no34_0 rfl rfl rfl ?_
                        refine P_n no34_0 rfl rfl rfl ?_
                        refine P_n no34_0 rfl rfl rfl ?_
                        refine P_n no34_0 rfl rfl rfl ?_
                        refine P_n (fun _ => (Has.cons (List.Mem.tail _ (List.Mem.head _)) Has.mk0)) rfl rfl rfl ?_
                        refine P_n (fun _ => (Has.cons (List.Mem.tail _ (List.Mem.head _)) Has.mk0)) rfl rfl rfl ?_
                        refine P_n no34_0 rfl rfl rfl ?_
                        refine P_q no34_0 rfl (op_pick_t rfl (av := .exact (.bool true)) rfl ?_)
                        refine P_nil ?_
                        refine kI_normal ⟨_, _, o512, h, ?_⟩
                        refine Sub.trans (SubU.to SubU.f1) ?_
                        refine Sub.trans (SubU.to SubU.f1) ?_
                        refine Sub.trans (SubU.to SubU.f2) ?_
                        exact Sub.of_le (AF.le_put (AV.le_eq rfl) (AF.le_put (AV.le_eq rfl) (AF.le_put (AV.le_eq rfl) (AF.le_put (AV.le_eq rfl) (AF.le_put (AV.le_eq rfl) (AF.le_put (AV.le_eq rfl) (AF.le_put (AV.le_eq rfl) (AF.le_top _))))))))
                      · replace h := ite_f h hc
                        refine Py_q no34_0 rfl rfl rfl (op_move (av := .row 2 c_A2_int y508.1) rfl ?_)
                        refine Py_q no34_0 rfl rfl rfl (op_move (av := .row 2 c_A2_int y510.1) rfl ?_)
                        obtain ⟨y525, hy525, h⟩ := bnd1_some h
                        refine Py_q no34_0 rfl rfl rfl (op_pure (m_law36_same_ok _ _ _ hy525) Try.func25 (by kernel_rfl) (LEs.cons (AV.le_eq rfl) (LEs.cons (AV.le_eq rfl) LEs.nil)) ?_)
                        refine Py_q no34_0 rfl rfl rfl (op_not rfl ?_)
                        refine P_q no34_0 rfl (op_pick_f rfl (av := .exact (.bool (!y525))) rfl ?_)
                        refine P_q no34_0 rfl (op_move (av := .exact (.bool (!y525))) rfl ?_)
                        refine P_splitB (c := !y525) 101 rfl (fun hc => ?_) (fun hc => ?_)
                        · replace h := ite_t h hc
                          refine P_n no34_0 rfl rfl rfl ?_
                          refine P_n no34_0 rfl rfl rfl ?_
                          refine P_n no34_0 rfl rfl rfl ?_
                          refine P_q no34_0 rfl (op_pick_t rfl (av := .exact (.bool true)) rfl ?_)
                          refine P_q no34_0 rfl (op_move (av := .exact (.bool true)) rfl ?_)
                          refine P_n no34_0 rfl rfl rfl ?_
                          refine P_n no34_0 rfl rfl rfl ?_
                          refine P_n no34_0 rfl rfl rfl ?_
                          refine P_n no34_0 rfl rfl rfl ?_
                          refine P_n (fun _ => (Has.cons (List.Mem.tail _ (List.Mem.head _)) Has.mk0)) rfl rfl rfl ?_
                          refine P_n (fun _ => (Has.cons (List.Mem.tail _ (List.Mem.head _)) Has.mk0)) rfl rfl rfl ?_
                          refine P_n no34_0 rfl rfl rfl ?_
                          refine P_q no34_0 rfl (op_pick_t rfl (av := .exact (.bool true)) rfl ?_)
                          refine P_nil ?_
                          refine kI_normal ⟨_, _, o512, h, ?_⟩
                          refine Sub.trans (SubU.to SubU.f1) ?_
                          refine Sub.trans (SubU.to SubU.f1) ?_
                          refine Sub.trans (SubU.to SubU.f2) ?_
                          exact Sub.of_le (AF.le_put (AV.le_eq rfl) (AF.le_put (AV.le_eq rfl) (AF.le_put (AV.le_eq rfl) (AF.le_put (AV.le_eq rfl) (AF.le_put (AV.le_eq rfl) (AF.le_put (AV.le_eq rfl) (AF.le_put (AV.le_eq rfl) (AF.le_top _))))))))
                        · replace h := ite_f h hc
                          refine Py_q no34_0 rfl rfl rfl (op_move (av := .exact (.int .i64 y511.1)) rfl ?_)
                          refine Py_q no34_0 rfl rfl rfl (op_move (av := .exact (.int .i64 y510.2.1)) rfl ?_)
                          refine Py_q no34_0 rfl rfl rfl (op_neq rfl rfl ?_)
                          refine P_q no34_0 rfl (op_pick_f rfl (av := .exact (.bool (decide (¬ y511.1 = y510.2.1)))) rfl ?_)
                          refine P_q no34_0 rfl (op_move (av := .exact (.bool (decide (¬ y511.1 = y510.2.1)))) rfl ?_)
                          refine P_split (p := ¬ y511.1 = y510.2.1) 106 rfl (fun hc => ?_) (fun hc => ?_)
                          · replace h := ite_t h hc
                            refine P_n no34_0 rfl rfl rfl ?_
                            refine P_n no34_0 rfl rfl rfl ?_
                            refine P_n no34_0 rfl rfl rfl ?_
                            refine P_n no34_0 rfl rfl rfl ?_
                            refine P_n (fun _ => (Has.cons (List.Mem.tail _ (List.Mem.head _)) Has.mk0)) rfl rfl rfl ?_
                            refine P_n (fun _ => (Has.cons (List.Mem.tail _ (List.Mem.head _)) Has.mk0)) rfl rfl rfl ?_
                            refine P_n no34_0 rfl rfl rfl ?_
                            refine P_q no34_0 rfl (op_pick_t rfl (av := .exact (.bool true)) rfl ?_)
                            refine P_nil ?_
                            refine kI_normal ⟨_, _, o512, h, ?_⟩
                            refine Sub.trans (SubU.to SubU.f1) ?_
                            refine Sub.trans (SubU.to SubU.f1) ?_
                            refine Sub.trans (SubU.to SubU.f2) ?_
                            exact Sub.of_le (AF.le_put (AV.le_eq rfl) (AF.le_put (AV.le_eq rfl) (AF.le_put (AV.le_eq rfl) (AF.le_put (AV.le_eq rfl) (AF.le_put (AV.le_eq rfl) (AF.le_put (AV.le_eq rfl) (AF.le_put (AV.le_eq rfl) (AF.le_top _))))))))
                          · replace h := ite_f h hc
                            refine Py_q no34_0 rfl rfl rfl (op_move (av := pA b4 0) rfl ?_)
                            refine Py_q no34_0 rfl rfl rfl (op_move (av := pA b6 0) rfl ?_)
                            refine Py_q no34_0 rfl rfl rfl (op_nilCheck rfl ?_)
                            refine Py_q no34_0 rfl rfl rfl (op_fieldAddr (o := 7) (by kernel_rfl) rfl ?_)
                            refine Py_r4 (Has.cons (List.Mem.tail _ (List.Mem.head _)) Has.mk0) rfl rfl rfl (opI_mk (List.Mem.head _) (fun _ => op_load_box1 (a := .exact (.int .i64 y510.2.2.2.2.2.2.2.2.2.2)) (by kernel_rfl) rfl rfl rfl) ?_)
                            obtain ⟨y526, hy526, h⟩ := bnd1_some h
                            refine Py_l3 rfl rfl rfl (op_fun_1_1_1 (m_disk_Writes_ok _ _ hy526) Try.func32 (by kernel_rfl) (LEs.cons (AV.le_eq rfl) LEs.nil) (fun o527 => ⟨(Has.cons (List.Mem.tail _ (List.Mem.head _)) Has.mk0), ?_⟩))
                            refine Py_q no34_0 rfl rfl rfl (op_neq rfl rfl ?_)
                            refine P_q no34_0 rfl (op_pick_f rfl (av := .exact (.bool (decide (¬ y526.1 = y510.2.2.2.2.2.2.2.2.2.2)))) rfl ?_)
                            refine P_nil ?_
                            refine kI_normal ⟨_, _, o527, h, ?_⟩
                            refine Sub.trans (SubU.to SubU.f1) ?_
                            refine Sub.trans (SubU.to SubU.f1) ?_
                            refine Sub.trans (SubU.to SubU.f2) ?_
                            exact Sub.of_le (AF.le_put (AV.le_eq rfl) (AF.le_put (AV.le_eq rfl) (AF.le_put (AV.le_eq rfl) (AF.le_put (AV.le_eq rfl) (AF.le_put (AV.le_eq rfl) (AF.le_put (AV.le_eq rfl) (AF.le_put (AV.le_eq rfl) (AF.le_top _))))))))
                · refine k_cond_b (c := x114_j521) rfl (fun hc => ?_) (fun hc => ?_)
                  · replace h := ite_t h hc
                    refine k_seq ?_
                    refine k_reg .free hmixP (by kernel_rfl) ?_
                    refine G_q rfl (op_assign (av := .exact (.bool false)) rfl ?_)
                    refine G_nil ?_
                    refine kC_normal ?_
                    refine k_ret ?_
                    refine kC_ret ?_
                    refine kB_ret ?_
                    refine kI_ret ?_
                    refine kI_ret ?_
                    refine kB_ret ?_
                    refine kI_ret ?_
                    obtain rfl := Option.some.inj h
                    refine kP_any (endN (af' := (AF.put AF0 (some 6) (.exact (.bool false)))) (σ' := []) _ rfl ?_ ⟨rfl, rfl⟩)
                    refine Sub.trans (SubU.to SubU.drop) ?_
                    refine Sub.trans (SubU.to SubU.drop) ?_
                    refine Sub.trans (SubU.to SubU.drop) ?_
                    exact Sub.of_le (AF.le_put (AV.le_eq rfl) (AF.le_top _))
                  · replace h := ite_f h hc
                    refine k_skip ?_
                    refine kC_normal ?_
                    refine k_seq ?_
                    refine k_reg .free hmixP (by kernel_rfl) ?_
                    refine G_q rfl (op_move (av := pA b6 0) rfl ?_)
                    refine G_q rfl (op_nilCheck rfl ?_)
                    refine G_q rfl (op_fieldAddr (o := 6) (by kernel_rfl) rfl ?_)
                    refine G_r rfl (opR_f2 (op_load_box1 (a := .exact (.bool y510.2.2.2.2.2.2.2.2.2.1)) (by kernel_rfl) rfl rfl ?_))
                    refine G_nil ?_
                    refine kC_normal ?_
                    refine k_cond_b (c := y510.2.2.2.2.2.2.2.2.2.1) rfl (fun hc => ?_) (fun hc => ?_)
                    · replace h := ite_t h hc
                      refine k_seq ?_
                      refine k_reg .free hmixP (by kernel_rfl) ?_
                      refine G_q rfl (op_move (av := pA b4 0) rfl ?_)
                      refine G_q rfl (op_move (av := .exact (.int .i64 x12_l2)) rfl ?_)
                      refine G_q rfl (op_litT (n := 1) (enc := c_int) [1, x12_l2] (CellsAll.cons rfl CellsOf.int (CellsAll.cons rfl CellsOf.int CellsAll.nil)) rfl (by kernel_rfl) (LEss.cons (LEs.cons (AV.le_eq rfl) LEs.nil) (LEss.cons (LEs.cons (AV.le_eq rfl) LEs.nil) LEss.nil)) ?_)
                      obtain ⟨y528, hy528, h⟩ := bnd1_some h
                      refine G_l rfl (opB_f1 (op_fun_1_1_1 (m_disk_Crash_ok _ _ _ hy528) Try.func38 (by kernel_rfl) (LEs.cons (AV.le_eq rfl) (LEs.cons (AV.le_eq rfl) LEs.nil)) (fun o529 => ?_)))
                      refine G_nil ?_
                      refine kC_normal ?_
                      refine k_reg .free hmixP (by kernel_rfl) ?_
                      refine G_q rfl (op_move (av := pA b6 0) rfl ?_)
                      refine G_q rfl (op_move (av := .exact (.int .i64 x12_l2)) rfl ?_)
                      refine G_q rfl (op_litT (n := 1) (enc := c_int) [1, x12_l2] (CellsAll.cons rfl CellsOf.int (CellsAll.cons rfl CellsOf.int CellsAll.nil)) rfl (by kernel_rfl) (LEss.cons (LEs.cons (AV.le_eq rfl) LEs.nil) (LEss.cons (LEs.cons (AV.le_eq rfl) LEs.nil) LEss.nil)) ?_)
                      obtain ⟨y530, hy530, h⟩ := bnd1_some h
                      refine G_l rfl (opB_f2 (op_fun_1_0_1 (m_ref35_Disk_Crash_ok _ _ _ hy530) Try.func39 (by kernel_rfl) (LEs.cons (AV.le_eq rfl) (LEs.cons (AV.le_eq rfl) LEs.nil)) ?_))
                      refine G_nil ?_
                      refine kB_normal ?_
                      refine kI_normal ⟨_, _, _, _, _, _, _, _, _, _, _, o529, h, ?_⟩
                      refine Sub.trans (SubU.to SubU.f1) ?_
                      refine Sub.trans (SubU.to SubU.f2) ?_
                      exact Sub.of_le (AF.le_put (AV.le_eq rfl) (AF.le_put (AV.le_eq rfl) (AF.le_put (AV.le_eq rfl) (AF.le_put (AV.le_eq rfl) (AF.le_put (AV.le_eq rfl) (AF.le_put (AV.le_eq rfl) (AF.le_top _)))))))
                    · replace h := ite_f h hc
                      refine k_skip ?_
                      refine kB_normal ?_
                      refine kI_normal ⟨_, _, _, _, _, _, _, _, _, _, _, o8_j521, h, ?_⟩
                      exact Sub.of_le (AF.le_put (AV.le_eq rfl) (AF.le_put (AV.le_eq rfl) (AF.le_put (AV.le_eq rfl) (AF.le_put (AV.le_eq rfl) (AF.le_put (AV.le_eq rfl) (AF.le_put (AV.le_eq rfl) (AF.le_top _)))))))
        · refine k_reg .free hmixP (by kernel_rfl) ?_
          refine G_q rfl (op_move (av := .exact (.int .i64 x12_l2)) rfl ?_)
          refine G_q rfl (op_add rfl rfl rfl ?_)
          refine G_q rfl (op_assign (av := .exact (.int .i64 (i64 (x12_l2 + 1)))) rfl ?_)
          refine G_nil ?_
          refine kI_normal ⟨_, _, _, _, _, _, _, _, _, _, _, _, o8_j444, h, ?_⟩
          exact Sub.of_le (AF.le_put (AV.le_eq rfl) (AF.le_put (AV.le_eq rfl) (AF.le_put (AV.le_eq rfl) (AF.le_put (AV.le_eq rfl) (AF.le_put (AV.le_eq rfl) (AF.le_put (AV.le_eq rfl) (AF.le_top _)))))))
      · replace h := ite_f h hc
        refine k_exit ?_
        refine kC_exit ?_
        refine kI_exit ?_
        refine kB_exit ?_
        refine kI_normal ⟨_, o8_l2, h, ?_⟩
        refine Sub.trans (SubU.to SubU.drop) ?_
        refine Sub.trans (SubU.to SubU.f1) ?_
        refine Sub.trans (SubU.to SubU.drop) ?_
        exact Sub.of_le (AF.le_put (AV.le_eq rfl) (AF.le_put (AV.le_eq rfl) (AF.le_top _)))
  · refine k_seq ?_
    refine k_reg .free hmixP (by kernel_rfl) ?_
    refine G_q rfl (op_move (av := pA b4 0) rfl ?_)
    refine G_q rfl (op_move (av := .row 2 c_A2_int a2) rfl ?_)
    obtain ⟨y531, hy531, h⟩ := bnd1_some h
    refine G_l rfl (op_fun_1_1_1 (m_frontier_Write_ok _ _ _ _ _ hy531) Try.func22 (by kernel_rfl) (LEs.cons (AV.le_eq rfl) (LEs.cons (AV.le_eq rfl) (LEs.cons (AV.le_eq rfl) (LEs.cons (AV.le_eq rfl) LEs.nil)))) (fun o532 => ?_))
    refine G_q rfl (op_assign (av := .exact (.int .i64 y531.1)) rfl ?_)
    refine G_nil ?_
    refine kC_normal ?_
    refine k_join1_0 h (fun (x6_j533 : Bool) => (AF.put AF0 (some 6) (.exact (.bool x6_j533)))) (fun (x6_j533 : Bool) => []) (fun k533 h => ?_) (fun x6_j533 h => ?_)
    · refine k_reg .free hmixP (by kernel_rfl) ?_
      refine G_q rfl (op_move (av := .row 2 c_A2_int a2) rfl ?_)
      refine G_q rfl (op_len_row (by kernel_rfl) rfl ?_)
      refine G_q rfl (op_gtr rfl rfl ?_)
      refine G_q rfl (op_move (av := .exact (.bool (decide (100 < (List.length a2 : Int))))) rfl ?_)
      refine G_split (p := 100 < (List.length a2 : Int)) 133 rfl (fun hc => ?_) (fun hc => ?_)
      · replace h := ite_t h hc
        refine G_n rfl rfl ?_
        refine G_n rfl rfl ?_
        refine G_n rfl rfl ?_
        refine G_n rfl rfl ?_
        refine G_n rfl rfl ?_
        refine G_n rfl rfl ?_
        refine G_u rfl rfl ?_
        refine G_n rfl rfl ?_
        refine G_q rfl (op_pick_t rfl (av := .exact (.bool true)) rfl ?_)
        refine G_q rfl (op_assign (av := .exact (.bool true)) rfl ?_)
        refine G_nil ?_
        refine kI_normal ⟨_, h, ?_⟩
        refine Sub.trans (SubU.to SubU.drop) ?_
        exact Sub.of_le (AF.le_put (AV.le_eq rfl) (AF.le_top _))
      · replace h := ite_f h hc
        refine Gy_q rfl rfl rfl (op_move (av := .exact (.int .i64 y531.1)) rfl ?_)
        refine Gy_q rfl rfl rfl (op_neq rfl rfl ?_)
        refine Gy_q rfl rfl rfl (op_move (av := .row 2 c_A2_int a2) rfl ?_)
        obtain ⟨y536, hy536, h⟩ := bnd1_some h
        refine Gy_q rfl rfl rfl (op_pure (m_ref35_IsRun_ok _ _ hy536) Try.func40 (by kernel_rfl) (LEs.cons (AV.le_eq rfl) LEs.nil) ?_)
        refine Gy_q rfl rfl rfl (op_eqlB (a := (decide (¬ y531.1 = 1))) (b := y536) (by kernel_rfl) rfl rfl ?_)
        refine Gy_q rfl rfl rfl (op_move (av := .exact (.bool (decide ((decide (¬ y531.1 = 1)) = y536)))) rfl ?_)
        refine G_split (p := (decide (¬ y531.1 = 1)) = y536) 139 rfl (fun hc => ?_) (fun hc => ?_)
        · replace h := ite_t h hc
          obtain ⟨y537, hy537, h⟩ := bnd1_some h
          refine Gy_q rfl rfl rfl (op_pure (m_law36_sane_ok _ hy537) Try.func15 (by kernel_rfl) LEs.nil ?_)
          refine Gy_q rfl rfl rfl (op_pick_t rfl (av := .exact (.bool y537)) rfl ?_)
          refine G_q rfl (op_pick_f rfl (av := .exact (.bool y537)) rfl ?_)
          refine G_q rfl (op_assign (av := .exact (.bool y537)) rfl ?_)
          refine G_nil ?_
          refine kI_normal ⟨_, h, ?_⟩
          refine Sub.trans (SubU.to SubU.drop) ?_
          exact Sub.of_le (AF.le_put (AV.le_eq rfl) (AF.le_top _))
        · replace h := ite_f h hc
          refine G_n rfl rfl ?_
          refine Gy_q rfl rfl rfl (op_pick_f rfl (av := .exact (.bool false)) rfl ?_)
          refine G_q rfl (op_pick_f rfl (av := .exact (.bool false)) rfl ?_)
          refine G_q rfl (op_assign (av := .exact (.bool false)) rfl ?_)
          refine G_nil ?_
          refine kI_normal ⟨_, h, ?_⟩
          refine Sub.trans (SubU.to SubU.drop) ?_
          exact Sub.of_le (AF.le_put (AV.le_eq rfl) (AF.le_top _))
    · refine k_ret ?_
      obtain rfl := Option.some.inj h
      refine kP_any (endN (af' := (AF.put AF0 (some 6) (.exact (.bool x6_j533)))) (σ' := []) _ rfl ?_ ⟨rfl, rfl⟩)
      exact Sub.of_le (AF.le_put (AV.le_eq rfl) (AF.le_top _))
end Go.Proofs.Ytkplmgdmkfgjhaa
