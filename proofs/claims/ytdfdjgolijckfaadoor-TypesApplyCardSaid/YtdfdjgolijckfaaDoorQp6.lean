/- The functions compute their models, by program. -/
import Derived.Test.YtdfdjgolijckfaaDoorQp5
namespace Go.Proofs.YtdfdjgolijckfaaDoor
open Go.RowKit
attribute [local irreducible] AV.exact AV.top AV.row AV.ptr AV.agg AV.tup AV.eptr AV.fn AV.nilq AV.nilqn opA opB opM opR Quiet Loud Reads wpG awp den Sub SubU Pure Fun vecI vecT boxI CellsAll CellsOf OneC LEs LEss
set_option maxRecDepth 100000

set_option maxHeartbeats 4000000 in
theorem m_law7_TypesApply_ok (a0 : List (Int × (List (Int × Int × Int)))) (a1 : List (Int × Int × Int)) (a2 : List Int) (a3 : List Int) (r : Bool) (h : m_law7_TypesApply a0 a1 a2 a3 = some r) : Pure Tryd.prog 7 [(.row 2 c_api_Binding a0), (.row 3 c_api_TypeNode a1), (.row 1 c_int a2), (.row 1 c_int a3)] (.exact (.bool r)) := by
  unfold m_law7_TypesApply at h
  refine Pure.ofFun (fun_of_awp Tryd.func7 rfl Tryd.ntmps7 (by simp) rfl (res1 rfl) fun E hE => k_end ?_)
  refine k_seq ?_
  refine k_reg .free hmixP (by kernel_rfl) ?_
  refine G_q rfl (op_assign (av := .exact (.bool false)) rfl ?_)
  refine G_nil ?_
  refine kC_normal ?_
  refine k_seq ?_
  refine k_reg .free hmixP (by kernel_rfl) ?_
  refine G_q rfl (op_move (av := .row 1 c_int a2) rfl ?_)
  obtain ⟨y1, hy1, h⟩ := bnd1_some h
  refine G_l rfl (op_fun_0_1_1 (m_gen_New_ok _ _ hy1) Tryd.func15 (by kernel_rfl) (LEs.cons (AV.le_eq rfl) LEs.nil) (fun b2 => ?_))
  refine G_q rfl (op_assign (av := pA b2 0) rfl ?_)
  refine G_nil ?_
  refine kC_normal ?_
  refine k_seq ?_
  refine k_reg .free hmixP (by kernel_rfl) ?_
  refine G_q rfl (op_assign (av := .exact (.slice none 0 0)) rfl ?_)
  refine G_nil ?_
  refine kC_normal ?_
  refine k_join1_1 h (fun (x10_j3 : List (Int × (List (Int × Int × Int)))) (v10_j3 : Value) => (AF.put (AF.put (AF.put (AF.put AF0 (some 0) (.row 2 c_api_Binding a0)) (some 1) (.row 3 c_api_TypeNode a1)) (some 3) (.row 1 c_int a3)) (some 10) (.exact v10_j3))) (fun (x10_j3 : List (Int × (List (Int × Int × Int)))) (v10_j3 : Value) => [vecT Tryd.prog 24 2 c_api_Binding v10_j3 x10_j3]) (fun k3 h => ?_) (fun x10_j3 v10_j3 h => ?_)
  · refine k_seq ?_
    refine k_reg .free hmixP (by kernel_rfl) ?_
    refine G_q rfl (op_assign (av := .exact (.int .i64 0)) rfl ?_)
    refine G_nil ?_
    refine kC_normal ?_
    refine k_block ?_
    refine k_loop4_1 (m_law7_TypesApply_L2 k3) (m_law7_TypesApply_B2 k3) (fun _ _ _ _ => rfl) (fun m _ _ _ _ => rfl) h (fun (x9_0_l2 : List Int) (x9_1_l2 : Int) (x10_l2 : List (Int × (List (Int × Int × Int)))) (x11_l2 : Int) (v10_l2 : Value) => (AF.put (AF.put (AF.put (AF.put (AF.put (AF.put AF0 (some 0) (.row 2 c_api_Binding a0)) (some 1) (.row 3 c_api_TypeNode a1)) (some 3) (.row 1 c_int a3)) (some 9) (pA b2 0)) (some 10) (.exact v10_l2)) (some 11) (.exact (.int .i64 x11_l2)))) (fun (x9_0_l2 : List Int) (x9_1_l2 : Int) (x10_l2 : List (Int × (List (Int × Int × Int)))) (x11_l2 : Int) (v10_l2 : Value) => [boxI 84 b2 [.row 1 c_int x9_0_l2, .exact (.int .i64 x9_1_l2)], vecT Tryd.prog 24 2 c_api_Binding v10_l2 x10_l2]) (.slice none 0 0) ?_ (fun rec2 x9_0_l2 x9_1_l2 x10_l2 x11_l2 v10_l2 h => ?_)
    · refine Sub.trans (SubU.to (SubU.nilT (P := Tryd.prog) (t := 24) (n := 2) (enc := c_api_Binding))) ?_
      refine Sub.trans (SubU.to SubU.f1) ?_
      exact Sub.of_le (AF.le_put (AV.le_eq rfl) (AF.le_put (AV.le_eq rfl) (AF.le_put (AV.le_eq rfl) (AF.le_put (AV.le_eq rfl) (AF.le_put (AV.le_eq rfl) (AF.le_put (AV.le_eq rfl) (AF.le_top _)))))))
    · unfold m_law7_TypesApply_B2 at h
      refine k_seq ?_
      refine k_seq ?_
      refine k_reg .free hmixP (by kernel_rfl) ?_
      refine G_q rfl (op_move (av := .exact (.int .i64 x11_l2)) rfl ?_)
      refine G_q rfl (op_lss rfl rfl ?_)
      refine G_nil ?_
      refine kC_normal ?_
      refine k_cond_d (p := x11_l2 < 4) rfl (fun hc => ?_) (fun hc => ?_)
      · replace h := ite_t h hc
        refine k_skip ?_
        refine kC_normal ?_
        refine k_join3_1 h (fun (x9_0_j60 : List Int) (x9_1_j60 : Int) (x10_j60 : List (Int × (List (Int × Int × Int)))) (v10_j60 : Value) => (AF.put (AF.put (AF.put (AF.put (AF.put (AF.put AF0 (some 0) (.row 2 c_api_Binding a0)) (some 1) (.row 3 c_api_TypeNode a1)) (some 3) (.row 1 c_int a3)) (some 9) (pA b2 0)) (some 10) (.exact v10_j60)) (some 11) (.exact (.int .i64 x11_l2)))) (fun (x9_0_j60 : List Int) (x9_1_j60 : Int) (x10_j60 : List (Int × (List (Int × Int × Int)))) (v10_j60 : Value) => [boxI 84 b2 [.row 1 c_int x9_0_j60, .exact (.int .i64 x9_1_j60)], vecT Tryd.prog 24 2 c_api_Binding v10_j60 x10_j60]) (fun k60 h => ?_) (fun x9_0_j60 x9_1_j60 x10_j60 v10_j60 h => ?_)
        · refine k_block ?_
          refine k_seq ?_
          refine k_reg .free hmixP (by kernel_rfl) ?_
          refine G_q rfl (op_move (av := pA b2 0) rfl ?_)
          obtain ⟨y66, hy66, h⟩ := bnd1_some h
          refine G_l rfl (op_fun_1_0_1 (m_gen_Choices_Next_ok _ _ _ hy66) Tryd.func24 (by kernel_rfl) (LEs.cons (AV.le_eq rfl) (LEs.cons (AV.le_eq rfl) LEs.nil)) ?_)
          refine G_q rfl (op_gtr rfl rfl ?_)
          refine G_nil ?_
          refine kC_normal ?_
          refine k_cond_d (p := 0 < y66.1) rfl (fun hc => ?_) (fun hc => ?_)
          · replace h := ite_t h hc
            refine k_reg .free hmixP (by kernel_rfl) ?_
            refine G_q rfl (op_move (av := .exact v10_l2) rfl ?_)
            refine G_q rfl (op_move (av := .exact (.int .i64 x11_l2)) rfl ?_)
            refine G_q rfl (op_move (av := pA b2 0) rfl ?_)
            obtain ⟨y67, hy67, h⟩ := bnd1_some h
            refine G_l rfl (op_fun_1_1_2 (m_law7_typ_ok _ _ _ _ hy67) Tryd.func14 (by kernel_rfl) (LEs.cons (AV.le_eq rfl) (LEs.cons (AV.le_eq rfl) (LEs.cons (AV.le_eq rfl) LEs.nil))) (fun v68 => ?_))
            refine G_sub rfl (SubU.freezeT (s := 26) rfl len_c_api_TypeNode) ?_
            refine G_q rfl (op_bld (c' := c_api_Binding (x11_l2, y67.1)) (CellsAll.cons rfl CellsOf.int (CellsAll.cons rfl CellsOf.row CellsAll.nil)) rfl (LEs.cons (AV.le_eq rfl) (LEs.cons (AV.le_eq rfl) LEs.nil)) ?_)
            refine G_q rfl (op_litT (n := 2) (enc := c_api_Binding) [(x11_l2, y67.1)] (CellsAll.cons rfl CellsOf.agg CellsAll.nil) rfl (by kernel_rfl) (LEss.cons (LEs.cons (AV.le_eq rfl) (LEs.cons (AV.le_eq rfl) LEs.nil)) LEss.nil) ?_)
            obtain ⟨n69, h⟩ := need_some h
            refine G_l rfl (opB_f1 (op_appT (by kernel_rfl) rfl rfl oc_c_api_Binding n69 (fun v70 => ?_)))
            refine G_q rfl (op_assign (av := .exact v70) rfl ?_)
            refine G_nil ?_
            refine kB_normal ?_
            refine kI_normal ⟨_, _, _, v70, h, ?_⟩
            refine Sub.trans (SubU.to SubU.f1) ?_
            exact Sub.of_le (AF.le_put (AV.le_eq rfl) (AF.le_put (AV.le_eq rfl) (AF.le_put (AV.le_eq rfl) (AF.le_put (AV.le_eq rfl) (AF.le_put (AV.le_eq rfl) (AF.le_put (AV.le_eq rfl) (AF.le_top _)))))))
          · replace h := ite_f h hc
            refine k_skip ?_
            refine kB_normal ?_
            refine kI_normal ⟨_, _, _, v10_l2, h, ?_⟩
            exact Sub.of_le (AF.le_put (AV.le_eq rfl) (AF.le_put (AV.le_eq rfl) (AF.le_put (AV.le_eq rfl) (AF.le_put (AV.le_eq rfl) (AF.le_put (AV.le_eq rfl) (AF.le_put (AV.le_eq rfl) (AF.le_top _)))))))
        · refine k_reg .free hmixP (by kernel_rfl) ?_
          refine G_q rfl (op_move (av := .exact (.int .i64 x11_l2)) rfl ?_)
          refine G_q rfl (op_add rfl rfl rfl ?_)
          refine G_q rfl (op_assign (av := .exact (.int .i64 (i64 (x11_l2 + 1)))) rfl ?_)
          refine G_nil ?_
          refine kI_normal ⟨_, _, _, _, v10_j60, h, ?_⟩
          exact Sub.of_le (AF.le_put (AV.le_eq rfl) (AF.le_put (AV.le_eq rfl) (AF.le_put (AV.le_eq rfl) (AF.le_put (AV.le_eq rfl) (AF.le_put (AV.le_eq rfl) (AF.le_put (AV.le_eq rfl) (AF.le_top _)))))))
      · replace h := ite_f h hc
        refine k_exit ?_
        refine kC_exit ?_
        refine kI_exit ?_
        refine kB_exit ?_
        refine kI_normal ⟨_, v10_l2, h, ?_⟩
        refine Sub.trans (SubU.to SubU.drop) ?_
        exact Sub.of_le (AF.le_put (AV.le_eq rfl) (AF.le_put (AV.le_eq rfl) (AF.le_put (AV.le_eq rfl) (AF.le_put (AV.le_eq rfl) (AF.le_top _)))))
  · refine k_seq ?_
    refine k_reg .free hmixP (by kernel_rfl) ?_
    refine G_q rfl (op_move (av := .row 1 c_int a3) rfl ?_)
    obtain ⟨y71, hy71, h⟩ := bnd1_some h
    refine G_l rfl (op_fun_0_1_1 (m_gen_New_ok _ _ hy71) Tryd.func15 (by kernel_rfl) (LEs.cons (AV.le_eq rfl) LEs.nil) (fun b72 => ?_))
    obtain ⟨y73, hy73, h⟩ := bnd1_some h
    refine G_l rfl (op_fun_1_1_2 (m_law7_typ_ok _ _ _ _ hy73) Tryd.func14 (by kernel_rfl) (LEs.cons (AV.le_eq rfl) (LEs.cons (AV.le_eq rfl) (LEs.cons (AV.le_eq rfl) LEs.nil))) (fun v74 => ?_))
    refine G_q rfl (op_assign (av := .exact v74) rfl ?_)
    refine G_nil ?_
    refine kC_normal ?_
    refine k_seq ?_
    refine k_reg .free hmixP (by kernel_rfl) ?_
    obtain ⟨y75, hy75, h⟩ := bnd1_some h
    refine G_q rfl (op_pure (m_ref6_Make_fz _ _ _ _ hy75) Tryd.func25 (by kernel_rfl) (LEs.cons (AV.le_eq rfl) (LEs.cons (AV.le_eq rfl) (LEs.cons (row_nil (by decide)) LEs.nil))) ?_)
    refine G_q rfl (op_bld (c' := c_api_Binding (0, y75)) (CellsAll.cons rfl CellsOf.int (CellsAll.cons rfl CellsOf.row CellsAll.nil)) rfl (LEs.cons (AV.le_eq rfl) (LEs.cons (AV.le_eq rfl) LEs.nil)) ?_)
    obtain ⟨y76, hy76, h⟩ := bnd1_some h
    refine G_q rfl (op_pure (m_ref6_Make_fz _ _ _ _ hy76) Tryd.func25 (by kernel_rfl) (LEs.cons (AV.le_eq rfl) (LEs.cons (AV.le_eq rfl) (LEs.cons (row_nil (by decide)) LEs.nil))) ?_)
    refine G_q rfl (op_bld (c' := c_api_Binding (1, y76)) (CellsAll.cons rfl CellsOf.int (CellsAll.cons rfl CellsOf.row CellsAll.nil)) rfl (LEs.cons (AV.le_eq rfl) (LEs.cons (AV.le_eq rfl) LEs.nil)) ?_)
    refine G_q rfl (op_litT (n := 2) (enc := c_api_Binding) [(0, y75), (1, y76)] (CellsAll.cons rfl CellsOf.agg (CellsAll.cons rfl CellsOf.agg CellsAll.nil)) rfl (by kernel_rfl) (LEss.cons (LEs.cons (AV.le_eq rfl) (LEs.cons (AV.le_eq rfl) LEs.nil)) (LEss.cons (LEs.cons (AV.le_eq rfl) (LEs.cons (AV.le_eq rfl) LEs.nil)) LEss.nil)) ?_)
    refine G_q rfl (op_assign (av := .row 2 c_api_Binding [(0, y75), (1, y76)]) rfl ?_)
    refine G_nil ?_
    refine kC_normal ?_
    refine k_join1_0 h (fun (x8_j77 : Bool) => (AF.put AF0 (some 8) (.exact (.bool x8_j77)))) (fun (x8_j77 : Bool) => []) (fun k77 h => ?_) (fun x8_j77 h => ?_)
    · refine k_reg .free hmixP (by kernel_rfl) ?_
      obtain ⟨y88, hy88, h⟩ := bnd1_some h
      refine G_q rfl (op_pure (m_law7_awake_ok _ hy88) Tryd.func16 (by kernel_rfl) LEs.nil ?_)
      refine G_q rfl (op_move (av := .exact (.bool y88)) rfl ?_)
      refine G_splitB (c := y88) 39 rfl (fun hc => ?_) (fun hc => ?_)
      · replace h := ite_t h hc
        refine Gy_q rfl rfl rfl (op_move (av := .row 2 c_api_Binding a0) rfl ?_)
        refine Gy_q rfl rfl rfl (op_move (av := .row 3 c_api_TypeNode a1) rfl ?_)
        obtain ⟨y89, hy89, h⟩ := bnd1_some h
        refine Gy_q rfl rfl rfl (op_pure (m_types_Apply_ok _ _ _ hy89) Tryd.func18 (by kernel_rfl) (LEs.cons (AV.le_eq rfl) (LEs.cons (AV.le_eq rfl) LEs.nil)) ?_)
        refine Gy_q rfl rfl rfl (op_move (av := .row 2 c_api_Binding a0) rfl ?_)
        refine Gy_q rfl rfl rfl (op_move (av := .row 3 c_api_TypeNode a1) rfl ?_)
        obtain ⟨y90, hy90, h⟩ := bnd1_some h
        refine Gy_q rfl rfl rfl (op_pure (m_ref6_Apply_ok _ _ _ hy90) Tryd.func22 (by kernel_rfl) (LEs.cons (AV.le_eq rfl) (LEs.cons (AV.le_eq rfl) LEs.nil)) ?_)
        obtain ⟨y91, hy91, h⟩ := bnd1_some h
        refine Gy_q rfl rfl rfl (op_pure (m_help_Equal_api_TypeNode_ok _ _ _ hy91) Tryd.func21 (by kernel_rfl) (LEs.cons (AV.le_eq rfl) (LEs.cons (AV.le_eq rfl) LEs.nil)) ?_)
        refine G_q rfl (op_pick_t rfl (av := .exact (.bool y91)) rfl ?_)
        refine G_q rfl (op_move (av := .exact (.bool y91)) rfl ?_)
        refine G_splitB (c := y91) 48 rfl (fun hc => ?_) (fun hc => ?_)
        · replace h := ite_t h hc
          refine Gy_q rfl rfl rfl (op_move (av := .exact v10_j3) rfl ?_)
          refine Gy_q rfl rfl rfl (op_move (av := .exact v74) rfl ?_)
          refine G_sub rfl (SubU.trans SubU.f2 (SubU.freezeT2 (s1 := 10) (s2 := 49) rfl rfl len_c_api_Binding)) ?_
          refine G_sub rfl (SubU.freezeT3 (s1 := 12) (s2 := 32) (s3 := 50) rfl rfl rfl len_c_api_TypeNode) ?_
          obtain ⟨y92, hy92, h⟩ := bnd1_some h
          refine Gy_q rfl rfl rfl (op_pure (m_types_Apply_ok _ _ _ hy92) Tryd.func18 (by kernel_rfl) (LEs.cons (AV.le_eq rfl) (LEs.cons (AV.le_eq rfl) LEs.nil)) ?_)
          refine Gy_q rfl rfl rfl (op_move (av := .row 2 c_api_Binding x10_j3) rfl ?_)
          refine Gy_q rfl rfl rfl (op_move (av := .row 3 c_api_TypeNode y73.1) rfl ?_)
          obtain ⟨y93, hy93, h⟩ := bnd1_some h
          refine Gy_q rfl rfl rfl (op_pure (m_ref6_Apply_ok _ _ _ hy93) Tryd.func22 (by kernel_rfl) (LEs.cons (AV.le_eq rfl) (LEs.cons (AV.le_eq rfl) LEs.nil)) ?_)
          obtain ⟨y94, hy94, h⟩ := bnd1_some h
          refine Gy_q rfl rfl rfl (op_pure (m_help_Equal_api_TypeNode_ok _ _ _ hy94) Tryd.func21 (by kernel_rfl) (LEs.cons (AV.le_eq rfl) (LEs.cons (AV.le_eq rfl) LEs.nil)) ?_)
          refine G_q rfl (op_pick_t rfl (av := .exact (.bool y94)) rfl ?_)
          refine G_q rfl (op_move (av := .exact (.bool y94)) rfl ?_)
          refine G_splitB (c := y94) 57 rfl (fun hc => ?_) (fun hc => ?_)
          · replace h := ite_t h hc
            refine Gy_q rfl rfl rfl (op_move (av := .row 2 c_api_Binding [(0, y75), (1, y76)]) rfl ?_)
            refine Gy_q rfl rfl rfl (op_move (av := .row 2 c_api_Binding [(0, y75), (1, y76)]) rfl ?_)
            refine Gy_q rfl rfl rfl (op_move (av := .row 3 c_api_TypeNode y73.1) rfl ?_)
            obtain ⟨y95, hy95, h⟩ := bnd1_some h
            refine Gy_q rfl rfl rfl (op_pure (m_types_Apply_ok _ _ _ hy95) Tryd.func18 (by kernel_rfl) (LEs.cons (AV.le_eq rfl) (LEs.cons (AV.le_eq rfl) LEs.nil)) ?_)
            obtain ⟨y96, hy96, h⟩ := bnd1_some h
            refine Gy_q rfl rfl rfl (op_pure (m_types_Apply_ok _ _ _ hy96) Tryd.func18 (by kernel_rfl) (LEs.cons (AV.le_eq rfl) (LEs.cons (AV.le_eq rfl) LEs.nil)) ?_)
            refine Gy_q rfl rfl rfl (op_move (av := .row 3 c_api_TypeNode y73.1) rfl ?_)
            obtain ⟨y97, hy97, h⟩ := bnd1_some h
            refine Gy_q rfl rfl rfl (op_pure (m_help_Equal_api_TypeNode_ok _ _ _ hy97) Tryd.func21 (by kernel_rfl) (LEs.cons (AV.le_eq rfl) (LEs.cons (AV.le_eq rfl) LEs.nil)) ?_)
            refine G_q rfl (op_pick_t rfl (av := .exact (.bool y97)) rfl ?_)
            refine G_q rfl (op_assign (av := .exact (.bool y97)) rfl ?_)
            refine G_nil ?_
            refine kI_normal ⟨_, h, ?_⟩
            refine Sub.trans (SubU.to SubU.drop) ?_
            exact Sub.of_le (AF.le_put (AV.le_eq rfl) (AF.le_top _))
          · replace h := ite_f h hc
            refine G_n rfl rfl ?_
            refine G_n rfl rfl ?_
            refine G_n rfl rfl ?_
            refine G_n rfl rfl ?_
            refine G_n rfl rfl ?_
            refine G_n rfl rfl ?_
            refine G_n rfl rfl ?_
            refine G_q rfl (op_pick_f rfl (av := .exact (.bool false)) rfl ?_)
            refine G_q rfl (op_assign (av := .exact (.bool false)) rfl ?_)
            refine G_nil ?_
            refine kI_normal ⟨_, h, ?_⟩
            refine Sub.trans (SubU.to SubU.drop) ?_
            exact Sub.of_le (AF.le_put (AV.le_eq rfl) (AF.le_top _))
        · replace h := ite_f h hc
          refine G_n rfl rfl ?_
          refine G_n rfl rfl ?_
          refine G_n rfl rfl ?_
          refine G_n rfl rfl ?_
          refine G_n rfl rfl ?_
          refine G_n rfl rfl ?_
          refine G_n rfl rfl ?_
          refine G_q rfl (op_pick_f rfl (av := .exact (.bool false)) rfl ?_)
          refine G_q rfl (op_move (av := .exact (.bool false)) rfl ?_)
          refine G_n rfl rfl ?_
          refine G_n rfl rfl ?_
          refine G_n rfl rfl ?_
          refine G_n rfl rfl ?_
          refine G_n rfl rfl ?_
          refine G_n rfl rfl ?_
          refine G_n rfl rfl ?_
          refine G_q rfl (op_pick_f rfl (av := .exact (.bool false)) rfl ?_)
          refine G_q rfl (op_assign (av := .exact (.bool false)) rfl ?_)
          refine G_nil ?_
          refine kI_normal ⟨_, h, ?_⟩
          refine Sub.trans (SubU.to SubU.drop) ?_
          refine Sub.trans (SubU.to SubU.drop) ?_
          refine Sub.trans (SubU.to SubU.drop) ?_
          exact Sub.of_le (AF.le_put (AV.le_eq rfl) (AF.le_top _))
      · replace h := ite_f h hc
        refine G_n rfl rfl ?_
        refine G_n rfl rfl ?_
        refine G_n rfl rfl ?_
        refine G_n rfl rfl ?_
        refine G_n rfl rfl ?_
        refine G_n rfl rfl ?_
        refine G_n rfl rfl ?_
        refine G_q rfl (op_pick_f rfl (av := .exact (.bool false)) rfl ?_)
        refine G_q rfl (op_move (av := .exact (.bool false)) rfl ?_)
        refine G_n rfl rfl ?_
        refine G_n rfl rfl ?_
        refine G_n rfl rfl ?_
        refine G_n rfl rfl ?_
        refine G_n rfl rfl ?_
        refine G_n rfl rfl ?_
        refine G_n rfl rfl ?_
        refine G_q rfl (op_pick_f rfl (av := .exact (.bool false)) rfl ?_)
        refine G_q rfl (op_move (av := .exact (.bool false)) rfl ?_)
        refine G_n rfl rfl ?_
        refine G_n rfl rfl ?_
        refine G_n rfl rfl ?_
        refine G_n rfl rfl ?_
        refine G_n rfl rfl ?_
        refine G_n rfl rfl ?_
        refine G_n rfl rfl ?_
        refine G_q rfl (op_pick_f rfl (av := .exact (.bool false)) rfl ?_)
        refine G_q rfl (op_assign (av := .exact (.bool false)) rfl ?_)
        refine G_nil ?_
        refine kI_normal ⟨_, h, ?_⟩
        refine Sub.trans (SubU.to SubU.drop) ?_
        refine Sub.trans (SubU.to SubU.drop) ?_
        refine Sub.trans (SubU.to SubU.drop) ?_
        exact Sub.of_le (AF.le_put (AV.le_eq rfl) (AF.le_top _))
    · refine k_ret ?_
      obtain rfl := Option.some.inj h
      refine kP_any (endN (af' := (AF.put AF0 (some 8) (.exact (.bool x8_j77)))) (σ' := []) _ rfl ?_ ⟨rfl, rfl⟩)
      exact Sub.of_le (AF.le_put (AV.le_eq rfl) (AF.le_top _))
end Go.Proofs.YtdfdjgolijckfaaDoor
