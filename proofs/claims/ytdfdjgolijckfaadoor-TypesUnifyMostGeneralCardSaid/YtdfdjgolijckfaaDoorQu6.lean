/- The functions compute their models, by program. -/
import Derived.Test.YtdfdjgolijckfaaDoorQu5
namespace Go.Proofs.YtdfdjgolijckfaaDoor
open Go.RowKit
attribute [local irreducible] AV.exact AV.top AV.row AV.ptr AV.agg AV.tup AV.eptr AV.fn AV.nilq AV.nilqn opA opB opM opR Quiet Loud Reads wpG awp den Sub SubU Pure Fun vecI vecT boxI CellsAll CellsOf OneC LEs LEss
set_option maxRecDepth 100000

set_option maxHeartbeats 4000000 in
theorem m_law7_TypesUnifyMostGeneral_ok (a0 : List Int) (a1 : List Int) (a2 : List Int) (r : Bool) (h : m_law7_TypesUnifyMostGeneral a0 a1 a2 = some r) : Pure Tryd.prog 5 [(.row 1 c_int a0), (.row 1 c_int a1), (.row 1 c_int a2)] (.exact (.bool r)) := by
  unfold m_law7_TypesUnifyMostGeneral at h
  refine Pure.ofFun (fun_of_awp Tryd.func5 rfl Tryd.ntmps5 (by simp) rfl (res1 rfl) fun E hE => k_end ?_)
  refine k_seq ?_
  refine k_reg .free hmixP (by kernel_rfl) ?_
  refine G_q rfl (op_assign (av := .exact (.bool false)) rfl ?_)
  refine G_nil ?_
  refine kC_normal ?_
  refine k_seq ?_
  refine k_reg .free hmixP (by kernel_rfl) ?_
  refine G_q rfl (op_move (av := .row 1 c_int a2) rfl ?_)
  obtain ⟨y1, hy1, h⟩ := bnd1_some h
  refine G_l rfl (op_fun_0_1_1 (m_gen_New_ok _ _ hy1) Tryd.func15 (by kernel_rfl) (LEs.cons (AV.le_eq rfl) LEs.nil) (fun b2 => ?_))
  refine G_q rfl (op_assign (av := pA b2 0) rfl ?_)
  refine G_nil ?_
  refine kC_normal ?_
  refine k_seq ?_
  refine k_reg .free hmixP (by kernel_rfl) ?_
  refine G_q rfl (op_assign (av := .exact (.slice none 0 0)) rfl ?_)
  refine G_nil ?_
  refine kC_normal ?_
  refine k_join3_1 h (fun (x7_0_j3 : List Int) (x7_1_j3 : Int) (x8_j3 : List (Int × (List (Int × Int × Int)))) (v8_j3 : Value) => (AF.put (AF.put (AF.put (AF.put AF0 (some 0) (.row 1 c_int a0)) (some 1) (.row 1 c_int a1)) (some 7) (pA b2 0)) (some 8) (.exact v8_j3))) (fun (x7_0_j3 : List Int) (x7_1_j3 : Int) (x8_j3 : List (Int × (List (Int × Int × Int)))) (v8_j3 : Value) => [boxI 84 b2 [.row 1 c_int x7_0_j3, .exact (.int .i64 x7_1_j3)], vecT Tryd.prog 24 2 c_api_Binding v8_j3 x8_j3]) (fun k3 h => ?_) (fun x7_0_j3 x7_1_j3 x8_j3 v8_j3 h => ?_)
  · refine k_seq ?_
    refine k_reg .free hmixP (by kernel_rfl) ?_
    refine G_q rfl (op_assign (av := .exact (.int .i64 0)) rfl ?_)
    refine G_nil ?_
    refine kC_normal ?_
    refine k_block ?_
    refine k_loop4_1 (m_law7_TypesUnifyMostGeneral_L2 k3) (m_law7_TypesUnifyMostGeneral_B2 k3) (fun _ _ _ _ => rfl) (fun m _ _ _ _ => rfl) h (fun (x7_0_l2 : List Int) (x7_1_l2 : Int) (x8_l2 : List (Int × (List (Int × Int × Int)))) (x9_l2 : Int) (v8_l2 : Value) => (AF.put (AF.put (AF.put (AF.put (AF.put AF0 (some 0) (.row 1 c_int a0)) (some 1) (.row 1 c_int a1)) (some 7) (pA b2 0)) (some 8) (.exact v8_l2)) (some 9) (.exact (.int .i64 x9_l2)))) (fun (x7_0_l2 : List Int) (x7_1_l2 : Int) (x8_l2 : List (Int × (List (Int × Int × Int)))) (x9_l2 : Int) (v8_l2 : Value) => [boxI 84 b2 [.row 1 c_int x7_0_l2, .exact (.int .i64 x7_1_l2)], vecT Tryd.prog 24 2 c_api_Binding v8_l2 x8_l2]) (.slice none 0 0) ?_ (fun rec2 x7_0_l2 x7_1_l2 x8_l2 x9_l2 v8_l2 h => ?_)
    · refine Sub.trans (SubU.to (SubU.nilT (P := Tryd.prog) (t := 24) (n := 2) (enc := c_api_Binding))) ?_
      refine Sub.trans (SubU.to SubU.f1) ?_
      exact Sub.of_le (AF.le_put (AV.le_eq rfl) (AF.le_put (AV.le_eq rfl) (AF.le_put (AV.le_eq rfl) (AF.le_put (AV.le_eq rfl) (AF.le_put (AV.le_eq rfl) (AF.le_top _))))))
    · unfold m_law7_TypesUnifyMostGeneral_B2 at h
      refine k_seq ?_
      refine k_seq ?_
      refine k_reg .free hmixP (by kernel_rfl) ?_
      refine G_q rfl (op_move (av := .exact (.int .i64 x9_l2)) rfl ?_)
      refine G_q rfl (op_lss rfl rfl ?_)
      refine G_nil ?_
      refine kC_normal ?_
      refine k_cond_d (p := x9_l2 < 4) rfl (fun hc => ?_) (fun hc => ?_)
      · replace h := ite_t h hc
        refine k_skip ?_
        refine kC_normal ?_
        refine k_seq ?_
        refine k_block ?_
        refine k_reg .free hmixP (by kernel_rfl) ?_
        refine G_q rfl (op_move (av := .exact v8_l2) rfl ?_)
        refine G_q rfl (op_move (av := .exact (.int .i64 x9_l2)) rfl ?_)
        refine G_q rfl (op_move (av := pA b2 0) rfl ?_)
        obtain ⟨y25, hy25, h⟩ := bnd1_some h
        refine G_l rfl (op_fun_1_1_2 (m_law7_typ_ok _ _ _ _ hy25) Tryd.func14 (by kernel_rfl) (LEs.cons (AV.le_eq rfl) (LEs.cons (AV.le_eq rfl) (LEs.cons (AV.le_eq rfl) LEs.nil))) (fun v26 => ?_))
        refine G_sub rfl (SubU.freezeT (s := 27) rfl len_c_api_TypeNode) ?_
        refine G_q rfl (op_bld (c' := c_api_Binding (x9_l2, y25.1)) (CellsAll.cons rfl CellsOf.int (CellsAll.cons rfl CellsOf.row CellsAll.nil)) rfl (LEs.cons (AV.le_eq rfl) (LEs.cons (AV.le_eq rfl) LEs.nil)) ?_)
        refine G_q rfl (op_litT (n := 2) (enc := c_api_Binding) [(x9_l2, y25.1)] (CellsAll.cons rfl CellsOf.agg CellsAll.nil) rfl (by kernel_rfl) (LEss.cons (LEs.cons (AV.le_eq rfl) (LEs.cons (AV.le_eq rfl) LEs.nil)) LEss.nil) ?_)
        obtain ⟨n27, h⟩ := need_some h
        refine G_l rfl (opB_f1 (op_appT (by kernel_rfl) rfl rfl oc_c_api_Binding n27 (fun v28 => ?_)))
        refine G_q rfl (op_assign (av := .exact v28) rfl ?_)
        refine G_nil ?_
        refine kB_normal ?_
        refine kC_normal ?_
        refine k_reg .free hmixP (by kernel_rfl) ?_
        refine G_q rfl (op_move (av := .exact (.int .i64 x9_l2)) rfl ?_)
        refine G_q rfl (op_add rfl rfl rfl ?_)
        refine G_q rfl (op_assign (av := .exact (.int .i64 (i64 (x9_l2 + 1)))) rfl ?_)
        refine G_nil ?_
        refine kI_normal ⟨_, _, _, _, v28, h, ?_⟩
        refine Sub.trans (SubU.to SubU.f1) ?_
        exact Sub.of_le (AF.le_put (AV.le_eq rfl) (AF.le_put (AV.le_eq rfl) (AF.le_put (AV.le_eq rfl) (AF.le_put (AV.le_eq rfl) (AF.le_put (AV.le_eq rfl) (AF.le_top _))))))
      · replace h := ite_f h hc
        refine k_exit ?_
        refine kC_exit ?_
        refine kI_exit ?_
        refine kB_exit ?_
        refine kI_normal ⟨_, _, _, v8_l2, h, ?_⟩
        exact Sub.of_le (AF.le_put (AV.le_eq rfl) (AF.le_put (AV.le_eq rfl) (AF.le_put (AV.le_eq rfl) (AF.le_put (AV.le_eq rfl) (AF.le_top _)))))
  · refine k_seq ?_
    refine k_reg .free hmixP (by kernel_rfl) ?_
    refine G_q rfl (op_move (av := .row 1 c_int a0) rfl ?_)
    obtain ⟨y29, hy29, h⟩ := bnd1_some h
    refine G_l rfl (op_fun_0_1_1 (m_gen_New_ok _ _ hy29) Tryd.func15 (by kernel_rfl) (LEs.cons (AV.le_eq rfl) LEs.nil) (fun b30 => ?_))
    obtain ⟨y31, hy31, h⟩ := bnd1_some h
    refine G_l rfl (op_fun_1_1_2 (m_law7_typ_ok _ _ _ _ hy31) Tryd.func14 (by kernel_rfl) (LEs.cons (AV.le_eq rfl) (LEs.cons (AV.le_eq rfl) (LEs.cons (AV.le_eq rfl) LEs.nil))) (fun v32 => ?_))
    refine G_q rfl (op_move (av := .row 1 c_int a1) rfl ?_)
    obtain ⟨y33, hy33, h⟩ := bnd1_some h
    refine G_l rfl (op_fun_0_1_1 (m_gen_New_ok _ _ hy33) Tryd.func15 (by kernel_rfl) (LEs.cons (AV.le_eq rfl) LEs.nil) (fun b34 => ?_))
    obtain ⟨y35, hy35, h⟩ := bnd1_some h
    refine G_l rfl (op_fun_1_1_2 (m_law7_typ_ok _ _ _ _ hy35) Tryd.func14 (by kernel_rfl) (LEs.cons (AV.le_eq rfl) (LEs.cons (AV.le_eq rfl) (LEs.cons (AV.le_eq rfl) LEs.nil))) (fun v36 => ?_))
    refine G_q rfl (op_assign (av := .exact v32) rfl ?_)
    refine G_q rfl (op_assign (av := .exact v36) rfl ?_)
    refine G_nil ?_
    refine kC_normal ?_
    refine k_join1_0 h (fun (x11_j37 : List (Int × Int × Int)) => (AF.put (AF.put (AF.put AF0 (some 8) (.row 2 c_api_Binding x8_j3)) (some 10) (.row 3 c_api_TypeNode y31.1)) (some 11) (.row 3 c_api_TypeNode x11_j37))) (fun (x11_j37 : List (Int × Int × Int)) => []) (fun k37 h => ?_) (fun x11_j37 h => ?_)
    · refine k_seq ?_
      refine k_reg .free hmixP (by kernel_rfl) ?_
      refine G_q rfl (op_move (av := .exact v8_j3) rfl ?_)
      refine G_q rfl (op_move (av := .exact v32) rfl ?_)
      refine G_sub rfl (SubU.trans SubU.f5 (SubU.freezeT2 (s1 := 8) (s2 := 37) rfl rfl len_c_api_Binding)) ?_
      refine G_sub rfl (SubU.trans SubU.f2 (SubU.freezeT3 (s1 := 10) (s2 := 33) (s3 := 38) rfl rfl rfl len_c_api_TypeNode)) ?_
      obtain ⟨y629, hy629, h⟩ := bnd1_some h
      refine G_q rfl (op_pure (m_ref6_Apply_ok _ _ _ hy629) Tryd.func22 (by kernel_rfl) (LEs.cons (AV.le_eq rfl) (LEs.cons (AV.le_eq rfl) LEs.nil)) ?_)
      refine G_q rfl (op_move (av := .row 2 c_api_Binding x8_j3) rfl ?_)
      refine G_q rfl (op_move (av := .exact v36) rfl ?_)
      refine G_sub rfl (SubU.freezeT3 (s1 := 11) (s2 := 36) (s3 := 41) rfl rfl rfl len_c_api_TypeNode) ?_
      obtain ⟨y630, hy630, h⟩ := bnd1_some h
      refine G_q rfl (op_pure (m_ref6_Apply_ok _ _ _ hy630) Tryd.func22 (by kernel_rfl) (LEs.cons (AV.le_eq rfl) (LEs.cons (AV.le_eq rfl) LEs.nil)) ?_)
      obtain ⟨y631, hy631, h⟩ := bnd1_some h
      refine G_q rfl (op_pure (m_help_Equal_api_TypeNode_ok _ _ _ hy631) Tryd.func21 (by kernel_rfl) (LEs.cons (AV.le_eq rfl) (LEs.cons (AV.le_eq rfl) LEs.nil)) ?_)
      refine G_q rfl (op_not rfl ?_)
      refine G_nil ?_
      refine kC_normal ?_
      refine k_cond_b (c := !y631) rfl (fun hc => ?_) (fun hc => ?_)
      · replace h := ite_t h hc
        refine k_seq ?_
        refine k_reg .free hmixP (by kernel_rfl) ?_
        refine G_q rfl (op_move (av := .row 3 c_api_TypeNode y31.1) rfl ?_)
        obtain ⟨n632, h⟩ := need_some h
        refine G_l rfl (op_appN (enc := c_api_TypeNode) (by kernel_rfl) rfl rfl oc_c_api_TypeNode n632 (fun v633 => ?_))
        refine G_q rfl (op_assign (av := .exact v633) rfl ?_)
        refine G_nil ?_
        refine kC_normal ?_
        refine k_seq ?_
        refine k_reg .free hmixP (by kernel_rfl) ?_
        refine G_q rfl (op_assign (av := .exact (.int .i64 0)) rfl ?_)
        refine G_nil ?_
        refine kC_normal ?_
        refine k_block ?_
        refine k_loop4_0 (m_law7_TypesUnifyMostGeneral_L10 x8_j3 k37) (m_law7_TypesUnifyMostGeneral_B10 x8_j3 k37) (fun _ _ _ _ => rfl) (fun m _ _ _ _ => rfl) h (fun (x7_0_l10 : List Int) (x7_1_l10 : Int) (x11_l10 : List (Int × Int × Int)) (x12_l10 : Int) => (AF.put (AF.put (AF.put (AF.put (AF.put AF0 (some 7) (pA b2 0)) (some 8) (.row 2 c_api_Binding x8_j3)) (some 10) (.row 3 c_api_TypeNode y31.1)) (some 11) (.exact v633)) (some 12) (.exact (.int .i64 x12_l10)))) (fun (x7_0_l10 : List Int) (x7_1_l10 : Int) (x11_l10 : List (Int × Int × Int)) (x12_l10 : Int) => [boxI 84 b2 [.row 1 c_int x7_0_l10, .exact (.int .i64 x7_1_l10)], vecT Tryd.prog 22 3 c_api_TypeNode v633 x11_l10]) ?_ (fun rec10 x7_0_l10 x7_1_l10 x11_l10 x12_l10 h => ?_)
        · refine Sub.trans (SubU.to SubU.f1) ?_
          refine Sub.trans (SubU.to SubU.drop) ?_
          refine Sub.trans (SubU.to SubU.f1) ?_
          refine Sub.trans (SubU.to SubU.drop) ?_
          refine Sub.trans (SubU.to SubU.f1) ?_
          exact Sub.of_le (AF.le_put (AV.le_eq rfl) (AF.le_put (AV.le_eq rfl) (AF.le_put (AV.le_eq rfl) (AF.le_put (AV.le_eq rfl) (AF.le_put (AV.le_eq rfl) (AF.le_top _))))))
        · unfold m_law7_TypesUnifyMostGeneral_B10 at h
          refine k_seq ?_
          refine k_seq ?_
          refine k_reg .free hmixP (by kernel_rfl) ?_
          refine G_q rfl (op_move (av := .exact (.int .i64 x12_l10)) rfl ?_)
          refine G_q rfl (op_move (av := .exact v633) rfl ?_)
          refine G_r rfl (opR_f1 (op_len_vec (by kernel_rfl) rfl ?_))
          refine G_q rfl (op_lss rfl rfl ?_)
          refine G_nil ?_
          refine kC_normal ?_
          refine k_cond_d (p := x12_l10 < (List.length x11_l10 : Int)) rfl (fun hc => ?_) (fun hc => ?_)
          · replace h := ite_t h hc
            refine k_skip ?_
            refine kC_normal ?_
            refine k_join3_0 h (fun (x7_0_j1024 : List Int) (x7_1_j1024 : Int) (x11_j1024 : List (Int × Int × Int)) => (AF.put (AF.put (AF.put (AF.put (AF.put AF0 (some 7) (pA b2 0)) (some 8) (.row 2 c_api_Binding x8_j3)) (some 10) (.row 3 c_api_TypeNode y31.1)) (some 11) (.exact v633)) (some 12) (.exact (.int .i64 x12_l10)))) (fun (x7_0_j1024 : List Int) (x7_1_j1024 : Int) (x11_j1024 : List (Int × Int × Int)) => [boxI 84 b2 [.row 1 c_int x7_0_j1024, .exact (.int .i64 x7_1_j1024)], vecT Tryd.prog 22 3 c_api_TypeNode v633 x11_j1024]) (fun k1024 h => ?_) (fun x7_0_j1024 x7_1_j1024 x11_j1024 h => ?_)
            · refine k_block ?_
              refine k_seq ?_
              refine k_reg .free hmixP (by kernel_rfl) ?_
              refine G_q rfl (op_assign (av := .exact (.int .i64 0)) rfl ?_)
              refine G_nil ?_
              refine kC_normal ?_
              refine k_block ?_
              refine k_loop4_0 (m_law7_TypesUnifyMostGeneral_L16 x8_j3 x12_l10 k1024) (m_law7_TypesUnifyMostGeneral_B16 x8_j3 x12_l10 k1024) (fun _ _ _ _ => rfl) (fun m _ _ _ _ => rfl) h (fun (x7_0_l16 : List Int) (x7_1_l16 : Int) (x11_l16 : List (Int × Int × Int)) (x13_l16 : Int) => (AF.put (AF.put (AF.put (AF.put (AF.put (AF.put AF0 (some 7) (pA b2 0)) (some 8) (.row 2 c_api_Binding x8_j3)) (some 10) (.row 3 c_api_TypeNode y31.1)) (some 11) (.exact v633)) (some 12) (.exact (.int .i64 x12_l10))) (some 13) (.exact (.int .i64 x13_l16)))) (fun (x7_0_l16 : List Int) (x7_1_l16 : Int) (x11_l16 : List (Int × Int × Int)) (x13_l16 : Int) => [boxI 84 b2 [.row 1 c_int x7_0_l16, .exact (.int .i64 x7_1_l16)], vecT Tryd.prog 22 3 c_api_TypeNode v633 x11_l16]) ?_ (fun rec16 x7_0_l16 x7_1_l16 x11_l16 x13_l16 h => ?_)
              · exact Sub.of_le (AF.le_put (AV.le_eq rfl) (AF.le_put (AV.le_eq rfl) (AF.le_put (AV.le_eq rfl) (AF.le_put (AV.le_eq rfl) (AF.le_put (AV.le_eq rfl) (AF.le_put (AV.le_eq rfl) (AF.le_top _)))))))
              · unfold m_law7_TypesUnifyMostGeneral_B16 at h
                refine k_seq ?_
                refine k_join1_0 h (fun (x62_j1190 : Bool) => (AF.put (AF.put (AF.put (AF.put (AF.put (AF.put (AF.put AF0 (some 7) (pA b2 0)) (some 8) (.row 2 c_api_Binding x8_j3)) (some 10) (.row 3 c_api_TypeNode y31.1)) (some 11) (.exact v633)) (some 12) (.exact (.int .i64 x12_l10))) (some 13) (.exact (.int .i64 x13_l16))) (some 62) (.exact (.bool x62_j1190)))) (fun (x62_j1190 : Bool) => [boxI 84 b2 [.row 1 c_int x7_0_l16, .exact (.int .i64 x7_1_l16)], vecT Tryd.prog 22 3 c_api_TypeNode v633 x11_l16]) (fun k1190 h => ?_) (fun x62_j1190 h => ?_)
                · refine k_reg .free hmixP (by kernel_rfl) ?_
                  refine G_q rfl (op_move (av := .exact v633) rfl ?_)
                  refine G_q rfl (op_move (av := .exact (.int .i64 x12_l10)) rfl ?_)
                  obtain ⟨n1192, h⟩ := need_some h
                  refine G_r rfl (opR_f1 (op_index_vec (by kernel_rfl) rfl rfl n1192.1 n1192.2 ?_))
                  refine G_q rfl (op_field_eptr (o := 0) (by kernel_rfl) rfl ?_)
                  refine G_r rfl (opR_f1 (op_load_vec1 (i := x12_l10) (o := 0) (a := .exact (.int .i64 ((gi x11_l16 x12_l10).1))) (by kernel_rfl) len_c_api_TypeNode rfl n1192.1 n1192.2 rfl ?_))
                  refine G_q rfl (op_eql rfl rfl ?_)
                  refine G_q rfl (op_move (av := .exact (.bool (decide (((gi x11_l16 x12_l10).1) = 1)))) rfl ?_)
                  refine G_split (p := ((gi x11_l16 x12_l10).1) = 1) 59 rfl (fun hc => ?_) (fun hc => ?_)
                  · replace h := ite_t h hc
                    refine Gy_q rfl rfl rfl (op_move (av := .exact (.int .i64 x13_l16)) rfl ?_)
                    refine Gy_q rfl rfl rfl (op_lss rfl rfl ?_)
                    refine G_q rfl (op_pick_t rfl (av := .exact (.bool (decide (x13_l16 < 4)))) rfl ?_)
                    refine G_nil ?_
                    refine kI_normal ⟨_, h, ?_⟩
                    exact Sub.of_le (AF.le_put (AV.le_eq rfl) (AF.le_put (AV.le_eq rfl) (AF.le_put (AV.le_eq rfl) (AF.le_put (AV.le_eq rfl) (AF.le_put (AV.le_eq rfl) (AF.le_put (AV.le_eq rfl) (AF.le_put (AV.le_eq rfl) (AF.le_top _))))))))
                  · replace h := ite_f h hc
                    refine G_n rfl rfl ?_
                    refine G_n rfl rfl ?_
                    refine G_q rfl (op_pick_f rfl (av := .exact (.bool false)) rfl ?_)
                    refine G_nil ?_
                    refine kI_normal ⟨_, h, ?_⟩
                    exact Sub.of_le (AF.le_put (AV.le_eq rfl) (AF.le_put (AV.le_eq rfl) (AF.le_put (AV.le_eq rfl) (AF.le_put (AV.le_eq rfl) (AF.le_put (AV.le_eq rfl) (AF.le_put (AV.le_eq rfl) (AF.le_put (AV.le_eq rfl) (AF.le_top _))))))))
                · refine k_cond_b (c := x62_j1190) rfl (fun hc => ?_) (fun hc => ?_)
                  · replace h := ite_t h hc
                    refine k_skip ?_
                    refine kC_normal ?_
                    refine k_join3_0 h (fun (x7_0_j1193 : List Int) (x7_1_j1193 : Int) (x11_j1193 : List (Int × Int × Int)) => (AF.put (AF.put (AF.put (AF.put (AF.put (AF.put AF0 (some 7) (pA b2 0)) (some 8) (.row 2 c_api_Binding x8_j3)) (some 10) (.row 3 c_api_TypeNode y31.1)) (some 11) (.exact v633)) (some 12) (.exact (.int .i64 x12_l10))) (some 13) (.exact (.int .i64 x13_l16)))) (fun (x7_0_j1193 : List Int) (x7_1_j1193 : Int) (x11_j1193 : List (Int × Int × Int)) => [boxI 84 b2 [.row 1 c_int x7_0_j1193, .exact (.int .i64 x7_1_j1193)], vecT Tryd.prog 22 3 c_api_TypeNode v633 x11_j1193]) (fun k1193 h => ?_) (fun x7_0_j1193 x7_1_j1193 x11_j1193 h => ?_)
                    · refine k_block ?_
                      refine k_join3_0 h (fun (x7_0_j1206 : List Int) (x7_1_j1206 : Int) (x84_j1206 : Bool) => (AF.put (AF.put (AF.put (AF.put (AF.put (AF.put (AF.put AF0 (some 7) (pA b2 0)) (some 8) (.row 2 c_api_Binding x8_j3)) (some 10) (.row 3 c_api_TypeNode y31.1)) (some 11) (.exact v633)) (some 12) (.exact (.int .i64 x12_l10))) (some 13) (.exact (.int .i64 x13_l16))) (some 84) (.exact (.bool x84_j1206)))) (fun (x7_0_j1206 : List Int) (x7_1_j1206 : Int) (x84_j1206 : Bool) => [boxI 84 b2 [.row 1 c_int x7_0_j1206, .exact (.int .i64 x7_1_j1206)], vecT Tryd.prog 22 3 c_api_TypeNode v633 x11_l16]) (fun k1206 h => ?_) (fun x7_0_j1206 x7_1_j1206 x84_j1206 h => ?_)
                      · refine k_plan [] [(0, 0), (0, 1), (0, 2), (0, 3), (0, 4), (0, 5), (0, 6), (0, 7), (1, 8), (0, 9), (1, 10), (0, 11), (0, 12), (0, 13), (0, 14), (0, 15), (0, 16), (2, 17), (0, 18), (0, 19)] hmixP (by kernel_rfl) ?_
                        refine P_q no34_0 rfl (op_move (av := .row 2 c_api_Binding x8_j3) rfl ?_)
                        refine P_q no34_0 rfl (op_move (av := .exact (.int .i64 x13_l16)) rfl ?_)
                        obtain ⟨n1212, h⟩ := need_some h
                        refine P_q no34_0 rfl (op_index_row (by kernel_rfl) rfl rfl n1212.1 n1212.2 ?_)
                        refine P_q no34_0 rfl (op_fieldAddr_ptr (o := 1) (c' := (List.drop 1 (c_api_Binding (gi x8_j3 x13_l16)))) (by kernel_rfl) rfl rfl ?_)
                        refine P_q no34_0 rfl (op_load1p (a := .row 3 c_api_TypeNode ((gi x8_j3 x13_l16).2)) (by kernel_rfl) rfl rfl ?_)
                        refine P_q no34_0 rfl (op_move (av := .row 2 c_api_Binding x8_j3) rfl ?_)
                        refine P_q no34_0 rfl (op_move (av := .exact v633) rfl ?_)
                        refine P_q no34_0 rfl (op_move (av := .exact (.int .i64 x12_l10)) rfl ?_)
                        obtain ⟨n1213, h⟩ := need_some h
                        refine P_r rfl (opR_f1 (op_index_vec (by kernel_rfl) rfl rfl n1213.1 n1213.2 ?_))
                        refine P_q no34_0 rfl (op_field_eptr (o := 1) (by kernel_rfl) rfl ?_)
                        refine P_r rfl (opR_f1 (op_load_vec1 (i := x12_l10) (o := 1) (a := .exact (.int .i64 ((gi x11_l16 x12_l10).2.1))) (by kernel_rfl) len_c_api_TypeNode rfl n1213.1 n1213.2 rfl ?_))
                        obtain ⟨n1214, h⟩ := need_some h
                        refine P_q no34_0 rfl (op_index_row (by kernel_rfl) rfl rfl n1214.1 n1214.2 ?_)
                        refine P_q no34_0 rfl (op_fieldAddr_ptr (o := 1) (c' := (List.drop 1 (c_api_Binding (gi x8_j3 ((gi x11_l16 x12_l10).2.1))))) (by kernel_rfl) rfl rfl ?_)
                        refine P_q no34_0 rfl (op_load1p (a := .row 3 c_api_TypeNode ((gi x8_j3 ((gi x11_l16 x12_l10).2.1)).2)) (by kernel_rfl) rfl rfl ?_)
                        obtain ⟨y1215, hy1215, h⟩ := bnd1_some h
                        refine P_q no34_0 rfl (op_pure (m_ref6_Equal_ok _ _ _ hy1215) Tryd.func23 (by kernel_rfl) (LEs.cons (AV.le_eq rfl) (LEs.cons (AV.le_eq rfl) LEs.nil)) ?_)
                        refine P_q no34_0 rfl (op_move (av := .exact (.bool y1215)) rfl ?_)
                        refine P_splitB (c := y1215) 80 rfl (fun hc => ?_) (fun hc => ?_)
                        · replace h := ite_t h hc
                          refine Py_q no34_0 rfl rfl rfl (op_move (av := pA b2 0) rfl ?_)
                          obtain ⟨y1216, hy1216, h⟩ := bnd1_some h
                          refine Py_l rfl rfl rfl (op_fun_1_0_1 (m_gen_Choices_Next_ok _ _ _ hy1216) Tryd.func24 (by kernel_rfl) (LEs.cons (AV.le_eq rfl) (LEs.cons (AV.le_eq rfl) LEs.nil)) ?_)
                          refine Py_q no34_0 rfl rfl rfl (op_eql rfl rfl ?_)
                          refine P_q no34_0 rfl (op_pick_t rfl (av := .exact (.bool (decide (y1216.1 = 1)))) rfl ?_)
                          refine P_nil ?_
                          refine kI_normal ⟨_, _, _, h, ?_⟩
                          exact Sub.of_le (AF.le_put (AV.le_eq rfl) (AF.le_put (AV.le_eq rfl) (AF.le_put (AV.le_eq rfl) (AF.le_put (AV.le_eq rfl) (AF.le_put (AV.le_eq rfl) (AF.le_put (AV.le_eq rfl) (AF.le_put (AV.le_eq rfl) (AF.le_top _))))))))
                        · replace h := ite_f h hc
                          refine P_n no34_0 rfl rfl rfl ?_
                          refine P_n no34_2 rfl rfl rfl ?_
                          refine P_n no34_0 rfl rfl rfl ?_
                          refine P_q no34_0 rfl (op_pick_f rfl (av := .exact (.bool false)) rfl ?_)
                          refine P_nil ?_
                          refine kI_normal ⟨_, _, _, h, ?_⟩
                          exact Sub.of_le (AF.le_put (AV.le_eq rfl) (AF.le_put (AV.le_eq rfl) (AF.le_put (AV.le_eq rfl) (AF.le_put (AV.le_eq rfl) (AF.le_put (AV.le_eq rfl) (AF.le_put (AV.le_eq rfl) (AF.le_put (AV.le_eq rfl) (AF.le_top _))))))))
                      · refine k_cond_b (c := x84_j1206) rfl (fun hc => ?_) (fun hc => ?_)
                        · replace h := ite_t h hc
                          refine k_reg .free hmixP (by kernel_rfl) ?_
                          refine G_q rfl (op_move (av := .exact v633) rfl ?_)
                          refine G_q rfl (op_move (av := .exact (.int .i64 x12_l10)) rfl ?_)
                          refine G_q rfl (op_move (av := .exact (.int .i64 x13_l16)) rfl ?_)
                          obtain ⟨n1217, h⟩ := need_some h
                          refine G_r rfl (opR_f1 (op_index_vec (by kernel_rfl) rfl rfl n1217.1 n1217.2 ?_))
                          refine G_q rfl (op_field_eptr (o := 1) (by kernel_rfl) rfl ?_)
                          refine G_l rfl (opB_f1 (op_store_vec (i := x12_l10) (o := 1) (z := ((gi x11_l16 x12_l10).1, x13_l16, (gi x11_l16 x12_l10).2.2)) (c' := [.exact (.int .i64 x13_l16)]) (by kernel_rfl) len_c_api_TypeNode rfl n1217.1 n1217.2 rfl CellsOf.int (LEs.cons (AV.le_eq rfl) LEs.nil) (OneC.int OneC.nil) (by kernel_rfl) (Nat.le_of_ble_eq_true rfl) rfl ?_))
                          refine G_nil ?_
                          refine kB_normal ?_
                          refine kI_normal ⟨_, _, _, h, ?_⟩
                          refine Sub.trans (SubU.to SubU.f1) ?_
                          exact Sub.of_le (AF.le_put (AV.le_eq rfl) (AF.le_put (AV.le_eq rfl) (AF.le_put (AV.le_eq rfl) (AF.le_put (AV.le_eq rfl) (AF.le_put (AV.le_eq rfl) (AF.le_put (AV.le_eq rfl) (AF.le_top _)))))))
                        · replace h := ite_f h hc
                          refine k_skip ?_
                          refine kB_normal ?_
                          refine kI_normal ⟨_, _, _, h, ?_⟩
                          exact Sub.of_le (AF.le_put (AV.le_eq rfl) (AF.le_put (AV.le_eq rfl) (AF.le_put (AV.le_eq rfl) (AF.le_put (AV.le_eq rfl) (AF.le_put (AV.le_eq rfl) (AF.le_put (AV.le_eq rfl) (AF.le_top _)))))))
                    · refine k_reg .free hmixP (by kernel_rfl) ?_
                      refine G_q rfl (op_move (av := .exact (.int .i64 x13_l16)) rfl ?_)
                      refine G_q rfl (op_add rfl rfl rfl ?_)
                      refine G_q rfl (op_assign (av := .exact (.int .i64 (i64 (x13_l16 + 1)))) rfl ?_)
                      refine G_nil ?_
                      refine kI_normal ⟨_, _, _, _, h, ?_⟩
                      exact Sub.of_le (AF.le_put (AV.le_eq rfl) (AF.le_put (AV.le_eq rfl) (AF.le_put (AV.le_eq rfl) (AF.le_put (AV.le_eq rfl) (AF.le_put (AV.le_eq rfl) (AF.le_put (AV.le_eq rfl) (AF.le_top _)))))))
                  · replace h := ite_f h hc
                    refine k_exit ?_
                    refine kC_exit ?_
                    refine kI_exit ?_
                    refine kB_exit ?_
                    refine kB_normal ?_
                    refine kI_normal ⟨_, _, _, h, ?_⟩
                    exact Sub.of_le (AF.le_put (AV.le_eq rfl) (AF.le_put (AV.le_eq rfl) (AF.le_put (AV.le_eq rfl) (AF.le_put (AV.le_eq rfl) (AF.le_put (AV.le_eq rfl) (AF.le_top _))))))
            · refine k_reg .free hmixP (by kernel_rfl) ?_
              refine G_q rfl (op_move (av := .exact (.int .i64 x12_l10)) rfl ?_)
              refine G_q rfl (op_add rfl rfl rfl ?_)
              refine G_q rfl (op_assign (av := .exact (.int .i64 (i64 (x12_l10 + 1)))) rfl ?_)
              refine G_nil ?_
              refine kI_normal ⟨_, _, _, _, h, ?_⟩
              exact Sub.of_le (AF.le_put (AV.le_eq rfl) (AF.le_put (AV.le_eq rfl) (AF.le_put (AV.le_eq rfl) (AF.le_put (AV.le_eq rfl) (AF.le_put (AV.le_eq rfl) (AF.le_top _))))))
          · replace h := ite_f h hc
            refine k_exit ?_
            refine kC_exit ?_
            refine kI_exit ?_
            refine kB_exit ?_
            refine kI_normal ⟨_, h, ?_⟩
            refine Sub.trans (SubU.to SubU.f1) ?_
            refine Sub.trans (SubU.to (SubU.freezeT (s := 11) rfl len_c_api_TypeNode)) ?_
            refine Sub.trans (SubU.to SubU.drop) ?_
            exact Sub.of_le (AF.le_put (AV.le_eq rfl) (AF.le_put (AV.le_eq rfl) (AF.le_put (AV.le_eq rfl) (AF.le_top _))))
      · replace h := ite_f h hc
        refine k_skip ?_
        refine kI_normal ⟨_, h, ?_⟩
        refine Sub.trans (SubU.to SubU.drop) ?_
        refine Sub.trans (SubU.to SubU.drop) ?_
        refine Sub.trans (SubU.to SubU.drop) ?_
        exact Sub.of_le (AF.le_put (AV.le_eq rfl) (AF.le_put (AV.le_eq rfl) (AF.le_put (AV.le_eq rfl) (AF.le_top _))))
    · refine k_seq ?_
      refine k_reg .free hmixP (by kernel_rfl) ?_
      refine G_q rfl (op_move (av := .row 3 c_api_TypeNode y31.1) rfl ?_)
      refine G_q rfl (op_move (av := .row 3 c_api_TypeNode x11_j37) rfl ?_)
      obtain ⟨y1218, hy1218, h⟩ := bnd1_some h
      refine G_q rfl (op_pure (m_types_Unify_ok _ _ _ hy1218) Tryd.func12 (by kernel_rfl) (LEs.cons (AV.le_eq rfl) (LEs.cons (AV.le_eq rfl) LEs.nil)) ?_)
      refine G_q rfl (op_move (av := .tup [.row 2 c_api_Binding y1218.1, .exact (.int .i64 y1218.2)]) rfl ?_)
      refine G_q rfl (op_extract (av := .row 2 c_api_Binding y1218.1) rfl rfl ?_)
      refine G_q rfl (op_extract (av := .exact (.int .i64 y1218.2)) rfl rfl ?_)
      refine G_q rfl (op_assign (av := .row 2 c_api_Binding y1218.1) rfl ?_)
      refine G_q rfl (op_assign (av := .exact (.int .i64 y1218.2)) rfl ?_)
      refine G_nil ?_
      refine kC_normal ?_
      refine k_seq ?_
      refine k_join1_0 h (fun (x101_j1223 : Bool) => (AF.put (AF.put (AF.put AF0 (some 8) (.row 2 c_api_Binding x8_j3)) (some 14) (.row 2 c_api_Binding y1218.1)) (some 101) (.exact (.bool x101_j1223)))) (fun (x101_j1223 : Bool) => []) (fun k1223 h => ?_) (fun x101_j1223 h => ?_)
      · refine k_reg .free hmixP (by kernel_rfl) ?_
        obtain ⟨y1225, hy1225, h⟩ := bnd1_some h
        refine G_q rfl (op_pure (m_law7_awake_ok _ hy1225) Tryd.func16 (by kernel_rfl) LEs.nil ?_)
        refine G_q rfl (op_not rfl ?_)
        refine G_q rfl (op_move (av := .exact (.bool (!y1225))) rfl ?_)
        refine G_splitB (c := !y1225) 98 rfl (fun hc => ?_) (fun hc => ?_)
        · replace h := ite_t h hc
          refine G_n rfl rfl ?_
          refine G_n rfl rfl ?_
          refine G_q rfl (op_pick_t rfl (av := .exact (.bool true)) rfl ?_)
          refine G_nil ?_
          refine kI_normal ⟨_, h, ?_⟩
          exact Sub.of_le (AF.le_put (AV.le_eq rfl) (AF.le_put (AV.le_eq rfl) (AF.le_put (AV.le_eq rfl) (AF.le_top _))))
        · replace h := ite_f h hc
          refine Gy_q rfl rfl rfl (op_move (av := .exact (.int .i64 y1218.2)) rfl ?_)
          refine Gy_q rfl rfl rfl (op_neq rfl rfl ?_)
          refine G_q rfl (op_pick_f rfl (av := .exact (.bool (decide (¬ y1218.2 = 0)))) rfl ?_)
          refine G_nil ?_
          refine kI_normal ⟨_, h, ?_⟩
          exact Sub.of_le (AF.le_put (AV.le_eq rfl) (AF.le_put (AV.le_eq rfl) (AF.le_put (AV.le_eq rfl) (AF.le_top _))))
      · refine k_cond_b (c := x101_j1223) rfl (fun hc => ?_) (fun hc => ?_)
        · replace h := ite_t h hc
          refine k_seq ?_
          refine k_reg .free hmixP (by kernel_rfl) ?_
          refine G_q rfl (op_assign (av := .exact (.bool false)) rfl ?_)
          refine G_nil ?_
          refine kC_normal ?_
          refine k_ret ?_
          refine kC_ret ?_
          obtain rfl := Option.some.inj h
          refine kP_any (endN (af' := (AF.put AF0 (some 6) (.exact (.bool false)))) (σ' := []) _ rfl ?_ ⟨rfl, rfl⟩)
          exact Sub.of_le (AF.le_put (AV.le_eq rfl) (AF.le_top _))
        · replace h := ite_f h hc
          refine k_skip ?_
          refine kC_normal ?_
          refine k_join0_0 h (AF0) ([]) (fun k1226 h => ?_) (fun  h => ?_)
          · refine k_seq ?_
            refine k_reg .free hmixP (by kernel_rfl) ?_
            refine G_q rfl (op_assign (av := .exact (.int .i64 0)) rfl ?_)
            refine G_nil ?_
            refine kC_normal ?_
            refine k_block ?_
            refine k_loop1_0 (m_law7_TypesUnifyMostGeneral_L18 x8_j3 y1218 k1226) (m_law7_TypesUnifyMostGeneral_B18 x8_j3 y1218 k1226) (fun _ => rfl) (fun m _ => rfl) h (fun (x16_l18 : Int) => (AF.put (AF.put (AF.put AF0 (some 8) (.row 2 c_api_Binding x8_j3)) (some 14) (.row 2 c_api_Binding y1218.1)) (some 16) (.exact (.int .i64 x16_l18)))) (fun (x16_l18 : Int) => []) ?_ (fun rec18 x16_l18 h => ?_)
            · exact Sub.of_le (AF.le_put (AV.le_eq rfl) (AF.le_put (AV.le_eq rfl) (AF.le_put (AV.le_eq rfl) (AF.le_top _))))
            · unfold m_law7_TypesUnifyMostGeneral_B18 at h
              refine k_seq ?_
              refine k_seq ?_
              refine k_reg .free hmixP (by kernel_rfl) ?_
              refine G_q rfl (op_move (av := .exact (.int .i64 x16_l18)) rfl ?_)
              refine G_q rfl (op_lss rfl rfl ?_)
              refine G_nil ?_
              refine kC_normal ?_
              refine k_cond_d (p := x16_l18 < 4) rfl (fun hc => ?_) (fun hc => ?_)
              · replace h := ite_t h hc
                refine k_skip ?_
                refine kC_normal ?_
                refine k_seq ?_
                refine k_block ?_
                refine k_seq ?_
                refine k_reg .free hmixP (by kernel_rfl) ?_
                refine G_q rfl (op_move (av := .exact (.int .i64 x16_l18)) rfl ?_)
                obtain ⟨y1253, hy1253, h⟩ := bnd1_some h
                refine G_q rfl (op_pure (m_ref6_Make_fz _ _ _ _ hy1253) Tryd.func25 (by kernel_rfl) (LEs.cons (AV.le_eq rfl) (LEs.cons (AV.le_eq rfl) (LEs.cons (row_nil (by decide)) LEs.nil))) ?_)
                refine G_q rfl (op_assign (av := .row 3 c_api_TypeNode y1253) rfl ?_)
                refine G_nil ?_
                refine kC_normal ?_
                refine k_seq ?_
                refine k_plan [] [(0, 0), (0, 1), (0, 2), (0, 3), (0, 4), (0, 5), (0, 6), (0, 7), (0, 8), (0, 9), (0, 10), (0, 11)] hmixP (by kernel_rfl) ?_
                refine P_q no34_0 rfl (op_move (av := .row 2 c_api_Binding x8_j3) rfl ?_)
                refine P_q no34_0 rfl (op_move (av := .row 2 c_api_Binding y1218.1) rfl ?_)
                refine P_q no34_0 rfl (op_move (av := .row 3 c_api_TypeNode y1253) rfl ?_)
                obtain ⟨y1254, hy1254, h⟩ := bnd1_some h
                refine P_q no34_0 rfl (op_pure (m_types_Apply_ok _ _ _ hy1254) Tryd.func18 (by kernel_rfl) (LEs.cons (AV.le_eq rfl) (LEs.cons (AV.le_eq rfl) LEs.nil)) ?_)
                obtain ⟨y1255, hy1255, h⟩ := bnd1_some h
                refine P_q no34_0 rfl (op_pure (m_types_Apply_ok _ _ _ hy1255) Tryd.func18 (by kernel_rfl) (LEs.cons (AV.le_eq rfl) (LEs.cons (AV.le_eq rfl) LEs.nil)) ?_)
                refine P_q no34_0 rfl (op_move (av := .row 2 c_api_Binding x8_j3) rfl ?_)
                refine P_q no34_0 rfl (op_move (av := .exact (.int .i64 x16_l18)) rfl ?_)
                obtain ⟨n1256, h⟩ := need_some h
                refine P_q no34_0 rfl (op_index_row (by kernel_rfl) rfl rfl n1256.1 n1256.2 ?_)
                refine P_q no34_0 rfl (op_fieldAddr_ptr (o := 1) (c' := (List.drop 1 (c_api_Binding (gi x8_j3 x16_l18)))) (by kernel_rfl) rfl rfl ?_)
                refine P_q no34_0 rfl (op_load1p (a := .row 3 c_api_TypeNode ((gi x8_j3 x16_l18).2)) (by kernel_rfl) rfl rfl ?_)
                obtain ⟨y1257, hy1257, h⟩ := bnd1_some h
                refine P_q no34_0 rfl (op_pure (m_help_Equal_api_TypeNode_ok _ _ _ hy1257) Tryd.func21 (by kernel_rfl) (LEs.cons (AV.le_eq rfl) (LEs.cons (AV.le_eq rfl) LEs.nil)) ?_)
                refine P_q no34_0 rfl (op_not rfl ?_)
                refine P_nil ?_
                refine kC_normal ?_
                refine k_cond_b (c := !y1257) rfl (fun hc => ?_) (fun hc => ?_)
                · replace h := ite_t h hc
                  refine k_seq ?_
                  refine k_reg .free hmixP (by kernel_rfl) ?_
                  refine G_q rfl (op_assign (av := .exact (.bool false)) rfl ?_)
                  refine G_nil ?_
                  refine kC_normal ?_
                  refine k_ret ?_
                  refine kB_ret ?_
                  refine kC_ret ?_
                  refine kI_ret ?_
                  refine kB_ret ?_
                  refine kI_ret ?_
                  obtain rfl := Option.some.inj h
                  refine kP_any (endN (af' := (AF.put AF0 (some 6) (.exact (.bool false)))) (σ' := []) _ rfl ?_ ⟨rfl, rfl⟩)
                  exact Sub.of_le (AF.le_put (AV.le_eq rfl) (AF.le_top _))
                · replace h := ite_f h hc
                  refine k_skip ?_
                  refine kB_normal ?_
                  refine kC_normal ?_
                  refine k_reg .free hmixP (by kernel_rfl) ?_
                  refine G_q rfl (op_move (av := .exact (.int .i64 x16_l18)) rfl ?_)
                  refine G_q rfl (op_add rfl rfl rfl ?_)
                  refine G_q rfl (op_assign (av := .exact (.int .i64 (i64 (x16_l18 + 1)))) rfl ?_)
                  refine G_nil ?_
                  refine kI_normal ⟨_, h, ?_⟩
                  exact Sub.of_le (AF.le_put (AV.le_eq rfl) (AF.le_put (AV.le_eq rfl) (AF.le_put (AV.le_eq rfl) (AF.le_top _))))
              · replace h := ite_f h hc
                refine k_exit ?_
                refine kC_exit ?_
                refine kI_exit ?_
                refine kB_exit ?_
                refine kI_normal ⟨h, ?_⟩
                exact Sub.of_le (AF.le_top _)
          · refine k_seq ?_
            refine k_reg .free hmixP (by kernel_rfl) ?_
            refine G_q rfl (op_assign (av := .exact (.bool true)) rfl ?_)
            refine G_nil ?_
            refine kC_normal ?_
            refine k_ret ?_
            obtain rfl := Option.some.inj h
            refine kP_any (endN (af' := (AF.put AF0 (some 6) (.exact (.bool true)))) (σ' := []) _ rfl ?_ ⟨rfl, rfl⟩)
            exact Sub.of_le (AF.le_put (AV.le_eq rfl) (AF.le_top _))
end Go.Proofs.YtdfdjgolijckfaaDoor
