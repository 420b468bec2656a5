/- The functions compute their models, by program. -/
import Derived.Test.YtdfdjgolijckfaaDoorQq5
namespace Go.Proofs.YtdfdjgolijckfaaDoor
open Go.RowKit
attribute [local irreducible] AV.exact AV.top AV.row AV.ptr AV.agg AV.tup AV.eptr AV.fn AV.nilq AV.nilqn opA opB opM opR Quiet Loud Reads wpG awp den Sub SubU Pure Fun vecI vecT boxI CellsAll CellsOf OneC LEs LEss
set_option maxRecDepth 100000

set_option maxHeartbeats 4000000 in
theorem m_types_Vars_ok (a0 : List (Int × Int × Int)) (r : (List Int)) (h : m_types_Vars a0 = some r) : Pure Tryd.prog 33 [(.row 3 c_api_TypeNode a0)] (.row 1 c_int r) := by
  unfold m_types_Vars at h
  refine Pure.ofFun (fun_of_awp Tryd.func33 rfl Tryd.ntmps33 (by simp) rfl (res1 rfl) fun E hE => k_end ?_)
  refine k_seq ?_
  refine k_reg .free hmixP (by kernel_rfl) ?_
  refine G_q rfl (op_assign (av := .exact (.slice none 0 0)) rfl ?_)
  refine G_nil ?_
  refine kC_normal ?_
  refine k_seq ?_
  refine k_reg .free hmixP (by kernel_rfl) ?_
  refine G_q rfl (op_assign (av := .exact (.slice none 0 0)) rfl ?_)
  refine G_nil ?_
  refine kC_normal ?_
  refine k_seq ?_
  refine k_reg .free hmixP (by kernel_rfl) ?_
  refine G_l rfl (op_mnew (V := (fun _ => True)) (kv := (fun k : Int => .int .i64 k)) (vv := (fun x : Bool => .exact (.bool x))) (fun b1 => ?_))
  refine G_q rfl (op_assign (av := .exact (.map (some b1))) rfl ?_)
  refine G_nil ?_
  refine kC_normal ?_
  refine k_join1_1 h (fun (x3_j2 : List Int) (v3_j2 : Value) => (AF.put AF0 (some 3) (.exact v3_j2))) (fun (x3_j2 : List Int) (v3_j2 : Value) => [vecT Tryd.prog 23 1 c_int v3_j2 x3_j2]) (fun k2 h => ?_) (fun x3_j2 v3_j2 h => ?_)
  · refine k_seq ?_
    refine k_reg .free hmixP (by kernel_rfl) ?_
    refine G_q rfl (op_move (av := .row 3 c_api_TypeNode a0) rfl ?_)
    refine G_q rfl (op_len_row (by kernel_rfl) rfl ?_)
    refine G_q rfl (op_move (av := .exact (.int .i64 0)) rfl ?_)
    refine G_nil ?_
    refine kC_normal ?_
    refine k_block ?_
    refine k_loop3_1 (m_types_Vars_L2 a0 k2) (m_types_Vars_B2 a0 k2) (fun _ _ _ => rfl) (fun m _ _ _ => rfl) h (fun (x3_l2 : List Int) (x4_l2 : List (Int × Bool)) (x10_l2 : Int) (v3_l2 : Value) => (AF.put (AF.put (AF.put (AF.put (AF.put AF0 (some 3) (.exact v3_l2)) (some 4) (.exact (.map (some b1)))) (some 8) (.row 3 c_api_TypeNode a0)) (some 9) (.exact (.int .i64 (List.length a0 : Int)))) (some 10) (.exact (.int .i64 x10_l2)))) (fun (x3_l2 : List Int) (x4_l2 : List (Int × Bool)) (x10_l2 : Int) (v3_l2 : Value) => [vecT Tryd.prog 23 1 c_int v3_l2 x3_l2, mapI (fun _ => True) (fun k : Int => .int .i64 k) (fun x : Bool => .exact (.bool x)) b1 x4_l2]) (.slice none 0 0) ?_ (fun rec2 x3_l2 x4_l2 x10_l2 v3_l2 h => ?_)
    · refine Sub.trans (SubU.to (SubU.nilT (P := Tryd.prog) (t := 23) (n := 1) (enc := c_int))) ?_
      exact Sub.of_le (AF.le_put (AV.le_eq rfl) (AF.le_put (AV.le_eq rfl) (AF.le_put (AV.le_eq rfl) (AF.le_put (AV.le_eq rfl) (AF.le_put (AV.le_eq rfl) (AF.le_top _))))))
    · unfold m_types_Vars_B2 at h
      refine k_seq ?_
      refine k_reg .free hmixP (by kernel_rfl) ?_
      refine G_q rfl (op_lss rfl rfl ?_)
      refine G_nil ?_
      refine kC_normal ?_
      refine k_seq ?_
      refine k_cond_d (p := x10_l2 < (List.length a0 : Int)) rfl (fun hc => ?_) (fun hc => ?_)
      · replace h := ite_t h hc
        refine k_skip ?_
        refine kC_normal ?_
        refine k_join2_1 h (fun (x3_j59 : List Int) (x4_j59 : List (Int × Bool)) (v3_j59 : Value) => (AF.put (AF.put (AF.put (AF.put (AF.put AF0 (some 3) (.exact v3_j59)) (some 4) (.exact (.map (some b1)))) (some 8) (.row 3 c_api_TypeNode a0)) (some 9) (.exact (.int .i64 (List.length a0 : Int)))) (some 10) (.exact (.int .i64 x10_l2)))) (fun (x3_j59 : List Int) (x4_j59 : List (Int × Bool)) (v3_j59 : Value) => [vecT Tryd.prog 23 1 c_int v3_j59 x3_j59, mapI (fun _ => True) (fun k : Int => .int .i64 k) (fun x : Bool => .exact (.bool x)) b1 x4_j59]) (fun k59 h => ?_) (fun x3_j59 x4_j59 v3_j59 h => ?_)
        · refine k_block ?_
          refine k_seq ?_
          refine k_reg .free hmixP (by kernel_rfl) ?_
          obtain ⟨n65, h⟩ := need_some h
          refine G_q rfl (op_index_row (by kernel_rfl) rfl rfl n65.1 n65.2 ?_)
          refine G_q rfl (op_loadNp (m := 3) (c' := c_api_TypeNode (gi a0 x10_l2)) (by kernel_rfl) rfl rfl rfl ?_)
          refine G_l rfl (op_alloc (c := [.exact (.int .i64 ((0, 0, 0).1)), .exact (.int .i64 ((0, 0, 0).2.1)), .exact (.int .i64 ((0, 0, 0).2.2))]) rfl (LEs.cons (AV.le_eq rfl) (LEs.cons (AV.le_eq rfl) (LEs.cons (AV.le_eq rfl) LEs.nil))) (fun b66 => ?_))
          refine G_l rfl (op_store_box (c' := [.exact (.int .i64 ((gi a0 x10_l2).1)), .exact (.int .i64 ((gi a0 x10_l2).2.1)), .exact (.int .i64 ((gi a0 x10_l2).2.2))]) (c3 := [.exact (.int .i64 ((gi a0 x10_l2).1)), .exact (.int .i64 ((gi a0 x10_l2).2.1)), .exact (.int .i64 ((gi a0 x10_l2).2.2))]) rfl rfl CellsOf.agg (LEs.cons (AV.le_eq rfl) (LEs.cons (AV.le_eq rfl) (LEs.cons (AV.le_eq rfl) LEs.nil))) (oc_c_api_TypeNode _) (by kernel_rfl) (Nat.le_of_ble_eq_true rfl) rfl ?_)
          refine G_nil ?_
          refine kC_normal ?_
          refine k_join1_0 h (fun (x23_j67 : Bool) => (AF.put (AF.put (AF.put (AF.put (AF.put (AF.put (AF.put AF0 (some 3) (.exact v3_l2)) (some 4) (.exact (.map (some b1)))) (some 6) (pA b66 0)) (some 8) (.row 3 c_api_TypeNode a0)) (some 9) (.exact (.int .i64 (List.length a0 : Int)))) (some 10) (.exact (.int .i64 x10_l2))) (some 23) (.exact (.bool x23_j67)))) (fun (x23_j67 : Bool) => [vecT Tryd.prog 23 1 c_int v3_l2 x3_l2, mapI (fun _ => True) (fun k : Int => .int .i64 k) (fun x : Bool => .exact (.bool x)) b1 x4_l2, boxI 41 b66 [.exact (.int .i64 ((gi a0 x10_l2).1)), .exact (.int .i64 ((gi a0 x10_l2).2.1)), .exact (.int .i64 ((gi a0 x10_l2).2.2))]]) (fun k67 h => ?_) (fun x23_j67 h => ?_)
          · refine k_reg .free hmixP (by kernel_rfl) ?_
            refine G_q rfl (op_fieldAddr (o := 0) (by kernel_rfl) rfl ?_)
            refine G_r rfl (op_load_box1 (a := .exact (.int .i64 ((gi a0 x10_l2).1))) (by kernel_rfl) rfl rfl ?_)
            refine G_q rfl (op_eql rfl rfl ?_)
            refine G_q rfl (op_move (av := .exact (.bool (decide (((gi a0 x10_l2).1) = 1)))) rfl ?_)
            refine G_split (p := ((gi a0 x10_l2).1) = 1) 17 rfl (fun hc => ?_) (fun hc => ?_)
            · replace h := ite_t h hc
              refine Gy_q rfl rfl rfl (op_move (av := .exact (.map (some b1))) rfl ?_)
              refine Gy_q rfl rfl rfl (op_fieldAddr (o := 1) (by kernel_rfl) rfl ?_)
              refine Gy_r rfl rfl rfl (op_load_box1 (a := .exact (.int .i64 ((gi a0 x10_l2).2.1))) (by kernel_rfl) rfl rfl ?_)
              refine Gy_r rfl rfl rfl (op_mlook (z := (false : Bool)) (List.Mem.tail _ (List.Mem.tail _ (List.Mem.head _))) (keyOk_int Tryd.underlying3) (fun _ _ _ => trivial) Tryd.underlying98 (fun _ w => ⟨_, Tryd.zeroValue4 w, zp_exact⟩) rfl (keyAV_int rfl) ?_)
              refine Gy_q rfl rfl rfl (op_not rfl ?_)
              refine G_q rfl (op_pick_t rfl (av := .exact (.bool (!(Option.getD (lookL x4_l2 ((gi a0 x10_l2).2.1)) false)))) rfl ?_)
              refine G_nil ?_
              refine kI_normal ⟨_, h, ?_⟩
              refine Sub.trans (SubU.to SubU.f2) ?_
              refine Sub.trans (SubU.to SubU.f2) ?_
              exact Sub.of_le (AF.le_put (AV.le_eq rfl) (AF.le_put (AV.le_eq rfl) (AF.le_put (AV.le_eq rfl) (AF.le_put (AV.le_eq rfl) (AF.le_put (AV.le_eq rfl) (AF.le_put (AV.le_eq rfl) (AF.le_put (AV.le_eq rfl) (AF.le_top _))))))))
            · replace h := ite_f h hc
              refine G_n rfl rfl ?_
              refine G_n rfl rfl ?_
              refine G_n rfl rfl ?_
              refine G_n rfl rfl ?_
              refine G_n rfl rfl ?_
              refine G_q rfl (op_pick_f rfl (av := .exact (.bool false)) rfl ?_)
              refine G_nil ?_
              refine kI_normal ⟨_, h, ?_⟩
              refine Sub.trans (SubU.to SubU.f2) ?_
              refine Sub.trans (SubU.to SubU.f2) ?_
              exact Sub.of_le (AF.le_put (AV.le_eq rfl) (AF.le_put (AV.le_eq rfl) (AF.le_put (AV.le_eq rfl) (AF.le_put (AV.le_eq rfl) (AF.le_put (AV.le_eq rfl) (AF.le_put (AV.le_eq rfl) (AF.le_put (AV.le_eq rfl) (AF.le_top _))))))))
          · refine k_cond_b (c := x23_j67) rfl (fun hc => ?_) (fun hc => ?_)
            · replace h := ite_t h hc
              refine k_seq ?_
              refine k_reg .free hmixP (by kernel_rfl) ?_
              refine G_q rfl (op_move (av := .exact (.map (some b1))) rfl ?_)
              refine G_q rfl (op_fieldAddr (o := 1) (by kernel_rfl) rfl ?_)
              refine G_r rfl (opR_f2 (op_load_box1 (a := .exact (.int .i64 ((gi a0 x10_l2).2.1))) (by kernel_rfl) rfl rfl ?_))
              refine G_l rfl (opB_f1 (op_mput (z := true) (keyOk_int Tryd.underlying3) (fun _ _ _ => trivial) Tryd.underlying98 rfl (keyAV_int rfl) (AV.le_eq rfl) ?_))
              refine G_nil ?_
              refine kC_normal ?_
              refine k_reg .free hmixP (by kernel_rfl) ?_
              refine G_q rfl (op_move (av := .exact v3_l2) rfl ?_)
              refine G_q rfl (op_fieldAddr (o := 1) (by kernel_rfl) rfl ?_)
              refine G_r rfl (opR_f2 (op_load_box1 (a := .exact (.int .i64 ((gi a0 x10_l2).2.1))) (by kernel_rfl) rfl rfl ?_))
              refine G_q rfl (op_litT (n := 1) (enc := c_int) [(gi a0 x10_l2).2.1] (CellsAll.cons rfl CellsOf.int CellsAll.nil) rfl (by kernel_rfl) (LEss.cons (LEs.cons (AV.le_eq rfl) LEs.nil) LEss.nil) ?_)
              obtain ⟨n68, h⟩ := need_some h
              refine G_l rfl (opB_f1 (op_appT (by kernel_rfl) rfl rfl oc_c_int n68 (fun v69 => ?_)))
              refine G_q rfl (op_assign (av := .exact v69) rfl ?_)
              refine G_nil ?_
              refine kB_normal ?_
              refine kI_normal ⟨_, _, v69, h, ?_⟩
              refine Sub.trans (SubU.to SubU.f2) ?_
              refine Sub.trans (SubU.to SubU.drop) ?_
              exact Sub.of_le (AF.le_put (AV.le_eq rfl) (AF.le_put (AV.le_eq rfl) (AF.le_put (AV.le_eq rfl) (AF.le_put (AV.le_eq rfl) (AF.le_put (AV.le_eq rfl) (AF.le_top _))))))
            · replace h := ite_f h hc
              refine k_skip ?_
              refine kB_normal ?_
              refine kI_normal ⟨_, _, v3_l2, h, ?_⟩
              refine Sub.trans (SubU.to SubU.f2) ?_
              refine Sub.trans (SubU.to SubU.drop) ?_
              exact Sub.of_le (AF.le_put (AV.le_eq rfl) (AF.le_put (AV.le_eq rfl) (AF.le_put (AV.le_eq rfl) (AF.le_put (AV.le_eq rfl) (AF.le_put (AV.le_eq rfl) (AF.le_top _))))))
        · refine k_reg .free hmixP (by kernel_rfl) ?_
          refine G_q rfl (op_add rfl rfl rfl ?_)
          refine G_q rfl (op_move (av := .exact (.int .i64 (i64 (x10_l2 + 1)))) rfl ?_)
          refine G_nil ?_
          refine kI_normal ⟨_, _, _, v3_j59, h, ?_⟩
          exact Sub.of_le (AF.le_put (AV.le_eq rfl) (AF.le_put (AV.le_eq rfl) (AF.le_put (AV.le_eq rfl) (AF.le_put (AV.le_eq rfl) (AF.le_put (AV.le_eq rfl) (AF.le_top _))))))
      · replace h := ite_f h hc
        refine k_exit ?_
        refine kC_exit ?_
        refine kI_exit ?_
        refine kB_exit ?_
        refine kI_normal ⟨_, v3_l2, h, ?_⟩
        refine Sub.trans (SubU.to SubU.f1) ?_
        refine Sub.trans (SubU.to SubU.drop) ?_
        exact Sub.of_le (AF.le_put (AV.le_eq rfl) (AF.le_top _))
  · refine k_seq ?_
    refine k_reg .free hmixP (by kernel_rfl) ?_
    refine G_q rfl (op_move (av := .exact v3_j2) rfl ?_)
    refine G_q rfl (op_assign (av := .exact v3_j2) rfl ?_)
    refine G_nil ?_
    refine kC_normal ?_
    refine k_ret ?_
    obtain rfl := Option.some.inj h
    refine kP_any (endN (af' := (AF.put AF0 (some 2) (.row 1 c_int x3_j2))) (σ' := []) _ rfl ?_ ⟨rfl, rfl⟩)
    refine Sub.trans (SubU.to (SubU.freezeT (s := 2) rfl len_c_int)) ?_
    exact Sub.of_le (AF.le_put (AV.le_eq rfl) (AF.le_top _))
set_option maxHeartbeats 4000000 in
theorem m_slices_Clone_L_api_TypeNode_api_TypeNode_ok (a0 : List (Int × Int × Int)) (r : (List (Int × Int × Int))) (h : m_slices_Clone_L_api_TypeNode_api_TypeNode a0 = some r) : Fun Tryd.prog 66 [(.row 3 c_api_TypeNode a0)] [] (fun a s => ∃ z0, a = .exact z0 ∧ s = [vecT Tryd.prog 22 3 c_api_TypeNode z0 r]) := by
  unfold m_slices_Clone_L_api_TypeNode_api_TypeNode at h
  refine fun_of_awp Tryd.func66 rfl Tryd.ntmps66 (by simp) rfl (res1 rfl) fun E hE => k_end ?_
  refine k_seq ?_
  refine k_reg .free hmixP (by kernel_rfl) ?_
  refine G_q rfl (op_assign (av := .exact (.slice none 0 0)) rfl ?_)
  refine G_nil ?_
  refine kC_normal ?_
  refine k_seq ?_
  refine k_seq ?_
  refine k_reg .free hmixP (by kernel_rfl) ?_
  refine G_q rfl (op_move (av := .row 3 c_api_TypeNode a0) rfl ?_)
  refine G_q rfl (op_eqnil_row (by kernel_rfl) rfl ?_)
  refine G_nil ?_
  refine kC_normal ?_
  obtain ⟨h1, h⟩ := nilc_some h
  refine k_cond_u (p := a0 = []) rfl (fun hc => ?_) ?_
  · replace h := h1 hc
    refine k_seq ?_
    refine k_reg .free hmixP (by kernel_rfl) ?_
    refine G_q rfl (op_assign (av := .exact (.slice none 0 0)) rfl ?_)
    refine G_nil ?_
    refine kC_normal ?_
    refine k_ret ?_
    refine kC_ret ?_
    obtain rfl := Option.some.inj h
    refine kP_any (endN (af' := (AF.put AF0 (some 2) (.exact (.slice none 0 0)))) (σ' := [vecT Tryd.prog 22 3 c_api_TypeNode (.slice none 0 0) []]) _ rfl ?_ ⟨(.slice none 0 0), rfl, rfl⟩)
    refine Sub.trans (SubU.to (SubU.nilT (P := Tryd.prog) (t := 22) (n := 3) (enc := c_api_TypeNode))) ?_
    exact Sub.of_le (AF.le_put (AV.le_eq rfl) (AF.le_top _))
  · refine k_skip ?_
    refine kC_normal ?_
    refine k_seq ?_
    refine k_reg .free hmixP (by kernel_rfl) ?_
    refine G_l rfl (op_lit0I (enc := c_api_TypeNode) (n := 3) (by kernel_rfl) (fun v1 => ?_))
    refine G_q rfl (op_move (av := .row 3 c_api_TypeNode a0) rfl ?_)
    obtain ⟨n2, h⟩ := need_some h
    refine G_l rfl (op_appT (by kernel_rfl) rfl rfl oc_c_api_TypeNode n2 (fun v3 => ?_))
    refine G_q rfl (op_assign (av := .exact v3) rfl ?_)
    refine G_nil ?_
    refine kC_normal ?_
    refine k_ret ?_
    obtain rfl := Option.some.inj h
    refine kP_any (endN (af' := (AF.put AF0 (some 2) (.exact v3))) (σ' := [vecT Tryd.prog 22 3 c_api_TypeNode v3 (([] : List (Int × Int × Int)) ++ a0)]) _ rfl ?_ ⟨v3, rfl, rfl⟩)
    exact Sub.of_le (AF.le_put (AV.le_eq rfl) (AF.le_top _))
theorem m_slices_Clone_L_api_TypeNode_api_TypeNode_fz (a0 : List (Int × Int × Int)) (r : (List (Int × Int × Int))) (h : m_slices_Clone_L_api_TypeNode_api_TypeNode a0 = some r) : Pure Tryd.prog 66 [(.row 3 c_api_TypeNode a0)] (.row 3 c_api_TypeNode r) := Pure.ofOwn len_c_api_TypeNode (m_slices_Clone_L_api_TypeNode_api_TypeNode_ok a0 r h)
set_option maxHeartbeats 4000000 in
theorem m_slices_Index_L_int_int_ok (a0 : List Int) (a1 : Int) (r : Int) (h : m_slices_Index_L_int_int a0 a1 = some r) : Pure Tryd.prog 67 [(.row 1 c_int a0), (.exact (.int .i64 a1))] (.exact (.int .i64 r)) := by
  unfold m_slices_Index_L_int_int at h
  refine Pure.ofFun (fun_of_awp Tryd.func67 rfl Tryd.ntmps67 (by simp) rfl (res1 rfl) fun E hE => k_end ?_)
  refine k_seq ?_
  refine k_reg .free hmixP (by kernel_rfl) ?_
  refine G_q rfl (op_assign (av := .exact (.int .i64 0)) rfl ?_)
  refine G_nil ?_
  refine kC_normal ?_
  refine k_join0_0 h (AF0) ([]) (fun k1 h => ?_) (fun  h => ?_)
  · refine k_seq ?_
    refine k_reg .free hmixP (by kernel_rfl) ?_
    refine G_q rfl (op_move (av := .row 1 c_int a0) rfl ?_)
    refine G_q rfl (op_len_row (by kernel_rfl) rfl ?_)
    refine G_q rfl (op_move (av := .exact (.int .i64 0)) rfl ?_)
    refine G_nil ?_
    refine kC_normal ?_
    refine k_block ?_
    refine k_loop1_0 (m_slices_Index_L_int_int_L2 a0 a1 k1) (m_slices_Index_L_int_int_B2 a0 a1 k1) (fun _ => rfl) (fun m _ => rfl) h (fun (x8_l2 : Int) => (AF.put (AF.put (AF.put (AF.put AF0 (some 0) (.row 1 c_int a0)) (some 1) (.exact (.int .i64 a1))) (some 7) (.exact (.int .i64 (List.length a0 : Int)))) (some 8) (.exact (.int .i64 x8_l2)))) (fun (x8_l2 : Int) => []) ?_ (fun rec2 x8_l2 h => ?_)
    · exact Sub.of_le (AF.le_put (AV.le_eq rfl) (AF.le_put (AV.le_eq rfl) (AF.le_put (AV.le_eq rfl) (AF.le_put (AV.le_eq rfl) (AF.le_top _)))))
    · unfold m_slices_Index_L_int_int_B2 at h
      refine k_seq ?_
      refine k_reg .free hmixP (by kernel_rfl) ?_
      refine G_q rfl (op_lss rfl rfl ?_)
      refine G_nil ?_
      refine kC_normal ?_
      refine k_seq ?_
      refine k_cond_d (p := x8_l2 < (List.length a0 : Int)) rfl (fun hc => ?_) (fun hc => ?_)
      · replace h := ite_t h hc
        refine k_skip ?_
        refine kC_normal ?_
        refine k_seq ?_
        refine k_block ?_
        refine k_seq ?_
        refine k_reg .free hmixP (by kernel_rfl) ?_
        refine G_q rfl (op_move (av := .exact (.int .i64 x8_l2)) rfl ?_)
        refine G_q rfl (op_assign (av := .exact (.int .i64 x8_l2)) rfl ?_)
        refine G_nil ?_
        refine kC_normal ?_
        refine k_seq ?_
        refine k_reg .free hmixP (by kernel_rfl) ?_
        refine G_q rfl (op_move (av := .exact (.int .i64 a1)) rfl ?_)
        refine G_q rfl (op_move (av := .row 1 c_int a0) rfl ?_)
        refine G_q rfl (op_move (av := .exact (.int .i64 x8_l2)) rfl ?_)
        obtain ⟨n8, h⟩ := need_some h
        refine G_q rfl (op_index_row (by kernel_rfl) rfl rfl n8.1 n8.2 ?_)
        refine G_q rfl (op_load1p (a := .exact (.int .i64 (gi a0 x8_l2))) (by kernel_rfl) rfl rfl ?_)
        refine G_q rfl (op_eql rfl rfl ?_)
        refine G_nil ?_
        refine kC_normal ?_
        refine k_cond_d (p := a1 = (gi a0 x8_l2)) rfl (fun hc => ?_) (fun hc => ?_)
        · replace h := ite_t h hc
          refine k_seq ?_
          refine k_reg .free hmixP (by kernel_rfl) ?_
          refine G_q rfl (op_move (av := .exact (.int .i64 x8_l2)) rfl ?_)
          refine G_q rfl (op_assign (av := .exact (.int .i64 x8_l2)) rfl ?_)
          refine G_nil ?_
          refine kC_normal ?_
          refine k_ret ?_
          refine kB_ret ?_
          refine kC_ret ?_
          refine kI_ret ?_
          refine kB_ret ?_
          refine kI_ret ?_
          obtain rfl := Option.some.inj h
          refine kP_any (endN (af' := (AF.put AF0 (some 4) (.exact (.int .i64 x8_l2)))) (σ' := []) _ rfl ?_ ⟨rfl, rfl⟩)
          exact Sub.of_le (AF.le_put (AV.le_eq rfl) (AF.le_top _))
        · replace h := ite_f h hc
          refine k_skip ?_
          refine kB_normal ?_
          refine kC_normal ?_
          refine k_reg .free hmixP (by kernel_rfl) ?_
          refine G_q rfl (op_add rfl rfl rfl ?_)
          refine G_q rfl (op_move (av := .exact (.int .i64 (i64 (x8_l2 + 1)))) rfl ?_)
          refine G_nil ?_
          refine kI_normal ⟨_, h, ?_⟩
          exact Sub.of_le (AF.le_put (AV.le_eq rfl) (AF.le_put (AV.le_eq rfl) (AF.le_put (AV.le_eq rfl) (AF.le_put (AV.le_eq rfl) (AF.le_top _)))))
      · replace h := ite_f h hc
        refine k_exit ?_
        refine kC_exit ?_
        refine kI_exit ?_
        refine kB_exit ?_
        refine kI_normal ⟨h, ?_⟩
        exact Sub.of_le (AF.le_top _)
  · refine k_seq ?_
    refine k_reg .free hmixP (by kernel_rfl) ?_
    refine G_q rfl (op_assign (av := .exact (.int .i64 (-1))) rfl ?_)
    refine G_nil ?_
    refine kC_normal ?_
    refine k_ret ?_
    obtain rfl := Option.some.inj h
    refine kP_any (endN (af' := (AF.put AF0 (some 4) (.exact (.int .i64 (-1))))) (σ' := []) _ rfl ?_ ⟨rfl, rfl⟩)
    exact Sub.of_le (AF.le_put (AV.le_eq rfl) (AF.le_top _))
set_option maxHeartbeats 4000000 in
theorem m_types_Canon_ok (a0 : List (Int × Int × Int)) (r : (List (Int × Int × Int))) (h : m_types_Canon a0 = some r) : Pure Tryd.prog 34 [(.row 3 c_api_TypeNode a0)] (.row 3 c_api_TypeNode r) := by
  unfold m_types_Canon at h
  refine Pure.ofFun (fun_of_awp Tryd.func34 rfl Tryd.ntmps34 (by simp) rfl (res1 rfl) fun E hE => k_end ?_)
  refine k_seq ?_
  refine k_reg .free hmixP (by kernel_rfl) ?_
  refine G_q rfl (op_assign (av := .exact (.slice none 0 0)) rfl ?_)
  refine G_nil ?_
  refine kC_normal ?_
  refine k_seq ?_
  refine k_seq ?_
  refine k_reg .free hmixP (by kernel_rfl) ?_
  refine G_q rfl (op_move (av := .row 3 c_api_TypeNode a0) rfl ?_)
  obtain ⟨y1, hy1, h⟩ := bnd1_some h
  refine G_q rfl (op_pure (m_types_Valid_ok _ _ hy1) Tryd.func29 (by kernel_rfl) (LEs.cons (AV.le_eq rfl) LEs.nil) ?_)
  refine G_q rfl (op_not rfl ?_)
  refine G_nil ?_
  refine kC_normal ?_
  refine k_cond_b (c := !y1) rfl (fun hc => ?_) (fun hc => ?_)
  · replace h := ite_t h hc
    refine k_seq ?_
    refine k_reg .free hmixP (by kernel_rfl) ?_
    refine G_q rfl (op_assign (av := .exact (.slice none 0 0)) rfl ?_)
    refine G_nil ?_
    refine kC_normal ?_
    refine k_ret ?_
    refine kC_ret ?_
    obtain rfl := Option.some.inj h
    refine kP_any (endN (af' := (AF.put AF0 (some 2) (.row 3 c_api_TypeNode []))) (σ' := []) _ rfl ?_ ⟨rfl, rfl⟩)
    exact Sub.of_le (AF.le_put (row_nil (by decide)) (AF.le_top _))
  · replace h := ite_f h hc
    refine k_skip ?_
    refine kC_normal ?_
    refine k_seq ?_
    refine k_reg .free hmixP (by kernel_rfl) ?_
    refine G_q rfl (op_move (av := .row 3 c_api_TypeNode a0) rfl ?_)
    obtain ⟨y2, hy2, h⟩ := bnd1_some h
    refine G_q rfl (op_pure (m_types_Vars_ok _ _ hy2) Tryd.func33 (by kernel_rfl) (LEs.cons (AV.le_eq rfl) LEs.nil) ?_)
    refine G_q rfl (op_assign (av := .row 1 c_int y2) rfl ?_)
    refine G_nil ?_
    refine kC_normal ?_
    refine k_seq ?_
    refine k_reg .free hmixP (by kernel_rfl) ?_
    refine G_q rfl (op_move (av := .row 3 c_api_TypeNode a0) rfl ?_)
    obtain ⟨y3, hy3, h⟩ := bnd1_some h
    refine G_l rfl (op_fun_0_1_1 (m_slices_Clone_L_api_TypeNode_api_TypeNode_ok _ _ hy3) Tryd.func66 (by kernel_rfl) (LEs.cons (AV.le_eq rfl) LEs.nil) (fun v4 => ?_))
    refine G_q rfl (op_assign (av := .exact v4) rfl ?_)
    refine G_nil ?_
    refine kC_normal ?_
    refine k_join1_0 h (fun (x4_j5 : List (Int × Int × Int)) => (AF.put AF0 (some 4) (.exact v4))) (fun (x4_j5 : List (Int × Int × Int)) => [vecT Tryd.prog 22 3 c_api_TypeNode v4 x4_j5]) (fun k5 h => ?_) (fun x4_j5 h => ?_)
    · refine k_seq ?_
      refine k_reg .free hmixP (by kernel_rfl) ?_
      refine G_q rfl (op_move (av := .exact v4) rfl ?_)
      refine G_r rfl (op_len_vec (by kernel_rfl) rfl ?_)
      refine G_q rfl (op_move (av := .exact (.int .i64 0)) rfl ?_)
      refine G_nil ?_
      refine kC_normal ?_
      refine k_block ?_
      refine k_loop2_0 (m_types_Canon_L2 y2 y3 k5) (m_types_Canon_B2 y2 y3 k5) (fun _ _ => rfl) (fun m _ _ => rfl) h (fun (x4_l2 : List (Int × Int × Int)) (x16_l2 : Int) => (AF.put (AF.put (AF.put (AF.put (AF.put AF0 (some 3) (.row 1 c_int y2)) (some 4) (.exact v4)) (some 14) (.exact v4)) (some 15) (.exact (.int .i64 (List.length y3 : Int)))) (some 16) (.exact (.int .i64 x16_l2)))) (fun (x4_l2 : List (Int × Int × Int)) (x16_l2 : Int) => [vecT Tryd.prog 22 3 c_api_TypeNode v4 x4_l2]) ?_ (fun rec2 x4_l2 x16_l2 h => ?_)
      · exact Sub.of_le (AF.le_put (AV.le_eq rfl) (AF.le_put (AV.le_eq rfl) (AF.le_put (AV.le_eq rfl) (AF.le_put (AV.le_eq rfl) (AF.le_put (AV.le_eq rfl) (AF.le_top _))))))
      · unfold m_types_Canon_B2 at h
        refine k_seq ?_
        refine k_reg .free hmixP (by kernel_rfl) ?_
        refine G_q rfl (op_lss rfl rfl ?_)
        refine G_nil ?_
        refine kC_normal ?_
        refine k_seq ?_
        refine k_cond_d (p := x16_l2 < (List.length y3 : Int)) rfl (fun hc => ?_) (fun hc => ?_)
        · replace h := ite_t h hc
          refine k_skip ?_
          refine kC_normal ?_
          refine k_join1_0 h (fun (x4_j52 : List (Int × Int × Int)) => (AF.put (AF.put (AF.put (AF.put (AF.put AF0 (some 3) (.row 1 c_int y2)) (some 4) (.exact v4)) (some 14) (.exact v4)) (some 15) (.exact (.int .i64 (List.length y3 : Int)))) (some 16) (.exact (.int .i64 x16_l2)))) (fun (x4_j52 : List (Int × Int × Int)) => [vecT Tryd.prog 22 3 c_api_TypeNode v4 x4_j52]) (fun k52 h => ?_) (fun x4_j52 h => ?_)
          · refine k_block ?_
            refine k_seq ?_
            refine k_reg .free hmixP (by kernel_rfl) ?_
            refine G_q rfl (op_move (av := .exact (.int .i64 x16_l2)) rfl ?_)
            obtain ⟨n57, h⟩ := need_some h
            refine G_r rfl (op_index_vec (by kernel_rfl) rfl rfl n57.1 n57.2 ?_)
            refine G_r rfl (op_load_vecN (i := x16_l2) (o := 0) (m := 3) (c' := c_api_TypeNode (gi x4_l2 x16_l2)) (by kernel_rfl) len_c_api_TypeNode rfl n57.1 n57.2 rfl rfl ?_)
            refine G_l rfl (op_alloc (c := [.exact (.int .i64 ((0, 0, 0).1)), .exact (.int .i64 ((0, 0, 0).2.1)), .exact (.int .i64 ((0, 0, 0).2.2))]) rfl (LEs.cons (AV.le_eq rfl) (LEs.cons (AV.le_eq rfl) (LEs.cons (AV.le_eq rfl) LEs.nil))) (fun b58 => ?_))
            refine G_q rfl (op_assign (av := .exact (.int .i64 x16_l2)) rfl ?_)
            refine G_l rfl (op_store_box (c' := [.exact (.int .i64 ((gi x4_l2 x16_l2).1)), .exact (.int .i64 ((gi x4_l2 x16_l2).2.1)), .exact (.int .i64 ((gi x4_l2 x16_l2).2.2))]) (c3 := [.exact (.int .i64 ((gi x4_l2 x16_l2).1)), .exact (.int .i64 ((gi x4_l2 x16_l2).2.1)), .exact (.int .i64 ((gi x4_l2 x16_l2).2.2))]) rfl rfl CellsOf.agg (LEs.cons (AV.le_eq rfl) (LEs.cons (AV.le_eq rfl) (LEs.cons (AV.le_eq rfl) LEs.nil))) (oc_c_api_TypeNode _) (by kernel_rfl) (Nat.le_of_ble_eq_true rfl) rfl ?_)
            refine G_nil ?_
            refine kC_normal ?_
            refine k_seq ?_
            refine k_reg .free hmixP (by kernel_rfl) ?_
            refine G_q rfl (op_fieldAddr (o := 0) (by kernel_rfl) rfl ?_)
            refine G_r rfl (op_load_box1 (a := .exact (.int .i64 ((gi x4_l2 x16_l2).1))) (by kernel_rfl) rfl rfl ?_)
            refine G_q rfl (op_eql rfl rfl ?_)
            refine G_nil ?_
            refine kC_normal ?_
            refine k_cond_d (p := ((gi x4_l2 x16_l2).1) = 1) rfl (fun hc => ?_) (fun hc => ?_)
            · replace h := ite_t h hc
              refine k_reg .free hmixP (by kernel_rfl) ?_
              refine G_q rfl (op_move (av := .exact v4) rfl ?_)
              refine G_q rfl (op_move (av := .exact (.int .i64 x16_l2)) rfl ?_)
              refine G_q rfl (op_move (av := .row 1 c_int y2) rfl ?_)
              refine G_q rfl (op_fieldAddr (o := 1) (by kernel_rfl) rfl ?_)
              refine G_r rfl (op_load_box1 (a := .exact (.int .i64 ((gi x4_l2 x16_l2).2.1))) (by kernel_rfl) rfl rfl ?_)
              obtain ⟨y59, hy59, h⟩ := bnd1_some h
              refine G_q rfl (op_pure (m_slices_Index_L_int_int_ok _ _ _ hy59) Tryd.func67 (by kernel_rfl) (LEs.cons (AV.le_eq rfl) (LEs.cons (AV.le_eq rfl) LEs.nil)) ?_)
              obtain ⟨n60, h⟩ := need_some h
              refine G_r rfl (opR_f1 (op_index_vec (by kernel_rfl) rfl rfl n60.1 n60.2 ?_))
              refine G_q rfl (op_field_eptr (o := 1) (by kernel_rfl) rfl ?_)
              refine G_l rfl (opB_f1 (op_store_vec (i := x16_l2) (o := 1) (z := ((gi x4_l2 x16_l2).1, y59, (gi x4_l2 x16_l2).2.2)) (c' := [.exact (.int .i64 y59)]) (by kernel_rfl) len_c_api_TypeNode rfl n60.1 n60.2 rfl CellsOf.int (LEs.cons (AV.le_eq rfl) LEs.nil) (OneC.int OneC.nil) (by kernel_rfl) (Nat.le_of_ble_eq_true rfl) rfl ?_))
              refine G_nil ?_
              refine kB_normal ?_
              refine kI_normal ⟨_, h, ?_⟩
              refine Sub.trans (SubU.to SubU.f1) ?_
              refine Sub.trans (SubU.to SubU.drop) ?_
              exact Sub.of_le (AF.le_put (AV.le_eq rfl) (AF.le_put (AV.le_eq rfl) (AF.le_put (AV.le_eq rfl) (AF.le_put (AV.le_eq rfl) (AF.le_put (AV.le_eq rfl) (AF.le_top _))))))
            · replace h := ite_f h hc
              refine k_skip ?_
              refine kB_normal ?_
              refine kI_normal ⟨_, h, ?_⟩
              refine Sub.trans (SubU.to SubU.drop) ?_
              exact Sub.of_le (AF.le_put (AV.le_eq rfl) (AF.le_put (AV.le_eq rfl) (AF.le_put (AV.le_eq rfl) (AF.le_put (AV.le_eq rfl) (AF.le_put (AV.le_eq rfl) (AF.le_top _))))))
          · refine k_reg .free hmixP (by kernel_rfl) ?_
            refine G_q rfl (op_add rfl rfl rfl ?_)
            refine G_q rfl (op_move (av := .exact (.int .i64 (i64 (x16_l2 + 1)))) rfl ?_)
            refine G_nil ?_
            refine kI_normal ⟨_, _, h, ?_⟩
            exact Sub.of_le (AF.le_put (AV.le_eq rfl) (AF.le_put (AV.le_eq rfl) (AF.le_put (AV.le_eq rfl) (AF.le_put (AV.le_eq rfl) (AF.le_put (AV.le_eq rfl) (AF.le_top _))))))
        · replace h := ite_f h hc
          refine k_exit ?_
          refine kC_exit ?_
          refine kI_exit ?_
          refine kB_exit ?_
          refine kI_normal ⟨_, h, ?_⟩
          exact Sub.of_le (AF.le_put (AV.le_eq rfl) (AF.le_top _))
    · refine k_seq ?_
      refine k_reg .free hmixP (by kernel_rfl) ?_
      refine G_q rfl (op_move (av := .exact v4) rfl ?_)
      refine G_q rfl (op_assign (av := .exact v4) rfl ?_)
      refine G_nil ?_
      refine kC_normal ?_
      refine k_ret ?_
      obtain rfl := Option.some.inj h
      refine kP_any (endN (af' := (AF.put AF0 (some 2) (.row 3 c_api_TypeNode x4_j5))) (σ' := []) _ rfl ?_ ⟨rfl, rfl⟩)
      refine Sub.trans (SubU.to (SubU.freezeT (s := 2) rfl len_c_api_TypeNode)) ?_
      exact Sub.of_le (AF.le_put (AV.le_eq rfl) (AF.le_top _))
set_option maxHeartbeats 4000000 in
theorem m_slices_Equal_L_api_TypeNode_api_TypeNode_ok (a0 : List (Int × Int × Int)) (a1 : List (Int × Int × Int)) (r : Bool) (h : m_slices_Equal_L_api_TypeNode_api_TypeNode a0 a1 = some r) : Pure Tryd.prog 65 [(.row 3 c_api_TypeNode a0), (.row 3 c_api_TypeNode a1)] (.exact (.bool r)) := by
  unfold m_slices_Equal_L_api_TypeNode_api_TypeNode at h
  refine Pure.ofFun (fun_of_awp Tryd.func65 rfl Tryd.ntmps65 (by simp) rfl (res1 rfl) fun E hE => k_end ?_)
  refine k_seq ?_
  refine k_reg .free hmixP (by kernel_rfl) ?_
  refine G_q rfl (op_assign (av := .exact (.bool false)) rfl ?_)
  refine G_nil ?_
  refine kC_normal ?_
  refine k_seq ?_
  refine k_seq ?_
  refine k_reg .free hmixP (by kernel_rfl) ?_
  refine G_q rfl (op_move (av := .row 3 c_api_TypeNode a0) rfl ?_)
  refine G_q rfl (op_len_row (by kernel_rfl) rfl ?_)
  refine G_q rfl (op_move (av := .row 3 c_api_TypeNode a1) rfl ?_)
  refine G_q rfl (op_len_row (by kernel_rfl) rfl ?_)
  refine G_q rfl (op_neq rfl rfl ?_)
  refine G_nil ?_
  refine kC_normal ?_
  refine k_cond_d (p := ¬ (List.length a0 : Int) = (List.length a1 : Int)) rfl (fun hc => ?_) (fun hc => ?_)
  · replace h := ite_t h hc
    refine k_seq ?_
    refine k_reg .free hmixP (by kernel_rfl) ?_
    refine G_q rfl (op_assign (av := .exact (.bool false)) rfl ?_)
    refine G_nil ?_
    refine kC_normal ?_
    refine k_ret ?_
    refine kC_ret ?_
    obtain rfl := Option.some.inj h
    refine kP_any (endN (af' := (AF.put AF0 (some 4) (.exact (.bool false)))) (σ' := []) _ rfl ?_ ⟨rfl, rfl⟩)
    exact Sub.of_le (AF.le_put (AV.le_eq rfl) (AF.le_top _))
  · replace h := ite_f h hc
    refine k_skip ?_
    refine kC_normal ?_
    refine k_join0_0 h (AF0) ([]) (fun k1 h => ?_) (fun  h => ?_)
    · refine k_seq ?_
      refine k_reg .free hmixP (by kernel_rfl) ?_
      refine G_q rfl (op_move (av := .row 3 c_api_TypeNode a0) rfl ?_)
      refine G_q rfl (op_len_row (by kernel_rfl) rfl ?_)
      refine G_q rfl (op_move (av := .exact (.int .i64 0)) rfl ?_)
      refine G_nil ?_
      refine kC_normal ?_
      refine k_block ?_
      refine k_loop1_0 (m_slices_Equal_L_api_TypeNode_api_TypeNode_L2 a0 a1 k1) (m_slices_Equal_L_api_TypeNode_api_TypeNode_B2 a0 a1 k1) (fun _ => rfl) (fun m _ => rfl) h (fun (x13_l2 : Int) => (AF.put (AF.put (AF.put (AF.put AF0 (some 0) (.row 3 c_api_TypeNode a0)) (some 1) (.row 3 c_api_TypeNode a1)) (some 12) (.exact (.int .i64 (List.length a0 : Int)))) (some 13) (.exact (.int .i64 x13_l2)))) (fun (x13_l2 : Int) => []) ?_ (fun rec2 x13_l2 h => ?_)
      · exact Sub.of_le (AF.le_put (AV.le_eq rfl) (AF.le_put (AV.le_eq rfl) (AF.le_put (AV.le_eq rfl) (AF.le_put (AV.le_eq rfl) (AF.le_top _)))))
      · unfold m_slices_Equal_L_api_TypeNode_api_TypeNode_B2 at h
        refine k_seq ?_
        refine k_reg .free hmixP (by kernel_rfl) ?_
        refine G_q rfl (op_lss rfl rfl ?_)
        refine G_nil ?_
        refine kC_normal ?_
        refine k_seq ?_
        refine k_cond_d (p := x13_l2 < (List.length a0 : Int)) rfl (fun hc => ?_) (fun hc => ?_)
        · replace h := ite_t h hc
          refine k_skip ?_
          refine kC_normal ?_
          refine k_seq ?_
          refine k_block ?_
          refine k_seq ?_
          refine k_reg .free hmixP (by kernel_rfl) ?_
          refine G_q rfl (op_move (av := .exact (.int .i64 x13_l2)) rfl ?_)
          refine G_q rfl (op_assign (av := .exact (.int .i64 x13_l2)) rfl ?_)
          refine G_nil ?_
          refine kC_normal ?_
          refine k_seq ?_
          refine k_plan [] [(0, 0), (0, 1), (0, 2), (0, 3), (0, 4), (0, 5), (0, 6), (0, 7), (0, 8)] hmixP (by kernel_rfl) ?_
          refine P_q no34_0 rfl (op_move (av := .row 3 c_api_TypeNode a0) rfl ?_)
          refine P_q no34_0 rfl (op_move (av := .exact (.int .i64 x13_l2)) rfl ?_)
          obtain ⟨n13, h⟩ := need_some h
          refine P_q no34_0 rfl (op_index_row (by kernel_rfl) rfl rfl n13.1 n13.2 ?_)
          refine P_q no34_0 rfl (op_loadNp (m := 3) (c' := c_api_TypeNode (gi a0 x13_l2)) (by kernel_rfl) rfl rfl rfl ?_)
          refine P_q no34_0 rfl (op_move (av := .row 3 c_api_TypeNode a1) rfl ?_)
          refine P_q no34_0 rfl (op_move (av := .exact (.int .i64 x13_l2)) rfl ?_)
          obtain ⟨n14, h⟩ := need_some h
          refine P_q no34_0 rfl (op_index_row (by kernel_rfl) rfl rfl n14.1 n14.2 ?_)
          refine P_q no34_0 rfl (op_loadNp (m := 3) (c' := c_api_TypeNode (gi a1 x13_l2)) (by kernel_rfl) rfl rfl rfl ?_)
          refine P_q no34_0 rfl (op_neqA (a := (gi a0 x13_l2)) (b := (gi a1 x13_l2)) (by kernel_rfl) (eq_c_api_TypeNode _ _) rfl rfl ?_)
          refine P_nil ?_
          refine kC_normal ?_
          refine k_cond_d (p := ¬ (gi a0 x13_l2) = (gi a1 x13_l2)) rfl (fun hc => ?_) (fun hc => ?_)
          · replace h := ite_t h hc
            refine k_seq ?_
            refine k_reg .free hmixP (by kernel_rfl) ?_
            refine G_q rfl (op_assign (av := .exact (.bool false)) rfl ?_)
            refine G_nil ?_
            refine kC_normal ?_
            refine k_ret ?_
            refine kB_ret ?_
            refine kC_ret ?_
            refine kI_ret ?_
            refine kB_ret ?_
            refine kI_ret ?_
            obtain rfl := Option.some.inj h
            refine kP_any (endN (af' := (AF.put AF0 (some 4) (.exact (.bool false)))) (σ' := []) _ rfl ?_ ⟨rfl, rfl⟩)
            exact Sub.of_le (AF.le_put (AV.le_eq rfl) (AF.le_top _))
          · replace h := ite_f h hc
            refine k_skip ?_
            refine kB_normal ?_
            refine kC_normal ?_
            refine k_reg .free hmixP (by kernel_rfl) ?_
            refine G_q rfl (op_add rfl rfl rfl ?_)
            refine G_q rfl (op_move (av := .exact (.int .i64 (i64 (x13_l2 + 1)))) rfl ?_)
            refine G_nil ?_
            refine kI_normal ⟨_, h, ?_⟩
            exact Sub.of_le (AF.le_put (AV.le_eq rfl) (AF.le_put (AV.le_eq rfl) (AF.le_put (AV.le_eq rfl) (AF.le_put (AV.le_eq rfl) (AF.le_top _)))))
        · replace h := ite_f h hc
          refine k_exit ?_
          refine kC_exit ?_
          refine kI_exit ?_
          refine kB_exit ?_
          refine kI_normal ⟨h, ?_⟩
          exact Sub.of_le (AF.le_top _)
    · refine k_seq ?_
      refine k_reg .free hmixP (by kernel_rfl) ?_
      refine G_q rfl (op_assign (av := .exact (.bool true)) rfl ?_)
      refine G_nil ?_
      refine kC_normal ?_
      refine k_ret ?_
      obtain rfl := Option.some.inj h
      refine kP_any (endN (af' := (AF.put AF0 (some 4) (.exact (.bool true)))) (σ' := []) _ rfl ?_ ⟨rfl, rfl⟩)
      exact Sub.of_le (AF.le_put (AV.le_eq rfl) (AF.le_top _))
set_option maxHeartbeats 4000000 in
theorem m_types_matcher_match_F_ok {w0 : Nat} (self_types_matcher_match : (List (Int × (List (Int × Int × Int)))) → (List (Int × Int × Int)) → (List (Int × Int × Int)) → Option ((List (Int × Int × Int)) × (List (Int × Int × Int)) × Bool × (List (Int × (List (Int × Int × Int)))))) (hself_types_matcher_match : ∀ ⦃w0 : Nat⦄ (a0 : List (Int × (List (Int × Int × Int)))) (a1 : List (Int × Int × Int)) (a2 : List (Int × Int × Int)) (r : (List (Int × Int × Int)) × (List (Int × Int × Int)) × Bool × (List (Int × (List (Int × Int × Int))))), self_types_matcher_match a0 a1 a2 = some r → Fun Tryd.prog 70 [(.exact (.map (some w0))), (.row 3 c_api_TypeNode a1), (.row 3 c_api_TypeNode a2)] [mapI (fun _ => True) (fun k : Int => .int .i64 k) (fun x : List (Int × Int × Int) => .row 3 c_api_TypeNode x) w0 a0] (fun a s => a = .tup [.row 3 c_api_TypeNode r.1, .row 3 c_api_TypeNode r.2.1, .exact (.bool r.2.2.1)] ∧ s = [mapI (fun _ => True) (fun k : Int => .int .i64 k) (fun x : List (Int × Int × Int) => .row 3 c_api_TypeNode x) w0 r.2.2.2])) (a0 : List (Int × (List (Int × Int × Int)))) (a1 : List (Int × Int × Int)) (a2 : List (Int × Int × Int)) (r : (List (Int × Int × Int)) × (List (Int × Int × Int)) × Bool × (List (Int × (List (Int × Int × Int))))) (h : m_types_matcher_match_F self_types_matcher_match a0 a1 a2 = some r) : Fun Tryd.prog 70 [(.exact (.map (some w0))), (.row 3 c_api_TypeNode a1), (.row 3 c_api_TypeNode a2)] [mapI (fun _ => True) (fun k : Int => .int .i64 k) (fun x : List (Int × Int × Int) => .row 3 c_api_TypeNode x) w0 a0] (fun a s => a = .tup [.row 3 c_api_TypeNode r.1, .row 3 c_api_TypeNode r.2.1, .exact (.bool r.2.2.1)] ∧ s = [mapI (fun _ => True) (fun k : Int => .int .i64 k) (fun x : List (Int × Int × Int) => .row 3 c_api_TypeNode x) w0 r.2.2.2]) := by
  unfold m_types_matcher_match_F at h
  refine fun_of_awp Tryd.func70 rfl Tryd.ntmps70 (by simp) rfl (res3 rfl) fun E hE => k_end ?_
  refine k_seq ?_
  refine k_reg .free hmixP (by kernel_rfl) ?_
  refine G_q rfl (op_assign (av := .exact (.slice none 0 0)) rfl ?_)
  refine G_q rfl (op_assign (av := .exact (.slice none 0 0)) rfl ?_)
  refine G_q rfl (op_assign (av := .exact (.bool false)) rfl ?_)
  refine G_nil ?_
  refine kC_normal ?_
  refine k_seq ?_
  refine k_reg .free hmixP (by kernel_rfl) ?_
  refine G_q rfl (op_move (av := .row 3 c_api_TypeNode a1) rfl ?_)
  obtain ⟨n1, h⟩ := need_some h
  refine G_q rfl (op_index_row (by kernel_rfl) rfl rfl n1.1 n1.2 ?_)
  refine G_q rfl (op_loadNp (m := 3) (c' := c_api_TypeNode (gi a1 0)) (by kernel_rfl) rfl rfl rfl ?_)
  refine G_l rfl (op_alloc (c := [.exact (.int .i64 ((0, 0, 0).1)), .exact (.int .i64 ((0, 0, 0).2.1)), .exact (.int .i64 ((0, 0, 0).2.2))]) rfl (LEs.cons (AV.le_eq rfl) (LEs.cons (AV.le_eq rfl) (LEs.cons (AV.le_eq rfl) LEs.nil))) (fun b2 => ?_))
  refine G_l rfl (op_store_box (c' := [.exact (.int .i64 ((gi a1 0).1)), .exact (.int .i64 ((gi a1 0).2.1)), .exact (.int .i64 ((gi a1 0).2.2))]) (c3 := [.exact (.int .i64 ((gi a1 0).1)), .exact (.int .i64 ((gi a1 0).2.1)), .exact (.int .i64 ((gi a1 0).2.2))]) rfl rfl CellsOf.agg (LEs.cons (AV.le_eq rfl) (LEs.cons (AV.le_eq rfl) (LEs.cons (AV.le_eq rfl) LEs.nil))) (oc_c_api_TypeNode _) (by kernel_rfl) (Nat.le_of_ble_eq_true rfl) rfl ?_)
  refine G_nil ?_
  refine kC_normal ?_
  refine k_seq ?_
  refine k_seq ?_
  refine k_reg .free hmixP (by kernel_rfl) ?_
  refine G_q rfl (op_fieldAddr (o := 0) (by kernel_rfl) rfl ?_)
  refine G_r rfl (op_load_box1 (a := .exact (.int .i64 ((gi a1 0).1))) (by kernel_rfl) rfl rfl ?_)
  refine G_q rfl (op_eql rfl rfl ?_)
  refine G_nil ?_
  refine kC_normal ?_
  refine k_cond_d (p := ((gi a1 0).1) = 1) rfl (fun hc => ?_) (fun hc => ?_)
  · replace h := ite_t h hc
    refine k_seq ?_
    refine k_reg .free hmixP (by kernel_rfl) ?_
    refine G_q rfl (op_move (av := .row 3 c_api_TypeNode a2) rfl ?_)
    obtain ⟨y3, hy3, h⟩ := bnd1_some h
    refine G_q rfl (op_pure (m_types_after_ok _ _ _ _ hy3) Tryd.func63 (by kernel_rfl) (LEs.cons (AV.le_eq rfl) (LEs.cons (AV.le_eq rfl) (LEs.cons (AV.le_eq rfl) LEs.nil))) ?_)
    refine G_q rfl (op_assign (av := .exact (.int .i64 y3)) rfl ?_)
    refine G_nil ?_
    refine kC_normal ?_
    refine k_seq ?_
    refine k_seq ?_
    refine k_reg .free hmixP (by kernel_rfl) ?_
    refine G_q rfl (op_move (av := .exact (.map (some w0))) rfl ?_)
    refine G_q rfl (op_fieldAddr (o := 1) (by kernel_rfl) rfl ?_)
    refine G_r rfl (op_load_box1 (a := .exact (.int .i64 ((gi a1 0).2.1))) (by kernel_rfl) rfl rfl ?_)
    refine G_r rfl (op_mlook2 (z := ([] : List (Int × Int × Int))) (List.Mem.tail _ (List.Mem.head _)) (keyOk_int Tryd.underlying3) (fun _ _ _ => trivial) Tryd.underlying102 (fun _ w => ⟨_, Tryd.zeroValue22 w, zp_row⟩) rfl (keyAV_int rfl) ?_)
    refine G_q rfl (op_move (av := .tup [.row 3 c_api_TypeNode (Option.getD (lookL a0 ((gi a1 0).2.1)) []), .exact (.bool (Option.isSome (lookL a0 ((gi a1 0).2.1))))]) rfl ?_)
    refine G_q rfl (op_extract (av := .row 3 c_api_TypeNode (Option.getD (lookL a0 ((gi a1 0).2.1)) [])) rfl rfl ?_)
    refine G_q rfl (op_extract (av := .exact (.bool (Option.isSome (lookL a0 ((gi a1 0).2.1))))) rfl rfl ?_)
    refine G_q rfl (op_assign (av := .row 3 c_api_TypeNode (Option.getD (lookL a0 ((gi a1 0).2.1)) [])) rfl ?_)
    refine G_q rfl (op_assign (av := .exact (.bool (Option.isSome (lookL a0 ((gi a1 0).2.1))))) rfl ?_)
    refine G_nil ?_
    refine kC_normal ?_
    refine k_join1_0 h (fun (x37_j10 : Bool) => (AF.put (AF.put (AF.put (AF.put (AF.put (AF.put AF0 (some 0) (.exact (.map (some w0)))) (some 1) (.row 3 c_api_TypeNode a1)) (some 2) (.row 3 c_api_TypeNode a2)) (some 9) (pA b2 0)) (some 10) (.exact (.int .i64 y3))) (some 37) (.exact (.bool x37_j10)))) (fun (x37_j10 : Bool) => [mapI (fun _ => True) (fun k : Int => .int .i64 k) (fun x : List (Int × Int × Int) => .row 3 c_api_TypeNode x) w0 a0, boxI 41 b2 [.exact (.int .i64 ((gi a1 0).1)), .exact (.int .i64 ((gi a1 0).2.1)), .exact (.int .i64 ((gi a1 0).2.2))]]) (fun k10 h => ?_) (fun x37_j10 h => ?_)
    · refine k_reg .free hmixP (by kernel_rfl) ?_
      refine G_q rfl (op_move (av := .exact (.bool (Option.isSome (lookL a0 ((gi a1 0).2.1))))) rfl ?_)
      refine G_q rfl (op_move (av := .exact (.bool (Option.isSome (lookL a0 ((gi a1 0).2.1))))) rfl ?_)
      refine G_splitB (c := (Option.isSome (lookL a0 ((gi a1 0).2.1)))) 30 rfl (fun hc => ?_) (fun hc => ?_)
      · replace h := ite_t h hc
        refine Gy_q rfl rfl rfl (op_move (av := .row 3 c_api_TypeNode (Option.getD (lookL a0 ((gi a1 0).2.1)) [])) rfl ?_)
        refine Gy_q rfl rfl rfl (op_move (av := .row 3 c_api_TypeNode a2) rfl ?_)
        refine Gy_q rfl rfl rfl (op_move (av := .exact (.int .i64 y3)) rfl ?_)
        obtain ⟨n13, h⟩ := need_some h
        refine Gy_q rfl rfl rfl (op_slice_rowt (by kernel_rfl) rfl bnd_none (bnd_some rfl) (Int.le_refl 0) n13.1 n13.2 ?_)
        obtain ⟨y14, hy14, h⟩ := bnd1_some h
        refine Gy_q rfl rfl rfl (op_pure (m_slices_Equal_L_api_TypeNode_api_TypeNode_ok _ _ _ hy14) Tryd.func65 (by kernel_rfl) (LEs.cons (AV.le_eq rfl) (LEs.cons (AV.le_eq rfl) LEs.nil)) ?_)
        refine Gy_q rfl rfl rfl (op_not rfl ?_)
        refine G_q rfl (op_pick_t rfl (av := .exact (.bool (!y14))) rfl ?_)
        refine G_nil ?_
        refine kI_normal ⟨_, h, ?_⟩
        refine Sub.trans (SubU.to SubU.f1) ?_
        exact Sub.of_le (AF.le_put (AV.le_eq rfl) (AF.le_put (AV.le_eq rfl) (AF.le_put (AV.le_eq rfl) (AF.le_put (AV.le_eq rfl) (AF.le_put (AV.le_eq rfl) (AF.le_put (AV.le_eq rfl) (AF.le_top _)))))))
      · replace h := ite_f h hc
        refine G_n rfl rfl ?_
        refine G_n rfl rfl ?_
        refine G_n rfl rfl ?_
        refine G_n rfl rfl ?_
        refine G_n rfl rfl ?_
        refine G_n rfl rfl ?_
        refine G_q rfl (op_pick_f rfl (av := .exact (.bool false)) rfl ?_)
        refine G_nil ?_
        refine kI_normal ⟨_, h, ?_⟩
        refine Sub.trans (SubU.to SubU.f1) ?_
        exact Sub.of_le (AF.le_put (AV.le_eq rfl) (AF.le_put (AV.le_eq rfl) (AF.le_put (AV.le_eq rfl) (AF.le_put (AV.le_eq rfl) (AF.le_put (AV.le_eq rfl) (AF.le_put (AV.le_eq rfl) (AF.le_top _)))))))
    · refine k_cond_b (c := x37_j10) rfl (fun hc => ?_) (fun hc => ?_)
      · replace h := ite_t h hc
        refine k_seq ?_
        refine k_reg .free hmixP (by kernel_rfl) ?_
        refine G_q rfl (op_assign (av := .exact (.slice none 0 0)) rfl ?_)
        refine G_q rfl (op_assign (av := .exact (.slice none 0 0)) rfl ?_)
        refine G_q rfl (op_assign (av := .exact (.bool false)) rfl ?_)
        refine G_nil ?_
        refine kC_normal ?_
        refine k_ret ?_
        refine kC_ret ?_
        refine kC_ret ?_
        obtain rfl := Option.some.inj h
        refine kP_any (endN (af' := (AF.put (AF.put (AF.put AF0 (some 6) (.row 3 c_api_TypeNode [])) (some 7) (.row 3 c_api_TypeNode [])) (some 8) (.exact (.bool false)))) (σ' := [mapI (fun _ => True) (fun k : Int => .int .i64 k) (fun x : List (Int × Int × Int) => .row 3 c_api_TypeNode x) w0 a0]) _ rfl ?_ ⟨rfl, rfl⟩)
        refine Sub.trans (SubU.to SubU.f1) ?_
        refine Sub.trans (SubU.to SubU.drop) ?_
        exact Sub.of_le (AF.le_put (AV.le_eq rfl) (AF.le_put (row_nil (by decide)) (AF.le_put (row_nil (by decide)) (AF.le_top _))))
      · replace h := ite_f h hc
        refine k_skip ?_
        refine kC_normal ?_
        refine k_seq ?_
        refine k_plan [] [(0, 0), (0, 1), (0, 3), (0, 4), (0, 5), (0, 6), (1, 2), (2, 7)] hmixP (by kernel_rfl) ?_
        refine P_q no34_0 rfl (op_move (av := .exact (.map (some w0))) rfl ?_)
        refine P_q no34_0 rfl (op_fieldAddr (o := 1) (by kernel_rfl) rfl ?_)
        refine P_q no34_0 rfl (op_move (av := .row 3 c_api_TypeNode a2) rfl ?_)
        refine P_q no34_0 rfl (op_move (av := .exact (.int .i64 y3)) rfl ?_)
        obtain ⟨n15, h⟩ := need_some h
        refine P_q no34_0 rfl (op_slice_rowt (by kernel_rfl) rfl bnd_none (bnd_some rfl) (Int.le_refl 0) n15.1 n15.2 ?_)
        obtain ⟨y16, hy16, h⟩ := bnd1_some h
        refine P_q no34_0 rfl (op_pure (m_slices_Clone_L_api_TypeNode_api_TypeNode_fz _ _ hy16) Tryd.func66 (by kernel_rfl) (LEs.cons (AV.le_eq rfl) LEs.nil) ?_)
        refine P_r rfl (opR_f1 (op_load_box1 (a := .exact (.int .i64 ((gi a1 0).2.1))) (by kernel_rfl) rfl rfl ?_))
        refine P_l rfl (op_mput (z := y16) (keyOk_int Tryd.underlying3) (fun _ _ _ => trivial) Tryd.underlying102 rfl (keyAV_int rfl) (AV.le_eq rfl) ?_)
        refine P_nil ?_
        refine kC_normal ?_
        refine k_seq ?_
        refine k_plan [] [(0, 0), (0, 1), (0, 2), (0, 3), (0, 4), (0, 5), (0, 6), (0, 7)] hmixP (by kernel_rfl) ?_
        refine P_q no34_0 rfl (op_move (av := .row 3 c_api_TypeNode a1) rfl ?_)
        obtain ⟨n17, h⟩ := need_some h
        refine P_q no34_0 rfl (op_slice_rowd (by kernel_rfl) rfl (bnd_some rfl) bnd_none (by decide) n17 (Int.le_refl _) ?_)
        refine P_q no34_0 rfl (op_move (av := .row 3 c_api_TypeNode a2) rfl ?_)
        refine P_q no34_0 rfl (op_move (av := .exact (.int .i64 y3)) rfl ?_)
        obtain ⟨n18, h⟩ := need_some h
        refine P_q no34_0 rfl (op_slice_rowd (by kernel_rfl) rfl (bnd_some rfl) bnd_none n18.1 n18.2 (Int.le_refl _) ?_)
        refine P_q no34_0 rfl (op_assign (av := .row 3 c_api_TypeNode (List.drop (Int.toNat 1) a1)) rfl ?_)
        refine P_q no34_0 rfl (op_assign (av := .row 3 c_api_TypeNode (List.drop (Int.toNat y3) a2)) rfl ?_)
        refine P_q no34_0 rfl (op_assign (av := .exact (.bool true)) rfl ?_)
        refine P_nil ?_
        refine kC_normal ?_
        refine k_ret ?_
        refine kC_ret ?_
        obtain rfl := Option.some.inj h
        refine kP_any (endN (af' := (AF.put (AF.put (AF.put AF0 (some 6) (.row 3 c_api_TypeNode (List.drop (Int.toNat 1) a1))) (some 7) (.row 3 c_api_TypeNode (List.drop (Int.toNat y3) a2))) (some 8) (.exact (.bool true)))) (σ' := [mapI (fun _ => True) (fun k : Int => .int .i64 k) (fun x : List (Int × Int × Int) => .row 3 c_api_TypeNode x) w0 (putL a0 ((gi a1 0).2.1) y16)]) _ rfl ?_ ⟨rfl, rfl⟩)
        refine Sub.trans (SubU.to SubU.f1) ?_
        refine Sub.trans (SubU.to SubU.drop) ?_
        exact Sub.of_le (AF.le_put (AV.le_eq rfl) (AF.le_put (AV.le_eq rfl) (AF.le_put (AV.le_eq rfl) (AF.le_top _))))
  · replace h := ite_f h hc
    refine k_skip ?_
    refine kC_normal ?_
    refine k_seq ?_
    refine k_seq ?_
    refine k_plan [] [(0, 1), (0, 2), (0, 3), (1, 0), (0, 4)] hmixP (by kernel_rfl) ?_
    refine P_q no34_0 rfl (op_move (av := .row 3 c_api_TypeNode a2) rfl ?_)
    obtain ⟨n19, h⟩ := need_some h
    refine P_q no34_0 rfl (op_index_row (by kernel_rfl) rfl rfl n19.1 n19.2 ?_)
    refine P_q no34_0 rfl (op_loadNp (m := 3) (c' := c_api_TypeNode (gi a2 0)) (by kernel_rfl) rfl rfl rfl ?_)
    refine P_r rfl (op_load_boxN (m := 3) (c' := c_api_TypeNode ((gi a1 0).1, (gi a1 0).2.1, (gi a1 0).2.2)) (by kernel_rfl) rfl rfl rfl ?_)
    refine P_q no34_0 rfl (op_neqA (a := ((gi a1 0).1, (gi a1 0).2.1, (gi a1 0).2.2)) (b := (gi a2 0)) (by kernel_rfl) (eq_c_api_TypeNode _ _) rfl rfl ?_)
    refine P_nil ?_
    refine kC_normal ?_
    refine k_cond_d (p := ¬ ((gi a1 0).1, (gi a1 0).2.1, (gi a1 0).2.2) = (gi a2 0)) rfl (fun hc => ?_) (fun hc => ?_)
    · replace h := ite_t h hc
      refine k_seq ?_
      refine k_reg .free hmixP (by kernel_rfl) ?_
      refine G_q rfl (op_assign (av := .exact (.slice none 0 0)) rfl ?_)
      refine G_q rfl (op_assign (av := .exact (.slice none 0 0)) rfl ?_)
      refine G_q rfl (op_assign (av := .exact (.bool false)) rfl ?_)
      refine G_nil ?_
      refine kC_normal ?_
      refine k_ret ?_
      refine kC_ret ?_
      obtain rfl := Option.some.inj h
      refine kP_any (endN (af' := (AF.put (AF.put (AF.put AF0 (some 6) (.row 3 c_api_TypeNode [])) (some 7) (.row 3 c_api_TypeNode [])) (some 8) (.exact (.bool false)))) (σ' := [mapI (fun _ => True) (fun k : Int => .int .i64 k) (fun x : List (Int × Int × Int) => .row 3 c_api_TypeNode x) w0 a0]) _ rfl ?_ ⟨rfl, rfl⟩)
      refine Sub.trans (SubU.to SubU.drop) ?_
      exact Sub.of_le (AF.le_put (AV.le_eq rfl) (AF.le_put (row_nil (by decide)) (AF.le_put (row_nil (by decide)) (AF.le_top _))))
    · replace h := ite_f h hc
      refine k_skip ?_
      refine kC_normal ?_
      refine k_seq ?_
      refine k_plan [] [(0, 0), (0, 1), (0, 2), (0, 3), (0, 4), (0, 5)] hmixP (by kernel_rfl) ?_
      refine P_q no34_0 rfl (op_move (av := .row 3 c_api_TypeNode a1) rfl ?_)
      obtain ⟨n20, h⟩ := need_some h
      refine P_q no34_0 rfl (op_slice_rowd (by kernel_rfl) rfl (bnd_some rfl) bnd_none (by decide) n20 (Int.le_refl _) ?_)
      refine P_q no34_0 rfl (op_move (av := .row 3 c_api_TypeNode a2) rfl ?_)
      obtain ⟨n21, h⟩ := need_some h
      refine P_q no34_0 rfl (op_slice_rowd (by kernel_rfl) rfl (bnd_some rfl) bnd_none (by decide) n21 (Int.le_refl _) ?_)
      refine P_q no34_0 rfl (op_assign (av := .row 3 c_api_TypeNode (List.drop (Int.toNat 1) a1)) rfl ?_)
      refine P_q no34_0 rfl (op_assign (av := .row 3 c_api_TypeNode (List.drop (Int.toNat 1) a2)) rfl ?_)
      refine P_nil ?_
      refine kC_normal ?_
      refine k_seq ?_
      refine k_reg .free hmixP (by kernel_rfl) ?_
      refine G_q rfl (op_assign (av := .exact (.bool true)) rfl ?_)
      refine G_nil ?_
      refine kC_normal ?_
      refine k_join3_0 h (fun (x0_j22 : List (Int × (List (Int × Int × Int)))) (x1_j22 : List (Int × Int × Int)) (x2_j22 : List (Int × Int × Int)) => (AF.put (AF.put (AF.put AF0 (some 0) (.exact (.map (some w0)))) (some 1) (.row 3 c_api_TypeNode x1_j22)) (some 2) (.row 3 c_api_TypeNode x2_j22))) (fun (x0_j22 : List (Int × (List (Int × Int × Int)))) (x1_j22 : List (Int × Int × Int)) (x2_j22 : List (Int × Int × Int)) => [mapI (fun _ => True) (fun k : Int => .int .i64 k) (fun x : List (Int × Int × Int) => .row 3 c_api_TypeNode x) w0 x0_j22]) (fun k22 h => ?_) (fun x0_j22 x1_j22 x2_j22 h => ?_)
      · refine k_seq ?_
        refine k_reg .free hmixP (by kernel_rfl) ?_
        refine G_q rfl (op_fieldAddr (o := 2) (by kernel_rfl) rfl ?_)
        refine G_r rfl (op_load_box1 (a := .exact (.int .i64 ((gi a1 0).2.2))) (by kernel_rfl) rfl rfl ?_)
        refine G_q rfl (op_move (av := .exact (.int .i64 0)) rfl ?_)
        refine G_nil ?_
        refine kC_normal ?_
        refine k_block ?_
        refine k_loop4_0 (m_types_matcher_match_L2 self_types_matcher_match a1 k22) (m_types_matcher_match_B2 self_types_matcher_match a1 k22) (fun _ _ _ _ => rfl) (fun m _ _ _ _ => rfl) h (fun (x0_l2 : List (Int × (List (Int × Int × Int)))) (x1_l2 : List (Int × Int × Int)) (x2_l2 : List (Int × Int × Int)) (x61_l2 : Int) => (AF.put (AF.put (AF.put (AF.put (AF.put AF0 (some 0) (.exact (.map (some w0)))) (some 1) (.row 3 c_api_TypeNode x1_l2)) (some 2) (.row 3 c_api_TypeNode x2_l2)) (some 60) (.exact (.int .i64 ((gi a1 0).2.2)))) (some 61) (.exact (.int .i64 x61_l2)))) (fun (x0_l2 : List (Int × (List (Int × Int × Int)))) (x1_l2 : List (Int × Int × Int)) (x2_l2 : List (Int × Int × Int)) (x61_l2 : Int) => [mapI (fun _ => True) (fun k : Int => .int .i64 k) (fun x : List (Int × Int × Int) => .row 3 c_api_TypeNode x) w0 x0_l2]) ?_ (fun rec2 x0_l2 x1_l2 x2_l2 x61_l2 h => ?_)
        · refine Sub.trans (SubU.to SubU.drop) ?_
          exact Sub.of_le (AF.le_put (AV.le_eq rfl) (AF.le_put (AV.le_eq rfl) (AF.le_put (AV.le_eq rfl) (AF.le_put (AV.le_eq rfl) (AF.le_put (AV.le_eq rfl) (AF.le_top _))))))
        · unfold m_types_matcher_match_B2 at h
          refine k_seq ?_
          refine k_reg .free hmixP (by kernel_rfl) ?_
          refine G_q rfl (op_lss rfl rfl ?_)
          refine G_nil ?_
          refine kC_normal ?_
          refine k_seq ?_
          refine k_cond_d (p := x61_l2 < ((gi a1 0).2.2)) rfl (fun hc => ?_) (fun hc => ?_)
          · replace h := ite_t h hc
            refine k_skip ?_
            refine kC_normal ?_
            refine k_seq ?_
            refine k_block ?_
            refine k_seq ?_
            refine k_reg .free hmixP (by kernel_rfl) ?_
            refine G_q rfl (op_move (av := .exact (.map (some w0))) rfl ?_)
            refine G_q rfl (op_move (av := .row 3 c_api_TypeNode x1_l2) rfl ?_)
            refine G_q rfl (op_move (av := .row 3 c_api_TypeNode x2_l2) rfl ?_)
            obtain ⟨y29, hy29, h⟩ := bnd1_some h
            refine G_l rfl (op_fun_1_0_1 (hself_types_matcher_match _ _ _ _ hy29) Tryd.func70 (by kernel_rfl) (LEs.cons (AV.le_eq rfl) (LEs.cons (AV.le_eq rfl) (LEs.cons (AV.le_eq rfl) LEs.nil))) ?_)
            refine G_q rfl (op_move (av := .tup [.row 3 c_api_TypeNode y29.1, .row 3 c_api_TypeNode y29.2.1, .exact (.bool y29.2.2.1)]) rfl ?_)
            refine G_q rfl (op_extract (av := .row 3 c_api_TypeNode y29.1) rfl rfl ?_)
            refine G_q rfl (op_extract (av := .row 3 c_api_TypeNode y29.2.1) rfl rfl ?_)
            refine G_q rfl (op_extract (av := .exact (.bool y29.2.2.1)) rfl rfl ?_)
            refine G_q rfl (op_assign (av := .row 3 c_api_TypeNode y29.1) rfl ?_)
            refine G_q rfl (op_assign (av := .row 3 c_api_TypeNode y29.2.1) rfl ?_)
            refine G_q rfl (op_assign (av := .exact (.bool y29.2.2.1)) rfl ?_)
            refine G_nil ?_
            refine kC_normal ?_
            refine k_seq ?_
            refine k_reg .free hmixP (by kernel_rfl) ?_
            refine G_q rfl (op_move (av := .exact (.bool y29.2.2.1)) rfl ?_)
            refine G_q rfl (op_not rfl ?_)
            refine G_nil ?_
            refine kC_normal ?_
            refine k_cond_b (c := !y29.2.2.1) rfl (fun hc => ?_) (fun hc => ?_)
            · replace h := ite_t h hc
              refine k_seq ?_
              refine k_reg .free hmixP (by kernel_rfl) ?_
              refine G_q rfl (op_assign (av := .exact (.slice none 0 0)) rfl ?_)
              refine G_q rfl (op_assign (av := .exact (.slice none 0 0)) rfl ?_)
              refine G_q rfl (op_assign (av := .exact (.bool false)) rfl ?_)
              refine G_nil ?_
              refine kC_normal ?_
              refine k_ret ?_
              refine kB_ret ?_
              refine kC_ret ?_
              refine kI_ret ?_
              refine kB_ret ?_
              refine kI_ret ?_
              obtain rfl := Option.some.inj h
              refine kP_any (endN (af' := (AF.put (AF.put (AF.put AF0 (some 6) (.row 3 c_api_TypeNode [])) (some 7) (.row 3 c_api_TypeNode [])) (some 8) (.exact (.bool false)))) (σ' := [mapI (fun _ => True) (fun k : Int => .int .i64 k) (fun x : List (Int × Int × Int) => .row 3 c_api_TypeNode x) w0 y29.2.2.2]) _ rfl ?_ ⟨rfl, rfl⟩)
              exact Sub.of_le (AF.le_put (AV.le_eq rfl) (AF.le_put (row_nil (by decide)) (AF.le_put (row_nil (by decide)) (AF.le_top _))))
            · replace h := ite_f h hc
              refine k_skip ?_
              refine kB_normal ?_
              refine kC_normal ?_
              refine k_reg .free hmixP (by kernel_rfl) ?_
              refine G_q rfl (op_add rfl rfl rfl ?_)
              refine G_q rfl (op_move (av := .exact (.int .i64 (i64 (x61_l2 + 1)))) rfl ?_)
              refine G_nil ?_
              refine kI_normal ⟨_, _, _, _, h, ?_⟩
              exact Sub.of_le (AF.le_put (AV.le_eq rfl) (AF.le_put (AV.le_eq rfl) (AF.le_put (AV.le_eq rfl) (AF.le_put (AV.le_eq rfl) (AF.le_put (AV.le_eq rfl) (AF.le_top _))))))
          · replace h := ite_f h hc
            refine k_exit ?_
            refine kC_exit ?_
            refine kI_exit ?_
            refine kB_exit ?_
            refine kI_normal ⟨_, _, _, h, ?_⟩
            exact Sub.of_le (AF.le_put (AV.le_eq rfl) (AF.le_put (AV.le_eq rfl) (AF.le_put (AV.le_eq rfl) (AF.le_top _))))
      · refine k_seq ?_
        refine k_reg .free hmixP (by kernel_rfl) ?_
        refine G_q rfl (op_move (av := .row 3 c_api_TypeNode x1_j22) rfl ?_)
        refine G_q rfl (op_move (av := .row 3 c_api_TypeNode x2_j22) rfl ?_)
        refine G_q rfl (op_assign (av := .row 3 c_api_TypeNode x1_j22) rfl ?_)
        refine G_q rfl (op_assign (av := .row 3 c_api_TypeNode x2_j22) rfl ?_)
        refine G_q rfl (op_assign (av := .exact (.bool true)) rfl ?_)
        refine G_nil ?_
        refine kC_normal ?_
        refine k_ret ?_
        obtain rfl := Option.some.inj h
        refine kP_any (endN (af' := (AF.put (AF.put (AF.put AF0 (some 6) (.row 3 c_api_TypeNode x1_j22)) (some 7) (.row 3 c_api_TypeNode x2_j22)) (some 8) (.exact (.bool true)))) (σ' := [mapI (fun _ => True) (fun k : Int => .int .i64 k) (fun x : List (Int × Int × Int) => .row 3 c_api_TypeNode x) w0 x0_j22]) _ rfl ?_ ⟨rfl, rfl⟩)
        exact Sub.of_le (AF.le_put (AV.le_eq rfl) (AF.le_put (AV.le_eq rfl) (AF.le_put (AV.le_eq rfl) (AF.le_top _))))
set_option maxHeartbeats 4000000 in
theorem m_types_matcher_match_S_ok : ∀ n : Nat, (∀ ⦃w0 : Nat⦄ (a0 : List (Int × (List (Int × Int × Int)))) (a1 : List (Int × Int × Int)) (a2 : List (Int × Int × Int)) (r : (List (Int × Int × Int)) × (List (Int × Int × Int)) × Bool × (List (Int × (List (Int × Int × Int))))), m_types_matcher_match_S n a0 a1 a2 = some r → Fun Tryd.prog 70 [(.exact (.map (some w0))), (.row 3 c_api_TypeNode a1), (.row 3 c_api_TypeNode a2)] [mapI (fun _ => True) (fun k : Int => .int .i64 k) (fun x : List (Int × Int × Int) => .row 3 c_api_TypeNode x) w0 a0] (fun a s => a = .tup [.row 3 c_api_TypeNode r.1, .row 3 c_api_TypeNode r.2.1, .exact (.bool r.2.2.1)] ∧ s = [mapI (fun _ => True) (fun k : Int => .int .i64 k) (fun x : List (Int × Int × Int) => .row 3 c_api_TypeNode x) w0 r.2.2.2]))
  | 0 => (fun _ _ _ _ _ h => by have h' : (none : Option _) = some _ := h; cases h')
  | n + 1 => by
    have ih := m_types_matcher_match_S_ok n
    exact fun w0 a0 a1 a2 r h => m_types_matcher_match_F_ok (m_types_matcher_match_S n) ih a0 a1 a2 r h
theorem m_types_matcher_match_ok {w0 : Nat} (a0 : List (Int × (List (Int × Int × Int)))) (a1 : List (Int × Int × Int)) (a2 : List (Int × Int × Int)) (r : (List (Int × Int × Int)) × (List (Int × Int × Int)) × Bool × (List (Int × (List (Int × Int × Int))))) (h : m_types_matcher_match a0 a1 a2 = some r) : Fun Tryd.prog 70 [(.exact (.map (some w0))), (.row 3 c_api_TypeNode a1), (.row 3 c_api_TypeNode a2)] [mapI (fun _ => True) (fun k : Int => .int .i64 k) (fun x : List (Int × Int × Int) => .row 3 c_api_TypeNode x) w0 a0] (fun a s => a = .tup [.row 3 c_api_TypeNode r.1, .row 3 c_api_TypeNode r.2.1, .exact (.bool r.2.2.1)] ∧ s = [mapI (fun _ => True) (fun k : Int => .int .i64 k) (fun x : List (Int × Int × Int) => .row 3 c_api_TypeNode x) w0 r.2.2.2]) := (m_types_matcher_match_S_ok FU) a0 a1 a2 r h
set_option maxHeartbeats 4000000 in
theorem m_types_Match_ok (a0 : List (Int × Int × Int)) (a1 : List (Int × Int × Int)) (r : (List (Int × (List (Int × Int × Int)))) × Bool) (h : m_types_Match a0 a1 = some r) : Pure Tryd.prog 38 [(.row 3 c_api_TypeNode a0), (.row 3 c_api_TypeNode a1)] (.tup [.row 2 c_api_Binding r.1, .exact (.bool r.2)]) := by
  unfold m_types_Match at h
  refine Pure.ofFun (fun_of_awp Tryd.func38 rfl Tryd.ntmps38 (by simp) rfl (res2 rfl) fun E hE => k_end ?_)
  refine k_seq ?_
  refine k_reg .free hmixP (by kernel_rfl) ?_
  refine G_q rfl (op_assign (av := .exact (.slice none 0 0)) rfl ?_)
  refine G_q rfl (op_assign (av := .exact (.bool false)) rfl ?_)
  refine G_nil ?_
  refine kC_normal ?_
  refine k_seq ?_
  refine k_join1_0 h (fun (x20_j7 : Bool) => (AF.put (AF.put (AF.put AF0 (some 0) (.row 3 c_api_TypeNode a0)) (some 1) (.row 3 c_api_TypeNode a1)) (some 20) (.exact (.bool x20_j7)))) (fun (x20_j7 : Bool) => []) (fun k7 h => ?_) (fun x20_j7 h => ?_)
  · refine k_reg .free hmixP (by kernel_rfl) ?_
    refine G_q rfl (op_move (av := .row 3 c_api_TypeNode a0) rfl ?_)
    obtain ⟨y10, hy10, h⟩ := bnd1_some h
    refine G_q rfl (op_pure (m_types_Valid_ok _ _ hy10) Tryd.func29 (by kernel_rfl) (LEs.cons (AV.le_eq rfl) LEs.nil) ?_)
    refine G_q rfl (op_not rfl ?_)
    refine G_q rfl (op_move (av := .exact (.bool (!y10))) rfl ?_)
    refine G_splitB (c := !y10) 16 rfl (fun hc => ?_) (fun hc => ?_)
    · replace h := ite_t h hc
      refine G_n rfl rfl ?_
      refine G_n rfl rfl ?_
      refine G_n rfl rfl ?_
      refine G_q rfl (op_pick_t rfl (av := .exact (.bool true)) rfl ?_)
      refine G_nil ?_
      refine kI_normal ⟨_, h, ?_⟩
      exact Sub.of_le (AF.le_put (AV.le_eq rfl) (AF.le_put (AV.le_eq rfl) (AF.le_put (AV.le_eq rfl) (AF.le_top _))))
    · replace h := ite_f h hc
      refine Gy_q rfl rfl rfl (op_move (av := .row 3 c_api_TypeNode a1) rfl ?_)
      obtain ⟨y11, hy11, h⟩ := bnd1_some h
      refine Gy_q rfl rfl rfl (op_pure (m_types_Valid_ok _ _ hy11) Tryd.func29 (by kernel_rfl) (LEs.cons (AV.le_eq rfl) LEs.nil) ?_)
      refine Gy_q rfl rfl rfl (op_not rfl ?_)
      refine G_q rfl (op_pick_f rfl (av := .exact (.bool (!y11))) rfl ?_)
      refine G_nil ?_
      refine kI_normal ⟨_, h, ?_⟩
      exact Sub.of_le (AF.le_put (AV.le_eq rfl) (AF.le_put (AV.le_eq rfl) (AF.le_put (AV.le_eq rfl) (AF.le_top _))))
  · refine k_cond_b (c := x20_j7) rfl (fun hc => ?_) (fun hc => ?_)
    · replace h := ite_t h hc
      refine k_seq ?_
      refine k_reg .free hmixP (by kernel_rfl) ?_
      refine G_q rfl (op_assign (av := .exact (.slice none 0 0)) rfl ?_)
      refine G_q rfl (op_assign (av := .exact (.bool false)) rfl ?_)
      refine G_nil ?_
      refine kC_normal ?_
      refine k_ret ?_
      refine kC_ret ?_
      obtain rfl := Option.some.inj h
      refine kP_any (endN (af' := (AF.put (AF.put AF0 (some 4) (.row 2 c_api_Binding [])) (some 5) (.exact (.bool false)))) (σ' := []) _ rfl ?_ ⟨rfl, rfl⟩)
      exact Sub.of_le (AF.le_put (AV.le_eq rfl) (AF.le_put (row_nil (by decide)) (AF.le_top _)))
    · replace h := ite_f h hc
      refine k_skip ?_
      refine kC_normal ?_
      refine k_seq ?_
      refine k_reg .free hmixP (by kernel_rfl) ?_
      refine G_l rfl (op_mnew (V := (fun _ => True)) (kv := (fun k : Int => .int .i64 k)) (vv := (fun x : List (Int × Int × Int) => .row 3 c_api_TypeNode x)) (fun b12 => ?_))
      refine G_q rfl (op_assign (av := .exact (.map (some b12))) rfl ?_)
      refine G_nil ?_
      refine kC_normal ?_
      refine k_seq ?_
      refine k_seq ?_
      refine k_reg .free hmixP (by kernel_rfl) ?_
      refine G_q rfl (op_move (av := .exact (.map (some b12))) rfl ?_)
      refine G_q rfl (op_move (av := .row 3 c_api_TypeNode a0) rfl ?_)
      refine G_q rfl (op_move (av := .row 3 c_api_TypeNode a1) rfl ?_)
      obtain ⟨y13, hy13, h⟩ := bnd1_some h
      refine G_l rfl (op_fun_1_0_1 (m_types_matcher_match_ok _ _ _ _ hy13) Tryd.func70 (by kernel_rfl) (LEs.cons (AV.le_eq rfl) (LEs.cons (AV.le_eq rfl) (LEs.cons (AV.le_eq rfl) LEs.nil))) ?_)
      refine G_q rfl (op_move (av := .tup [.row 3 c_api_TypeNode y13.1, .row 3 c_api_TypeNode y13.2.1, .exact (.bool y13.2.2.1)]) rfl ?_)
      refine G_q rfl (op_extract (av := .row 3 c_api_TypeNode y13.1) rfl rfl ?_)
      refine G_q rfl (op_extract (av := .row 3 c_api_TypeNode y13.2.1) rfl rfl ?_)
      refine G_q rfl (op_extract (av := .exact (.bool y13.2.2.1)) rfl rfl ?_)
      refine G_q rfl (op_assign (av := .row 3 c_api_TypeNode y13.1) rfl ?_)
      refine G_q rfl (op_assign (av := .row 3 c_api_TypeNode y13.2.1) rfl ?_)
      refine G_q rfl (op_assign (av := .exact (.bool y13.2.2.1)) rfl ?_)
      refine G_nil ?_
      refine kC_normal ?_
      refine k_seq ?_
      refine k_reg .free hmixP (by kernel_rfl) ?_
      refine G_q rfl (op_move (av := .exact (.bool y13.2.2.1)) rfl ?_)
      refine G_q rfl (op_not rfl ?_)
      refine G_nil ?_
      refine kC_normal ?_
      refine k_cond_b (c := !y13.2.2.1) rfl (fun hc => ?_) (fun hc => ?_)
      · replace h := ite_t h hc
        refine k_seq ?_
        refine k_reg .free hmixP (by kernel_rfl) ?_
        refine G_q rfl (op_assign (av := .exact (.slice none 0 0)) rfl ?_)
        refine G_q rfl (op_assign (av := .exact (.bool false)) rfl ?_)
        refine G_nil ?_
        refine kC_normal ?_
        refine k_ret ?_
        refine kC_ret ?_
        obtain rfl := Option.some.inj h
        refine kP_any (endN (af' := (AF.put (AF.put AF0 (some 4) (.row 2 c_api_Binding [])) (some 5) (.exact (.bool false)))) (σ' := []) _ rfl ?_ ⟨rfl, rfl⟩)
        refine Sub.trans (SubU.to SubU.drop) ?_
        exact Sub.of_le (AF.le_put (AV.le_eq rfl) (AF.le_put (row_nil (by decide)) (AF.le_top _)))
      · replace h := ite_f h hc
        refine k_skip ?_
        refine kC_normal ?_
        refine k_seq ?_
        refine k_reg .free hmixP (by kernel_rfl) ?_
        refine G_q rfl (op_assign (av := .exact (.slice none 0 0)) rfl ?_)
        refine G_nil ?_
        refine kC_normal ?_
        refine k_join1_1 h (fun (x10_j14 : List (Int × (List (Int × Int × Int)))) (v10_j14 : Value) => (AF.put AF0 (some 10) (.exact v10_j14))) (fun (x10_j14 : List (Int × (List (Int × Int × Int)))) (v10_j14 : Value) => [vecT Tryd.prog 24 2 c_api_Binding v10_j14 x10_j14]) (fun k14 h => ?_) (fun x10_j14 v10_j14 h => ?_)
        · refine k_seq ?_
          refine k_reg .free hmixP (by kernel_rfl) ?_
          refine G_q rfl (op_move (av := .exact (.map (some b12))) rfl ?_)
          refine G_l rfl (op_mrange Tryd.underlying102 rfl (fun r26 => ?_))
          refine G_nil ?_
          refine kC_normal ?_
          refine k_block ?_
          refine k_range1_1 (V := (fun _ => True)) (kv := (fun k : Int => .int .i64 k)) (vv := (fun x : List (Int × Int × Int) => .row 3 c_api_TypeNode x)) (b := b12) (r := r26) h (fun (x10_l2 : List (Int × (List (Int × Int × Int)))) (v10_l2 : Value) => (AF.put (AF.put AF0 (some 10) (.exact v10_l2)) (some 33) (pA r26 0))) (fun (x10_l2 : List (Int × (List (Int × Int × Int)))) (v10_l2 : Value) => [vecT Tryd.prog 24 2 c_api_Binding v10_l2 x10_l2]) (.slice none 0 0) ?_ (fun x10_l2 v10_l2 left cur Q hK hB => ?_)
          · refine Sub.trans (SubU.to (SubU.nilT (P := Tryd.prog) (t := 24) (n := 2) (enc := c_api_Binding))) ?_
            refine Sub.trans (SubU.to SubU.f1) ?_
            exact Sub.of_le (AF.le_put (AV.le_eq rfl) (AF.le_put (AV.le_eq rfl) (AF.le_top _)))
          · refine k_seq ?_
            refine k_reg .free hmixP (by kernel_rfl) ?_
            refine G_l rfl (op_mnext rfl (fun hl => ?_) (fun A33 y33 B33 hl => ?_))
            · replace h := hK hl
              refine G_q rfl (op_extract (av := .exact (.bool false)) rfl rfl ?_)
              refine G_nil ?_
              refine kC_normal ?_
              refine k_seq ?_
              refine k_cond_f rfl ?_
              refine k_exit ?_
              refine kC_exit ?_
              refine kI_exit ?_
              refine kB_exit ?_
              refine kI_normal ⟨_, v10_l2, h, ?_⟩
              refine Sub.trans (SubU.to SubU.drop) ?_
              exact Sub.of_le (AF.le_put (AV.le_eq rfl) (AF.le_top _))
            · obtain ⟨x', h, hj⟩ := hB A33 y33 B33 hl
              unfold m_types_Match_R2 at h
              refine G_q rfl (op_extract (av := .exact (.bool true)) rfl rfl ?_)
              refine G_nil ?_
              refine kC_normal ?_
              refine k_seq ?_
              refine k_cond_t rfl ?_
              refine k_skip ?_
              refine kC_normal ?_
              refine k_block ?_
              refine k_seq ?_
              refine k_reg .free hmixP (by kernel_rfl) ?_
              refine G_r rfl (op_mentry rfl ?_)
              refine G_q rfl (op_extract (av := .exact (.int .i64 y33.1)) rfl rfl ?_)
              refine G_q rfl (op_extract (av := .row 3 c_api_TypeNode y33.2) rfl rfl ?_)
              refine G_q rfl (op_assign (av := .exact (.int .i64 y33.1)) rfl ?_)
              refine G_q rfl (op_assign (av := .row 3 c_api_TypeNode y33.2) rfl ?_)
              refine G_nil ?_
              refine kC_normal ?_
              refine k_reg .free hmixP (by kernel_rfl) ?_
              refine G_q rfl (op_move (av := .exact v10_l2) rfl ?_)
              refine G_q rfl (op_move (av := .exact (.int .i64 y33.1)) rfl ?_)
              refine G_q rfl (op_move (av := .row 3 c_api_TypeNode y33.2) rfl ?_)
              refine G_q rfl (op_bld (c' := c_api_Binding (y33.1, y33.2)) (CellsAll.cons rfl CellsOf.int (CellsAll.cons rfl CellsOf.row CellsAll.nil)) rfl (LEs.cons (AV.le_eq rfl) (LEs.cons (AV.le_eq rfl) LEs.nil)) ?_)
              refine G_q rfl (op_litT (n := 2) (enc := c_api_Binding) [(y33.1, y33.2)] (CellsAll.cons rfl CellsOf.agg CellsAll.nil) rfl (by kernel_rfl) (LEss.cons (LEs.cons (AV.le_eq rfl) (LEs.cons (AV.le_eq rfl) LEs.nil)) LEss.nil) ?_)
              obtain ⟨n34, h⟩ := need_some h
              refine G_l rfl (opB_f1 (op_appT (by kernel_rfl) rfl rfl oc_c_api_Binding n34 (fun v35 => ?_)))
              refine G_q rfl (op_assign (av := .exact v35) rfl ?_)
              refine G_nil ?_
              refine kB_normal ?_
              obtain rfl := Option.some.inj h
              refine hj _ _ v35 ?_
              refine Sub.trans (SubU.to SubU.f1) ?_
              exact Sub.of_le (AF.le_put (AV.le_eq rfl) (AF.le_put (AV.le_eq rfl) (AF.le_top _)))
        · refine k_seq ?_
          refine k_reg .free hmixP (by kernel_rfl) ?_
          refine G_q rfl (op_move (av := .exact v10_j14) rfl ?_)
          obtain ⟨y36, hy36, h⟩ := bnd1_some h
          refine G_l rfl (op_fun_1_0_1 (m_sort_api_Binding_types_Match_1_ok _ _ hy36) Tryd.func45 (by kernel_rfl) (LEs.cons (AV.le_eq rfl) (LEs.cons (AV.le_eq rfl) LEs.nil)) ?_)
          refine G_nil ?_
          refine kC_normal ?_
          refine k_seq ?_
          refine k_reg .free hmixP (by kernel_rfl) ?_
          refine G_q rfl (op_move (av := .exact v10_j14) rfl ?_)
          refine G_sub rfl (SubU.freezeT3 (s1 := 10) (s2 := 45) (s3 := 47) rfl rfl rfl len_c_api_Binding) ?_
          obtain ⟨y37, hy37, h⟩ := bnd1_some h
          refine G_q rfl (op_pure (m_slices_Clip_L_api_Binding_api_Binding_ok _ _ hy37) Tryd.func47 (by kernel_rfl) (LEs.cons (AV.le_eq rfl) LEs.nil) ?_)
          refine G_q rfl (op_assign (av := .row 2 c_api_Binding y37) rfl ?_)
          refine G_q rfl (op_assign (av := .exact (.bool true)) rfl ?_)
          refine G_nil ?_
          refine kC_normal ?_
          refine k_ret ?_
          obtain rfl := Option.some.inj h
          refine kP_any (endN (af' := (AF.put (AF.put AF0 (some 4) (.row 2 c_api_Binding y37)) (some 5) (.exact (.bool true)))) (σ' := []) _ rfl ?_ ⟨rfl, rfl⟩)
          exact Sub.of_le (AF.le_put (AV.le_eq rfl) (AF.le_put (AV.le_eq rfl) (AF.le_top _)))
set_option maxHeartbeats 4000000 in
theorem m_help_Equal_api_TypeNode_ok (a0 : List (Int × Int × Int)) (a1 : List (Int × Int × Int)) (r : Bool) (h : m_help_Equal_api_TypeNode a0 a1 = some r) : Pure Tryd.prog 21 [(.row 3 c_api_TypeNode a0), (.row 3 c_api_TypeNode a1)] (.exact (.bool r)) := by
  unfold m_help_Equal_api_TypeNode at h
  refine Pure.ofFun (fun_of_awp Tryd.func21 rfl Tryd.ntmps21 (by simp) rfl (res1 rfl) fun E hE => k_end ?_)
  refine k_seq ?_
  refine k_reg .free hmixP (by kernel_rfl) ?_
  refine G_q rfl (op_assign (av := .exact (.bool false)) rfl ?_)
  refine G_nil ?_
  refine kC_normal ?_
  refine k_seq ?_
  refine k_seq ?_
  refine k_reg .free hmixP (by kernel_rfl) ?_
  refine G_q rfl (op_move (av := .row 3 c_api_TypeNode a0) rfl ?_)
  refine G_q rfl (op_len_row (by kernel_rfl) rfl ?_)
  refine G_q rfl (op_move (av := .row 3 c_api_TypeNode a1) rfl ?_)
  refine G_q rfl (op_len_row (by kernel_rfl) rfl ?_)
  refine G_q rfl (op_neq rfl rfl ?_)
  refine G_nil ?_
  refine kC_normal ?_
  refine k_cond_d (p := ¬ (List.length a0 : Int) = (List.length a1 : Int)) rfl (fun hc => ?_) (fun hc => ?_)
  · replace h := ite_t h hc
    refine k_seq ?_
    refine k_reg .free hmixP (by kernel_rfl) ?_
    refine G_q rfl (op_assign (av := .exact (.bool false)) rfl ?_)
    refine G_nil ?_
    refine kC_normal ?_
    refine k_ret ?_
    refine kC_ret ?_
    obtain rfl := Option.some.inj h
    refine kP_any (endN (af' := (AF.put AF0 (some 4) (.exact (.bool false)))) (σ' := []) _ rfl ?_ ⟨rfl, rfl⟩)
    exact Sub.of_le (AF.le_put (AV.le_eq rfl) (AF.le_top _))
  · replace h := ite_f h hc
    refine k_skip ?_
    refine kC_normal ?_
    refine k_join0_0 h (AF0) ([]) (fun k1 h => ?_) (fun  h => ?_)
    · refine k_seq ?_
      refine k_reg .free hmixP (by kernel_rfl) ?_
      refine G_q rfl (op_assign (av := .exact (.int .i64 0)) rfl ?_)
      refine G_nil ?_
      refine kC_normal ?_
      refine k_block ?_
      refine k_loop1_0 (m_help_Equal_api_TypeNode_L2 a0 a1 k1) (m_help_Equal_api_TypeNode_B2 a0 a1 k1) (fun _ => rfl) (fun m _ => rfl) h (fun (x5_l2 : Int) => (AF.put (AF.put (AF.put AF0 (some 0) (.row 3 c_api_TypeNode a0)) (some 1) (.row 3 c_api_TypeNode a1)) (some 5) (.exact (.int .i64 x5_l2)))) (fun (x5_l2 : Int) => []) ?_ (fun rec2 x5_l2 h => ?_)
      · exact Sub.of_le (AF.le_put (AV.le_eq rfl) (AF.le_put (AV.le_eq rfl) (AF.le_put (AV.le_eq rfl) (AF.le_top _))))
      · unfold m_help_Equal_api_TypeNode_B2 at h
        refine k_seq ?_
        refine k_seq ?_
        refine k_reg .free hmixP (by kernel_rfl) ?_
        refine G_q rfl (op_move (av := .exact (.int .i64 x5_l2)) rfl ?_)
        refine G_q rfl (op_move (av := .row 3 c_api_TypeNode a0) rfl ?_)
        refine G_q rfl (op_len_row (by kernel_rfl) rfl ?_)
        refine G_q rfl (op_lss rfl rfl ?_)
        refine G_nil ?_
        refine kC_normal ?_
        refine k_cond_d (p := x5_l2 < (List.length a0 : Int)) rfl (fun hc => ?_) (fun hc => ?_)
        · replace h := ite_t h hc
          refine k_skip ?_
          refine kC_normal ?_
          refine k_seq ?_
          refine k_block ?_
          refine k_seq ?_
          refine k_plan [] [(0, 0), (0, 1), (0, 2), (0, 3), (0, 4), (0, 5), (0, 6), (0, 7), (0, 8)] hmixP (by kernel_rfl) ?_
          refine P_q no34_0 rfl (op_move (av := .row 3 c_api_TypeNode a0) rfl ?_)
          refine P_q no34_0 rfl (op_move (av := .exact (.int .i64 x5_l2)) rfl ?_)
          obtain ⟨n13, h⟩ := need_some h
          refine P_q no34_0 rfl (op_index_row (by kernel_rfl) rfl rfl n13.1 n13.2 ?_)
          refine P_q no34_0 rfl (op_loadNp (m := 3) (c' := c_api_TypeNode (gi a0 x5_l2)) (by kernel_rfl) rfl rfl rfl ?_)
          refine P_q no34_0 rfl (op_move (av := .row 3 c_api_TypeNode a1) rfl ?_)
          refine P_q no34_0 rfl (op_move (av := .exact (.int .i64 x5_l2)) rfl ?_)
          obtain ⟨n14, h⟩ := need_some h
          refine P_q no34_0 rfl (op_index_row (by kernel_rfl) rfl rfl n14.1 n14.2 ?_)
          refine P_q no34_0 rfl (op_loadNp (m := 3) (c' := c_api_TypeNode (gi a1 x5_l2)) (by kernel_rfl) rfl rfl rfl ?_)
          refine P_q no34_0 rfl (op_neqA (a := (gi a0 x5_l2)) (b := (gi a1 x5_l2)) (by kernel_rfl) (eq_c_api_TypeNode _ _) rfl rfl ?_)
          refine P_nil ?_
          refine kC_normal ?_
          refine k_cond_d (p := ¬ (gi a0 x5_l2) = (gi a1 x5_l2)) rfl (fun hc => ?_) (fun hc => ?_)
          · replace h := ite_t h hc
            refine k_seq ?_
            refine k_reg .free hmixP (by kernel_rfl) ?_
            refine G_q rfl (op_assign (av := .exact (.bool false)) rfl ?_)
            refine G_nil ?_
            refine kC_normal ?_
            refine k_ret ?_
            refine kB_ret ?_
            refine kC_ret ?_
            refine kI_ret ?_
            refine kB_ret ?_
            refine kI_ret ?_
            obtain rfl := Option.some.inj h
            refine kP_any (endN (af' := (AF.put AF0 (some 4) (.exact (.bool false)))) (σ' := []) _ rfl ?_ ⟨rfl, rfl⟩)
            exact Sub.of_le (AF.le_put (AV.le_eq rfl) (AF.le_top _))
          · replace h := ite_f h hc
            refine k_skip ?_
            refine kB_normal ?_
            refine kC_normal ?_
            refine k_reg .free hmixP (by kernel_rfl) ?_
            refine G_q rfl (op_move (av := .exact (.int .i64 x5_l2)) rfl ?_)
            refine G_q rfl (op_add rfl rfl rfl ?_)
            refine G_q rfl (op_assign (av := .exact (.int .i64 (i64 (x5_l2 + 1)))) rfl ?_)
            refine G_nil ?_
            refine kI_normal ⟨_, h, ?_⟩
            exact Sub.of_le (AF.le_put (AV.le_eq rfl) (AF.le_put (AV.le_eq rfl) (AF.le_put (AV.le_eq rfl) (AF.le_top _))))
        · replace h := ite_f h hc
          refine k_exit ?_
          refine kC_exit ?_
          refine kI_exit ?_
          refine kB_exit ?_
          refine kI_normal ⟨h, ?_⟩
          exact Sub.of_le (AF.le_top _)
    · refine k_seq ?_
      refine k_reg .free hmixP (by kernel_rfl) ?_
      refine G_q rfl (op_assign (av := .exact (.bool true)) rfl ?_)
      refine G_nil ?_
      refine kC_normal ?_
      refine k_ret ?_
      obtain rfl := Option.some.inj h
      refine kP_any (endN (af' := (AF.put AF0 (some 4) (.exact (.bool true)))) (σ' := []) _ rfl ?_ ⟨rfl, rfl⟩)
      exact Sub.of_le (AF.le_put (AV.le_eq rfl) (AF.le_top _))
set_option maxHeartbeats 4000000 in
theorem m_law7_TypesCanon_ok (a0 : List Int) (a1 : List Int) (r : Bool) (h : m_law7_TypesCanon a0 a1 = some r) : Pure Tryd.prog 11 [(.row 1 c_int a0), (.row 1 c_int a1)] (.exact (.bool r)) := by
  unfold m_law7_TypesCanon at h
  refine Pure.ofFun (fun_of_awp Tryd.func11 rfl Tryd.ntmps11 (by simp) rfl (res1 rfl) fun E hE => k_end ?_)
  refine k_seq ?_
  refine k_reg .free hmixP (by kernel_rfl) ?_
  refine G_q rfl (op_assign (av := .exact (.bool false)) rfl ?_)
  refine G_nil ?_
  refine kC_normal ?_
  refine k_seq ?_
  refine k_reg .free hmixP (by kernel_rfl) ?_
  refine G_q rfl (op_move (av := .row 1 c_int a0) rfl ?_)
  obtain ⟨y1, hy1, h⟩ := bnd1_some h
  refine G_l rfl (op_fun_0_1_1 (m_gen_New_ok _ _ hy1) Tryd.func15 (by kernel_rfl) (LEs.cons (AV.le_eq rfl) LEs.nil) (fun b2 => ?_))
  obtain ⟨y3, hy3, h⟩ := bnd1_some h
  refine G_l rfl (op_fun_1_1_2 (m_law7_typ_ok _ _ _ _ hy3) Tryd.func14 (by kernel_rfl) (LEs.cons (AV.le_eq rfl) (LEs.cons (AV.le_eq rfl) (LEs.cons (AV.le_eq rfl) LEs.nil))) (fun v4 => ?_))
  refine G_q rfl (op_move (av := .row 1 c_int a1) rfl ?_)
  obtain ⟨y5, hy5, h⟩ := bnd1_some h
  refine G_l rfl (op_fun_0_1_1 (m_gen_New_ok _ _ hy5) Tryd.func15 (by kernel_rfl) (LEs.cons (AV.le_eq rfl) LEs.nil) (fun b6 => ?_))
  obtain ⟨y7, hy7, h⟩ := bnd1_some h
  refine G_l rfl (op_fun_1_1_2 (m_law7_typ_ok _ _ _ _ hy7) Tryd.func14 (by kernel_rfl) (LEs.cons (AV.le_eq rfl) (LEs.cons (AV.le_eq rfl) (LEs.cons (AV.le_eq rfl) LEs.nil))) (fun v8 => ?_))
  refine G_q rfl (op_assign (av := .exact v4) rfl ?_)
  refine G_q rfl (op_assign (av := .exact v8) rfl ?_)
  refine G_nil ?_
  refine kC_normal ?_
  refine k_seq ?_
  refine k_reg .free hmixP (by kernel_rfl) ?_
  refine G_q rfl (op_move (av := .exact v4) rfl ?_)
  refine G_sub rfl (SubU.trans SubU.f2 (SubU.freezeT3 (s1 := 5) (s2 := 15) (s3 := 19) rfl rfl rfl len_c_api_TypeNode)) ?_
  obtain ⟨y9, hy9, h⟩ := bnd1_some h
  refine G_q rfl (op_pure (m_types_Canon_ok _ _ hy9) Tryd.func34 (by kernel_rfl) (LEs.cons (AV.le_eq rfl) LEs.nil) ?_)
  refine G_q rfl (op_move (av := .exact v8) rfl ?_)
  refine G_sub rfl (SubU.freezeT3 (s1 := 6) (s2 := 18) (s3 := 21) rfl rfl rfl len_c_api_TypeNode) ?_
  obtain ⟨y10, hy10, h⟩ := bnd1_some h
  refine G_q rfl (op_pure (m_types_Canon_ok _ _ hy10) Tryd.func34 (by kernel_rfl) (LEs.cons (AV.le_eq rfl) LEs.nil) ?_)
  refine G_q rfl (op_assign (av := .row 3 c_api_TypeNode y9) rfl ?_)
  refine G_q rfl (op_assign (av := .row 3 c_api_TypeNode y10) rfl ?_)
  refine G_nil ?_
  refine kC_normal ?_
  refine k_seq ?_
  refine k_reg .free hmixP (by kernel_rfl) ?_
  refine G_q rfl (op_move (av := .row 3 c_api_TypeNode y3.1) rfl ?_)
  refine G_q rfl (op_move (av := .row 3 c_api_TypeNode y7.1) rfl ?_)
  obtain ⟨y11, hy11, h⟩ := bnd1_some h
  refine G_q rfl (op_pure (m_types_Match_ok _ _ _ hy11) Tryd.func38 (by kernel_rfl) (LEs.cons (AV.le_eq rfl) (LEs.cons (AV.le_eq rfl) LEs.nil)) ?_)
  refine G_q rfl (op_move (av := .tup [.row 2 c_api_Binding y11.1, .exact (.bool y11.2)]) rfl ?_)
  refine G_q rfl (op_extract (av := .row 2 c_api_Binding y11.1) rfl rfl ?_)
  refine G_q rfl (op_extract (av := .exact (.bool y11.2)) rfl rfl ?_)
  refine G_q rfl (op_assign (av := .row 2 c_api_Binding y11.1) rfl ?_)
  refine G_q rfl (op_assign (av := .exact (.bool y11.2)) rfl ?_)
  refine G_nil ?_
  refine kC_normal ?_
  refine k_seq ?_
  refine k_reg .free hmixP (by kernel_rfl) ?_
  refine G_q rfl (op_move (av := .row 3 c_api_TypeNode y7.1) rfl ?_)
  refine G_q rfl (op_move (av := .row 3 c_api_TypeNode y3.1) rfl ?_)
  obtain ⟨y12, hy12, h⟩ := bnd1_some h
  refine G_q rfl (op_pure (m_types_Match_ok _ _ _ hy12) Tryd.func38 (by kernel_rfl) (LEs.cons (AV.le_eq rfl) (LEs.cons (AV.le_eq rfl) LEs.nil)) ?_)
  refine G_q rfl (op_move (av := .tup [.row 2 c_api_Binding y12.1, .exact (.bool y12.2)]) rfl ?_)
  refine G_q rfl (op_extract (av := .row 2 c_api_Binding y12.1) rfl rfl ?_)
  refine G_q rfl (op_extract (av := .exact (.bool y12.2)) rfl rfl ?_)
  refine G_q rfl (op_assign (av := .row 2 c_api_Binding y12.1) rfl ?_)
  refine G_q rfl (op_assign (av := .exact (.bool y12.2)) rfl ?_)
  refine G_nil ?_
  refine kC_normal ?_
  refine k_join1_0 h (fun (x4_j13 : Bool) => (AF.put AF0 (some 4) (.exact (.bool x4_j13)))) (fun (x4_j13 : Bool) => []) (fun k13 h => ?_) (fun x4_j13 h => ?_)
  · refine k_reg .free hmixP (by kernel_rfl) ?_
    obtain ⟨y18, hy18, h⟩ := bnd1_some h
    refine G_q rfl (op_pure (m_law7_awake_ok _ hy18) Tryd.func16 (by kernel_rfl) LEs.nil ?_)
    refine G_q rfl (op_move (av := .exact (.bool y18)) rfl ?_)
    refine G_splitB (c := y18) 36 rfl (fun hc => ?_) (fun hc => ?_)
    · replace h := ite_t h hc
      refine Gy_q rfl rfl rfl (op_move (av := .row 3 c_api_TypeNode y9) rfl ?_)
      obtain ⟨y19, hy19, h⟩ := bnd1_some h
      refine Gy_q rfl rfl rfl (op_pure (m_types_Canon_ok _ _ hy19) Tryd.func34 (by kernel_rfl) (LEs.cons (AV.le_eq rfl) LEs.nil) ?_)
      refine Gy_q rfl rfl rfl (op_move (av := .row 3 c_api_TypeNode y9) rfl ?_)
      obtain ⟨y20, hy20, h⟩ := bnd1_some h
      refine Gy_q rfl rfl rfl (op_pure (m_help_Equal_api_TypeNode_ok _ _ _ hy20) Tryd.func21 (by kernel_rfl) (LEs.cons (AV.le_eq rfl) (LEs.cons (AV.le_eq rfl) LEs.nil)) ?_)
      refine G_q rfl (op_pick_t rfl (av := .exact (.bool y20)) rfl ?_)
      refine G_q rfl (op_move (av := .exact (.bool y20)) rfl ?_)
      refine G_splitB (c := y20) 42 rfl (fun hc => ?_) (fun hc => ?_)
      · replace h := ite_t h hc
        refine Gy_q rfl rfl rfl (op_move (av := .row 3 c_api_TypeNode y9) rfl ?_)
        refine Gy_q rfl rfl rfl (op_move (av := .row 3 c_api_TypeNode y10) rfl ?_)
        obtain ⟨y21, hy21, h⟩ := bnd1_some h
        refine Gy_q rfl rfl rfl (op_pure (m_help_Equal_api_TypeNode_ok _ _ _ hy21) Tryd.func21 (by kernel_rfl) (LEs.cons (AV.le_eq rfl) (LEs.cons (AV.le_eq rfl) LEs.nil)) ?_)
        refine Gy_q rfl rfl rfl (op_move (av := .exact (.bool y11.2)) rfl ?_)
        refine Gy_q rfl rfl rfl (op_move (av := .exact (.bool y11.2)) rfl ?_)
        refine G_splitB (c := y11.2) 47 rfl (fun hc => ?_) (fun hc => ?_)
        · replace h := ite_t h hc
          refine Gy_q rfl rfl rfl (op_move (av := .exact (.bool y12.2)) rfl ?_)
          refine Gy_q rfl rfl rfl (op_pick_t rfl (av := .exact (.bool y12.2)) rfl ?_)
          refine Gy_q rfl rfl rfl (op_eqlB (a := y21) (b := y12.2) (by kernel_rfl) rfl rfl ?_)
          refine G_q rfl (op_pick_t rfl (av := .exact (.bool (decide (y21 = y12.2)))) rfl ?_)
          refine G_q rfl (op_assign (av := .exact (.bool (decide (y21 = y12.2)))) rfl ?_)
          refine G_nil ?_
          refine kI_normal ⟨_, h, ?_⟩
          refine Sub.trans (SubU.to SubU.drop) ?_
          refine Sub.trans (SubU.to SubU.drop) ?_
          exact Sub.of_le (AF.le_put (AV.le_eq rfl) (AF.le_top _))
        · replace h := ite_f h hc
          refine G_n rfl rfl ?_
          refine Gy_q rfl rfl rfl (op_pick_f rfl (av := .exact (.bool false)) rfl ?_)
          refine Gy_q rfl rfl rfl (op_eqlB (a := y21) (b := false) (by kernel_rfl) rfl rfl ?_)
          refine G_q rfl (op_pick_t rfl (av := .exact (.bool (decide (y21 = false)))) rfl ?_)
          refine G_q rfl (op_assign (av := .exact (.bool (decide (y21 = false)))) rfl ?_)
          refine G_nil ?_
          refine kI_normal ⟨_, h, ?_⟩
          refine Sub.trans (SubU.to SubU.drop) ?_
          refine Sub.trans (SubU.to SubU.drop) ?_
          exact Sub.of_le (AF.le_put (AV.le_eq rfl) (AF.le_top _))
      · replace h := ite_f h hc
        refine G_n rfl rfl ?_
        refine G_n rfl rfl ?_
        refine G_n rfl rfl ?_
        refine G_n rfl rfl ?_
        refine G_n rfl rfl ?_
        refine G_u rfl rfl ?_
        refine G_n rfl rfl ?_
        refine G_n rfl rfl ?_
        refine G_q rfl (op_pick_f rfl (av := .exact (.bool false)) rfl ?_)
        refine G_q rfl (op_assign (av := .exact (.bool false)) rfl ?_)
        refine G_nil ?_
        refine kI_normal ⟨_, h, ?_⟩
        refine Sub.trans (SubU.to SubU.drop) ?_
        refine Sub.trans (SubU.to SubU.drop) ?_
        exact Sub.of_le (AF.le_put (AV.le_eq rfl) (AF.le_top _))
    · replace h := ite_f h hc
      refine G_n rfl rfl ?_
      refine G_n rfl rfl ?_
      refine G_n rfl rfl ?_
      refine G_n rfl rfl ?_
      refine G_q rfl (op_pick_f rfl (av := .exact (.bool false)) rfl ?_)
      refine G_q rfl (op_move (av := .exact (.bool false)) rfl ?_)
      refine G_n rfl rfl ?_
      refine G_n rfl rfl ?_
      refine G_n rfl rfl ?_
      refine G_n rfl rfl ?_
      refine G_n rfl rfl ?_
      refine G_u rfl rfl ?_
      refine G_n rfl rfl ?_
      refine G_n rfl rfl ?_
      refine G_q rfl (op_pick_f rfl (av := .exact (.bool false)) rfl ?_)
      refine G_q rfl (op_assign (av := .exact (.bool false)) rfl ?_)
      refine G_nil ?_
      refine kI_normal ⟨_, h, ?_⟩
      refine Sub.trans (SubU.to SubU.drop) ?_
      refine Sub.trans (SubU.to SubU.drop) ?_
      exact Sub.of_le (AF.le_put (AV.le_eq rfl) (AF.le_top _))
  · refine k_ret ?_
    obtain rfl := Option.some.inj h
    refine kP_any (endN (af' := (AF.put AF0 (some 4) (.exact (.bool x4_j13)))) (σ' := []) _ rfl ?_ ⟨rfl, rfl⟩)
    exact Sub.of_le (AF.le_put (AV.le_eq rfl) (AF.le_top _))
end Go.Proofs.YtdfdjgolijckfaaDoor
