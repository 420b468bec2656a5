/- The functions compute their models, by program. -/
import Derived.Test.YtdfdjgolijckfaaDoorQr5
namespace Go.Proofs.YtdfdjgolijckfaaDoor
open Go.RowKit
attribute [local irreducible] AV.exact AV.top AV.row AV.ptr AV.agg AV.tup AV.eptr AV.fn AV.nilq AV.nilqn opA opB opM opR Quiet Loud Reads wpG awp den Sub SubU Pure Fun vecI vecT boxI CellsAll CellsOf OneC LEs LEss
set_option maxRecDepth 100000

set_option maxHeartbeats 4000000 in
theorem m_ref6_end_ok (a0 : List (Int × Int × Int)) (a1 : Int) (r : Int) (h : m_ref6_end a0 a1 = some r) : Pure Tryd.prog 116 [(.row 3 c_api_TypeNode a0), (.exact (.int .i64 a1))] (.exact (.int .i64 r)) := by
  unfold m_ref6_end at h
  refine Pure.ofFun (fun_of_awp Tryd.func116 rfl Tryd.ntmps116 (by simp) rfl (res1 rfl) fun E hE => k_end ?_)
  refine k_seq ?_
  refine k_reg .free hmixP (by kernel_rfl) ?_
  refine G_q rfl (op_assign (av := .exact (.int .i64 0)) rfl ?_)
  refine G_nil ?_
  refine kC_normal ?_
  refine k_join1_0 h (fun (x1_j1 : Int) => (AF.put AF0 (some 1) (.exact (.int .i64 x1_j1)))) (fun (x1_j1 : Int) => []) (fun k1 h => ?_) (fun x1_j1 h => ?_)
  · refine k_seq ?_
    refine k_reg .free hmixP (by kernel_rfl) ?_
    refine G_q rfl (op_assign (av := .exact (.int .i64 1)) rfl ?_)
    refine G_nil ?_
    refine kC_normal ?_
    refine k_block ?_
    refine k_loop2_0 (m_ref6_end_L2 a0 k1) (m_ref6_end_B2 a0 k1) (fun _ _ => rfl) (fun m _ _ => rfl) h (fun (x1_l2 : Int) (x5_l2 : Int) => (AF.put (AF.put (AF.put AF0 (some 0) (.row 3 c_api_TypeNode a0)) (some 1) (.exact (.int .i64 x1_l2))) (some 5) (.exact (.int .i64 x5_l2)))) (fun (x1_l2 : Int) (x5_l2 : Int) => []) ?_ (fun rec2 x1_l2 x5_l2 h => ?_)
    · exact Sub.of_le (AF.le_put (AV.le_eq rfl) (AF.le_put (AV.le_eq rfl) (AF.le_put (AV.le_eq rfl) (AF.le_top _))))
    · unfold m_ref6_end_B2 at h
      refine k_seq ?_
      refine k_seq ?_
      refine k_reg .free hmixP (by kernel_rfl) ?_
      refine G_q rfl (op_move (av := .exact (.int .i64 x5_l2)) rfl ?_)
      refine G_q rfl (op_gtr rfl rfl ?_)
      refine G_nil ?_
      refine kC_normal ?_
      refine k_cond_d (p := 0 < x5_l2) rfl (fun hc => ?_) (fun hc => ?_)
      · replace h := ite_t h hc
        refine k_skip ?_
        refine kC_normal ?_
        refine k_seq ?_
        refine k_block ?_
        refine k_reg .free hmixP (by kernel_rfl) ?_
        refine G_q rfl (op_move (av := .exact (.int .i64 x5_l2)) rfl ?_)
        refine G_q rfl (op_move (av := .row 3 c_api_TypeNode a0) rfl ?_)
        refine G_q rfl (op_move (av := .exact (.int .i64 x1_l2)) rfl ?_)
        obtain ⟨n8, h⟩ := need_some h
        refine G_q rfl (op_index_row (by kernel_rfl) rfl rfl n8.1 n8.2 ?_)
        refine G_q rfl (op_fieldAddr_ptr (o := 2) (c' := (List.drop 2 (c_api_TypeNode (gi a0 x1_l2)))) (by kernel_rfl) rfl rfl ?_)
        refine G_q rfl (op_load1p (a := .exact (.int .i64 ((gi a0 x1_l2).2.2))) (by kernel_rfl) rfl rfl ?_)
        refine G_q rfl (op_sub rfl rfl rfl ?_)
        refine G_q rfl (op_add rfl rfl rfl ?_)
        refine G_q rfl (op_assign (av := .exact (.int .i64 (i64 (x5_l2 + (i64 (((gi a0 x1_l2).2.2) - 1)))))) rfl ?_)
        refine G_nil ?_
        refine kB_normal ?_
        refine kC_normal ?_
        refine k_reg .free hmixP (by kernel_rfl) ?_
        refine G_q rfl (op_move (av := .exact (.int .i64 x1_l2)) rfl ?_)
        refine G_q rfl (op_add rfl rfl rfl ?_)
        refine G_q rfl (op_assign (av := .exact (.int .i64 (i64 (x1_l2 + 1)))) rfl ?_)
        refine G_nil ?_
        refine kI_normal ⟨_, _, h, ?_⟩
        exact Sub.of_le (AF.le_put (AV.le_eq rfl) (AF.le_put (AV.le_eq rfl) (AF.le_put (AV.le_eq rfl) (AF.le_top _))))
      · replace h := ite_f h hc
        refine k_exit ?_
        refine kC_exit ?_
        refine kI_exit ?_
        refine kB_exit ?_
        refine kI_normal ⟨_, h, ?_⟩
        exact Sub.of_le (AF.le_put (AV.le_eq rfl) (AF.le_top _))
  · refine k_seq ?_
    refine k_reg .free hmixP (by kernel_rfl) ?_
    refine G_q rfl (op_move (av := .exact (.int .i64 x1_j1)) rfl ?_)
    refine G_q rfl (op_assign (av := .exact (.int .i64 x1_j1)) rfl ?_)
    refine G_nil ?_
    refine kC_normal ?_
    refine k_ret ?_
    obtain rfl := Option.some.inj h
    refine kP_any (endN (af' := (AF.put AF0 (some 4) (.exact (.int .i64 x1_j1)))) (σ' := []) _ rfl ?_ ⟨rfl, rfl⟩)
    exact Sub.of_le (AF.le_put (AV.le_eq rfl) (AF.le_top _))
set_option maxHeartbeats 4000000 in
theorem m_ref6_parts_ok (a0 : List (Int × Int × Int)) (r : (List (List (Int × Int × Int)))) (h : m_ref6_parts a0 = some r) : Pure Tryd.prog 87 [(.row 3 c_api_TypeNode a0)] (.row 1 c_L_api_TypeNode r) := by
  unfold m_ref6_parts at h
  refine Pure.ofFun (fun_of_awp Tryd.func87 rfl Tryd.ntmps87 (by simp) rfl (res1 rfl) fun E hE => k_end ?_)
  refine k_seq ?_
  refine k_reg .free hmixP (by kernel_rfl) ?_
  refine G_q rfl (op_assign (av := .exact (.slice none 0 0)) rfl ?_)
  refine G_nil ?_
  refine kC_normal ?_
  refine k_seq ?_
  refine k_reg .free hmixP (by kernel_rfl) ?_
  refine G_q rfl (op_assign (av := .exact (.slice none 0 0)) rfl ?_)
  refine G_nil ?_
  refine kC_normal ?_
  refine k_seq ?_
  refine k_reg .free hmixP (by kernel_rfl) ?_
  refine G_q rfl (op_assign (av := .exact (.int .i64 1)) rfl ?_)
  refine G_nil ?_
  refine kC_normal ?_
  refine k_join1_1 h (fun (x3_j1 : List (List (Int × Int × Int))) (v3_j1 : Value) => (AF.put AF0 (some 3) (.exact v3_j1))) (fun (x3_j1 : List (List (Int × Int × Int))) (v3_j1 : Value) => [vecT Tryd.prog 91 1 c_L_api_TypeNode v3_j1 x3_j1]) (fun k1 h => ?_) (fun x3_j1 v3_j1 h => ?_)
  · refine k_seq ?_
    refine k_reg .free hmixP (by kernel_rfl) ?_
    refine G_q rfl (op_assign (av := .exact (.int .i64 0)) rfl ?_)
    refine G_nil ?_
    refine kC_normal ?_
    refine k_block ?_
    refine k_loop3_1 (m_ref6_parts_L2 a0 k1) (m_ref6_parts_B2 a0 k1) (fun _ _ _ => rfl) (fun m _ _ _ => rfl) h (fun (x3_l2 : List (List (Int × Int × Int))) (x4_l2 : Int) (x5_l2 : Int) (v3_l2 : Value) => (AF.put (AF.put (AF.put (AF.put AF0 (some 0) (.row 3 c_api_TypeNode a0)) (some 3) (.exact v3_l2)) (some 4) (.exact (.int .i64 x4_l2))) (some 5) (.exact (.int .i64 x5_l2)))) (fun (x3_l2 : List (List (Int × Int × Int))) (x4_l2 : Int) (x5_l2 : Int) (v3_l2 : Value) => [vecT Tryd.prog 91 1 c_L_api_TypeNode v3_l2 x3_l2]) (.slice none 0 0) ?_ (fun rec2 x3_l2 x4_l2 x5_l2 v3_l2 h => ?_)
    · refine Sub.trans (SubU.to (SubU.nilT (P := Tryd.prog) (t := 91) (n := 1) (enc := c_L_api_TypeNode))) ?_
      exact Sub.of_le (AF.le_put (AV.le_eq rfl) (AF.le_put (AV.le_eq rfl) (AF.le_put (AV.le_eq rfl) (AF.le_put (AV.le_eq rfl) (AF.le_top _)))))
    · unfold m_ref6_parts_B2 at h
      refine k_seq ?_
      refine k_seq ?_
      refine k_reg .free hmixP (by kernel_rfl) ?_
      refine G_q rfl (op_move (av := .exact (.int .i64 x5_l2)) rfl ?_)
      refine G_q rfl (op_move (av := .row 3 c_api_TypeNode a0) rfl ?_)
      obtain ⟨n28, h⟩ := need_some h
      refine G_q rfl (op_index_row (by kernel_rfl) rfl rfl n28.1 n28.2 ?_)
      refine G_q rfl (op_fieldAddr_ptr (o := 2) (c' := (List.drop 2 (c_api_TypeNode (gi a0 0)))) (by kernel_rfl) rfl rfl ?_)
      refine G_q rfl (op_load1p (a := .exact (.int .i64 ((gi a0 0).2.2))) (by kernel_rfl) rfl rfl ?_)
      refine G_q rfl (op_lss rfl rfl ?_)
      refine G_nil ?_
      refine kC_normal ?_
      refine k_cond_d (p := x5_l2 < ((gi a0 0).2.2)) rfl (fun hc => ?_) (fun hc => ?_)
      · replace h := ite_t h hc
        refine k_skip ?_
        refine kC_normal ?_
        refine k_seq ?_
        refine k_block ?_
        refine k_seq ?_
        refine k_reg .free hmixP (by kernel_rfl) ?_
        refine G_q rfl (op_move (av := .row 3 c_api_TypeNode a0) rfl ?_)
        refine G_q rfl (op_move (av := .exact (.int .i64 x4_l2)) rfl ?_)
        obtain ⟨y29, hy29, h⟩ := bnd1_some h
        refine G_q rfl (op_pure (m_ref6_end_ok _ _ _ hy29) Tryd.func116 (by kernel_rfl) (LEs.cons (AV.le_eq rfl) (LEs.cons (AV.le_eq rfl) LEs.nil)) ?_)
        refine G_q rfl (op_assign (av := .exact (.int .i64 y29)) rfl ?_)
        refine G_nil ?_
        refine kC_normal ?_
        refine k_seq ?_
        refine k_reg .free hmixP (by kernel_rfl) ?_
        refine G_q rfl (op_move (av := .exact v3_l2) rfl ?_)
        refine G_q rfl (op_move (av := .row 3 c_api_TypeNode a0) rfl ?_)
        refine G_q rfl (op_move (av := .exact (.int .i64 x4_l2)) rfl ?_)
        refine G_q rfl (op_move (av := .exact (.int .i64 y29)) rfl ?_)
        obtain ⟨n30, h⟩ := need_some h
        refine G_q rfl (op_slice_row (by kernel_rfl) rfl (bnd_some rfl) (bnd_some rfl) n30.1 n30.2.1 n30.2.2 ?_)
        refine G_q rfl (op_litT (n := 1) (enc := c_L_api_TypeNode) [List.take (Int.toNat y29 - Int.toNat x4_l2) (List.drop (Int.toNat x4_l2) a0)] (CellsAll.cons rfl CellsOf.row CellsAll.nil) rfl (by kernel_rfl) (LEss.cons (LEs.cons (AV.le_eq rfl) LEs.nil) LEss.nil) ?_)
        obtain ⟨n31, h⟩ := need_some h
        refine G_l rfl (op_appT (by kernel_rfl) rfl rfl oc_c_L_api_TypeNode n31 (fun v32 => ?_))
        refine G_q rfl (op_assign (av := .exact v32) rfl ?_)
        refine G_nil ?_
        refine kC_normal ?_
        refine k_reg .free hmixP (by kernel_rfl) ?_
        refine G_q rfl (op_move (av := .exact (.int .i64 y29)) rfl ?_)
        refine G_q rfl (op_assign (av := .exact (.int .i64 y29)) rfl ?_)
        refine G_nil ?_
        refine kB_normal ?_
        refine kC_normal ?_
        refine k_reg .free hmixP (by kernel_rfl) ?_
        refine G_q rfl (op_move (av := .exact (.int .i64 x5_l2)) rfl ?_)
        refine G_q rfl (op_add rfl rfl rfl ?_)
        refine G_q rfl (op_assign (av := .exact (.int .i64 (i64 (x5_l2 + 1)))) rfl ?_)
        refine G_nil ?_
        refine kI_normal ⟨_, _, _, v32, h, ?_⟩
        exact Sub.of_le (AF.le_put (AV.le_eq rfl) (AF.le_put (AV.le_eq rfl) (AF.le_put (AV.le_eq rfl) (AF.le_put (AV.le_eq rfl) (AF.le_top _)))))
      · replace h := ite_f h hc
        refine k_exit ?_
        refine kC_exit ?_
        refine kI_exit ?_
        refine kB_exit ?_
        refine kI_normal ⟨_, v3_l2, h, ?_⟩
        exact Sub.of_le (AF.le_put (AV.le_eq rfl) (AF.le_top _))
  · refine k_seq ?_
    refine k_reg .free hmixP (by kernel_rfl) ?_
    refine G_q rfl (op_move (av := .exact v3_j1) rfl ?_)
    refine G_q rfl (op_assign (av := .exact v3_j1) rfl ?_)
    refine G_nil ?_
    refine kC_normal ?_
    refine k_ret ?_
    obtain rfl := Option.some.inj h
    refine kP_any (endN (af' := (AF.put AF0 (some 2) (.row 1 c_L_api_TypeNode x3_j1))) (σ' := []) _ rfl ?_ ⟨rfl, rfl⟩)
    refine Sub.trans (SubU.to (SubU.freezeT (s := 2) rfl len_c_L_api_TypeNode)) ?_
    exact Sub.of_le (AF.le_put (AV.le_eq rfl) (AF.le_top _))
set_option maxHeartbeats 4000000 in
theorem m_ref6_match_F_ok (self_ref6_match : (List (Int × (List (Int × Int × Int)))) → (List (Int × Int × Int)) → (List (Int × Int × Int)) → Option ((List (Int × (List (Int × Int × Int)))) × Bool)) (hself_ref6_match : ∀ (a0 : List (Int × (List (Int × Int × Int)))) (a1 : List (Int × Int × Int)) (a2 : List (Int × Int × Int)) (r : (List (Int × (List (Int × Int × Int)))) × Bool), self_ref6_match a0 a1 a2 = some r → Pure Tryd.prog 72 [(.row 2 c_api_Binding a0), (.row 3 c_api_TypeNode a1), (.row 3 c_api_TypeNode a2)] (.tup [.row 2 c_api_Binding r.1, .exact (.bool r.2)])) (a0 : List (Int × (List (Int × Int × Int)))) (a1 : List (Int × Int × Int)) (a2 : List (Int × Int × Int)) (r : (List (Int × (List (Int × Int × Int)))) × Bool) (h : m_ref6_match_F self_ref6_match a0 a1 a2 = some r) : Pure Tryd.prog 72 [(.row 2 c_api_Binding a0), (.row 3 c_api_TypeNode a1), (.row 3 c_api_TypeNode a2)] (.tup [.row 2 c_api_Binding r.1, .exact (.bool r.2)]) := by
  unfold m_ref6_match_F at h
  refine Pure.ofFun (fun_of_awp Tryd.func72 rfl Tryd.ntmps72 (by simp) rfl (res2 rfl) fun E hE => k_end ?_)
  refine k_seq ?_
  refine k_reg .free hmixP (by kernel_rfl) ?_
  refine G_q rfl (op_assign (av := .exact (.slice none 0 0)) rfl ?_)
  refine G_q rfl (op_assign (av := .exact (.bool false)) rfl ?_)
  refine G_nil ?_
  refine kC_normal ?_
  refine k_join0_0 h ((AF.put (AF.put (AF.put AF0 (some 0) (.row 2 c_api_Binding a0)) (some 1) (.row 3 c_api_TypeNode a1)) (some 2) (.row 3 c_api_TypeNode a2))) ([]) (fun k1 h => ?_) (fun  h => ?_)
  · refine k_seq ?_
    refine k_reg .free hmixP (by kernel_rfl) ?_
    refine G_q rfl (op_move (av := .row 3 c_api_TypeNode a1) rfl ?_)
    obtain ⟨n110, h⟩ := need_some h
    refine G_q rfl (op_index_row (by kernel_rfl) rfl rfl n110.1 n110.2 ?_)
    refine G_q rfl (op_fieldAddr_ptr (o := 0) (c' := (List.drop 0 (c_api_TypeNode (gi a1 0)))) (by kernel_rfl) rfl rfl ?_)
    refine G_q rfl (op_load1p (a := .exact (.int .i64 ((gi a1 0).1))) (by kernel_rfl) rfl rfl ?_)
    refine G_q rfl (op_eql rfl rfl ?_)
    refine G_nil ?_
    refine kC_normal ?_
    refine k_cond_d (p := ((gi a1 0).1) = 1) rfl (fun hc => ?_) (fun hc => ?_)
    · replace h := ite_t h hc
      refine k_join0_0 h ((AF.put (AF.put (AF.put AF0 (some 0) (.row 2 c_api_Binding a0)) (some 1) (.row 3 c_api_TypeNode a1)) (some 2) (.row 3 c_api_TypeNode a2))) ([]) (fun k111 h => ?_) (fun  h => ?_)
      · refine k_seq ?_
        refine k_reg .free hmixP (by kernel_rfl) ?_
        refine G_q rfl (op_assign (av := .exact (.int .i64 0)) rfl ?_)
        refine G_nil ?_
        refine kC_normal ?_
        refine k_block ?_
        refine k_loop1_0 (m_ref6_match_L6 a0 a1 a2 k111) (m_ref6_match_B6 a0 a1 a2 k111) (fun _ => rfl) (fun m _ => rfl) h (fun (x8_l6 : Int) => (AF.put (AF.put (AF.put (AF.put AF0 (some 0) (.row 2 c_api_Binding a0)) (some 1) (.row 3 c_api_TypeNode a1)) (some 2) (.row 3 c_api_TypeNode a2)) (some 8) (.exact (.int .i64 x8_l6)))) (fun (x8_l6 : Int) => []) ?_ (fun rec6 x8_l6 h => ?_)
        · exact Sub.of_le (AF.le_put (AV.le_eq rfl) (AF.le_put (AV.le_eq rfl) (AF.le_put (AV.le_eq rfl) (AF.le_put (AV.le_eq rfl) (AF.le_top _)))))
        · unfold m_ref6_match_B6 at h
          refine k_seq ?_
          refine k_seq ?_
          refine k_reg .free hmixP (by kernel_rfl) ?_
          refine G_q rfl (op_move (av := .exact (.int .i64 x8_l6)) rfl ?_)
          refine G_q rfl (op_move (av := .row 2 c_api_Binding a0) rfl ?_)
          refine G_q rfl (op_len_row (by kernel_rfl) rfl ?_)
          refine G_q rfl (op_lss rfl rfl ?_)
          refine G_nil ?_
          refine kC_normal ?_
          refine k_cond_d (p := x8_l6 < (List.length a0 : Int)) rfl (fun hc => ?_) (fun hc => ?_)
          · replace h := ite_t h hc
            refine k_skip ?_
            refine kC_normal ?_
            refine k_seq ?_
            refine k_block ?_
            refine k_seq ?_
            refine k_plan [] [(0, 0), (0, 1), (0, 2), (0, 3), (0, 4), (0, 5), (0, 6), (0, 7), (0, 8), (0, 9)] hmixP (by kernel_rfl) ?_
            refine P_q no34_0 rfl (op_move (av := .row 2 c_api_Binding a0) rfl ?_)
            refine P_q no34_0 rfl (op_move (av := .exact (.int .i64 x8_l6)) rfl ?_)
            obtain ⟨n133, h⟩ := need_some h
            refine P_q no34_0 rfl (op_index_row (by kernel_rfl) rfl rfl n133.1 n133.2 ?_)
            refine P_q no34_0 rfl (op_fieldAddr_ptr (o := 0) (c' := (List.drop 0 (c_api_Binding (gi a0 x8_l6)))) (by kernel_rfl) rfl rfl ?_)
            refine P_q no34_0 rfl (op_load1p (a := .exact (.int .i64 ((gi a0 x8_l6).1))) (by kernel_rfl) rfl rfl ?_)
            refine P_q no34_0 rfl (op_move (av := .row 3 c_api_TypeNode a1) rfl ?_)
            obtain ⟨n134, h⟩ := need_some h
            refine P_q no34_0 rfl (op_index_row (by kernel_rfl) rfl rfl n134.1 n134.2 ?_)
            refine P_q no34_0 rfl (op_fieldAddr_ptr (o := 1) (c' := (List.drop 1 (c_api_TypeNode (gi a1 0)))) (by kernel_rfl) rfl rfl ?_)
            refine P_q no34_0 rfl (op_load1p (a := .exact (.int .i64 ((gi a1 0).2.1))) (by kernel_rfl) rfl rfl ?_)
            refine P_q no34_0 rfl (op_eql rfl rfl ?_)
            refine P_nil ?_
            refine kC_normal ?_
            refine k_cond_d (p := ((gi a0 x8_l6).1) = ((gi a1 0).2.1)) rfl (fun hc => ?_) (fun hc => ?_)
            · replace h := ite_t h hc
              refine k_seq ?_
              refine k_reg .free hmixP (by kernel_rfl) ?_
              refine G_q rfl (op_move (av := .row 2 c_api_Binding a0) rfl ?_)
              refine G_q rfl (op_move (av := .row 2 c_api_Binding a0) rfl ?_)
              refine G_q rfl (op_move (av := .exact (.int .i64 x8_l6)) rfl ?_)
              obtain ⟨n135, h⟩ := need_some h
              refine G_q rfl (op_index_row (by kernel_rfl) rfl rfl n135.1 n135.2 ?_)
              refine G_q rfl (op_fieldAddr_ptr (o := 1) (c' := (List.drop 1 (c_api_Binding (gi a0 x8_l6)))) (by kernel_rfl) rfl rfl ?_)
              refine G_q rfl (op_load1p (a := .row 3 c_api_TypeNode ((gi a0 x8_l6).2)) (by kernel_rfl) rfl rfl ?_)
              refine G_q rfl (op_move (av := .row 3 c_api_TypeNode a2) rfl ?_)
              obtain ⟨y136, hy136, h⟩ := bnd1_some h
              refine G_q rfl (op_pure (m_ref6_Equal_ok _ _ _ hy136) Tryd.func23 (by kernel_rfl) (LEs.cons (AV.le_eq rfl) (LEs.cons (AV.le_eq rfl) LEs.nil)) ?_)
              refine G_q rfl (op_assign (av := .row 2 c_api_Binding a0) rfl ?_)
              refine G_q rfl (op_assign (av := .exact (.bool y136)) rfl ?_)
              refine G_nil ?_
              refine kC_normal ?_
              refine k_ret ?_
              refine kB_ret ?_
              refine kC_ret ?_
              refine kI_ret ?_
              refine kB_ret ?_
              refine kI_ret ?_
              refine kI_ret ?_
              obtain rfl := Option.some.inj h
              refine kP_any (endN (af' := (AF.put (AF.put AF0 (some 6) (.row 2 c_api_Binding a0)) (some 7) (.exact (.bool y136)))) (σ' := []) _ rfl ?_ ⟨rfl, rfl⟩)
              exact Sub.of_le (AF.le_put (AV.le_eq rfl) (AF.le_put (AV.le_eq rfl) (AF.le_top _)))
            · replace h := ite_f h hc
              refine k_skip ?_
              refine kB_normal ?_
              refine kC_normal ?_
              refine k_reg .free hmixP (by kernel_rfl) ?_
              refine G_q rfl (op_move (av := .exact (.int .i64 x8_l6)) rfl ?_)
              refine G_q rfl (op_add rfl rfl rfl ?_)
              refine G_q rfl (op_assign (av := .exact (.int .i64 (i64 (x8_l6 + 1)))) rfl ?_)
              refine G_nil ?_
              refine kI_normal ⟨_, h, ?_⟩
              exact Sub.of_le (AF.le_put (AV.le_eq rfl) (AF.le_put (AV.le_eq rfl) (AF.le_put (AV.le_eq rfl) (AF.le_put (AV.le_eq rfl) (AF.le_top _)))))
          · replace h := ite_f h hc
            refine k_exit ?_
            refine kC_exit ?_
            refine kI_exit ?_
            refine kB_exit ?_
            refine kI_normal ⟨h, ?_⟩
            exact Sub.of_le (AF.le_put (AV.le_eq rfl) (AF.le_put (AV.le_eq rfl) (AF.le_put (AV.le_eq rfl) (AF.le_top _))))
      · refine k_seq ?_
        refine k_reg .free hmixP (by kernel_rfl) ?_
        refine G_q rfl (op_assign (av := .exact (.int .i64 0)) rfl ?_)
        refine G_nil ?_
        refine kC_normal ?_
        refine k_join1_0 h (fun (x9_j137 : Int) => (AF.put (AF.put (AF.put (AF.put AF0 (some 0) (.row 2 c_api_Binding a0)) (some 1) (.row 3 c_api_TypeNode a1)) (some 2) (.row 3 c_api_TypeNode a2)) (some 9) (.exact (.int .i64 x9_j137)))) (fun (x9_j137 : Int) => []) (fun k137 h => ?_) (fun x9_j137 h => ?_)
        · refine k_block ?_
          refine k_loop1_0 (m_ref6_match_L8 a0 a1 k137) (m_ref6_match_B8 a0 a1 k137) (fun _ => rfl) (fun m _ => rfl) h (fun (x9_l8 : Int) => (AF.put (AF.put (AF.put (AF.put AF0 (some 0) (.row 2 c_api_Binding a0)) (some 1) (.row 3 c_api_TypeNode a1)) (some 2) (.row 3 c_api_TypeNode a2)) (some 9) (.exact (.int .i64 x9_l8)))) (fun (x9_l8 : Int) => []) ?_ (fun rec8 x9_l8 h => ?_)
          · exact Sub.of_le (AF.le_put (AV.le_eq rfl) (AF.le_put (AV.le_eq rfl) (AF.le_put (AV.le_eq rfl) (AF.le_put (AV.le_eq rfl) (AF.le_top _)))))
          · unfold m_ref6_match_B8 at h
            refine k_seq ?_
            refine k_join1_0 h (fun (x59_j200 : Bool) => (AF.put (AF.put (AF.put (AF.put (AF.put AF0 (some 0) (.row 2 c_api_Binding a0)) (some 1) (.row 3 c_api_TypeNode a1)) (some 2) (.row 3 c_api_TypeNode a2)) (some 9) (.exact (.int .i64 x9_l8))) (some 59) (.exact (.bool x59_j200)))) (fun (x59_j200 : Bool) => []) (fun k200 h => ?_) (fun x59_j200 h => ?_)
            · refine k_plan [] [(0, 0), (0, 1), (0, 2), (0, 3), (0, 4), (0, 5), (0, 6), (0, 7), (0, 8), (0, 9), (0, 10), (0, 11), (0, 12), (0, 13), (0, 14), (0, 15)] hmixP (by kernel_rfl) ?_
              refine P_q no34_0 rfl (op_move (av := .exact (.int .i64 x9_l8)) rfl ?_)
              refine P_q no34_0 rfl (op_move (av := .row 2 c_api_Binding a0) rfl ?_)
              refine P_q no34_0 rfl (op_len_row (by kernel_rfl) rfl ?_)
              refine P_q no34_0 rfl (op_lss rfl rfl ?_)
              refine P_q no34_0 rfl (op_move (av := .exact (.bool (decide (x9_l8 < (List.length a0 : Int))))) rfl ?_)
              refine P_split (p := x9_l8 < (List.length a0 : Int)) 48 rfl (fun hc => ?_) (fun hc => ?_)
              · replace h := ite_t h hc
                refine Py_q no34_0 rfl rfl rfl (op_move (av := .row 2 c_api_Binding a0) rfl ?_)
                refine Py_q no34_0 rfl rfl rfl (op_move (av := .exact (.int .i64 x9_l8)) rfl ?_)
                obtain ⟨n203, h⟩ := need_some h
                refine Py_q no34_0 rfl rfl rfl (op_index_row (by kernel_rfl) rfl rfl n203.1 n203.2 ?_)
                refine Py_q no34_0 rfl rfl rfl (op_fieldAddr_ptr (o := 0) (c' := (List.drop 0 (c_api_Binding (gi a0 x9_l8)))) (by kernel_rfl) rfl rfl ?_)
                refine Py_q no34_0 rfl rfl rfl (op_load1p (a := .exact (.int .i64 ((gi a0 x9_l8).1))) (by kernel_rfl) rfl rfl ?_)
                refine Py_q no34_0 rfl rfl rfl (op_move (av := .row 3 c_api_TypeNode a1) rfl ?_)
                obtain ⟨n204, h⟩ := need_some h
                refine Py_q no34_0 rfl rfl rfl (op_index_row (by kernel_rfl) rfl rfl n204.1 n204.2 ?_)
                refine Py_q no34_0 rfl rfl rfl (op_fieldAddr_ptr (o := 1) (c' := (List.drop 1 (c_api_TypeNode (gi a1 0)))) (by kernel_rfl) rfl rfl ?_)
                refine Py_q no34_0 rfl rfl rfl (op_load1p (a := .exact (.int .i64 ((gi a1 0).2.1))) (by kernel_rfl) rfl rfl ?_)
                refine Py_q no34_0 rfl rfl rfl (op_lss rfl rfl ?_)
                refine P_q no34_0 rfl (op_pick_t rfl (av := .exact (.bool (decide (((gi a0 x9_l8).1) < ((gi a1 0).2.1))))) rfl ?_)
                refine P_nil ?_
                refine kI_normal ⟨_, h, ?_⟩
                exact Sub.of_le (AF.le_put (AV.le_eq rfl) (AF.le_put (AV.le_eq rfl) (AF.le_put (AV.le_eq rfl) (AF.le_put (AV.le_eq rfl) (AF.le_put (AV.le_eq rfl) (AF.le_top _))))))
              · replace h := ite_f h hc
                refine P_n no34_0 rfl rfl rfl ?_
                refine P_n no34_0 rfl rfl rfl ?_
                refine P_n no34_0 rfl rfl rfl ?_
                refine P_n no34_0 rfl rfl rfl ?_
                refine P_n no34_0 rfl rfl rfl ?_
                refine P_n no34_0 rfl rfl rfl ?_
                refine P_n no34_0 rfl rfl rfl ?_
                refine P_n no34_0 rfl rfl rfl ?_
                refine P_n no34_0 rfl rfl rfl ?_
                refine P_n no34_0 rfl rfl rfl ?_
                refine P_q no34_0 rfl (op_pick_f rfl (av := .exact (.bool false)) rfl ?_)
                refine P_nil ?_
                refine kI_normal ⟨_, h, ?_⟩
                exact Sub.of_le (AF.le_put (AV.le_eq rfl) (AF.le_put (AV.le_eq rfl) (AF.le_put (AV.le_eq rfl) (AF.le_put (AV.le_eq rfl) (AF.le_put (AV.le_eq rfl) (AF.le_top _))))))
            · refine k_cond_b (c := x59_j200) rfl (fun hc => ?_) (fun hc => ?_)
              · replace h := ite_t h hc
                refine k_skip ?_
                refine kC_normal ?_
                refine k_block ?_
                refine k_reg .free hmixP (by kernel_rfl) ?_
                refine G_q rfl (op_move (av := .exact (.int .i64 x9_l8)) rfl ?_)
                refine G_q rfl (op_add rfl rfl rfl ?_)
                refine G_q rfl (op_assign (av := .exact (.int .i64 (i64 (x9_l8 + 1)))) rfl ?_)
                refine G_nil ?_
                refine kB_normal ?_
                refine kI_normal ⟨_, h, ?_⟩
                exact Sub.of_le (AF.le_put (AV.le_eq rfl) (AF.le_put (AV.le_eq rfl) (AF.le_put (AV.le_eq rfl) (AF.le_put (AV.le_eq rfl) (AF.le_top _)))))
              · replace h := ite_f h hc
                refine k_exit ?_
                refine kC_exit ?_
                refine kI_exit ?_
                refine kB_exit ?_
                refine kI_normal ⟨_, h, ?_⟩
                exact Sub.of_le (AF.le_put (AV.le_eq rfl) (AF.le_put (AV.le_eq rfl) (AF.le_put (AV.le_eq rfl) (AF.le_put (AV.le_eq rfl) (AF.le_top _)))))
        · refine k_seq ?_
          refine k_reg .free hmixP (by kernel_rfl) ?_
          refine G_q rfl (op_move (av := .row 2 c_api_Binding a0) rfl ?_)
          refine G_q rfl (op_move (av := .exact (.int .i64 x9_j137)) rfl ?_)
          obtain ⟨n205, h⟩ := need_some h
          refine G_q rfl (op_slice_rowt (by kernel_rfl) rfl bnd_none (bnd_some rfl) (Int.le_refl 0) n205.1 n205.2 ?_)
          obtain ⟨n206, h⟩ := need_some h
          refine G_l rfl (op_appN (enc := c_api_Binding) (by kernel_rfl) rfl rfl oc_c_api_Binding n206 (fun v207 => ?_))
          refine G_q rfl (op_assign (av := .exact v207) rfl ?_)
          refine G_nil ?_
          refine kC_normal ?_
          refine k_seq ?_
          refine k_plan [] [(0, 0), (0, 1), (0, 2), (0, 3), (0, 4), (0, 5), (0, 10), (0, 11), (0, 12), (2, 6), (0, 7), (0, 8), (2, 9), (2, 13), (0, 14), (0, 15)] hmixP (by kernel_rfl) ?_
          refine P_q no34_0 rfl (op_move (av := .exact v207) rfl ?_)
          refine P_q no34_0 rfl (op_move (av := .row 3 c_api_TypeNode a1) rfl ?_)
          obtain ⟨n208, h⟩ := need_some h
          refine P_q no34_0 rfl (op_index_row (by kernel_rfl) rfl rfl n208.1 n208.2 ?_)
          refine P_q no34_0 rfl (op_fieldAddr_ptr (o := 1) (c' := (List.drop 1 (c_api_TypeNode (gi a1 0)))) (by kernel_rfl) rfl rfl ?_)
          refine P_q no34_0 rfl (op_load1p (a := .exact (.int .i64 ((gi a1 0).2.1))) (by kernel_rfl) rfl rfl ?_)
          refine P_q no34_0 rfl (op_move (av := .row 3 c_api_TypeNode a2) rfl ?_)
          refine P_q no34_0 rfl (op_move (av := .row 2 c_api_Binding a0) rfl ?_)
          refine P_q no34_0 rfl (op_move (av := .exact (.int .i64 x9_j137)) rfl ?_)
          obtain ⟨n209, h⟩ := need_some h
          refine P_q no34_0 rfl (op_slice_rowd (by kernel_rfl) rfl (bnd_some rfl) bnd_none n209.1 n209.2 (Int.le_refl _) ?_)
          obtain ⟨n210, h⟩ := need_some h
          refine P_l rfl (opB_frz (t := 22) (n := 3) (enc := c_api_TypeNode) rfl len_c_api_TypeNode (op_appN (enc := c_api_TypeNode) (by kernel_rfl) rfl rfl oc_c_api_TypeNode n210 (fun v211 => ⟨v211, _, _, rfl, rfl, ?_⟩)))
          refine P_q no34_0 rfl (op_bld (c' := c_api_Binding ((gi a1 0).2.1, a2)) (CellsAll.cons rfl CellsOf.int (CellsAll.cons rfl CellsOf.row CellsAll.nil)) rfl (LEs.cons (AV.le_eq rfl) (LEs.cons (AV.le_eq rfl) LEs.nil)) ?_)
          refine P_q no34_0 rfl (op_litT (n := 2) (enc := c_api_Binding) [((gi a1 0).2.1, a2)] (CellsAll.cons rfl CellsOf.agg CellsAll.nil) rfl (by kernel_rfl) (LEss.cons (LEs.cons (AV.le_eq rfl) (LEs.cons (AV.le_eq rfl) LEs.nil)) LEss.nil) ?_)
          obtain ⟨n212, h⟩ := need_some h
          refine P_l rfl (op_appT (by kernel_rfl) rfl rfl oc_c_api_Binding n212 (fun v213 => ?_))
          obtain ⟨n214, h⟩ := need_some h
          refine P_l rfl (op_appT (by kernel_rfl) rfl rfl oc_c_api_Binding n214 (fun v215 => ?_))
          refine P_q no34_0 rfl (op_assign (av := .exact v215) rfl ?_)
          refine P_q no34_0 rfl (op_assign (av := .exact (.bool true)) rfl ?_)
          refine P_nil ?_
          refine kC_normal ?_
          refine k_ret ?_
          refine kI_ret ?_
          obtain rfl := Option.some.inj h
          refine kP_any (endN (af' := (AF.put (AF.put AF0 (some 6) (.row 2 c_api_Binding ((List.take (Int.toNat x9_j137) a0 ++ [((gi a1 0).2.1, a2)]) ++ (List.drop (Int.toNat x9_j137) a0)))) (some 7) (.exact (.bool true)))) (σ' := []) _ rfl ?_ ⟨rfl, rfl⟩)
          refine Sub.trans (SubU.to (SubU.freezeT (s := 6) rfl len_c_api_Binding)) ?_
          exact Sub.of_le (AF.le_put (AV.le_eq rfl) (AF.le_put (AV.le_eq rfl) (AF.le_top _)))
    · replace h := ite_f h hc
      refine k_skip ?_
      refine kI_normal ⟨h, ?_⟩
      exact Sub.of_le (AF.le_put (AV.le_eq rfl) (AF.le_put (AV.le_eq rfl) (AF.le_put (AV.le_eq rfl) (AF.le_top _))))
  · refine k_seq ?_
    refine k_seq ?_
    refine k_plan [] [(0, 0), (0, 1), (0, 2), (0, 3), (0, 4), (0, 5), (0, 6)] hmixP (by kernel_rfl) ?_
    refine P_q no34_0 rfl (op_move (av := .row 3 c_api_TypeNode a1) rfl ?_)
    obtain ⟨n216, h⟩ := need_some h
    refine P_q no34_0 rfl (op_index_row (by kernel_rfl) rfl rfl n216.1 n216.2 ?_)
    refine P_q no34_0 rfl (op_loadNp (m := 3) (c' := c_api_TypeNode (gi a1 0)) (by kernel_rfl) rfl rfl rfl ?_)
    refine P_q no34_0 rfl (op_move (av := .row 3 c_api_TypeNode a2) rfl ?_)
    obtain ⟨n217, h⟩ := need_some h
    refine P_q no34_0 rfl (op_index_row (by kernel_rfl) rfl rfl n217.1 n217.2 ?_)
    refine P_q no34_0 rfl (op_loadNp (m := 3) (c' := c_api_TypeNode (gi a2 0)) (by kernel_rfl) rfl rfl rfl ?_)
    refine P_q no34_0 rfl (op_neqA (a := (gi a1 0)) (b := (gi a2 0)) (by kernel_rfl) (eq_c_api_TypeNode _ _) rfl rfl ?_)
    refine P_nil ?_
    refine kC_normal ?_
    refine k_cond_d (p := ¬ (gi a1 0) = (gi a2 0)) rfl (fun hc => ?_) (fun hc => ?_)
    · replace h := ite_t h hc
      refine k_seq ?_
      refine k_reg .free hmixP (by kernel_rfl) ?_
      refine G_q rfl (op_assign (av := .exact (.slice none 0 0)) rfl ?_)
      refine G_q rfl (op_assign (av := .exact (.bool false)) rfl ?_)
      refine G_nil ?_
      refine kC_normal ?_
      refine k_ret ?_
      refine kC_ret ?_
      obtain rfl := Option.some.inj h
      refine kP_any (endN (af' := (AF.put (AF.put AF0 (some 6) (.row 2 c_api_Binding [])) (some 7) (.exact (.bool false)))) (σ' := []) _ rfl ?_ ⟨rfl, rfl⟩)
      exact Sub.of_le (AF.le_put (AV.le_eq rfl) (AF.le_put (row_nil (by decide)) (AF.le_top _)))
    · replace h := ite_f h hc
      refine k_skip ?_
      refine kC_normal ?_
      refine k_seq ?_
      refine k_reg .free hmixP (by kernel_rfl) ?_
      refine G_q rfl (op_move (av := .row 3 c_api_TypeNode a1) rfl ?_)
      obtain ⟨y218, hy218, h⟩ := bnd1_some h
      refine G_q rfl (op_pure (m_ref6_parts_ok _ _ hy218) Tryd.func87 (by kernel_rfl) (LEs.cons (AV.le_eq rfl) LEs.nil) ?_)
      refine G_q rfl (op_move (av := .row 3 c_api_TypeNode a2) rfl ?_)
      obtain ⟨y219, hy219, h⟩ := bnd1_some h
      refine G_q rfl (op_pure (m_ref6_parts_ok _ _ hy219) Tryd.func87 (by kernel_rfl) (LEs.cons (AV.le_eq rfl) LEs.nil) ?_)
      refine G_q rfl (op_assign (av := .row 1 c_L_api_TypeNode y218) rfl ?_)
      refine G_q rfl (op_assign (av := .row 1 c_L_api_TypeNode y219) rfl ?_)
      refine G_nil ?_
      refine kC_normal ?_
      refine k_join1_0 h (fun (x0_j220 : List (Int × (List (Int × Int × Int)))) => (AF.put AF0 (some 0) (.row 2 c_api_Binding x0_j220))) (fun (x0_j220 : List (Int × (List (Int × Int × Int)))) => []) (fun k220 h => ?_) (fun x0_j220 h => ?_)
      · refine k_seq ?_
        refine k_reg .free hmixP (by kernel_rfl) ?_
        refine G_q rfl (op_assign (av := .exact (.int .i64 0)) rfl ?_)
        refine G_nil ?_
        refine kC_normal ?_
        refine k_block ?_
        refine k_loop2_0 (m_ref6_match_L10 self_ref6_match y218 y219 k220) (m_ref6_match_B10 self_ref6_match y218 y219 k220) (fun _ _ => rfl) (fun m _ _ => rfl) h (fun (x0_l10 : List (Int × (List (Int × Int × Int)))) (x13_l10 : Int) => (AF.put (AF.put (AF.put (AF.put AF0 (some 0) (.row 2 c_api_Binding x0_l10)) (some 11) (.row 1 c_L_api_TypeNode y218)) (some 12) (.row 1 c_L_api_TypeNode y219)) (some 13) (.exact (.int .i64 x13_l10)))) (fun (x0_l10 : List (Int × (List (Int × Int × Int)))) (x13_l10 : Int) => []) ?_ (fun rec10 x0_l10 x13_l10 h => ?_)
        · exact Sub.of_le (AF.le_put (AV.le_eq rfl) (AF.le_put (AV.le_eq rfl) (AF.le_put (AV.le_eq rfl) (AF.le_put (AV.le_eq rfl) (AF.le_top _)))))
        · unfold m_ref6_match_B10 at h
          refine k_seq ?_
          refine k_seq ?_
          refine k_reg .free hmixP (by kernel_rfl) ?_
          refine G_q rfl (op_move (av := .exact (.int .i64 x13_l10)) rfl ?_)
          refine G_q rfl (op_move (av := .row 1 c_L_api_TypeNode y218) rfl ?_)
          refine G_q rfl (op_len_row (by kernel_rfl) rfl ?_)
          refine G_q rfl (op_lss rfl rfl ?_)
          refine G_nil ?_
          refine kC_normal ?_
          refine k_cond_d (p := x13_l10 < (List.length y218 : Int)) rfl (fun hc => ?_) (fun hc => ?_)
          · replace h := ite_t h hc
            refine k_skip ?_
            refine kC_normal ?_
            refine k_seq ?_
            refine k_block ?_
            refine k_seq ?_
            refine k_reg .free hmixP (by kernel_rfl) ?_
            refine G_q rfl (op_assign (av := .exact (.bool false)) rfl ?_)
            refine G_nil ?_
            refine kC_normal ?_
            refine k_seq ?_
            refine k_plan [] [(0, 0), (0, 1), (0, 2), (0, 3), (0, 4), (0, 5), (0, 6), (0, 7), (0, 8), (0, 9), (0, 10), (0, 11), (0, 12), (0, 13), (0, 14)] hmixP (by kernel_rfl) ?_
            refine P_q no34_0 rfl (op_move (av := .row 2 c_api_Binding x0_l10) rfl ?_)
            refine P_q no34_0 rfl (op_move (av := .row 1 c_L_api_TypeNode y218) rfl ?_)
            refine P_q no34_0 rfl (op_move (av := .exact (.int .i64 x13_l10)) rfl ?_)
            obtain ⟨n237, h⟩ := need_some h
            refine P_q no34_0 rfl (op_index_row (by kernel_rfl) rfl rfl n237.1 n237.2 ?_)
            refine P_q no34_0 rfl (op_load1p (a := .row 3 c_api_TypeNode (gi y218 x13_l10)) (by kernel_rfl) rfl rfl ?_)
            refine P_q no34_0 rfl (op_move (av := .row 1 c_L_api_TypeNode y219) rfl ?_)
            refine P_q no34_0 rfl (op_move (av := .exact (.int .i64 x13_l10)) rfl ?_)
            obtain ⟨n238, h⟩ := need_some h
            refine P_q no34_0 rfl (op_index_row (by kernel_rfl) rfl rfl n238.1 n238.2 ?_)
            refine P_q no34_0 rfl (op_load1p (a := .row 3 c_api_TypeNode (gi y219 x13_l10)) (by kernel_rfl) rfl rfl ?_)
            obtain ⟨y239, hy239, h⟩ := bnd1_some h
            refine P_q no34_0 rfl (op_pure (hself_ref6_match _ _ _ _ hy239) Tryd.func72 (by kernel_rfl) (LEs.cons (AV.le_eq rfl) (LEs.cons (AV.le_eq rfl) (LEs.cons (AV.le_eq rfl) LEs.nil))) ?_)
            refine P_q no34_0 rfl (op_move (av := .tup [.row 2 c_api_Binding y239.1, .exact (.bool y239.2)]) rfl ?_)
            refine P_q no34_0 rfl (op_extract (av := .row 2 c_api_Binding y239.1) rfl rfl ?_)
            refine P_q no34_0 rfl (op_extract (av := .exact (.bool y239.2)) rfl rfl ?_)
            refine P_q no34_0 rfl (op_assign (av := .row 2 c_api_Binding y239.1) rfl ?_)
            refine P_q no34_0 rfl (op_assign (av := .exact (.bool y239.2)) rfl ?_)
            refine P_nil ?_
            refine kC_normal ?_
            refine k_seq ?_
            refine k_reg .free hmixP (by kernel_rfl) ?_
            refine G_q rfl (op_move (av := .exact (.bool y239.2)) rfl ?_)
            refine G_q rfl (op_not rfl ?_)
            refine G_nil ?_
            refine kC_normal ?_
            refine k_cond_b (c := !y239.2) rfl (fun hc => ?_) (fun hc => ?_)
            · replace h := ite_t h hc
              refine k_seq ?_
              refine k_reg .free hmixP (by kernel_rfl) ?_
              refine G_q rfl (op_assign (av := .exact (.slice none 0 0)) rfl ?_)
              refine G_q rfl (op_assign (av := .exact (.bool false)) rfl ?_)
              refine G_nil ?_
              refine kC_normal ?_
              refine k_ret ?_
              refine kB_ret ?_
              refine kC_ret ?_
              refine kI_ret ?_
              refine kB_ret ?_
              refine kI_ret ?_
              obtain rfl := Option.some.inj h
              refine kP_any (endN (af' := (AF.put (AF.put AF0 (some 6) (.row 2 c_api_Binding [])) (some 7) (.exact (.bool false)))) (σ' := []) _ rfl ?_ ⟨rfl, rfl⟩)
              exact Sub.of_le (AF.le_put (AV.le_eq rfl) (AF.le_put (row_nil (by decide)) (AF.le_top _)))
            · replace h := ite_f h hc
              refine k_skip ?_
              refine kB_normal ?_
              refine kC_normal ?_
              refine k_reg .free hmixP (by kernel_rfl) ?_
              refine G_q rfl (op_move (av := .exact (.int .i64 x13_l10)) rfl ?_)
              refine G_q rfl (op_add rfl rfl rfl ?_)
              refine G_q rfl (op_assign (av := .exact (.int .i64 (i64 (x13_l10 + 1)))) rfl ?_)
              refine G_nil ?_
              refine kI_normal ⟨_, _, h, ?_⟩
              exact Sub.of_le (AF.le_put (AV.le_eq rfl) (AF.le_put (AV.le_eq rfl) (AF.le_put (AV.le_eq rfl) (AF.le_put (AV.le_eq rfl) (AF.le_top _)))))
          · replace h := ite_f h hc
            refine k_exit ?_
            refine kC_exit ?_
            refine kI_exit ?_
            refine kB_exit ?_
            refine kI_normal ⟨_, h, ?_⟩
            exact Sub.of_le (AF.le_put (AV.le_eq rfl) (AF.le_top _))
      · refine k_seq ?_
        refine k_reg .free hmixP (by kernel_rfl) ?_
        refine G_q rfl (op_move (av := .row 2 c_api_Binding x0_j220) rfl ?_)
        refine G_q rfl (op_assign (av := .row 2 c_api_Binding x0_j220) rfl ?_)
        refine G_q rfl (op_assign (av := .exact (.bool true)) rfl ?_)
        refine G_nil ?_
        refine kC_normal ?_
        refine k_ret ?_
        obtain rfl := Option.some.inj h
        refine kP_any (endN (af' := (AF.put (AF.put AF0 (some 6) (.row 2 c_api_Binding x0_j220)) (some 7) (.exact (.bool true)))) (σ' := []) _ rfl ?_ ⟨rfl, rfl⟩)
        exact Sub.of_le (AF.le_put (AV.le_eq rfl) (AF.le_put (AV.le_eq rfl) (AF.le_top _)))
set_option maxHeartbeats 4000000 in
theorem m_ref6_match_S_ok : ∀ n : Nat, (∀ (a0 : List (Int × (List (Int × Int × Int)))) (a1 : List (Int × Int × Int)) (a2 : List (Int × Int × Int)) (r : (List (Int × (List (Int × Int × Int)))) × Bool), m_ref6_match_S n a0 a1 a2 = some r → Pure Tryd.prog 72 [(.row 2 c_api_Binding a0), (.row 3 c_api_TypeNode a1), (.row 3 c_api_TypeNode a2)] (.tup [.row 2 c_api_Binding r.1, .exact (.bool r.2)]))
  | 0 => (fun _ _ _ _ h => by have h' : (none : Option _) = some _ := h; cases h')
  | n + 1 => by
    have ih := m_ref6_match_S_ok n
    exact fun a0 a1 a2 r h => m_ref6_match_F_ok (m_ref6_match_S n) ih a0 a1 a2 r h
theorem m_ref6_match_ok (a0 : List (Int × (List (Int × Int × Int)))) (a1 : List (Int × Int × Int)) (a2 : List (Int × Int × Int)) (r : (List (Int × (List (Int × Int × Int)))) × Bool) (h : m_ref6_match a0 a1 a2 = some r) : Pure Tryd.prog 72 [(.row 2 c_api_Binding a0), (.row 3 c_api_TypeNode a1), (.row 3 c_api_TypeNode a2)] (.tup [.row 2 c_api_Binding r.1, .exact (.bool r.2)]) := (m_ref6_match_S_ok FU) a0 a1 a2 r h
set_option maxHeartbeats 4000000 in
theorem m_ref6_Match_ok (a0 : List (Int × Int × Int)) (a1 : List (Int × Int × Int)) (r : (List (Int × (List (Int × Int × Int)))) × Bool) (h : m_ref6_Match a0 a1 = some r) : Pure Tryd.prog 39 [(.row 3 c_api_TypeNode a0), (.row 3 c_api_TypeNode a1)] (.tup [.row 2 c_api_Binding r.1, .exact (.bool r.2)]) := by
  unfold m_ref6_Match at h
  refine Pure.ofFun (fun_of_awp Tryd.func39 rfl Tryd.ntmps39 (by simp) rfl (res2 rfl) fun E hE => k_end ?_)
  refine k_seq ?_
  refine k_reg .free hmixP (by kernel_rfl) ?_
  refine G_q rfl (op_assign (av := .exact (.slice none 0 0)) rfl ?_)
  refine G_q rfl (op_assign (av := .exact (.bool false)) rfl ?_)
  refine G_nil ?_
  refine kC_normal ?_
  refine k_seq ?_
  refine k_join1_0 h (fun (x15_j7 : Bool) => (AF.put (AF.put (AF.put AF0 (some 0) (.row 3 c_api_TypeNode a0)) (some 1) (.row 3 c_api_TypeNode a1)) (some 15) (.exact (.bool x15_j7)))) (fun (x15_j7 : Bool) => []) (fun k7 h => ?_) (fun x15_j7 h => ?_)
  · refine k_reg .free hmixP (by kernel_rfl) ?_
    refine G_q rfl (op_move (av := .row 3 c_api_TypeNode a0) rfl ?_)
    obtain ⟨y10, hy10, h⟩ := bnd1_some h
    refine G_q rfl (op_pure (m_ref6_ValidType_ok _ _ hy10) Tryd.func30 (by kernel_rfl) (LEs.cons (AV.le_eq rfl) LEs.nil) ?_)
    refine G_q rfl (op_not rfl ?_)
    refine G_q rfl (op_move (av := .exact (.bool (!y10))) rfl ?_)
    refine G_splitB (c := !y10) 11 rfl (fun hc => ?_) (fun hc => ?_)
    · replace h := ite_t h hc
      refine G_n rfl rfl ?_
      refine G_n rfl rfl ?_
      refine G_n rfl rfl ?_
      refine G_q rfl (op_pick_t rfl (av := .exact (.bool true)) rfl ?_)
      refine G_nil ?_
      refine kI_normal ⟨_, h, ?_⟩
      exact Sub.of_le (AF.le_put (AV.le_eq rfl) (AF.le_put (AV.le_eq rfl) (AF.le_put (AV.le_eq rfl) (AF.le_top _))))
    · replace h := ite_f h hc
      refine Gy_q rfl rfl rfl (op_move (av := .row 3 c_api_TypeNode a1) rfl ?_)
      obtain ⟨y11, hy11, h⟩ := bnd1_some h
      refine Gy_q rfl rfl rfl (op_pure (m_ref6_ValidType_ok _ _ hy11) Tryd.func30 (by kernel_rfl) (LEs.cons (AV.le_eq rfl) LEs.nil) ?_)
      refine Gy_q rfl rfl rfl (op_not rfl ?_)
      refine G_q rfl (op_pick_f rfl (av := .exact (.bool (!y11))) rfl ?_)
      refine G_nil ?_
      refine kI_normal ⟨_, h, ?_⟩
      exact Sub.of_le (AF.le_put (AV.le_eq rfl) (AF.le_put (AV.le_eq rfl) (AF.le_put (AV.le_eq rfl) (AF.le_top _))))
  · refine k_cond_b (c := x15_j7) rfl (fun hc => ?_) (fun hc => ?_)
    · replace h := ite_t h hc
      refine k_seq ?_
      refine k_reg .free hmixP (by kernel_rfl) ?_
      refine G_q rfl (op_assign (av := .exact (.slice none 0 0)) rfl ?_)
      refine G_q rfl (op_assign (av := .exact (.bool false)) rfl ?_)
      refine G_nil ?_
      refine kC_normal ?_
      refine k_ret ?_
      refine kC_ret ?_
      obtain rfl := Option.some.inj h
      refine kP_any (endN (af' := (AF.put (AF.put AF0 (some 4) (.row 2 c_api_Binding [])) (some 5) (.exact (.bool false)))) (σ' := []) _ rfl ?_ ⟨rfl, rfl⟩)
      exact Sub.of_le (AF.le_put (AV.le_eq rfl) (AF.le_put (row_nil (by decide)) (AF.le_top _)))
    · replace h := ite_f h hc
      refine k_skip ?_
      refine kC_normal ?_
      refine k_seq ?_
      refine k_reg .free hmixP (by kernel_rfl) ?_
      refine G_q rfl (op_move (av := .row 3 c_api_TypeNode a0) rfl ?_)
      refine G_q rfl (op_move (av := .row 3 c_api_TypeNode a1) rfl ?_)
      obtain ⟨y12, hy12, h⟩ := bnd1_some h
      refine G_q rfl (op_pure (m_ref6_match_ok _ _ _ _ hy12) Tryd.func72 (by kernel_rfl) (LEs.cons (row_nil (by decide)) (LEs.cons (AV.le_eq rfl) (LEs.cons (AV.le_eq rfl) LEs.nil))) ?_)
      refine G_q rfl (op_move (av := .tup [.row 2 c_api_Binding y12.1, .exact (.bool y12.2)]) rfl ?_)
      refine G_q rfl (op_extract (av := .row 2 c_api_Binding y12.1) rfl rfl ?_)
      refine G_q rfl (op_extract (av := .exact (.bool y12.2)) rfl rfl ?_)
      refine G_q rfl (op_assign (av := .row 2 c_api_Binding y12.1) rfl ?_)
      refine G_q rfl (op_assign (av := .exact (.bool y12.2)) rfl ?_)
      refine G_nil ?_
      refine kC_normal ?_
      refine k_seq ?_
      refine k_seq ?_
      refine k_reg .free hmixP (by kernel_rfl) ?_
      refine G_q rfl (op_move (av := .exact (.bool y12.2)) rfl ?_)
      refine G_q rfl (op_not rfl ?_)
      refine G_nil ?_
      refine kC_normal ?_
      refine k_cond_b (c := !y12.2) rfl (fun hc => ?_) (fun hc => ?_)
      · replace h := ite_t h hc
        refine k_seq ?_
        refine k_reg .free hmixP (by kernel_rfl) ?_
        refine G_q rfl (op_assign (av := .exact (.slice none 0 0)) rfl ?_)
        refine G_q rfl (op_assign (av := .exact (.bool false)) rfl ?_)
        refine G_nil ?_
        refine kC_normal ?_
        refine k_ret ?_
        refine kC_ret ?_
        obtain rfl := Option.some.inj h
        refine kP_any (endN (af' := (AF.put (AF.put AF0 (some 4) (.row 2 c_api_Binding [])) (some 5) (.exact (.bool false)))) (σ' := []) _ rfl ?_ ⟨rfl, rfl⟩)
        exact Sub.of_le (AF.le_put (AV.le_eq rfl) (AF.le_put (row_nil (by decide)) (AF.le_top _)))
      · replace h := ite_f h hc
        refine k_skip ?_
        refine kC_normal ?_
        refine k_seq ?_
        refine k_reg .free hmixP (by kernel_rfl) ?_
        refine G_q rfl (op_move (av := .row 2 c_api_Binding y12.1) rfl ?_)
        refine G_q rfl (op_assign (av := .row 2 c_api_Binding y12.1) rfl ?_)
        refine G_q rfl (op_assign (av := .exact (.bool true)) rfl ?_)
        refine G_nil ?_
        refine kC_normal ?_
        refine k_ret ?_
        obtain rfl := Option.some.inj h
        refine kP_any (endN (af' := (AF.put (AF.put AF0 (some 4) (.row 2 c_api_Binding y12.1)) (some 5) (.exact (.bool true)))) (σ' := []) _ rfl ?_ ⟨rfl, rfl⟩)
        exact Sub.of_le (AF.le_put (AV.le_eq rfl) (AF.le_put (AV.le_eq rfl) (AF.le_top _)))
set_option maxHeartbeats 4000000 in
theorem m_help_SameTypes_ok (a0 : List (Int × (List (Int × Int × Int)))) (a1 : List (Int × (List (Int × Int × Int)))) (r : Bool) (h : m_help_SameTypes a0 a1 = some r) : Pure Tryd.prog 17 [(.row 2 c_api_Binding a0), (.row 2 c_api_Binding a1)] (.exact (.bool r)) := by
  unfold m_help_SameTypes at h
  refine Pure.ofFun (fun_of_awp Tryd.func17 rfl Tryd.ntmps17 (by simp) rfl (res1 rfl) fun E hE => k_end ?_)
  refine k_seq ?_
  refine k_reg .free hmixP (by kernel_rfl) ?_
  refine G_q rfl (op_assign (av := .exact (.bool false)) rfl ?_)
  refine G_nil ?_
  refine kC_normal ?_
  refine k_seq ?_
  refine k_seq ?_
  refine k_reg .free hmixP (by kernel_rfl) ?_
  refine G_q rfl (op_move (av := .row 2 c_api_Binding a0) rfl ?_)
  refine G_q rfl (op_len_row (by kernel_rfl) rfl ?_)
  refine G_q rfl (op_move (av := .row 2 c_api_Binding a1) rfl ?_)
  refine G_q rfl (op_len_row (by kernel_rfl) rfl ?_)
  refine G_q rfl (op_neq rfl rfl ?_)
  refine G_nil ?_
  refine kC_normal ?_
  refine k_cond_d (p := ¬ (List.length a0 : Int) = (List.length a1 : Int)) rfl (fun hc => ?_) (fun hc => ?_)
  · replace h := ite_t h hc
    refine k_seq ?_
    refine k_reg .free hmixP (by kernel_rfl) ?_
    refine G_q rfl (op_assign (av := .exact (.bool false)) rfl ?_)
    refine G_nil ?_
    refine kC_normal ?_
    refine k_ret ?_
    refine kC_ret ?_
    obtain rfl := Option.some.inj h
    refine kP_any (endN (af' := (AF.put AF0 (some 4) (.exact (.bool false)))) (σ' := []) _ rfl ?_ ⟨rfl, rfl⟩)
    exact Sub.of_le (AF.le_put (AV.le_eq rfl) (AF.le_top _))
  · replace h := ite_f h hc
    refine k_skip ?_
    refine kC_normal ?_
    refine k_join0_0 h (AF0) ([]) (fun k1 h => ?_) (fun  h => ?_)
    · refine k_seq ?_
      refine k_reg .free hmixP (by kernel_rfl) ?_
      refine G_q rfl (op_assign (av := .exact (.int .i64 0)) rfl ?_)
      refine G_nil ?_
      refine kC_normal ?_
      refine k_block ?_
      refine k_loop1_0 (m_help_SameTypes_L2 a0 a1 k1) (m_help_SameTypes_B2 a0 a1 k1) (fun _ => rfl) (fun m _ => rfl) h (fun (x5_l2 : Int) => (AF.put (AF.put (AF.put AF0 (some 0) (.row 2 c_api_Binding a0)) (some 1) (.row 2 c_api_Binding a1)) (some 5) (.exact (.int .i64 x5_l2)))) (fun (x5_l2 : Int) => []) ?_ (fun rec2 x5_l2 h => ?_)
      · exact Sub.of_le (AF.le_put (AV.le_eq rfl) (AF.le_put (AV.le_eq rfl) (AF.le_put (AV.le_eq rfl) (AF.le_top _))))
      · unfold m_help_SameTypes_B2 at h
        refine k_seq ?_
        refine k_seq ?_
        refine k_reg .free hmixP (by kernel_rfl) ?_
        refine G_q rfl (op_move (av := .exact (.int .i64 x5_l2)) rfl ?_)
        refine G_q rfl (op_move (av := .row 2 c_api_Binding a0) rfl ?_)
        refine G_q rfl (op_len_row (by kernel_rfl) rfl ?_)
        refine G_q rfl (op_lss rfl rfl ?_)
        refine G_nil ?_
        refine kC_normal ?_
        refine k_cond_d (p := x5_l2 < (List.length a0 : Int)) rfl (fun hc => ?_) (fun hc => ?_)
        · replace h := ite_t h hc
          refine k_skip ?_
          refine kC_normal ?_
          refine k_seq ?_
          refine k_block ?_
          refine k_join1_0 h (fun (x41_j130 : Bool) => (AF.put (AF.put (AF.put (AF.put AF0 (some 0) (.row 2 c_api_Binding a0)) (some 1) (.row 2 c_api_Binding a1)) (some 5) (.exact (.int .i64 x5_l2))) (some 41) (.exact (.bool x41_j130)))) (fun (x41_j130 : Bool) => []) (fun k130 h => ?_) (fun x41_j130 h => ?_)
          · refine k_plan [] [(0, 0), (0, 1), (0, 2), (0, 3), (0, 4), (0, 5), (0, 6), (0, 7), (0, 8), (0, 9), (0, 10), (0, 11), (0, 12), (0, 13), (0, 14), (0, 15), (0, 16), (0, 17), (0, 18), (0, 19), (0, 20), (0, 21), (0, 22), (0, 23), (0, 24)] hmixP (by kernel_rfl) ?_
            refine P_q no34_0 rfl (op_move (av := .row 2 c_api_Binding a0) rfl ?_)
            refine P_q no34_0 rfl (op_move (av := .exact (.int .i64 x5_l2)) rfl ?_)
            obtain ⟨n136, h⟩ := need_some h
            refine P_q no34_0 rfl (op_index_row (by kernel_rfl) rfl rfl n136.1 n136.2 ?_)
            refine P_q no34_0 rfl (op_fieldAddr_ptr (o := 0) (c' := (List.drop 0 (c_api_Binding (gi a0 x5_l2)))) (by kernel_rfl) rfl rfl ?_)
            refine P_q no34_0 rfl (op_load1p (a := .exact (.int .i64 ((gi a0 x5_l2).1))) (by kernel_rfl) rfl rfl ?_)
            refine P_q no34_0 rfl (op_move (av := .row 2 c_api_Binding a1) rfl ?_)
            refine P_q no34_0 rfl (op_move (av := .exact (.int .i64 x5_l2)) rfl ?_)
            obtain ⟨n137, h⟩ := need_some h
            refine P_q no34_0 rfl (op_index_row (by kernel_rfl) rfl rfl n137.1 n137.2 ?_)
            refine P_q no34_0 rfl (op_fieldAddr_ptr (o := 0) (c' := (List.drop 0 (c_api_Binding (gi a1 x5_l2)))) (by kernel_rfl) rfl rfl ?_)
            refine P_q no34_0 rfl (op_load1p (a := .exact (.int .i64 ((gi a1 x5_l2).1))) (by kernel_rfl) rfl rfl ?_)
            refine P_q no34_0 rfl (op_neq rfl rfl ?_)
            refine P_q no34_0 rfl (op_move (av := .exact (.bool (decide (¬ ((gi a0 x5_l2).1) = ((gi a1 x5_l2).1))))) rfl ?_)
            refine P_split (p := ¬ ((gi a0 x5_l2).1) = ((gi a1 x5_l2).1)) 28 rfl (fun hc => ?_) (fun hc => ?_)
            · replace h := ite_t h hc
              refine P_n no34_0 rfl rfl rfl ?_
              refine P_n no34_0 rfl rfl rfl ?_
              refine P_n no34_0 rfl rfl rfl ?_
              refine P_n no34_0 rfl rfl rfl ?_
              refine P_n no34_0 rfl rfl rfl ?_
              refine P_n no34_0 rfl rfl rfl ?_
              refine P_n no34_0 rfl rfl rfl ?_
              refine P_n no34_0 rfl rfl rfl ?_
              refine P_n no34_0 rfl rfl rfl ?_
              refine P_n no34_0 rfl rfl rfl ?_
              refine P_n no34_0 rfl rfl rfl ?_
              refine P_n no34_0 rfl rfl rfl ?_
              refine P_q no34_0 rfl (op_pick_t rfl (av := .exact (.bool true)) rfl ?_)
              refine P_nil ?_
              refine kI_normal ⟨_, h, ?_⟩
              exact Sub.of_le (AF.le_put (AV.le_eq rfl) (AF.le_put (AV.le_eq rfl) (AF.le_put (AV.le_eq rfl) (AF.le_put (AV.le_eq rfl) (AF.le_top _)))))
            · replace h := ite_f h hc
              refine Py_q no34_0 rfl rfl rfl (op_move (av := .row 2 c_api_Binding a0) rfl ?_)
              refine Py_q no34_0 rfl rfl rfl (op_move (av := .exact (.int .i64 x5_l2)) rfl ?_)
              obtain ⟨n138, h⟩ := need_some h
              refine Py_q no34_0 rfl rfl rfl (op_index_row (by kernel_rfl) rfl rfl n138.1 n138.2 ?_)
              refine Py_q no34_0 rfl rfl rfl (op_fieldAddr_ptr (o := 1) (c' := (List.drop 1 (c_api_Binding (gi a0 x5_l2)))) (by kernel_rfl) rfl rfl ?_)
              refine Py_q no34_0 rfl rfl rfl (op_load1p (a := .row 3 c_api_TypeNode ((gi a0 x5_l2).2)) (by kernel_rfl) rfl rfl ?_)
              refine Py_q no34_0 rfl rfl rfl (op_move (av := .row 2 c_api_Binding a1) rfl ?_)
              refine Py_q no34_0 rfl rfl rfl (op_move (av := .exact (.int .i64 x5_l2)) rfl ?_)
              obtain ⟨n139, h⟩ := need_some h
              refine Py_q no34_0 rfl rfl rfl (op_index_row (by kernel_rfl) rfl rfl n139.1 n139.2 ?_)
              refine Py_q no34_0 rfl rfl rfl (op_fieldAddr_ptr (o := 1) (c' := (List.drop 1 (c_api_Binding (gi a1 x5_l2)))) (by kernel_rfl) rfl rfl ?_)
              refine Py_q no34_0 rfl rfl rfl (op_load1p (a := .row 3 c_api_TypeNode ((gi a1 x5_l2).2)) (by kernel_rfl) rfl rfl ?_)
              obtain ⟨y140, hy140, h⟩ := bnd1_some h
              refine Py_q no34_0 rfl rfl rfl (op_pure (m_help_Equal_api_TypeNode_ok _ _ _ hy140) Tryd.func21 (by kernel_rfl) (LEs.cons (AV.le_eq rfl) (LEs.cons (AV.le_eq rfl) LEs.nil)) ?_)
              refine Py_q no34_0 rfl rfl rfl (op_not rfl ?_)
              refine P_q no34_0 rfl (op_pick_f rfl (av := .exact (.bool (!y140))) rfl ?_)
              refine P_nil ?_
              refine kI_normal ⟨_, h, ?_⟩
              exact Sub.of_le (AF.le_put (AV.le_eq rfl) (AF.le_put (AV.le_eq rfl) (AF.le_put (AV.le_eq rfl) (AF.le_put (AV.le_eq rfl) (AF.le_top _)))))
          · refine k_cond_b (c := x41_j130) rfl (fun hc => ?_) (fun hc => ?_)
            · replace h := ite_t h hc
              refine k_seq ?_
              refine k_reg .free hmixP (by kernel_rfl) ?_
              refine G_q rfl (op_assign (av := .exact (.bool false)) rfl ?_)
              refine G_nil ?_
              refine kC_normal ?_
              refine k_ret ?_
              refine kB_ret ?_
              refine kC_ret ?_
              refine kI_ret ?_
              refine kB_ret ?_
              refine kI_ret ?_
              obtain rfl := Option.some.inj h
              refine kP_any (endN (af' := (AF.put AF0 (some 4) (.exact (.bool false)))) (σ' := []) _ rfl ?_ ⟨rfl, rfl⟩)
              exact Sub.of_le (AF.le_put (AV.le_eq rfl) (AF.le_top _))
            · replace h := ite_f h hc
              refine k_skip ?_
              refine kB_normal ?_
              refine kC_normal ?_
              refine k_reg .free hmixP (by kernel_rfl) ?_
              refine G_q rfl (op_move (av := .exact (.int .i64 x5_l2)) rfl ?_)
              refine G_q rfl (op_add rfl rfl rfl ?_)
              refine G_q rfl (op_assign (av := .exact (.int .i64 (i64 (x5_l2 + 1)))) rfl ?_)
              refine G_nil ?_
              refine kI_normal ⟨_, h, ?_⟩
              exact Sub.of_le (AF.le_put (AV.le_eq rfl) (AF.le_put (AV.le_eq rfl) (AF.le_put (AV.le_eq rfl) (AF.le_top _))))
        · replace h := ite_f h hc
          refine k_exit ?_
          refine kC_exit ?_
          refine kI_exit ?_
          refine kB_exit ?_
          refine kI_normal ⟨h, ?_⟩
          exact Sub.of_le (AF.le_top _)
    · refine k_seq ?_
      refine k_reg .free hmixP (by kernel_rfl) ?_
      refine G_q rfl (op_assign (av := .exact (.bool true)) rfl ?_)
      refine G_nil ?_
      refine kC_normal ?_
      refine k_ret ?_
      obtain rfl := Option.some.inj h
      refine kP_any (endN (af' := (AF.put AF0 (some 4) (.exact (.bool true)))) (σ' := []) _ rfl ?_ ⟨rfl, rfl⟩)
      exact Sub.of_le (AF.le_put (AV.le_eq rfl) (AF.le_top _))
set_option maxHeartbeats 4000000 in
theorem m_ref6_substitution_ok (a0 : List (Int × (List (Int × Int × Int)))) (r : Bool) (h : m_ref6_substitution a0 = some r) : Pure Tryd.prog 54 [(.row 2 c_api_Binding a0)] (.exact (.bool r)) := by
  unfold m_ref6_substitution at h
  refine Pure.ofFun (fun_of_awp Tryd.func54 rfl Tryd.ntmps54 (by simp) rfl (res1 rfl) fun E hE => k_end ?_)
  refine k_seq ?_
  refine k_reg .free hmixP (by kernel_rfl) ?_
  refine G_q rfl (op_assign (av := .exact (.bool false)) rfl ?_)
  refine G_nil ?_
  refine kC_normal ?_
  refine k_join0_0 h (AF0) ([]) (fun k1 h => ?_) (fun  h => ?_)
  · refine k_seq ?_
    refine k_reg .free hmixP (by kernel_rfl) ?_
    refine G_q rfl (op_assign (av := .exact (.int .i64 0)) rfl ?_)
    refine G_nil ?_
    refine kC_normal ?_
    refine k_block ?_
    refine k_loop1_0 (m_ref6_substitution_L2 a0 k1) (m_ref6_substitution_B2 a0 k1) (fun _ => rfl) (fun m _ => rfl) h (fun (x3_l2 : Int) => (AF.put (AF.put AF0 (some 0) (.row 2 c_api_Binding a0)) (some 3) (.exact (.int .i64 x3_l2)))) (fun (x3_l2 : Int) => []) ?_ (fun rec2 x3_l2 h => ?_)
    · exact Sub.of_le (AF.le_put (AV.le_eq rfl) (AF.le_put (AV.le_eq rfl) (AF.le_top _)))
    · unfold m_ref6_substitution_B2 at h
      refine k_seq ?_
      refine k_seq ?_
      refine k_reg .free hmixP (by kernel_rfl) ?_
      refine G_q rfl (op_move (av := .exact (.int .i64 x3_l2)) rfl ?_)
      refine G_q rfl (op_move (av := .row 2 c_api_Binding a0) rfl ?_)
      refine G_q rfl (op_len_row (by kernel_rfl) rfl ?_)
      refine G_q rfl (op_lss rfl rfl ?_)
      refine G_nil ?_
      refine kC_normal ?_
      refine k_cond_d (p := x3_l2 < (List.length a0 : Int)) rfl (fun hc => ?_) (fun hc => ?_)
      · replace h := ite_t h hc
        refine k_skip ?_
        refine kC_normal ?_
        refine k_seq ?_
        refine k_block ?_
        refine k_join1_0 h (fun (x34_j108 : Bool) => (AF.put (AF.put (AF.put AF0 (some 0) (.row 2 c_api_Binding a0)) (some 3) (.exact (.int .i64 x3_l2))) (some 34) (.exact (.bool x34_j108)))) (fun (x34_j108 : Bool) => []) (fun k108 h => ?_) (fun x34_j108 h => ?_)
        · refine k_plan [] [(0, 0), (0, 1), (0, 2), (0, 3), (0, 4), (0, 5), (0, 6), (0, 7), (0, 8), (0, 9), (0, 10), (0, 11), (0, 12), (0, 13), (0, 14), (0, 15), (0, 16), (0, 17), (0, 18), (0, 19), (0, 20), (0, 21), (0, 22), (0, 23), (0, 24)] hmixP (by kernel_rfl) ?_
          refine P_q no34_0 rfl (op_move (av := .row 2 c_api_Binding a0) rfl ?_)
          refine P_q no34_0 rfl (op_move (av := .exact (.int .i64 x3_l2)) rfl ?_)
          obtain ⟨n113, h⟩ := need_some h
          refine P_q no34_0 rfl (op_index_row (by kernel_rfl) rfl rfl n113.1 n113.2 ?_)
          refine P_q no34_0 rfl (op_fieldAddr_ptr (o := 1) (c' := (List.drop 1 (c_api_Binding (gi a0 x3_l2)))) (by kernel_rfl) rfl rfl ?_)
          refine P_q no34_0 rfl (op_load1p (a := .row 3 c_api_TypeNode ((gi a0 x3_l2).2)) (by kernel_rfl) rfl rfl ?_)
          obtain ⟨y114, hy114, h⟩ := bnd1_some h
          refine P_q no34_0 rfl (op_pure (m_ref6_ValidType_ok _ _ hy114) Tryd.func30 (by kernel_rfl) (LEs.cons (AV.le_eq rfl) LEs.nil) ?_)
          refine P_q no34_0 rfl (op_not rfl ?_)
          refine P_q no34_0 rfl (op_move (av := .exact (.bool (!y114))) rfl ?_)
          refine P_splitB (c := !y114) 17 rfl (fun hc => ?_) (fun hc => ?_)
          · replace h := ite_t h hc
            refine P_n no34_0 rfl rfl rfl ?_
            refine P_n no34_0 rfl rfl rfl ?_
            refine P_n no34_0 rfl rfl rfl ?_
            refine P_u no34_0 rfl rfl rfl ?_
            refine P_u no34_0 rfl rfl rfl ?_
            refine P_u no34_0 rfl rfl rfl ?_
            refine P_u no34_0 rfl rfl rfl ?_
            refine P_u no34_0 rfl rfl rfl ?_
            refine P_u no34_0 rfl rfl rfl ?_
            refine P_u no34_0 rfl rfl rfl ?_
            refine P_u no34_0 rfl rfl rfl ?_
            refine P_u no34_0 rfl rfl rfl ?_
            refine P_u no34_0 rfl rfl rfl ?_
            refine P_u no34_0 rfl rfl rfl ?_
            refine P_u no34_0 rfl rfl rfl ?_
            refine P_n no34_0 rfl rfl rfl ?_
            refine P_q no34_0 rfl (op_pick_t rfl (av := .exact (.bool true)) rfl ?_)
            refine P_nil ?_
            refine kI_normal ⟨_, h, ?_⟩
            exact Sub.of_le (AF.le_put (AV.le_eq rfl) (AF.le_put (AV.le_eq rfl) (AF.le_put (AV.le_eq rfl) (AF.le_top _))))
          · replace h := ite_f h hc
            refine Py_q no34_0 rfl rfl rfl (op_move (av := .exact (.int .i64 x3_l2)) rfl ?_)
            refine Py_q no34_0 rfl rfl rfl (op_gtr rfl rfl ?_)
            refine Py_q no34_0 rfl rfl rfl (op_move (av := .exact (.bool (decide (0 < x3_l2)))) rfl ?_)
            refine P_split (p := 0 < x3_l2) 20 rfl (fun hc => ?_) (fun hc => ?_)
            · replace h := ite_t h hc
              refine Py_q no34_0 rfl rfl rfl (op_move (av := .row 2 c_api_Binding a0) rfl ?_)
              refine Py_q no34_0 rfl rfl rfl (op_move (av := .exact (.int .i64 x3_l2)) rfl ?_)
              obtain ⟨n115, h⟩ := need_some h
              refine Py_q no34_0 rfl rfl rfl (op_index_row (by kernel_rfl) rfl rfl n115.1 n115.2 ?_)
              refine Py_q no34_0 rfl rfl rfl (op_fieldAddr_ptr (o := 0) (c' := (List.drop 0 (c_api_Binding (gi a0 x3_l2)))) (by kernel_rfl) rfl rfl ?_)
              refine Py_q no34_0 rfl rfl rfl (op_load1p (a := .exact (.int .i64 ((gi a0 x3_l2).1))) (by kernel_rfl) rfl rfl ?_)
              refine Py_q no34_0 rfl rfl rfl (op_move (av := .row 2 c_api_Binding a0) rfl ?_)
              refine Py_q no34_0 rfl rfl rfl (op_move (av := .exact (.int .i64 x3_l2)) rfl ?_)
              refine Py_q no34_0 rfl rfl rfl (op_sub rfl rfl rfl ?_)
              obtain ⟨n116, h⟩ := need_some h
              refine Py_q no34_0 rfl rfl rfl (op_index_row (by kernel_rfl) rfl rfl n116.1 n116.2 ?_)
              refine Py_q no34_0 rfl rfl rfl (op_fieldAddr_ptr (o := 0) (c' := (List.drop 0 (c_api_Binding (gi a0 (i64 (x3_l2 - 1)))))) (by kernel_rfl) rfl rfl ?_)
              refine Py_q no34_0 rfl rfl rfl (op_load1p (a := .exact (.int .i64 ((gi a0 (i64 (x3_l2 - 1))).1))) (by kernel_rfl) rfl rfl ?_)
              refine Py_q no34_0 rfl rfl rfl (op_leq rfl rfl ?_)
              refine Py_q no34_0 rfl rfl rfl (op_pick_t rfl (av := .exact (.bool (decide (((gi a0 x3_l2).1) ≤ ((gi a0 (i64 (x3_l2 - 1))).1))))) rfl ?_)
              refine P_q no34_0 rfl (op_pick_f rfl (av := .exact (.bool (decide (((gi a0 x3_l2).1) ≤ ((gi a0 (i64 (x3_l2 - 1))).1))))) rfl ?_)
              refine P_nil ?_
              refine kI_normal ⟨_, h, ?_⟩
              exact Sub.of_le (AF.le_put (AV.le_eq rfl) (AF.le_put (AV.le_eq rfl) (AF.le_put (AV.le_eq rfl) (AF.le_top _))))
            · replace h := ite_f h hc
              refine P_n no34_0 rfl rfl rfl ?_
              refine P_n no34_0 rfl rfl rfl ?_
              refine P_n no34_0 rfl rfl rfl ?_
              refine P_n no34_0 rfl rfl rfl ?_
              refine P_n no34_0 rfl rfl rfl ?_
              refine P_n no34_0 rfl rfl rfl ?_
              refine P_n no34_0 rfl rfl rfl ?_
              refine P_n no34_0 rfl rfl rfl ?_
              refine P_n no34_0 rfl rfl rfl ?_
              refine P_n no34_0 rfl rfl rfl ?_
              refine P_n no34_0 rfl rfl rfl ?_
              refine P_n no34_0 rfl rfl rfl ?_
              refine Py_q no34_0 rfl rfl rfl (op_pick_f rfl (av := .exact (.bool false)) rfl ?_)
              refine P_q no34_0 rfl (op_pick_f rfl (av := .exact (.bool false)) rfl ?_)
              refine P_nil ?_
              refine kI_normal ⟨_, h, ?_⟩
              exact Sub.of_le (AF.le_put (AV.le_eq rfl) (AF.le_put (AV.le_eq rfl) (AF.le_put (AV.le_eq rfl) (AF.le_top _))))
        · refine k_cond_b (c := x34_j108) rfl (fun hc => ?_) (fun hc => ?_)
          · replace h := ite_t h hc
            refine k_seq ?_
            refine k_reg .free hmixP (by kernel_rfl) ?_
            refine G_q rfl (op_assign (av := .exact (.bool false)) rfl ?_)
            refine G_nil ?_
            refine kC_normal ?_
            refine k_ret ?_
            refine kB_ret ?_
            refine kC_ret ?_
            refine kI_ret ?_
            refine kB_ret ?_
            refine kI_ret ?_
            obtain rfl := Option.some.inj h
            refine kP_any (endN (af' := (AF.put AF0 (some 2) (.exact (.bool false)))) (σ' := []) _ rfl ?_ ⟨rfl, rfl⟩)
            exact Sub.of_le (AF.le_put (AV.le_eq rfl) (AF.le_top _))
          · replace h := ite_f h hc
            refine k_skip ?_
            refine kB_normal ?_
            refine kC_normal ?_
            refine k_reg .free hmixP (by kernel_rfl) ?_
            refine G_q rfl (op_move (av := .exact (.int .i64 x3_l2)) rfl ?_)
            refine G_q rfl (op_add rfl rfl rfl ?_)
            refine G_q rfl (op_assign (av := .exact (.int .i64 (i64 (x3_l2 + 1)))) rfl ?_)
            refine G_nil ?_
            refine kI_normal ⟨_, h, ?_⟩
            exact Sub.of_le (AF.le_put (AV.le_eq rfl) (AF.le_put (AV.le_eq rfl) (AF.le_top _)))
      · replace h := ite_f h hc
        refine k_exit ?_
        refine kC_exit ?_
        refine kI_exit ?_
        refine kB_exit ?_
        refine kI_normal ⟨h, ?_⟩
        exact Sub.of_le (AF.le_top _)
  · refine k_seq ?_
    refine k_reg .free hmixP (by kernel_rfl) ?_
    refine G_q rfl (op_assign (av := .exact (.bool true)) rfl ?_)
    refine G_nil ?_
    refine kC_normal ?_
    refine k_ret ?_
    obtain rfl := Option.some.inj h
    refine kP_any (endN (af' := (AF.put AF0 (some 2) (.exact (.bool true)))) (σ' := []) _ rfl ?_ ⟨rfl, rfl⟩)
    exact Sub.of_le (AF.le_put (AV.le_eq rfl) (AF.le_top _))
set_option maxHeartbeats 4000000 in
theorem m_ref6_replace_ok (a0 : List (Int × (List (Int × Int × Int)))) (a1 : List (Int × Int × Int)) (r : (List (Int × Int × Int))) (h : m_ref6_replace a0 a1 = some r) : Pure Tryd.prog 55 [(.row 2 c_api_Binding a0), (.row 3 c_api_TypeNode a1)] (.row 3 c_api_TypeNode r) := by
  unfold m_ref6_replace at h
  refine Pure.ofFun (fun_of_awp Tryd.func55 rfl Tryd.ntmps55 (by simp) rfl (res1 rfl) fun E hE => k_end ?_)
  refine k_seq ?_
  refine k_reg .free hmixP (by kernel_rfl) ?_
  refine G_q rfl (op_assign (av := .exact (.slice none 0 0)) rfl ?_)
  refine G_nil ?_
  refine kC_normal ?_
  refine k_seq ?_
  refine k_reg .free hmixP (by kernel_rfl) ?_
  refine G_q rfl (op_assign (av := .exact (.slice none 0 0)) rfl ?_)
  refine G_nil ?_
  refine kC_normal ?_
  refine k_join1_1 h (fun (x5_j1 : List (Int × Int × Int)) (v5_j1 : Value) => (AF.put AF0 (some 5) (.exact v5_j1))) (fun (x5_j1 : List (Int × Int × Int)) (v5_j1 : Value) => [vecT Tryd.prog 22 3 c_api_TypeNode v5_j1 x5_j1]) (fun k1 h => ?_) (fun x5_j1 v5_j1 h => ?_)
  · refine k_seq ?_
    refine k_reg .free hmixP (by kernel_rfl) ?_
    refine G_q rfl (op_assign (av := .exact (.int .i64 0)) rfl ?_)
    refine G_nil ?_
    refine kC_normal ?_
    refine k_block ?_
    refine k_loop2_1 (m_ref6_replace_L14 a0 a1 k1) (m_ref6_replace_B14 a0 a1 k1) (fun _ _ => rfl) (fun m _ _ => rfl) h (fun (x5_l14 : List (Int × Int × Int)) (x6_l14 : Int) (v5_l14 : Value) => (AF.put (AF.put (AF.put (AF.put AF0 (some 0) (.row 2 c_api_Binding a0)) (some 1) (.row 3 c_api_TypeNode a1)) (some 5) (.exact v5_l14)) (some 6) (.exact (.int .i64 x6_l14)))) (fun (x5_l14 : List (Int × Int × Int)) (x6_l14 : Int) (v5_l14 : Value) => [vecT Tryd.prog 22 3 c_api_TypeNode v5_l14 x5_l14]) (.slice none 0 0) ?_ (fun rec14 x5_l14 x6_l14 v5_l14 h => ?_)
    · refine Sub.trans (SubU.to (SubU.nilT (P := Tryd.prog) (t := 22) (n := 3) (enc := c_api_TypeNode))) ?_
      exact Sub.of_le (AF.le_put (AV.le_eq rfl) (AF.le_put (AV.le_eq rfl) (AF.le_put (AV.le_eq rfl) (AF.le_put (AV.le_eq rfl) (AF.le_top _)))))
    · unfold m_ref6_replace_B14 at h
      refine k_seq ?_
      refine k_seq ?_
      refine k_reg .free hmixP (by kernel_rfl) ?_
      refine G_q rfl (op_move (av := .exact (.int .i64 x6_l14)) rfl ?_)
      refine G_q rfl (op_move (av := .row 3 c_api_TypeNode a1) rfl ?_)
      refine G_q rfl (op_len_row (by kernel_rfl) rfl ?_)
      refine G_q rfl (op_lss rfl rfl ?_)
      refine G_nil ?_
      refine kC_normal ?_
      refine k_cond_d (p := x6_l14 < (List.length a1 : Int)) rfl (fun hc => ?_) (fun hc => ?_)
      · replace h := ite_t h hc
        refine k_skip ?_
        refine kC_normal ?_
        refine k_join1_1 h (fun (x5_j1148 : List (Int × Int × Int)) (v5_j1148 : Value) => (AF.put (AF.put (AF.put (AF.put AF0 (some 0) (.row 2 c_api_Binding a0)) (some 1) (.row 3 c_api_TypeNode a1)) (some 5) (.exact v5_j1148)) (some 6) (.exact (.int .i64 x6_l14)))) (fun (x5_j1148 : List (Int × Int × Int)) (v5_j1148 : Value) => [vecT Tryd.prog 22 3 c_api_TypeNode v5_j1148 x5_j1148]) (fun k1148 h => ?_) (fun x5_j1148 v5_j1148 h => ?_)
        · refine k_block ?_
          refine k_seq ?_
          refine k_reg .free hmixP (by kernel_rfl) ?_
          refine G_q rfl (op_assign (av := .exact (.bool false)) rfl ?_)
          refine G_nil ?_
          refine kC_normal ?_
          refine k_join2_1 h (fun (x5_j1263 : List (Int × Int × Int)) (x7_j1263 : Bool) (v5_j1263 : Value) => (AF.put (AF.put (AF.put (AF.put (AF.put AF0 (some 0) (.row 2 c_api_Binding a0)) (some 1) (.row 3 c_api_TypeNode a1)) (some 5) (.exact v5_j1263)) (some 6) (.exact (.int .i64 x6_l14))) (some 7) (.exact (.bool x7_j1263)))) (fun (x5_j1263 : List (Int × Int × Int)) (x7_j1263 : Bool) (v5_j1263 : Value) => [vecT Tryd.prog 22 3 c_api_TypeNode v5_j1263 x5_j1263]) (fun k1263 h => ?_) (fun x5_j1263 x7_j1263 v5_j1263 h => ?_)
          · refine k_seq ?_
            refine k_reg .free hmixP (by kernel_rfl) ?_
            refine G_q rfl (op_assign (av := .exact (.int .i64 0)) rfl ?_)
            refine G_nil ?_
            refine kC_normal ?_
            refine k_block ?_
            refine k_loop3_1 (m_ref6_replace_L26 a0 a1 x6_l14 k1263) (m_ref6_replace_B26 a0 a1 x6_l14 k1263) (fun _ _ _ => rfl) (fun m _ _ _ => rfl) h (fun (x5_l26 : List (Int × Int × Int)) (x7_l26 : Bool) (x8_l26 : Int) (v5_l26 : Value) => (AF.put (AF.put (AF.put (AF.put (AF.put (AF.put AF0 (some 0) (.row 2 c_api_Binding a0)) (some 1) (.row 3 c_api_TypeNode a1)) (some 5) (.exact v5_l26)) (some 6) (.exact (.int .i64 x6_l14))) (some 7) (.exact (.bool x7_l26))) (some 8) (.exact (.int .i64 x8_l26)))) (fun (x5_l26 : List (Int × Int × Int)) (x7_l26 : Bool) (x8_l26 : Int) (v5_l26 : Value) => [vecT Tryd.prog 22 3 c_api_TypeNode v5_l26 x5_l26]) v5_l14 ?_ (fun rec26 x5_l26 x7_l26 x8_l26 v5_l26 h => ?_)
            · exact Sub.of_le (AF.le_put (AV.le_eq rfl) (AF.le_put (AV.le_eq rfl) (AF.le_put (AV.le_eq rfl) (AF.le_put (AV.le_eq rfl) (AF.le_put (AV.le_eq rfl) (AF.le_put (AV.le_eq rfl) (AF.le_top _)))))))
            · unfold m_ref6_replace_B26 at h
              refine k_seq ?_
              refine k_join1_0 h (fun (x26_j1359 : Bool) => (AF.put (AF.put (AF.put (AF.put (AF.put (AF.put (AF.put AF0 (some 0) (.row 2 c_api_Binding a0)) (some 1) (.row 3 c_api_TypeNode a1)) (some 5) (.exact v5_l26)) (some 6) (.exact (.int .i64 x6_l14))) (some 7) (.exact (.bool x7_l26))) (some 8) (.exact (.int .i64 x8_l26))) (some 26) (.exact (.bool x26_j1359)))) (fun (x26_j1359 : Bool) => [vecT Tryd.prog 22 3 c_api_TypeNode v5_l26 x5_l26]) (fun k1359 h => ?_) (fun x26_j1359 h => ?_)
              · refine k_reg .free hmixP (by kernel_rfl) ?_
                refine G_q rfl (op_move (av := .row 3 c_api_TypeNode a1) rfl ?_)
                refine G_q rfl (op_move (av := .exact (.int .i64 x6_l14)) rfl ?_)
                obtain ⟨n1361, h⟩ := need_some h
                refine G_q rfl (op_index_row (by kernel_rfl) rfl rfl n1361.1 n1361.2 ?_)
                refine G_q rfl (op_fieldAddr_ptr (o := 0) (c' := (List.drop 0 (c_api_TypeNode (gi a1 x6_l14)))) (by kernel_rfl) rfl rfl ?_)
                refine G_q rfl (op_load1p (a := .exact (.int .i64 ((gi a1 x6_l14).1))) (by kernel_rfl) rfl rfl ?_)
                refine G_q rfl (op_eql rfl rfl ?_)
                refine G_q rfl (op_move (av := .exact (.bool (decide (((gi a1 x6_l14).1) = 1)))) rfl ?_)
                refine G_split (p := ((gi a1 x6_l14).1) = 1) 21 rfl (fun hc => ?_) (fun hc => ?_)
                · replace h := ite_t h hc
                  refine Gy_q rfl rfl rfl (op_move (av := .exact (.int .i64 x8_l26)) rfl ?_)
                  refine Gy_q rfl rfl rfl (op_move (av := .row 2 c_api_Binding a0) rfl ?_)
                  refine Gy_q rfl rfl rfl (op_len_row (by kernel_rfl) rfl ?_)
                  refine Gy_q rfl rfl rfl (op_lss rfl rfl ?_)
                  refine G_q rfl (op_pick_t rfl (av := .exact (.bool (decide (x8_l26 < (List.length a0 : Int))))) rfl ?_)
                  refine G_nil ?_
                  refine kI_normal ⟨_, h, ?_⟩
                  exact Sub.of_le (AF.le_put (AV.le_eq rfl) (AF.le_put (AV.le_eq rfl) (AF.le_put (AV.le_eq rfl) (AF.le_put (AV.le_eq rfl) (AF.le_put (AV.le_eq rfl) (AF.le_put (AV.le_eq rfl) (AF.le_put (AV.le_eq rfl) (AF.le_top _))))))))
                · replace h := ite_f h hc
                  refine G_n rfl rfl ?_
                  refine G_n rfl rfl ?_
                  refine G_n rfl rfl ?_
                  refine G_n rfl rfl ?_
                  refine G_q rfl (op_pick_f rfl (av := .exact (.bool false)) rfl ?_)
                  refine G_nil ?_
                  refine kI_normal ⟨_, h, ?_⟩
                  exact Sub.of_le (AF.le_put (AV.le_eq rfl) (AF.le_put (AV.le_eq rfl) (AF.le_put (AV.le_eq rfl) (AF.le_put (AV.le_eq rfl) (AF.le_put (AV.le_eq rfl) (AF.le_put (AV.le_eq rfl) (AF.le_put (AV.le_eq rfl) (AF.le_top _))))))))
              · refine k_cond_b (c := x26_j1359) rfl (fun hc => ?_) (fun hc => ?_)
                · replace h := ite_t h hc
                  refine k_skip ?_
                  refine kC_normal ?_
                  refine k_join2_1 h (fun (x5_j1362 : List (Int × Int × Int)) (x7_j1362 : Bool) (v5_j1362 : Value) => (AF.put (AF.put (AF.put (AF.put (AF.put (AF.put AF0 (some 0) (.row 2 c_api_Binding a0)) (some 1) (.row 3 c_api_TypeNode a1)) (some 5) (.exact v5_j1362)) (some 6) (.exact (.int .i64 x6_l14))) (some 7) (.exact (.bool x7_j1362))) (some 8) (.exact (.int .i64 x8_l26)))) (fun (x5_j1362 : List (Int × Int × Int)) (x7_j1362 : Bool) (v5_j1362 : Value) => [vecT Tryd.prog 22 3 c_api_TypeNode v5_j1362 x5_j1362]) (fun k1362 h => ?_) (fun x5_j1362 x7_j1362 v5_j1362 h => ?_)
                  · refine k_block ?_
                    refine k_seq ?_
                    refine k_plan [] [(0, 0), (0, 1), (0, 2), (0, 3), (0, 4), (0, 5), (0, 6), (0, 7), (0, 8), (0, 9), (0, 10)] hmixP (by kernel_rfl) ?_
                    refine P_q no34_0 rfl (op_move (av := .row 2 c_api_Binding a0) rfl ?_)
                    refine P_q no34_0 rfl (op_move (av := .exact (.int .i64 x8_l26)) rfl ?_)
                    obtain ⟨n1368, h⟩ := need_some h
                    refine P_q no34_0 rfl (op_index_row (by kernel_rfl) rfl rfl n1368.1 n1368.2 ?_)
                    refine P_q no34_0 rfl (op_fieldAddr_ptr (o := 0) (c' := (List.drop 0 (c_api_Binding (gi a0 x8_l26)))) (by kernel_rfl) rfl rfl ?_)
                    refine P_q no34_0 rfl (op_load1p (a := .exact (.int .i64 ((gi a0 x8_l26).1))) (by kernel_rfl) rfl rfl ?_)
                    refine P_q no34_0 rfl (op_move (av := .row 3 c_api_TypeNode a1) rfl ?_)
                    refine P_q no34_0 rfl (op_move (av := .exact (.int .i64 x6_l14)) rfl ?_)
                    obtain ⟨n1369, h⟩ := need_some h
                    refine P_q no34_0 rfl (op_index_row (by kernel_rfl) rfl rfl n1369.1 n1369.2 ?_)
                    refine P_q no34_0 rfl (op_fieldAddr_ptr (o := 1) (c' := (List.drop 1 (c_api_TypeNode (gi a1 x6_l14)))) (by kernel_rfl) rfl rfl ?_)
                    refine P_q no34_0 rfl (op_load1p (a := .exact (.int .i64 ((gi a1 x6_l14).2.1))) (by kernel_rfl) rfl rfl ?_)
                    refine P_q no34_0 rfl (op_eql rfl rfl ?_)
                    refine P_nil ?_
                    refine kC_normal ?_
                    refine k_cond_d (p := ((gi a0 x8_l26).1) = ((gi a1 x6_l14).2.1)) rfl (fun hc => ?_) (fun hc => ?_)
                    · replace h := ite_t h hc
                      refine k_reg .free hmixP (by kernel_rfl) ?_
                      refine G_q rfl (op_move (av := .exact v5_l26) rfl ?_)
                      refine G_q rfl (op_move (av := .row 2 c_api_Binding a0) rfl ?_)
                      refine G_q rfl (op_move (av := .exact (.int .i64 x8_l26)) rfl ?_)
                      obtain ⟨n1370, h⟩ := need_some h
                      refine G_q rfl (op_index_row (by kernel_rfl) rfl rfl n1370.1 n1370.2 ?_)
                      refine G_q rfl (op_fieldAddr_ptr (o := 1) (c' := (List.drop 1 (c_api_Binding (gi a0 x8_l26)))) (by kernel_rfl) rfl rfl ?_)
                      refine G_q rfl (op_load1p (a := .row 3 c_api_TypeNode ((gi a0 x8_l26).2)) (by kernel_rfl) rfl rfl ?_)
                      obtain ⟨n1371, h⟩ := need_some h
                      refine G_l rfl (op_appT (by kernel_rfl) rfl rfl oc_c_api_TypeNode n1371 (fun v1372 => ?_))
                      refine G_q rfl (op_assign (av := .exact v1372) rfl ?_)
                      refine G_q rfl (op_assign (av := .exact (.bool true)) rfl ?_)
                      refine G_nil ?_
                      refine kB_normal ?_
                      refine kI_normal ⟨_, _, v1372, h, ?_⟩
                      exact Sub.of_le (AF.le_put (AV.le_eq rfl) (AF.le_put (AV.le_eq rfl) (AF.le_put (AV.le_eq rfl) (AF.le_put (AV.le_eq rfl) (AF.le_put (AV.le_eq rfl) (AF.le_put (AV.le_eq rfl) (AF.le_top _)))))))
                    · replace h := ite_f h hc
                      refine k_skip ?_
                      refine kB_normal ?_
                      refine kI_normal ⟨_, _, v5_l26, h, ?_⟩
                      exact Sub.of_le (AF.le_put (AV.le_eq rfl) (AF.le_put (AV.le_eq rfl) (AF.le_put (AV.le_eq rfl) (AF.le_put (AV.le_eq rfl) (AF.le_put (AV.le_eq rfl) (AF.le_put (AV.le_eq rfl) (AF.le_top _)))))))
                  · refine k_reg .free hmixP (by kernel_rfl) ?_
                    refine G_q rfl (op_move (av := .exact (.int .i64 x8_l26)) rfl ?_)
                    refine G_q rfl (op_add rfl rfl rfl ?_)
                    refine G_q rfl (op_assign (av := .exact (.int .i64 (i64 (x8_l26 + 1)))) rfl ?_)
                    refine G_nil ?_
                    refine kI_normal ⟨_, _, _, v5_j1362, h, ?_⟩
                    exact Sub.of_le (AF.le_put (AV.le_eq rfl) (AF.le_put (AV.le_eq rfl) (AF.le_put (AV.le_eq rfl) (AF.le_put (AV.le_eq rfl) (AF.le_put (AV.le_eq rfl) (AF.le_put (AV.le_eq rfl) (AF.le_top _)))))))
                · replace h := ite_f h hc
                  refine k_exit ?_
                  refine kC_exit ?_
                  refine kI_exit ?_
                  refine kB_exit ?_
                  refine kI_normal ⟨_, _, v5_l26, h, ?_⟩
                  exact Sub.of_le (AF.le_put (AV.le_eq rfl) (AF.le_put (AV.le_eq rfl) (AF.le_put (AV.le_eq rfl) (AF.le_put (AV.le_eq rfl) (AF.le_put (AV.le_eq rfl) (AF.le_top _))))))
          · refine k_seq ?_
            refine k_reg .free hmixP (by kernel_rfl) ?_
            refine G_q rfl (op_move (av := .exact (.bool x7_j1263)) rfl ?_)
            refine G_q rfl (op_not rfl ?_)
            refine G_nil ?_
            refine kC_normal ?_
            refine k_cond_b (c := !x7_j1263) rfl (fun hc => ?_) (fun hc => ?_)
            · replace h := ite_t h hc
              refine k_reg .free hmixP (by kernel_rfl) ?_
              refine G_q rfl (op_move (av := .exact v5_j1263) rfl ?_)
              refine G_q rfl (op_move (av := .row 3 c_api_TypeNode a1) rfl ?_)
              refine G_q rfl (op_move (av := .exact (.int .i64 x6_l14)) rfl ?_)
              obtain ⟨n1373, h⟩ := need_some h
              refine G_q rfl (op_index_row (by kernel_rfl) rfl rfl n1373.1 n1373.2 ?_)
              refine G_q rfl (op_loadNp (m := 3) (c' := c_api_TypeNode (gi a1 x6_l14)) (by kernel_rfl) rfl rfl rfl ?_)
              refine G_q rfl (op_litT (n := 3) (enc := c_api_TypeNode) [gi a1 x6_l14] (CellsAll.cons rfl CellsOf.agg CellsAll.nil) rfl (by kernel_rfl) (LEss.cons (LEs.cons (AV.le_eq rfl) (LEs.cons (AV.le_eq rfl) (LEs.cons (AV.le_eq rfl) LEs.nil))) LEss.nil) ?_)
              obtain ⟨n1374, h⟩ := need_some h
              refine G_l rfl (op_appT (by kernel_rfl) rfl rfl oc_c_api_TypeNode n1374 (fun v1375 => ?_))
              refine G_q rfl (op_assign (av := .exact v1375) rfl ?_)
              refine G_nil ?_
              refine kB_normal ?_
              refine kI_normal ⟨_, v1375, h, ?_⟩
              exact Sub.of_le (AF.le_put (AV.le_eq rfl) (AF.le_put (AV.le_eq rfl) (AF.le_put (AV.le_eq rfl) (AF.le_put (AV.le_eq rfl) (AF.le_top _)))))
            · replace h := ite_f h hc
              refine k_skip ?_
              refine kB_normal ?_
              refine kI_normal ⟨_, v5_j1263, h, ?_⟩
              exact Sub.of_le (AF.le_put (AV.le_eq rfl) (AF.le_put (AV.le_eq rfl) (AF.le_put (AV.le_eq rfl) (AF.le_put (AV.le_eq rfl) (AF.le_top _)))))
        · refine k_reg .free hmixP (by kernel_rfl) ?_
          refine G_q rfl (op_move (av := .exact (.int .i64 x6_l14)) rfl ?_)
          refine G_q rfl (op_add rfl rfl rfl ?_)
          refine G_q rfl (op_assign (av := .exact (.int .i64 (i64 (x6_l14 + 1)))) rfl ?_)
          refine G_nil ?_
          refine kI_normal ⟨_, _, v5_j1148, h, ?_⟩
          exact Sub.of_le (AF.le_put (AV.le_eq rfl) (AF.le_put (AV.le_eq rfl) (AF.le_put (AV.le_eq rfl) (AF.le_put (AV.le_eq rfl) (AF.le_top _)))))
      · replace h := ite_f h hc
        refine k_exit ?_
        refine kC_exit ?_
        refine kI_exit ?_
        refine kB_exit ?_
        refine kI_normal ⟨_, v5_l14, h, ?_⟩
        exact Sub.of_le (AF.le_put (AV.le_eq rfl) (AF.le_top _))
  · refine k_seq ?_
    refine k_reg .free hmixP (by kernel_rfl) ?_
    refine G_q rfl (op_move (av := .exact v5_j1) rfl ?_)
    refine G_q rfl (op_assign (av := .exact v5_j1) rfl ?_)
    refine G_nil ?_
    refine kC_normal ?_
    refine k_ret ?_
    obtain rfl := Option.some.inj h
    refine kP_any (endN (af' := (AF.put AF0 (some 4) (.row 3 c_api_TypeNode x5_j1))) (σ' := []) _ rfl ?_ ⟨rfl, rfl⟩)
    refine Sub.trans (SubU.to (SubU.freezeT (s := 4) rfl len_c_api_TypeNode)) ?_
    exact Sub.of_le (AF.le_put (AV.le_eq rfl) (AF.le_top _))
set_option maxHeartbeats 4000000 in
theorem m_ref6_Apply_ok (a0 : List (Int × (List (Int × Int × Int)))) (a1 : List (Int × Int × Int)) (r : (List (Int × Int × Int))) (h : m_ref6_Apply a0 a1 = some r) : Pure Tryd.prog 22 [(.row 2 c_api_Binding a0), (.row 3 c_api_TypeNode a1)] (.row 3 c_api_TypeNode r) := by
  unfold m_ref6_Apply at h
  refine Pure.ofFun (fun_of_awp Tryd.func22 rfl Tryd.ntmps22 (by simp) rfl (res1 rfl) fun E hE => k_end ?_)
  refine k_seq ?_
  refine k_reg .free hmixP (by kernel_rfl) ?_
  refine G_q rfl (op_assign (av := .exact (.slice none 0 0)) rfl ?_)
  refine G_nil ?_
  refine kC_normal ?_
  refine k_seq ?_
  refine k_join1_0 h (fun (x13_j7 : Bool) => (AF.put (AF.put (AF.put AF0 (some 0) (.row 2 c_api_Binding a0)) (some 1) (.row 3 c_api_TypeNode a1)) (some 13) (.exact (.bool x13_j7)))) (fun (x13_j7 : Bool) => []) (fun k7 h => ?_) (fun x13_j7 h => ?_)
  · refine k_reg .free hmixP (by kernel_rfl) ?_
    refine G_q rfl (op_move (av := .row 3 c_api_TypeNode a1) rfl ?_)
    obtain ⟨y10, hy10, h⟩ := bnd1_some h
    refine G_q rfl (op_pure (m_ref6_ValidType_ok _ _ hy10) Tryd.func30 (by kernel_rfl) (LEs.cons (AV.le_eq rfl) LEs.nil) ?_)
    refine G_q rfl (op_not rfl ?_)
    refine G_q rfl (op_move (av := .exact (.bool (!y10))) rfl ?_)
    refine G_splitB (c := !y10) 9 rfl (fun hc => ?_) (fun hc => ?_)
    · replace h := ite_t h hc
      refine G_n rfl rfl ?_
      refine G_n rfl rfl ?_
      refine G_n rfl rfl ?_
      refine G_q rfl (op_pick_t rfl (av := .exact (.bool true)) rfl ?_)
      refine G_nil ?_
      refine kI_normal ⟨_, h, ?_⟩
      exact Sub.of_le (AF.le_put (AV.le_eq rfl) (AF.le_put (AV.le_eq rfl) (AF.le_put (AV.le_eq rfl) (AF.le_top _))))
    · replace h := ite_f h hc
      refine Gy_q rfl rfl rfl (op_move (av := .row 2 c_api_Binding a0) rfl ?_)
      obtain ⟨y11, hy11, h⟩ := bnd1_some h
      refine Gy_q rfl rfl rfl (op_pure (m_ref6_substitution_ok _ _ hy11) Tryd.func54 (by kernel_rfl) (LEs.cons (AV.le_eq rfl) LEs.nil) ?_)
      refine Gy_q rfl rfl rfl (op_not rfl ?_)
      refine G_q rfl (op_pick_f rfl (av := .exact (.bool (!y11))) rfl ?_)
      refine G_nil ?_
      refine kI_normal ⟨_, h, ?_⟩
      exact Sub.of_le (AF.le_put (AV.le_eq rfl) (AF.le_put (AV.le_eq rfl) (AF.le_put (AV.le_eq rfl) (AF.le_top _))))
  · refine k_cond_b (c := x13_j7) rfl (fun hc => ?_) (fun hc => ?_)
    · replace h := ite_t h hc
      refine k_seq ?_
      refine k_reg .free hmixP (by kernel_rfl) ?_
      refine G_q rfl (op_assign (av := .exact (.slice none 0 0)) rfl ?_)
      refine G_nil ?_
      refine kC_normal ?_
      refine k_ret ?_
      refine kC_ret ?_
      obtain rfl := Option.some.inj h
      refine kP_any (endN (af' := (AF.put AF0 (some 4) (.row 3 c_api_TypeNode []))) (σ' := []) _ rfl ?_ ⟨rfl, rfl⟩)
      exact Sub.of_le (AF.le_put (row_nil (by decide)) (AF.le_top _))
    · replace h := ite_f h hc
      refine k_skip ?_
      refine kC_normal ?_
      refine k_seq ?_
      refine k_reg .free hmixP (by kernel_rfl) ?_
      refine G_q rfl (op_move (av := .row 2 c_api_Binding a0) rfl ?_)
      refine G_q rfl (op_move (av := .row 3 c_api_TypeNode a1) rfl ?_)
      obtain ⟨y12, hy12, h⟩ := bnd1_some h
      refine G_q rfl (op_pure (m_ref6_replace_ok _ _ _ hy12) Tryd.func55 (by kernel_rfl) (LEs.cons (AV.le_eq rfl) (LEs.cons (AV.le_eq rfl) LEs.nil)) ?_)
      refine G_q rfl (op_assign (av := .row 3 c_api_TypeNode y12) rfl ?_)
      refine G_nil ?_
      refine kC_normal ?_
      refine k_seq ?_
      refine k_seq ?_
      refine k_reg .free hmixP (by kernel_rfl) ?_
      refine G_q rfl (op_move (av := .row 3 c_api_TypeNode y12) rfl ?_)
      obtain ⟨y13, hy13, h⟩ := bnd1_some h
      refine G_q rfl (op_pure (m_ref6_ValidType_ok _ _ hy13) Tryd.func30 (by kernel_rfl) (LEs.cons (AV.le_eq rfl) LEs.nil) ?_)
      refine G_q rfl (op_not rfl ?_)
      refine G_nil ?_
      refine kC_normal ?_
      refine k_cond_b (c := !y13) rfl (fun hc => ?_) (fun hc => ?_)
      · replace h := ite_t h hc
        refine k_seq ?_
        refine k_reg .free hmixP (by kernel_rfl) ?_
        refine G_q rfl (op_assign (av := .exact (.slice none 0 0)) rfl ?_)
        refine G_nil ?_
        refine kC_normal ?_
        refine k_ret ?_
        refine kC_ret ?_
        obtain rfl := Option.some.inj h
        refine kP_any (endN (af' := (AF.put AF0 (some 4) (.row 3 c_api_TypeNode []))) (σ' := []) _ rfl ?_ ⟨rfl, rfl⟩)
        exact Sub.of_le (AF.le_put (row_nil (by decide)) (AF.le_top _))
      · replace h := ite_f h hc
        refine k_skip ?_
        refine kC_normal ?_
        refine k_seq ?_
        refine k_reg .free hmixP (by kernel_rfl) ?_
        refine G_q rfl (op_move (av := .row 3 c_api_TypeNode y12) rfl ?_)
        refine G_q rfl (op_assign (av := .row 3 c_api_TypeNode y12) rfl ?_)
        refine G_nil ?_
        refine kC_normal ?_
        refine k_ret ?_
        obtain rfl := Option.some.inj h
        refine kP_any (endN (af' := (AF.put AF0 (some 4) (.row 3 c_api_TypeNode y12))) (σ' := []) _ rfl ?_ ⟨rfl, rfl⟩)
        exact Sub.of_le (AF.le_put (AV.le_eq rfl) (AF.le_top _))
set_option maxHeartbeats 4000000 in
theorem m_types_substitution_ok (a0 : List (Int × (List (Int × Int × Int)))) (r : (List (Int × (List (Int × Int × Int)))) × Bool) (h : m_types_substitution a0 = some r) : Fun Tryd.prog 52 [(.row 2 c_api_Binding a0)] [] (fun a s => ∃ z0, a = .tup [.exact z0, .exact (.bool r.2)] ∧ s = [mapV (fun _ => True) (fun k : Int => .int .i64 k) (fun x : List (Int × Int × Int) => .row 3 c_api_TypeNode x) z0 r.1]) := by
  unfold m_types_substitution at h
  refine fun_of_awp Tryd.func52 rfl Tryd.ntmps52 (by simp) rfl (res2 rfl) fun E hE => k_end ?_
  refine k_seq ?_
  refine k_reg .free hmixP (by kernel_rfl) ?_
  refine G_q rfl (op_assign (av := .exact (.map none)) rfl ?_)
  refine G_q rfl (op_assign (av := .exact (.bool false)) rfl ?_)
  refine G_nil ?_
  refine kC_normal ?_
  refine k_seq ?_
  refine k_reg .free hmixP (by kernel_rfl) ?_
  refine G_l rfl (op_mnew (V := (fun _ => True)) (kv := (fun k : Int => .int .i64 k)) (vv := (fun x : List (Int × Int × Int) => .row 3 c_api_TypeNode x)) (fun b1 => ?_))
  refine G_q rfl (op_assign (av := .exact (.map (some b1))) rfl ?_)
  refine G_nil ?_
  refine kC_normal ?_
  refine k_join1_0 h (fun (x4_j2 : List (Int × (List (Int × Int × Int)))) => (AF.put AF0 (some 4) (.exact (.map (some b1))))) (fun (x4_j2 : List (Int × (List (Int × Int × Int)))) => [mapI (fun _ => True) (fun k : Int => .int .i64 k) (fun x : List (Int × Int × Int) => .row 3 c_api_TypeNode x) b1 x4_j2]) (fun k2 h => ?_) (fun x4_j2 h => ?_)
  · refine k_seq ?_
    refine k_reg .free hmixP (by kernel_rfl) ?_
    refine G_q rfl (op_move (av := .row 2 c_api_Binding a0) rfl ?_)
    refine G_q rfl (op_len_row (by kernel_rfl) rfl ?_)
    refine G_q rfl (op_move (av := .exact (.int .i64 0)) rfl ?_)
    refine G_nil ?_
    refine kC_normal ?_
    refine k_block ?_
    refine k_loop2_0 (m_types_substitution_L2 a0 k2) (m_types_substitution_B2 a0 k2) (fun _ _ => rfl) (fun m _ _ => rfl) h (fun (x4_l2 : List (Int × (List (Int × Int × Int)))) (x10_l2 : Int) => (AF.put (AF.put (AF.put (AF.put (AF.put AF0 (some 0) (.row 2 c_api_Binding a0)) (some 4) (.exact (.map (some b1)))) (some 8) (.row 2 c_api_Binding a0)) (some 9) (.exact (.int .i64 (List.length a0 : Int)))) (some 10) (.exact (.int .i64 x10_l2)))) (fun (x4_l2 : List (Int × (List (Int × Int × Int)))) (x10_l2 : Int) => [mapI (fun _ => True) (fun k : Int => .int .i64 k) (fun x : List (Int × Int × Int) => .row 3 c_api_TypeNode x) b1 x4_l2]) ?_ (fun rec2 x4_l2 x10_l2 h => ?_)
    · exact Sub.of_le (AF.le_put (AV.le_eq rfl) (AF.le_put (AV.le_eq rfl) (AF.le_put (AV.le_eq rfl) (AF.le_put (AV.le_eq rfl) (AF.le_put (AV.le_eq rfl) (AF.le_top _))))))
    · unfold m_types_substitution_B2 at h
      refine k_seq ?_
      refine k_reg .free hmixP (by kernel_rfl) ?_
      refine G_q rfl (op_lss rfl rfl ?_)
      refine G_nil ?_
      refine kC_normal ?_
      refine k_seq ?_
      refine k_cond_d (p := x10_l2 < (List.length a0 : Int)) rfl (fun hc => ?_) (fun hc => ?_)
      · replace h := ite_t h hc
        refine k_skip ?_
        refine kC_normal ?_
        refine k_seq ?_
        refine k_block ?_
        refine k_seq ?_
        refine k_reg .free hmixP (by kernel_rfl) ?_
        refine G_q rfl (op_move (av := .exact (.int .i64 x10_l2)) rfl ?_)
        obtain ⟨n153, h⟩ := need_some h
        refine G_q rfl (op_index_row (by kernel_rfl) rfl rfl n153.1 n153.2 ?_)
        refine G_q rfl (op_loadNp (m := 2) (c' := c_api_Binding (gi a0 x10_l2)) (by kernel_rfl) rfl rfl rfl ?_)
        refine G_l rfl (op_alloc (c := [.exact (.int .i64 (((0, []) : Int × (List (Int × Int × Int))).1)), .row 3 c_api_TypeNode (((0, []) : Int × (List (Int × Int × Int))).2)]) rfl (LEs.cons (AV.le_eq rfl) (LEs.cons (row_nil (by decide)) LEs.nil)) (fun b154 => ?_))
        refine G_q rfl (op_assign (av := .exact (.int .i64 x10_l2)) rfl ?_)
        refine G_l rfl (op_store_box (c' := [.exact (.int .i64 ((gi a0 x10_l2).1)), .row 3 c_api_TypeNode ((gi a0 x10_l2).2)]) (c3 := [.exact (.int .i64 ((gi a0 x10_l2).1)), .row 3 c_api_TypeNode ((gi a0 x10_l2).2)]) rfl rfl CellsOf.agg (LEs.cons (AV.le_eq rfl) (LEs.cons (AV.le_eq rfl) LEs.nil)) (oc_c_api_Binding _) (by kernel_rfl) (Nat.le_of_ble_eq_true rfl) rfl ?_)
        refine G_nil ?_
        refine kC_normal ?_
        refine k_seq ?_
        refine k_join1_0 h (fun (x33_j161 : Bool) => (AF.put (AF.put (AF.put (AF.put (AF.put (AF.put (AF.put AF0 (some 0) (.row 2 c_api_Binding a0)) (some 4) (.exact (.map (some b1)))) (some 6) (pA b154 0)) (some 8) (.row 2 c_api_Binding a0)) (some 9) (.exact (.int .i64 (List.length a0 : Int)))) (some 10) (.exact (.int .i64 x10_l2))) (some 33) (.exact (.bool x33_j161)))) (fun (x33_j161 : Bool) => [mapI (fun _ => True) (fun k : Int => .int .i64 k) (fun x : List (Int × Int × Int) => .row 3 c_api_TypeNode x) b1 x4_l2, boxI 38 b154 [.exact (.int .i64 ((gi a0 x10_l2).1)), .row 3 c_api_TypeNode ((gi a0 x10_l2).2)]]) (fun k161 h => ?_) (fun x33_j161 h => ?_)
        · refine k_plan [] [(0, 0), (1, 1), (0, 2), (0, 3), (0, 4), (0, 5), (0, 6), (0, 7), (0, 8), (0, 10), (0, 11), (0, 12), (0, 13), (0, 14), (0, 15), (1, 9), (0, 16), (0, 17), (0, 18)] hmixP (by kernel_rfl) ?_
          refine P_q no34_0 rfl (op_fieldAddr (o := 1) (by kernel_rfl) rfl ?_)
          refine P_r rfl (op_load_box1 (a := .row 3 c_api_TypeNode ((gi a0 x10_l2).2)) (by kernel_rfl) rfl rfl ?_)
          obtain ⟨y164, hy164, h⟩ := bnd1_some h
          refine P_q no34_0 rfl (op_pure (m_types_Valid_ok _ _ hy164) Tryd.func29 (by kernel_rfl) (LEs.cons (AV.le_eq rfl) LEs.nil) ?_)
          refine P_q no34_0 rfl (op_not rfl ?_)
          refine P_q no34_0 rfl (op_move (av := .exact (.bool (!y164))) rfl ?_)
          refine P_splitB (c := !y164) 19 rfl (fun hc => ?_) (fun hc => ?_)
          · replace h := ite_t h hc
            refine P_n no34_0 rfl rfl rfl ?_
            refine P_n no34_0 rfl rfl rfl ?_
            refine P_n no34_0 rfl rfl rfl ?_
            refine P_u no34_0 rfl rfl rfl ?_
            refine P_u no34_0 rfl rfl rfl ?_
            refine P_u no34_0 rfl rfl rfl ?_
            refine P_u no34_0 rfl rfl rfl ?_
            refine P_u no34_0 rfl rfl rfl ?_
            refine P_u no34_0 rfl rfl rfl ?_
            refine P_u no34_0 rfl rfl rfl ?_
            refine P_u no34_1 rfl rfl rfl ?_
            refine P_u no34_0 rfl rfl rfl ?_
            refine P_n no34_0 rfl rfl rfl ?_
            refine P_q no34_0 rfl (op_pick_t rfl (av := .exact (.bool true)) rfl ?_)
            refine P_nil ?_
            refine kI_normal ⟨_, h, ?_⟩
            refine Sub.trans (SubU.to SubU.f1) ?_
            exact Sub.of_le (AF.le_put (AV.le_eq rfl) (AF.le_put (AV.le_eq rfl) (AF.le_put (AV.le_eq rfl) (AF.le_put (AV.le_eq rfl) (AF.le_put (AV.le_eq rfl) (AF.le_put (AV.le_eq rfl) (AF.le_put (AV.le_eq rfl) (AF.le_top _))))))))
          · replace h := ite_f h hc
            refine Py_q no34_0 rfl rfl rfl (op_move (av := .exact (.int .i64 x10_l2)) rfl ?_)
            refine Py_q no34_0 rfl rfl rfl (op_gtr rfl rfl ?_)
            refine Py_q no34_0 rfl rfl rfl (op_move (av := .exact (.bool (decide (0 < x10_l2)))) rfl ?_)
            refine P_split (p := 0 < x10_l2) 22 rfl (fun hc => ?_) (fun hc => ?_)
            · replace h := ite_t h hc
              refine Py_q no34_0 rfl rfl rfl (op_fieldAddr (o := 0) (by kernel_rfl) rfl ?_)
              refine Py_q no34_0 rfl rfl rfl (op_move (av := .row 2 c_api_Binding a0) rfl ?_)
              refine Py_q no34_0 rfl rfl rfl (op_move (av := .exact (.int .i64 x10_l2)) rfl ?_)
              refine Py_q no34_0 rfl rfl rfl (op_sub rfl rfl rfl ?_)
              obtain ⟨n165, h⟩ := need_some h
              refine Py_q no34_0 rfl rfl rfl (op_index_row (by kernel_rfl) rfl rfl n165.1 n165.2 ?_)
              refine Py_q no34_0 rfl rfl rfl (op_fieldAddr_ptr (o := 0) (c' := (List.drop 0 (c_api_Binding (gi a0 (i64 (x10_l2 - 1)))))) (by kernel_rfl) rfl rfl ?_)
              refine Py_q no34_0 rfl rfl rfl (op_load1p (a := .exact (.int .i64 ((gi a0 (i64 (x10_l2 - 1))).1))) (by kernel_rfl) rfl rfl ?_)
              refine Py_r rfl rfl rfl (op_load_box1 (a := .exact (.int .i64 ((gi a0 x10_l2).1))) (by kernel_rfl) rfl rfl ?_)
              refine Py_q no34_0 rfl rfl rfl (op_leq rfl rfl ?_)
              refine Py_q no34_0 rfl rfl rfl (op_pick_t rfl (av := .exact (.bool (decide (((gi a0 x10_l2).1) ≤ ((gi a0 (i64 (x10_l2 - 1))).1))))) rfl ?_)
              refine P_q no34_0 rfl (op_pick_f rfl (av := .exact (.bool (decide (((gi a0 x10_l2).1) ≤ ((gi a0 (i64 (x10_l2 - 1))).1))))) rfl ?_)
              refine P_nil ?_
              refine kI_normal ⟨_, h, ?_⟩
              refine Sub.trans (SubU.to SubU.f1) ?_
              exact Sub.of_le (AF.le_put (AV.le_eq rfl) (AF.le_put (AV.le_eq rfl) (AF.le_put (AV.le_eq rfl) (AF.le_put (AV.le_eq rfl) (AF.le_put (AV.le_eq rfl) (AF.le_put (AV.le_eq rfl) (AF.le_put (AV.le_eq rfl) (AF.le_top _))))))))
            · replace h := ite_f h hc
              refine P_n no34_0 rfl rfl rfl ?_
              refine P_n no34_0 rfl rfl rfl ?_
              refine P_n no34_0 rfl rfl rfl ?_
              refine P_n no34_0 rfl rfl rfl ?_
              refine P_n no34_0 rfl rfl rfl ?_
              refine P_n no34_0 rfl rfl rfl ?_
              refine P_n no34_0 rfl rfl rfl ?_
              refine P_n no34_1 rfl rfl rfl ?_
              refine P_n no34_0 rfl rfl rfl ?_
              refine Py_q no34_0 rfl rfl rfl (op_pick_f rfl (av := .exact (.bool false)) rfl ?_)
              refine P_q no34_0 rfl (op_pick_f rfl (av := .exact (.bool false)) rfl ?_)
              refine P_nil ?_
              refine kI_normal ⟨_, h, ?_⟩
              refine Sub.trans (SubU.to SubU.f1) ?_
              exact Sub.of_le (AF.le_put (AV.le_eq rfl) (AF.le_put (AV.le_eq rfl) (AF.le_put (AV.le_eq rfl) (AF.le_put (AV.le_eq rfl) (AF.le_put (AV.le_eq rfl) (AF.le_put (AV.le_eq rfl) (AF.le_put (AV.le_eq rfl) (AF.le_top _))))))))
        · refine k_cond_b (c := x33_j161) rfl (fun hc => ?_) (fun hc => ?_)
          · replace h := ite_t h hc
            refine k_seq ?_
            refine k_reg .free hmixP (by kernel_rfl) ?_
            refine G_q rfl (op_assign (av := .exact (.map none)) rfl ?_)
            refine G_q rfl (op_assign (av := .exact (.bool false)) rfl ?_)
            refine G_nil ?_
            refine kC_normal ?_
            refine k_ret ?_
            refine kC_ret ?_
            refine kB_ret ?_
            refine kC_ret ?_
            refine kI_ret ?_
            refine kB_ret ?_
            refine kI_ret ?_
            obtain rfl := Option.some.inj h
            refine kP_any (endN (af' := (AF.put (AF.put AF0 (some 2) (.exact (.map none))) (some 3) (.exact (.bool false)))) (σ' := [mapV (fun _ => True) (fun k : Int => .int .i64 k) (fun x : List (Int × Int × Int) => .row 3 c_api_TypeNode x) (.map none) []]) _ rfl ?_ ⟨(.map none), rfl, rfl⟩)
            refine Sub.trans (SubU.to SubU.drop) ?_
            refine Sub.trans (SubU.to SubU.drop) ?_
            refine Sub.trans (SubU.to (SubU.newMapV (V := (fun _ => True)) (kv := (fun k : Int => .int .i64 k)) (vv := (fun x : List (Int × Int × Int) => .row 3 c_api_TypeNode x)))) ?_
            exact Sub.of_le (AF.le_put (AV.le_eq rfl) (AF.le_put (AV.le_eq rfl) (AF.le_top _)))
          · replace h := ite_f h hc
            refine k_skip ?_
            refine kC_normal ?_
            refine k_reg .free hmixP (by kernel_rfl) ?_
            refine G_q rfl (op_move (av := .exact (.map (some b1))) rfl ?_)
            refine G_q rfl (op_fieldAddr (o := 0) (by kernel_rfl) rfl ?_)
            refine G_r rfl (opR_f1 (op_load_box1 (a := .exact (.int .i64 ((gi a0 x10_l2).1))) (by kernel_rfl) rfl rfl ?_))
            refine G_q rfl (op_fieldAddr (o := 1) (by kernel_rfl) rfl ?_)
            refine G_r rfl (opR_f1 (op_load_box1 (a := .row 3 c_api_TypeNode ((gi a0 x10_l2).2)) (by kernel_rfl) rfl rfl ?_))
            refine G_l rfl (op_mput (z := (gi a0 x10_l2).2) (keyOk_int Tryd.underlying3) (fun _ _ _ => trivial) Tryd.underlying85 rfl (keyAV_int rfl) (AV.le_eq rfl) ?_)
            refine G_nil ?_
            refine kB_normal ?_
            refine kC_normal ?_
            refine k_reg .free hmixP (by kernel_rfl) ?_
            refine G_q rfl (op_add rfl rfl rfl ?_)
            refine G_q rfl (op_move (av := .exact (.int .i64 (i64 (x10_l2 + 1)))) rfl ?_)
            refine G_nil ?_
            refine kI_normal ⟨_, _, h, ?_⟩
            refine Sub.trans (SubU.to SubU.f1) ?_
            refine Sub.trans (SubU.to SubU.drop) ?_
            exact Sub.of_le (AF.le_put (AV.le_eq rfl) (AF.le_put (AV.le_eq rfl) (AF.le_put (AV.le_eq rfl) (AF.le_put (AV.le_eq rfl) (AF.le_put (AV.le_eq rfl) (AF.le_top _))))))
      · replace h := ite_f h hc
        refine k_exit ?_
        refine kC_exit ?_
        refine kI_exit ?_
        refine kB_exit ?_
        refine kI_normal ⟨_, h, ?_⟩
        exact Sub.of_le (AF.le_put (AV.le_eq rfl) (AF.le_top _))
  · refine k_seq ?_
    refine k_reg .free hmixP (by kernel_rfl) ?_
    refine G_q rfl (op_move (av := .exact (.map (some b1))) rfl ?_)
    refine G_q rfl (op_assign (av := .exact (.map (some b1))) rfl ?_)
    refine G_q rfl (op_assign (av := .exact (.bool true)) rfl ?_)
    refine G_nil ?_
    refine kC_normal ?_
    refine k_ret ?_
    obtain rfl := Option.some.inj h
    refine kP_any (endN (af' := (AF.put (AF.put AF0 (some 2) (.exact (.map (some b1)))) (some 3) (.exact (.bool true)))) (σ' := [mapV (fun _ => True) (fun k : Int => .int .i64 k) (fun x : List (Int × Int × Int) => .row 3 c_api_TypeNode x) (.map (some b1)) x4_j2]) _ rfl ?_ ⟨(.map (some b1)), rfl, rfl⟩)
    refine Sub.trans (SubU.to SubU.toMapV) ?_
    exact Sub.of_le (AF.le_put (AV.le_eq rfl) (AF.le_put (AV.le_eq rfl) (AF.le_top _)))
set_option maxHeartbeats 4000000 in
theorem m_types_Apply_ok (a0 : List (Int × (List (Int × Int × Int)))) (a1 : List (Int × Int × Int)) (r : (List (Int × Int × Int))) (h : m_types_Apply a0 a1 = some r) : Pure Tryd.prog 18 [(.row 2 c_api_Binding a0), (.row 3 c_api_TypeNode a1)] (.row 3 c_api_TypeNode r) := by
  unfold m_types_Apply at h
  refine Pure.ofFun (fun_of_awp Tryd.func18 rfl Tryd.ntmps18 (by simp) rfl (res1 rfl) fun E hE => k_end ?_)
  refine k_seq ?_
  refine k_reg .free hmixP (by kernel_rfl) ?_
  refine G_q rfl (op_assign (av := .exact (.slice none 0 0)) rfl ?_)
  refine G_nil ?_
  refine kC_normal ?_
  refine k_seq ?_
  refine k_reg .free hmixP (by kernel_rfl) ?_
  refine G_q rfl (op_move (av := .row 2 c_api_Binding a0) rfl ?_)
  obtain ⟨y1, hy1, h⟩ := bnd1_some h
  refine G_l rfl (op_fun_0_1_1 (m_types_substitution_ok _ _ hy1) Tryd.func52 (by kernel_rfl) (LEs.cons (AV.le_eq rfl) LEs.nil) (fun z2 => ?_))
  refine G_q rfl (op_move (av := .tup [.exact z2, .exact (.bool y1.2)]) rfl ?_)
  refine G_q rfl (op_extract (av := .exact z2) rfl rfl ?_)
  refine G_q rfl (op_extract (av := .exact (.bool y1.2)) rfl rfl ?_)
  refine G_q rfl (op_assign (av := .exact z2) rfl ?_)
  refine G_q rfl (op_assign (av := .exact (.bool y1.2)) rfl ?_)
  refine G_nil ?_
  refine kC_normal ?_
  refine k_seq ?_
  refine k_join1_0 h (fun (x23_j7 : Bool) => (AF.put (AF.put (AF.put AF0 (some 1) (.row 3 c_api_TypeNode a1)) (some 5) (.exact z2)) (some 23) (.exact (.bool x23_j7)))) (fun (x23_j7 : Bool) => [mapV (fun _ => True) (fun k : Int => .int .i64 k) (fun x : List (Int × Int × Int) => .row 3 c_api_TypeNode x) z2 y1.1]) (fun k7 h => ?_) (fun x23_j7 h => ?_)
  · refine k_reg .free hmixP (by kernel_rfl) ?_
    refine G_q rfl (op_move (av := .exact (.bool y1.2)) rfl ?_)
    refine G_q rfl (op_not rfl ?_)
    refine G_q rfl (op_move (av := .exact (.bool (!y1.2))) rfl ?_)
    refine G_splitB (c := !y1.2) 19 rfl (fun hc => ?_) (fun hc => ?_)
    · replace h := ite_t h hc
      refine G_n rfl rfl ?_
      refine G_n rfl rfl ?_
      refine G_n rfl rfl ?_
      refine G_q rfl (op_pick_t rfl (av := .exact (.bool true)) rfl ?_)
      refine G_nil ?_
      refine kI_normal ⟨_, h, ?_⟩
      exact Sub.of_le (AF.le_put (AV.le_eq rfl) (AF.le_put (AV.le_eq rfl) (AF.le_put (AV.le_eq rfl) (AF.le_top _))))
    · replace h := ite_f h hc
      refine Gy_q rfl rfl rfl (op_move (av := .row 3 c_api_TypeNode a1) rfl ?_)
      obtain ⟨y9, hy9, h⟩ := bnd1_some h
      refine Gy_q rfl rfl rfl (op_pure (m_types_Valid_ok _ _ hy9) Tryd.func29 (by kernel_rfl) (LEs.cons (AV.le_eq rfl) LEs.nil) ?_)
      refine Gy_q rfl rfl rfl (op_not rfl ?_)
      refine G_q rfl (op_pick_f rfl (av := .exact (.bool (!y9))) rfl ?_)
      refine G_nil ?_
      refine kI_normal ⟨_, h, ?_⟩
      exact Sub.of_le (AF.le_put (AV.le_eq rfl) (AF.le_put (AV.le_eq rfl) (AF.le_put (AV.le_eq rfl) (AF.le_top _))))
  · refine k_cond_b (c := x23_j7) rfl (fun hc => ?_) (fun hc => ?_)
    · replace h := ite_t h hc
      refine k_seq ?_
      refine k_reg .free hmixP (by kernel_rfl) ?_
      refine G_q rfl (op_assign (av := .exact (.slice none 0 0)) rfl ?_)
      refine G_nil ?_
      refine kC_normal ?_
      refine k_ret ?_
      refine kC_ret ?_
      obtain rfl := Option.some.inj h
      refine kP_any (endN (af' := (AF.put AF0 (some 4) (.row 3 c_api_TypeNode []))) (σ' := []) _ rfl ?_ ⟨rfl, rfl⟩)
      refine Sub.trans (SubU.to SubU.drop) ?_
      exact Sub.of_le (AF.le_put (row_nil (by decide)) (AF.le_top _))
    · replace h := ite_f h hc
      refine k_skip ?_
      refine kC_normal ?_
      refine k_seq ?_
      refine k_reg .free hmixP (by kernel_rfl) ?_
      refine G_q rfl (op_assign (av := .exact (.slice none 0 0)) rfl ?_)
      refine G_nil ?_
      refine kC_normal ?_
      refine k_join1_1 h (fun (x7_j10 : List (Int × Int × Int)) (v7_j10 : Value) => (AF.put AF0 (some 7) (.exact v7_j10))) (fun (x7_j10 : List (Int × Int × Int)) (v7_j10 : Value) => [vecT Tryd.prog 22 3 c_api_TypeNode v7_j10 x7_j10]) (fun k10 h => ?_) (fun x7_j10 v7_j10 h => ?_)
      · refine k_seq ?_
        refine k_reg .free hmixP (by kernel_rfl) ?_
        refine G_q rfl (op_move (av := .row 3 c_api_TypeNode a1) rfl ?_)
        refine G_q rfl (op_len_row (by kernel_rfl) rfl ?_)
        refine G_q rfl (op_move (av := .exact (.int .i64 0)) rfl ?_)
        refine G_nil ?_
        refine kC_normal ?_
        refine k_block ?_
        refine k_loop2_1 (m_types_Apply_L2 a1 y1 k10) (m_types_Apply_B2 a1 y1 k10) (fun _ _ => rfl) (fun m _ _ => rfl) h (fun (x7_l2 : List (Int × Int × Int)) (x26_l2 : Int) (v7_l2 : Value) => (AF.put (AF.put (AF.put (AF.put (AF.put AF0 (some 5) (.exact z2)) (some 7) (.exact v7_l2)) (some 24) (.row 3 c_api_TypeNode a1)) (some 25) (.exact (.int .i64 (List.length a1 : Int)))) (some 26) (.exact (.int .i64 x26_l2)))) (fun (x7_l2 : List (Int × Int × Int)) (x26_l2 : Int) (v7_l2 : Value) => [mapV (fun _ => True) (fun k : Int => .int .i64 k) (fun x : List (Int × Int × Int) => .row 3 c_api_TypeNode x) z2 y1.1, vecT Tryd.prog 22 3 c_api_TypeNode v7_l2 x7_l2]) (.slice none 0 0) ?_ (fun rec2 x7_l2 x26_l2 v7_l2 h => ?_)
        · refine Sub.trans (SubU.to (SubU.nilT (P := Tryd.prog) (t := 22) (n := 3) (enc := c_api_TypeNode))) ?_
          refine Sub.trans (SubU.to SubU.f1) ?_
          exact Sub.of_le (AF.le_put (AV.le_eq rfl) (AF.le_put (AV.le_eq rfl) (AF.le_put (AV.le_eq rfl) (AF.le_put (AV.le_eq rfl) (AF.le_put (AV.le_eq rfl) (AF.le_top _))))))
        · unfold m_types_Apply_B2 at h
          refine k_seq ?_
          refine k_reg .free hmixP (by kernel_rfl) ?_
          refine G_q rfl (op_lss rfl rfl ?_)
          refine G_nil ?_
          refine kC_normal ?_
          refine k_seq ?_
          refine k_cond_d (p := x26_l2 < (List.length a1 : Int)) rfl (fun hc => ?_) (fun hc => ?_)
          · replace h := ite_t h hc
            refine k_skip ?_
            refine kC_normal ?_
            refine k_join1_1 h (fun (x7_j87 : List (Int × Int × Int)) (v7_j87 : Value) => (AF.put (AF.put (AF.put (AF.put (AF.put AF0 (some 5) (.exact z2)) (some 7) (.exact v7_j87)) (some 24) (.row 3 c_api_TypeNode a1)) (some 25) (.exact (.int .i64 (List.length a1 : Int)))) (some 26) (.exact (.int .i64 x26_l2)))) (fun (x7_j87 : List (Int × Int × Int)) (v7_j87 : Value) => [mapV (fun _ => True) (fun k : Int => .int .i64 k) (fun x : List (Int × Int × Int) => .row 3 c_api_TypeNode x) z2 y1.1, vecT Tryd.prog 22 3 c_api_TypeNode v7_j87 x7_j87]) (fun k87 h => ?_) (fun x7_j87 v7_j87 h => ?_)
            · refine k_block ?_
              refine k_seq ?_
              refine k_reg .free hmixP (by kernel_rfl) ?_
              obtain ⟨n95, h⟩ := need_some h
              refine G_q rfl (op_index_row (by kernel_rfl) rfl rfl n95.1 n95.2 ?_)
              refine G_q rfl (op_loadNp (m := 3) (c' := c_api_TypeNode (gi a1 x26_l2)) (by kernel_rfl) rfl rfl rfl ?_)
              refine G_l rfl (op_alloc (c := [.exact (.int .i64 ((0, 0, 0).1)), .exact (.int .i64 ((0, 0, 0).2.1)), .exact (.int .i64 ((0, 0, 0).2.2))]) rfl (LEs.cons (AV.le_eq rfl) (LEs.cons (AV.le_eq rfl) (LEs.cons (AV.le_eq rfl) LEs.nil))) (fun b96 => ?_))
              refine G_l rfl (op_store_box (c' := [.exact (.int .i64 ((gi a1 x26_l2).1)), .exact (.int .i64 ((gi a1 x26_l2).2.1)), .exact (.int .i64 ((gi a1 x26_l2).2.2))]) (c3 := [.exact (.int .i64 ((gi a1 x26_l2).1)), .exact (.int .i64 ((gi a1 x26_l2).2.1)), .exact (.int .i64 ((gi a1 x26_l2).2.2))]) rfl rfl CellsOf.agg (LEs.cons (AV.le_eq rfl) (LEs.cons (AV.le_eq rfl) (LEs.cons (AV.le_eq rfl) LEs.nil))) (oc_c_api_TypeNode _) (by kernel_rfl) (Nat.le_of_ble_eq_true rfl) rfl ?_)
              refine G_nil ?_
              refine kC_normal ?_
              refine k_seq ?_
              refine k_reg .free hmixP (by kernel_rfl) ?_
              refine G_q rfl (op_move (av := .exact z2) rfl ?_)
              refine G_q rfl (op_fieldAddr (o := 1) (by kernel_rfl) rfl ?_)
              refine G_r rfl (op_load_box1 (a := .exact (.int .i64 ((gi a1 x26_l2).2.1))) (by kernel_rfl) rfl rfl ?_)
              refine G_r rfl (op_mlook2V (z := ([] : List (Int × Int × Int))) (List.Mem.tail _ (List.Mem.head _)) (keyOk_int Tryd.underlying3) (fun _ _ _ => trivial) Tryd.underlying85 (fun _ w => ⟨_, Tryd.zeroValue22 w, zp_row⟩) rfl (keyAV_int rfl) ?_)
              refine G_q rfl (op_move (av := .tup [.row 3 c_api_TypeNode (Option.getD (lookL y1.1 ((gi a1 x26_l2).2.1)) []), .exact (.bool (Option.isSome (lookL y1.1 ((gi a1 x26_l2).2.1))))]) rfl ?_)
              refine G_q rfl (op_extract (av := .row 3 c_api_TypeNode (Option.getD (lookL y1.1 ((gi a1 x26_l2).2.1)) [])) rfl rfl ?_)
              refine G_q rfl (op_extract (av := .exact (.bool (Option.isSome (lookL y1.1 ((gi a1 x26_l2).2.1))))) rfl rfl ?_)
              refine G_q rfl (op_assign (av := .row 3 c_api_TypeNode (Option.getD (lookL y1.1 ((gi a1 x26_l2).2.1)) [])) rfl ?_)
              refine G_q rfl (op_assign (av := .exact (.bool (Option.isSome (lookL y1.1 ((gi a1 x26_l2).2.1))))) rfl ?_)
              refine G_nil ?_
              refine kC_normal ?_
              refine k_join1_0 h (fun (x42_j97 : Bool) => (AF.put (AF.put (AF.put (AF.put (AF.put (AF.put (AF.put (AF.put AF0 (some 5) (.exact z2)) (some 7) (.exact v7_l2)) (some 9) (pA b96 0)) (some 10) (.row 3 c_api_TypeNode (Option.getD (lookL y1.1 ((gi a1 x26_l2).2.1)) []))) (some 24) (.row 3 c_api_TypeNode a1)) (some 25) (.exact (.int .i64 (List.length a1 : Int)))) (some 26) (.exact (.int .i64 x26_l2))) (some 42) (.exact (.bool x42_j97)))) (fun (x42_j97 : Bool) => [mapV (fun _ => True) (fun k : Int => .int .i64 k) (fun x : List (Int × Int × Int) => .row 3 c_api_TypeNode x) z2 y1.1, vecT Tryd.prog 22 3 c_api_TypeNode v7_l2 x7_l2, boxI 41 b96 [.exact (.int .i64 ((gi a1 x26_l2).1)), .exact (.int .i64 ((gi a1 x26_l2).2.1)), .exact (.int .i64 ((gi a1 x26_l2).2.2))]]) (fun k97 h => ?_) (fun x42_j97 h => ?_)
              · refine k_reg .free hmixP (by kernel_rfl) ?_
                refine G_q rfl (op_move (av := .exact (.bool (Option.isSome (lookL y1.1 ((gi a1 x26_l2).2.1))))) rfl ?_)
                refine G_q rfl (op_move (av := .exact (.bool (Option.isSome (lookL y1.1 ((gi a1 x26_l2).2.1))))) rfl ?_)
                refine G_splitB (c := (Option.isSome (lookL y1.1 ((gi a1 x26_l2).2.1)))) 38 rfl (fun hc => ?_) (fun hc => ?_)
                · replace h := ite_t h hc
                  refine Gy_q rfl rfl rfl (op_fieldAddr (o := 0) (by kernel_rfl) rfl ?_)
                  refine Gy_r rfl rfl rfl (op_load_box1 (a := .exact (.int .i64 ((gi a1 x26_l2).1))) (by kernel_rfl) rfl rfl ?_)
                  refine Gy_q rfl rfl rfl (op_eql rfl rfl ?_)
                  refine G_q rfl (op_pick_t rfl (av := .exact (.bool (decide (((gi a1 x26_l2).1) = 1)))) rfl ?_)
                  refine G_nil ?_
                  refine kI_normal ⟨_, h, ?_⟩
                  refine Sub.trans (SubU.to SubU.f2) ?_
                  refine Sub.trans (SubU.to SubU.f2) ?_
                  exact Sub.of_le (AF.le_put (AV.le_eq rfl) (AF.le_put (AV.le_eq rfl) (AF.le_put (AV.le_eq rfl) (AF.le_put (AV.le_eq rfl) (AF.le_put (AV.le_eq rfl) (AF.le_put (AV.le_eq rfl) (AF.le_put (AV.le_eq rfl) (AF.le_put (AV.le_eq rfl) (AF.le_top _)))))))))
                · replace h := ite_f h hc
                  refine G_n rfl rfl ?_
                  refine G_n rfl rfl ?_
                  refine G_n rfl rfl ?_
                  refine G_q rfl (op_pick_f rfl (av := .exact (.bool false)) rfl ?_)
                  refine G_nil ?_
                  refine kI_normal ⟨_, h, ?_⟩
                  refine Sub.trans (SubU.to SubU.f2) ?_
                  refine Sub.trans (SubU.to SubU.f2) ?_
                  exact Sub.of_le (AF.le_put (AV.le_eq rfl) (AF.le_put (AV.le_eq rfl) (AF.le_put (AV.le_eq rfl) (AF.le_put (AV.le_eq rfl) (AF.le_put (AV.le_eq rfl) (AF.le_put (AV.le_eq rfl) (AF.le_put (AV.le_eq rfl) (AF.le_put (AV.le_eq rfl) (AF.le_top _)))))))))
              · refine k_cond_b (c := x42_j97) rfl (fun hc => ?_) (fun hc => ?_)
                · replace h := ite_t h hc
                  refine k_reg .free hmixP (by kernel_rfl) ?_
                  refine G_q rfl (op_move (av := .exact v7_l2) rfl ?_)
                  refine G_q rfl (op_move (av := .row 3 c_api_TypeNode (Option.getD (lookL y1.1 ((gi a1 x26_l2).2.1)) [])) rfl ?_)
                  obtain ⟨n98, h⟩ := need_some h
                  refine G_l rfl (opB_f1 (op_appT (by kernel_rfl) rfl rfl oc_c_api_TypeNode n98 (fun v99 => ?_)))
                  refine G_q rfl (op_assign (av := .exact v99) rfl ?_)
                  refine G_nil ?_
                  refine kB_normal ?_
                  refine kI_normal ⟨_, v99, h, ?_⟩
                  refine Sub.trans (SubU.to SubU.f2) ?_
                  refine Sub.trans (SubU.to SubU.drop) ?_
                  refine Sub.trans (SubU.to SubU.f1) ?_
                  exact Sub.of_le (AF.le_put (AV.le_eq rfl) (AF.le_put (AV.le_eq rfl) (AF.le_put (AV.le_eq rfl) (AF.le_put (AV.le_eq rfl) (AF.le_put (AV.le_eq rfl) (AF.le_top _))))))
                · replace h := ite_f h hc
                  refine k_reg .free hmixP (by kernel_rfl) ?_
                  refine G_q rfl (op_move (av := .exact v7_l2) rfl ?_)
                  refine G_r rfl (opR_f2 (op_load_boxN (m := 3) (c' := c_api_TypeNode ((gi a1 x26_l2).1, (gi a1 x26_l2).2.1, (gi a1 x26_l2).2.2)) (by kernel_rfl) rfl rfl rfl ?_))
                  refine G_q rfl (op_litT (n := 3) (enc := c_api_TypeNode) [((gi a1 x26_l2).1, (gi a1 x26_l2).2.1, (gi a1 x26_l2).2.2)] (CellsAll.cons rfl CellsOf.agg CellsAll.nil) rfl (by kernel_rfl) (LEss.cons (LEs.cons (AV.le_eq rfl) (LEs.cons (AV.le_eq rfl) (LEs.cons (AV.le_eq rfl) LEs.nil))) LEss.nil) ?_)
                  obtain ⟨n100, h⟩ := need_some h
                  refine G_l rfl (opB_f1 (op_appT (by kernel_rfl) rfl rfl oc_c_api_TypeNode n100 (fun v101 => ?_)))
                  refine G_q rfl (op_assign (av := .exact v101) rfl ?_)
                  refine G_nil ?_
                  refine kB_normal ?_
                  refine kI_normal ⟨_, v101, h, ?_⟩
                  refine Sub.trans (SubU.to SubU.f2) ?_
                  refine Sub.trans (SubU.to SubU.drop) ?_
                  refine Sub.trans (SubU.to SubU.f1) ?_
                  exact Sub.of_le (AF.le_put (AV.le_eq rfl) (AF.le_put (AV.le_eq rfl) (AF.le_put (AV.le_eq rfl) (AF.le_put (AV.le_eq rfl) (AF.le_put (AV.le_eq rfl) (AF.le_top _))))))
            · refine k_reg .free hmixP (by kernel_rfl) ?_
              refine G_q rfl (op_add rfl rfl rfl ?_)
              refine G_q rfl (op_move (av := .exact (.int .i64 (i64 (x26_l2 + 1)))) rfl ?_)
              refine G_nil ?_
              refine kI_normal ⟨_, _, v7_j87, h, ?_⟩
              exact Sub.of_le (AF.le_put (AV.le_eq rfl) (AF.le_put (AV.le_eq rfl) (AF.le_put (AV.le_eq rfl) (AF.le_put (AV.le_eq rfl) (AF.le_put (AV.le_eq rfl) (AF.le_top _))))))
          · replace h := ite_f h hc
            refine k_exit ?_
            refine kC_exit ?_
            refine kI_exit ?_
            refine kB_exit ?_
            refine kI_normal ⟨_, v7_l2, h, ?_⟩
            refine Sub.trans (SubU.to SubU.drop) ?_
            exact Sub.of_le (AF.le_put (AV.le_eq rfl) (AF.le_top _))
      · refine k_seq ?_
        refine k_seq ?_
        refine k_reg .free hmixP (by kernel_rfl) ?_
        refine G_q rfl (op_move (av := .exact v7_j10) rfl ?_)
        refine G_sub rfl (SubU.freezeT2 (s1 := 7) (s2 := 51) rfl rfl len_c_api_TypeNode) ?_
        obtain ⟨y102, hy102, h⟩ := bnd1_some h
        refine G_q rfl (op_pure (m_types_Valid_ok _ _ hy102) Tryd.func29 (by kernel_rfl) (LEs.cons (AV.le_eq rfl) LEs.nil) ?_)
        refine G_q rfl (op_not rfl ?_)
        refine G_nil ?_
        refine kC_normal ?_
        refine k_cond_b (c := !y102) rfl (fun hc => ?_) (fun hc => ?_)
        · replace h := ite_t h hc
          refine k_seq ?_
          refine k_reg .free hmixP (by kernel_rfl) ?_
          refine G_q rfl (op_assign (av := .exact (.slice none 0 0)) rfl ?_)
          refine G_nil ?_
          refine kC_normal ?_
          refine k_ret ?_
          refine kC_ret ?_
          obtain rfl := Option.some.inj h
          refine kP_any (endN (af' := (AF.put AF0 (some 4) (.row 3 c_api_TypeNode []))) (σ' := []) _ rfl ?_ ⟨rfl, rfl⟩)
          exact Sub.of_le (AF.le_put (row_nil (by decide)) (AF.le_top _))
        · replace h := ite_f h hc
          refine k_skip ?_
          refine kC_normal ?_
          refine k_seq ?_
          refine k_reg .free hmixP (by kernel_rfl) ?_
          refine G_q rfl (op_move (av := .row 3 c_api_TypeNode x7_j10) rfl ?_)
          obtain ⟨y103, hy103, h⟩ := bnd1_some h
          refine G_q rfl (op_pure (m_slices_Clip_L_api_TypeNode_api_TypeNode_ok _ _ hy103) Tryd.func43 (by kernel_rfl) (LEs.cons (AV.le_eq rfl) LEs.nil) ?_)
          refine G_q rfl (op_assign (av := .row 3 c_api_TypeNode y103) rfl ?_)
          refine G_nil ?_
          refine kC_normal ?_
          refine k_ret ?_
          obtain rfl := Option.some.inj h
          refine kP_any (endN (af' := (AF.put AF0 (some 4) (.row 3 c_api_TypeNode y103))) (σ' := []) _ rfl ?_ ⟨rfl, rfl⟩)
          exact Sub.of_le (AF.le_put (AV.le_eq rfl) (AF.le_top _))
set_option maxHeartbeats 4000000 in
theorem m_law7_TypesMatch_ok (a0 : List (Int × Int × Int)) (a1 : List (Int × Int × Int)) (a2 : List Int) (a3 : List Int) (r : Bool) (h : m_law7_TypesMatch a0 a1 a2 a3 = some r) : Pure Tryd.prog 10 [(.row 3 c_api_TypeNode a0), (.row 3 c_api_TypeNode a1), (.row 1 c_int a2), (.row 1 c_int a3)] (.exact (.bool r)) := by
  unfold m_law7_TypesMatch at h
  refine Pure.ofFun (fun_of_awp Tryd.func10 rfl Tryd.ntmps10 (by simp) rfl (res1 rfl) fun E hE => k_end ?_)
  refine k_seq ?_
  refine k_reg .free hmixP (by kernel_rfl) ?_
  refine G_q rfl (op_assign (av := .exact (.bool false)) rfl ?_)
  refine G_nil ?_
  refine kC_normal ?_
  refine k_seq ?_
  refine k_reg .free hmixP (by kernel_rfl) ?_
  refine G_q rfl (op_move (av := .row 1 c_int a2) rfl ?_)
  obtain ⟨y1, hy1, h⟩ := bnd1_some h
  refine G_l rfl (op_fun_0_1_1 (m_gen_New_ok _ _ hy1) Tryd.func15 (by kernel_rfl) (LEs.cons (AV.le_eq rfl) LEs.nil) (fun b2 => ?_))
  obtain ⟨y3, hy3, h⟩ := bnd1_some h
  refine G_l rfl (op_fun_1_1_2 (m_law7_typ_ok _ _ _ _ hy3) Tryd.func14 (by kernel_rfl) (LEs.cons (AV.le_eq rfl) (LEs.cons (AV.le_eq rfl) (LEs.cons (AV.le_eq rfl) LEs.nil))) (fun v4 => ?_))
  refine G_q rfl (op_move (av := .row 1 c_int a3) rfl ?_)
  obtain ⟨y5, hy5, h⟩ := bnd1_some h
  refine G_l rfl (op_fun_0_1_1 (m_gen_New_ok _ _ hy5) Tryd.func15 (by kernel_rfl) (LEs.cons (AV.le_eq rfl) LEs.nil) (fun b6 => ?_))
  obtain ⟨y7, hy7, h⟩ := bnd1_some h
  refine G_l rfl (op_fun_1_1_2 (m_law7_typ_ok _ _ _ _ hy7) Tryd.func14 (by kernel_rfl) (LEs.cons (AV.le_eq rfl) (LEs.cons (AV.le_eq rfl) (LEs.cons (AV.le_eq rfl) LEs.nil))) (fun v8 => ?_))
  refine G_q rfl (op_assign (av := .exact v4) rfl ?_)
  refine G_q rfl (op_assign (av := .exact v8) rfl ?_)
  refine G_nil ?_
  refine kC_normal ?_
  refine k_seq ?_
  refine k_reg .free hmixP (by kernel_rfl) ?_
  refine G_q rfl (op_move (av := .row 3 c_api_TypeNode a0) rfl ?_)
  refine G_q rfl (op_move (av := .row 3 c_api_TypeNode a1) rfl ?_)
  obtain ⟨y9, hy9, h⟩ := bnd1_some h
  refine G_q rfl (op_pure (m_types_Match_ok _ _ _ hy9) Tryd.func38 (by kernel_rfl) (LEs.cons (AV.le_eq rfl) (LEs.cons (AV.le_eq rfl) LEs.nil)) ?_)
  refine G_q rfl (op_move (av := .tup [.row 2 c_api_Binding y9.1, .exact (.bool y9.2)]) rfl ?_)
  refine G_q rfl (op_extract (av := .row 2 c_api_Binding y9.1) rfl rfl ?_)
  refine G_q rfl (op_extract (av := .exact (.bool y9.2)) rfl rfl ?_)
  refine G_q rfl (op_assign (av := .row 2 c_api_Binding y9.1) rfl ?_)
  refine G_q rfl (op_assign (av := .exact (.bool y9.2)) rfl ?_)
  refine G_nil ?_
  refine kC_normal ?_
  refine k_seq ?_
  refine k_reg .free hmixP (by kernel_rfl) ?_
  refine G_q rfl (op_move (av := .row 3 c_api_TypeNode a0) rfl ?_)
  refine G_q rfl (op_move (av := .row 3 c_api_TypeNode a1) rfl ?_)
  obtain ⟨y10, hy10, h⟩ := bnd1_some h
  refine G_q rfl (op_pure (m_ref6_Match_ok _ _ _ hy10) Tryd.func39 (by kernel_rfl) (LEs.cons (AV.le_eq rfl) (LEs.cons (AV.le_eq rfl) LEs.nil)) ?_)
  refine G_q rfl (op_move (av := .tup [.row 2 c_api_Binding y10.1, .exact (.bool y10.2)]) rfl ?_)
  refine G_q rfl (op_extract (av := .row 2 c_api_Binding y10.1) rfl rfl ?_)
  refine G_q rfl (op_extract (av := .exact (.bool y10.2)) rfl rfl ?_)
  refine G_q rfl (op_assign (av := .row 2 c_api_Binding y10.1) rfl ?_)
  refine G_q rfl (op_assign (av := .exact (.bool y10.2)) rfl ?_)
  refine G_nil ?_
  refine kC_normal ?_
  refine k_seq ?_
  refine k_reg .free hmixP (by kernel_rfl) ?_
  refine G_q rfl (op_move (av := .exact v4) rfl ?_)
  refine G_q rfl (op_move (av := .exact v8) rfl ?_)
  refine G_sub rfl (SubU.trans SubU.f2 (SubU.freezeT3 (s1 := 9) (s2 := 26) (s3 := 43) rfl rfl rfl len_c_api_TypeNode)) ?_
  refine G_sub rfl (SubU.freezeT3 (s1 := 10) (s2 := 29) (s3 := 44) rfl rfl rfl len_c_api_TypeNode) ?_
  obtain ⟨y11, hy11, h⟩ := bnd1_some h
  refine G_q rfl (op_pure (m_types_Match_ok _ _ _ hy11) Tryd.func38 (by kernel_rfl) (LEs.cons (AV.le_eq rfl) (LEs.cons (AV.le_eq rfl) LEs.nil)) ?_)
  refine G_q rfl (op_move (av := .tup [.row 2 c_api_Binding y11.1, .exact (.bool y11.2)]) rfl ?_)
  refine G_q rfl (op_extract (av := .row 2 c_api_Binding y11.1) rfl rfl ?_)
  refine G_q rfl (op_extract (av := .exact (.bool y11.2)) rfl rfl ?_)
  refine G_q rfl (op_assign (av := .row 2 c_api_Binding y11.1) rfl ?_)
  refine G_q rfl (op_assign (av := .exact (.bool y11.2)) rfl ?_)
  refine G_nil ?_
  refine kC_normal ?_
  refine k_seq ?_
  refine k_reg .free hmixP (by kernel_rfl) ?_
  refine G_q rfl (op_move (av := .row 3 c_api_TypeNode y3.1) rfl ?_)
  refine G_q rfl (op_move (av := .row 3 c_api_TypeNode y7.1) rfl ?_)
  obtain ⟨y12, hy12, h⟩ := bnd1_some h
  refine G_q rfl (op_pure (m_ref6_Match_ok _ _ _ hy12) Tryd.func39 (by kernel_rfl) (LEs.cons (AV.le_eq rfl) (LEs.cons (AV.le_eq rfl) LEs.nil)) ?_)
  refine G_q rfl (op_move (av := .tup [.row 2 c_api_Binding y12.1, .exact (.bool y12.2)]) rfl ?_)
  refine G_q rfl (op_extract (av := .row 2 c_api_Binding y12.1) rfl rfl ?_)
  refine G_q rfl (op_extract (av := .exact (.bool y12.2)) rfl rfl ?_)
  refine G_q rfl (op_assign (av := .row 2 c_api_Binding y12.1) rfl ?_)
  refine G_q rfl (op_assign (av := .exact (.bool y12.2)) rfl ?_)
  refine G_nil ?_
  refine kC_normal ?_
  refine k_seq ?_
  refine k_join1_0 h (fun (x77_j21 : Bool) => (AF.put (AF.put (AF.put AF0 (some 3) (.row 1 c_int a3)) (some 9) (.row 3 c_api_TypeNode y3.1)) (some 77) (.exact (.bool x77_j21)))) (fun (x77_j21 : Bool) => []) (fun k21 h => ?_) (fun x77_j21 h => ?_)
  · refine k_reg .free hmixP (by kernel_rfl) ?_
    obtain ⟨y25, hy25, h⟩ := bnd1_some h
    refine G_q rfl (op_pure (m_law7_awake_ok _ hy25) Tryd.func16 (by kernel_rfl) LEs.nil ?_)
    refine G_q rfl (op_not rfl ?_)
    refine G_q rfl (op_move (av := .exact (.bool (!y25))) rfl ?_)
    refine G_splitB (c := !y25) 56 rfl (fun hc => ?_) (fun hc => ?_)
    · replace h := ite_t h hc
      refine G_n rfl rfl ?_
      refine G_n rfl rfl ?_
      refine G_n rfl rfl ?_
      refine G_q rfl (op_pick_t rfl (av := .exact (.bool true)) rfl ?_)
      refine G_q rfl (op_move (av := .exact (.bool true)) rfl ?_)
      refine G_n rfl rfl ?_
      refine G_n rfl rfl ?_
      refine G_n rfl rfl ?_
      refine G_n rfl rfl ?_
      refine G_q rfl (op_pick_t rfl (av := .exact (.bool true)) rfl ?_)
      refine G_q rfl (op_move (av := .exact (.bool true)) rfl ?_)
      refine G_n rfl rfl ?_
      refine G_n rfl rfl ?_
      refine G_n rfl rfl ?_
      refine G_q rfl (op_pick_t rfl (av := .exact (.bool true)) rfl ?_)
      refine G_q rfl (op_move (av := .exact (.bool true)) rfl ?_)
      refine G_n rfl rfl ?_
      refine G_n rfl rfl ?_
      refine G_n rfl rfl ?_
      refine G_n rfl rfl ?_
      refine G_q rfl (op_pick_t rfl (av := .exact (.bool true)) rfl ?_)
      refine G_nil ?_
      refine kI_normal ⟨_, h, ?_⟩
      refine Sub.trans (SubU.to SubU.drop) ?_
      refine Sub.trans (SubU.to SubU.drop) ?_
      exact Sub.of_le (AF.le_put (AV.le_eq rfl) (AF.le_put (AV.le_eq rfl) (AF.le_put (AV.le_eq rfl) (AF.le_top _))))
    · replace h := ite_f h hc
      refine Gy_q rfl rfl rfl (op_move (av := .exact (.bool y9.2)) rfl ?_)
      refine Gy_q rfl rfl rfl (op_move (av := .exact (.bool y10.2)) rfl ?_)
      refine Gy_q rfl rfl rfl (op_neqB (a := y9.2) (b := y10.2) (by kernel_rfl) rfl rfl ?_)
      refine G_q rfl (op_pick_f rfl (av := .exact (.bool (decide (¬ y9.2 = y10.2)))) rfl ?_)
      refine G_q rfl (op_move (av := .exact (.bool (decide (¬ y9.2 = y10.2)))) rfl ?_)
      refine G_split (p := ¬ y9.2 = y10.2) 61 rfl (fun hc => ?_) (fun hc => ?_)
      · replace h := ite_t h hc
        refine G_n rfl rfl ?_
        refine G_n rfl rfl ?_
        refine G_n rfl rfl ?_
        refine G_n rfl rfl ?_
        refine G_q rfl (op_pick_t rfl (av := .exact (.bool true)) rfl ?_)
        refine G_q rfl (op_move (av := .exact (.bool true)) rfl ?_)
        refine G_n rfl rfl ?_
        refine G_n rfl rfl ?_
        refine G_n rfl rfl ?_
        refine G_q rfl (op_pick_t rfl (av := .exact (.bool true)) rfl ?_)
        refine G_q rfl (op_move (av := .exact (.bool true)) rfl ?_)
        refine G_n rfl rfl ?_
        refine G_n rfl rfl ?_
        refine G_n rfl rfl ?_
        refine G_n rfl rfl ?_
        refine G_q rfl (op_pick_t rfl (av := .exact (.bool true)) rfl ?_)
        refine G_nil ?_
        refine kI_normal ⟨_, h, ?_⟩
        refine Sub.trans (SubU.to SubU.drop) ?_
        refine Sub.trans (SubU.to SubU.drop) ?_
        exact Sub.of_le (AF.le_put (AV.le_eq rfl) (AF.le_put (AV.le_eq rfl) (AF.le_put (AV.le_eq rfl) (AF.le_top _))))
      · replace h := ite_f h hc
        refine Gy_q rfl rfl rfl (op_move (av := .row 2 c_api_Binding y9.1) rfl ?_)
        refine Gy_q rfl rfl rfl (op_move (av := .row 2 c_api_Binding y10.1) rfl ?_)
        obtain ⟨y26, hy26, h⟩ := bnd1_some h
        refine Gy_q rfl rfl rfl (op_pure (m_help_SameTypes_ok _ _ _ hy26) Tryd.func17 (by kernel_rfl) (LEs.cons (AV.le_eq rfl) (LEs.cons (AV.le_eq rfl) LEs.nil)) ?_)
        refine Gy_q rfl rfl rfl (op_not rfl ?_)
        refine G_q rfl (op_pick_f rfl (av := .exact (.bool (!y26))) rfl ?_)
        refine G_q rfl (op_move (av := .exact (.bool (!y26))) rfl ?_)
        refine G_splitB (c := !y26) 67 rfl (fun hc => ?_) (fun hc => ?_)
        · replace h := ite_t h hc
          refine G_n rfl rfl ?_
          refine G_n rfl rfl ?_
          refine G_n rfl rfl ?_
          refine G_q rfl (op_pick_t rfl (av := .exact (.bool true)) rfl ?_)
          refine G_q rfl (op_move (av := .exact (.bool true)) rfl ?_)
          refine G_n rfl rfl ?_
          refine G_n rfl rfl ?_
          refine G_n rfl rfl ?_
          refine G_n rfl rfl ?_
          refine G_q rfl (op_pick_t rfl (av := .exact (.bool true)) rfl ?_)
          refine G_nil ?_
          refine kI_normal ⟨_, h, ?_⟩
          refine Sub.trans (SubU.to SubU.drop) ?_
          refine Sub.trans (SubU.to SubU.drop) ?_
          exact Sub.of_le (AF.le_put (AV.le_eq rfl) (AF.le_put (AV.le_eq rfl) (AF.le_put (AV.le_eq rfl) (AF.le_top _))))
        · replace h := ite_f h hc
          refine Gy_q rfl rfl rfl (op_move (av := .exact (.bool y11.2)) rfl ?_)
          refine Gy_q rfl rfl rfl (op_move (av := .exact (.bool y12.2)) rfl ?_)
          refine Gy_q rfl rfl rfl (op_neqB (a := y11.2) (b := y12.2) (by kernel_rfl) rfl rfl ?_)
          refine G_q rfl (op_pick_f rfl (av := .exact (.bool (decide (¬ y11.2 = y12.2)))) rfl ?_)
          refine G_q rfl (op_move (av := .exact (.bool (decide (¬ y11.2 = y12.2)))) rfl ?_)
          refine G_split (p := ¬ y11.2 = y12.2) 72 rfl (fun hc => ?_) (fun hc => ?_)
          · replace h := ite_t h hc
            refine G_n rfl rfl ?_
            refine G_n rfl rfl ?_
            refine G_n rfl rfl ?_
            refine G_n rfl rfl ?_
            refine G_q rfl (op_pick_t rfl (av := .exact (.bool true)) rfl ?_)
            refine G_nil ?_
            refine kI_normal ⟨_, h, ?_⟩
            refine Sub.trans (SubU.to SubU.drop) ?_
            refine Sub.trans (SubU.to SubU.drop) ?_
            exact Sub.of_le (AF.le_put (AV.le_eq rfl) (AF.le_put (AV.le_eq rfl) (AF.le_put (AV.le_eq rfl) (AF.le_top _))))
          · replace h := ite_f h hc
            refine Gy_q rfl rfl rfl (op_move (av := .row 2 c_api_Binding y11.1) rfl ?_)
            refine Gy_q rfl rfl rfl (op_move (av := .row 2 c_api_Binding y12.1) rfl ?_)
            obtain ⟨y27, hy27, h⟩ := bnd1_some h
            refine Gy_q rfl rfl rfl (op_pure (m_help_SameTypes_ok _ _ _ hy27) Tryd.func17 (by kernel_rfl) (LEs.cons (AV.le_eq rfl) (LEs.cons (AV.le_eq rfl) LEs.nil)) ?_)
            refine Gy_q rfl rfl rfl (op_not rfl ?_)
            refine G_q rfl (op_pick_f rfl (av := .exact (.bool (!y27))) rfl ?_)
            refine G_nil ?_
            refine kI_normal ⟨_, h, ?_⟩
            refine Sub.trans (SubU.to SubU.drop) ?_
            refine Sub.trans (SubU.to SubU.drop) ?_
            exact Sub.of_le (AF.le_put (AV.le_eq rfl) (AF.le_put (AV.le_eq rfl) (AF.le_put (AV.le_eq rfl) (AF.le_top _))))
  · refine k_cond_b (c := x77_j21) rfl (fun hc => ?_) (fun hc => ?_)
    · replace h := ite_t h hc
      refine k_seq ?_
      refine k_reg .free hmixP (by kernel_rfl) ?_
      refine G_q rfl (op_assign (av := .exact (.bool false)) rfl ?_)
      refine G_nil ?_
      refine kC_normal ?_
      refine k_ret ?_
      refine kC_ret ?_
      obtain rfl := Option.some.inj h
      refine kP_any (endN (af' := (AF.put AF0 (some 8) (.exact (.bool false)))) (σ' := []) _ rfl ?_ ⟨rfl, rfl⟩)
      exact Sub.of_le (AF.le_put (AV.le_eq rfl) (AF.le_top _))
    · replace h := ite_f h hc
      refine k_skip ?_
      refine kC_normal ?_
      refine k_seq ?_
      refine k_reg .free hmixP (by kernel_rfl) ?_
      refine G_q rfl (op_move (av := .row 1 c_int a3) rfl ?_)
      obtain ⟨y28, hy28, h⟩ := bnd1_some h
      refine G_l rfl (op_fun_0_1_1 (m_gen_New_ok _ _ hy28) Tryd.func15 (by kernel_rfl) (LEs.cons (AV.le_eq rfl) LEs.nil) (fun b29 => ?_))
      refine G_q rfl (op_assign (av := pA b29 0) rfl ?_)
      refine G_nil ?_
      refine kC_normal ?_
      refine k_seq ?_
      refine k_reg .free hmixP (by kernel_rfl) ?_
      refine G_q rfl (op_move (av := pA b29 0) rfl ?_)
      obtain ⟨y30, hy30, h⟩ := bnd1_some h
      refine G_l rfl (op_fun_1_1_2 (m_law7_typ_ok _ _ _ _ hy30) Tryd.func14 (by kernel_rfl) (LEs.cons (AV.le_eq rfl) (LEs.cons (AV.le_eq rfl) (LEs.cons (AV.le_eq rfl) LEs.nil))) (fun v31 => ?_))
      refine G_sub rfl (SubU.freezeT (s := 81) rfl len_c_api_TypeNode) ?_
      refine G_q rfl (op_bld (c' := c_api_Binding (0, y30.1)) (CellsAll.cons rfl CellsOf.int (CellsAll.cons rfl CellsOf.row CellsAll.nil)) rfl (LEs.cons (AV.le_eq rfl) (LEs.cons (AV.le_eq rfl) LEs.nil)) ?_)
      refine G_q rfl (op_move (av := pA b29 0) rfl ?_)
      obtain ⟨y32, hy32, h⟩ := bnd1_some h
      refine G_l rfl (op_fun_1_1_2 (m_law7_typ_ok _ _ _ _ hy32) Tryd.func14 (by kernel_rfl) (LEs.cons (AV.le_eq rfl) (LEs.cons (AV.le_eq rfl) (LEs.cons (AV.le_eq rfl) LEs.nil))) (fun v33 => ?_))
      refine G_sub rfl (SubU.freezeT (s := 84) rfl len_c_api_TypeNode) ?_
      refine G_q rfl (op_bld (c' := c_api_Binding (1, y32.1)) (CellsAll.cons rfl CellsOf.int (CellsAll.cons rfl CellsOf.row CellsAll.nil)) rfl (LEs.cons (AV.le_eq rfl) (LEs.cons (AV.le_eq rfl) LEs.nil)) ?_)
      refine G_q rfl (op_move (av := pA b29 0) rfl ?_)
      obtain ⟨y34, hy34, h⟩ := bnd1_some h
      refine G_l rfl (op_fun_1_1_2 (m_law7_typ_ok _ _ _ _ hy34) Tryd.func14 (by kernel_rfl) (LEs.cons (AV.le_eq rfl) (LEs.cons (AV.le_eq rfl) (LEs.cons (AV.le_eq rfl) LEs.nil))) (fun v35 => ?_))
      refine G_sub rfl (SubU.freezeT (s := 87) rfl len_c_api_TypeNode) ?_
      refine G_q rfl (op_bld (c' := c_api_Binding (2, y34.1)) (CellsAll.cons rfl CellsOf.int (CellsAll.cons rfl CellsOf.row CellsAll.nil)) rfl (LEs.cons (AV.le_eq rfl) (LEs.cons (AV.le_eq rfl) LEs.nil)) ?_)
      refine G_q rfl (op_litT (n := 2) (enc := c_api_Binding) [(0, y30.1), (1, y32.1), (2, y34.1)] (CellsAll.cons rfl CellsOf.agg (CellsAll.cons rfl CellsOf.agg (CellsAll.cons rfl CellsOf.agg CellsAll.nil))) rfl (by kernel_rfl) (LEss.cons (LEs.cons (AV.le_eq rfl) (LEs.cons (AV.le_eq rfl) LEs.nil)) (LEss.cons (LEs.cons (AV.le_eq rfl) (LEs.cons (AV.le_eq rfl) LEs.nil)) (LEss.cons (LEs.cons (AV.le_eq rfl) (LEs.cons (AV.le_eq rfl) LEs.nil)) LEss.nil))) ?_)
      refine G_q rfl (op_assign (av := .row 2 c_api_Binding [(0, y30.1), (1, y32.1), (2, y34.1)]) rfl ?_)
      refine G_nil ?_
      refine kC_normal ?_
      refine k_seq ?_
      refine k_reg .free hmixP (by kernel_rfl) ?_
      refine G_q rfl (op_move (av := .row 2 c_api_Binding [(0, y30.1), (1, y32.1), (2, y34.1)]) rfl ?_)
      refine G_q rfl (op_move (av := .row 3 c_api_TypeNode y3.1) rfl ?_)
      obtain ⟨y36, hy36, h⟩ := bnd1_some h
      refine G_q rfl (op_pure (m_ref6_Apply_ok _ _ _ hy36) Tryd.func22 (by kernel_rfl) (LEs.cons (AV.le_eq rfl) (LEs.cons (AV.le_eq rfl) LEs.nil)) ?_)
      refine G_q rfl (op_assign (av := .row 3 c_api_TypeNode y36) rfl ?_)
      refine G_nil ?_
      refine kC_normal ?_
      refine k_seq ?_
      refine k_seq ?_
      refine k_reg .free hmixP (by kernel_rfl) ?_
      refine G_q rfl (op_move (av := .row 3 c_api_TypeNode y36) rfl ?_)
      refine G_q rfl (op_len_row (by kernel_rfl) rfl ?_)
      refine G_q rfl (op_eql rfl rfl ?_)
      refine G_nil ?_
      refine kC_normal ?_
      refine k_cond_d (p := (List.length y36 : Int) = 0) rfl (fun hc => ?_) (fun hc => ?_)
      · replace h := ite_t h hc
        refine k_seq ?_
        refine k_reg .free hmixP (by kernel_rfl) ?_
        refine G_q rfl (op_assign (av := .exact (.bool true)) rfl ?_)
        refine G_nil ?_
        refine kC_normal ?_
        refine k_ret ?_
        refine kC_ret ?_
        obtain rfl := Option.some.inj h
        refine kP_any (endN (af' := (AF.put AF0 (some 8) (.exact (.bool true)))) (σ' := []) _ rfl ?_ ⟨rfl, rfl⟩)
        refine Sub.trans (SubU.to SubU.drop) ?_
        exact Sub.of_le (AF.le_put (AV.le_eq rfl) (AF.le_top _))
      · replace h := ite_f h hc
        refine k_skip ?_
        refine kC_normal ?_
        refine k_seq ?_
        refine k_reg .free hmixP (by kernel_rfl) ?_
        refine G_q rfl (op_move (av := .row 3 c_api_TypeNode y3.1) rfl ?_)
        refine G_q rfl (op_move (av := .row 3 c_api_TypeNode y36) rfl ?_)
        obtain ⟨y37, hy37, h⟩ := bnd1_some h
        refine G_q rfl (op_pure (m_types_Match_ok _ _ _ hy37) Tryd.func38 (by kernel_rfl) (LEs.cons (AV.le_eq rfl) (LEs.cons (AV.le_eq rfl) LEs.nil)) ?_)
        refine G_q rfl (op_move (av := .tup [.row 2 c_api_Binding y37.1, .exact (.bool y37.2)]) rfl ?_)
        refine G_q rfl (op_extract (av := .row 2 c_api_Binding y37.1) rfl rfl ?_)
        refine G_q rfl (op_extract (av := .exact (.bool y37.2)) rfl rfl ?_)
        refine G_q rfl (op_assign (av := .row 2 c_api_Binding y37.1) rfl ?_)
        refine G_q rfl (op_assign (av := .exact (.bool y37.2)) rfl ?_)
        refine G_nil ?_
        refine kC_normal ?_
        refine k_join1_0 h (fun (x8_j38 : Bool) => (AF.put AF0 (some 8) (.exact (.bool x8_j38)))) (fun (x8_j38 : Bool) => []) (fun k38 h => ?_) (fun x8_j38 h => ?_)
        · refine k_reg .free hmixP (by kernel_rfl) ?_
          refine G_q rfl (op_move (av := .exact (.bool y37.2)) rfl ?_)
          refine G_q rfl (op_move (av := .exact (.bool y37.2)) rfl ?_)
          refine G_splitB (c := y37.2) 103 rfl (fun hc => ?_) (fun hc => ?_)
          · replace h := ite_t h hc
            refine Gy_q rfl rfl rfl (op_move (av := .row 2 c_api_Binding y37.1) rfl ?_)
            refine Gy_q rfl rfl rfl (op_move (av := .row 3 c_api_TypeNode y3.1) rfl ?_)
            obtain ⟨y41, hy41, h⟩ := bnd1_some h
            refine Gy_q rfl rfl rfl (op_pure (m_types_Apply_ok _ _ _ hy41) Tryd.func18 (by kernel_rfl) (LEs.cons (AV.le_eq rfl) (LEs.cons (AV.le_eq rfl) LEs.nil)) ?_)
            refine Gy_q rfl rfl rfl (op_move (av := .row 3 c_api_TypeNode y36) rfl ?_)
            obtain ⟨y42, hy42, h⟩ := bnd1_some h
            refine Gy_q rfl rfl rfl (op_pure (m_help_Equal_api_TypeNode_ok _ _ _ hy42) Tryd.func21 (by kernel_rfl) (LEs.cons (AV.le_eq rfl) (LEs.cons (AV.le_eq rfl) LEs.nil)) ?_)
            refine G_q rfl (op_pick_t rfl (av := .exact (.bool y42)) rfl ?_)
            refine G_q rfl (op_assign (av := .exact (.bool y42)) rfl ?_)
            refine G_nil ?_
            refine kI_normal ⟨_, h, ?_⟩
            refine Sub.trans (SubU.to SubU.drop) ?_
            exact Sub.of_le (AF.le_put (AV.le_eq rfl) (AF.le_top _))
          · replace h := ite_f h hc
            refine G_n rfl rfl ?_
            refine G_n rfl rfl ?_
            refine G_n rfl rfl ?_
            refine G_n rfl rfl ?_
            refine G_n rfl rfl ?_
            refine G_q rfl (op_pick_f rfl (av := .exact (.bool false)) rfl ?_)
            refine G_q rfl (op_assign (av := .exact (.bool false)) rfl ?_)
            refine G_nil ?_
            refine kI_normal ⟨_, h, ?_⟩
            refine Sub.trans (SubU.to SubU.drop) ?_
            exact Sub.of_le (AF.le_put (AV.le_eq rfl) (AF.le_top _))
        · refine k_ret ?_
          obtain rfl := Option.some.inj h
          refine kP_any (endN (af' := (AF.put AF0 (some 8) (.exact (.bool x8_j38)))) (σ' := []) _ rfl ?_ ⟨rfl, rfl⟩)
          exact Sub.of_le (AF.le_put (AV.le_eq rfl) (AF.le_top _))
end Go.Proofs.YtdfdjgolijckfaaDoor
