/- The functions compute their models, by program. -/
import Derived.Test.YtkbbeeeoogjknaaQA4
namespace Go.Proofs.Ytkbbeeeoogjknaa
open Go.RowKit
attribute [local irreducible] AV.exact AV.top AV.row AV.ptr AV.agg AV.tup AV.eptr AV.fn AV.nilq AV.nilqn opA opB opM opR Quiet Loud Reads wpG awp den Sub SubU Pure Fun vecI vecT boxI CellsAll CellsOf OneC LEs LEss
set_option maxRecDepth 100000

set_option maxHeartbeats 4000000 in
theorem m_alphabet_Keep_ok (a0 : List (Int × Int)) (a1 : List Int) (r : (List Int)) (h : m_alphabet_Keep a0 a1 = some r) : Pure Try.prog 19 [(.row 2 c_api_Above a0), (.row 1 c_int a1)] (.row 1 c_int r) := by
  unfold m_alphabet_Keep at h
  refine Pure.ofFun (fun_of_awp Try.func19 rfl Try.ntmps19 (by simp) rfl (res1 rfl) fun E hE => k_end ?_)
  refine k_seq ?_
  refine k_reg .free hmixP (by kernel_rfl) ?_
  refine G_l rfl (op_boxI (c := [.row 2 c_api_Above a0]) rfl CellsOf.row (LEs.cons (AV.le_eq rfl) LEs.nil) (fun b1 => ?_))
  refine G_l rfl (op_boxI (c := [.row 1 c_int a1]) rfl CellsOf.row (LEs.cons (AV.le_eq rfl) LEs.nil) (fun b2 => ?_))
  refine G_q rfl (op_assign (av := .exact (.slice none 0 0)) rfl ?_)
  refine G_nil ?_
  refine kC_normal ?_
  refine k_seq ?_
  refine k_reg .free hmixP (by kernel_rfl) ?_
  refine G_r rfl (op_load_box1 (a := .row 1 c_int a1) (by kernel_rfl) rfl rfl ?_)
  obtain ⟨y3, hy3, h⟩ := bnd1_some h
  refine G_l rfl (op_fun_0_1_1 (m_slices_Clone_L_int_int_ok _ _ hy3) Try.func60 (by kernel_rfl) (LEs.cons (AV.le_eq rfl) LEs.nil) (fun v4 => ?_))
  refine G_q rfl (op_assign (av := .exact v4) rfl ?_)
  refine G_nil ?_
  refine kC_normal ?_
  refine k_join1_1 h (fun (x5_j5 : List Int) (v5_j5 : Value) => (AF.put AF0 (some 5) (.exact v5_j5))) (fun (x5_j5 : List Int) (v5_j5 : Value) => [vecT Try.prog 23 1 c_int v5_j5 x5_j5]) (fun k5 h => ?_) (fun x5_j5 v5_j5 h => ?_)
  · refine k_seq ?_
    refine k_reg .free hmixP (by kernel_rfl) ?_
    refine G_r rfl (opR_f2 (op_load_box1 (a := .row 2 c_api_Above a0) (by kernel_rfl) rfl rfl ?_))
    obtain ⟨y9, hy9, h⟩ := bnd1_some h
    refine G_q rfl (op_pure (m_alphabet_ValidOrder_ok _ _ hy9) Try.func16 (by kernel_rfl) (LEs.cons (AV.le_eq rfl) LEs.nil) ?_)
    refine G_nil ?_
    refine kC_normal ?_
    refine k_cond_b (c := y9) rfl (fun hc => ?_) (fun hc => ?_)
    · replace h := ite_t h hc
      refine k_reg .free hmixP (by kernel_rfl) ?_
      refine G_q rfl (op_move (av := .exact v4) rfl ?_)
      refine G_sub rfl (SubU.trans SubU.f2 (SubU.freezeBox (s := 2) rfl)) ?_
      refine G_sub rfl (SubU.trans SubU.f1 (SubU.freezeBox (s := 3) rfl)) ?_
      refine G_q rfl (op_makeFunc (args := (fun (i : Int) => [.exact (.int .i64 i)])) (f := (fun (i : Int) => (fun (x0 : Int) => m_alphabet_Keep_1 x0 a0 a1) i)) (res := (fun (r : Bool) => .exact (.bool r))) Try.func62 (by kernel_rfl) [.ptr [.row 2 c_api_Above a0], .ptr [.row 1 c_int a1]] (LEs.cons (AV.le_eq rfl) (LEs.cons (AV.le_eq rfl) LEs.nil)) (fun i r h => m_alphabet_Keep_1_ok i a0 a1 r h) ?_)
      obtain ⟨y10, hy10, h⟩ := bnd1_some h
      refine G_l rfl (op_fun_1_1_1 (m_slices_DeleteFunc_L_int_int_ok _ _ _ hy10) Try.func61 (by kernel_rfl) (LEs.cons (AV.le_eq rfl) (LEs.cons (AV.le_eq rfl) LEs.nil)) (fun v11 => ?_))
      refine G_q rfl (op_assign (av := .exact v11) rfl ?_)
      refine G_nil ?_
      refine kI_normal ⟨_, v11, h, ?_⟩
      exact Sub.of_le (AF.le_put (AV.le_eq rfl) (AF.le_top _))
    · replace h := ite_f h hc
      refine k_skip ?_
      refine kI_normal ⟨_, v4, h, ?_⟩
      refine Sub.trans (SubU.to SubU.f1) ?_
      refine Sub.trans (SubU.to SubU.drop) ?_
      refine Sub.trans (SubU.to SubU.f1) ?_
      refine Sub.trans (SubU.to SubU.drop) ?_
      exact Sub.of_le (AF.le_put (AV.le_eq rfl) (AF.le_top _))
  · refine k_seq ?_
    refine k_reg .free hmixP (by kernel_rfl) ?_
    refine G_q rfl (op_move (av := .exact v5_j5) rfl ?_)
    refine G_sub rfl (SubU.freezeT2 (s1 := 5) (s2 := 13) rfl rfl len_c_int) ?_
    obtain ⟨y12, hy12, h⟩ := bnd1_some h
    refine G_q rfl (op_pure (m_slices_Clip_L_int_int_ok _ _ hy12) Try.func64 (by kernel_rfl) (LEs.cons (AV.le_eq rfl) LEs.nil) ?_)
    refine G_q rfl (op_assign (av := .row 1 c_int y12) rfl ?_)
    refine G_nil ?_
    refine kC_normal ?_
    refine k_ret ?_
    obtain rfl := Option.some.inj h
    refine kP_any (endN (af' := (AF.put AF0 (some 4) (.row 1 c_int y12))) (σ' := []) _ rfl ?_ ⟨rfl, rfl⟩)
    exact Sub.of_le (AF.le_put (AV.le_eq rfl) (AF.le_top _))
set_option maxHeartbeats 4000000 in
theorem m_ref16_Has_ok (a0 : List Int) (a1 : Int) (r : Bool) (h : m_ref16_Has a0 a1 = some r) : Pure Try.prog 50 [(.row 1 c_int a0), (.exact (.int .i64 a1))] (.exact (.bool r)) := by
  unfold m_ref16_Has at h
  refine Pure.ofFun (fun_of_awp Try.func50 rfl Try.ntmps50 (by simp) rfl (res1 rfl) fun E hE => k_end ?_)
  refine k_seq ?_
  refine k_reg .free hmixP (by kernel_rfl) ?_
  refine G_q rfl (op_assign (av := .exact (.bool false)) rfl ?_)
  refine G_nil ?_
  refine kC_normal ?_
  refine k_join0_0 h (AF0) ([]) (fun k1 h => ?_) (fun  h => ?_)
  · refine k_seq ?_
    refine k_reg .free hmixP (by kernel_rfl) ?_
    refine G_q rfl (op_assign (av := .exact (.int .i64 0)) rfl ?_)
    refine G_nil ?_
    refine kC_normal ?_
    refine k_block ?_
    refine k_loop1_0 (m_ref16_Has_L2 a0 a1 k1) (m_ref16_Has_B2 a0 a1 k1) (fun _ => rfl) (fun m _ => rfl) h (fun (x5_l2 : Int) => (AF.put (AF.put (AF.put AF0 (some 0) (.row 1 c_int a0)) (some 1) (.exact (.int .i64 a1))) (some 5) (.exact (.int .i64 x5_l2)))) (fun (x5_l2 : Int) => []) ?_ (fun rec2 x5_l2 h => ?_)
    · exact Sub.of_le (AF.le_put (AV.le_eq rfl) (AF.le_put (AV.le_eq rfl) (AF.le_put (AV.le_eq rfl) (AF.le_top _))))
    · unfold m_ref16_Has_B2 at h
      refine k_seq ?_
      refine k_seq ?_
      refine k_reg .free hmixP (by kernel_rfl) ?_
      refine G_q rfl (op_move (av := .exact (.int .i64 x5_l2)) rfl ?_)
      refine G_q rfl (op_move (av := .row 1 c_int a0) rfl ?_)
      refine G_q rfl (op_len_row (by kernel_rfl) rfl ?_)
      refine G_q rfl (op_lss rfl rfl ?_)
      refine G_nil ?_
      refine kC_normal ?_
      refine k_cond_d (p := x5_l2 < (List.length a0 : Int)) rfl (fun hc => ?_) (fun hc => ?_)
      · replace h := ite_t h hc
        refine k_skip ?_
        refine kC_normal ?_
        refine k_seq ?_
        refine k_block ?_
        refine k_seq ?_
        refine k_reg .free hmixP (by kernel_rfl) ?_
        refine G_q rfl (op_move (av := .row 1 c_int a0) rfl ?_)
        refine G_q rfl (op_move (av := .exact (.int .i64 x5_l2)) rfl ?_)
        obtain ⟨n8, h⟩ := need_some h
        refine G_q rfl (op_index_row (by kernel_rfl) rfl rfl n8.1 n8.2 ?_)
        refine G_q rfl (op_load1p (a := .exact (.int .i64 (gi a0 x5_l2))) (by kernel_rfl) rfl rfl ?_)
        refine G_q rfl (op_move (av := .exact (.int .i64 a1)) rfl ?_)
        refine G_q rfl (op_eql rfl rfl ?_)
        refine G_nil ?_
        refine kC_normal ?_
        refine k_cond_d (p := (gi a0 x5_l2) = a1) rfl (fun hc => ?_) (fun hc => ?_)
        · replace h := ite_t h hc
          refine k_seq ?_
          refine k_reg .free hmixP (by kernel_rfl) ?_
          refine G_q rfl (op_assign (av := .exact (.bool true)) rfl ?_)
          refine G_nil ?_
          refine kC_normal ?_
          refine k_ret ?_
          refine kB_ret ?_
          refine kC_ret ?_
          refine kI_ret ?_
          refine kB_ret ?_
          refine kI_ret ?_
          obtain rfl := Option.some.inj h
          refine kP_any (endN (af' := (AF.put AF0 (some 4) (.exact (.bool true)))) (σ' := []) _ rfl ?_ ⟨rfl, rfl⟩)
          exact Sub.of_le (AF.le_put (AV.le_eq rfl) (AF.le_top _))
        · replace h := ite_f h hc
          refine k_skip ?_
          refine kB_normal ?_
          refine kC_normal ?_
          refine k_reg .free hmixP (by kernel_rfl) ?_
          refine G_q rfl (op_move (av := .exact (.int .i64 x5_l2)) rfl ?_)
          refine G_q rfl (op_add rfl rfl rfl ?_)
          refine G_q rfl (op_assign (av := .exact (.int .i64 (i64 (x5_l2 + 1)))) rfl ?_)
          refine G_nil ?_
          refine kI_normal ⟨_, h, ?_⟩
          exact Sub.of_le (AF.le_put (AV.le_eq rfl) (AF.le_put (AV.le_eq rfl) (AF.le_put (AV.le_eq rfl) (AF.le_top _))))
      · replace h := ite_f h hc
        refine k_exit ?_
        refine kC_exit ?_
        refine kI_exit ?_
        refine kB_exit ?_
        refine kI_normal ⟨h, ?_⟩
        exact Sub.of_le (AF.le_top _)
  · refine k_seq ?_
    refine k_reg .free hmixP (by kernel_rfl) ?_
    refine G_q rfl (op_assign (av := .exact (.bool false)) rfl ?_)
    refine G_nil ?_
    refine kC_normal ?_
    refine k_ret ?_
    obtain rfl := Option.some.inj h
    refine kP_any (endN (af' := (AF.put AF0 (some 4) (.exact (.bool false)))) (σ' := []) _ rfl ?_ ⟨rfl, rfl⟩)
    exact Sub.of_le (AF.le_put (AV.le_eq rfl) (AF.le_top _))
set_option maxHeartbeats 4000000 in
theorem m_ref16_Keep_ok (a0 : List (Int × Int)) (a1 : List Int) (r : (List Int)) (h : m_ref16_Keep a0 a1 = some r) : Pure Try.prog 20 [(.row 2 c_api_Above a0), (.row 1 c_int a1)] (.row 1 c_int r) := by
  unfold m_ref16_Keep at h
  refine Pure.ofFun (fun_of_awp Try.func20 rfl Try.ntmps20 (by simp) rfl (res1 rfl) fun E hE => k_end ?_)
  refine k_seq ?_
  refine k_reg .free hmixP (by kernel_rfl) ?_
  refine G_q rfl (op_assign (av := .exact (.slice none 0 0)) rfl ?_)
  refine G_nil ?_
  refine kC_normal ?_
  refine k_seq ?_
  refine k_reg .free hmixP (by kernel_rfl) ?_
  refine G_q rfl (op_assign (av := .exact (.slice none 0 0)) rfl ?_)
  refine G_nil ?_
  refine kC_normal ?_
  refine k_seq ?_
  refine k_seq ?_
  refine k_reg .free hmixP (by kernel_rfl) ?_
  refine G_q rfl (op_move (av := .row 2 c_api_Above a0) rfl ?_)
  obtain ⟨y1, hy1, h⟩ := bnd1_some h
  refine G_q rfl (op_pure (m_ref16_ValidOrder_ok _ _ hy1) Try.func17 (by kernel_rfl) (LEs.cons (AV.le_eq rfl) LEs.nil) ?_)
  refine G_q rfl (op_not rfl ?_)
  refine G_nil ?_
  refine kC_normal ?_
  refine k_cond_b (c := !y1) rfl (fun hc => ?_) (fun hc => ?_)
  · replace h := ite_t h hc
    refine k_seq ?_
    refine k_reg .free hmixP (by kernel_rfl) ?_
    refine G_q rfl (op_move (av := .exact (.slice none 0 0)) rfl ?_)
    refine G_q rfl (op_move (av := .row 1 c_int a1) rfl ?_)
    obtain ⟨n2, h⟩ := need_some h
    refine G_l rfl (op_appN (enc := c_int) (by kernel_rfl) rfl rfl oc_c_int n2 (fun v3 => ?_))
    refine G_q rfl (op_assign (av := .exact v3) rfl ?_)
    refine G_nil ?_
    refine kC_normal ?_
    refine k_ret ?_
    refine kC_ret ?_
    obtain rfl := Option.some.inj h
    refine kP_any (endN (af' := (AF.put AF0 (some 4) (.row 1 c_int a1))) (σ' := []) _ rfl ?_ ⟨rfl, rfl⟩)
    refine Sub.trans (SubU.to (SubU.freezeT (s := 4) rfl len_c_int)) ?_
    exact Sub.of_le (AF.le_put (AV.le_eq rfl) (AF.le_top _))
  · replace h := ite_f h hc
    refine k_skip ?_
    refine kC_normal ?_
    refine k_join1_1 h (fun (x5_j4 : List Int) (v5_j4 : Value) => (AF.put AF0 (some 5) (.exact v5_j4))) (fun (x5_j4 : List Int) (v5_j4 : Value) => [vecT Try.prog 23 1 c_int v5_j4 x5_j4]) (fun k4 h => ?_) (fun x5_j4 v5_j4 h => ?_)
    · refine k_seq ?_
      refine k_reg .free hmixP (by kernel_rfl) ?_
      refine G_q rfl (op_assign (av := .exact (.int .i64 0)) rfl ?_)
      refine G_nil ?_
      refine kC_normal ?_
      refine k_block ?_
      refine k_loop2_1 (m_ref16_Keep_L14 a0 a1 k4) (m_ref16_Keep_B14 a0 a1 k4) (fun _ _ => rfl) (fun m _ _ => rfl) h (fun (x5_l14 : List Int) (x6_l14 : Int) (v5_l14 : Value) => (AF.put (AF.put (AF.put (AF.put AF0 (some 0) (.row 2 c_api_Above a0)) (some 1) (.row 1 c_int a1)) (some 5) (.exact v5_l14)) (some 6) (.exact (.int .i64 x6_l14)))) (fun (x5_l14 : List Int) (x6_l14 : Int) (v5_l14 : Value) => [vecT Try.prog 23 1 c_int v5_l14 x5_l14]) (.slice none 0 0) ?_ (fun rec14 x5_l14 x6_l14 v5_l14 h => ?_)
      · refine Sub.trans (SubU.to (SubU.nilT (P := Try.prog) (t := 23) (n := 1) (enc := c_int))) ?_
        exact Sub.of_le (AF.le_put (AV.le_eq rfl) (AF.le_put (AV.le_eq rfl) (AF.le_put (AV.le_eq rfl) (AF.le_put (AV.le_eq rfl) (AF.le_top _)))))
      · unfold m_ref16_Keep_B14 at h
        refine k_seq ?_
        refine k_seq ?_
        refine k_reg .free hmixP (by kernel_rfl) ?_
        refine G_q rfl (op_move (av := .exact (.int .i64 x6_l14)) rfl ?_)
        refine G_q rfl (op_move (av := .row 1 c_int a1) rfl ?_)
        refine G_q rfl (op_len_row (by kernel_rfl) rfl ?_)
        refine G_q rfl (op_lss rfl rfl ?_)
        refine G_nil ?_
        refine kC_normal ?_
        refine k_cond_d (p := x6_l14 < (List.length a1 : Int)) rfl (fun hc => ?_) (fun hc => ?_)
        · replace h := ite_t h hc
          refine k_skip ?_
          refine kC_normal ?_
          refine k_join1_1 h (fun (x5_j1691 : List Int) (v5_j1691 : Value) => (AF.put (AF.put (AF.put (AF.put AF0 (some 0) (.row 2 c_api_Above a0)) (some 1) (.row 1 c_int a1)) (some 5) (.exact v5_j1691)) (some 6) (.exact (.int .i64 x6_l14)))) (fun (x5_j1691 : List Int) (v5_j1691 : Value) => [vecT Try.prog 23 1 c_int v5_j1691 x5_j1691]) (fun k1691 h => ?_) (fun x5_j1691 v5_j1691 h => ?_)
          · refine k_block ?_
            refine k_seq ?_
            refine k_reg .free hmixP (by kernel_rfl) ?_
            refine G_q rfl (op_assign (av := .exact (.bool true)) rfl ?_)
            refine G_nil ?_
            refine kC_normal ?_
            refine k_join1_0 h (fun (x7_j1860 : Bool) => (AF.put (AF.put (AF.put (AF.put (AF.put AF0 (some 0) (.row 2 c_api_Above a0)) (some 1) (.row 1 c_int a1)) (some 5) (.exact v5_l14)) (some 6) (.exact (.int .i64 x6_l14))) (some 7) (.exact (.bool x7_j1860)))) (fun (x7_j1860 : Bool) => [vecT Try.prog 23 1 c_int v5_l14 x5_l14]) (fun k1860 h => ?_) (fun x7_j1860 h => ?_)
            · refine k_seq ?_
              refine k_reg .free hmixP (by kernel_rfl) ?_
              refine G_q rfl (op_assign (av := .exact (.int .i64 0)) rfl ?_)
              refine G_nil ?_
              refine kC_normal ?_
              refine k_block ?_
              refine k_loop2_0 (m_ref16_Keep_L26 a0 a1 x6_l14 k1860) (m_ref16_Keep_B26 a0 a1 x6_l14 k1860) (fun _ _ => rfl) (fun m _ _ => rfl) h (fun (x7_l26 : Bool) (x8_l26 : Int) => (AF.put (AF.put (AF.put (AF.put (AF.put (AF.put AF0 (some 0) (.row 2 c_api_Above a0)) (some 1) (.row 1 c_int a1)) (some 5) (.exact v5_l14)) (some 6) (.exact (.int .i64 x6_l14))) (some 7) (.exact (.bool x7_l26))) (some 8) (.exact (.int .i64 x8_l26)))) (fun (x7_l26 : Bool) (x8_l26 : Int) => [vecT Try.prog 23 1 c_int v5_l14 x5_l14]) ?_ (fun rec26 x7_l26 x8_l26 h => ?_)
              · exact Sub.of_le (AF.le_put (AV.le_eq rfl) (AF.le_put (AV.le_eq rfl) (AF.le_put (AV.le_eq rfl) (AF.le_put (AV.le_eq rfl) (AF.le_put (AV.le_eq rfl) (AF.le_put (AV.le_eq rfl) (AF.le_top _)))))))
              · unfold m_ref16_Keep_B26 at h
                refine k_seq ?_
                refine k_seq ?_
                refine k_reg .free hmixP (by kernel_rfl) ?_
                refine G_q rfl (op_move (av := .exact (.int .i64 x8_l26)) rfl ?_)
                refine G_q rfl (op_move (av := .row 2 c_api_Above a0) rfl ?_)
                refine G_q rfl (op_len_row (by kernel_rfl) rfl ?_)
                refine G_q rfl (op_lss rfl rfl ?_)
                refine G_nil ?_
                refine kC_normal ?_
                refine k_cond_d (p := x8_l26 < (List.length a0 : Int)) rfl (fun hc => ?_) (fun hc => ?_)
                · replace h := ite_t h hc
                  refine k_skip ?_
                  refine kC_normal ?_
                  refine k_join1_0 h (fun (x7_j1997 : Bool) => (AF.put (AF.put (AF.put (AF.put (AF.put (AF.put AF0 (some 0) (.row 2 c_api_Above a0)) (some 1) (.row 1 c_int a1)) (some 5) (.exact v5_l14)) (some 6) (.exact (.int .i64 x6_l14))) (some 7) (.exact (.bool x7_j1997))) (some 8) (.exact (.int .i64 x8_l26)))) (fun (x7_j1997 : Bool) => [vecT Try.prog 23 1 c_int v5_l14 x5_l14]) (fun k1997 h => ?_) (fun x7_j1997 h => ?_)
                  · refine k_block ?_
                    refine k_join1_0 h (fun (x53_j2011 : Bool) => (AF.put (AF.put (AF.put (AF.put (AF.put (AF.put (AF.put AF0 (some 0) (.row 2 c_api_Above a0)) (some 1) (.row 1 c_int a1)) (some 5) (.exact v5_l14)) (some 6) (.exact (.int .i64 x6_l14))) (some 7) (.exact (.bool x7_l26))) (some 8) (.exact (.int .i64 x8_l26))) (some 53) (.exact (.bool x53_j2011)))) (fun (x53_j2011 : Bool) => [vecT Try.prog 23 1 c_int v5_l14 x5_l14]) (fun k2011 h => ?_) (fun x53_j2011 h => ?_)
                    · refine k_plan [] [(0, 0), (0, 1), (0, 2), (0, 3), (0, 4), (0, 5), (0, 6), (0, 7), (0, 8), (0, 9), (0, 10), (0, 11), (0, 12), (0, 13), (0, 14), (0, 15), (0, 16), (0, 17), (0, 18), (0, 19), (0, 20), (0, 21), (0, 22), (0, 23), (0, 24), (0, 25), (0, 26)] hmixP (by kernel_rfl) ?_
                      refine P_q no34_0 rfl (op_move (av := .row 2 c_api_Above a0) rfl ?_)
                      refine P_q no34_0 rfl (op_move (av := .exact (.int .i64 x8_l26)) rfl ?_)
                      obtain ⟨n2018, h⟩ := need_some h
                      refine P_q no34_0 rfl (op_index_row (by kernel_rfl) rfl rfl n2018.1 n2018.2 ?_)
                      refine P_q no34_0 rfl (op_fieldAddr_ptr (o := 0) (c' := (List.drop 0 (c_api_Above (gi a0 x8_l26)))) (by kernel_rfl) rfl rfl ?_)
                      refine P_q no34_0 rfl (op_load1p (a := .exact (.int .i64 ((gi a0 x8_l26).1))) (by kernel_rfl) rfl rfl ?_)
                      refine P_q no34_0 rfl (op_move (av := .row 1 c_int a1) rfl ?_)
                      refine P_q no34_0 rfl (op_move (av := .exact (.int .i64 x6_l14)) rfl ?_)
                      obtain ⟨n2019, h⟩ := need_some h
                      refine P_q no34_0 rfl (op_index_row (by kernel_rfl) rfl rfl n2019.1 n2019.2 ?_)
                      refine P_q no34_0 rfl (op_load1p (a := .exact (.int .i64 (gi a1 x6_l14))) (by kernel_rfl) rfl rfl ?_)
                      refine P_q no34_0 rfl (op_eql rfl rfl ?_)
                      refine P_q no34_0 rfl (op_move (av := .exact (.bool (decide (((gi a0 x8_l26).1) = (gi a1 x6_l14))))) rfl ?_)
                      refine P_split (p := ((gi a0 x8_l26).1) = (gi a1 x6_l14)) 37 rfl (fun hc => ?_) (fun hc => ?_)
                      · replace h := ite_t h hc
                        refine Py_q no34_0 rfl rfl rfl (op_move (av := .row 1 c_int a1) rfl ?_)
                        refine Py_q no34_0 rfl rfl rfl (op_move (av := .row 2 c_api_Above a0) rfl ?_)
                        refine Py_q no34_0 rfl rfl rfl (op_move (av := .exact (.int .i64 x8_l26)) rfl ?_)
                        obtain ⟨n2020, h⟩ := need_some h
                        refine Py_q no34_0 rfl rfl rfl (op_index_row (by kernel_rfl) rfl rfl n2020.1 n2020.2 ?_)
                        refine Py_q no34_0 rfl rfl rfl (op_fieldAddr_ptr (o := 1) (c' := (List.drop 1 (c_api_Above (gi a0 x8_l26)))) (by kernel_rfl) rfl rfl ?_)
                        refine Py_q no34_0 rfl rfl rfl (op_load1p (a := .exact (.int .i64 ((gi a0 x8_l26).2))) (by kernel_rfl) rfl rfl ?_)
                        obtain ⟨y2021, hy2021, h⟩ := bnd1_some h
                        refine Py_q no34_0 rfl rfl rfl (op_pure (m_ref16_Has_ok _ _ _ hy2021) Try.func50 (by kernel_rfl) (LEs.cons (AV.le_eq rfl) (LEs.cons (AV.le_eq rfl) LEs.nil)) ?_)
                        refine Py_q no34_0 rfl rfl rfl (op_move (av := .exact (.bool y2021)) rfl ?_)
                        refine P_splitB (c := y2021) 45 rfl (fun hc => ?_) (fun hc => ?_)
                        · replace h := ite_t h hc
                          refine P_n no34_0 rfl rfl rfl ?_
                          refine P_n no34_0 rfl rfl rfl ?_
                          refine Py_q no34_0 rfl rfl rfl (op_pick_t rfl (av := .exact (.bool true)) rfl ?_)
                          refine Py_q no34_0 rfl rfl rfl (op_move (av := .exact (.bool true)) rfl ?_)
                          refine P_n no34_0 rfl rfl rfl ?_
                          refine P_n no34_0 rfl rfl rfl ?_
                          refine Py_q no34_0 rfl rfl rfl (op_pick_t rfl (av := .exact (.bool true)) rfl ?_)
                          refine P_q no34_0 rfl (op_pick_t rfl (av := .exact (.bool true)) rfl ?_)
                          refine P_nil ?_
                          refine kI_normal ⟨_, h, ?_⟩
                          exact Sub.of_le (AF.le_put (AV.le_eq rfl) (AF.le_put (AV.le_eq rfl) (AF.le_put (AV.le_eq rfl) (AF.le_put (AV.le_eq rfl) (AF.le_put (AV.le_eq rfl) (AF.le_put (AV.le_eq rfl) (AF.le_put (AV.le_eq rfl) (AF.le_top _))))))))
                        · replace h := ite_f h hc
                          refine Py_q no34_0 rfl rfl rfl (op_move (av := .row 1 c_int a1) rfl ?_)
                          obtain ⟨y2022, hy2022, h⟩ := bnd1_some h
                          refine Py_q no34_0 rfl rfl rfl (op_pure (m_ref16_Has_ok _ _ _ hy2022) Try.func50 (by kernel_rfl) (LEs.cons (AV.le_eq rfl) (LEs.cons (AV.le_eq rfl) LEs.nil)) ?_)
                          refine Py_q no34_0 rfl rfl rfl (op_pick_f rfl (av := .exact (.bool y2022)) rfl ?_)
                          refine Py_q no34_0 rfl rfl rfl (op_move (av := .exact (.bool y2022)) rfl ?_)
                          refine P_splitB (c := y2022) 49 rfl (fun hc => ?_) (fun hc => ?_)
                          · replace h := ite_t h hc
                            refine P_n no34_0 rfl rfl rfl ?_
                            refine P_n no34_0 rfl rfl rfl ?_
                            refine Py_q no34_0 rfl rfl rfl (op_pick_t rfl (av := .exact (.bool true)) rfl ?_)
                            refine P_q no34_0 rfl (op_pick_t rfl (av := .exact (.bool true)) rfl ?_)
                            refine P_nil ?_
                            refine kI_normal ⟨_, h, ?_⟩
                            exact Sub.of_le (AF.le_put (AV.le_eq rfl) (AF.le_put (AV.le_eq rfl) (AF.le_put (AV.le_eq rfl) (AF.le_put (AV.le_eq rfl) (AF.le_put (AV.le_eq rfl) (AF.le_put (AV.le_eq rfl) (AF.le_put (AV.le_eq rfl) (AF.le_top _))))))))
                          · replace h := ite_f h hc
                            refine Py_q no34_0 rfl rfl rfl (op_move (av := .row 1 c_int a1) rfl ?_)
                            obtain ⟨y2023, hy2023, h⟩ := bnd1_some h
                            refine Py_q no34_0 rfl rfl rfl (op_pure (m_ref16_Has_ok _ _ _ hy2023) Try.func50 (by kernel_rfl) (LEs.cons (AV.le_eq rfl) (LEs.cons (AV.le_eq rfl) LEs.nil)) ?_)
                            refine Py_q no34_0 rfl rfl rfl (op_pick_f rfl (av := .exact (.bool y2023)) rfl ?_)
                            refine P_q no34_0 rfl (op_pick_t rfl (av := .exact (.bool y2023)) rfl ?_)
                            refine P_nil ?_
                            refine kI_normal ⟨_, h, ?_⟩
                            exact Sub.of_le (AF.le_put (AV.le_eq rfl) (AF.le_put (AV.le_eq rfl) (AF.le_put (AV.le_eq rfl) (AF.le_put (AV.le_eq rfl) (AF.le_put (AV.le_eq rfl) (AF.le_put (AV.le_eq rfl) (AF.le_put (AV.le_eq rfl) (AF.le_top _))))))))
                      · replace h := ite_f h hc
                        refine P_n no34_0 rfl rfl rfl ?_
                        refine P_n no34_0 rfl rfl rfl ?_
                        refine P_n no34_0 rfl rfl rfl ?_
                        refine P_n no34_0 rfl rfl rfl ?_
                        refine P_n no34_0 rfl rfl rfl ?_
                        refine P_n no34_0 rfl rfl rfl ?_
                        refine P_n no34_0 rfl rfl rfl ?_
                        refine P_n no34_0 rfl rfl rfl ?_
                        refine P_u no34_0 rfl rfl rfl ?_
                        refine P_u no34_0 rfl rfl rfl ?_
                        refine P_n no34_0 rfl rfl rfl ?_
                        refine P_n no34_0 rfl rfl rfl ?_
                        refine P_u no34_0 rfl rfl rfl ?_
                        refine P_u no34_0 rfl rfl rfl ?_
                        refine P_n no34_0 rfl rfl rfl ?_
                        refine P_q no34_0 rfl (op_pick_f rfl (av := .exact (.bool false)) rfl ?_)
                        refine P_nil ?_
                        refine kI_normal ⟨_, h, ?_⟩
                        exact Sub.of_le (AF.le_put (AV.le_eq rfl) (AF.le_put (AV.le_eq rfl) (AF.le_put (AV.le_eq rfl) (AF.le_put (AV.le_eq rfl) (AF.le_put (AV.le_eq rfl) (AF.le_put (AV.le_eq rfl) (AF.le_put (AV.le_eq rfl) (AF.le_top _))))))))
                    · refine k_cond_b (c := x53_j2011) rfl (fun hc => ?_) (fun hc => ?_)
                      · replace h := ite_t h hc
                        refine k_reg .free hmixP (by kernel_rfl) ?_
                        refine G_q rfl (op_assign (av := .exact (.bool false)) rfl ?_)
                        refine G_nil ?_
                        refine kB_normal ?_
                        refine kI_normal ⟨_, h, ?_⟩
                        exact Sub.of_le (AF.le_put (AV.le_eq rfl) (AF.le_put (AV.le_eq rfl) (AF.le_put (AV.le_eq rfl) (AF.le_put (AV.le_eq rfl) (AF.le_put (AV.le_eq rfl) (AF.le_put (AV.le_eq rfl) (AF.le_top _)))))))
                      · replace h := ite_f h hc
                        refine k_skip ?_
                        refine kB_normal ?_
                        refine kI_normal ⟨_, h, ?_⟩
                        exact Sub.of_le (AF.le_put (AV.le_eq rfl) (AF.le_put (AV.le_eq rfl) (AF.le_put (AV.le_eq rfl) (AF.le_put (AV.le_eq rfl) (AF.le_put (AV.le_eq rfl) (AF.le_put (AV.le_eq rfl) (AF.le_top _)))))))
                  · refine k_reg .free hmixP (by kernel_rfl) ?_
                    refine G_q rfl (op_move (av := .exact (.int .i64 x8_l26)) rfl ?_)
                    refine G_q rfl (op_add rfl rfl rfl ?_)
                    refine G_q rfl (op_assign (av := .exact (.int .i64 (i64 (x8_l26 + 1)))) rfl ?_)
                    refine G_nil ?_
                    refine kI_normal ⟨_, _, h, ?_⟩
                    exact Sub.of_le (AF.le_put (AV.le_eq rfl) (AF.le_put (AV.le_eq rfl) (AF.le_put (AV.le_eq rfl) (AF.le_put (AV.le_eq rfl) (AF.le_put (AV.le_eq rfl) (AF.le_put (AV.le_eq rfl) (AF.le_top _)))))))
                · replace h := ite_f h hc
                  refine k_exit ?_
                  refine kC_exit ?_
                  refine kI_exit ?_
                  refine kB_exit ?_
                  refine kI_normal ⟨_, h, ?_⟩
                  exact Sub.of_le (AF.le_put (AV.le_eq rfl) (AF.le_put (AV.le_eq rfl) (AF.le_put (AV.le_eq rfl) (AF.le_put (AV.le_eq rfl) (AF.le_put (AV.le_eq rfl) (AF.le_top _))))))
            · refine k_seq ?_
              refine k_reg .free hmixP (by kernel_rfl) ?_
              refine G_q rfl (op_move (av := .exact (.bool x7_j1860)) rfl ?_)
              refine G_nil ?_
              refine kC_normal ?_
              refine k_cond_b (c := x7_j1860) rfl (fun hc => ?_) (fun hc => ?_)
              · replace h := ite_t h hc
                refine k_reg .free hmixP (by kernel_rfl) ?_
                refine G_q rfl (op_move (av := .exact v5_l14) rfl ?_)
                refine G_q rfl (op_move (av := .row 1 c_int a1) rfl ?_)
                refine G_q rfl (op_move (av := .exact (.int .i64 x6_l14)) rfl ?_)
                obtain ⟨n2024, h⟩ := need_some h
                refine G_q rfl (op_index_row (by kernel_rfl) rfl rfl n2024.1 n2024.2 ?_)
                refine G_q rfl (op_load1p (a := .exact (.int .i64 (gi a1 x6_l14))) (by kernel_rfl) rfl rfl ?_)
                refine G_q rfl (op_litT (n := 1) (enc := c_int) [gi a1 x6_l14] (CellsAll.cons rfl CellsOf.int CellsAll.nil) rfl (by kernel_rfl) (LEss.cons (LEs.cons (AV.le_eq rfl) LEs.nil) LEss.nil) ?_)
                obtain ⟨n2025, h⟩ := need_some h
                refine G_l rfl (op_appT (by kernel_rfl) rfl rfl oc_c_int n2025 (fun v2026 => ?_))
                refine G_q rfl (op_assign (av := .exact v2026) rfl ?_)
                refine G_nil ?_
                refine kB_normal ?_
                refine kI_normal ⟨_, v2026, h, ?_⟩
                exact Sub.of_le (AF.le_put (AV.le_eq rfl) (AF.le_put (AV.le_eq rfl) (AF.le_put (AV.le_eq rfl) (AF.le_put (AV.le_eq rfl) (AF.le_top _)))))
              · replace h := ite_f h hc
                refine k_skip ?_
                refine kB_normal ?_
                refine kI_normal ⟨_, v5_l14, h, ?_⟩
                exact Sub.of_le (AF.le_put (AV.le_eq rfl) (AF.le_put (AV.le_eq rfl) (AF.le_put (AV.le_eq rfl) (AF.le_put (AV.le_eq rfl) (AF.le_top _)))))
          · refine k_reg .free hmixP (by kernel_rfl) ?_
            refine G_q rfl (op_move (av := .exact (.int .i64 x6_l14)) rfl ?_)
            refine G_q rfl (op_add rfl rfl rfl ?_)
            refine G_q rfl (op_assign (av := .exact (.int .i64 (i64 (x6_l14 + 1)))) rfl ?_)
            refine G_nil ?_
            refine kI_normal ⟨_, _, v5_j1691, h, ?_⟩
            exact Sub.of_le (AF.le_put (AV.le_eq rfl) (AF.le_put (AV.le_eq rfl) (AF.le_put (AV.le_eq rfl) (AF.le_put (AV.le_eq rfl) (AF.le_top _)))))
        · replace h := ite_f h hc
          refine k_exit ?_
          refine kC_exit ?_
          refine kI_exit ?_
          refine kB_exit ?_
          refine kI_normal ⟨_, v5_l14, h, ?_⟩
          exact Sub.of_le (AF.le_put (AV.le_eq rfl) (AF.le_top _))
    · refine k_seq ?_
      refine k_reg .free hmixP (by kernel_rfl) ?_
      refine G_q rfl (op_move (av := .exact v5_j4) rfl ?_)
      refine G_q rfl (op_assign (av := .exact v5_j4) rfl ?_)
      refine G_nil ?_
      refine kC_normal ?_
      refine k_ret ?_
      obtain rfl := Option.some.inj h
      refine kP_any (endN (af' := (AF.put AF0 (some 4) (.row 1 c_int x5_j4))) (σ' := []) _ rfl ?_ ⟨rfl, rfl⟩)
      refine Sub.trans (SubU.to (SubU.freezeT (s := 4) rfl len_c_int)) ?_
      exact Sub.of_le (AF.le_put (AV.le_eq rfl) (AF.le_top _))
set_option maxHeartbeats 4000000 in
theorem m_help_Equal_int_ok (a0 : List Int) (a1 : List Int) (r : Bool) (h : m_help_Equal_int a0 a1 = some r) : Pure Try.prog 18 [(.row 1 c_int a0), (.row 1 c_int a1)] (.exact (.bool r)) := by
  unfold m_help_Equal_int at h
  refine Pure.ofFun (fun_of_awp Try.func18 rfl Try.ntmps18 (by simp) rfl (res1 rfl) fun E hE => k_end ?_)
  refine k_seq ?_
  refine k_reg .free hmixP (by kernel_rfl) ?_
  refine G_q rfl (op_assign (av := .exact (.bool false)) rfl ?_)
  refine G_nil ?_
  refine kC_normal ?_
  refine k_seq ?_
  refine k_seq ?_
  refine k_reg .free hmixP (by kernel_rfl) ?_
  refine G_q rfl (op_move (av := .row 1 c_int a0) rfl ?_)
  refine G_q rfl (op_len_row (by kernel_rfl) rfl ?_)
  refine G_q rfl (op_move (av := .row 1 c_int a1) rfl ?_)
  refine G_q rfl (op_len_row (by kernel_rfl) rfl ?_)
  refine G_q rfl (op_neq rfl rfl ?_)
  refine G_nil ?_
  refine kC_normal ?_
  refine k_cond_d (p := ¬ (List.length a0 : Int) = (List.length a1 : Int)) rfl (fun hc => ?_) (fun hc => ?_)
  · replace h := ite_t h hc
    refine k_seq ?_
    refine k_reg .free hmixP (by kernel_rfl) ?_
    refine G_q rfl (op_assign (av := .exact (.bool false)) rfl ?_)
    refine G_nil ?_
    refine kC_normal ?_
    refine k_ret ?_
    refine kC_ret ?_
    obtain rfl := Option.some.inj h
    refine kP_any (endN (af' := (AF.put AF0 (some 4) (.exact (.bool false)))) (σ' := []) _ rfl ?_ ⟨rfl, rfl⟩)
    exact Sub.of_le (AF.le_put (AV.le_eq rfl) (AF.le_top _))
  · replace h := ite_f h hc
    refine k_skip ?_
    refine kC_normal ?_
    refine k_join0_0 h (AF0) ([]) (fun k1 h => ?_) (fun  h => ?_)
    · refine k_seq ?_
      refine k_reg .free hmixP (by kernel_rfl) ?_
      refine G_q rfl (op_assign (av := .exact (.int .i64 0)) rfl ?_)
      refine G_nil ?_
      refine kC_normal ?_
      refine k_block ?_
      refine k_loop1_0 (m_help_Equal_int_L2 a0 a1 k1) (m_help_Equal_int_B2 a0 a1 k1) (fun _ => rfl) (fun m _ => rfl) h (fun (x5_l2 : Int) => (AF.put (AF.put (AF.put AF0 (some 0) (.row 1 c_int a0)) (some 1) (.row 1 c_int a1)) (some 5) (.exact (.int .i64 x5_l2)))) (fun (x5_l2 : Int) => []) ?_ (fun rec2 x5_l2 h => ?_)
      · exact Sub.of_le (AF.le_put (AV.le_eq rfl) (AF.le_put (AV.le_eq rfl) (AF.le_put (AV.le_eq rfl) (AF.le_top _))))
      · unfold m_help_Equal_int_B2 at h
        refine k_seq ?_
        refine k_seq ?_
        refine k_reg .free hmixP (by kernel_rfl) ?_
        refine G_q rfl (op_move (av := .exact (.int .i64 x5_l2)) rfl ?_)
        refine G_q rfl (op_move (av := .row 1 c_int a0) rfl ?_)
        refine G_q rfl (op_len_row (by kernel_rfl) rfl ?_)
        refine G_q rfl (op_lss rfl rfl ?_)
        refine G_nil ?_
        refine kC_normal ?_
        refine k_cond_d (p := x5_l2 < (List.length a0 : Int)) rfl (fun hc => ?_) (fun hc => ?_)
        · replace h := ite_t h hc
          refine k_skip ?_
          refine kC_normal ?_
          refine k_seq ?_
          refine k_block ?_
          refine k_seq ?_
          refine k_plan [] [(0, 0), (0, 1), (0, 2), (0, 3), (0, 4), (0, 5), (0, 6), (0, 7), (0, 8)] hmixP (by kernel_rfl) ?_
          refine P_q no34_0 rfl (op_move (av := .row 1 c_int a0) rfl ?_)
          refine P_q no34_0 rfl (op_move (av := .exact (.int .i64 x5_l2)) rfl ?_)
          obtain ⟨n13, h⟩ := need_some h
          refine P_q no34_0 rfl (op_index_row (by kernel_rfl) rfl rfl n13.1 n13.2 ?_)
          refine P_q no34_0 rfl (op_load1p (a := .exact (.int .i64 (gi a0 x5_l2))) (by kernel_rfl) rfl rfl ?_)
          refine P_q no34_0 rfl (op_move (av := .row 1 c_int a1) rfl ?_)
          refine P_q no34_0 rfl (op_move (av := .exact (.int .i64 x5_l2)) rfl ?_)
          obtain ⟨n14, h⟩ := need_some h
          refine P_q no34_0 rfl (op_index_row (by kernel_rfl) rfl rfl n14.1 n14.2 ?_)
          refine P_q no34_0 rfl (op_load1p (a := .exact (.int .i64 (gi a1 x5_l2))) (by kernel_rfl) rfl rfl ?_)
          refine P_q no34_0 rfl (op_neq rfl rfl ?_)
          refine P_nil ?_
          refine kC_normal ?_
          refine k_cond_d (p := ¬ (gi a0 x5_l2) = (gi a1 x5_l2)) rfl (fun hc => ?_) (fun hc => ?_)
          · replace h := ite_t h hc
            refine k_seq ?_
            refine k_reg .free hmixP (by kernel_rfl) ?_
            refine G_q rfl (op_assign (av := .exact (.bool false)) rfl ?_)
            refine G_nil ?_
            refine kC_normal ?_
            refine k_ret ?_
            refine kB_ret ?_
            refine kC_ret ?_
            refine kI_ret ?_
            refine kB_ret ?_
            refine kI_ret ?_
            obtain rfl := Option.some.inj h
            refine kP_any (endN (af' := (AF.put AF0 (some 4) (.exact (.bool false)))) (σ' := []) _ rfl ?_ ⟨rfl, rfl⟩)
            exact Sub.of_le (AF.le_put (AV.le_eq rfl) (AF.le_top _))
          · replace h := ite_f h hc
            refine k_skip ?_
            refine kB_normal ?_
            refine kC_normal ?_
            refine k_reg .free hmixP (by kernel_rfl) ?_
            refine G_q rfl (op_move (av := .exact (.int .i64 x5_l2)) rfl ?_)
            refine G_q rfl (op_add rfl rfl rfl ?_)
            refine G_q rfl (op_assign (av := .exact (.int .i64 (i64 (x5_l2 + 1)))) rfl ?_)
            refine G_nil ?_
            refine kI_normal ⟨_, h, ?_⟩
            exact Sub.of_le (AF.le_put (AV.le_eq rfl) (AF.le_put (AV.le_eq rfl) (AF.le_put (AV.le_eq rfl) (AF.le_top _))))
        · replace h := ite_f h hc
          refine k_exit ?_
          refine kC_exit ?_
          refine kI_exit ?_
          refine kB_exit ?_
          refine kI_normal ⟨h, ?_⟩
          exact Sub.of_le (AF.le_top _)
    · refine k_seq ?_
      refine k_reg .free hmixP (by kernel_rfl) ?_
      refine G_q rfl (op_assign (av := .exact (.bool true)) rfl ?_)
      refine G_nil ?_
      refine kC_normal ?_
      refine k_ret ?_
      obtain rfl := Option.some.inj h
      refine kP_any (endN (af' := (AF.put AF0 (some 4) (.exact (.bool true)))) (σ' := []) _ rfl ?_ ⟨rfl, rfl⟩)
      exact Sub.of_le (AF.le_put (AV.le_eq rfl) (AF.le_top _))
set_option maxHeartbeats 4000000 in
theorem m_gen_Choices_Order_ok {w0 : Nat} (a0 : (List Int) × Int) (r : (List (Int × Int)) × ((List Int) × Int)) (h : m_gen_Choices_Order a0 = some r) : Fun Try.prog 21 [(pA w0 0)] [boxI 58 w0 [.row 1 c_int a0.1, .exact (.int .i64 a0.2)]] (fun a s => a = .row 2 c_api_Above r.1 ∧ s = [boxI 58 w0 [.row 1 c_int r.2.1, .exact (.int .i64 r.2.2)]]) := by
  unfold m_gen_Choices_Order at h
  refine fun_of_awp Try.func21 rfl Try.ntmps21 (by simp) rfl (res1 rfl) fun E hE => k_end ?_
  refine k_seq ?_
  refine k_reg .free hmixP (by kernel_rfl) ?_
  refine G_q rfl (op_assign (av := .exact (.slice none 0 0)) rfl ?_)
  refine G_nil ?_
  refine kC_normal ?_
  refine k_seq ?_
  refine k_reg .free hmixP (by kernel_rfl) ?_
  refine G_q rfl (op_assign (av := .exact (.slice none 0 0)) rfl ?_)
  refine G_nil ?_
  refine kC_normal ?_
  refine k_join3_1 h (fun (x0_0_j1 : List Int) (x0_1_j1 : Int) (x3_j1 : List (Int × Int)) (v3_j1 : Value) => (AF.put (AF.put AF0 (some 0) (pA w0 0)) (some 3) (.exact v3_j1))) (fun (x0_0_j1 : List Int) (x0_1_j1 : Int) (x3_j1 : List (Int × Int)) (v3_j1 : Value) => [boxI 58 w0 [.row 1 c_int x0_0_j1, .exact (.int .i64 x0_1_j1)], vecT Try.prog 22 2 c_api_Above v3_j1 x3_j1]) (fun k1 h => ?_) (fun x0_0_j1 x0_1_j1 x3_j1 v3_j1 h => ?_)
  · refine k_seq ?_
    refine k_reg .free hmixP (by kernel_rfl) ?_
    refine G_q rfl (op_move (av := pA w0 0) rfl ?_)
    obtain ⟨y31, hy31, h⟩ := bnd1_some h
    refine G_l rfl (op_fun_1_0_1 (m_gen_Choices_Next_ok _ _ _ hy31) Try.func11 (by kernel_rfl) (LEs.cons (AV.le_eq rfl) (LEs.cons (AV.le_eq rfl) LEs.nil)) ?_)
    refine G_q rfl (op_assign (av := .exact (.int .i64 y31.1)) rfl ?_)
    refine G_nil ?_
    refine kC_normal ?_
    refine k_block ?_
    refine k_loop4_1 (m_gen_Choices_Order_L2 k1) (m_gen_Choices_Order_B2 k1) (fun _ _ _ _ => rfl) (fun m _ _ _ _ => rfl) h (fun (x0_0_l2 : List Int) (x0_1_l2 : Int) (x3_l2 : List (Int × Int)) (x4_l2 : Int) (v3_l2 : Value) => (AF.put (AF.put (AF.put AF0 (some 0) (pA w0 0)) (some 3) (.exact v3_l2)) (some 4) (.exact (.int .i64 x4_l2)))) (fun (x0_0_l2 : List Int) (x0_1_l2 : Int) (x3_l2 : List (Int × Int)) (x4_l2 : Int) (v3_l2 : Value) => [boxI 58 w0 [.row 1 c_int x0_0_l2, .exact (.int .i64 x0_1_l2)], vecT Try.prog 22 2 c_api_Above v3_l2 x3_l2]) (.slice none 0 0) ?_ (fun rec2 x0_0_l2 x0_1_l2 x3_l2 x4_l2 v3_l2 h => ?_)
    · refine Sub.trans (SubU.to (SubU.nilT (P := Try.prog) (t := 22) (n := 2) (enc := c_api_Above))) ?_
      refine Sub.trans (SubU.to SubU.f1) ?_
      exact Sub.of_le (AF.le_put (AV.le_eq rfl) (AF.le_put (AV.le_eq rfl) (AF.le_put (AV.le_eq rfl) (AF.le_top _))))
    · unfold m_gen_Choices_Order_B2 at h
      refine k_seq ?_
      refine k_seq ?_
      refine k_reg .free hmixP (by kernel_rfl) ?_
      refine G_q rfl (op_move (av := .exact (.int .i64 x4_l2)) rfl ?_)
      refine G_q rfl (op_gtr rfl rfl ?_)
      refine G_nil ?_
      refine kC_normal ?_
      refine k_cond_d (p := 0 < x4_l2) rfl (fun hc => ?_) (fun hc => ?_)
      · replace h := ite_t h hc
        refine k_skip ?_
        refine kC_normal ?_
        refine k_join3_1 h (fun (x0_0_j50 : List Int) (x0_1_j50 : Int) (x3_j50 : List (Int × Int)) (v3_j50 : Value) => (AF.put (AF.put (AF.put AF0 (some 0) (pA w0 0)) (some 3) (.exact v3_j50)) (some 4) (.exact (.int .i64 x4_l2)))) (fun (x0_0_j50 : List Int) (x0_1_j50 : Int) (x3_j50 : List (Int × Int)) (v3_j50 : Value) => [boxI 58 w0 [.row 1 c_int x0_0_j50, .exact (.int .i64 x0_1_j50)], vecT Try.prog 22 2 c_api_Above v3_j50 x3_j50]) (fun k50 h => ?_) (fun x0_0_j50 x0_1_j50 x3_j50 v3_j50 h => ?_)
        · refine k_block ?_
          refine k_seq ?_
          refine k_reg .free hmixP (by kernel_rfl) ?_
          refine G_q rfl (op_move (av := pA w0 0) rfl ?_)
          obtain ⟨y55, hy55, h⟩ := bnd1_some h
          refine G_l rfl (op_fun_1_0_1 (m_gen_Choices_Event_ok _ _ hy55) Try.func12 (by kernel_rfl) (LEs.cons (AV.le_eq rfl) LEs.nil) ?_)
          refine G_q rfl (op_move (av := pA w0 0) rfl ?_)
          obtain ⟨y56, hy56, h⟩ := bnd1_some h
          refine G_l rfl (op_fun_1_0_1 (m_gen_Choices_Event_ok _ _ hy56) Try.func12 (by kernel_rfl) (LEs.cons (AV.le_eq rfl) LEs.nil) ?_)
          refine G_q rfl (op_assign (av := .exact (.int .i64 y55.1)) rfl ?_)
          refine G_q rfl (op_assign (av := .exact (.int .i64 y56.1)) rfl ?_)
          refine G_nil ?_
          refine kC_normal ?_
          refine k_seq ?_
          refine k_reg .free hmixP (by kernel_rfl) ?_
          refine G_q rfl (op_move (av := .exact (.int .i64 y55.1)) rfl ?_)
          refine G_q rfl (op_move (av := .exact (.int .i64 y56.1)) rfl ?_)
          refine G_q rfl (op_neq rfl rfl ?_)
          refine G_nil ?_
          refine kC_normal ?_
          refine k_cond_d (p := ¬ y55.1 = y56.1) rfl (fun hc => ?_) (fun hc => ?_)
          · replace h := ite_t h hc
            refine k_reg .free hmixP (by kernel_rfl) ?_
            refine G_q rfl (op_move (av := .exact v3_l2) rfl ?_)
            refine G_q rfl (op_move (av := .exact (.int .i64 y55.1)) rfl ?_)
            refine G_q rfl (op_move (av := .exact (.int .i64 y56.1)) rfl ?_)
            refine G_q rfl (op_min rfl rfl ?_)
            refine G_q rfl (op_move (av := .exact (.int .i64 y55.1)) rfl ?_)
            refine G_q rfl (op_move (av := .exact (.int .i64 y56.1)) rfl ?_)
            refine G_q rfl (op_max rfl rfl ?_)
            refine G_q rfl (op_bld (c' := c_api_Above (min y55.1 y56.1, max y55.1 y56.1)) (CellsAll.cons rfl CellsOf.int (CellsAll.cons rfl CellsOf.int CellsAll.nil)) rfl (LEs.cons (AV.le_eq rfl) (LEs.cons (AV.le_eq rfl) LEs.nil)) ?_)
            refine G_q rfl (op_litT (n := 2) (enc := c_api_Above) [(min y55.1 y56.1, max y55.1 y56.1)] (CellsAll.cons rfl CellsOf.agg CellsAll.nil) rfl (by kernel_rfl) (LEss.cons (LEs.cons (AV.le_eq rfl) (LEs.cons (AV.le_eq rfl) LEs.nil)) LEss.nil) ?_)
            obtain ⟨n57, h⟩ := need_some h
            refine G_l rfl (opB_f1 (op_appT (by kernel_rfl) rfl rfl oc_c_api_Above n57 (fun v58 => ?_)))
            refine G_q rfl (op_assign (av := .exact v58) rfl ?_)
            refine G_nil ?_
            refine kB_normal ?_
            refine kI_normal ⟨_, _, _, v58, h, ?_⟩
            refine Sub.trans (SubU.to SubU.f1) ?_
            exact Sub.of_le (AF.le_put (AV.le_eq rfl) (AF.le_put (AV.le_eq rfl) (AF.le_put (AV.le_eq rfl) (AF.le_top _))))
          · replace h := ite_f h hc
            refine k_skip ?_
            refine kB_normal ?_
            refine kI_normal ⟨_, _, _, v3_l2, h, ?_⟩
            exact Sub.of_le (AF.le_put (AV.le_eq rfl) (AF.le_put (AV.le_eq rfl) (AF.le_put (AV.le_eq rfl) (AF.le_top _))))
        · refine k_reg .free hmixP (by kernel_rfl) ?_
          refine G_q rfl (op_move (av := .exact (.int .i64 x4_l2)) rfl ?_)
          refine G_q rfl (op_sub rfl rfl rfl ?_)
          refine G_q rfl (op_assign (av := .exact (.int .i64 (i64 (x4_l2 - 1)))) rfl ?_)
          refine G_nil ?_
          refine kI_normal ⟨_, _, _, _, v3_j50, h, ?_⟩
          exact Sub.of_le (AF.le_put (AV.le_eq rfl) (AF.le_put (AV.le_eq rfl) (AF.le_put (AV.le_eq rfl) (AF.le_top _))))
      · replace h := ite_f h hc
        refine k_exit ?_
        refine kC_exit ?_
        refine kI_exit ?_
        refine kB_exit ?_
        refine kI_normal ⟨_, _, _, v3_l2, h, ?_⟩
        exact Sub.of_le (AF.le_put (AV.le_eq rfl) (AF.le_put (AV.le_eq rfl) (AF.le_top _)))
  · refine k_seq ?_
    refine k_reg .free hmixP (by kernel_rfl) ?_
    refine G_q rfl (op_move (av := .exact v3_j1) rfl ?_)
    refine G_sub rfl (SubU.trans SubU.f1 (SubU.freezeT2 (s1 := 3) (s2 := 33) rfl rfl len_c_api_Above)) ?_
    obtain ⟨y59, hy59, h⟩ := bnd1_some h
    refine G_q rfl (op_pure (m_rclose_ok _ _ hy59) Try.func14 (by kernel_rfl) (LEs.cons (AV.le_eq rfl) LEs.nil) ?_)
    refine G_q rfl (op_move (av := .tup [.row 2 c_api_Above y59.1, .exact (.int .i64 y59.2)]) rfl ?_)
    refine G_q rfl (op_extract (av := .row 2 c_api_Above y59.1) rfl rfl ?_)
    refine G_q rfl (op_extract (av := .exact (.int .i64 y59.2)) rfl rfl ?_)
    refine G_q rfl (op_assign (av := .row 2 c_api_Above y59.1) rfl ?_)
    refine G_q rfl (op_assign (av := .exact (.int .i64 y59.2)) rfl ?_)
    refine G_nil ?_
    refine kC_normal ?_
    refine k_seq ?_
    refine k_reg .free hmixP (by kernel_rfl) ?_
    refine G_q rfl (op_move (av := .row 2 c_api_Above y59.1) rfl ?_)
    refine G_q rfl (op_assign (av := .row 2 c_api_Above y59.1) rfl ?_)
    refine G_nil ?_
    refine kC_normal ?_
    refine k_ret ?_
    obtain rfl := Option.some.inj h
    refine kP_any (endN (af' := (AF.put AF0 (some 2) (.row 2 c_api_Above y59.1))) (σ' := [boxI 58 w0 [.row 1 c_int x0_0_j1, .exact (.int .i64 x0_1_j1)]]) _ rfl ?_ ⟨rfl, rfl⟩)
    exact Sub.of_le (AF.le_put (AV.le_eq rfl) (AF.le_top _))
set_option maxHeartbeats 4000000 in
theorem m_law15_near_ok (a0 : List Int) (r : (List Int)) (h : m_law15_near a0 = some r) : Pure Try.prog 22 [(.row 1 c_int a0)] (.row 1 c_int r) := by
  unfold m_law15_near at h
  refine Pure.ofFun (fun_of_awp Try.func22 rfl Try.ntmps22 (by simp) rfl (res1 rfl) fun E hE => k_end ?_)
  refine k_seq ?_
  refine k_reg .free hmixP (by kernel_rfl) ?_
  refine G_q rfl (op_assign (av := .exact (.slice none 0 0)) rfl ?_)
  refine G_nil ?_
  refine kC_normal ?_
  refine k_seq ?_
  refine k_reg .free hmixP (by kernel_rfl) ?_
  refine G_q rfl (op_assign (av := .exact (.slice none 0 0)) rfl ?_)
  refine G_nil ?_
  refine kC_normal ?_
  refine k_join1_1 h (fun (x3_j1 : List Int) (v3_j1 : Value) => (AF.put AF0 (some 3) (.exact v3_j1))) (fun (x3_j1 : List Int) (v3_j1 : Value) => [vecT Try.prog 23 1 c_int v3_j1 x3_j1]) (fun k1 h => ?_) (fun x3_j1 v3_j1 h => ?_)
  · refine k_seq ?_
    refine k_reg .free hmixP (by kernel_rfl) ?_
    refine G_q rfl (op_assign (av := .exact (.int .i64 0)) rfl ?_)
    refine G_nil ?_
    refine kC_normal ?_
    refine k_block ?_
    refine k_loop2_1 (m_law15_near_L2 a0 k1) (m_law15_near_B2 a0 k1) (fun _ _ => rfl) (fun m _ _ => rfl) h (fun (x3_l2 : List Int) (x4_l2 : Int) (v3_l2 : Value) => (AF.put (AF.put (AF.put AF0 (some 0) (.row 1 c_int a0)) (some 3) (.exact v3_l2)) (some 4) (.exact (.int .i64 x4_l2)))) (fun (x3_l2 : List Int) (x4_l2 : Int) (v3_l2 : Value) => [vecT Try.prog 23 1 c_int v3_l2 x3_l2]) (.slice none 0 0) ?_ (fun rec2 x3_l2 x4_l2 v3_l2 h => ?_)
    · refine Sub.trans (SubU.to (SubU.nilT (P := Try.prog) (t := 23) (n := 1) (enc := c_int))) ?_
      exact Sub.of_le (AF.le_put (AV.le_eq rfl) (AF.le_put (AV.le_eq rfl) (AF.le_put (AV.le_eq rfl) (AF.le_top _))))
    · unfold m_law15_near_B2 at h
      refine k_seq ?_
      refine k_join1_0 h (fun (x13_j135 : Bool) => (AF.put (AF.put (AF.put (AF.put AF0 (some 0) (.row 1 c_int a0)) (some 3) (.exact v3_l2)) (some 4) (.exact (.int .i64 x4_l2))) (some 13) (.exact (.bool x13_j135)))) (fun (x13_j135 : Bool) => [vecT Try.prog 23 1 c_int v3_l2 x3_l2]) (fun k135 h => ?_) (fun x13_j135 h => ?_)
      · refine k_reg .free hmixP (by kernel_rfl) ?_
        refine G_q rfl (op_move (av := .exact (.int .i64 x4_l2)) rfl ?_)
        refine G_q rfl (op_move (av := .row 1 c_int a0) rfl ?_)
        refine G_q rfl (op_len_row (by kernel_rfl) rfl ?_)
        refine G_q rfl (op_lss rfl rfl ?_)
        refine G_q rfl (op_move (av := .exact (.bool (decide (x4_l2 < (List.length a0 : Int))))) rfl ?_)
        refine G_split (p := x4_l2 < (List.length a0 : Int)) 10 rfl (fun hc => ?_) (fun hc => ?_)
        · replace h := ite_t h hc
          refine Gy_q rfl rfl rfl (op_move (av := .exact (.int .i64 x4_l2)) rfl ?_)
          refine Gy_q rfl rfl rfl (op_lss rfl rfl ?_)
          refine G_q rfl (op_pick_t rfl (av := .exact (.bool (decide (x4_l2 < 40)))) rfl ?_)
          refine G_nil ?_
          refine kI_normal ⟨_, h, ?_⟩
          exact Sub.of_le (AF.le_put (AV.le_eq rfl) (AF.le_put (AV.le_eq rfl) (AF.le_put (AV.le_eq rfl) (AF.le_put (AV.le_eq rfl) (AF.le_top _)))))
        · replace h := ite_f h hc
          refine G_n rfl rfl ?_
          refine G_n rfl rfl ?_
          refine G_q rfl (op_pick_f rfl (av := .exact (.bool false)) rfl ?_)
          refine G_nil ?_
          refine kI_normal ⟨_, h, ?_⟩
          exact Sub.of_le (AF.le_put (AV.le_eq rfl) (AF.le_put (AV.le_eq rfl) (AF.le_put (AV.le_eq rfl) (AF.le_put (AV.le_eq rfl) (AF.le_top _)))))
      · refine k_cond_b (c := x13_j135) rfl (fun hc => ?_) (fun hc => ?_)
        · replace h := ite_t h hc
          refine k_skip ?_
          refine kC_normal ?_
          refine k_join1_1 h (fun (x3_j136 : List Int) (v3_j136 : Value) => (AF.put (AF.put (AF.put AF0 (some 0) (.row 1 c_int a0)) (some 3) (.exact v3_j136)) (some 4) (.exact (.int .i64 x4_l2)))) (fun (x3_j136 : List Int) (v3_j136 : Value) => [vecT Try.prog 23 1 c_int v3_j136 x3_j136]) (fun k136 h => ?_) (fun x3_j136 v3_j136 h => ?_)
          · refine k_block ?_
            refine k_seq ?_
            refine k_reg .free hmixP (by kernel_rfl) ?_
            refine G_q rfl (op_move (av := .row 1 c_int a0) rfl ?_)
            refine G_q rfl (op_move (av := .exact (.int .i64 x4_l2)) rfl ?_)
            obtain ⟨n148, h⟩ := need_some h
            refine G_q rfl (op_index_row (by kernel_rfl) rfl rfl n148.1 n148.2 ?_)
            refine G_q rfl (op_load1p (a := .exact (.int .i64 (gi a0 x4_l2))) (by kernel_rfl) rfl rfl ?_)
            obtain ⟨y149, hy149, h⟩ := bnd1_some h
            refine G_q rfl (op_pure (m_help_Mod_ok _ _ _ hy149) Try.func25 (by kernel_rfl) (LEs.cons (AV.le_eq rfl) (LEs.cons (AV.le_eq rfl) LEs.nil)) ?_)
            refine G_q rfl (op_assign (av := .exact (.int .i64 y149)) rfl ?_)
            refine G_nil ?_
            refine kC_normal ?_
            refine k_block ?_
            refine k_seq ?_
            refine k_reg .free hmixP (by kernel_rfl) ?_
            refine G_q rfl (op_move (av := .exact (.int .i64 y149)) rfl ?_)
            refine G_q rfl (op_lss rfl rfl ?_)
            refine G_q rfl (op_assign (av := .exact (.bool (decide (y149 < 9)))) rfl ?_)
            refine G_nil ?_
            refine kC_normal ?_
            refine k_cond_d (p := y149 < 9) rfl (fun hc => ?_) (fun hc => ?_)
            · replace h := ite_t h hc
              refine k_reg .free hmixP (by kernel_rfl) ?_
              refine G_q rfl (op_move (av := .exact v3_l2) rfl ?_)
              refine G_q rfl (op_move (av := .exact (.int .i64 y149)) rfl ?_)
              refine G_q rfl (op_litT (n := 1) (enc := c_int) [y149] (CellsAll.cons rfl CellsOf.int CellsAll.nil) rfl (by kernel_rfl) (LEss.cons (LEs.cons (AV.le_eq rfl) LEs.nil) LEss.nil) ?_)
              obtain ⟨n150, h⟩ := need_some h
              refine G_l rfl (op_appT (by kernel_rfl) rfl rfl oc_c_int n150 (fun v151 => ?_))
              refine G_q rfl (op_assign (av := .exact v151) rfl ?_)
              refine G_nil ?_
              refine kB_normal ?_
              refine kB_normal ?_
              refine kI_normal ⟨_, v151, h, ?_⟩
              exact Sub.of_le (AF.le_put (AV.le_eq rfl) (AF.le_put (AV.le_eq rfl) (AF.le_put (AV.le_eq rfl) (AF.le_top _))))
            · replace h := ite_f h hc
              refine k_seq ?_
              refine k_reg .free hmixP (by kernel_rfl) ?_
              refine G_q rfl (op_move (av := .exact (.int .i64 y149)) rfl ?_)
              refine G_q rfl (op_eql rfl rfl ?_)
              refine G_q rfl (op_assign (av := .exact (.bool (decide (y149 = 9)))) rfl ?_)
              refine G_nil ?_
              refine kC_normal ?_
              refine k_cond_d (p := y149 = 9) rfl (fun hc => ?_) (fun hc => ?_)
              · replace h := ite_t h hc
                refine k_reg .free hmixP (by kernel_rfl) ?_
                refine G_q rfl (op_move (av := .exact v3_l2) rfl ?_)
                refine G_q rfl (op_litT (n := 1) (enc := c_int) [1025] (CellsAll.cons rfl CellsOf.int CellsAll.nil) rfl (by kernel_rfl) (LEss.cons (LEs.cons (AV.le_eq rfl) LEs.nil) LEss.nil) ?_)
                obtain ⟨n152, h⟩ := need_some h
                refine G_l rfl (op_appT (by kernel_rfl) rfl rfl oc_c_int n152 (fun v153 => ?_))
                refine G_q rfl (op_assign (av := .exact v153) rfl ?_)
                refine G_nil ?_
                refine kB_normal ?_
                refine kB_normal ?_
                refine kI_normal ⟨_, v153, h, ?_⟩
                exact Sub.of_le (AF.le_put (AV.le_eq rfl) (AF.le_put (AV.le_eq rfl) (AF.le_put (AV.le_eq rfl) (AF.le_top _))))
              · replace h := ite_f h hc
                refine k_seq ?_
                refine k_reg .free hmixP (by kernel_rfl) ?_
                refine G_q rfl (op_move (av := .exact (.int .i64 y149)) rfl ?_)
                refine G_q rfl (op_eql rfl rfl ?_)
                refine G_q rfl (op_assign (av := .exact (.bool (decide (y149 = 10)))) rfl ?_)
                refine G_nil ?_
                refine kC_normal ?_
                refine k_cond_d (p := y149 = 10) rfl (fun hc => ?_) (fun hc => ?_)
                · replace h := ite_t h hc
                  refine k_reg .free hmixP (by kernel_rfl) ?_
                  refine G_q rfl (op_move (av := .exact v3_l2) rfl ?_)
                  refine G_q rfl (op_litT (n := 1) (enc := c_int) [1026] (CellsAll.cons rfl CellsOf.int CellsAll.nil) rfl (by kernel_rfl) (LEss.cons (LEs.cons (AV.le_eq rfl) LEs.nil) LEss.nil) ?_)
                  obtain ⟨n154, h⟩ := need_some h
                  refine G_l rfl (op_appT (by kernel_rfl) rfl rfl oc_c_int n154 (fun v155 => ?_))
                  refine G_q rfl (op_assign (av := .exact v155) rfl ?_)
                  refine G_nil ?_
                  refine kB_normal ?_
                  refine kB_normal ?_
                  refine kI_normal ⟨_, v155, h, ?_⟩
                  exact Sub.of_le (AF.le_put (AV.le_eq rfl) (AF.le_put (AV.le_eq rfl) (AF.le_put (AV.le_eq rfl) (AF.le_top _))))
                · replace h := ite_f h hc
                  refine k_reg .free hmixP (by kernel_rfl) ?_
                  refine G_q rfl (op_move (av := .exact v3_l2) rfl ?_)
                  refine G_q rfl (op_move (av := .row 1 c_int a0) rfl ?_)
                  refine G_q rfl (op_move (av := .exact (.int .i64 x4_l2)) rfl ?_)
                  obtain ⟨n156, h⟩ := need_some h
                  refine G_q rfl (op_index_row (by kernel_rfl) rfl rfl n156.1 n156.2 ?_)
                  refine G_q rfl (op_load1p (a := .exact (.int .i64 (gi a0 x4_l2))) (by kernel_rfl) rfl rfl ?_)
                  refine G_q rfl (op_litT (n := 1) (enc := c_int) [gi a0 x4_l2] (CellsAll.cons rfl CellsOf.int CellsAll.nil) rfl (by kernel_rfl) (LEss.cons (LEs.cons (AV.le_eq rfl) LEs.nil) LEss.nil) ?_)
                  obtain ⟨n157, h⟩ := need_some h
                  refine G_l rfl (op_appT (by kernel_rfl) rfl rfl oc_c_int n157 (fun v158 => ?_))
                  refine G_q rfl (op_assign (av := .exact v158) rfl ?_)
                  refine G_nil ?_
                  refine kB_normal ?_
                  refine kB_normal ?_
                  refine kI_normal ⟨_, v158, h, ?_⟩
                  exact Sub.of_le (AF.le_put (AV.le_eq rfl) (AF.le_put (AV.le_eq rfl) (AF.le_put (AV.le_eq rfl) (AF.le_top _))))
          · refine k_reg .free hmixP (by kernel_rfl) ?_
            refine G_q rfl (op_move (av := .exact (.int .i64 x4_l2)) rfl ?_)
            refine G_q rfl (op_add rfl rfl rfl ?_)
            refine G_q rfl (op_assign (av := .exact (.int .i64 (i64 (x4_l2 + 1)))) rfl ?_)
            refine G_nil ?_
            refine kI_normal ⟨_, _, v3_j136, h, ?_⟩
            exact Sub.of_le (AF.le_put (AV.le_eq rfl) (AF.le_put (AV.le_eq rfl) (AF.le_put (AV.le_eq rfl) (AF.le_top _))))
        · replace h := ite_f h hc
          refine k_exit ?_
          refine kC_exit ?_
          refine kI_exit ?_
          refine kB_exit ?_
          refine kI_normal ⟨_, v3_l2, h, ?_⟩
          exact Sub.of_le (AF.le_put (AV.le_eq rfl) (AF.le_top _))
  · refine k_seq ?_
    refine k_reg .free hmixP (by kernel_rfl) ?_
    refine G_q rfl (op_move (av := .exact v3_j1) rfl ?_)
    refine G_q rfl (op_assign (av := .exact v3_j1) rfl ?_)
    refine G_nil ?_
    refine kC_normal ?_
    refine k_ret ?_
    obtain rfl := Option.some.inj h
    refine kP_any (endN (af' := (AF.put AF0 (some 2) (.row 1 c_int x3_j1))) (σ' := []) _ rfl ?_ ⟨rfl, rfl⟩)
    refine Sub.trans (SubU.to (SubU.freezeT (s := 2) rfl len_c_int)) ?_
    exact Sub.of_le (AF.le_put (AV.le_eq rfl) (AF.le_top _))
set_option maxHeartbeats 4000000 in
theorem m_alphabet_comparePairs_ok (a0 : Int × Int) (a1 : Int × Int) (r : Int) (h : m_alphabet_comparePairs a0 a1 = some r) : Pure Try.prog 67 [(.agg (c_api_Pair a0)), (.agg (c_api_Pair a1))] (.exact (.int .i64 r)) := by
  unfold m_alphabet_comparePairs at h
  refine Pure.ofFun (fun_of_awp Try.func67 rfl Try.ntmps67 (by simp) rfl (res1 rfl) fun E hE => k_end ?_)
  refine k_seq ?_
  refine k_reg .free hmixP (by kernel_rfl) ?_
  refine G_q rfl (op_box (c := c_api_Pair a0) rfl CellsOf.agg ?_)
  refine G_q rfl (op_box (c := c_api_Pair a1) rfl CellsOf.agg ?_)
  refine G_q rfl (op_assign (av := .exact (.int .i64 0)) rfl ?_)
  refine G_nil ?_
  refine kC_normal ?_
  refine k_seq ?_
  refine k_plan [] [(0, 0), (0, 1), (0, 2), (0, 3), (0, 4), (0, 5), (0, 6), (0, 7), (0, 8), (0, 9), (0, 10), (0, 11), (0, 12)] hmixP (by kernel_rfl) ?_
  refine P_q no34_0 rfl (op_fieldAddr_ptr (o := 0) (c' := (List.drop 0 (c_api_Pair a0))) (by kernel_rfl) rfl rfl ?_)
  refine P_q no34_0 rfl (op_load1p (a := .exact (.int .i64 a0.1)) (by kernel_rfl) rfl rfl ?_)
  refine P_q no34_0 rfl (op_fieldAddr_ptr (o := 0) (c' := (List.drop 0 (c_api_Pair a1))) (by kernel_rfl) rfl rfl ?_)
  refine P_q no34_0 rfl (op_load1p (a := .exact (.int .i64 a1.1)) (by kernel_rfl) rfl rfl ?_)
  obtain ⟨y1, hy1, h⟩ := bnd1_some h
  refine P_q no34_0 rfl (op_pure (m_cmp_Compare_int_ok _ _ _ hy1) Try.func83 (by kernel_rfl) (LEs.cons (AV.le_eq rfl) (LEs.cons (AV.le_eq rfl) LEs.nil)) ?_)
  refine P_q no34_0 rfl (op_fieldAddr_ptr (o := 1) (c' := (List.drop 1 (c_api_Pair a0))) (by kernel_rfl) rfl rfl ?_)
  refine P_q no34_0 rfl (op_load1p (a := .exact (.int .i64 a0.2)) (by kernel_rfl) rfl rfl ?_)
  refine P_q no34_0 rfl (op_fieldAddr_ptr (o := 1) (c' := (List.drop 1 (c_api_Pair a1))) (by kernel_rfl) rfl rfl ?_)
  refine P_q no34_0 rfl (op_load1p (a := .exact (.int .i64 a1.2)) (by kernel_rfl) rfl rfl ?_)
  obtain ⟨y2, hy2, h⟩ := bnd1_some h
  refine P_q no34_0 rfl (op_pure (m_cmp_Compare_int_ok _ _ _ hy2) Try.func83 (by kernel_rfl) (LEs.cons (AV.le_eq rfl) (LEs.cons (AV.le_eq rfl) LEs.nil)) ?_)
  refine P_q no34_0 rfl (op_litT (n := 1) (enc := c_int) [y1, y2] (CellsAll.cons rfl CellsOf.int (CellsAll.cons rfl CellsOf.int CellsAll.nil)) rfl (by kernel_rfl) (LEss.cons (LEs.cons (AV.le_eq rfl) LEs.nil) (LEss.cons (LEs.cons (AV.le_eq rfl) LEs.nil) LEss.nil)) ?_)
  obtain ⟨y3, hy3, h⟩ := bnd1_some h
  refine P_q no34_0 rfl (op_pure (m_cmp_Or_int_ok _ _ hy3) Try.func82 (by kernel_rfl) (LEs.cons (AV.le_eq rfl) LEs.nil) ?_)
  refine P_q no34_0 rfl (op_assign (av := .exact (.int .i64 y3)) rfl ?_)
  refine P_nil ?_
  refine kC_normal ?_
  refine k_ret ?_
  obtain rfl := Option.some.inj h
  refine kP_any (endN (af' := (AF.put AF0 (some 4) (.exact (.int .i64 y3)))) (σ' := []) _ rfl ?_ ⟨rfl, rfl⟩)
  exact Sub.of_le (AF.le_put (AV.le_eq rfl) (AF.le_top _))
set_option maxHeartbeats 4000000 in
theorem m_slices_Compact_L_api_Pair_api_Pair_ok {w0 : Value} (a0 : List (Int × Int)) (r : (List (Int × Int))) (h : m_slices_Compact_L_api_Pair_api_Pair a0 = some r) : Fun Try.prog 69 [(.exact w0)] [vecT Try.prog 44 2 c_api_Pair w0 a0] (fun a s => a = .row 2 c_api_Pair r ∧ s = []) := by
  unfold m_slices_Compact_L_api_Pair_api_Pair at h
  refine fun_of_awp Try.func69 rfl Try.ntmps69 (by simp) rfl (res1 rfl) fun E hE => k_end ?_
  refine k_seq ?_
  refine k_reg .free hmixP (by kernel_rfl) ?_
  refine G_q rfl (op_assign (av := .exact (.slice none 0 0)) rfl ?_)
  refine G_nil ?_
  refine kC_normal ?_
  refine k_seq ?_
  refine k_seq ?_
  refine k_reg .free hmixP (by kernel_rfl) ?_
  refine G_q rfl (op_move (av := .exact w0) rfl ?_)
  refine G_r rfl (op_len_vec (by kernel_rfl) rfl ?_)
  refine G_q rfl (op_lss rfl rfl ?_)
  refine G_nil ?_
  refine kC_normal ?_
  refine k_cond_d (p := (List.length a0 : Int) < 2) rfl (fun hc => ?_) (fun hc => ?_)
  · replace h := ite_t h hc
    refine k_seq ?_
    refine k_reg .free hmixP (by kernel_rfl) ?_
    refine G_q rfl (op_move (av := .exact w0) rfl ?_)
    refine G_q rfl (op_assign (av := .exact w0) rfl ?_)
    refine G_nil ?_
    refine kC_normal ?_
    refine k_ret ?_
    refine kC_ret ?_
    obtain rfl := Option.some.inj h
    refine kP_any (endN (af' := (AF.put AF0 (some 2) (.row 2 c_api_Pair a0))) (σ' := []) _ rfl ?_ ⟨rfl, rfl⟩)
    refine Sub.trans (SubU.to (SubU.freezeT (s := 2) rfl len_c_api_Pair)) ?_
    exact Sub.of_le (AF.le_put (AV.le_eq rfl) (AF.le_top _))
  · replace h := ite_f h hc
    refine k_skip ?_
    refine kC_normal ?_
    refine k_join0_0 h ((AF.put AF0 (some 0) (.exact w0))) ([vecT Try.prog 44 2 c_api_Pair w0 a0]) (fun k1 h => ?_) (fun  h => ?_)
    · refine k_seq ?_
      refine k_reg .free hmixP (by kernel_rfl) ?_
      refine G_q rfl (op_assign (av := .exact (.int .i64 1)) rfl ?_)
      refine G_nil ?_
      refine kC_normal ?_
      refine k_block ?_
      refine k_loop1_0 (m_slices_Compact_L_api_Pair_api_Pair_L14 a0 k1) (m_slices_Compact_L_api_Pair_api_Pair_B14 a0 k1) (fun _ => rfl) (fun m _ => rfl) h (fun (x3_l14 : Int) => (AF.put (AF.put AF0 (some 0) (.exact w0)) (some 3) (.exact (.int .i64 x3_l14)))) (fun (x3_l14 : Int) => [vecT Try.prog 44 2 c_api_Pair w0 a0]) ?_ (fun rec14 x3_l14 h => ?_)
      · exact Sub.of_le (AF.le_put (AV.le_eq rfl) (AF.le_put (AV.le_eq rfl) (AF.le_top _)))
      · unfold m_slices_Compact_L_api_Pair_api_Pair_B14 at h
        refine k_seq ?_
        refine k_seq ?_
        refine k_reg .free hmixP (by kernel_rfl) ?_
        refine G_q rfl (op_move (av := .exact (.int .i64 x3_l14)) rfl ?_)
        refine G_q rfl (op_move (av := .exact w0) rfl ?_)
        refine G_r rfl (op_len_vec (by kernel_rfl) rfl ?_)
        refine G_q rfl (op_lss rfl rfl ?_)
        refine G_nil ?_
        refine kC_normal ?_
        refine k_cond_d (p := x3_l14 < (List.length a0 : Int)) rfl (fun hc => ?_) (fun hc => ?_)
        · replace h := ite_t h hc
          refine k_skip ?_
          refine kC_normal ?_
          refine k_join0_0 h ((AF.put (AF.put AF0 (some 0) (.exact w0)) (some 3) (.exact (.int .i64 x3_l14)))) ([vecT Try.prog 44 2 c_api_Pair w0 a0]) (fun k628 h => ?_) (fun  h => ?_)
          · refine k_block ?_
            refine k_seq ?_
            refine k_plan [] [(0, 0), (0, 1), (0, 4), (0, 5), (0, 6), (1, 2), (1, 3), (1, 7), (1, 8), (0, 9)] hmixP (by kernel_rfl) ?_
            refine P_q no34_0 rfl (op_move (av := .exact w0) rfl ?_)
            refine P_q no34_0 rfl (op_move (av := .exact (.int .i64 x3_l14)) rfl ?_)
            refine P_q no34_0 rfl (op_move (av := .exact w0) rfl ?_)
            refine P_q no34_0 rfl (op_move (av := .exact (.int .i64 x3_l14)) rfl ?_)
            refine P_q no34_0 rfl (op_sub rfl rfl rfl ?_)
            obtain ⟨n691, h⟩ := need_some h
            refine P_r rfl (op_index_vec (by kernel_rfl) rfl rfl n691.1 n691.2 ?_)
            refine P_r rfl (op_load_vecN (i := x3_l14) (o := 0) (m := 2) (c' := c_api_Pair (gi a0 x3_l14)) (by kernel_rfl) len_c_api_Pair rfl n691.1 n691.2 rfl rfl ?_)
            obtain ⟨n692, h⟩ := need_some h
            refine P_r rfl (op_index_vec (by kernel_rfl) rfl rfl n692.1 n692.2 ?_)
            refine P_r rfl (op_load_vecN (i := i64 (x3_l14 - 1)) (o := 0) (m := 2) (c' := c_api_Pair (gi a0 (i64 (x3_l14 - 1)))) (by kernel_rfl) len_c_api_Pair rfl n692.1 n692.2 rfl rfl ?_)
            refine P_q no34_0 rfl (op_eqlA (a := (gi a0 x3_l14)) (b := (gi a0 (i64 (x3_l14 - 1)))) (by kernel_rfl) (eq_c_api_Pair _ _) rfl rfl ?_)
            refine P_nil ?_
            refine kC_normal ?_
            refine k_cond_d (p := (gi a0 x3_l14) = (gi a0 (i64 (x3_l14 - 1)))) rfl (fun hc => ?_) (fun hc => ?_)
            · replace h := ite_t h hc
              refine k_seq ?_
              refine k_reg .free hmixP (by kernel_rfl) ?_
              refine G_q rfl (op_move (av := .exact w0) rfl ?_)
              refine G_q rfl (op_move (av := .exact (.int .i64 x3_l14)) rfl ?_)
              obtain ⟨n693, h⟩ := need_some h
              refine G_r rfl (op_slice_vec (by kernel_rfl) rfl (bnd_some rfl) bnd_none n693.1 n693.2.1 n693.2.2 ?_)
              refine G_q rfl (op_assign (av := .vsub w0 2 (Int.toNat x3_l14) (Int.toNat (List.length a0 : Int) - Int.toNat x3_l14)) rfl ?_)
              refine G_nil ?_
              refine kC_normal ?_
              refine k_join2_0 h (fun (x0_j694 : List (Int × Int)) (x3_j694 : Int) => (AF.put (AF.put AF0 (some 0) (.exact w0)) (some 3) (.exact (.int .i64 x3_j694)))) (fun (x0_j694 : List (Int × Int)) (x3_j694 : Int) => [vecT Try.prog 44 2 c_api_Pair w0 x0_j694]) (fun k694 h => ?_) (fun x0_j694 x3_j694 h => ?_)
              · refine k_seq ?_
                refine k_reg .free hmixP (by kernel_rfl) ?_
                refine G_q rfl (op_assign (av := .exact (.int .i64 1)) rfl ?_)
                refine G_nil ?_
                refine kC_normal ?_
                refine k_block ?_
                refine k_loop3_0 (m_slices_Compact_L_api_Pair_api_Pair_L26 a0 x3_l14 k694) (m_slices_Compact_L_api_Pair_api_Pair_B26 a0 x3_l14 k694) (fun _ _ _ => rfl) (fun m _ _ _ => rfl) h (fun (x0_l26 : List (Int × Int)) (x3_l26 : Int) (x5_l26 : Int) => (AF.put (AF.put (AF.put (AF.put AF0 (some 0) (.exact w0)) (some 3) (.exact (.int .i64 x3_l26))) (some 4) (.vsub w0 2 (Int.toNat x3_l14) (Int.toNat (List.length a0 : Int) - Int.toNat x3_l14))) (some 5) (.exact (.int .i64 x5_l26)))) (fun (x0_l26 : List (Int × Int)) (x3_l26 : Int) (x5_l26 : Int) => [vecT Try.prog 44 2 c_api_Pair w0 x0_l26]) ?_ (fun rec26 x0_l26 x3_l26 x5_l26 h => ?_)
                · exact Sub.of_le (AF.le_put (AV.le_eq rfl) (AF.le_put (AV.le_eq rfl) (AF.le_put (AV.le_eq rfl) (AF.le_put (AV.le_eq rfl) (AF.le_top _)))))
                · unfold m_slices_Compact_L_api_Pair_api_Pair_B26 at h
                  refine k_seq ?_
                  refine k_seq ?_
                  refine k_reg .free hmixP (by kernel_rfl) ?_
                  refine G_q rfl (op_move (av := .exact (.int .i64 x5_l26)) rfl ?_)
                  refine G_q rfl (op_move (av := .vsub w0 2 (Int.toNat x3_l14) (Int.toNat (List.length a0 : Int) - Int.toNat x3_l14)) rfl ?_)
                  refine G_q rfl (op_len_vsub (by kernel_rfl) rfl ?_)
                  refine G_q rfl (op_lss rfl rfl ?_)
                  refine G_nil ?_
                  refine kC_normal ?_
                  refine k_cond_d (p := x5_l26 < ((Int.toNat (List.length a0 : Int) - Int.toNat x3_l14 : Nat) : Int)) rfl (fun hc => ?_) (fun hc => ?_)
                  · replace h := ite_t h hc
                    refine k_skip ?_
                    refine kC_normal ?_
                    refine k_join2_0 h (fun (x0_j741 : List (Int × Int)) (x3_j741 : Int) => (AF.put (AF.put (AF.put (AF.put AF0 (some 0) (.exact w0)) (some 3) (.exact (.int .i64 x3_j741))) (some 4) (.vsub w0 2 (Int.toNat x3_l14) (Int.toNat (List.length a0 : Int) - Int.toNat x3_l14))) (some 5) (.exact (.int .i64 x5_l26)))) (fun (x0_j741 : List (Int × Int)) (x3_j741 : Int) => [vecT Try.prog 44 2 c_api_Pair w0 x0_j741]) (fun k741 h => ?_) (fun x0_j741 x3_j741 h => ?_)
                    · refine k_block ?_
                      refine k_seq ?_
                      refine k_plan [] [(0, 0), (0, 1), (0, 4), (0, 5), (0, 6), (1, 2), (1, 3), (1, 7), (1, 8), (0, 9)] hmixP (by kernel_rfl) ?_
                      refine P_q no34_0 rfl (op_move (av := .vsub w0 2 (Int.toNat x3_l14) (Int.toNat (List.length a0 : Int) - Int.toNat x3_l14)) rfl ?_)
                      refine P_q no34_0 rfl (op_move (av := .exact (.int .i64 x5_l26)) rfl ?_)
                      refine P_q no34_0 rfl (op_move (av := .vsub w0 2 (Int.toNat x3_l14) (Int.toNat (List.length a0 : Int) - Int.toNat x3_l14)) rfl ?_)
                      refine P_q no34_0 rfl (op_move (av := .exact (.int .i64 x5_l26)) rfl ?_)
                      refine P_q no34_0 rfl (op_sub rfl rfl rfl ?_)
                      obtain ⟨n746, h⟩ := need_some h
                      refine P_r rfl (op_index_vsub (j := (x3_l14 + x5_l26)) (by kernel_rfl) rfl rfl n746.2.1 (by have hh := n746; try simp only [i64] at *; omega) (by have hh := n746; try simp only [i64] at *; omega) (by have hh := n746; try simp only [i64] at *; omega) ?_)
                      refine P_r rfl (op_load_vecN (i := (x3_l14 + x5_l26)) (o := 0) (m := 2) (c' := c_api_Pair (gi x0_l26 (x3_l14 + x5_l26))) (by kernel_rfl) len_c_api_Pair rfl n746.2.2.2.1 n746.2.2.2.2 rfl rfl ?_)
                      obtain ⟨n747, h⟩ := need_some h
                      refine P_r rfl (op_index_vsub (j := (x3_l14 + (i64 (x5_l26 - 1)))) (by kernel_rfl) rfl rfl n747.2.1 (by have hh := n747; try simp only [i64] at *; omega) (by have hh := n747; try simp only [i64] at *; omega) (by have hh := n747; try simp only [i64] at *; omega) ?_)
                      refine P_r rfl (op_load_vecN (i := (x3_l14 + (i64 (x5_l26 - 1)))) (o := 0) (m := 2) (c' := c_api_Pair (gi x0_l26 (x3_l14 + (i64 (x5_l26 - 1))))) (by kernel_rfl) len_c_api_Pair rfl n747.2.2.2.1 n747.2.2.2.2 rfl rfl ?_)
                      refine P_q no34_0 rfl (op_neqA (a := (gi x0_l26 (x3_l14 + x5_l26))) (b := (gi x0_l26 (x3_l14 + (i64 (x5_l26 - 1))))) (by kernel_rfl) (eq_c_api_Pair _ _) rfl rfl ?_)
                      refine P_nil ?_
                      refine kC_normal ?_
                      refine k_cond_d (p := ¬ (gi x0_l26 (x3_l14 + x5_l26)) = (gi x0_l26 (x3_l14 + (i64 (x5_l26 - 1))))) rfl (fun hc => ?_) (fun hc => ?_)
                      · replace h := ite_t h hc
                        refine k_seq ?_
                        refine k_reg .free hmixP (by kernel_rfl) ?_
                        refine G_q rfl (op_move (av := .exact w0) rfl ?_)
                        refine G_q rfl (op_move (av := .exact (.int .i64 x3_l26)) rfl ?_)
                        refine G_q rfl (op_move (av := .vsub w0 2 (Int.toNat x3_l14) (Int.toNat (List.length a0 : Int) - Int.toNat x3_l14)) rfl ?_)
                        refine G_q rfl (op_move (av := .exact (.int .i64 x5_l26)) rfl ?_)
                        obtain ⟨n748, h⟩ := need_some h
                        refine G_r rfl (op_index_vsub (j := (x3_l14 + x5_l26)) (by kernel_rfl) rfl rfl n748.2.1 (by have hh := n748; try simp only [i64] at *; omega) (by have hh := n748; try simp only [i64] at *; omega) (by have hh := n748; try simp only [i64] at *; omega) ?_)
                        refine G_r rfl (op_load_vecN (i := (x3_l14 + x5_l26)) (o := 0) (m := 2) (c' := c_api_Pair (gi x0_l26 (x3_l14 + x5_l26))) (by kernel_rfl) len_c_api_Pair rfl n748.2.2.2.1 n748.2.2.2.2 rfl rfl ?_)
                        obtain ⟨n749, h⟩ := need_some h
                        refine G_r rfl (op_index_vec (by kernel_rfl) rfl rfl n749.1 n749.2 ?_)
                        refine G_l rfl (op_store_vec (i := x3_l26) (o := 0) (z := gi x0_l26 (x3_l14 + x5_l26)) (c' := [.exact (.int .i64 ((gi x0_l26 (x3_l14 + x5_l26)).1)), .exact (.int .i64 ((gi x0_l26 (x3_l14 + x5_l26)).2))]) (by kernel_rfl) len_c_api_Pair rfl n749.1 n749.2 rfl CellsOf.agg (LEs.cons (AV.le_eq rfl) (LEs.cons (AV.le_eq rfl) LEs.nil)) (oc_c_api_Pair _) (by kernel_rfl) (Nat.le_of_ble_eq_true rfl) rfl ?_)
                        refine G_nil ?_
                        refine kC_normal ?_
                        refine k_reg .free hmixP (by kernel_rfl) ?_
                        refine G_q rfl (op_move (av := .exact (.int .i64 x3_l26)) rfl ?_)
                        refine G_q rfl (op_add rfl rfl rfl ?_)
                        refine G_q rfl (op_assign (av := .exact (.int .i64 (i64 (x3_l26 + 1)))) rfl ?_)
                        refine G_nil ?_
                        refine kB_normal ?_
                        refine kI_normal ⟨_, _, h, ?_⟩
                        exact Sub.of_le (AF.le_put (AV.le_eq rfl) (AF.le_put (AV.le_eq rfl) (AF.le_put (AV.le_eq rfl) (AF.le_put (AV.le_eq rfl) (AF.le_top _)))))
                      · replace h := ite_f h hc
                        refine k_skip ?_
                        refine kB_normal ?_
                        refine kI_normal ⟨_, _, h, ?_⟩
                        exact Sub.of_le (AF.le_put (AV.le_eq rfl) (AF.le_put (AV.le_eq rfl) (AF.le_put (AV.le_eq rfl) (AF.le_put (AV.le_eq rfl) (AF.le_top _)))))
                    · refine k_reg .free hmixP (by kernel_rfl) ?_
                      refine G_q rfl (op_move (av := .exact (.int .i64 x5_l26)) rfl ?_)
                      refine G_q rfl (op_add rfl rfl rfl ?_)
                      refine G_q rfl (op_assign (av := .exact (.int .i64 (i64 (x5_l26 + 1)))) rfl ?_)
                      refine G_nil ?_
                      refine kI_normal ⟨_, _, _, h, ?_⟩
                      exact Sub.of_le (AF.le_put (AV.le_eq rfl) (AF.le_put (AV.le_eq rfl) (AF.le_put (AV.le_eq rfl) (AF.le_put (AV.le_eq rfl) (AF.le_top _)))))
                  · replace h := ite_f h hc
                    refine k_exit ?_
                    refine kC_exit ?_
                    refine kI_exit ?_
                    refine kB_exit ?_
                    refine kI_normal ⟨_, _, h, ?_⟩
                    exact Sub.of_le (AF.le_put (AV.le_eq rfl) (AF.le_put (AV.le_eq rfl) (AF.le_top _)))
              · refine k_seq ?_
                refine k_reg .free hmixP (by kernel_rfl) ?_
                refine G_q rfl (op_move (av := .exact w0) rfl ?_)
                refine G_q rfl (op_move (av := .exact (.int .i64 x3_j694)) rfl ?_)
                obtain ⟨n750, h⟩ := need_some h
                refine G_r rfl (op_slice_vec (by kernel_rfl) rfl (bnd_some rfl) bnd_none n750.1 n750.2.1 n750.2.2 ?_)
                refine G_l rfl (op_clear (zr := (0, 0)) (by kernel_rfl) len_c_api_Pair oc_c_api_Pair rfl (by have := n750; omega) Try.zeroValue48 (fun _ _ => (Fit.ex (Fit.ex Fit.nil0))) ?_)
                refine G_nil ?_
                refine kC_normal ?_
                refine k_seq ?_
                refine k_reg .free hmixP (by kernel_rfl) ?_
                refine G_q rfl (op_move (av := .exact w0) rfl ?_)
                refine G_q rfl (op_move (av := .exact (.int .i64 x3_j694)) rfl ?_)
                refine G_sub rfl (SubU.freezeT3 (s1 := 0) (s2 := 54) (s3 := 57) rfl rfl rfl len_c_api_Pair) ?_
                obtain ⟨n751, h⟩ := need_some h
                refine G_q rfl (op_slice_rowt (by kernel_rfl) rfl bnd_none (bnd_some rfl) (Int.le_refl 0) n751.1 n751.2 ?_)
                refine G_q rfl (op_assign (av := .row 2 c_api_Pair (List.take (Int.toNat x3_j694) (List.take (Int.toNat x3_j694) x0_j694 ++ List.replicate (Int.toNat (List.length x0_j694 : Int) - Int.toNat x3_j694) ((0, 0) : Int × Int) ++ List.drop (Int.toNat x3_j694 + (Int.toNat (List.length x0_j694 : Int) - Int.toNat x3_j694)) x0_j694))) rfl ?_)
                refine G_nil ?_
                refine kC_normal ?_
                refine k_ret ?_
                refine kB_ret ?_
                refine kI_ret ?_
                refine kI_ret ?_
                refine kB_ret ?_
                refine kI_ret ?_
                obtain rfl := Option.some.inj h
                refine kP_any (endN (af' := (AF.put AF0 (some 2) (.row 2 c_api_Pair (List.take (Int.toNat x3_j694) (List.take (Int.toNat x3_j694) x0_j694 ++ List.replicate (Int.toNat (List.length x0_j694 : Int) - Int.toNat x3_j694) ((0, 0) : Int × Int) ++ List.drop (Int.toNat x3_j694 + (Int.toNat (List.length x0_j694 : Int) - Int.toNat x3_j694)) x0_j694))))) (σ' := []) _ rfl ?_ ⟨rfl, rfl⟩)
                exact Sub.of_le (AF.le_put (AV.le_eq rfl) (AF.le_top _))
            · replace h := ite_f h hc
              refine k_skip ?_
              refine kB_normal ?_
              refine kI_normal ⟨h, ?_⟩
              exact Sub.of_le (AF.le_put (AV.le_eq rfl) (AF.le_put (AV.le_eq rfl) (AF.le_top _)))
          · refine k_reg .free hmixP (by kernel_rfl) ?_
            refine G_q rfl (op_move (av := .exact (.int .i64 x3_l14)) rfl ?_)
            refine G_q rfl (op_add rfl rfl rfl ?_)
            refine G_q rfl (op_assign (av := .exact (.int .i64 (i64 (x3_l14 + 1)))) rfl ?_)
            refine G_nil ?_
            refine kI_normal ⟨_, h, ?_⟩
            exact Sub.of_le (AF.le_put (AV.le_eq rfl) (AF.le_put (AV.le_eq rfl) (AF.le_top _)))
        · replace h := ite_f h hc
          refine k_exit ?_
          refine kC_exit ?_
          refine kI_exit ?_
          refine kB_exit ?_
          refine kI_normal ⟨h, ?_⟩
          exact Sub.of_le (AF.le_put (AV.le_eq rfl) (AF.le_top _))
    · refine k_seq ?_
      refine k_reg .free hmixP (by kernel_rfl) ?_
      refine G_q rfl (op_move (av := .exact w0) rfl ?_)
      refine G_q rfl (op_assign (av := .exact w0) rfl ?_)
      refine G_nil ?_
      refine kC_normal ?_
      refine k_ret ?_
      obtain rfl := Option.some.inj h
      refine kP_any (endN (af' := (AF.put AF0 (some 2) (.row 2 c_api_Pair a0))) (σ' := []) _ rfl ?_ ⟨rfl, rfl⟩)
      refine Sub.trans (SubU.to (SubU.freezeT (s := 2) rfl len_c_api_Pair)) ?_
      exact Sub.of_le (AF.le_put (AV.le_eq rfl) (AF.le_top _))
set_option maxHeartbeats 4000000 in
theorem m_slices_Clip_L_api_Pair_api_Pair_ok (a0 : List (Int × Int)) (r : (List (Int × Int))) (h : m_slices_Clip_L_api_Pair_api_Pair a0 = some r) : Pure Try.prog 68 [(.row 2 c_api_Pair a0)] (.row 2 c_api_Pair r) := by
  unfold m_slices_Clip_L_api_Pair_api_Pair at h
  refine Pure.ofFun (fun_of_awp Try.func68 rfl Try.ntmps68 (by simp) rfl (res1 rfl) fun E hE => k_end ?_)
  refine k_seq ?_
  refine k_reg .free hmixP (by kernel_rfl) ?_
  refine G_q rfl (op_assign (av := .exact (.slice none 0 0)) rfl ?_)
  refine G_nil ?_
  refine kC_normal ?_
  refine k_seq ?_
  refine k_reg .free hmixP (by kernel_rfl) ?_
  refine G_q rfl (op_move (av := .row 2 c_api_Pair a0) rfl ?_)
  refine G_q rfl (op_move (av := .row 2 c_api_Pair a0) rfl ?_)
  refine G_q rfl (op_len_row (by kernel_rfl) rfl ?_)
  refine G_q rfl (op_move (av := .row 2 c_api_Pair a0) rfl ?_)
  refine G_q rfl (op_len_row (by kernel_rfl) rfl ?_)
  obtain ⟨n1, h⟩ := need_some h
  refine G_q rfl (op_slice_row3 (by kernel_rfl) rfl bnd_none rfl rfl (Int.le_refl 0) n1 (Int.le_refl _) (Int.le_refl _) ?_)
  refine G_q rfl (op_assign (av := .row 2 c_api_Pair (List.take (Int.toNat (List.length a0 : Int)) a0)) rfl ?_)
  refine G_nil ?_
  refine kC_normal ?_
  refine k_ret ?_
  obtain rfl := Option.some.inj h
  refine kP_any (endN (af' := (AF.put AF0 (some 2) (.row 2 c_api_Pair (List.take (Int.toNat (List.length a0 : Int)) a0)))) (σ' := []) _ rfl ?_ ⟨rfl, rfl⟩)
  exact Sub.of_le (AF.le_put (AV.le_eq rfl) (AF.le_top _))
set_option maxHeartbeats 4000000 in
theorem m_alphabet_Relation_ok (a0 : List (Int × Int)) (r : (List (Int × Int))) (h : m_alphabet_Relation a0 = some r) : Pure Try.prog 30 [(.row 2 c_api_Pair a0)] (.row 2 c_api_Pair r) := by
  unfold m_alphabet_Relation at h
  refine Pure.ofFun (fun_of_awp Try.func30 rfl Try.ntmps30 (by simp) rfl (res1 rfl) fun E hE => k_end ?_)
  refine k_seq ?_
  refine k_reg .free hmixP (by kernel_rfl) ?_
  refine G_q rfl (op_assign (av := .exact (.slice none 0 0)) rfl ?_)
  refine G_nil ?_
  refine kC_normal ?_
  refine k_seq ?_
  refine k_reg .free hmixP (by kernel_rfl) ?_
  refine G_q rfl (op_assign (av := .exact (.slice none 0 0)) rfl ?_)
  refine G_nil ?_
  refine kC_normal ?_
  refine k_join1_1 h (fun (x3_j1 : List (Int × Int)) (v3_j1 : Value) => (AF.put AF0 (some 3) (.exact v3_j1))) (fun (x3_j1 : List (Int × Int)) (v3_j1 : Value) => [vecT Try.prog 44 2 c_api_Pair v3_j1 x3_j1]) (fun k1 h => ?_) (fun x3_j1 v3_j1 h => ?_)
  · refine k_seq ?_
    refine k_reg .free hmixP (by kernel_rfl) ?_
    refine G_q rfl (op_move (av := .row 2 c_api_Pair a0) rfl ?_)
    refine G_q rfl (op_len_row (by kernel_rfl) rfl ?_)
    refine G_q rfl (op_move (av := .exact (.int .i64 0)) rfl ?_)
    refine G_nil ?_
    refine kC_normal ?_
    refine k_block ?_
    refine k_loop2_1 (m_alphabet_Relation_L2 a0 k1) (m_alphabet_Relation_B2 a0 k1) (fun _ _ => rfl) (fun m _ _ => rfl) h (fun (x3_l2 : List (Int × Int)) (x8_l2 : Int) (v3_l2 : Value) => (AF.put (AF.put (AF.put (AF.put AF0 (some 3) (.exact v3_l2)) (some 6) (.row 2 c_api_Pair a0)) (some 7) (.exact (.int .i64 (List.length a0 : Int)))) (some 8) (.exact (.int .i64 x8_l2)))) (fun (x3_l2 : List (Int × Int)) (x8_l2 : Int) (v3_l2 : Value) => [vecT Try.prog 44 2 c_api_Pair v3_l2 x3_l2]) (.slice none 0 0) ?_ (fun rec2 x3_l2 x8_l2 v3_l2 h => ?_)
    · refine Sub.trans (SubU.to (SubU.nilT (P := Try.prog) (t := 44) (n := 2) (enc := c_api_Pair))) ?_
      exact Sub.of_le (AF.le_put (AV.le_eq rfl) (AF.le_put (AV.le_eq rfl) (AF.le_put (AV.le_eq rfl) (AF.le_put (AV.le_eq rfl) (AF.le_top _)))))
    · unfold m_alphabet_Relation_B2 at h
      refine k_seq ?_
      refine k_reg .free hmixP (by kernel_rfl) ?_
      refine G_q rfl (op_lss rfl rfl ?_)
      refine G_nil ?_
      refine kC_normal ?_
      refine k_seq ?_
      refine k_cond_d (p := x8_l2 < (List.length a0 : Int)) rfl (fun hc => ?_) (fun hc => ?_)
      · replace h := ite_t h hc
        refine k_skip ?_
        refine kC_normal ?_
        refine k_join1_1 h (fun (x3_j98 : List (Int × Int)) (v3_j98 : Value) => (AF.put (AF.put (AF.put (AF.put AF0 (some 3) (.exact v3_j98)) (some 6) (.row 2 c_api_Pair a0)) (some 7) (.exact (.int .i64 (List.length a0 : Int)))) (some 8) (.exact (.int .i64 x8_l2)))) (fun (x3_j98 : List (Int × Int)) (v3_j98 : Value) => [vecT Try.prog 44 2 c_api_Pair v3_j98 x3_j98]) (fun k98 h => ?_) (fun x3_j98 v3_j98 h => ?_)
        · refine k_block ?_
          refine k_seq ?_
          refine k_reg .free hmixP (by kernel_rfl) ?_
          obtain ⟨n108, h⟩ := need_some h
          refine G_q rfl (op_index_row (by kernel_rfl) rfl rfl n108.1 n108.2 ?_)
          refine G_q rfl (op_loadNp (m := 2) (c' := c_api_Pair (gi a0 x8_l2)) (by kernel_rfl) rfl rfl rfl ?_)
          refine G_l rfl (op_alloc (c := [.exact (.int .i64 ((0, 0).1)), .exact (.int .i64 ((0, 0).2))]) rfl (LEs.cons (AV.le_eq rfl) (LEs.cons (AV.le_eq rfl) LEs.nil)) (fun b109 => ?_))
          refine G_l rfl (op_store_box (c' := [.exact (.int .i64 ((gi a0 x8_l2).1)), .exact (.int .i64 ((gi a0 x8_l2).2))]) (c3 := [.exact (.int .i64 ((gi a0 x8_l2).1)), .exact (.int .i64 ((gi a0 x8_l2).2))]) rfl rfl CellsOf.agg (LEs.cons (AV.le_eq rfl) (LEs.cons (AV.le_eq rfl) LEs.nil)) (oc_c_api_Pair _) (by kernel_rfl) (Nat.le_of_ble_eq_true rfl) rfl ?_)
          refine G_nil ?_
          refine kC_normal ?_
          refine k_join1_0 h (fun (x19_j110 : Bool) => (AF.put (AF.put (AF.put (AF.put (AF.put (AF.put AF0 (some 3) (.exact v3_l2)) (some 5) (pA b109 0)) (some 6) (.row 2 c_api_Pair a0)) (some 7) (.exact (.int .i64 (List.length a0 : Int)))) (some 8) (.exact (.int .i64 x8_l2))) (some 19) (.exact (.bool x19_j110)))) (fun (x19_j110 : Bool) => [vecT Try.prog 44 2 c_api_Pair v3_l2 x3_l2, boxI 48 b109 [.exact (.int .i64 ((gi a0 x8_l2).1)), .exact (.int .i64 ((gi a0 x8_l2).2))]]) (fun k110 h => ?_) (fun x19_j110 h => ?_)
          · refine k_reg .free hmixP (by kernel_rfl) ?_
            refine G_q rfl (op_fieldAddr (o := 0) (by kernel_rfl) rfl ?_)
            refine G_r rfl (op_load_box1 (a := .exact (.int .i64 ((gi a0 x8_l2).1))) (by kernel_rfl) rfl rfl ?_)
            obtain ⟨y113, hy113, h⟩ := bnd1_some h
            refine G_q rfl (op_pure (m_alphabet_visible_ok _ _ hy113) Try.func51 (by kernel_rfl) (LEs.cons (AV.le_eq rfl) LEs.nil) ?_)
            refine G_q rfl (op_move (av := .exact (.bool y113)) rfl ?_)
            refine G_splitB (c := y113) 15 rfl (fun hc => ?_) (fun hc => ?_)
            · replace h := ite_t h hc
              refine Gy_q rfl rfl rfl (op_fieldAddr (o := 1) (by kernel_rfl) rfl ?_)
              refine Gy_r rfl rfl rfl (op_load_box1 (a := .exact (.int .i64 ((gi a0 x8_l2).2))) (by kernel_rfl) rfl rfl ?_)
              obtain ⟨y114, hy114, h⟩ := bnd1_some h
              refine Gy_q rfl rfl rfl (op_pure (m_alphabet_visible_ok _ _ hy114) Try.func51 (by kernel_rfl) (LEs.cons (AV.le_eq rfl) LEs.nil) ?_)
              refine G_q rfl (op_pick_t rfl (av := .exact (.bool y114)) rfl ?_)
              refine G_nil ?_
              refine kI_normal ⟨_, h, ?_⟩
              refine Sub.trans (SubU.to SubU.f1) ?_
              exact Sub.of_le (AF.le_put (AV.le_eq rfl) (AF.le_put (AV.le_eq rfl) (AF.le_put (AV.le_eq rfl) (AF.le_put (AV.le_eq rfl) (AF.le_put (AV.le_eq rfl) (AF.le_put (AV.le_eq rfl) (AF.le_top _)))))))
            · replace h := ite_f h hc
              refine G_n rfl rfl ?_
              refine G_n rfl rfl ?_
              refine G_n rfl rfl ?_
              refine G_q rfl (op_pick_f rfl (av := .exact (.bool false)) rfl ?_)
              refine G_nil ?_
              refine kI_normal ⟨_, h, ?_⟩
              refine Sub.trans (SubU.to SubU.f1) ?_
              exact Sub.of_le (AF.le_put (AV.le_eq rfl) (AF.le_put (AV.le_eq rfl) (AF.le_put (AV.le_eq rfl) (AF.le_put (AV.le_eq rfl) (AF.le_put (AV.le_eq rfl) (AF.le_put (AV.le_eq rfl) (AF.le_top _)))))))
          · refine k_cond_b (c := x19_j110) rfl (fun hc => ?_) (fun hc => ?_)
            · replace h := ite_t h hc
              refine k_reg .free hmixP (by kernel_rfl) ?_
              refine G_q rfl (op_move (av := .exact v3_l2) rfl ?_)
              refine G_r rfl (opR_f1 (op_load_boxN (m := 2) (c' := c_api_Pair ((gi a0 x8_l2).1, (gi a0 x8_l2).2)) (by kernel_rfl) rfl rfl rfl ?_))
              refine G_q rfl (op_litT (n := 2) (enc := c_api_Pair) [((gi a0 x8_l2).1, (gi a0 x8_l2).2)] (CellsAll.cons rfl CellsOf.agg CellsAll.nil) rfl (by kernel_rfl) (LEss.cons (LEs.cons (AV.le_eq rfl) (LEs.cons (AV.le_eq rfl) LEs.nil)) LEss.nil) ?_)
              obtain ⟨n115, h⟩ := need_some h
              refine G_l rfl (op_appT (by kernel_rfl) rfl rfl oc_c_api_Pair n115 (fun v116 => ?_))
              refine G_q rfl (op_assign (av := .exact v116) rfl ?_)
              refine G_nil ?_
              refine kB_normal ?_
              refine kI_normal ⟨_, v116, h, ?_⟩
              refine Sub.trans (SubU.to SubU.f1) ?_
              refine Sub.trans (SubU.to SubU.drop) ?_
              exact Sub.of_le (AF.le_put (AV.le_eq rfl) (AF.le_put (AV.le_eq rfl) (AF.le_put (AV.le_eq rfl) (AF.le_put (AV.le_eq rfl) (AF.le_top _)))))
            · replace h := ite_f h hc
              refine k_skip ?_
              refine kB_normal ?_
              refine kI_normal ⟨_, v3_l2, h, ?_⟩
              refine Sub.trans (SubU.to SubU.f1) ?_
              refine Sub.trans (SubU.to SubU.drop) ?_
              exact Sub.of_le (AF.le_put (AV.le_eq rfl) (AF.le_put (AV.le_eq rfl) (AF.le_put (AV.le_eq rfl) (AF.le_put (AV.le_eq rfl) (AF.le_top _)))))
        · refine k_reg .free hmixP (by kernel_rfl) ?_
          refine G_q rfl (op_add rfl rfl rfl ?_)
          refine G_q rfl (op_move (av := .exact (.int .i64 (i64 (x8_l2 + 1)))) rfl ?_)
          refine G_nil ?_
          refine kI_normal ⟨_, _, v3_j98, h, ?_⟩
          exact Sub.of_le (AF.le_put (AV.le_eq rfl) (AF.le_put (AV.le_eq rfl) (AF.le_put (AV.le_eq rfl) (AF.le_put (AV.le_eq rfl) (AF.le_top _)))))
      · replace h := ite_f h hc
        refine k_exit ?_
        refine kC_exit ?_
        refine kI_exit ?_
        refine kB_exit ?_
        refine kI_normal ⟨_, v3_l2, h, ?_⟩
        exact Sub.of_le (AF.le_put (AV.le_eq rfl) (AF.le_top _))
  · refine k_seq ?_
    refine k_reg .free hmixP (by kernel_rfl) ?_
    refine G_q rfl (op_move (av := .exact v3_j1) rfl ?_)
    obtain ⟨y117, hy117, h⟩ := bnd1_some h
    refine G_l rfl (op_fun_1_0_1 (m_sort_api_Pair_ok m_alphabet_comparePairs_ok _ _ hy117) Try.func66 (by kernel_rfl) (LEs.cons (AV.le_eq rfl) (LEs.cons (AV.le_eq rfl) LEs.nil)) ?_)
    refine G_nil ?_
    refine kC_normal ?_
    refine k_seq ?_
    refine k_reg .free hmixP (by kernel_rfl) ?_
    refine G_q rfl (op_move (av := .exact v3_j1) rfl ?_)
    obtain ⟨y118, hy118, h⟩ := bnd1_some h
    refine G_l rfl (op_fun_1_0_0 (m_slices_Compact_L_api_Pair_api_Pair_ok _ _ hy118) Try.func69 (by kernel_rfl) (LEs.cons (AV.le_eq rfl) LEs.nil) ?_)
    obtain ⟨y119, hy119, h⟩ := bnd1_some h
    refine G_q rfl (op_pure (m_slices_Clip_L_api_Pair_api_Pair_ok _ _ hy119) Try.func68 (by kernel_rfl) (LEs.cons (AV.le_eq rfl) LEs.nil) ?_)
    refine G_q rfl (op_assign (av := .row 2 c_api_Pair y119) rfl ?_)
    refine G_nil ?_
    refine kC_normal ?_
    refine k_ret ?_
    obtain rfl := Option.some.inj h
    refine kP_any (endN (af' := (AF.put AF0 (some 2) (.row 2 c_api_Pair y119))) (σ' := []) _ rfl ?_ ⟨rfl, rfl⟩)
    exact Sub.of_le (AF.le_put (AV.le_eq rfl) (AF.le_top _))
set_option maxHeartbeats 4000000 in
theorem m_alphabet_Image_ok (a0 : List (Int × Int)) (a1 : Int) (r : (List Int)) (h : m_alphabet_Image a0 a1 = some r) : Pure Try.prog 32 [(.row 2 c_api_Pair a0), (.exact (.int .i64 a1))] (.row 1 c_int r) := by
  unfold m_alphabet_Image at h
  refine Pure.ofFun (fun_of_awp Try.func32 rfl Try.ntmps32 (by simp) rfl (res1 rfl) fun E hE => k_end ?_)
  refine k_seq ?_
  refine k_reg .free hmixP (by kernel_rfl) ?_
  refine G_q rfl (op_assign (av := .exact (.slice none 0 0)) rfl ?_)
  refine G_nil ?_
  refine kC_normal ?_
  refine k_seq ?_
  refine k_reg .free hmixP (by kernel_rfl) ?_
  refine G_q rfl (op_assign (av := .exact (.slice none 0 0)) rfl ?_)
  refine G_nil ?_
  refine kC_normal ?_
  refine k_join1_1 h (fun (x5_j1 : List Int) (v5_j1 : Value) => (AF.put (AF.put AF0 (some 1) (.exact (.int .i64 a1))) (some 5) (.exact v5_j1))) (fun (x5_j1 : List Int) (v5_j1 : Value) => [vecT Try.prog 23 1 c_int v5_j1 x5_j1]) (fun k1 h => ?_) (fun x5_j1 v5_j1 h => ?_)
  · refine k_seq ?_
    refine k_reg .free hmixP (by kernel_rfl) ?_
    refine G_q rfl (op_move (av := .row 2 c_api_Pair a0) rfl ?_)
    obtain ⟨y31, hy31, h⟩ := bnd1_some h
    refine G_q rfl (op_pure (m_alphabet_Relation_ok _ _ hy31) Try.func30 (by kernel_rfl) (LEs.cons (AV.le_eq rfl) LEs.nil) ?_)
    refine G_q rfl (op_len_row (by kernel_rfl) rfl ?_)
    refine G_q rfl (op_move (av := .exact (.int .i64 0)) rfl ?_)
    refine G_nil ?_
    refine kC_normal ?_
    refine k_block ?_
    refine k_loop2_1 (m_alphabet_Image_L2 a1 k1 y31) (m_alphabet_Image_B2 a1 k1 y31) (fun _ _ => rfl) (fun m _ _ => rfl) h (fun (x5_l2 : List Int) (x11_l2 : Int) (v5_l2 : Value) => (AF.put (AF.put (AF.put (AF.put (AF.put AF0 (some 1) (.exact (.int .i64 a1))) (some 5) (.exact v5_l2)) (some 9) (.row 2 c_api_Pair y31)) (some 10) (.exact (.int .i64 (List.length y31 : Int)))) (some 11) (.exact (.int .i64 x11_l2)))) (fun (x5_l2 : List Int) (x11_l2 : Int) (v5_l2 : Value) => [vecT Try.prog 23 1 c_int v5_l2 x5_l2]) (.slice none 0 0) ?_ (fun rec2 x5_l2 x11_l2 v5_l2 h => ?_)
    · refine Sub.trans (SubU.to (SubU.nilT (P := Try.prog) (t := 23) (n := 1) (enc := c_int))) ?_
      exact Sub.of_le (AF.le_put (AV.le_eq rfl) (AF.le_put (AV.le_eq rfl) (AF.le_put (AV.le_eq rfl) (AF.le_put (AV.le_eq rfl) (AF.le_put (AV.le_eq rfl) (AF.le_top _))))))
    · unfold m_alphabet_Image_B2 at h
      refine k_seq ?_
      refine k_reg .free hmixP (by kernel_rfl) ?_
      refine G_q rfl (op_lss rfl rfl ?_)
      refine G_nil ?_
      refine kC_normal ?_
      refine k_seq ?_
      refine k_cond_d (p := x11_l2 < (List.length y31 : Int)) rfl (fun hc => ?_) (fun hc => ?_)
      · replace h := ite_t h hc
        refine k_skip ?_
        refine kC_normal ?_
        refine k_join1_1 h (fun (x5_j50 : List Int) (v5_j50 : Value) => (AF.put (AF.put (AF.put (AF.put (AF.put AF0 (some 1) (.exact (.int .i64 a1))) (some 5) (.exact v5_j50)) (some 9) (.row 2 c_api_Pair y31)) (some 10) (.exact (.int .i64 (List.length y31 : Int)))) (some 11) (.exact (.int .i64 x11_l2)))) (fun (x5_j50 : List Int) (v5_j50 : Value) => [vecT Try.prog 23 1 c_int v5_j50 x5_j50]) (fun k50 h => ?_) (fun x5_j50 v5_j50 h => ?_)
        · refine k_block ?_
          refine k_seq ?_
          refine k_reg .free hmixP (by kernel_rfl) ?_
          obtain ⟨n55, h⟩ := need_some h
          refine G_q rfl (op_index_row (by kernel_rfl) rfl rfl n55.1 n55.2 ?_)
          refine G_q rfl (op_loadNp (m := 2) (c' := c_api_Pair (gi y31 x11_l2)) (by kernel_rfl) rfl rfl rfl ?_)
          refine G_l rfl (op_alloc (c := [.exact (.int .i64 ((0, 0).1)), .exact (.int .i64 ((0, 0).2))]) rfl (LEs.cons (AV.le_eq rfl) (LEs.cons (AV.le_eq rfl) LEs.nil)) (fun b56 => ?_))
          refine G_l rfl (op_store_box (c' := [.exact (.int .i64 ((gi y31 x11_l2).1)), .exact (.int .i64 ((gi y31 x11_l2).2))]) (c3 := [.exact (.int .i64 ((gi y31 x11_l2).1)), .exact (.int .i64 ((gi y31 x11_l2).2))]) rfl rfl CellsOf.agg (LEs.cons (AV.le_eq rfl) (LEs.cons (AV.le_eq rfl) LEs.nil)) (oc_c_api_Pair _) (by kernel_rfl) (Nat.le_of_ble_eq_true rfl) rfl ?_)
          refine G_nil ?_
          refine kC_normal ?_
          refine k_seq ?_
          refine k_reg .free hmixP (by kernel_rfl) ?_
          refine G_q rfl (op_fieldAddr (o := 0) (by kernel_rfl) rfl ?_)
          refine G_r rfl (op_load_box1 (a := .exact (.int .i64 ((gi y31 x11_l2).1))) (by kernel_rfl) rfl rfl ?_)
          refine G_q rfl (op_move (av := .exact (.int .i64 a1)) rfl ?_)
          refine G_q rfl (op_eql rfl rfl ?_)
          refine G_nil ?_
          refine kC_normal ?_
          refine k_cond_d (p := ((gi y31 x11_l2).1) = a1) rfl (fun hc => ?_) (fun hc => ?_)
          · replace h := ite_t h hc
            refine k_reg .free hmixP (by kernel_rfl) ?_
            refine G_q rfl (op_move (av := .exact v5_l2) rfl ?_)
            refine G_q rfl (op_fieldAddr (o := 1) (by kernel_rfl) rfl ?_)
            refine G_r rfl (op_load_box1 (a := .exact (.int .i64 ((gi y31 x11_l2).2))) (by kernel_rfl) rfl rfl ?_)
            refine G_q rfl (op_litT (n := 1) (enc := c_int) [(gi y31 x11_l2).2] (CellsAll.cons rfl CellsOf.int CellsAll.nil) rfl (by kernel_rfl) (LEss.cons (LEs.cons (AV.le_eq rfl) LEs.nil) LEss.nil) ?_)
            obtain ⟨n57, h⟩ := need_some h
            refine G_l rfl (opB_f1 (op_appT (by kernel_rfl) rfl rfl oc_c_int n57 (fun v58 => ?_)))
            refine G_q rfl (op_assign (av := .exact v58) rfl ?_)
            refine G_nil ?_
            refine kB_normal ?_
            refine kI_normal ⟨_, v58, h, ?_⟩
            refine Sub.trans (SubU.to SubU.f1) ?_
            refine Sub.trans (SubU.to SubU.drop) ?_
            exact Sub.of_le (AF.le_put (AV.le_eq rfl) (AF.le_put (AV.le_eq rfl) (AF.le_put (AV.le_eq rfl) (AF.le_put (AV.le_eq rfl) (AF.le_put (AV.le_eq rfl) (AF.le_top _))))))
          · replace h := ite_f h hc
            refine k_skip ?_
            refine kB_normal ?_
            refine kI_normal ⟨_, v5_l2, h, ?_⟩
            refine Sub.trans (SubU.to SubU.drop) ?_
            exact Sub.of_le (AF.le_put (AV.le_eq rfl) (AF.le_put (AV.le_eq rfl) (AF.le_put (AV.le_eq rfl) (AF.le_put (AV.le_eq rfl) (AF.le_put (AV.le_eq rfl) (AF.le_top _))))))
        · refine k_reg .free hmixP (by kernel_rfl) ?_
          refine G_q rfl (op_add rfl rfl rfl ?_)
          refine G_q rfl (op_move (av := .exact (.int .i64 (i64 (x11_l2 + 1)))) rfl ?_)
          refine G_nil ?_
          refine kI_normal ⟨_, _, v5_j50, h, ?_⟩
          exact Sub.of_le (AF.le_put (AV.le_eq rfl) (AF.le_put (AV.le_eq rfl) (AF.le_put (AV.le_eq rfl) (AF.le_put (AV.le_eq rfl) (AF.le_put (AV.le_eq rfl) (AF.le_top _))))))
      · replace h := ite_f h hc
        refine k_exit ?_
        refine kC_exit ?_
        refine kI_exit ?_
        refine kB_exit ?_
        refine kI_normal ⟨_, v5_l2, h, ?_⟩
        exact Sub.of_le (AF.le_put (AV.le_eq rfl) (AF.le_put (AV.le_eq rfl) (AF.le_top _)))
  · refine k_seq ?_
    refine k_seq ?_
    refine k_reg .free hmixP (by kernel_rfl) ?_
    refine G_q rfl (op_move (av := .exact v5_j1) rfl ?_)
    refine G_r rfl (op_len_vec (by kernel_rfl) rfl ?_)
    refine G_q rfl (op_eql rfl rfl ?_)
    refine G_nil ?_
    refine kC_normal ?_
    refine k_cond_d (p := (List.length x5_j1 : Int) = 0) rfl (fun hc => ?_) (fun hc => ?_)
    · replace h := ite_t h hc
      refine k_seq ?_
      refine k_reg .free hmixP (by kernel_rfl) ?_
      refine G_q rfl (op_move (av := .exact (.int .i64 a1)) rfl ?_)
      refine G_q rfl (op_litT (n := 1) (enc := c_int) [a1] (CellsAll.cons rfl CellsOf.int CellsAll.nil) rfl (by kernel_rfl) (LEss.cons (LEs.cons (AV.le_eq rfl) LEs.nil) LEss.nil) ?_)
      refine G_q rfl (op_assign (av := .row 1 c_int [a1]) rfl ?_)
      refine G_nil ?_
      refine kC_normal ?_
      refine k_ret ?_
      refine kC_ret ?_
      obtain rfl := Option.some.inj h
      refine kP_any (endN (af' := (AF.put AF0 (some 4) (.row 1 c_int [a1]))) (σ' := []) _ rfl ?_ ⟨rfl, rfl⟩)
      refine Sub.trans (SubU.to SubU.drop) ?_
      exact Sub.of_le (AF.le_put (AV.le_eq rfl) (AF.le_top _))
    · replace h := ite_f h hc
      refine k_skip ?_
      refine kC_normal ?_
      refine k_seq ?_
      refine k_reg .free hmixP (by kernel_rfl) ?_
      refine G_q rfl (op_move (av := .exact v5_j1) rfl ?_)
      refine G_sub rfl (SubU.freezeT3 (s1 := 5) (s2 := 25) (s3 := 30) rfl rfl rfl len_c_int) ?_
      obtain ⟨y59, hy59, h⟩ := bnd1_some h
      refine G_q rfl (op_pure (m_slices_Clip_L_int_int_ok _ _ hy59) Try.func64 (by kernel_rfl) (LEs.cons (AV.le_eq rfl) LEs.nil) ?_)
      refine G_q rfl (op_assign (av := .row 1 c_int y59) rfl ?_)
      refine G_nil ?_
      refine kC_normal ?_
      refine k_ret ?_
      obtain rfl := Option.some.inj h
      refine kP_any (endN (af' := (AF.put AF0 (some 4) (.row 1 c_int y59))) (σ' := []) _ rfl ?_ ⟨rfl, rfl⟩)
      exact Sub.of_le (AF.le_put (AV.le_eq rfl) (AF.le_top _))
set_option maxHeartbeats 4000000 in
theorem m_law15_awake_ok  (r : Bool) (h : m_law15_awake = some r) : Pure Try.prog 23 [] (.exact (.bool r)) := by
  unfold m_law15_awake at h
  refine Pure.ofFun (fun_of_awp Try.func23 rfl Try.ntmps23 (by simp) rfl (res1 rfl) fun E hE => k_end ?_)
  refine k_seq ?_
  refine k_reg .free hmixP (by kernel_rfl) ?_
  refine G_q rfl (op_assign (av := .exact (.bool false)) rfl ?_)
  refine G_nil ?_
  refine kC_normal ?_
  refine k_seq ?_
  refine k_reg .free hmixP (by kernel_rfl) ?_
  refine G_q rfl (op_bld (c' := c_api_Pair (2, 3)) (CellsAll.cons rfl CellsOf.int (CellsAll.cons rfl CellsOf.int CellsAll.nil)) rfl (LEs.cons (AV.le_eq rfl) (LEs.cons (AV.le_eq rfl) LEs.nil)) ?_)
  refine G_q rfl (op_bld (c' := c_api_Pair (2, 5)) (CellsAll.cons rfl CellsOf.int (CellsAll.cons rfl CellsOf.int CellsAll.nil)) rfl (LEs.cons (AV.le_eq rfl) (LEs.cons (AV.le_eq rfl) LEs.nil)) ?_)
  refine G_q rfl (op_litT (n := 2) (enc := c_api_Pair) [(2, 3), (2, 5)] (CellsAll.cons rfl CellsOf.agg (CellsAll.cons rfl CellsOf.agg CellsAll.nil)) rfl (by kernel_rfl) (LEss.cons (LEs.cons (AV.le_eq rfl) (LEs.cons (AV.le_eq rfl) LEs.nil)) (LEss.cons (LEs.cons (AV.le_eq rfl) (LEs.cons (AV.le_eq rfl) LEs.nil)) LEss.nil)) ?_)
  refine G_q rfl (op_assign (av := .row 2 c_api_Pair [(2, 3), (2, 5)]) rfl ?_)
  refine G_nil ?_
  refine kC_normal ?_
  refine k_seq ?_
  refine k_reg .free hmixP (by kernel_rfl) ?_
  refine G_q rfl (op_bld (c' := c_api_Above (3, 4)) (CellsAll.cons rfl CellsOf.int (CellsAll.cons rfl CellsOf.int CellsAll.nil)) rfl (LEs.cons (AV.le_eq rfl) (LEs.cons (AV.le_eq rfl) LEs.nil)) ?_)
  refine G_q rfl (op_bld (c' := c_api_Above (2, 3)) (CellsAll.cons rfl CellsOf.int (CellsAll.cons rfl CellsOf.int CellsAll.nil)) rfl (LEs.cons (AV.le_eq rfl) (LEs.cons (AV.le_eq rfl) LEs.nil)) ?_)
  refine G_q rfl (op_litT (n := 2) (enc := c_api_Above) [(3, 4), (2, 3)] (CellsAll.cons rfl CellsOf.agg (CellsAll.cons rfl CellsOf.agg CellsAll.nil)) rfl (by kernel_rfl) (LEss.cons (LEs.cons (AV.le_eq rfl) (LEs.cons (AV.le_eq rfl) LEs.nil)) (LEss.cons (LEs.cons (AV.le_eq rfl) (LEs.cons (AV.le_eq rfl) LEs.nil)) LEss.nil)) ?_)
  obtain ⟨y1, hy1, h⟩ := bnd1_some h
  refine G_q rfl (op_pure (m_close_ok _ _ hy1) Try.func13 (by kernel_rfl) (LEs.cons (AV.le_eq rfl) LEs.nil) ?_)
  refine G_q rfl (op_move (av := .tup [.row 2 c_api_Above y1.1, .exact (.int .i64 y1.2)]) rfl ?_)
  refine G_q rfl (op_extract (av := .row 2 c_api_Above y1.1) rfl rfl ?_)
  refine G_q rfl (op_extract (av := .exact (.int .i64 y1.2)) rfl rfl ?_)
  refine G_q rfl (op_assign (av := .row 2 c_api_Above y1.1) rfl ?_)
  refine G_q rfl (op_assign (av := .exact (.int .i64 y1.2)) rfl ?_)
  refine G_nil ?_
  refine kC_normal ?_
  refine k_join1_0 h (fun (x0_j2 : Bool) => (AF.put AF0 (some 0) (.exact (.bool x0_j2)))) (fun (x0_j2 : Bool) => []) (fun k2 h => ?_) (fun x0_j2 h => ?_)
  · refine k_reg .free hmixP (by kernel_rfl) ?_
    refine G_q rfl (op_move (av := .row 2 c_api_Pair [(2, 3), (2, 5)]) rfl ?_)
    obtain ⟨y9, hy9, h⟩ := bnd1_some h
    refine G_q rfl (op_pure (m_alphabet_Image_ok _ _ _ hy9) Try.func32 (by kernel_rfl) (LEs.cons (AV.le_eq rfl) (LEs.cons (AV.le_eq rfl) LEs.nil)) ?_)
    refine G_q rfl (op_litT (n := 1) (enc := c_int) [3, 5] (CellsAll.cons rfl CellsOf.int (CellsAll.cons rfl CellsOf.int CellsAll.nil)) rfl (by kernel_rfl) (LEss.cons (LEs.cons (AV.le_eq rfl) LEs.nil) (LEss.cons (LEs.cons (AV.le_eq rfl) LEs.nil) LEss.nil)) ?_)
    obtain ⟨y10, hy10, h⟩ := bnd1_some h
    refine G_q rfl (op_pure (m_help_Equal_int_ok _ _ _ hy10) Try.func18 (by kernel_rfl) (LEs.cons (AV.le_eq rfl) (LEs.cons (AV.le_eq rfl) LEs.nil)) ?_)
    refine G_q rfl (op_move (av := .exact (.bool y10)) rfl ?_)
    refine G_splitB (c := y10) 18 rfl (fun hc => ?_) (fun hc => ?_)
    · replace h := ite_t h hc
      refine Gy_q rfl rfl rfl (op_move (av := .row 2 c_api_Pair [(2, 3), (2, 5)]) rfl ?_)
      obtain ⟨y11, hy11, h⟩ := bnd1_some h
      refine Gy_q rfl rfl rfl (op_pure (m_alphabet_Image_ok _ _ _ hy11) Try.func32 (by kernel_rfl) (LEs.cons (AV.le_eq rfl) (LEs.cons (AV.le_eq rfl) LEs.nil)) ?_)
      refine Gy_q rfl rfl rfl (op_litT (n := 1) (enc := c_int) [4] (CellsAll.cons rfl CellsOf.int CellsAll.nil) rfl (by kernel_rfl) (LEss.cons (LEs.cons (AV.le_eq rfl) LEs.nil) LEss.nil) ?_)
      obtain ⟨y12, hy12, h⟩ := bnd1_some h
      refine Gy_q rfl rfl rfl (op_pure (m_help_Equal_int_ok _ _ _ hy12) Try.func18 (by kernel_rfl) (LEs.cons (AV.le_eq rfl) (LEs.cons (AV.le_eq rfl) LEs.nil)) ?_)
      refine G_q rfl (op_pick_t rfl (av := .exact (.bool y12)) rfl ?_)
      refine G_q rfl (op_move (av := .exact (.bool y12)) rfl ?_)
      refine G_splitB (c := y12) 24 rfl (fun hc => ?_) (fun hc => ?_)
      · replace h := ite_t h hc
        refine Gy_q rfl rfl rfl (op_move (av := .exact (.int .i64 y1.2)) rfl ?_)
        refine Gy_q rfl rfl rfl (op_eql rfl rfl ?_)
        refine G_q rfl (op_pick_t rfl (av := .exact (.bool (decide (y1.2 = 0)))) rfl ?_)
        refine G_q rfl (op_move (av := .exact (.bool (decide (y1.2 = 0)))) rfl ?_)
        refine G_split (p := y1.2 = 0) 28 rfl (fun hc => ?_) (fun hc => ?_)
        · replace h := ite_t h hc
          refine Gy_q rfl rfl rfl (op_move (av := .row 2 c_api_Above y1.1) rfl ?_)
          refine Gy_q rfl rfl rfl (op_len_row (by kernel_rfl) rfl ?_)
          refine Gy_q rfl rfl rfl (op_eql rfl rfl ?_)
          refine G_q rfl (op_pick_t rfl (av := .exact (.bool (decide ((List.length y1.1 : Int) = 3)))) rfl ?_)
          refine G_q rfl (op_move (av := .exact (.bool (decide ((List.length y1.1 : Int) = 3)))) rfl ?_)
          refine G_split (p := (List.length y1.1 : Int) = 3) 33 rfl (fun hc => ?_) (fun hc => ?_)
          · replace h := ite_t h hc
            refine Gy_q rfl rfl rfl (op_move (av := .row 2 c_api_Above y1.1) rfl ?_)
            refine Gy_q rfl rfl rfl (op_litT (n := 1) (enc := c_int) [0, 2, 5] (CellsAll.cons rfl CellsOf.int (CellsAll.cons rfl CellsOf.int (CellsAll.cons rfl CellsOf.int CellsAll.nil))) rfl (by kernel_rfl) (LEss.cons (LEs.cons (AV.le_eq rfl) LEs.nil) (LEss.cons (LEs.cons (AV.le_eq rfl) LEs.nil) (LEss.cons (LEs.cons (AV.le_eq rfl) LEs.nil) LEss.nil))) ?_)
            obtain ⟨y13, hy13, h⟩ := bnd1_some h
            refine Gy_q rfl rfl rfl (op_pure (m_alphabet_Keep_ok _ _ _ hy13) Try.func19 (by kernel_rfl) (LEs.cons (AV.le_eq rfl) (LEs.cons (AV.le_eq rfl) LEs.nil)) ?_)
            refine Gy_q rfl rfl rfl (op_litT (n := 1) (enc := c_int) [0, 5] (CellsAll.cons rfl CellsOf.int (CellsAll.cons rfl CellsOf.int CellsAll.nil)) rfl (by kernel_rfl) (LEss.cons (LEs.cons (AV.le_eq rfl) LEs.nil) (LEss.cons (LEs.cons (AV.le_eq rfl) LEs.nil) LEss.nil)) ?_)
            obtain ⟨y14, hy14, h⟩ := bnd1_some h
            refine Gy_q rfl rfl rfl (op_pure (m_help_Equal_int_ok _ _ _ hy14) Try.func18 (by kernel_rfl) (LEs.cons (AV.le_eq rfl) (LEs.cons (AV.le_eq rfl) LEs.nil)) ?_)
            refine G_q rfl (op_pick_t rfl (av := .exact (.bool y14)) rfl ?_)
            refine G_q rfl (op_assign (av := .exact (.bool y14)) rfl ?_)
            refine G_nil ?_
            refine kI_normal ⟨_, h, ?_⟩
            exact Sub.of_le (AF.le_put (AV.le_eq rfl) (AF.le_top _))
          · replace h := ite_f h hc
            refine G_n rfl rfl ?_
            refine G_n rfl rfl ?_
            refine G_n rfl rfl ?_
            refine G_n rfl rfl ?_
            refine G_n rfl rfl ?_
            refine G_q rfl (op_pick_f rfl (av := .exact (.bool false)) rfl ?_)
            refine G_q rfl (op_assign (av := .exact (.bool false)) rfl ?_)
            refine G_nil ?_
            refine kI_normal ⟨_, h, ?_⟩
            exact Sub.of_le (AF.le_put (AV.le_eq rfl) (AF.le_top _))
        · replace h := ite_f h hc
          refine G_n rfl rfl ?_
          refine G_n rfl rfl ?_
          refine G_n rfl rfl ?_
          refine G_q rfl (op_pick_f rfl (av := .exact (.bool false)) rfl ?_)
          refine G_q rfl (op_move (av := .exact (.bool false)) rfl ?_)
          refine G_n rfl rfl ?_
          refine G_n rfl rfl ?_
          refine G_n rfl rfl ?_
          refine G_n rfl rfl ?_
          refine G_n rfl rfl ?_
          refine G_q rfl (op_pick_f rfl (av := .exact (.bool false)) rfl ?_)
          refine G_q rfl (op_assign (av := .exact (.bool false)) rfl ?_)
          refine G_nil ?_
          refine kI_normal ⟨_, h, ?_⟩
          exact Sub.of_le (AF.le_put (AV.le_eq rfl) (AF.le_top _))
      · replace h := ite_f h hc
        refine G_n rfl rfl ?_
        refine G_n rfl rfl ?_
        refine G_q rfl (op_pick_f rfl (av := .exact (.bool false)) rfl ?_)
        refine G_q rfl (op_move (av := .exact (.bool false)) rfl ?_)
        refine G_n rfl rfl ?_
        refine G_n rfl rfl ?_
        refine G_n rfl rfl ?_
        refine G_q rfl (op_pick_f rfl (av := .exact (.bool false)) rfl ?_)
        refine G_q rfl (op_move (av := .exact (.bool false)) rfl ?_)
        refine G_n rfl rfl ?_
        refine G_n rfl rfl ?_
        refine G_n rfl rfl ?_
        refine G_n rfl rfl ?_
        refine G_n rfl rfl ?_
        refine G_q rfl (op_pick_f rfl (av := .exact (.bool false)) rfl ?_)
        refine G_q rfl (op_assign (av := .exact (.bool false)) rfl ?_)
        refine G_nil ?_
        refine kI_normal ⟨_, h, ?_⟩
        exact Sub.of_le (AF.le_put (AV.le_eq rfl) (AF.le_top _))
    · replace h := ite_f h hc
      refine G_n rfl rfl ?_
      refine G_n rfl rfl ?_
      refine G_n rfl rfl ?_
      refine G_n rfl rfl ?_
      refine G_q rfl (op_pick_f rfl (av := .exact (.bool false)) rfl ?_)
      refine G_q rfl (op_move (av := .exact (.bool false)) rfl ?_)
      refine G_n rfl rfl ?_
      refine G_n rfl rfl ?_
      refine G_q rfl (op_pick_f rfl (av := .exact (.bool false)) rfl ?_)
      refine G_q rfl (op_move (av := .exact (.bool false)) rfl ?_)
      refine G_n rfl rfl ?_
      refine G_n rfl rfl ?_
      refine G_n rfl rfl ?_
      refine G_q rfl (op_pick_f rfl (av := .exact (.bool false)) rfl ?_)
      refine G_q rfl (op_move (av := .exact (.bool false)) rfl ?_)
      refine G_n rfl rfl ?_
      refine G_n rfl rfl ?_
      refine G_n rfl rfl ?_
      refine G_n rfl rfl ?_
      refine G_n rfl rfl ?_
      refine G_q rfl (op_pick_f rfl (av := .exact (.bool false)) rfl ?_)
      refine G_q rfl (op_assign (av := .exact (.bool false)) rfl ?_)
      refine G_nil ?_
      refine kI_normal ⟨_, h, ?_⟩
      exact Sub.of_le (AF.le_put (AV.le_eq rfl) (AF.le_top _))
  · refine k_ret ?_
    obtain rfl := Option.some.inj h
    refine kP_any (endN (af' := (AF.put AF0 (some 0) (.exact (.bool x0_j2)))) (σ' := []) _ rfl ?_ ⟨rfl, rfl⟩)
    exact Sub.of_le (AF.le_put (AV.le_eq rfl) (AF.le_top _))
end Go.Proofs.Ytkbbeeeoogjknaa
/- The functions compute their models, by program. -/
namespace Go.Proofs.Ytkbbeeeoogjknaa
open Go.RowKit
attribute [local irreducible] AV.exact AV.top AV.row AV.ptr AV.agg AV.tup AV.eptr AV.fn AV.nilq AV.nilqn opA opB opM opR Quiet Loud Reads wpG awp den Sub SubU Pure Fun vecI vecT boxI CellsAll CellsOf OneC LEs LEss
set_option maxRecDepth 100000

set_option maxHeartbeats 4000000 in
theorem m_law15_AlphabetOrders_ok (a0 : List (Int × Int)) (a1 : List Int) (a2 : List Int) (r : Bool) (h : m_law15_AlphabetOrders a0 a1 a2 = some r) : Pure Try.prog 3 [(.row 2 c_api_Above a0), (.row 1 c_int a1), (.row 1 c_int a2)] (.exact (.bool r)) := by
  unfold m_law15_AlphabetOrders at h
  refine Pure.ofFun (fun_of_awp Try.func3 rfl Try.ntmps3 (by simp) rfl (res1 rfl) fun E hE => k_end ?_)
  refine k_seq ?_
  refine k_reg .free hmixP (by kernel_rfl) ?_
  refine G_q rfl (op_assign (av := .exact (.bool false)) rfl ?_)
  refine G_nil ?_
  refine kC_normal ?_
  refine k_seq ?_
  refine k_reg .free hmixP (by kernel_rfl) ?_
  refine G_q rfl (op_move (av := .row 1 c_int a2) rfl ?_)
  obtain ⟨y1, hy1, h⟩ := bnd1_some h
  refine G_l rfl (op_fun_0_1_1 (m_gen_New_ok _ _ hy1) Try.func10 (by kernel_rfl) (LEs.cons (AV.le_eq rfl) LEs.nil) (fun b2 => ?_))
  refine G_q rfl (op_assign (av := pA b2 0) rfl ?_)
  refine G_nil ?_
  refine kC_normal ?_
  refine k_seq ?_
  refine k_reg .free hmixP (by kernel_rfl) ?_
  refine G_q rfl (op_assign (av := .exact (.slice none 0 0)) rfl ?_)
  refine G_nil ?_
  refine kC_normal ?_
  refine k_join3_1 h (fun (x7_0_j3 : List Int) (x7_1_j3 : Int) (x8_j3 : List (Int × Int)) (v8_j3 : Value) => (AF.put (AF.put (AF.put (AF.put AF0 (some 0) (.row 2 c_api_Above a0)) (some 1) (.row 1 c_int a1)) (some 7) (pA b2 0)) (some 8) (.exact v8_j3))) (fun (x7_0_j3 : List Int) (x7_1_j3 : Int) (x8_j3 : List (Int × Int)) (v8_j3 : Value) => [boxI 58 b2 [.row 1 c_int x7_0_j3, .exact (.int .i64 x7_1_j3)], vecT Try.prog 22 2 c_api_Above v8_j3 x8_j3]) (fun k3 h => ?_) (fun x7_0_j3 x7_1_j3 x8_j3 v8_j3 h => ?_)
  · refine k_seq ?_
    refine k_reg .free hmixP (by kernel_rfl) ?_
    refine G_q rfl (op_move (av := pA b2 0) rfl ?_)
    obtain ⟨y18, hy18, h⟩ := bnd1_some h
    refine G_l rfl (op_fun_1_0_1 (m_gen_Choices_Next_ok _ _ _ hy18) Try.func11 (by kernel_rfl) (LEs.cons (AV.le_eq rfl) (LEs.cons (AV.le_eq rfl) LEs.nil)) ?_)
    refine G_q rfl (op_assign (av := .exact (.int .i64 y18.1)) rfl ?_)
    refine G_nil ?_
    refine kC_normal ?_
    refine k_block ?_
    refine k_loop4_1 (m_law15_AlphabetOrders_L2 k3) (m_law15_AlphabetOrders_B2 k3) (fun _ _ _ _ => rfl) (fun m _ _ _ _ => rfl) h (fun (x7_0_l2 : List Int) (x7_1_l2 : Int) (x8_l2 : List (Int × Int)) (x9_l2 : Int) (v8_l2 : Value) => (AF.put (AF.put (AF.put (AF.put (AF.put AF0 (some 0) (.row 2 c_api_Above a0)) (some 1) (.row 1 c_int a1)) (some 7) (pA b2 0)) (some 8) (.exact v8_l2)) (some 9) (.exact (.int .i64 x9_l2)))) (fun (x7_0_l2 : List Int) (x7_1_l2 : Int) (x8_l2 : List (Int × Int)) (x9_l2 : Int) (v8_l2 : Value) => [boxI 58 b2 [.row 1 c_int x7_0_l2, .exact (.int .i64 x7_1_l2)], vecT Try.prog 22 2 c_api_Above v8_l2 x8_l2]) (.slice none 0 0) ?_ (fun rec2 x7_0_l2 x7_1_l2 x8_l2 x9_l2 v8_l2 h => ?_)
    · refine Sub.trans (SubU.to (SubU.nilT (P := Try.prog) (t := 22) (n := 2) (enc := c_api_Above))) ?_
      refine Sub.trans (SubU.to SubU.f1) ?_
      exact Sub.of_le (AF.le_put (AV.le_eq rfl) (AF.le_put (AV.le_eq rfl) (AF.le_put (AV.le_eq rfl) (AF.le_put (AV.le_eq rfl) (AF.le_put (AV.le_eq rfl) (AF.le_top _))))))
    · unfold m_law15_AlphabetOrders_B2 at h
      refine k_seq ?_
      refine k_seq ?_
      refine k_reg .free hmixP (by kernel_rfl) ?_
      refine G_q rfl (op_move (av := .exact (.int .i64 x9_l2)) rfl ?_)
      refine G_q rfl (op_gtr rfl rfl ?_)
      refine G_nil ?_
      refine kC_normal ?_
      refine k_cond_d (p := 0 < x9_l2) rfl (fun hc => ?_) (fun hc => ?_)
      · replace h := ite_t h hc
        refine k_skip ?_
        refine kC_normal ?_
        refine k_seq ?_
        refine k_block ?_
        refine k_reg .free hmixP (by kernel_rfl) ?_
        refine G_q rfl (op_move (av := .exact v8_l2) rfl ?_)
        refine G_q rfl (op_move (av := pA b2 0) rfl ?_)
        obtain ⟨y27, hy27, h⟩ := bnd1_some h
        refine G_l rfl (op_fun_1_0_1 (m_gen_Choices_Event_ok _ _ hy27) Try.func12 (by kernel_rfl) (LEs.cons (AV.le_eq rfl) LEs.nil) ?_)
        refine G_q rfl (op_move (av := pA b2 0) rfl ?_)
        obtain ⟨y28, hy28, h⟩ := bnd1_some h
        refine G_l rfl (op_fun_1_0_1 (m_gen_Choices_Event_ok _ _ hy28) Try.func12 (by kernel_rfl) (LEs.cons (AV.le_eq rfl) LEs.nil) ?_)
        refine G_q rfl (op_bld (c' := c_api_Above (y27.1, y28.1)) (CellsAll.cons rfl CellsOf.int (CellsAll.cons rfl CellsOf.int CellsAll.nil)) rfl (LEs.cons (AV.le_eq rfl) (LEs.cons (AV.le_eq rfl) LEs.nil)) ?_)
        refine G_q rfl (op_litT (n := 2) (enc := c_api_Above) [(y27.1, y28.1)] (CellsAll.cons rfl CellsOf.agg CellsAll.nil) rfl (by kernel_rfl) (LEss.cons (LEs.cons (AV.le_eq rfl) (LEs.cons (AV.le_eq rfl) LEs.nil)) LEss.nil) ?_)
        obtain ⟨n29, h⟩ := need_some h
        refine G_l rfl (opB_f1 (op_appT (by kernel_rfl) rfl rfl oc_c_api_Above n29 (fun v30 => ?_)))
        refine G_q rfl (op_assign (av := .exact v30) rfl ?_)
        refine G_nil ?_
        refine kB_normal ?_
        refine kC_normal ?_
        refine k_reg .free hmixP (by kernel_rfl) ?_
        refine G_q rfl (op_move (av := .exact (.int .i64 x9_l2)) rfl ?_)
        refine G_q rfl (op_sub rfl rfl rfl ?_)
        refine G_q rfl (op_assign (av := .exact (.int .i64 (i64 (x9_l2 - 1)))) rfl ?_)
        refine G_nil ?_
        refine kI_normal ⟨_, _, _, _, v30, h, ?_⟩
        refine Sub.trans (SubU.to SubU.f1) ?_
        exact Sub.of_le (AF.le_put (AV.le_eq rfl) (AF.le_put (AV.le_eq rfl) (AF.le_put (AV.le_eq rfl) (AF.le_put (AV.le_eq rfl) (AF.le_put (AV.le_eq rfl) (AF.le_top _))))))
      · replace h := ite_f h hc
        refine k_exit ?_
        refine kC_exit ?_
        refine kI_exit ?_
        refine kB_exit ?_
        refine kI_normal ⟨_, _, _, v8_l2, h, ?_⟩
        exact Sub.of_le (AF.le_put (AV.le_eq rfl) (AF.le_put (AV.le_eq rfl) (AF.le_put (AV.le_eq rfl) (AF.le_put (AV.le_eq rfl) (AF.le_top _)))))
  · refine k_join0_0 h (AF0) ([]) (fun k31 h => ?_) (fun  h => ?_)
    · refine k_seq ?_
      refine k_reg .free hmixP (by kernel_rfl) ?_
      refine G_q rfl (op_assign (av := .exact (.int .i64 0)) rfl ?_)
      refine G_nil ?_
      refine kC_normal ?_
      refine k_block ?_
      refine k_loop6_0 (m_law15_AlphabetOrders_L4 k31) (m_law15_AlphabetOrders_B4 k31) (fun _ _ _ _ _ _ => rfl) (fun m _ _ _ _ _ _ => rfl) h (fun (x0_l4 : List (Int × Int)) (x1_l4 : List Int) (x7_0_l4 : List Int) (x7_1_l4 : Int) (x8_l4 : List (Int × Int)) (x10_l4 : Int) => (AF.put (AF.put (AF.put (AF.put (AF.put AF0 (some 0) (.row 2 c_api_Above x0_l4)) (some 1) (.row 1 c_int x1_l4)) (some 7) (pA b2 0)) (some 8) (.row 2 c_api_Above x8_l4)) (some 10) (.exact (.int .i64 x10_l4)))) (fun (x0_l4 : List (Int × Int)) (x1_l4 : List Int) (x7_0_l4 : List Int) (x7_1_l4 : Int) (x8_l4 : List (Int × Int)) (x10_l4 : Int) => [boxI 58 b2 [.row 1 c_int x7_0_l4, .exact (.int .i64 x7_1_l4)]]) ?_ (fun rec4 x0_l4 x1_l4 x7_0_l4 x7_1_l4 x8_l4 x10_l4 h => ?_)
      · refine Sub.trans (SubU.to SubU.f1) ?_
        refine Sub.trans (SubU.to (SubU.freezeT (s := 8) rfl len_c_api_Above)) ?_
        exact Sub.of_le (AF.le_put (AV.le_eq rfl) (AF.le_put (AV.le_eq rfl) (AF.le_put (AV.le_eq rfl) (AF.le_put (AV.le_eq rfl) (AF.le_put (AV.le_eq rfl) (AF.le_top _))))))
      · unfold m_law15_AlphabetOrders_B4 at h
        refine k_seq ?_
        refine k_seq ?_
        refine k_reg .free hmixP (by kernel_rfl) ?_
        refine G_q rfl (op_move (av := .exact (.int .i64 x10_l4)) rfl ?_)
        refine G_q rfl (op_lss rfl rfl ?_)
        refine G_nil ?_
        refine kC_normal ?_
        refine k_cond_d (p := x10_l4 < 3) rfl (fun hc => ?_) (fun hc => ?_)
        · replace h := ite_t h hc
          refine k_skip ?_
          refine kC_normal ?_
          refine k_seq ?_
          refine k_block ?_
          refine k_seq ?_
          refine k_reg .free hmixP (by kernel_rfl) ?_
          refine G_q rfl (op_move (av := .row 2 c_api_Above x0_l4) rfl ?_)
          obtain ⟨y402, hy402, h⟩ := bnd1_some h
          refine G_q rfl (op_pure (m_close_ok _ _ hy402) Try.func13 (by kernel_rfl) (LEs.cons (AV.le_eq rfl) LEs.nil) ?_)
          refine G_q rfl (op_move (av := .tup [.row 2 c_api_Above y402.1, .exact (.int .i64 y402.2)]) rfl ?_)
          refine G_q rfl (op_extract (av := .row 2 c_api_Above y402.1) rfl rfl ?_)
          refine G_q rfl (op_extract (av := .exact (.int .i64 y402.2)) rfl rfl ?_)
          refine G_q rfl (op_assign (av := .row 2 c_api_Above y402.1) rfl ?_)
          refine G_q rfl (op_assign (av := .exact (.int .i64 y402.2)) rfl ?_)
          refine G_nil ?_
          refine kC_normal ?_
          refine k_seq ?_
          refine k_reg .free hmixP (by kernel_rfl) ?_
          refine G_q rfl (op_move (av := .row 2 c_api_Above x0_l4) rfl ?_)
          obtain ⟨y403, hy403, h⟩ := bnd1_some h
          refine G_q rfl (op_pure (m_rclose_ok _ _ hy403) Try.func14 (by kernel_rfl) (LEs.cons (AV.le_eq rfl) LEs.nil) ?_)
          refine G_q rfl (op_move (av := .tup [.row 2 c_api_Above y403.1, .exact (.int .i64 y403.2)]) rfl ?_)
          refine G_q rfl (op_extract (av := .row 2 c_api_Above y403.1) rfl rfl ?_)
          refine G_q rfl (op_extract (av := .exact (.int .i64 y403.2)) rfl rfl ?_)
          refine G_q rfl (op_assign (av := .row 2 c_api_Above y403.1) rfl ?_)
          refine G_q rfl (op_assign (av := .exact (.int .i64 y403.2)) rfl ?_)
          refine G_nil ?_
          refine kC_normal ?_
          refine k_seq ?_
          refine k_join1_0 h (fun (x70_j418 : Bool) => (AF.put (AF.put (AF.put (AF.put (AF.put AF0 (some 1) (.row 1 c_int x1_l4)) (some 7) (pA b2 0)) (some 8) (.row 2 c_api_Above x8_l4)) (some 10) (.exact (.int .i64 x10_l4))) (some 70) (.exact (.bool x70_j418)))) (fun (x70_j418 : Bool) => [boxI 58 b2 [.row 1 c_int x7_0_l4, .exact (.int .i64 x7_1_l4)]]) (fun k418 h => ?_) (fun x70_j418 h => ?_)
          · refine k_reg .free hmixP (by kernel_rfl) ?_
            refine G_q rfl (op_move (av := .row 2 c_api_Above y402.1) rfl ?_)
            refine G_q rfl (op_move (av := .row 2 c_api_Above y403.1) rfl ?_)
            obtain ⟨y425, hy425, h⟩ := bnd1_some h
            refine G_q rfl (op_pure (m_help_Equal_api_Above_ok _ _ _ hy425) Try.func15 (by kernel_rfl) (LEs.cons (AV.le_eq rfl) (LEs.cons (AV.le_eq rfl) LEs.nil)) ?_)
            refine G_q rfl (op_not rfl ?_)
            refine G_q rfl (op_move (av := .exact (.bool (!y425))) rfl ?_)
            refine G_splitB (c := !y425) 49 rfl (fun hc => ?_) (fun hc => ?_)
            · replace h := ite_t h hc
              refine G_n rfl rfl ?_
              refine G_n rfl rfl ?_
              refine G_n rfl rfl ?_
              refine G_q rfl (op_pick_t rfl (av := .exact (.bool true)) rfl ?_)
              refine G_q rfl (op_move (av := .exact (.bool true)) rfl ?_)
              refine G_n rfl rfl ?_
              refine G_n rfl rfl ?_
              refine G_n rfl rfl ?_
              refine G_n rfl rfl ?_
              refine G_n rfl rfl ?_
              refine G_q rfl (op_pick_t rfl (av := .exact (.bool true)) rfl ?_)
              refine G_q rfl (op_move (av := .exact (.bool true)) rfl ?_)
              refine G_n rfl rfl ?_
              refine G_n rfl rfl ?_
              refine G_n rfl rfl ?_
              refine G_n rfl rfl ?_
              refine G_n rfl rfl ?_
              refine G_n rfl rfl ?_
              refine G_n rfl rfl ?_
              refine G_n rfl rfl ?_
              refine G_q rfl (op_pick_t rfl (av := .exact (.bool true)) rfl ?_)
              refine G_nil ?_
              refine kI_normal ⟨_, h, ?_⟩
              exact Sub.of_le (AF.le_put (AV.le_eq rfl) (AF.le_put (AV.le_eq rfl) (AF.le_put (AV.le_eq rfl) (AF.le_put (AV.le_eq rfl) (AF.le_put (AV.le_eq rfl) (AF.le_top _))))))
            · replace h := ite_f h hc
              refine Gy_q rfl rfl rfl (op_move (av := .exact (.int .i64 y402.2)) rfl ?_)
              refine Gy_q rfl rfl rfl (op_move (av := .exact (.int .i64 y403.2)) rfl ?_)
              refine Gy_q rfl rfl rfl (op_neq rfl rfl ?_)
              refine G_q rfl (op_pick_f rfl (av := .exact (.bool (decide (¬ y402.2 = y403.2)))) rfl ?_)
              refine G_q rfl (op_move (av := .exact (.bool (decide (¬ y402.2 = y403.2)))) rfl ?_)
              refine G_split (p := ¬ y402.2 = y403.2) 54 rfl (fun hc => ?_) (fun hc => ?_)
              · replace h := ite_t h hc
                refine G_n rfl rfl ?_
                refine G_n rfl rfl ?_
                refine G_n rfl rfl ?_
                refine G_n rfl rfl ?_
                refine G_n rfl rfl ?_
                refine G_q rfl (op_pick_t rfl (av := .exact (.bool true)) rfl ?_)
                refine G_q rfl (op_move (av := .exact (.bool true)) rfl ?_)
                refine G_n rfl rfl ?_
                refine G_n rfl rfl ?_
                refine G_n rfl rfl ?_
                refine G_n rfl rfl ?_
                refine G_n rfl rfl ?_
                refine G_n rfl rfl ?_
                refine G_n rfl rfl ?_
                refine G_n rfl rfl ?_
                refine G_q rfl (op_pick_t rfl (av := .exact (.bool true)) rfl ?_)
                refine G_nil ?_
                refine kI_normal ⟨_, h, ?_⟩
                exact Sub.of_le (AF.le_put (AV.le_eq rfl) (AF.le_put (AV.le_eq rfl) (AF.le_put (AV.le_eq rfl) (AF.le_put (AV.le_eq rfl) (AF.le_put (AV.le_eq rfl) (AF.le_top _))))))
              · replace h := ite_f h hc
                refine Gy_q rfl rfl rfl (op_move (av := .row 2 c_api_Above x0_l4) rfl ?_)
                obtain ⟨y426, hy426, h⟩ := bnd1_some h
                refine Gy_q rfl rfl rfl (op_pure (m_alphabet_ValidOrder_ok _ _ hy426) Try.func16 (by kernel_rfl) (LEs.cons (AV.le_eq rfl) LEs.nil) ?_)
                refine Gy_q rfl rfl rfl (op_move (av := .row 2 c_api_Above x0_l4) rfl ?_)
                obtain ⟨y427, hy427, h⟩ := bnd1_some h
                refine Gy_q rfl rfl rfl (op_pure (m_ref16_ValidOrder_ok _ _ hy427) Try.func17 (by kernel_rfl) (LEs.cons (AV.le_eq rfl) LEs.nil) ?_)
                refine Gy_q rfl rfl rfl (op_neqB (a := y426) (b := y427) (by kernel_rfl) rfl rfl ?_)
                refine G_q rfl (op_pick_f rfl (av := .exact (.bool (decide (¬ y426 = y427)))) rfl ?_)
                refine G_q rfl (op_move (av := .exact (.bool (decide (¬ y426 = y427)))) rfl ?_)
                refine G_split (p := ¬ y426 = y427) 61 rfl (fun hc => ?_) (fun hc => ?_)
                · replace h := ite_t h hc
                  refine G_n rfl rfl ?_
                  refine G_n rfl rfl ?_
                  refine G_n rfl rfl ?_
                  refine G_n rfl rfl ?_
                  refine G_n rfl rfl ?_
                  refine G_n rfl rfl ?_
                  refine G_n rfl rfl ?_
                  refine G_n rfl rfl ?_
                  refine G_q rfl (op_pick_t rfl (av := .exact (.bool true)) rfl ?_)
                  refine G_nil ?_
                  refine kI_normal ⟨_, h, ?_⟩
                  exact Sub.of_le (AF.le_put (AV.le_eq rfl) (AF.le_put (AV.le_eq rfl) (AF.le_put (AV.le_eq rfl) (AF.le_put (AV.le_eq rfl) (AF.le_put (AV.le_eq rfl) (AF.le_top _))))))
                · replace h := ite_f h hc
                  refine Gy_q rfl rfl rfl (op_move (av := .row 2 c_api_Above x0_l4) rfl ?_)
                  refine Gy_q rfl rfl rfl (op_move (av := .row 1 c_int x1_l4) rfl ?_)
                  obtain ⟨y428, hy428, h⟩ := bnd1_some h
                  refine Gy_q rfl rfl rfl (op_pure (m_alphabet_Keep_ok _ _ _ hy428) Try.func19 (by kernel_rfl) (LEs.cons (AV.le_eq rfl) (LEs.cons (AV.le_eq rfl) LEs.nil)) ?_)
                  refine Gy_q rfl rfl rfl (op_move (av := .row 2 c_api_Above x0_l4) rfl ?_)
                  refine Gy_q rfl rfl rfl (op_move (av := .row 1 c_int x1_l4) rfl ?_)
                  obtain ⟨y429, hy429, h⟩ := bnd1_some h
                  refine Gy_q rfl rfl rfl (op_pure (m_ref16_Keep_ok _ _ _ hy429) Try.func20 (by kernel_rfl) (LEs.cons (AV.le_eq rfl) (LEs.cons (AV.le_eq rfl) LEs.nil)) ?_)
                  obtain ⟨y430, hy430, h⟩ := bnd1_some h
                  refine Gy_q rfl rfl rfl (op_pure (m_help_Equal_int_ok _ _ _ hy430) Try.func18 (by kernel_rfl) (LEs.cons (AV.le_eq rfl) (LEs.cons (AV.le_eq rfl) LEs.nil)) ?_)
                  refine Gy_q rfl rfl rfl (op_not rfl ?_)
                  refine G_q rfl (op_pick_f rfl (av := .exact (.bool (!y430))) rfl ?_)
                  refine G_nil ?_
                  refine kI_normal ⟨_, h, ?_⟩
                  exact Sub.of_le (AF.le_put (AV.le_eq rfl) (AF.le_put (AV.le_eq rfl) (AF.le_put (AV.le_eq rfl) (AF.le_put (AV.le_eq rfl) (AF.le_put (AV.le_eq rfl) (AF.le_top _))))))
          · refine k_cond_b (c := x70_j418) rfl (fun hc => ?_) (fun hc => ?_)
            · replace h := ite_t h hc
              refine k_seq ?_
              refine k_reg .free hmixP (by kernel_rfl) ?_
              refine G_q rfl (op_assign (av := .exact (.bool false)) rfl ?_)
              refine G_nil ?_
              refine kC_normal ?_
              refine k_ret ?_
              refine kC_ret ?_
              refine kB_ret ?_
              refine kC_ret ?_
              refine kI_ret ?_
              refine kB_ret ?_
              refine kI_ret ?_
              obtain rfl := Option.some.inj h
              refine kP_any (endN (af' := (AF.put AF0 (some 6) (.exact (.bool false)))) (σ' := []) _ rfl ?_ ⟨rfl, rfl⟩)
              refine Sub.trans (SubU.to SubU.drop) ?_
              exact Sub.of_le (AF.le_put (AV.le_eq rfl) (AF.le_top _))
            · replace h := ite_f h hc
              refine k_skip ?_
              refine kC_normal ?_
              refine k_join3_0 h (fun (x0_j431 : List (Int × Int)) (x7_0_j431 : List Int) (x7_1_j431 : Int) => (AF.put (AF.put (AF.put (AF.put (AF.put AF0 (some 0) (.row 2 c_api_Above x0_j431)) (some 1) (.row 1 c_int x1_l4)) (some 7) (pA b2 0)) (some 8) (.row 2 c_api_Above x8_l4)) (some 10) (.exact (.int .i64 x10_l4)))) (fun (x0_j431 : List (Int × Int)) (x7_0_j431 : List Int) (x7_1_j431 : Int) => [boxI 58 b2 [.row 1 c_int x7_0_j431, .exact (.int .i64 x7_1_j431)]]) (fun k431 h => ?_) (fun x0_j431 x7_0_j431 x7_1_j431 h => ?_)
              · refine k_seq ?_
                refine k_reg .free hmixP (by kernel_rfl) ?_
                refine G_q rfl (op_move (av := .exact (.int .i64 x10_l4)) rfl ?_)
                refine G_q rfl (op_eql rfl rfl ?_)
                refine G_nil ?_
                refine kC_normal ?_
                refine k_cond_d (p := x10_l4 = 0) rfl (fun hc => ?_) (fun hc => ?_)
                · replace h := ite_t h hc
                  refine k_reg .free hmixP (by kernel_rfl) ?_
                  refine G_q rfl (op_move (av := .row 2 c_api_Above x8_l4) rfl ?_)
                  refine G_q rfl (op_assign (av := .row 2 c_api_Above x8_l4) rfl ?_)
                  refine G_nil ?_
                  refine kI_normal ⟨_, _, _, h, ?_⟩
                  exact Sub.of_le (AF.le_put (AV.le_eq rfl) (AF.le_put (AV.le_eq rfl) (AF.le_put (AV.le_eq rfl) (AF.le_put (AV.le_eq rfl) (AF.le_put (AV.le_eq rfl) (AF.le_top _))))))
                · replace h := ite_f h hc
                  refine k_reg .free hmixP (by kernel_rfl) ?_
                  refine G_q rfl (op_move (av := pA b2 0) rfl ?_)
                  obtain ⟨y433, hy433, h⟩ := bnd1_some h
                  refine G_l rfl (op_fun_1_0_1 (m_gen_Choices_Order_ok _ _ hy433) Try.func21 (by kernel_rfl) (LEs.cons (AV.le_eq rfl) LEs.nil) ?_)
                  refine G_q rfl (op_assign (av := .row 2 c_api_Above y433.1) rfl ?_)
                  refine G_nil ?_
                  refine kI_normal ⟨_, _, _, h, ?_⟩
                  exact Sub.of_le (AF.le_put (AV.le_eq rfl) (AF.le_put (AV.le_eq rfl) (AF.le_put (AV.le_eq rfl) (AF.le_put (AV.le_eq rfl) (AF.le_put (AV.le_eq rfl) (AF.le_top _))))))
              · refine k_reg .free hmixP (by kernel_rfl) ?_
                refine G_q rfl (op_move (av := .row 1 c_int x1_l4) rfl ?_)
                obtain ⟨y434, hy434, h⟩ := bnd1_some h
                refine G_q rfl (op_pure (m_law15_near_ok _ _ hy434) Try.func22 (by kernel_rfl) (LEs.cons (AV.le_eq rfl) LEs.nil) ?_)
                refine G_q rfl (op_assign (av := .row 1 c_int y434) rfl ?_)
                refine G_nil ?_
                refine kB_normal ?_
                refine kC_normal ?_
                refine k_reg .free hmixP (by kernel_rfl) ?_
                refine G_q rfl (op_move (av := .exact (.int .i64 x10_l4)) rfl ?_)
                refine G_q rfl (op_add rfl rfl rfl ?_)
                refine G_q rfl (op_assign (av := .exact (.int .i64 (i64 (x10_l4 + 1)))) rfl ?_)
                refine G_nil ?_
                refine kI_normal ⟨_, _, _, _, _, _, h, ?_⟩
                exact Sub.of_le (AF.le_put (AV.le_eq rfl) (AF.le_put (AV.le_eq rfl) (AF.le_put (AV.le_eq rfl) (AF.le_put (AV.le_eq rfl) (AF.le_put (AV.le_eq rfl) (AF.le_top _))))))
        · replace h := ite_f h hc
          refine k_exit ?_
          refine kC_exit ?_
          refine kI_exit ?_
          refine kB_exit ?_
          refine kI_normal ⟨h, ?_⟩
          refine Sub.trans (SubU.to SubU.drop) ?_
          exact Sub.of_le (AF.le_top _)
    · refine k_seq ?_
      refine k_reg .free hmixP (by kernel_rfl) ?_
      obtain ⟨y435, hy435, h⟩ := bnd1_some h
      refine G_q rfl (op_pure (m_law15_awake_ok _ hy435) Try.func23 (by kernel_rfl) LEs.nil ?_)
      refine G_q rfl (op_assign (av := .exact (.bool y435)) rfl ?_)
      refine G_nil ?_
      refine kC_normal ?_
      refine k_ret ?_
      obtain rfl := Option.some.inj h
      refine kP_any (endN (af' := (AF.put AF0 (some 6) (.exact (.bool y435)))) (σ' := []) _ rfl ?_ ⟨rfl, rfl⟩)
      exact Sub.of_le (AF.le_put (AV.le_eq rfl) (AF.le_top _))
end Go.Proofs.Ytkbbeeeoogjknaa
/- The functions compute their models, by program. -/
namespace Go.Proofs.Ytkbbeeeoogjknaa
open Go.RowKit
attribute [local irreducible] AV.exact AV.top AV.row AV.ptr AV.agg AV.tup AV.eptr AV.fn AV.nilq AV.nilqn opA opB opM opR Quiet Loud Reads wpG awp den Sub SubU Pure Fun vecI vecT boxI CellsAll CellsOf OneC LEs LEss
set_option maxRecDepth 100000

end Go.Proofs.Ytkbbeeeoogjknaa
/- The functions compute their models, by program. -/
namespace Go.Proofs.Ytkbbeeeoogjknaa
open Go.RowKit
attribute [local irreducible] AV.exact AV.top AV.row AV.ptr AV.agg AV.tup AV.eptr AV.fn AV.nilq AV.nilqn opA opB opM opR Quiet Loud Reads wpG awp den Sub SubU Pure Fun vecI vecT boxI CellsAll CellsOf OneC LEs LEss
set_option maxRecDepth 100000

end Go.Proofs.Ytkbbeeeoogjknaa
/- The functions compute their models, by program. -/
namespace Go.Proofs.Ytkbbeeeoogjknaa
open Go.RowKit
attribute [local irreducible] AV.exact AV.top AV.row AV.ptr AV.agg AV.tup AV.eptr AV.fn AV.nilq AV.nilqn opA opB opM opR Quiet Loud Reads wpG awp den Sub SubU Pure Fun vecI vecT boxI CellsAll CellsOf OneC LEs LEss
set_option maxRecDepth 100000

end Go.Proofs.Ytkbbeeeoogjknaa
