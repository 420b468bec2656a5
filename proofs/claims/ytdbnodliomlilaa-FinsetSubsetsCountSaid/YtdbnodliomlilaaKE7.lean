/- The functions compute their models, by program. -/
import Derived.Test.YtdbnodliomlilaaKE6
namespace Go.Proofs.Ytdbnodliomlilaa
open Go.RowKit
attribute [local irreducible] AV.exact AV.top AV.row AV.ptr AV.agg AV.tup AV.eptr AV.fn AV.nilq AV.nilqn opA opB opM opR Quiet Loud Reads wpG awp den Sub SubU Pure Fun vecI vecT boxI CellsAll CellsOf OneC LEs LEss
set_option maxRecDepth 100000

set_option maxHeartbeats 4000000 in
theorem m_finset_Subsets_ok (a0 : List UInt8) (r : (List UInt8) × Int) (h : m_finset_Subsets a0 = some r) : Pure Try.prog 13 [(.exact (.string (bs a0)))] (.tup [.exact (.string (bs r.1)), .exact (.int .i64 r.2)]) := by
  unfold m_finset_Subsets at h
  refine Pure.ofFun (fun_of_awp Try.func13 rfl Try.ntmps13 (by simp) rfl (res2 rfl) fun E hE => k_end ?_)
  refine k_seq ?_
  refine k_reg .free hmixP (by kernel_rfl) ?_
  refine G_q rfl (op_assign (av := .exact (.string (bs ([] : List UInt8)))) rfl ?_)
  refine G_q rfl (op_assign (av := .exact (.int .i64 0)) rfl ?_)
  refine G_nil ?_
  refine kC_normal ?_
  refine k_seq ?_
  refine k_reg .free hmixP (by kernel_rfl) ?_
  refine G_q rfl (op_move (av := .exact (.string (bs a0))) rfl ?_)
  refine G_q rfl (op_litT (n := 1) (enc := c_api_Value) [a0] (CellsAll.cons rfl CellsOf.str CellsAll.nil) rfl (by kernel_rfl) (LEss.cons (LEs.cons (AV.le_eq rfl) LEs.nil) LEss.nil) ?_)
  obtain ⟨y1, hy1, h⟩ := bnd1_some h
  refine G_q rfl (op_pure (m_finset_elements_ok _ _ hy1) Try.func28 (by kernel_rfl) (LEs.cons (AV.le_eq rfl) LEs.nil) ?_)
  refine G_q rfl (op_move (av := .tup [.row 1 c_L_api_Value y1.1, .exact (.int .i64 y1.2)]) rfl ?_)
  refine G_q rfl (op_extract (av := .row 1 c_L_api_Value y1.1) rfl rfl ?_)
  refine G_q rfl (op_extract (av := .exact (.int .i64 y1.2)) rfl rfl ?_)
  refine G_q rfl (op_assign (av := .row 1 c_L_api_Value y1.1) rfl ?_)
  refine G_q rfl (op_assign (av := .exact (.int .i64 y1.2)) rfl ?_)
  refine G_nil ?_
  refine kC_normal ?_
  refine k_seq ?_
  refine k_seq ?_
  refine k_reg .free hmixP (by kernel_rfl) ?_
  refine G_q rfl (op_move (av := .exact (.int .i64 y1.2)) rfl ?_)
  refine G_q rfl (op_neq rfl rfl ?_)
  refine G_nil ?_
  refine kC_normal ?_
  refine k_cond_d (p := ¬ y1.2 = 0) rfl (fun hc => ?_) (fun hc => ?_)
  · replace h := ite_t h hc
    refine k_seq ?_
    refine k_reg .free hmixP (by kernel_rfl) ?_
    refine G_q rfl (op_move (av := .exact (.int .i64 y1.2)) rfl ?_)
    refine G_q rfl (op_assign (av := .exact (.string (bs ([] : List UInt8)))) rfl ?_)
    refine G_q rfl (op_assign (av := .exact (.int .i64 y1.2)) rfl ?_)
    refine G_nil ?_
    refine kC_normal ?_
    refine k_ret ?_
    refine kC_ret ?_
    obtain rfl := Option.some.inj h
    refine kP_any (endN (af' := (AF.put (AF.put AF0 (some 2) (.exact (.string (bs ([] : List UInt8))))) (some 3) (.exact (.int .i64 y1.2)))) (σ' := []) _ rfl ?_ ⟨rfl, rfl⟩)
    exact Sub.of_le (AF.le_put (AV.le_eq rfl) (AF.le_put (AV.le_eq rfl) (AF.le_top _)))
  · replace h := ite_f h hc
    refine k_skip ?_
    refine kC_normal ?_
    refine k_seq ?_
    refine k_reg .free hmixP (by kernel_rfl) ?_
    refine G_q rfl (op_move (av := .row 1 c_L_api_Value y1.1) rfl ?_)
    obtain ⟨n2, h⟩ := need_some h
    refine G_q rfl (op_index_row (by kernel_rfl) rfl rfl n2.1 n2.2 ?_)
    refine G_q rfl (op_load1p (a := .row 1 c_api_Value (gi y1.1 0)) (by kernel_rfl) rfl rfl ?_)
    refine G_q rfl (op_len_row (by kernel_rfl) rfl ?_)
    refine G_q rfl (op_assign (av := .exact (.int .i64 (List.length (gi y1.1 0) : Int))) rfl ?_)
    refine G_nil ?_
    refine kC_normal ?_
    refine k_seq ?_
    refine k_join1_0 h (fun (x31_j7 : Bool) => (AF.put (AF.put (AF.put AF0 (some 4) (.row 1 c_L_api_Value y1.1)) (some 6) (.exact (.int .i64 (List.length (gi y1.1 0) : Int)))) (some 31) (.exact (.bool x31_j7)))) (fun (x31_j7 : Bool) => []) (fun k7 h => ?_) (fun x31_j7 h => ?_)
    · refine k_reg .free hmixP (by kernel_rfl) ?_
      refine G_q rfl (op_move (av := .exact (.int .i64 (List.length (gi y1.1 0) : Int))) rfl ?_)
      refine G_q rfl (op_geq rfl rfl ?_)
      refine G_q rfl (op_move (av := .exact (.bool (decide (62 ≤ (List.length (gi y1.1 0) : Int))))) rfl ?_)
      refine G_split (p := 62 ≤ (List.length (gi y1.1 0) : Int)) 27 rfl (fun hc => ?_) (fun hc => ?_)
      · replace h := ite_t h hc
        refine G_n rfl rfl ?_
        refine G_n rfl rfl ?_
        refine G_n rfl rfl ?_
        refine G_q rfl (op_pick_t rfl (av := .exact (.bool true)) rfl ?_)
        refine G_nil ?_
        refine kI_normal ⟨_, h, ?_⟩
        exact Sub.of_le (AF.le_put (AV.le_eq rfl) (AF.le_put (AV.le_eq rfl) (AF.le_put (AV.le_eq rfl) (AF.le_top _))))
      · replace h := ite_f h hc
        refine Gy_q rfl rfl rfl (op_move (av := .exact (.int .i64 (List.length (gi y1.1 0) : Int))) rfl ?_)
        obtain ⟨n9, h⟩ := need_some h
        refine Gy_q rfl rfl rfl (op_shl rfl rfl n9 rfl ?_)
        refine Gy_q rfl rfl rfl (op_gtr rfl rfl ?_)
        refine G_q rfl (op_pick_f rfl (av := .exact (.bool (decide (4096 < (i64 (1 * 2 ^ min (Int.toNat (List.length (gi y1.1 0) : Int)) IntKind.i64.bits)))))) rfl ?_)
        refine G_nil ?_
        refine kI_normal ⟨_, h, ?_⟩
        exact Sub.of_le (AF.le_put (AV.le_eq rfl) (AF.le_put (AV.le_eq rfl) (AF.le_put (AV.le_eq rfl) (AF.le_top _))))
    · refine k_cond_b (c := x31_j7) rfl (fun hc => ?_) (fun hc => ?_)
      · replace h := ite_t h hc
        refine k_seq ?_
        refine k_reg .free hmixP (by kernel_rfl) ?_
        refine G_q rfl (op_assign (av := .exact (.string (bs ([] : List UInt8)))) rfl ?_)
        refine G_q rfl (op_assign (av := .exact (.int .i64 9)) rfl ?_)
        refine G_nil ?_
        refine kC_normal ?_
        refine k_ret ?_
        refine kC_ret ?_
        obtain rfl := Option.some.inj h
        refine kP_any (endN (af' := (AF.put (AF.put AF0 (some 2) (.exact (.string (bs ([] : List UInt8))))) (some 3) (.exact (.int .i64 9)))) (σ' := []) _ rfl ?_ ⟨rfl, rfl⟩)
        exact Sub.of_le (AF.le_put (AV.le_eq rfl) (AF.le_put (AV.le_eq rfl) (AF.le_top _)))
      · replace h := ite_f h hc
        refine k_skip ?_
        refine kC_normal ?_
        refine k_seq ?_
        refine k_reg .free hmixP (by kernel_rfl) ?_
        refine G_q rfl (op_assign (av := .exact (.slice none 0 0)) rfl ?_)
        refine G_nil ?_
        refine kC_normal ?_
        refine k_join1_1 h (fun (x7_j10 : List (List UInt8)) (v7_j10 : Value) => (AF.put AF0 (some 7) (.exact v7_j10))) (fun (x7_j10 : List (List UInt8)) (v7_j10 : Value) => [vecT Try.prog 33 1 c_api_Value v7_j10 x7_j10]) (fun k10 h => ?_) (fun x7_j10 v7_j10 h => ?_)
        · refine k_seq ?_
          refine k_reg .free hmixP (by kernel_rfl) ?_
          refine G_q rfl (op_move (av := .exact (.int .i64 (List.length (gi y1.1 0) : Int))) rfl ?_)
          obtain ⟨n364, h⟩ := need_some h
          refine G_q rfl (op_shl rfl rfl n364 rfl ?_)
          refine G_q rfl (op_move (av := .exact (.int .i64 0)) rfl ?_)
          refine G_nil ?_
          refine kC_normal ?_
          refine k_block ?_
          refine k_loop2_1 (m_finset_Subsets_L14 y1 k10) (m_finset_Subsets_B14 y1 k10) (fun _ _ => rfl) (fun m _ _ => rfl) h (fun (x7_l14 : List (List UInt8)) (x34_l14 : Int) (v7_l14 : Value) => (AF.put (AF.put (AF.put (AF.put AF0 (some 4) (.row 1 c_L_api_Value y1.1)) (some 7) (.exact v7_l14)) (some 33) (.exact (.int .i64 (i64 (1 * 2 ^ min (Int.toNat (List.length (gi y1.1 0) : Int)) IntKind.i64.bits))))) (some 34) (.exact (.int .i64 x34_l14)))) (fun (x7_l14 : List (List UInt8)) (x34_l14 : Int) (v7_l14 : Value) => [vecT Try.prog 33 1 c_api_Value v7_l14 x7_l14]) (.slice none 0 0) ?_ (fun rec14 x7_l14 x34_l14 v7_l14 h => ?_)
          · refine Sub.trans (SubU.to (SubU.nilT (P := Try.prog) (t := 33) (n := 1) (enc := c_api_Value))) ?_
            exact Sub.of_le (AF.le_put (AV.le_eq rfl) (AF.le_put (AV.le_eq rfl) (AF.le_put (AV.le_eq rfl) (AF.le_put (AV.le_eq rfl) (AF.le_top _)))))
          · unfold m_finset_Subsets_B14 at h
            refine k_seq ?_
            refine k_reg .free hmixP (by kernel_rfl) ?_
            refine G_q rfl (op_lss rfl rfl ?_)
            refine G_nil ?_
            refine kC_normal ?_
            refine k_seq ?_
            refine k_cond_d (p := x34_l14 < (i64 (1 * 2 ^ min (Int.toNat (List.length (gi y1.1 0) : Int)) IntKind.i64.bits))) rfl (fun hc => ?_) (fun hc => ?_)
            · replace h := ite_t h hc
              refine k_skip ?_
              refine kC_normal ?_
              refine k_join1_1 h (fun (x7_j599 : List (List UInt8)) (v7_j599 : Value) => (AF.put (AF.put (AF.put (AF.put AF0 (some 4) (.row 1 c_L_api_Value y1.1)) (some 7) (.exact v7_j599)) (some 33) (.exact (.int .i64 (i64 (1 * 2 ^ min (Int.toNat (List.length (gi y1.1 0) : Int)) IntKind.i64.bits))))) (some 34) (.exact (.int .i64 x34_l14)))) (fun (x7_j599 : List (List UInt8)) (v7_j599 : Value) => [vecT Try.prog 33 1 c_api_Value v7_j599 x7_j599]) (fun k599 h => ?_) (fun x7_j599 v7_j599 h => ?_)
              · refine k_block ?_
                refine k_seq ?_
                refine k_reg .free hmixP (by kernel_rfl) ?_
                refine G_q rfl (op_move (av := .exact (.int .i64 x34_l14)) rfl ?_)
                refine G_q rfl (op_assign (av := .exact (.int .i64 x34_l14)) rfl ?_)
                refine G_nil ?_
                refine kC_normal ?_
                refine k_seq ?_
                refine k_reg .free hmixP (by kernel_rfl) ?_
                refine G_q rfl (op_assign (av := .exact (.slice none 0 0)) rfl ?_)
                refine G_nil ?_
                refine kC_normal ?_
                refine k_join1_1 h (fun (x9_j658 : List (List UInt8)) (v9_j658 : Value) => (AF.put (AF.put (AF.put (AF.put (AF.put AF0 (some 4) (.row 1 c_L_api_Value y1.1)) (some 7) (.exact v7_l14)) (some 9) (.exact v9_j658)) (some 33) (.exact (.int .i64 (i64 (1 * 2 ^ min (Int.toNat (List.length (gi y1.1 0) : Int)) IntKind.i64.bits))))) (some 34) (.exact (.int .i64 x34_l14)))) (fun (x9_j658 : List (List UInt8)) (v9_j658 : Value) => [vecT Try.prog 33 1 c_api_Value v7_l14 x7_l14, vecT Try.prog 33 1 c_api_Value v9_j658 x9_j658]) (fun k658 h => ?_) (fun x9_j658 v9_j658 h => ?_)
                · refine k_seq ?_
                  refine k_reg .free hmixP (by kernel_rfl) ?_
                  refine G_q rfl (op_move (av := .row 1 c_L_api_Value y1.1) rfl ?_)
                  obtain ⟨n686, h⟩ := need_some h
                  refine G_q rfl (op_index_row (by kernel_rfl) rfl rfl n686.1 n686.2 ?_)
                  refine G_q rfl (op_load1p (a := .row 1 c_api_Value (gi y1.1 0)) (by kernel_rfl) rfl rfl ?_)
                  refine G_q rfl (op_len_row (by kernel_rfl) rfl ?_)
                  refine G_q rfl (op_move (av := .exact (.int .i64 0)) rfl ?_)
                  refine G_nil ?_
                  refine kC_normal ?_
                  refine k_block ?_
                  refine k_loop2_1 (m_finset_Subsets_L26 y1 x34_l14 k658) (m_finset_Subsets_B26 y1 x34_l14 k658) (fun _ _ => rfl) (fun m _ _ => rfl) h (fun (x9_l26 : List (List UInt8)) (x41_l26 : Int) (v9_l26 : Value) => (AF.put (AF.put (AF.put (AF.put (AF.put (AF.put (AF.put (AF.put (AF.put AF0 (some 4) (.row 1 c_L_api_Value y1.1)) (some 7) (.exact v7_l14)) (some 8) (.exact (.int .i64 x34_l14))) (some 9) (.exact v9_l26)) (some 33) (.exact (.int .i64 (i64 (1 * 2 ^ min (Int.toNat (List.length (gi y1.1 0) : Int)) IntKind.i64.bits))))) (some 34) (.exact (.int .i64 x34_l14))) (some 39) (.row 1 c_api_Value (gi y1.1 0))) (some 40) (.exact (.int .i64 (List.length (gi y1.1 0) : Int)))) (some 41) (.exact (.int .i64 x41_l26)))) (fun (x9_l26 : List (List UInt8)) (x41_l26 : Int) (v9_l26 : Value) => [vecT Try.prog 33 1 c_api_Value v7_l14 x7_l14, vecT Try.prog 33 1 c_api_Value v9_l26 x9_l26]) (.slice none 0 0) ?_ (fun rec26 x9_l26 x41_l26 v9_l26 h => ?_)
                  · refine Sub.trans (SubU.to (SubU.nilT (P := Try.prog) (t := 33) (n := 1) (enc := c_api_Value))) ?_
                    refine Sub.trans (SubU.to SubU.f1) ?_
                    exact Sub.of_le (AF.le_put (AV.le_eq rfl) (AF.le_put (AV.le_eq rfl) (AF.le_put (AV.le_eq rfl) (AF.le_put (AV.le_eq rfl) (AF.le_put (AV.le_eq rfl) (AF.le_put (AV.le_eq rfl) (AF.le_put (AV.le_eq rfl) (AF.le_put (AV.le_eq rfl) (AF.le_put (AV.le_eq rfl) (AF.le_top _))))))))))
                  · unfold m_finset_Subsets_B26 at h
                    refine k_seq ?_
                    refine k_reg .free hmixP (by kernel_rfl) ?_
                    refine G_q rfl (op_lss rfl rfl ?_)
                    refine G_nil ?_
                    refine kC_normal ?_
                    refine k_seq ?_
                    refine k_cond_d (p := x41_l26 < (List.length (gi y1.1 0) : Int)) rfl (fun hc => ?_) (fun hc => ?_)
                    · replace h := ite_t h hc
                      refine k_skip ?_
                      refine kC_normal ?_
                      refine k_join1_1 h (fun (x9_j703 : List (List UInt8)) (v9_j703 : Value) => (AF.put (AF.put (AF.put (AF.put (AF.put (AF.put (AF.put (AF.put (AF.put AF0 (some 4) (.row 1 c_L_api_Value y1.1)) (some 7) (.exact v7_l14)) (some 8) (.exact (.int .i64 x34_l14))) (some 9) (.exact v9_j703)) (some 33) (.exact (.int .i64 (i64 (1 * 2 ^ min (Int.toNat (List.length (gi y1.1 0) : Int)) IntKind.i64.bits))))) (some 34) (.exact (.int .i64 x34_l14))) (some 39) (.row 1 c_api_Value (gi y1.1 0))) (some 40) (.exact (.int .i64 (List.length (gi y1.1 0) : Int)))) (some 41) (.exact (.int .i64 x41_l26)))) (fun (x9_j703 : List (List UInt8)) (v9_j703 : Value) => [vecT Try.prog 33 1 c_api_Value v7_l14 x7_l14, vecT Try.prog 33 1 c_api_Value v9_j703 x9_j703]) (fun k703 h => ?_) (fun x9_j703 v9_j703 h => ?_)
                      · refine k_block ?_
                        refine k_seq ?_
                        refine k_reg .free hmixP (by kernel_rfl) ?_
                        refine G_q rfl (op_move (av := .exact (.int .i64 x41_l26)) rfl ?_)
                        obtain ⟨n708, h⟩ := need_some h
                        refine G_q rfl (op_index_row (by kernel_rfl) rfl rfl n708.1 n708.2 ?_)
                        refine G_q rfl (op_load1p (a := .exact (.string (bs (gi (gi y1.1 0) x41_l26)))) (by kernel_rfl) rfl rfl ?_)
                        refine G_q rfl (op_assign (av := .exact (.int .i64 x41_l26)) rfl ?_)
                        refine G_q rfl (op_assign (av := .exact (.string (bs (gi (gi y1.1 0) x41_l26)))) rfl ?_)
                        refine G_nil ?_
                        refine kC_normal ?_
                        refine k_seq ?_
                        refine k_reg .free hmixP (by kernel_rfl) ?_
                        refine G_q rfl (op_move (av := .exact (.int .i64 x34_l14)) rfl ?_)
                        refine G_q rfl (op_move (av := .exact (.int .i64 x41_l26)) rfl ?_)
                        obtain ⟨n709, h⟩ := need_some h
                        refine G_q rfl (op_shr rfl rfl n709 rfl ?_)
                        refine G_q rfl (op_and rfl rfl rfl ?_)
                        refine G_q rfl (op_eql rfl rfl ?_)
                        refine G_nil ?_
                        refine kC_normal ?_
                        refine k_cond_d (p := (bAnd .i64 (Int.fdiv x34_l14 (2 ^ min (Int.toNat x41_l26) IntKind.i64.bits)) 1) = 1) rfl (fun hc => ?_) (fun hc => ?_)
                        · replace h := ite_t h hc
                          refine k_reg .free hmixP (by kernel_rfl) ?_
                          refine G_q rfl (op_move (av := .exact v9_l26) rfl ?_)
                          refine G_q rfl (op_move (av := .exact (.string (bs (gi (gi y1.1 0) x41_l26)))) rfl ?_)
                          refine G_q rfl (op_litT (n := 1) (enc := c_api_Value) [gi (gi y1.1 0) x41_l26] (CellsAll.cons rfl CellsOf.str CellsAll.nil) rfl (by kernel_rfl) (LEss.cons (LEs.cons (AV.le_eq rfl) LEs.nil) LEss.nil) ?_)
                          obtain ⟨n710, h⟩ := need_some h
                          refine G_l rfl (opB_f1 (op_appT (by kernel_rfl) rfl rfl oc_c_api_Value n710 (fun v711 => ?_)))
                          refine G_q rfl (op_assign (av := .exact v711) rfl ?_)
                          refine G_nil ?_
                          refine kB_normal ?_
                          refine kI_normal ⟨_, v711, h, ?_⟩
                          refine Sub.trans (SubU.to SubU.f1) ?_
                          exact Sub.of_le (AF.le_put (AV.le_eq rfl) (AF.le_put (AV.le_eq rfl) (AF.le_put (AV.le_eq rfl) (AF.le_put (AV.le_eq rfl) (AF.le_put (AV.le_eq rfl) (AF.le_put (AV.le_eq rfl) (AF.le_put (AV.le_eq rfl) (AF.le_put (AV.le_eq rfl) (AF.le_put (AV.le_eq rfl) (AF.le_top _))))))))))
                        · replace h := ite_f h hc
                          refine k_skip ?_
                          refine kB_normal ?_
                          refine kI_normal ⟨_, v9_l26, h, ?_⟩
                          exact Sub.of_le (AF.le_put (AV.le_eq rfl) (AF.le_put (AV.le_eq rfl) (AF.le_put (AV.le_eq rfl) (AF.le_put (AV.le_eq rfl) (AF.le_put (AV.le_eq rfl) (AF.le_put (AV.le_eq rfl) (AF.le_put (AV.le_eq rfl) (AF.le_put (AV.le_eq rfl) (AF.le_put (AV.le_eq rfl) (AF.le_top _))))))))))
                      · refine k_reg .free hmixP (by kernel_rfl) ?_
                        refine G_q rfl (op_add rfl rfl rfl ?_)
                        refine G_q rfl (op_move (av := .exact (.int .i64 (i64 (x41_l26 + 1)))) rfl ?_)
                        refine G_nil ?_
                        refine kI_normal ⟨_, _, v9_j703, h, ?_⟩
                        exact Sub.of_le (AF.le_put (AV.le_eq rfl) (AF.le_put (AV.le_eq rfl) (AF.le_put (AV.le_eq rfl) (AF.le_put (AV.le_eq rfl) (AF.le_put (AV.le_eq rfl) (AF.le_put (AV.le_eq rfl) (AF.le_put (AV.le_eq rfl) (AF.le_put (AV.le_eq rfl) (AF.le_put (AV.le_eq rfl) (AF.le_top _))))))))))
                    · replace h := ite_f h hc
                      refine k_exit ?_
                      refine kC_exit ?_
                      refine kI_exit ?_
                      refine kB_exit ?_
                      refine kI_normal ⟨_, v9_l26, h, ?_⟩
                      exact Sub.of_le (AF.le_put (AV.le_eq rfl) (AF.le_put (AV.le_eq rfl) (AF.le_put (AV.le_eq rfl) (AF.le_put (AV.le_eq rfl) (AF.le_put (AV.le_eq rfl) (AF.le_top _))))))
                · refine k_reg .free hmixP (by kernel_rfl) ?_
                  refine G_q rfl (op_move (av := .exact v7_l14) rfl ?_)
                  refine G_q rfl (op_move (av := .exact v9_j658) rfl ?_)
                  refine G_sub rfl (SubU.trans SubU.f1 (SubU.freezeT2 (s1 := 9) (s2 := 57) rfl rfl len_c_api_Value)) ?_
                  obtain ⟨y712, hy712, h⟩ := bnd1_some h
                  refine G_q rfl (op_pure (m_value_Set_ok _ _ hy712) Try.func29 (by kernel_rfl) (LEs.cons (AV.le_eq rfl) LEs.nil) ?_)
                  refine G_q rfl (op_litT (n := 1) (enc := c_api_Value) [y712] (CellsAll.cons rfl CellsOf.str CellsAll.nil) rfl (by kernel_rfl) (LEss.cons (LEs.cons (AV.le_eq rfl) LEs.nil) LEss.nil) ?_)
                  obtain ⟨n713, h⟩ := need_some h
                  refine G_l rfl (op_appT (by kernel_rfl) rfl rfl oc_c_api_Value n713 (fun v714 => ?_))
                  refine G_q rfl (op_assign (av := .exact v714) rfl ?_)
                  refine G_nil ?_
                  refine kB_normal ?_
                  refine kI_normal ⟨_, v714, h, ?_⟩
                  exact Sub.of_le (AF.le_put (AV.le_eq rfl) (AF.le_put (AV.le_eq rfl) (AF.le_put (AV.le_eq rfl) (AF.le_put (AV.le_eq rfl) (AF.le_top _)))))
              · refine k_reg .free hmixP (by kernel_rfl) ?_
                refine G_q rfl (op_add rfl rfl rfl ?_)
                refine G_q rfl (op_move (av := .exact (.int .i64 (i64 (x34_l14 + 1)))) rfl ?_)
                refine G_nil ?_
                refine kI_normal ⟨_, _, v7_j599, h, ?_⟩
                exact Sub.of_le (AF.le_put (AV.le_eq rfl) (AF.le_put (AV.le_eq rfl) (AF.le_put (AV.le_eq rfl) (AF.le_put (AV.le_eq rfl) (AF.le_top _)))))
            · replace h := ite_f h hc
              refine k_exit ?_
              refine kC_exit ?_
              refine kI_exit ?_
              refine kB_exit ?_
              refine kI_normal ⟨_, v7_l14, h, ?_⟩
              exact Sub.of_le (AF.le_put (AV.le_eq rfl) (AF.le_top _))
        · refine k_seq ?_
          refine k_reg .free hmixP (by kernel_rfl) ?_
          refine G_q rfl (op_move (av := .exact v7_j10) rfl ?_)
          refine G_sub rfl (SubU.freezeT2 (s1 := 7) (s2 := 62) rfl rfl len_c_api_Value) ?_
          obtain ⟨y715, hy715, h⟩ := bnd1_some h
          refine G_q rfl (op_pure (m_finset_set_ok _ _ hy715) Try.func30 (by kernel_rfl) (LEs.cons (AV.le_eq rfl) LEs.nil) ?_)
          refine G_q rfl (op_extract (av := .exact (.string (bs y715.1))) rfl rfl ?_)
          refine G_q rfl (op_extract (av := .exact (.int .i64 y715.2)) rfl rfl ?_)
          refine G_q rfl (op_assign (av := .exact (.string (bs y715.1))) rfl ?_)
          refine G_q rfl (op_assign (av := .exact (.int .i64 y715.2)) rfl ?_)
          refine G_nil ?_
          refine kC_normal ?_
          refine k_ret ?_
          obtain rfl := Option.some.inj h
          refine kP_any (endN (af' := (AF.put (AF.put AF0 (some 2) (.exact (.string (bs y715.1)))) (some 3) (.exact (.int .i64 y715.2)))) (σ' := []) _ rfl ?_ ⟨rfl, rfl⟩)
          exact Sub.of_le (AF.le_put (AV.le_eq rfl) (AF.le_put (AV.le_eq rfl) (AF.le_top _)))
set_option maxHeartbeats 4000000 in
theorem m_finset_sets_ok (a0 : List UInt8) (r : (List (List (List UInt8))) × Int) (h : m_finset_sets a0 = some r) : Pure Try.prog 33 [(.exact (.string (bs a0)))] (.tup [.row 1 c_L_api_Value r.1, .exact (.int .i64 r.2)]) := by
  unfold m_finset_sets at h
  refine Pure.ofFun (fun_of_awp Try.func33 rfl Try.ntmps33 (by simp) rfl (res2 rfl) fun E hE => k_end ?_)
  refine k_seq ?_
  refine k_reg .free hmixP (by kernel_rfl) ?_
  refine G_q rfl (op_assign (av := .exact (.slice none 0 0)) rfl ?_)
  refine G_q rfl (op_assign (av := .exact (.int .i64 0)) rfl ?_)
  refine G_nil ?_
  refine kC_normal ?_
  refine k_seq ?_
  refine k_reg .free hmixP (by kernel_rfl) ?_
  refine G_q rfl (op_move (av := .exact (.string (bs a0))) rfl ?_)
  refine G_q rfl (op_litT (n := 1) (enc := c_api_Value) [a0] (CellsAll.cons rfl CellsOf.str CellsAll.nil) rfl (by kernel_rfl) (LEss.cons (LEs.cons (AV.le_eq rfl) LEs.nil) LEss.nil) ?_)
  obtain ⟨y1, hy1, h⟩ := bnd1_some h
  refine G_q rfl (op_pure (m_finset_elements_ok _ _ hy1) Try.func28 (by kernel_rfl) (LEs.cons (AV.le_eq rfl) LEs.nil) ?_)
  refine G_q rfl (op_move (av := .tup [.row 1 c_L_api_Value y1.1, .exact (.int .i64 y1.2)]) rfl ?_)
  refine G_q rfl (op_extract (av := .row 1 c_L_api_Value y1.1) rfl rfl ?_)
  refine G_q rfl (op_extract (av := .exact (.int .i64 y1.2)) rfl rfl ?_)
  refine G_q rfl (op_assign (av := .row 1 c_L_api_Value y1.1) rfl ?_)
  refine G_q rfl (op_assign (av := .exact (.int .i64 y1.2)) rfl ?_)
  refine G_nil ?_
  refine kC_normal ?_
  refine k_seq ?_
  refine k_seq ?_
  refine k_reg .free hmixP (by kernel_rfl) ?_
  refine G_q rfl (op_move (av := .exact (.int .i64 y1.2)) rfl ?_)
  refine G_q rfl (op_neq rfl rfl ?_)
  refine G_nil ?_
  refine kC_normal ?_
  refine k_cond_d (p := ¬ y1.2 = 0) rfl (fun hc => ?_) (fun hc => ?_)
  · replace h := ite_t h hc
    refine k_seq ?_
    refine k_reg .free hmixP (by kernel_rfl) ?_
    refine G_q rfl (op_move (av := .exact (.int .i64 y1.2)) rfl ?_)
    refine G_q rfl (op_assign (av := .exact (.slice none 0 0)) rfl ?_)
    refine G_q rfl (op_assign (av := .exact (.int .i64 y1.2)) rfl ?_)
    refine G_nil ?_
    refine kC_normal ?_
    refine k_ret ?_
    refine kC_ret ?_
    obtain rfl := Option.some.inj h
    refine kP_any (endN (af' := (AF.put (AF.put AF0 (some 2) (.row 1 c_L_api_Value [])) (some 3) (.exact (.int .i64 y1.2)))) (σ' := []) _ rfl ?_ ⟨rfl, rfl⟩)
    exact Sub.of_le (AF.le_put (AV.le_eq rfl) (AF.le_put (row_nil (by decide)) (AF.le_top _)))
  · replace h := ite_f h hc
    refine k_skip ?_
    refine kC_normal ?_
    refine k_seq ?_
    refine k_reg .free hmixP (by kernel_rfl) ?_
    refine G_q rfl (op_move (av := .row 1 c_L_api_Value y1.1) rfl ?_)
    obtain ⟨n2, h⟩ := need_some h
    refine G_q rfl (op_index_row (by kernel_rfl) rfl rfl n2.1 n2.2 ?_)
    refine G_q rfl (op_load1p (a := .row 1 c_api_Value (gi y1.1 0)) (by kernel_rfl) rfl rfl ?_)
    obtain ⟨y3, hy3, h⟩ := bnd1_some h
    refine G_q rfl (op_pure (m_finset_elements_ok _ _ hy3) Try.func28 (by kernel_rfl) (LEs.cons (AV.le_eq rfl) LEs.nil) ?_)
    refine G_q rfl (op_extract (av := .row 1 c_L_api_Value y3.1) rfl rfl ?_)
    refine G_q rfl (op_extract (av := .exact (.int .i64 y3.2)) rfl rfl ?_)
    refine G_q rfl (op_assign (av := .row 1 c_L_api_Value y3.1) rfl ?_)
    refine G_q rfl (op_assign (av := .exact (.int .i64 y3.2)) rfl ?_)
    refine G_nil ?_
    refine kC_normal ?_
    refine k_ret ?_
    obtain rfl := Option.some.inj h
    refine kP_any (endN (af' := (AF.put (AF.put AF0 (some 2) (.row 1 c_L_api_Value y3.1)) (some 3) (.exact (.int .i64 y3.2)))) (σ' := []) _ rfl ?_ ⟨rfl, rfl⟩)
    exact Sub.of_le (AF.le_put (AV.le_eq rfl) (AF.le_put (AV.le_eq rfl) (AF.le_top _)))
set_option maxHeartbeats 4000000 in
theorem m_finset_BigInter_ok (a0 : List UInt8) (r : (List UInt8) × Int) (h : m_finset_BigInter a0 = some r) : Pure Try.prog 27 [(.exact (.string (bs a0)))] (.tup [.exact (.string (bs r.1)), .exact (.int .i64 r.2)]) := by
  unfold m_finset_BigInter at h
  refine Pure.ofFun (fun_of_awp Try.func27 rfl Try.ntmps27 (by simp) rfl (res2 rfl) fun E hE => k_end ?_)
  refine k_seq ?_
  refine k_reg .free hmixP (by kernel_rfl) ?_
  refine G_q rfl (op_assign (av := .exact (.string (bs ([] : List UInt8)))) rfl ?_)
  refine G_q rfl (op_assign (av := .exact (.int .i64 0)) rfl ?_)
  refine G_nil ?_
  refine kC_normal ?_
  refine k_seq ?_
  refine k_reg .free hmixP (by kernel_rfl) ?_
  refine G_q rfl (op_move (av := .exact (.string (bs a0))) rfl ?_)
  obtain ⟨y1, hy1, h⟩ := bnd1_some h
  refine G_q rfl (op_pure (m_finset_sets_ok _ _ hy1) Try.func33 (by kernel_rfl) (LEs.cons (AV.le_eq rfl) LEs.nil) ?_)
  refine G_q rfl (op_move (av := .tup [.row 1 c_L_api_Value y1.1, .exact (.int .i64 y1.2)]) rfl ?_)
  refine G_q rfl (op_extract (av := .row 1 c_L_api_Value y1.1) rfl rfl ?_)
  refine G_q rfl (op_extract (av := .exact (.int .i64 y1.2)) rfl rfl ?_)
  refine G_q rfl (op_assign (av := .row 1 c_L_api_Value y1.1) rfl ?_)
  refine G_q rfl (op_assign (av := .exact (.int .i64 y1.2)) rfl ?_)
  refine G_nil ?_
  refine kC_normal ?_
  refine k_seq ?_
  refine k_block ?_
  refine k_seq ?_
  refine k_reg .free hmixP (by kernel_rfl) ?_
  refine G_q rfl (op_move (av := .exact (.int .i64 y1.2)) rfl ?_)
  refine G_q rfl (op_neq rfl rfl ?_)
  refine G_q rfl (op_assign (av := .exact (.bool (decide (¬ y1.2 = 0)))) rfl ?_)
  refine G_nil ?_
  refine kC_normal ?_
  refine k_cond_d (p := ¬ y1.2 = 0) rfl (fun hc => ?_) (fun hc => ?_)
  · replace h := ite_t h hc
    refine k_seq ?_
    refine k_reg .free hmixP (by kernel_rfl) ?_
    refine G_q rfl (op_move (av := .exact (.int .i64 y1.2)) rfl ?_)
    refine G_q rfl (op_assign (av := .exact (.string (bs ([] : List UInt8)))) rfl ?_)
    refine G_q rfl (op_assign (av := .exact (.int .i64 y1.2)) rfl ?_)
    refine G_nil ?_
    refine kC_normal ?_
    refine k_ret ?_
    refine kB_ret ?_
    refine kC_ret ?_
    obtain rfl := Option.some.inj h
    refine kP_any (endN (af' := (AF.put (AF.put AF0 (some 2) (.exact (.string (bs ([] : List UInt8))))) (some 3) (.exact (.int .i64 y1.2)))) (σ' := []) _ rfl ?_ ⟨rfl, rfl⟩)
    exact Sub.of_le (AF.le_put (AV.le_eq rfl) (AF.le_put (AV.le_eq rfl) (AF.le_top _)))
  · replace h := ite_f h hc
    refine k_seq ?_
    refine k_reg .free hmixP (by kernel_rfl) ?_
    refine G_q rfl (op_move (av := .row 1 c_L_api_Value y1.1) rfl ?_)
    refine G_q rfl (op_len_row (by kernel_rfl) rfl ?_)
    refine G_q rfl (op_eql rfl rfl ?_)
    refine G_q rfl (op_assign (av := .exact (.bool (decide ((List.length y1.1 : Int) = 0)))) rfl ?_)
    refine G_nil ?_
    refine kC_normal ?_
    refine k_cond_d (p := (List.length y1.1 : Int) = 0) rfl (fun hc => ?_) (fun hc => ?_)
    · replace h := ite_t h hc
      refine k_seq ?_
      refine k_reg .free hmixP (by kernel_rfl) ?_
      refine G_q rfl (op_assign (av := .exact (.string (bs ([] : List UInt8)))) rfl ?_)
      refine G_q rfl (op_assign (av := .exact (.int .i64 12)) rfl ?_)
      refine G_nil ?_
      refine kC_normal ?_
      refine k_ret ?_
      refine kB_ret ?_
      refine kC_ret ?_
      obtain rfl := Option.some.inj h
      refine kP_any (endN (af' := (AF.put (AF.put AF0 (some 2) (.exact (.string (bs ([] : List UInt8))))) (some 3) (.exact (.int .i64 12)))) (σ' := []) _ rfl ?_ ⟨rfl, rfl⟩)
      exact Sub.of_le (AF.le_put (AV.le_eq rfl) (AF.le_put (AV.le_eq rfl) (AF.le_top _)))
    · replace h := ite_f h hc
      refine k_skip ?_
      refine kB_normal ?_
      refine kC_normal ?_
      refine k_seq ?_
      refine k_reg .free hmixP (by kernel_rfl) ?_
      refine G_q rfl (op_move (av := .row 1 c_L_api_Value y1.1) rfl ?_)
      obtain ⟨n2, h⟩ := need_some h
      refine G_q rfl (op_index_row (by kernel_rfl) rfl rfl n2.1 n2.2 ?_)
      refine G_q rfl (op_load1p (a := .row 1 c_api_Value (gi y1.1 0)) (by kernel_rfl) rfl rfl ?_)
      refine G_q rfl (op_assign (av := .row 1 c_api_Value (gi y1.1 0)) rfl ?_)
      refine G_nil ?_
      refine kC_normal ?_
      refine k_join1_0 h (fun (x6_j3 : List (List UInt8)) => (AF.put AF0 (some 6) (.row 1 c_api_Value x6_j3))) (fun (x6_j3 : List (List UInt8)) => []) (fun k3 h => ?_) (fun x6_j3 h => ?_)
      · refine k_seq ?_
        refine k_reg .free hmixP (by kernel_rfl) ?_
        refine G_q rfl (op_move (av := .row 1 c_L_api_Value y1.1) rfl ?_)
        obtain ⟨n12, h⟩ := need_some h
        refine G_q rfl (op_slice_rowd (by kernel_rfl) rfl (bnd_some rfl) bnd_none (by decide) n12 (Int.le_refl _) ?_)
        refine G_q rfl (op_len_row (by kernel_rfl) rfl ?_)
        refine G_q rfl (op_move (av := .exact (.int .i64 0)) rfl ?_)
        refine G_nil ?_
        refine kC_normal ?_
        refine k_block ?_
        refine k_loop2_0 (m_finset_BigInter_L2 y1 k3) (m_finset_BigInter_B2 y1 k3) (fun _ _ => rfl) (fun m _ _ => rfl) h (fun (x6_l2 : List (List UInt8)) (x28_l2 : Int) => (AF.put (AF.put (AF.put (AF.put AF0 (some 6) (.row 1 c_api_Value x6_l2)) (some 26) (.row 1 c_L_api_Value (List.drop (Int.toNat 1) y1.1))) (some 27) (.exact (.int .i64 (List.length (List.drop (Int.toNat 1) y1.1) : Int)))) (some 28) (.exact (.int .i64 x28_l2)))) (fun (x6_l2 : List (List UInt8)) (x28_l2 : Int) => []) ?_ (fun rec2 x6_l2 x28_l2 h => ?_)
        · exact Sub.of_le (AF.le_put (AV.le_eq rfl) (AF.le_put (AV.le_eq rfl) (AF.le_put (AV.le_eq rfl) (AF.le_put (AV.le_eq rfl) (AF.le_top _)))))
        · unfold m_finset_BigInter_B2 at h
          refine k_seq ?_
          refine k_reg .free hmixP (by kernel_rfl) ?_
          refine G_q rfl (op_lss rfl rfl ?_)
          refine G_nil ?_
          refine kC_normal ?_
          refine k_seq ?_
          refine k_cond_d (p := x28_l2 < (List.length (List.drop (Int.toNat 1) y1.1) : Int)) rfl (fun hc => ?_) (fun hc => ?_)
          · replace h := ite_t h hc
            refine k_skip ?_
            refine kC_normal ?_
            refine k_seq ?_
            refine k_block ?_
            refine k_seq ?_
            refine k_reg .free hmixP (by kernel_rfl) ?_
            obtain ⟨n17, h⟩ := need_some h
            refine G_q rfl (op_index_row (by kernel_rfl) rfl rfl n17.1 n17.2 ?_)
            refine G_q rfl (op_load1p (a := .row 1 c_api_Value (gi (List.drop (Int.toNat 1) y1.1) x28_l2)) (by kernel_rfl) rfl rfl ?_)
            refine G_q rfl (op_assign (av := .row 1 c_api_Value (gi (List.drop (Int.toNat 1) y1.1) x28_l2)) rfl ?_)
            refine G_nil ?_
            refine kC_normal ?_
            refine k_reg .free hmixP (by kernel_rfl) ?_
            refine G_q rfl (op_move (av := .row 1 c_api_Value x6_l2) rfl ?_)
            refine G_q rfl (op_move (av := .row 1 c_api_Value (gi (List.drop (Int.toNat 1) y1.1) x28_l2)) rfl ?_)
            obtain ⟨y18, hy18, h⟩ := bnd1_some h
            refine G_q rfl (op_pure (m_finset_merge_ok _ _ _ _ hy18) Try.func34 (by kernel_rfl) (LEs.cons (AV.le_eq rfl) (LEs.cons (AV.le_eq rfl) (LEs.cons ((fn_le Try.func25 (by kernel_rfl) (fun i r h => m_finset_common_ok i.1 i.2 r h))) LEs.nil))) ?_)
            refine G_q rfl (op_assign (av := .row 1 c_api_Value y18) rfl ?_)
            refine G_nil ?_
            refine kB_normal ?_
            refine kC_normal ?_
            refine k_reg .free hmixP (by kernel_rfl) ?_
            refine G_q rfl (op_add rfl rfl rfl ?_)
            refine G_q rfl (op_move (av := .exact (.int .i64 (i64 (x28_l2 + 1)))) rfl ?_)
            refine G_nil ?_
            refine kI_normal ⟨_, _, h, ?_⟩
            exact Sub.of_le (AF.le_put (AV.le_eq rfl) (AF.le_put (AV.le_eq rfl) (AF.le_put (AV.le_eq rfl) (AF.le_put (AV.le_eq rfl) (AF.le_top _)))))
          · replace h := ite_f h hc
            refine k_exit ?_
            refine kC_exit ?_
            refine kI_exit ?_
            refine kB_exit ?_
            refine kI_normal ⟨_, h, ?_⟩
            exact Sub.of_le (AF.le_put (AV.le_eq rfl) (AF.le_top _))
      · refine k_seq ?_
        refine k_reg .free hmixP (by kernel_rfl) ?_
        refine G_q rfl (op_move (av := .row 1 c_api_Value x6_j3) rfl ?_)
        obtain ⟨y19, hy19, h⟩ := bnd1_some h
        refine G_q rfl (op_pure (m_finset_set_ok _ _ hy19) Try.func30 (by kernel_rfl) (LEs.cons (AV.le_eq rfl) LEs.nil) ?_)
        refine G_q rfl (op_extract (av := .exact (.string (bs y19.1))) rfl rfl ?_)
        refine G_q rfl (op_extract (av := .exact (.int .i64 y19.2)) rfl rfl ?_)
        refine G_q rfl (op_assign (av := .exact (.string (bs y19.1))) rfl ?_)
        refine G_q rfl (op_assign (av := .exact (.int .i64 y19.2)) rfl ?_)
        refine G_nil ?_
        refine kC_normal ?_
        refine k_ret ?_
        obtain rfl := Option.some.inj h
        refine kP_any (endN (af' := (AF.put (AF.put AF0 (some 2) (.exact (.string (bs y19.1)))) (some 3) (.exact (.int .i64 y19.2)))) (σ' := []) _ rfl ?_ ⟨rfl, rfl⟩)
        exact Sub.of_le (AF.le_put (AV.le_eq rfl) (AF.le_put (AV.le_eq rfl) (AF.le_top _)))
set_option maxHeartbeats 4000000 in
theorem m_ref9_Parts_ok (a0 : List UInt8) (r : (List (List UInt8))) (h : m_ref9_Parts a0 = some r) : Pure Try.prog 14 [(.exact (.string (bs a0)))] (.row 1 c_api_Value r) := by
  unfold m_ref9_Parts at h
  refine Pure.ofFun (fun_of_awp Try.func14 rfl Try.ntmps14 (by simp) rfl (res1 rfl) fun E hE => k_end ?_)
  refine k_seq ?_
  refine k_reg .free hmixP (by kernel_rfl) ?_
  refine G_q rfl (op_assign (av := .exact (.slice none 0 0)) rfl ?_)
  refine G_nil ?_
  refine kC_normal ?_
  refine k_seq ?_
  refine k_seq ?_
  refine k_reg .free hmixP (by kernel_rfl) ?_
  refine G_q rfl (op_move (av := .exact (.string (bs a0))) rfl ?_)
  obtain ⟨y1, hy1, h⟩ := bnd1_some h
  refine G_q rfl (op_pure (m_ref9_Valid_ok _ _ hy1) Try.func31 (by kernel_rfl) (LEs.cons (AV.le_eq rfl) LEs.nil) ?_)
  refine G_q rfl (op_not rfl ?_)
  refine G_nil ?_
  refine kC_normal ?_
  refine k_cond_b (c := !y1) rfl (fun hc => ?_) (fun hc => ?_)
  · replace h := ite_t h hc
    refine k_seq ?_
    refine k_reg .free hmixP (by kernel_rfl) ?_
    refine G_q rfl (op_assign (av := .exact (.slice none 0 0)) rfl ?_)
    refine G_nil ?_
    refine kC_normal ?_
    refine k_ret ?_
    refine kC_ret ?_
    obtain rfl := Option.some.inj h
    refine kP_any (endN (af' := (AF.put AF0 (some 2) (.row 1 c_api_Value []))) (σ' := []) _ rfl ?_ ⟨rfl, rfl⟩)
    exact Sub.of_le (AF.le_put (row_nil (by decide)) (AF.le_top _))
  · replace h := ite_f h hc
    refine k_skip ?_
    refine kC_normal ?_
    refine k_seq ?_
    refine k_reg .free hmixP (by kernel_rfl) ?_
    refine G_q rfl (op_move (av := .exact (.string (bs a0))) rfl ?_)
    obtain ⟨y2, hy2, h⟩ := bnd1_some h
    refine G_q rfl (op_pure (m_ref9_walk_ok _ _ _ _ hy2) Try.func32 (by kernel_rfl) (LEs.cons (AV.le_eq rfl) (LEs.cons (AV.le_eq rfl) (LEs.cons (AV.le_eq rfl) LEs.nil))) ?_)
    refine G_q rfl (op_move (av := .tup [.exact (.int .i64 y2.1), .row 1 c_api_Value y2.2.1, .exact (.int .i64 y2.2.2)]) rfl ?_)
    refine G_q rfl (op_extract (av := .exact (.int .i64 y2.1)) rfl rfl ?_)
    refine G_q rfl (op_extract (av := .row 1 c_api_Value y2.2.1) rfl rfl ?_)
    refine G_q rfl (op_extract (av := .exact (.int .i64 y2.2.2)) rfl rfl ?_)
    refine G_q rfl (op_assign (av := .exact (.int .i64 y2.1)) rfl ?_)
    refine G_q rfl (op_assign (av := .row 1 c_api_Value y2.2.1) rfl ?_)
    refine G_q rfl (op_assign (av := .exact (.int .i64 y2.2.2)) rfl ?_)
    refine G_nil ?_
    refine kC_normal ?_
    refine k_seq ?_
    refine k_reg .free hmixP (by kernel_rfl) ?_
    refine G_q rfl (op_move (av := .row 1 c_api_Value y2.2.1) rfl ?_)
    refine G_q rfl (op_assign (av := .row 1 c_api_Value y2.2.1) rfl ?_)
    refine G_nil ?_
    refine kC_normal ?_
    refine k_ret ?_
    obtain rfl := Option.some.inj h
    refine kP_any (endN (af' := (AF.put AF0 (some 2) (.row 1 c_api_Value y2.2.1))) (σ' := []) _ rfl ?_ ⟨rfl, rfl⟩)
    exact Sub.of_le (AF.le_put (AV.le_eq rfl) (AF.le_top _))
set_option maxHeartbeats 4000000 in
theorem m_law10_awake_ok  (r : Bool) (h : m_law10_awake = some r) : Pure Try.prog 12 [] (.exact (.bool r)) := by
  unfold m_law10_awake at h
  refine Pure.ofFun (fun_of_awp Try.func12 rfl Try.ntmps12 (by simp) rfl (res1 rfl) fun E hE => k_end ?_)
  refine k_seq ?_
  refine k_reg .free hmixP (by kernel_rfl) ?_
  refine G_q rfl (op_assign (av := .exact (.bool false)) rfl ?_)
  refine G_nil ?_
  refine kC_normal ?_
  refine k_seq ?_
  refine k_reg .free hmixP (by kernel_rfl) ?_
  obtain ⟨y1, hy1, h⟩ := bnd1_some h
  refine G_q rfl (op_pure (m_finset_Range_ok _ _ _ hy1) Try.func19 (by kernel_rfl) (LEs.cons (AV.le_eq rfl) (LEs.cons (AV.le_eq rfl) LEs.nil)) ?_)
  refine G_q rfl (op_move (av := .tup [.exact (.string (bs y1.1)), .exact (.int .i64 y1.2)]) rfl ?_)
  refine G_q rfl (op_extract (av := .exact (.string (bs y1.1))) rfl rfl ?_)
  refine G_q rfl (op_extract (av := .exact (.int .i64 y1.2)) rfl rfl ?_)
  refine G_q rfl (op_assign (av := .exact (.string (bs y1.1))) rfl ?_)
  refine G_q rfl (op_assign (av := .exact (.int .i64 y1.2)) rfl ?_)
  refine G_nil ?_
  refine kC_normal ?_
  refine k_seq ?_
  refine k_reg .free hmixP (by kernel_rfl) ?_
  refine G_q rfl (op_move (av := .exact (.string (bs y1.1))) rfl ?_)
  obtain ⟨y2, hy2, h⟩ := bnd1_some h
  refine G_q rfl (op_pure (m_finset_Subsets_ok _ _ hy2) Try.func13 (by kernel_rfl) (LEs.cons (AV.le_eq rfl) LEs.nil) ?_)
  refine G_q rfl (op_move (av := .tup [.exact (.string (bs y2.1)), .exact (.int .i64 y2.2)]) rfl ?_)
  refine G_q rfl (op_extract (av := .exact (.string (bs y2.1))) rfl rfl ?_)
  refine G_q rfl (op_extract (av := .exact (.int .i64 y2.2)) rfl rfl ?_)
  refine G_q rfl (op_assign (av := .exact (.string (bs y2.1))) rfl ?_)
  refine G_q rfl (op_assign (av := .exact (.int .i64 y2.2)) rfl ?_)
  refine G_nil ?_
  refine kC_normal ?_
  refine k_seq ?_
  refine k_reg .free hmixP (by kernel_rfl) ?_
  obtain ⟨y3, hy3, h⟩ := bnd1_some h
  refine G_q rfl (op_pure (m_ref9_Set_ok _ _ hy3) Try.func22 (by kernel_rfl) (LEs.cons (row_nil (by decide)) LEs.nil) ?_)
  obtain ⟨y4, hy4, h⟩ := bnd1_some h
  refine G_q rfl (op_pure (m_finset_BigInter_ok _ _ hy4) Try.func27 (by kernel_rfl) (LEs.cons (AV.le_eq rfl) LEs.nil) ?_)
  refine G_q rfl (op_move (av := .tup [.exact (.string (bs y4.1)), .exact (.int .i64 y4.2)]) rfl ?_)
  refine G_q rfl (op_extract (av := .exact (.string (bs y4.1))) rfl rfl ?_)
  refine G_q rfl (op_extract (av := .exact (.int .i64 y4.2)) rfl rfl ?_)
  refine G_q rfl (op_assign (av := .exact (.string (bs y4.1))) rfl ?_)
  refine G_q rfl (op_assign (av := .exact (.int .i64 y4.2)) rfl ?_)
  refine G_nil ?_
  refine kC_normal ?_
  refine k_join1_0 h (fun (x0_j5 : Bool) => (AF.put AF0 (some 0) (.exact (.bool x0_j5)))) (fun (x0_j5 : Bool) => []) (fun k5 h => ?_) (fun x0_j5 h => ?_)
  · refine k_reg .free hmixP (by kernel_rfl) ?_
    refine G_q rfl (op_move (av := .exact (.int .i64 y1.2)) rfl ?_)
    refine G_q rfl (op_eql rfl rfl ?_)
    refine G_q rfl (op_move (av := .exact (.bool (decide (y1.2 = 0)))) rfl ?_)
    refine G_split (p := y1.2 = 0) 23 rfl (fun hc => ?_) (fun hc => ?_)
    · replace h := ite_t h hc
      refine Gy_q rfl rfl rfl (op_move (av := .exact (.string (bs y1.1))) rfl ?_)
      obtain ⟨y10, hy10, h⟩ := bnd1_some h
      refine Gy_q rfl rfl rfl (op_pure (m_ref9_Int_ok _ _ hy10) Try.func21 (by kernel_rfl) (LEs.cons (AV.le_eq rfl) LEs.nil) ?_)
      obtain ⟨y11, hy11, h⟩ := bnd1_some h
      refine Gy_q rfl rfl rfl (op_pure (m_ref9_Int_ok _ _ hy11) Try.func21 (by kernel_rfl) (LEs.cons (AV.le_eq rfl) LEs.nil) ?_)
      refine Gy_q rfl rfl rfl (op_litT (n := 1) (enc := c_api_Value) [y10, y11] (CellsAll.cons rfl CellsOf.str (CellsAll.cons rfl CellsOf.str CellsAll.nil)) rfl (by kernel_rfl) (LEss.cons (LEs.cons (AV.le_eq rfl) LEs.nil) (LEss.cons (LEs.cons (AV.le_eq rfl) LEs.nil) LEss.nil)) ?_)
      obtain ⟨y12, hy12, h⟩ := bnd1_some h
      refine Gy_q rfl rfl rfl (op_pure (m_ref9_Set_ok _ _ hy12) Try.func22 (by kernel_rfl) (LEs.cons (AV.le_eq rfl) LEs.nil) ?_)
      refine Gy_q rfl rfl rfl (op_eqlS rfl rfl ?_)
      refine G_q rfl (op_pick_t rfl (av := .exact (.bool (decide (y1.1 = y12)))) rfl ?_)
      refine G_q rfl (op_move (av := .exact (.bool (decide (y1.1 = y12)))) rfl ?_)
      refine G_split (p := y1.1 = y12) 31 rfl (fun hc => ?_) (fun hc => ?_)
      · replace h := ite_t h hc
        refine Gy_q rfl rfl rfl (op_move (av := .exact (.int .i64 y2.2)) rfl ?_)
        refine Gy_q rfl rfl rfl (op_eql rfl rfl ?_)
        refine G_q rfl (op_pick_t rfl (av := .exact (.bool (decide (y2.2 = 0)))) rfl ?_)
        refine G_q rfl (op_move (av := .exact (.bool (decide (y2.2 = 0)))) rfl ?_)
        refine G_split (p := y2.2 = 0) 35 rfl (fun hc => ?_) (fun hc => ?_)
        · replace h := ite_t h hc
          refine Gy_q rfl rfl rfl (op_move (av := .exact (.string (bs y2.1))) rfl ?_)
          obtain ⟨y13, hy13, h⟩ := bnd1_some h
          refine Gy_q rfl rfl rfl (op_pure (m_ref9_Parts_ok _ _ hy13) Try.func14 (by kernel_rfl) (LEs.cons (AV.le_eq rfl) LEs.nil) ?_)
          refine Gy_q rfl rfl rfl (op_len_row (by kernel_rfl) rfl ?_)
          refine Gy_q rfl rfl rfl (op_eql rfl rfl ?_)
          refine G_q rfl (op_pick_t rfl (av := .exact (.bool (decide ((List.length y13 : Int) = 4)))) rfl ?_)
          refine G_q rfl (op_move (av := .exact (.bool (decide ((List.length y13 : Int) = 4)))) rfl ?_)
          refine G_split (p := (List.length y13 : Int) = 4) 41 rfl (fun hc => ?_) (fun hc => ?_)
          · replace h := ite_t h hc
            refine Gy_q rfl rfl rfl (op_move (av := .exact (.int .i64 y4.2)) rfl ?_)
            refine Gy_q rfl rfl rfl (op_eql rfl rfl ?_)
            refine G_q rfl (op_pick_t rfl (av := .exact (.bool (decide (y4.2 = 12)))) rfl ?_)
            refine G_q rfl (op_assign (av := .exact (.bool (decide (y4.2 = 12)))) rfl ?_)
            refine G_nil ?_
            refine kI_normal ⟨_, h, ?_⟩
            exact Sub.of_le (AF.le_put (AV.le_eq rfl) (AF.le_top _))
          · replace h := ite_f h hc
            refine G_n rfl rfl ?_
            refine G_n rfl rfl ?_
            refine G_q rfl (op_pick_f rfl (av := .exact (.bool false)) rfl ?_)
            refine G_q rfl (op_assign (av := .exact (.bool false)) rfl ?_)
            refine G_nil ?_
            refine kI_normal ⟨_, h, ?_⟩
            exact Sub.of_le (AF.le_put (AV.le_eq rfl) (AF.le_top _))
        · replace h := ite_f h hc
          refine G_n rfl rfl ?_
          refine G_n rfl rfl ?_
          refine G_n rfl rfl ?_
          refine G_n rfl rfl ?_
          refine G_q rfl (op_pick_f rfl (av := .exact (.bool false)) rfl ?_)
          refine G_q rfl (op_move (av := .exact (.bool false)) rfl ?_)
          refine G_n rfl rfl ?_
          refine G_n rfl rfl ?_
          refine G_q rfl (op_pick_f rfl (av := .exact (.bool false)) rfl ?_)
          refine G_q rfl (op_assign (av := .exact (.bool false)) rfl ?_)
          refine G_nil ?_
          refine kI_normal ⟨_, h, ?_⟩
          exact Sub.of_le (AF.le_put (AV.le_eq rfl) (AF.le_top _))
      · replace h := ite_f h hc
        refine G_n rfl rfl ?_
        refine G_n rfl rfl ?_
        refine G_q rfl (op_pick_f rfl (av := .exact (.bool false)) rfl ?_)
        refine G_q rfl (op_move (av := .exact (.bool false)) rfl ?_)
        refine G_n rfl rfl ?_
        refine G_n rfl rfl ?_
        refine G_n rfl rfl ?_
        refine G_n rfl rfl ?_
        refine G_q rfl (op_pick_f rfl (av := .exact (.bool false)) rfl ?_)
        refine G_q rfl (op_move (av := .exact (.bool false)) rfl ?_)
        refine G_n rfl rfl ?_
        refine G_n rfl rfl ?_
        refine G_q rfl (op_pick_f rfl (av := .exact (.bool false)) rfl ?_)
        refine G_q rfl (op_assign (av := .exact (.bool false)) rfl ?_)
        refine G_nil ?_
        refine kI_normal ⟨_, h, ?_⟩
        exact Sub.of_le (AF.le_put (AV.le_eq rfl) (AF.le_top _))
    · replace h := ite_f h hc
      refine G_n rfl rfl ?_
      refine G_n rfl rfl ?_
      refine G_n rfl rfl ?_
      refine G_n rfl rfl ?_
      refine G_n rfl rfl ?_
      refine G_n rfl rfl ?_
      refine G_q rfl (op_pick_f rfl (av := .exact (.bool false)) rfl ?_)
      refine G_q rfl (op_move (av := .exact (.bool false)) rfl ?_)
      refine G_n rfl rfl ?_
      refine G_n rfl rfl ?_
      refine G_q rfl (op_pick_f rfl (av := .exact (.bool false)) rfl ?_)
      refine G_q rfl (op_move (av := .exact (.bool false)) rfl ?_)
      refine G_n rfl rfl ?_
      refine G_n rfl rfl ?_
      refine G_n rfl rfl ?_
      refine G_n rfl rfl ?_
      refine G_q rfl (op_pick_f rfl (av := .exact (.bool false)) rfl ?_)
      refine G_q rfl (op_move (av := .exact (.bool false)) rfl ?_)
      refine G_n rfl rfl ?_
      refine G_n rfl rfl ?_
      refine G_q rfl (op_pick_f rfl (av := .exact (.bool false)) rfl ?_)
      refine G_q rfl (op_assign (av := .exact (.bool false)) rfl ?_)
      refine G_nil ?_
      refine kI_normal ⟨_, h, ?_⟩
      exact Sub.of_le (AF.le_put (AV.le_eq rfl) (AF.le_top _))
  · refine k_ret ?_
    obtain rfl := Option.some.inj h
    refine kP_any (endN (af' := (AF.put AF0 (some 0) (.exact (.bool x0_j5)))) (σ' := []) _ rfl ?_ ⟨rfl, rfl⟩)
    exact Sub.of_le (AF.le_put (AV.le_eq rfl) (AF.le_top _))
set_option maxHeartbeats 4000000 in
theorem m_finset_BigUnion_ok (a0 : List UInt8) (r : (List UInt8) × Int) (h : m_finset_BigUnion a0 = some r) : Pure Try.prog 15 [(.exact (.string (bs a0)))] (.tup [.exact (.string (bs r.1)), .exact (.int .i64 r.2)]) := by
  unfold m_finset_BigUnion at h
  refine Pure.ofFun (fun_of_awp Try.func15 rfl Try.ntmps15 (by simp) rfl (res2 rfl) fun E hE => k_end ?_)
  refine k_seq ?_
  refine k_reg .free hmixP (by kernel_rfl) ?_
  refine G_q rfl (op_assign (av := .exact (.string (bs ([] : List UInt8)))) rfl ?_)
  refine G_q rfl (op_assign (av := .exact (.int .i64 0)) rfl ?_)
  refine G_nil ?_
  refine kC_normal ?_
  refine k_seq ?_
  refine k_reg .free hmixP (by kernel_rfl) ?_
  refine G_q rfl (op_move (av := .exact (.string (bs a0))) rfl ?_)
  obtain ⟨y1, hy1, h⟩ := bnd1_some h
  refine G_q rfl (op_pure (m_finset_sets_ok _ _ hy1) Try.func33 (by kernel_rfl) (LEs.cons (AV.le_eq rfl) LEs.nil) ?_)
  refine G_q rfl (op_move (av := .tup [.row 1 c_L_api_Value y1.1, .exact (.int .i64 y1.2)]) rfl ?_)
  refine G_q rfl (op_extract (av := .row 1 c_L_api_Value y1.1) rfl rfl ?_)
  refine G_q rfl (op_extract (av := .exact (.int .i64 y1.2)) rfl rfl ?_)
  refine G_q rfl (op_assign (av := .row 1 c_L_api_Value y1.1) rfl ?_)
  refine G_q rfl (op_assign (av := .exact (.int .i64 y1.2)) rfl ?_)
  refine G_nil ?_
  refine kC_normal ?_
  refine k_seq ?_
  refine k_seq ?_
  refine k_reg .free hmixP (by kernel_rfl) ?_
  refine G_q rfl (op_move (av := .exact (.int .i64 y1.2)) rfl ?_)
  refine G_q rfl (op_neq rfl rfl ?_)
  refine G_nil ?_
  refine kC_normal ?_
  refine k_cond_d (p := ¬ y1.2 = 0) rfl (fun hc => ?_) (fun hc => ?_)
  · replace h := ite_t h hc
    refine k_seq ?_
    refine k_reg .free hmixP (by kernel_rfl) ?_
    refine G_q rfl (op_move (av := .exact (.int .i64 y1.2)) rfl ?_)
    refine G_q rfl (op_assign (av := .exact (.string (bs ([] : List UInt8)))) rfl ?_)
    refine G_q rfl (op_assign (av := .exact (.int .i64 y1.2)) rfl ?_)
    refine G_nil ?_
    refine kC_normal ?_
    refine k_ret ?_
    refine kC_ret ?_
    obtain rfl := Option.some.inj h
    refine kP_any (endN (af' := (AF.put (AF.put AF0 (some 2) (.exact (.string (bs ([] : List UInt8))))) (some 3) (.exact (.int .i64 y1.2)))) (σ' := []) _ rfl ?_ ⟨rfl, rfl⟩)
    exact Sub.of_le (AF.le_put (AV.le_eq rfl) (AF.le_put (AV.le_eq rfl) (AF.le_top _)))
  · replace h := ite_f h hc
    refine k_skip ?_
    refine kC_normal ?_
    refine k_seq ?_
    refine k_reg .free hmixP (by kernel_rfl) ?_
    refine G_q rfl (op_assign (av := .exact (.slice none 0 0)) rfl ?_)
    refine G_nil ?_
    refine kC_normal ?_
    refine k_join1_0 h (fun (x6_j2 : List (List UInt8)) => (AF.put AF0 (some 6) (.row 1 c_api_Value x6_j2))) (fun (x6_j2 : List (List UInt8)) => []) (fun k2 h => ?_) (fun x6_j2 h => ?_)
    · refine k_seq ?_
      refine k_reg .free hmixP (by kernel_rfl) ?_
      refine G_q rfl (op_move (av := .row 1 c_L_api_Value y1.1) rfl ?_)
      refine G_q rfl (op_len_row (by kernel_rfl) rfl ?_)
      refine G_q rfl (op_move (av := .exact (.int .i64 0)) rfl ?_)
      refine G_nil ?_
      refine kC_normal ?_
      refine k_block ?_
      refine k_loop2_0 (m_finset_BigUnion_L2 y1 k2) (m_finset_BigUnion_B2 y1 k2) (fun _ _ => rfl) (fun m _ _ => rfl) h (fun (x6_l2 : List (List UInt8)) (x19_l2 : Int) => (AF.put (AF.put (AF.put (AF.put AF0 (some 6) (.row 1 c_api_Value x6_l2)) (some 17) (.row 1 c_L_api_Value y1.1)) (some 18) (.exact (.int .i64 (List.length y1.1 : Int)))) (some 19) (.exact (.int .i64 x19_l2)))) (fun (x6_l2 : List (List UInt8)) (x19_l2 : Int) => []) ?_ (fun rec2 x6_l2 x19_l2 h => ?_)
      · exact Sub.of_le (AF.le_put (AV.le_eq rfl) (AF.le_put (AV.le_eq rfl) (AF.le_put (AV.le_eq rfl) (AF.le_put (row_nil (by decide)) (AF.le_top _)))))
      · unfold m_finset_BigUnion_B2 at h
        refine k_seq ?_
        refine k_reg .free hmixP (by kernel_rfl) ?_
        refine G_q rfl (op_lss rfl rfl ?_)
        refine G_nil ?_
        refine kC_normal ?_
        refine k_seq ?_
        refine k_cond_d (p := x19_l2 < (List.length y1.1 : Int)) rfl (fun hc => ?_) (fun hc => ?_)
        · replace h := ite_t h hc
          refine k_skip ?_
          refine kC_normal ?_
          refine k_seq ?_
          refine k_block ?_
          refine k_seq ?_
          refine k_reg .free hmixP (by kernel_rfl) ?_
          obtain ⟨n14, h⟩ := need_some h
          refine G_q rfl (op_index_row (by kernel_rfl) rfl rfl n14.1 n14.2 ?_)
          refine G_q rfl (op_load1p (a := .row 1 c_api_Value (gi y1.1 x19_l2)) (by kernel_rfl) rfl rfl ?_)
          refine G_q rfl (op_assign (av := .row 1 c_api_Value (gi y1.1 x19_l2)) rfl ?_)
          refine G_nil ?_
          refine kC_normal ?_
          refine k_reg .free hmixP (by kernel_rfl) ?_
          refine G_q rfl (op_move (av := .row 1 c_api_Value x6_l2) rfl ?_)
          refine G_q rfl (op_move (av := .row 1 c_api_Value (gi y1.1 x19_l2)) rfl ?_)
          obtain ⟨y15, hy15, h⟩ := bnd1_some h
          refine G_q rfl (op_pure (m_finset_merge_ok _ _ _ _ hy15) Try.func34 (by kernel_rfl) (LEs.cons (AV.le_eq rfl) (LEs.cons (AV.le_eq rfl) (LEs.cons ((fn_le Try.func24 (by kernel_rfl) (fun i r h => m_finset_either_ok i.1 i.2 r h))) LEs.nil))) ?_)
          refine G_q rfl (op_assign (av := .row 1 c_api_Value y15) rfl ?_)
          refine G_nil ?_
          refine kB_normal ?_
          refine kC_normal ?_
          refine k_reg .free hmixP (by kernel_rfl) ?_
          refine G_q rfl (op_add rfl rfl rfl ?_)
          refine G_q rfl (op_move (av := .exact (.int .i64 (i64 (x19_l2 + 1)))) rfl ?_)
          refine G_nil ?_
          refine kI_normal ⟨_, _, h, ?_⟩
          exact Sub.of_le (AF.le_put (AV.le_eq rfl) (AF.le_put (AV.le_eq rfl) (AF.le_put (AV.le_eq rfl) (AF.le_put (AV.le_eq rfl) (AF.le_top _)))))
        · replace h := ite_f h hc
          refine k_exit ?_
          refine kC_exit ?_
          refine kI_exit ?_
          refine kB_exit ?_
          refine kI_normal ⟨_, h, ?_⟩
          exact Sub.of_le (AF.le_put (AV.le_eq rfl) (AF.le_top _))
    · refine k_seq ?_
      refine k_reg .free hmixP (by kernel_rfl) ?_
      refine G_q rfl (op_move (av := .row 1 c_api_Value x6_j2) rfl ?_)
      obtain ⟨y16, hy16, h⟩ := bnd1_some h
      refine G_q rfl (op_pure (m_finset_set_ok _ _ hy16) Try.func30 (by kernel_rfl) (LEs.cons (AV.le_eq rfl) LEs.nil) ?_)
      refine G_q rfl (op_extract (av := .exact (.string (bs y16.1))) rfl rfl ?_)
      refine G_q rfl (op_extract (av := .exact (.int .i64 y16.2)) rfl rfl ?_)
      refine G_q rfl (op_assign (av := .exact (.string (bs y16.1))) rfl ?_)
      refine G_q rfl (op_assign (av := .exact (.int .i64 y16.2)) rfl ?_)
      refine G_nil ?_
      refine kC_normal ?_
      refine k_ret ?_
      obtain rfl := Option.some.inj h
      refine kP_any (endN (af' := (AF.put (AF.put AF0 (some 2) (.exact (.string (bs y16.1)))) (some 3) (.exact (.int .i64 y16.2)))) (σ' := []) _ rfl ?_ ⟨rfl, rfl⟩)
      exact Sub.of_le (AF.le_put (AV.le_eq rfl) (AF.le_put (AV.le_eq rfl) (AF.le_top _)))
set_option maxHeartbeats 4000000 in
theorem m_law10_FinsetSubsetsCount_ok (a0 : List Int) (r : Bool) (h : m_law10_FinsetSubsetsCount a0 = some r) : Pure Try.prog 4 [(.row 1 c_int a0)] (.exact (.bool r)) := by
  unfold m_law10_FinsetSubsetsCount at h
  refine Pure.ofFun (fun_of_awp Try.func4 rfl Try.ntmps4 (by simp) rfl (res1 rfl) fun E hE => k_end ?_)
  refine k_seq ?_
  refine k_reg .free hmixP (by kernel_rfl) ?_
  refine G_q rfl (op_assign (av := .exact (.bool false)) rfl ?_)
  refine G_nil ?_
  refine kC_normal ?_
  refine k_seq ?_
  refine k_reg .free hmixP (by kernel_rfl) ?_
  refine G_q rfl (op_move (av := .row 1 c_int a0) rfl ?_)
  obtain ⟨y1, hy1, h⟩ := bnd1_some h
  refine G_l rfl (op_fun_0_1_1 (m_gen_New_ok _ _ hy1) Try.func7 (by kernel_rfl) (LEs.cons (AV.le_eq rfl) LEs.nil) (fun b2 => ?_))
  obtain ⟨y3, hy3, h⟩ := bnd1_some h
  refine G_l rfl (op_fun_1_0_1 (m_gen_Choices_Ints_ok _ _ hy3) Try.func8 (by kernel_rfl) (LEs.cons (AV.le_eq rfl) LEs.nil) ?_)
  refine G_q rfl (op_assign (av := .exact (.string (bs y3.1))) rfl ?_)
  refine G_nil ?_
  refine kC_normal ?_
  refine k_seq ?_
  refine k_reg .free hmixP (by kernel_rfl) ?_
  refine G_q rfl (op_move (av := .exact (.string (bs y3.1))) rfl ?_)
  obtain ⟨y4, hy4, h⟩ := bnd1_some h
  refine G_q rfl (op_pure (m_finset_Subsets_ok _ _ hy4) Try.func13 (by kernel_rfl) (LEs.cons (AV.le_eq rfl) LEs.nil) ?_)
  refine G_q rfl (op_move (av := .tup [.exact (.string (bs y4.1)), .exact (.int .i64 y4.2)]) rfl ?_)
  refine G_q rfl (op_extract (av := .exact (.string (bs y4.1))) rfl rfl ?_)
  refine G_q rfl (op_extract (av := .exact (.int .i64 y4.2)) rfl rfl ?_)
  refine G_q rfl (op_assign (av := .exact (.string (bs y4.1))) rfl ?_)
  refine G_q rfl (op_assign (av := .exact (.int .i64 y4.2)) rfl ?_)
  refine G_nil ?_
  refine kC_normal ?_
  refine k_seq ?_
  refine k_reg .free hmixP (by kernel_rfl) ?_
  refine G_q rfl (op_move (av := .exact (.string (bs y4.1))) rfl ?_)
  obtain ⟨y5, hy5, h⟩ := bnd1_some h
  refine G_q rfl (op_pure (m_ref9_Parts_ok _ _ hy5) Try.func14 (by kernel_rfl) (LEs.cons (AV.le_eq rfl) LEs.nil) ?_)
  refine G_q rfl (op_assign (av := .row 1 c_api_Value y5) rfl ?_)
  refine G_nil ?_
  refine kC_normal ?_
  refine k_seq ?_
  refine k_join1_0 h (fun (x37_j14 : Bool) => (AF.put (AF.put (AF.put (AF.put AF0 (some 3) (.exact (.string (bs y3.1)))) (some 4) (.exact (.string (bs y4.1)))) (some 6) (.row 1 c_api_Value y5)) (some 37) (.exact (.bool x37_j14)))) (fun (x37_j14 : Bool) => []) (fun k14 h => ?_) (fun x37_j14 h => ?_)
  · refine k_reg .free hmixP (by kernel_rfl) ?_
    obtain ⟨y18, hy18, h⟩ := bnd1_some h
    refine G_q rfl (op_pure (m_law10_awake_ok _ hy18) Try.func12 (by kernel_rfl) LEs.nil ?_)
    refine G_q rfl (op_not rfl ?_)
    refine G_q rfl (op_move (av := .exact (.bool (!y18))) rfl ?_)
    refine G_splitB (c := !y18) 24 rfl (fun hc => ?_) (fun hc => ?_)
    · replace h := ite_t h hc
      refine G_n rfl rfl ?_
      refine G_n rfl rfl ?_
      refine G_q rfl (op_pick_t rfl (av := .exact (.bool true)) rfl ?_)
      refine G_q rfl (op_move (av := .exact (.bool true)) rfl ?_)
      refine G_n rfl rfl ?_
      refine G_n rfl rfl ?_
      refine G_n rfl rfl ?_
      refine G_n rfl rfl ?_
      refine G_n rfl rfl ?_
      refine G_n rfl rfl ?_
      refine G_n rfl rfl ?_
      refine G_n rfl rfl ?_
      refine G_q rfl (op_pick_t rfl (av := .exact (.bool true)) rfl ?_)
      refine G_nil ?_
      refine kI_normal ⟨_, h, ?_⟩
      refine Sub.trans (SubU.to SubU.drop) ?_
      exact Sub.of_le (AF.le_put (AV.le_eq rfl) (AF.le_put (AV.le_eq rfl) (AF.le_put (AV.le_eq rfl) (AF.le_put (AV.le_eq rfl) (AF.le_top _)))))
    · replace h := ite_f h hc
      refine Gy_q rfl rfl rfl (op_move (av := .exact (.int .i64 y4.2)) rfl ?_)
      refine Gy_q rfl rfl rfl (op_neq rfl rfl ?_)
      refine G_q rfl (op_pick_f rfl (av := .exact (.bool (decide (¬ y4.2 = 0)))) rfl ?_)
      refine G_q rfl (op_move (av := .exact (.bool (decide (¬ y4.2 = 0)))) rfl ?_)
      refine G_split (p := ¬ y4.2 = 0) 28 rfl (fun hc => ?_) (fun hc => ?_)
      · replace h := ite_t h hc
        refine G_n rfl rfl ?_
        refine G_n rfl rfl ?_
        refine G_n rfl rfl ?_
        refine G_n rfl rfl ?_
        refine G_n rfl rfl ?_
        refine G_n rfl rfl ?_
        refine G_n rfl rfl ?_
        refine G_n rfl rfl ?_
        refine G_q rfl (op_pick_t rfl (av := .exact (.bool true)) rfl ?_)
        refine G_nil ?_
        refine kI_normal ⟨_, h, ?_⟩
        refine Sub.trans (SubU.to SubU.drop) ?_
        exact Sub.of_le (AF.le_put (AV.le_eq rfl) (AF.le_put (AV.le_eq rfl) (AF.le_put (AV.le_eq rfl) (AF.le_put (AV.le_eq rfl) (AF.le_top _)))))
      · replace h := ite_f h hc
        refine Gy_q rfl rfl rfl (op_move (av := .row 1 c_api_Value y5) rfl ?_)
        refine Gy_q rfl rfl rfl (op_len_row (by kernel_rfl) rfl ?_)
        refine Gy_q rfl rfl rfl (op_move (av := .exact (.string (bs y3.1))) rfl ?_)
        obtain ⟨y19, hy19, h⟩ := bnd1_some h
        refine Gy_q rfl rfl rfl (op_pure (m_ref9_Parts_ok _ _ hy19) Try.func14 (by kernel_rfl) (LEs.cons (AV.le_eq rfl) LEs.nil) ?_)
        refine Gy_q rfl rfl rfl (op_len_row (by kernel_rfl) rfl ?_)
        refine Gy_q rfl rfl rfl (op_convInt (k := .u64) (by kernel_rfl) rfl rfl ?_)
        obtain ⟨n20, h⟩ := need_some h
        refine Gy_q rfl rfl rfl (op_shl rfl rfl n20 rfl ?_)
        refine Gy_q rfl rfl rfl (op_neq rfl rfl ?_)
        refine G_q rfl (op_pick_f rfl (av := .exact (.bool (decide (¬ (List.length y5 : Int) = (i64 (1 * 2 ^ min (Int.toNat (IntKind.u64.wrap ((List.length y19 : Int)))) IntKind.i64.bits)))))) rfl ?_)
        refine G_nil ?_
        refine kI_normal ⟨_, h, ?_⟩
        refine Sub.trans (SubU.to SubU.drop) ?_
        exact Sub.of_le (AF.le_put (AV.le_eq rfl) (AF.le_put (AV.le_eq rfl) (AF.le_put (AV.le_eq rfl) (AF.le_put (AV.le_eq rfl) (AF.le_top _)))))
  · refine k_cond_b (c := x37_j14) rfl (fun hc => ?_) (fun hc => ?_)
    · replace h := ite_t h hc
      refine k_seq ?_
      refine k_reg .free hmixP (by kernel_rfl) ?_
      refine G_q rfl (op_assign (av := .exact (.bool false)) rfl ?_)
      refine G_nil ?_
      refine kC_normal ?_
      refine k_ret ?_
      refine kC_ret ?_
      obtain rfl := Option.some.inj h
      refine kP_any (endN (af' := (AF.put AF0 (some 2) (.exact (.bool false)))) (σ' := []) _ rfl ?_ ⟨rfl, rfl⟩)
      exact Sub.of_le (AF.le_put (AV.le_eq rfl) (AF.le_top _))
    · replace h := ite_f h hc
      refine k_skip ?_
      refine kC_normal ?_
      refine k_join0_0 h ((AF.put (AF.put AF0 (some 3) (.exact (.string (bs y3.1)))) (some 4) (.exact (.string (bs y4.1))))) ([]) (fun k21 h => ?_) (fun  h => ?_)
      · refine k_seq ?_
        refine k_reg .free hmixP (by kernel_rfl) ?_
        refine G_q rfl (op_assign (av := .exact (.int .i64 0)) rfl ?_)
        refine G_nil ?_
        refine kC_normal ?_
        refine k_block ?_
        refine k_loop1_0 (m_law10_FinsetSubsetsCount_L2 y3 y5 k21) (m_law10_FinsetSubsetsCount_B2 y3 y5 k21) (fun _ => rfl) (fun m _ => rfl) h (fun (x7_l2 : Int) => (AF.put (AF.put (AF.put (AF.put AF0 (some 3) (.exact (.string (bs y3.1)))) (some 4) (.exact (.string (bs y4.1)))) (some 6) (.row 1 c_api_Value y5)) (some 7) (.exact (.int .i64 x7_l2)))) (fun (x7_l2 : Int) => []) ?_ (fun rec2 x7_l2 h => ?_)
        · exact Sub.of_le (AF.le_put (AV.le_eq rfl) (AF.le_put (AV.le_eq rfl) (AF.le_put (AV.le_eq rfl) (AF.le_put (AV.le_eq rfl) (AF.le_top _)))))
        · unfold m_law10_FinsetSubsetsCount_B2 at h
          refine k_seq ?_
          refine k_seq ?_
          refine k_reg .free hmixP (by kernel_rfl) ?_
          refine G_q rfl (op_move (av := .exact (.int .i64 x7_l2)) rfl ?_)
          refine G_q rfl (op_move (av := .row 1 c_api_Value y5) rfl ?_)
          refine G_q rfl (op_len_row (by kernel_rfl) rfl ?_)
          refine G_q rfl (op_lss rfl rfl ?_)
          refine G_nil ?_
          refine kC_normal ?_
          refine k_cond_d (p := x7_l2 < (List.length y5 : Int)) rfl (fun hc => ?_) (fun hc => ?_)
          · replace h := ite_t h hc
            refine k_skip ?_
            refine kC_normal ?_
            refine k_seq ?_
            refine k_block ?_
            refine k_seq ?_
            refine k_reg .free hmixP (by kernel_rfl) ?_
            refine G_q rfl (op_move (av := .row 1 c_api_Value y5) rfl ?_)
            refine G_q rfl (op_move (av := .exact (.int .i64 x7_l2)) rfl ?_)
            obtain ⟨n84, h⟩ := need_some h
            refine G_q rfl (op_index_row (by kernel_rfl) rfl rfl n84.1 n84.2 ?_)
            refine G_q rfl (op_load1p (a := .exact (.string (bs (gi y5 x7_l2)))) (by kernel_rfl) rfl rfl ?_)
            refine G_q rfl (op_move (av := .exact (.string (bs y3.1))) rfl ?_)
            obtain ⟨y85, hy85, h⟩ := bnd1_some h
            refine G_q rfl (op_pure (m_finset_Diff_ok _ _ _ hy85) Try.func11 (by kernel_rfl) (LEs.cons (AV.le_eq rfl) (LEs.cons (AV.le_eq rfl) LEs.nil)) ?_)
            refine G_q rfl (op_move (av := .tup [.exact (.string (bs y85.1)), .exact (.int .i64 y85.2)]) rfl ?_)
            refine G_q rfl (op_extract (av := .exact (.string (bs y85.1))) rfl rfl ?_)
            refine G_q rfl (op_extract (av := .exact (.int .i64 y85.2)) rfl rfl ?_)
            refine G_q rfl (op_assign (av := .exact (.string (bs y85.1))) rfl ?_)
            refine G_q rfl (op_assign (av := .exact (.int .i64 y85.2)) rfl ?_)
            refine G_nil ?_
            refine kC_normal ?_
            refine k_join1_0 h (fun (x60_j86 : Bool) => (AF.put (AF.put (AF.put (AF.put (AF.put AF0 (some 3) (.exact (.string (bs y3.1)))) (some 4) (.exact (.string (bs y4.1)))) (some 6) (.row 1 c_api_Value y5)) (some 7) (.exact (.int .i64 x7_l2))) (some 60) (.exact (.bool x60_j86)))) (fun (x60_j86 : Bool) => []) (fun k86 h => ?_) (fun x60_j86 h => ?_)
            · refine k_reg .free hmixP (by kernel_rfl) ?_
              refine G_q rfl (op_move (av := .exact (.int .i64 y85.2)) rfl ?_)
              refine G_q rfl (op_neq rfl rfl ?_)
              refine G_q rfl (op_move (av := .exact (.bool (decide (¬ y85.2 = 0)))) rfl ?_)
              refine G_split (p := ¬ y85.2 = 0) 55 rfl (fun hc => ?_) (fun hc => ?_)
              · replace h := ite_t h hc
                refine G_n rfl rfl ?_
                refine G_n rfl rfl ?_
                refine G_n rfl rfl ?_
                refine G_n rfl rfl ?_
                refine G_q rfl (op_pick_t rfl (av := .exact (.bool true)) rfl ?_)
                refine G_nil ?_
                refine kI_normal ⟨_, h, ?_⟩
                exact Sub.of_le (AF.le_put (AV.le_eq rfl) (AF.le_put (AV.le_eq rfl) (AF.le_put (AV.le_eq rfl) (AF.le_put (AV.le_eq rfl) (AF.le_put (AV.le_eq rfl) (AF.le_top _))))))
              · replace h := ite_f h hc
                refine Gy_q rfl rfl rfl (op_move (av := .exact (.string (bs y85.1))) rfl ?_)
                obtain ⟨y88, hy88, h⟩ := bnd1_some h
                refine Gy_q rfl rfl rfl (op_pure (m_ref9_Parts_ok _ _ hy88) Try.func14 (by kernel_rfl) (LEs.cons (AV.le_eq rfl) LEs.nil) ?_)
                refine Gy_q rfl rfl rfl (op_len_row (by kernel_rfl) rfl ?_)
                refine Gy_q rfl rfl rfl (op_gtr rfl rfl ?_)
                refine G_q rfl (op_pick_f rfl (av := .exact (.bool (decide (0 < (List.length y88 : Int))))) rfl ?_)
                refine G_nil ?_
                refine kI_normal ⟨_, h, ?_⟩
                exact Sub.of_le (AF.le_put (AV.le_eq rfl) (AF.le_put (AV.le_eq rfl) (AF.le_put (AV.le_eq rfl) (AF.le_put (AV.le_eq rfl) (AF.le_put (AV.le_eq rfl) (AF.le_top _))))))
            · refine k_cond_b (c := x60_j86) rfl (fun hc => ?_) (fun hc => ?_)
              · replace h := ite_t h hc
                refine k_seq ?_
                refine k_reg .free hmixP (by kernel_rfl) ?_
                refine G_q rfl (op_assign (av := .exact (.bool false)) rfl ?_)
                refine G_nil ?_
                refine kC_normal ?_
                refine k_ret ?_
                refine kB_ret ?_
                refine kC_ret ?_
                refine kI_ret ?_
                refine kB_ret ?_
                refine kI_ret ?_
                obtain rfl := Option.some.inj h
                refine kP_any (endN (af' := (AF.put AF0 (some 2) (.exact (.bool false)))) (σ' := []) _ rfl ?_ ⟨rfl, rfl⟩)
                exact Sub.of_le (AF.le_put (AV.le_eq rfl) (AF.le_top _))
              · replace h := ite_f h hc
                refine k_skip ?_
                refine kB_normal ?_
                refine kC_normal ?_
                refine k_reg .free hmixP (by kernel_rfl) ?_
                refine G_q rfl (op_move (av := .exact (.int .i64 x7_l2)) rfl ?_)
                refine G_q rfl (op_add rfl rfl rfl ?_)
                refine G_q rfl (op_assign (av := .exact (.int .i64 (i64 (x7_l2 + 1)))) rfl ?_)
                refine G_nil ?_
                refine kI_normal ⟨_, h, ?_⟩
                exact Sub.of_le (AF.le_put (AV.le_eq rfl) (AF.le_put (AV.le_eq rfl) (AF.le_put (AV.le_eq rfl) (AF.le_put (AV.le_eq rfl) (AF.le_top _)))))
          · replace h := ite_f h hc
            refine k_exit ?_
            refine kC_exit ?_
            refine kI_exit ?_
            refine kB_exit ?_
            refine kI_normal ⟨h, ?_⟩
            exact Sub.of_le (AF.le_put (AV.le_eq rfl) (AF.le_put (AV.le_eq rfl) (AF.le_top _)))
      · refine k_seq ?_
        refine k_reg .free hmixP (by kernel_rfl) ?_
        refine G_q rfl (op_move (av := .exact (.string (bs y4.1))) rfl ?_)
        obtain ⟨y89, hy89, h⟩ := bnd1_some h
        refine G_q rfl (op_pure (m_finset_BigUnion_ok _ _ hy89) Try.func15 (by kernel_rfl) (LEs.cons (AV.le_eq rfl) LEs.nil) ?_)
        refine G_q rfl (op_move (av := .tup [.exact (.string (bs y89.1)), .exact (.int .i64 y89.2)]) rfl ?_)
        refine G_q rfl (op_extract (av := .exact (.string (bs y89.1))) rfl rfl ?_)
        refine G_q rfl (op_extract (av := .exact (.int .i64 y89.2)) rfl rfl ?_)
        refine G_q rfl (op_assign (av := .exact (.string (bs y89.1))) rfl ?_)
        refine G_q rfl (op_assign (av := .exact (.int .i64 y89.2)) rfl ?_)
        refine G_nil ?_
        refine kC_normal ?_
        refine k_join1_0 h (fun (x2_j90 : Bool) => (AF.put AF0 (some 2) (.exact (.bool x2_j90)))) (fun (x2_j90 : Bool) => []) (fun k90 h => ?_) (fun x2_j90 h => ?_)
        · refine k_reg .free hmixP (by kernel_rfl) ?_
          refine G_q rfl (op_move (av := .exact (.int .i64 y89.2)) rfl ?_)
          refine G_q rfl (op_eql rfl rfl ?_)
          refine G_q rfl (op_move (av := .exact (.bool (decide (y89.2 = 0)))) rfl ?_)
          refine G_split (p := y89.2 = 0) 68 rfl (fun hc => ?_) (fun hc => ?_)
          · replace h := ite_t h hc
            refine Gy_q rfl rfl rfl (op_move (av := .exact (.string (bs y89.1))) rfl ?_)
            refine Gy_q rfl rfl rfl (op_move (av := .exact (.string (bs y3.1))) rfl ?_)
            refine Gy_q rfl rfl rfl (op_eqlS rfl rfl ?_)
            refine G_q rfl (op_pick_t rfl (av := .exact (.bool (decide (y89.1 = y3.1)))) rfl ?_)
            refine G_q rfl (op_assign (av := .exact (.bool (decide (y89.1 = y3.1)))) rfl ?_)
            refine G_nil ?_
            refine kI_normal ⟨_, h, ?_⟩
            exact Sub.of_le (AF.le_put (AV.le_eq rfl) (AF.le_top _))
          · replace h := ite_f h hc
            refine G_n rfl rfl ?_
            refine G_n rfl rfl ?_
            refine G_n rfl rfl ?_
            refine G_q rfl (op_pick_f rfl (av := .exact (.bool false)) rfl ?_)
            refine G_q rfl (op_assign (av := .exact (.bool false)) rfl ?_)
            refine G_nil ?_
            refine kI_normal ⟨_, h, ?_⟩
            exact Sub.of_le (AF.le_put (AV.le_eq rfl) (AF.le_top _))
        · refine k_ret ?_
          obtain rfl := Option.some.inj h
          refine kP_any (endN (af' := (AF.put AF0 (some 2) (.exact (.bool x2_j90)))) (σ' := []) _ rfl ?_ ⟨rfl, rfl⟩)
          exact Sub.of_le (AF.le_put (AV.le_eq rfl) (AF.le_top _))
end Go.Proofs.Ytdbnodliomlilaa
/- The functions compute their models, by program. -/
namespace Go.Proofs.Ytdbnodliomlilaa
open Go.RowKit
attribute [local irreducible] AV.exact AV.top AV.row AV.ptr AV.agg AV.tup AV.eptr AV.fn AV.nilq AV.nilqn opA opB opM opR Quiet Loud Reads wpG awp den Sub SubU Pure Fun vecI vecT boxI CellsAll CellsOf OneC LEs LEss
set_option maxRecDepth 100000

end Go.Proofs.Ytdbnodliomlilaa
