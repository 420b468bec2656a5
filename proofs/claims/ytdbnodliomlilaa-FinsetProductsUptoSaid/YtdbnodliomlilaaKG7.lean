/- The functions compute their models, by program. -/
import Derived.Test.YtdbnodliomlilaaKG6
namespace Go.Proofs.Ytdbnodliomlilaa
open Go.RowKit
attribute [local irreducible] AV.exact AV.top AV.row AV.ptr AV.agg AV.tup AV.eptr AV.fn AV.nilq AV.nilqn opA opB opM opR Quiet Loud Reads wpG awp den Sub SubU Pure Fun vecI vecT boxI CellsAll CellsOf OneC LEs LEss
set_option maxRecDepth 100000

set_option maxHeartbeats 4000000 in
theorem m_finset_Subsets_ok (a0 : List UInt8) (r : (List UInt8) × Int) (h : m_finset_Subsets a0 = some r) : Pure Try.prog 13 [(.exact (.string (bs a0)))] (.tup [.exact (.string (bs r.1)), .exact (.int .i64 r.2)]) := by
  unfold m_finset_Subsets at h
  refine Pure.ofFun (fun_of_awp Try.func13 rfl Try.ntmps13 (by simp) rfl (res2 rfl) fun E hE => k_end ?_)
  refine k_seq ?_
  refine k_reg .free hmixP (by kernel_rfl) ?_
  refine G_q rfl (op_assign (av := .exact (.string (bs ([] : List UInt8)))) rfl ?_)
  refine G_q rfl (op_assign (av := .exact (.int .i64 0)) rfl ?_)
  refine G_nil ?_
  refine kC_normal ?_
  refine k_seq ?_
  refine k_reg .free hmixP (by kernel_rfl) ?_
  refine G_q rfl (op_move (av := .exact (.string (bs a0))) rfl ?_)
  refine G_q rfl (op_litT (n := 1) (enc := c_api_Value) [a0] (CellsAll.cons rfl CellsOf.str CellsAll.nil) rfl (by kernel_rfl) (LEss.cons (LEs.cons (AV.le_eq rfl) LEs.nil) LEss.nil) ?_)
  obtain ⟨y1, hy1, h⟩ := bnd1_some h
  refine G_q rfl (op_pure (m_finset_elements_ok _ _ hy1) Try.func28 (by kernel_rfl) (LEs.cons (AV.le_eq rfl) LEs.nil) ?_)
  refine G_q rfl (op_move (av := .tup [.row 1 c_L_api_Value y1.1, .exact (.int .i64 y1.2)]) rfl ?_)
  refine G_q rfl (op_extract (av := .row 1 c_L_api_Value y1.1) rfl rfl ?_)
  refine G_q rfl (op_extract (av := .exact (.int .i64 y1.2)) rfl rfl ?_)
  refine G_q rfl (op_assign (av := .row 1 c_L_api_Value y1.1) rfl ?_)
  refine G_q rfl (op_assign (av := .exact (.int .i64 y1.2)) rfl ?_)
  refine G_nil ?_
  refine kC_normal ?_
  refine k_seq ?_
  refine k_seq ?_
  refine k_reg .free hmixP (by kernel_rfl) ?_
  refine G_q rfl (op_move (av := .exact (.int .i64 y1.2)) rfl ?_)
  refine G_q rfl (op_neq rfl rfl ?_)
  refine G_nil ?_
  refine kC_normal ?_
  refine k_cond_d (p := ¬ y1.2 = 0) rfl (fun hc => ?_) (fun hc => ?_)
  · replace h := ite_t h hc
    refine k_seq ?_
    refine k_reg .free hmixP (by kernel_rfl) ?_
    refine G_q rfl (op_move (av := .exact (.int .i64 y1.2)) rfl ?_)
    refine G_q rfl (op_assign (av := .exact (.string (bs ([] : List UInt8)))) rfl ?_)
    refine G_q rfl (op_assign (av := .exact (.int .i64 y1.2)) rfl ?_)
    refine G_nil ?_
    refine kC_normal ?_
    refine k_ret ?_
    refine kC_ret ?_
    obtain rfl := Option.some.inj h
    refine kP_any (endN (af' := (AF.put (AF.put AF0 (some 2) (.exact (.string (bs ([] : List UInt8))))) (some 3) (.exact (.int .i64 y1.2)))) (σ' := []) _ rfl ?_ ⟨rfl, rfl⟩)
    exact Sub.of_le (AF.le_put (AV.le_eq rfl) (AF.le_put (AV.le_eq rfl) (AF.le_top _)))
  · replace h := ite_f h hc
    refine k_skip ?_
    refine kC_normal ?_
    refine k_seq ?_
    refine k_reg .free hmixP (by kernel_rfl) ?_
    refine G_q rfl (op_move (av := .row 1 c_L_api_Value y1.1) rfl ?_)
    obtain ⟨n2, h⟩ := need_some h
    refine G_q rfl (op_index_row (by kernel_rfl) rfl rfl n2.1 n2.2 ?_)
    refine G_q rfl (op_load1p (a := .row 1 c_api_Value (gi y1.1 0)) (by kernel_rfl) rfl rfl ?_)
    refine G_q rfl (op_len_row (by kernel_rfl) rfl ?_)
    refine G_q rfl (op_assign (av := .exact (.int .i64 (List.length (gi y1.1 0) : Int))) rfl ?_)
    refine G_nil ?_
    refine kC_normal ?_
    refine k_seq ?_
    refine k_join1_0 h (fun (x31_j7 : Bool) => (AF.put (AF.put (AF.put AF0 (some 4) (.row 1 c_L_api_Value y1.1)) (some 6) (.exact (.int .i64 (List.length (gi y1.1 0) : Int)))) (some 31) (.exact (.bool x31_j7)))) (fun (x31_j7 : Bool) => []) (fun k7 h => ?_) (fun x31_j7 h => ?_)
    · refine k_reg .free hmixP (by kernel_rfl) ?_
      refine G_q rfl (op_move (av := .exact (.int .i64 (List.length (gi y1.1 0) : Int))) rfl ?_)
      refine G_q rfl (op_geq rfl rfl ?_)
      refine G_q rfl (op_move (av := .exact (.bool (decide (62 ≤ (List.length (gi y1.1 0) : Int))))) rfl ?_)
      refine G_split (p := 62 ≤ (List.length (gi y1.1 0) : Int)) 27 rfl (fun hc => ?_) (fun hc => ?_)
      · replace h := ite_t h hc
        refine G_n rfl rfl ?_
        refine G_n rfl rfl ?_
        refine G_n rfl rfl ?_
        refine G_q rfl (op_pick_t rfl (av := .exact (.bool true)) rfl ?_)
        refine G_nil ?_
        refine kI_normal ⟨_, h, ?_⟩
        exact Sub.of_le (AF.le_put (AV.le_eq rfl) (AF.le_put (AV.le_eq rfl) (AF.le_put (AV.le_eq rfl) (AF.le_top _))))
      · replace h := ite_f h hc
        refine Gy_q rfl rfl rfl (op_move (av := .exact (.int .i64 (List.length (gi y1.1 0) : Int))) rfl ?_)
        obtain ⟨n9, h⟩ := need_some h
        refine Gy_q rfl rfl rfl (op_shl rfl rfl n9 rfl ?_)
        refine Gy_q rfl rfl rfl (op_gtr rfl rfl ?_)
        refine G_q rfl (op_pick_f rfl (av := .exact (.bool (decide (4096 < (i64 (1 * 2 ^ min (Int.toNat (List.length (gi y1.1 0) : Int)) IntKind.i64.bits)))))) rfl ?_)
        refine G_nil ?_
        refine kI_normal ⟨_, h, ?_⟩
        exact Sub.of_le (AF.le_put (AV.le_eq rfl) (AF.le_put (AV.le_eq rfl) (AF.le_put (AV.le_eq rfl) (AF.le_top _))))
    · refine k_cond_b (c := x31_j7) rfl (fun hc => ?_) (fun hc => ?_)
      · replace h := ite_t h hc
        refine k_seq ?_
        refine k_reg .free hmixP (by kernel_rfl) ?_
        refine G_q rfl (op_assign (av := .exact (.string (bs ([] : List UInt8)))) rfl ?_)
        refine G_q rfl (op_assign (av := .exact (.int .i64 9)) rfl ?_)
        refine G_nil ?_
        refine kC_normal ?_
        refine k_ret ?_
        refine kC_ret ?_
        obtain rfl := Option.some.inj h
        refine kP_any (endN (af' := (AF.put (AF.put AF0 (some 2) (.exact (.string (bs ([] : List UInt8))))) (some 3) (.exact (.int .i64 9)))) (σ' := []) _ rfl ?_ ⟨rfl, rfl⟩)
        exact Sub.of_le (AF.le_put (AV.le_eq rfl) (AF.le_put (AV.le_eq rfl) (AF.le_top _)))
      · replace h := ite_f h hc
        refine k_skip ?_
        refine kC_normal ?_
        refine k_seq ?_
        refine k_reg .free hmixP (by kernel_rfl) ?_
        refine G_q rfl (op_assign (av := .exact (.slice none 0 0)) rfl ?_)
        refine G_nil ?_
        refine kC_normal ?_
        refine k_join1_1 h (fun (x7_j10 : List (List UInt8)) (v7_j10 : Value) => (AF.put AF0 (some 7) (.exact v7_j10))) (fun (x7_j10 : List (List UInt8)) (v7_j10 : Value) => [vecT Try.prog 33 1 c_api_Value v7_j10 x7_j10]) (fun k10 h => ?_) (fun x7_j10 v7_j10 h => ?_)
        · refine k_seq ?_
          refine k_reg .free hmixP (by kernel_rfl) ?_
          refine G_q rfl (op_move (av := .exact (.int .i64 (List.length (gi y1.1 0) : Int))) rfl ?_)
          obtain ⟨n364, h⟩ := need_some h
          refine G_q rfl (op_shl rfl rfl n364 rfl ?_)
          refine G_q rfl (op_move (av := .exact (.int .i64 0)) rfl ?_)
          refine G_nil ?_
          refine kC_normal ?_
          refine k_block ?_
          refine k_loop2_1 (m_finset_Subsets_L14 y1 k10) (m_finset_Subsets_B14 y1 k10) (fun _ _ => rfl) (fun m _ _ => rfl) h (fun (x7_l14 : List (List UInt8)) (x34_l14 : Int) (v7_l14 : Value) => (AF.put (AF.put (AF.put (AF.put AF0 (some 4) (.row 1 c_L_api_Value y1.1)) (some 7) (.exact v7_l14)) (some 33) (.exact (.int .i64 (i64 (1 * 2 ^ min (Int.toNat (List.length (gi y1.1 0) : Int)) IntKind.i64.bits))))) (some 34) (.exact (.int .i64 x34_l14)))) (fun (x7_l14 : List (List UInt8)) (x34_l14 : Int) (v7_l14 : Value) => [vecT Try.prog 33 1 c_api_Value v7_l14 x7_l14]) (.slice none 0 0) ?_ (fun rec14 x7_l14 x34_l14 v7_l14 h => ?_)
          · refine Sub.trans (SubU.to (SubU.nilT (P := Try.prog) (t := 33) (n := 1) (enc := c_api_Value))) ?_
            exact Sub.of_le (AF.le_put (AV.le_eq rfl) (AF.le_put (AV.le_eq rfl) (AF.le_put (AV.le_eq rfl) (AF.le_put (AV.le_eq rfl) (AF.le_top _)))))
          · unfold m_finset_Subsets_B14 at h
            refine k_seq ?_
            refine k_reg .free hmixP (by kernel_rfl) ?_
            refine G_q rfl (op_lss rfl rfl ?_)
            refine G_nil ?_
            refine kC_normal ?_
            refine k_seq ?_
            refine k_cond_d (p := x34_l14 < (i64 (1 * 2 ^ min (Int.toNat (List.length (gi y1.1 0) : Int)) IntKind.i64.bits))) rfl (fun hc => ?_) (fun hc => ?_)
            · replace h := ite_t h hc
              refine k_skip ?_
              refine kC_normal ?_
              refine k_join1_1 h (fun (x7_j599 : List (List UInt8)) (v7_j599 : Value) => (AF.put (AF.put (AF.put (AF.put AF0 (some 4) (.row 1 c_L_api_Value y1.1)) (some 7) (.exact v7_j599)) (some 33) (.exact (.int .i64 (i64 (1 * 2 ^ min (Int.toNat (List.length (gi y1.1 0) : Int)) IntKind.i64.bits))))) (some 34) (.exact (.int .i64 x34_l14)))) (fun (x7_j599 : List (List UInt8)) (v7_j599 : Value) => [vecT Try.prog 33 1 c_api_Value v7_j599 x7_j599]) (fun k599 h => ?_) (fun x7_j599 v7_j599 h => ?_)
              · refine k_block ?_
                refine k_seq ?_
                refine k_reg .free hmixP (by kernel_rfl) ?_
                refine G_q rfl (op_move (av := .exact (.int .i64 x34_l14)) rfl ?_)
                refine G_q rfl (op_assign (av := .exact (.int .i64 x34_l14)) rfl ?_)
                refine G_nil ?_
                refine kC_normal ?_
                refine k_seq ?_
                refine k_reg .free hmixP (by kernel_rfl) ?_
                refine G_q rfl (op_assign (av := .exact (.slice none 0 0)) rfl ?_)
                refine G_nil ?_
                refine kC_normal ?_
                refine k_join1_1 h (fun (x9_j658 : List (List UInt8)) (v9_j658 : Value) => (AF.put (AF.put (AF.put (AF.put (AF.put AF0 (some 4) (.row 1 c_L_api_Value y1.1)) (some 7) (.exact v7_l14)) (some 9) (.exact v9_j658)) (some 33) (.exact (.int .i64 (i64 (1 * 2 ^ min (Int.toNat (List.length (gi y1.1 0) : Int)) IntKind.i64.bits))))) (some 34) (.exact (.int .i64 x34_l14)))) (fun (x9_j658 : List (List UInt8)) (v9_j658 : Value) => [vecT Try.prog 33 1 c_api_Value v7_l14 x7_l14, vecT Try.prog 33 1 c_api_Value v9_j658 x9_j658]) (fun k658 h => ?_) (fun x9_j658 v9_j658 h => ?_)
                · refine k_seq ?_
                  refine k_reg .free hmixP (by kernel_rfl) ?_
                  refine G_q rfl (op_move (av := .row 1 c_L_api_Value y1.1) rfl ?_)
                  obtain ⟨n686, h⟩ := need_some h
                  refine G_q rfl (op_index_row (by kernel_rfl) rfl rfl n686.1 n686.2 ?_)
                  refine G_q rfl (op_load1p (a := .row 1 c_api_Value (gi y1.1 0)) (by kernel_rfl) rfl rfl ?_)
                  refine G_q rfl (op_len_row (by kernel_rfl) rfl ?_)
                  refine G_q rfl (op_move (av := .exact (.int .i64 0)) rfl ?_)
                  refine G_nil ?_
                  refine kC_normal ?_
                  refine k_block ?_
                  refine k_loop2_1 (m_finset_Subsets_L26 y1 x34_l14 k658) (m_finset_Subsets_B26 y1 x34_l14 k658) (fun _ _ => rfl) (fun m _ _ => rfl) h (fun (x9_l26 : List (List UInt8)) (x41_l26 : Int) (v9_l26 : Value) => (AF.put (AF.put (AF.put (AF.put (AF.put (AF.put (AF.put (AF.put (AF.put AF0 (some 4) (.row 1 c_L_api_Value y1.1)) (some 7) (.exact v7_l14)) (some 8) (.exact (.int .i64 x34_l14))) (some 9) (.exact v9_l26)) (some 33) (.exact (.int .i64 (i64 (1 * 2 ^ min (Int.toNat (List.length (gi y1.1 0) : Int)) IntKind.i64.bits))))) (some 34) (.exact (.int .i64 x34_l14))) (some 39) (.row 1 c_api_Value (gi y1.1 0))) (some 40) (.exact (.int .i64 (List.length (gi y1.1 0) : Int)))) (some 41) (.exact (.int .i64 x41_l26)))) (fun (x9_l26 : List (List UInt8)) (x41_l26 : Int) (v9_l26 : Value) => [vecT Try.prog 33 1 c_api_Value v7_l14 x7_l14, vecT Try.prog 33 1 c_api_Value v9_l26 x9_l26]) (.slice none 0 0) ?_ (fun rec26 x9_l26 x41_l26 v9_l26 h => ?_)
                  · refine Sub.trans (SubU.to (SubU.nilT (P := Try.prog) (t := 33) (n := 1) (enc := c_api_Value))) ?_
                    refine Sub.trans (SubU.to SubU.f1) ?_
                    exact Sub.of_le (AF.le_put (AV.le_eq rfl) (AF.le_put (AV.le_eq rfl) (AF.le_put (AV.le_eq rfl) (AF.le_put (AV.le_eq rfl) (AF.le_put (AV.le_eq rfl) (AF.le_put (AV.le_eq rfl) (AF.le_put (AV.le_eq rfl) (AF.le_put (AV.le_eq rfl) (AF.le_put (AV.le_eq rfl) (AF.le_top _))))))))))
                  · unfold m_finset_Subsets_B26 at h
                    refine k_seq ?_
                    refine k_reg .free hmixP (by kernel_rfl) ?_
                    refine G_q rfl (op_lss rfl rfl ?_)
                    refine G_nil ?_
                    refine kC_normal ?_
                    refine k_seq ?_
                    refine k_cond_d (p := x41_l26 < (List.length (gi y1.1 0) : Int)) rfl (fun hc => ?_) (fun hc => ?_)
                    · replace h := ite_t h hc
                      refine k_skip ?_
                      refine kC_normal ?_
                      refine k_join1_1 h (fun (x9_j703 : List (List UInt8)) (v9_j703 : Value) => (AF.put (AF.put (AF.put (AF.put (AF.put (AF.put (AF.put (AF.put (AF.put AF0 (some 4) (.row 1 c_L_api_Value y1.1)) (some 7) (.exact v7_l14)) (some 8) (.exact (.int .i64 x34_l14))) (some 9) (.exact v9_j703)) (some 33) (.exact (.int .i64 (i64 (1 * 2 ^ min (Int.toNat (List.length (gi y1.1 0) : Int)) IntKind.i64.bits))))) (some 34) (.exact (.int .i64 x34_l14))) (some 39) (.row 1 c_api_Value (gi y1.1 0))) (some 40) (.exact (.int .i64 (List.length (gi y1.1 0) : Int)))) (some 41) (.exact (.int .i64 x41_l26)))) (fun (x9_j703 : List (List UInt8)) (v9_j703 : Value) => [vecT Try.prog 33 1 c_api_Value v7_l14 x7_l14, vecT Try.prog 33 1 c_api_Value v9_j703 x9_j703]) (fun k703 h => ?_) (fun x9_j703 v9_j703 h => ?_)
                      · refine k_block ?_
                        refine k_seq ?_
                        refine k_reg .free hmixP (by kernel_rfl) ?_
                        refine G_q rfl (op_move (av := .exact (.int .i64 x41_l26)) rfl ?_)
                        obtain ⟨n708, h⟩ := need_some h
                        refine G_q rfl (op_index_row (by kernel_rfl) rfl rfl n708.1 n708.2 ?_)
                        refine G_q rfl (op_load1p (a := .exact (.string (bs (gi (gi y1.1 0) x41_l26)))) (by kernel_rfl) rfl rfl ?_)
                        refine G_q rfl (op_assign (av := .exact (.int .i64 x41_l26)) rfl ?_)
                        refine G_q rfl (op_assign (av := .exact (.string (bs (gi (gi y1.1 0) x41_l26)))) rfl ?_)
                        refine G_nil ?_
                        refine kC_normal ?_
                        refine k_seq ?_
                        refine k_reg .free hmixP (by kernel_rfl) ?_
                        refine G_q rfl (op_move (av := .exact (.int .i64 x34_l14)) rfl ?_)
                        refine G_q rfl (op_move (av := .exact (.int .i64 x41_l26)) rfl ?_)
                        obtain ⟨n709, h⟩ := need_some h
                        refine G_q rfl (op_shr rfl rfl n709 rfl ?_)
                        refine G_q rfl (op_and rfl rfl rfl ?_)
                        refine G_q rfl (op_eql rfl rfl ?_)
                        refine G_nil ?_
                        refine kC_normal ?_
                        refine k_cond_d (p := (bAnd .i64 (Int.fdiv x34_l14 (2 ^ min (Int.toNat x41_l26) IntKind.i64.bits)) 1) = 1) rfl (fun hc => ?_) (fun hc => ?_)
                        · replace h := ite_t h hc
                          refine k_reg .free hmixP (by kernel_rfl) ?_
                          refine G_q rfl (op_move (av := .exact v9_l26) rfl ?_)
                          refine G_q rfl (op_move (av := .exact (.string (bs (gi (gi y1.1 0) x41_l26)))) rfl ?_)
                          refine G_q rfl (op_litT (n := 1) (enc := c_api_Value) [gi (gi y1.1 0) x41_l26] (CellsAll.cons rfl CellsOf.str CellsAll.nil) rfl (by kernel_rfl) (LEss.cons (LEs.cons (AV.le_eq rfl) LEs.nil) LEss.nil) ?_)
                          obtain ⟨n710, h⟩ := need_some h
                          refine G_l rfl (opB_f1 (op_appT (by kernel_rfl) rfl rfl oc_c_api_Value n710 (fun v711 => ?_)))
                          refine G_q rfl (op_assign (av := .exact v711) rfl ?_)
                          refine G_nil ?_
                          refine kB_normal ?_
                          refine kI_normal ⟨_, v711, h, ?_⟩
                          refine Sub.trans (SubU.to SubU.f1) ?_
                          exact Sub.of_le (AF.le_put (AV.le_eq rfl) (AF.le_put (AV.le_eq rfl) (AF.le_put (AV.le_eq rfl) (AF.le_put (AV.le_eq rfl) (AF.le_put (AV.le_eq rfl) (AF.le_put (AV.le_eq rfl) (AF.le_put (AV.le_eq rfl) (AF.le_put (AV.le_eq rfl) (AF.le_put (AV.le_eq rfl) (AF.le_top _))))))))))
                        · replace h := ite_f h hc
                          refine k_skip ?_
                          refine kB_normal ?_
                          refine kI_normal ⟨_, v9_l26, h, ?_⟩
                          exact Sub.of_le (AF.le_put (AV.le_eq rfl) (AF.le_put (AV.le_eq rfl) (AF.le_put (AV.le_eq rfl) (AF.le_put (AV.le_eq rfl) (AF.le_put (AV.le_eq rfl) (AF.le_put (AV.le_eq rfl) (AF.le_put (AV.le_eq rfl) (AF.le_put (AV.le_eq rfl) (AF.le_put (AV.le_eq rfl) (AF.le_top _))))))))))
                      · refine k_reg .free hmixP (by kernel_rfl) ?_
                        refine G_q rfl (op_add rfl rfl rfl ?_)
                        refine G_q rfl (op_move (av := .exact (.int .i64 (i64 (x41_l26 + 1)))) rfl ?_)
                        refine G_nil ?_
                        refine kI_normal ⟨_, _, v9_j703, h, ?_⟩
                        exact Sub.of_le (AF.le_put (AV.le_eq rfl) (AF.le_put (AV.le_eq rfl) (AF.le_put (AV.le_eq rfl) (AF.le_put (AV.le_eq rfl) (AF.le_put (AV.le_eq rfl) (AF.le_put (AV.le_eq rfl) (AF.le_put (AV.le_eq rfl) (AF.le_put (AV.le_eq rfl) (AF.le_put (AV.le_eq rfl) (AF.le_top _))))))))))
                    · replace h := ite_f h hc
                      refine k_exit ?_
                      refine kC_exit ?_
                      refine kI_exit ?_
                      refine kB_exit ?_
                      refine kI_normal ⟨_, v9_l26, h, ?_⟩
                      exact Sub.of_le (AF.le_put (AV.le_eq rfl) (AF.le_put (AV.le_eq rfl) (AF.le_put (AV.le_eq rfl) (AF.le_put (AV.le_eq rfl) (AF.le_put (AV.le_eq rfl) (AF.le_top _))))))
                · refine k_reg .free hmixP (by kernel_rfl) ?_
                  refine G_q rfl (op_move (av := .exact v7_l14) rfl ?_)
                  refine G_q rfl (op_move (av := .exact v9_j658) rfl ?_)
                  refine G_sub rfl (SubU.trans SubU.f1 (SubU.freezeT2 (s1 := 9) (s2 := 57) rfl rfl len_c_api_Value)) ?_
                  obtain ⟨y712, hy712, h⟩ := bnd1_some h
                  refine G_q rfl (op_pure (m_value_Set_ok _ _ hy712) Try.func29 (by kernel_rfl) (LEs.cons (AV.le_eq rfl) LEs.nil) ?_)
                  refine G_q rfl (op_litT (n := 1) (enc := c_api_Value) [y712] (CellsAll.cons rfl CellsOf.str CellsAll.nil) rfl (by kernel_rfl) (LEss.cons (LEs.cons (AV.le_eq rfl) LEs.nil) LEss.nil) ?_)
                  obtain ⟨n713, h⟩ := need_some h
                  refine G_l rfl (op_appT (by kernel_rfl) rfl rfl oc_c_api_Value n713 (fun v714 => ?_))
                  refine G_q rfl (op_assign (av := .exact v714) rfl ?_)
                  refine G_nil ?_
                  refine kB_normal ?_
                  refine kI_normal ⟨_, v714, h, ?_⟩
                  exact Sub.of_le (AF.le_put (AV.le_eq rfl) (AF.le_put (AV.le_eq rfl) (AF.le_put (AV.le_eq rfl) (AF.le_put (AV.le_eq rfl) (AF.le_top _)))))
              · refine k_reg .free hmixP (by kernel_rfl) ?_
                refine G_q rfl (op_add rfl rfl rfl ?_)
                refine G_q rfl (op_move (av := .exact (.int .i64 (i64 (x34_l14 + 1)))) rfl ?_)
                refine G_nil ?_
                refine kI_normal ⟨_, _, v7_j599, h, ?_⟩
                exact Sub.of_le (AF.le_put (AV.le_eq rfl) (AF.le_put (AV.le_eq rfl) (AF.le_put (AV.le_eq rfl) (AF.le_put (AV.le_eq rfl) (AF.le_top _)))))
            · replace h := ite_f h hc
              refine k_exit ?_
              refine kC_exit ?_
              refine kI_exit ?_
              refine kB_exit ?_
              refine kI_normal ⟨_, v7_l14, h, ?_⟩
              exact Sub.of_le (AF.le_put (AV.le_eq rfl) (AF.le_top _))
        · refine k_seq ?_
          refine k_reg .free hmixP (by kernel_rfl) ?_
          refine G_q rfl (op_move (av := .exact v7_j10) rfl ?_)
          refine G_sub rfl (SubU.freezeT2 (s1 := 7) (s2 := 62) rfl rfl len_c_api_Value) ?_
          obtain ⟨y715, hy715, h⟩ := bnd1_some h
          refine G_q rfl (op_pure (m_finset_set_ok _ _ hy715) Try.func30 (by kernel_rfl) (LEs.cons (AV.le_eq rfl) LEs.nil) ?_)
          refine G_q rfl (op_extract (av := .exact (.string (bs y715.1))) rfl rfl ?_)
          refine G_q rfl (op_extract (av := .exact (.int .i64 y715.2)) rfl rfl ?_)
          refine G_q rfl (op_assign (av := .exact (.string (bs y715.1))) rfl ?_)
          refine G_q rfl (op_assign (av := .exact (.int .i64 y715.2)) rfl ?_)
          refine G_nil ?_
          refine kC_normal ?_
          refine k_ret ?_
          obtain rfl := Option.some.inj h
          refine kP_any (endN (af' := (AF.put (AF.put AF0 (some 2) (.exact (.string (bs y715.1)))) (some 3) (.exact (.int .i64 y715.2)))) (σ' := []) _ rfl ?_ ⟨rfl, rfl⟩)
          exact Sub.of_le (AF.le_put (AV.le_eq rfl) (AF.le_put (AV.le_eq rfl) (AF.le_top _)))
set_option maxHeartbeats 4000000 in
theorem m_finset_sets_ok (a0 : List UInt8) (r : (List (List (List UInt8))) × Int) (h : m_finset_sets a0 = some r) : Pure Try.prog 33 [(.exact (.string (bs a0)))] (.tup [.row 1 c_L_api_Value r.1, .exact (.int .i64 r.2)]) := by
  unfold m_finset_sets at h
  refine Pure.ofFun (fun_of_awp Try.func33 rfl Try.ntmps33 (by simp) rfl (res2 rfl) fun E hE => k_end ?_)
  refine k_seq ?_
  refine k_reg .free hmixP (by kernel_rfl) ?_
  refine G_q rfl (op_assign (av := .exact (.slice none 0 0)) rfl ?_)
  refine G_q rfl (op_assign (av := .exact (.int .i64 0)) rfl ?_)
  refine G_nil ?_
  refine kC_normal ?_
  refine k_seq ?_
  refine k_reg .free hmixP (by kernel_rfl) ?_
  refine G_q rfl (op_move (av := .exact (.string (bs a0))) rfl ?_)
  refine G_q rfl (op_litT (n := 1) (enc := c_api_Value) [a0] (CellsAll.cons rfl CellsOf.str CellsAll.nil) rfl (by kernel_rfl) (LEss.cons (LEs.cons (AV.le_eq rfl) LEs.nil) LEss.nil) ?_)
  obtain ⟨y1, hy1, h⟩ := bnd1_some h
  refine G_q rfl (op_pure (m_finset_elements_ok _ _ hy1) Try.func28 (by kernel_rfl) (LEs.cons (AV.le_eq rfl) LEs.nil) ?_)
  refine G_q rfl (op_move (av := .tup [.row 1 c_L_api_Value y1.1, .exact (.int .i64 y1.2)]) rfl ?_)
  refine G_q rfl (op_extract (av := .row 1 c_L_api_Value y1.1) rfl rfl ?_)
  refine G_q rfl (op_extract (av := .exact (.int .i64 y1.2)) rfl rfl ?_)
  refine G_q rfl (op_assign (av := .row 1 c_L_api_Value y1.1) rfl ?_)
  refine G_q rfl (op_assign (av := .exact (.int .i64 y1.2)) rfl ?_)
  refine G_nil ?_
  refine kC_normal ?_
  refine k_seq ?_
  refine k_seq ?_
  refine k_reg .free hmixP (by kernel_rfl) ?_
  refine G_q rfl (op_move (av := .exact (.int .i64 y1.2)) rfl ?_)
  refine G_q rfl (op_neq rfl rfl ?_)
  refine G_nil ?_
  refine kC_normal ?_
  refine k_cond_d (p := ¬ y1.2 = 0) rfl (fun hc => ?_) (fun hc => ?_)
  · replace h := ite_t h hc
    refine k_seq ?_
    refine k_reg .free hmixP (by kernel_rfl) ?_
    refine G_q rfl (op_move (av := .exact (.int .i64 y1.2)) rfl ?_)
    refine G_q rfl (op_assign (av := .exact (.slice none 0 0)) rfl ?_)
    refine G_q rfl (op_assign (av := .exact (.int .i64 y1.2)) rfl ?_)
    refine G_nil ?_
    refine kC_normal ?_
    refine k_ret ?_
    refine kC_ret ?_
    obtain rfl := Option.some.inj h
    refine kP_any (endN (af' := (AF.put (AF.put AF0 (some 2) (.row 1 c_L_api_Value [])) (some 3) (.exact (.int .i64 y1.2)))) (σ' := []) _ rfl ?_ ⟨rfl, rfl⟩)
    exact Sub.of_le (AF.le_put (AV.le_eq rfl) (AF.le_put (row_nil (by decide)) (AF.le_top _)))
  · replace h := ite_f h hc
    refine k_skip ?_
    refine kC_normal ?_
    refine k_seq ?_
    refine k_reg .free hmixP (by kernel_rfl) ?_
    refine G_q rfl (op_move (av := .row 1 c_L_api_Value y1.1) rfl ?_)
    obtain ⟨n2, h⟩ := need_some h
    refine G_q rfl (op_index_row (by kernel_rfl) rfl rfl n2.1 n2.2 ?_)
    refine G_q rfl (op_load1p (a := .row 1 c_api_Value (gi y1.1 0)) (by kernel_rfl) rfl rfl ?_)
    obtain ⟨y3, hy3, h⟩ := bnd1_some h
    refine G_q rfl (op_pure (m_finset_elements_ok _ _ hy3) Try.func28 (by kernel_rfl) (LEs.cons (AV.le_eq rfl) LEs.nil) ?_)
    refine G_q rfl (op_extract (av := .row 1 c_L_api_Value y3.1) rfl rfl ?_)
    refine G_q rfl (op_extract (av := .exact (.int .i64 y3.2)) rfl rfl ?_)
    refine G_q rfl (op_assign (av := .row 1 c_L_api_Value y3.1) rfl ?_)
    refine G_q rfl (op_assign (av := .exact (.int .i64 y3.2)) rfl ?_)
    refine G_nil ?_
    refine kC_normal ?_
    refine k_ret ?_
    obtain rfl := Option.some.inj h
    refine kP_any (endN (af' := (AF.put (AF.put AF0 (some 2) (.row 1 c_L_api_Value y3.1)) (some 3) (.exact (.int .i64 y3.2)))) (σ' := []) _ rfl ?_ ⟨rfl, rfl⟩)
    exact Sub.of_le (AF.le_put (AV.le_eq rfl) (AF.le_put (AV.le_eq rfl) (AF.le_top _)))
set_option maxHeartbeats 4000000 in
theorem m_finset_BigInter_ok (a0 : List UInt8) (r : (List UInt8) × Int) (h : m_finset_BigInter a0 = some r) : Pure Try.prog 27 [(.exact (.string (bs a0)))] (.tup [.exact (.string (bs r.1)), .exact (.int .i64 r.2)]) := by
  unfold m_finset_BigInter at h
  refine Pure.ofFun (fun_of_awp Try.func27 rfl Try.ntmps27 (by simp) rfl (res2 rfl) fun E hE => k_end ?_)
  refine k_seq ?_
  refine k_reg .free hmixP (by kernel_rfl) ?_
  refine G_q rfl (op_assign (av := .exact (.string (bs ([] : List UInt8)))) rfl ?_)
  refine G_q rfl (op_assign (av := .exact (.int .i64 0)) rfl ?_)
  refine G_nil ?_
  refine kC_normal ?_
  refine k_seq ?_
  refine k_reg .free hmixP (by kernel_rfl) ?_
  refine G_q rfl (op_move (av := .exact (.string (bs a0))) rfl ?_)
  obtain ⟨y1, hy1, h⟩ := bnd1_some h
  refine G_q rfl (op_pure (m_finset_sets_ok _ _ hy1) Try.func33 (by kernel_rfl) (LEs.cons (AV.le_eq rfl) LEs.nil) ?_)
  refine G_q rfl (op_move (av := .tup [.row 1 c_L_api_Value y1.1, .exact (.int .i64 y1.2)]) rfl ?_)
  refine G_q rfl (op_extract (av := .row 1 c_L_api_Value y1.1) rfl rfl ?_)
  refine G_q rfl (op_extract (av := .exact (.int .i64 y1.2)) rfl rfl ?_)
  refine G_q rfl (op_assign (av := .row 1 c_L_api_Value y1.1) rfl ?_)
  refine G_q rfl (op_assign (av := .exact (.int .i64 y1.2)) rfl ?_)
  refine G_nil ?_
  refine kC_normal ?_
  refine k_seq ?_
  refine k_block ?_
  refine k_seq ?_
  refine k_reg .free hmixP (by kernel_rfl) ?_
  refine G_q rfl (op_move (av := .exact (.int .i64 y1.2)) rfl ?_)
  refine G_q rfl (op_neq rfl rfl ?_)
  refine G_q rfl (op_assign (av := .exact (.bool (decide (¬ y1.2 = 0)))) rfl ?_)
  refine G_nil ?_
  refine kC_normal ?_
  refine k_cond_d (p := ¬ y1.2 = 0) rfl (fun hc => ?_) (fun hc => ?_)
  · replace h := ite_t h hc
    refine k_seq ?_
    refine k_reg .free hmixP (by kernel_rfl) ?_
    refine G_q rfl (op_move (av := .exact (.int .i64 y1.2)) rfl ?_)
    refine G_q rfl (op_assign (av := .exact (.string (bs ([] : List UInt8)))) rfl ?_)
    refine G_q rfl (op_assign (av := .exact (.int .i64 y1.2)) rfl ?_)
    refine G_nil ?_
    refine kC_normal ?_
    refine k_ret ?_
    refine kB_ret ?_
    refine kC_ret ?_
    obtain rfl := Option.some.inj h
    refine kP_any (endN (af' := (AF.put (AF.put AF0 (some 2) (.exact (.string (bs ([] : List UInt8))))) (some 3) (.exact (.int .i64 y1.2)))) (σ' := []) _ rfl ?_ ⟨rfl, rfl⟩)
    exact Sub.of_le (AF.le_put (AV.le_eq rfl) (AF.le_put (AV.le_eq rfl) (AF.le_top _)))
  · replace h := ite_f h hc
    refine k_seq ?_
    refine k_reg .free hmixP (by kernel_rfl) ?_
    refine G_q rfl (op_move (av := .row 1 c_L_api_Value y1.1) rfl ?_)
    refine G_q rfl (op_len_row (by kernel_rfl) rfl ?_)
    refine G_q rfl (op_eql rfl rfl ?_)
    refine G_q rfl (op_assign (av := .exact (.bool (decide ((List.length y1.1 : Int) = 0)))) rfl ?_)
    refine G_nil ?_
    refine kC_normal ?_
    refine k_cond_d (p := (List.length y1.1 : Int) = 0) rfl (fun hc => ?_) (fun hc => ?_)
    · replace h := ite_t h hc
      refine k_seq ?_
      refine k_reg .free hmixP (by kernel_rfl) ?_
      refine G_q rfl (op_assign (av := .exact (.string (bs ([] : List UInt8)))) rfl ?_)
      refine G_q rfl (op_assign (av := .exact (.int .i64 12)) rfl ?_)
      refine G_nil ?_
      refine kC_normal ?_
      refine k_ret ?_
      refine kB_ret ?_
      refine kC_ret ?_
      obtain rfl := Option.some.inj h
      refine kP_any (endN (af' := (AF.put (AF.put AF0 (some 2) (.exact (.string (bs ([] : List UInt8))))) (some 3) (.exact (.int .i64 12)))) (σ' := []) _ rfl ?_ ⟨rfl, rfl⟩)
      exact Sub.of_le (AF.le_put (AV.le_eq rfl) (AF.le_put (AV.le_eq rfl) (AF.le_top _)))
    · replace h := ite_f h hc
      refine k_skip ?_
      refine kB_normal ?_
      refine kC_normal ?_
      refine k_seq ?_
      refine k_reg .free hmixP (by kernel_rfl) ?_
      refine G_q rfl (op_move (av := .row 1 c_L_api_Value y1.1) rfl ?_)
      obtain ⟨n2, h⟩ := need_some h
      refine G_q rfl (op_index_row (by kernel_rfl) rfl rfl n2.1 n2.2 ?_)
      refine G_q rfl (op_load1p (a := .row 1 c_api_Value (gi y1.1 0)) (by kernel_rfl) rfl rfl ?_)
      refine G_q rfl (op_assign (av := .row 1 c_api_Value (gi y1.1 0)) rfl ?_)
      refine G_nil ?_
      refine kC_normal ?_
      refine k_join1_0 h (fun (x6_j3 : List (List UInt8)) => (AF.put AF0 (some 6) (.row 1 c_api_Value x6_j3))) (fun (x6_j3 : List (List UInt8)) => []) (fun k3 h => ?_) (fun x6_j3 h => ?_)
      · refine k_seq ?_
        refine k_reg .free hmixP (by kernel_rfl) ?_
        refine G_q rfl (op_move (av := .row 1 c_L_api_Value y1.1) rfl ?_)
        obtain ⟨n12, h⟩ := need_some h
        refine G_q rfl (op_slice_rowd (by kernel_rfl) rfl (bnd_some rfl) bnd_none (by decide) n12 (Int.le_refl _) ?_)
        refine G_q rfl (op_len_row (by kernel_rfl) rfl ?_)
        refine G_q rfl (op_move (av := .exact (.int .i64 0)) rfl ?_)
        refine G_nil ?_
        refine kC_normal ?_
        refine k_block ?_
        refine k_loop2_0 (m_finset_BigInter_L2 y1 k3) (m_finset_BigInter_B2 y1 k3) (fun _ _ => rfl) (fun m _ _ => rfl) h (fun (x6_l2 : List (List UInt8)) (x28_l2 : Int) => (AF.put (AF.put (AF.put (AF.put AF0 (some 6) (.row 1 c_api_Value x6_l2)) (some 26) (.row 1 c_L_api_Value (List.drop (Int.toNat 1) y1.1))) (some 27) (.exact (.int .i64 (List.length (List.drop (Int.toNat 1) y1.1) : Int)))) (some 28) (.exact (.int .i64 x28_l2)))) (fun (x6_l2 : List (List UInt8)) (x28_l2 : Int) => []) ?_ (fun rec2 x6_l2 x28_l2 h => ?_)
        · exact Sub.of_le (AF.le_put (AV.le_eq rfl) (AF.le_put (AV.le_eq rfl) (AF.le_put (AV.le_eq rfl) (AF.le_put (AV.le_eq rfl) (AF.le_top _)))))
        · unfold m_finset_BigInter_B2 at h
          refine k_seq ?_
          refine k_reg .free hmixP (by kernel_rfl) ?_
          refine G_q rfl (op_lss rfl rfl ?_)
          refine G_nil ?_
          refine kC_normal ?_
          refine k_seq ?_
          refine k_cond_d (p := x28_l2 < (List.length (List.drop (Int.toNat 1) y1.1) : Int)) rfl (fun hc => ?_) (fun hc => ?_)
          · replace h := ite_t h hc
            refine k_skip ?_
            refine kC_normal ?_
            refine k_seq ?_
            refine k_block ?_
            refine k_seq ?_
            refine k_reg .free hmixP (by kernel_rfl) ?_
            obtain ⟨n17, h⟩ := need_some h
            refine G_q rfl (op_index_row (by kernel_rfl) rfl rfl n17.1 n17.2 ?_)
            refine G_q rfl (op_load1p (a := .row 1 c_api_Value (gi (List.drop (Int.toNat 1) y1.1) x28_l2)) (by kernel_rfl) rfl rfl ?_)
            refine G_q rfl (op_assign (av := .row 1 c_api_Value (gi (List.drop (Int.toNat 1) y1.1) x28_l2)) rfl ?_)
            refine G_nil ?_
            refine kC_normal ?_
            refine k_reg .free hmixP (by kernel_rfl) ?_
            refine G_q rfl (op_move (av := .row 1 c_api_Value x6_l2) rfl ?_)
            refine G_q rfl (op_move (av := .row 1 c_api_Value (gi (List.drop (Int.toNat 1) y1.1) x28_l2)) rfl ?_)
            obtain ⟨y18, hy18, h⟩ := bnd1_some h
            refine G_q rfl (op_pure (m_finset_merge_ok _ _ _ _ hy18) Try.func34 (by kernel_rfl) (LEs.cons (AV.le_eq rfl) (LEs.cons (AV.le_eq rfl) (LEs.cons ((fn_le Try.func25 (by kernel_rfl) (fun i r h => m_finset_common_ok i.1 i.2 r h))) LEs.nil))) ?_)
            refine G_q rfl (op_assign (av := .row 1 c_api_Value y18) rfl ?_)
            refine G_nil ?_
            refine kB_normal ?_
            refine kC_normal ?_
            refine k_reg .free hmixP (by kernel_rfl) ?_
            refine G_q rfl (op_add rfl rfl rfl ?_)
            refine G_q rfl (op_move (av := .exact (.int .i64 (i64 (x28_l2 + 1)))) rfl ?_)
            refine G_nil ?_
            refine kI_normal ⟨_, _, h, ?_⟩
            exact Sub.of_le (AF.le_put (AV.le_eq rfl) (AF.le_put (AV.le_eq rfl) (AF.le_put (AV.le_eq rfl) (AF.le_put (AV.le_eq rfl) (AF.le_top _)))))
          · replace h := ite_f h hc
            refine k_exit ?_
            refine kC_exit ?_
            refine kI_exit ?_
            refine kB_exit ?_
            refine kI_normal ⟨_, h, ?_⟩
            exact Sub.of_le (AF.le_put (AV.le_eq rfl) (AF.le_top _))
      · refine k_seq ?_
        refine k_reg .free hmixP (by kernel_rfl) ?_
        refine G_q rfl (op_move (av := .row 1 c_api_Value x6_j3) rfl ?_)
        obtain ⟨y19, hy19, h⟩ := bnd1_some h
        refine G_q rfl (op_pure (m_finset_set_ok _ _ hy19) Try.func30 (by kernel_rfl) (LEs.cons (AV.le_eq rfl) LEs.nil) ?_)
        refine G_q rfl (op_extract (av := .exact (.string (bs y19.1))) rfl rfl ?_)
        refine G_q rfl (op_extract (av := .exact (.int .i64 y19.2)) rfl rfl ?_)
        refine G_q rfl (op_assign (av := .exact (.string (bs y19.1))) rfl ?_)
        refine G_q rfl (op_assign (av := .exact (.int .i64 y19.2)) rfl ?_)
        refine G_nil ?_
        refine kC_normal ?_
        refine k_ret ?_
        obtain rfl := Option.some.inj h
        refine kP_any (endN (af' := (AF.put (AF.put AF0 (some 2) (.exact (.string (bs y19.1)))) (some 3) (.exact (.int .i64 y19.2)))) (σ' := []) _ rfl ?_ ⟨rfl, rfl⟩)
        exact Sub.of_le (AF.le_put (AV.le_eq rfl) (AF.le_put (AV.le_eq rfl) (AF.le_top _)))
set_option maxHeartbeats 4000000 in
theorem m_ref9_Parts_ok (a0 : List UInt8) (r : (List (List UInt8))) (h : m_ref9_Parts a0 = some r) : Pure Try.prog 14 [(.exact (.string (bs a0)))] (.row 1 c_api_Value r) := by
  unfold m_ref9_Parts at h
  refine Pure.ofFun (fun_of_awp Try.func14 rfl Try.ntmps14 (by simp) rfl (res1 rfl) fun E hE => k_end ?_)
  refine k_seq ?_
  refine k_reg .free hmixP (by kernel_rfl) ?_
  refine G_q rfl (op_assign (av := .exact (.slice none 0 0)) rfl ?_)
  refine G_nil ?_
  refine kC_normal ?_
  refine k_seq ?_
  refine k_seq ?_
  refine k_reg .free hmixP (by kernel_rfl) ?_
  refine G_q rfl (op_move (av := .exact (.string (bs a0))) rfl ?_)
  obtain ⟨y1, hy1, h⟩ := bnd1_some h
  refine G_q rfl (op_pure (m_ref9_Valid_ok _ _ hy1) Try.func31 (by kernel_rfl) (LEs.cons (AV.le_eq rfl) LEs.nil) ?_)
  refine G_q rfl (op_not rfl ?_)
  refine G_nil ?_
  refine kC_normal ?_
  refine k_cond_b (c := !y1) rfl (fun hc => ?_) (fun hc => ?_)
  · replace h := ite_t h hc
    refine k_seq ?_
    refine k_reg .free hmixP (by kernel_rfl) ?_
    refine G_q rfl (op_assign (av := .exact (.slice none 0 0)) rfl ?_)
    refine G_nil ?_
    refine kC_normal ?_
    refine k_ret ?_
    refine kC_ret ?_
    obtain rfl := Option.some.inj h
    refine kP_any (endN (af' := (AF.put AF0 (some 2) (.row 1 c_api_Value []))) (σ' := []) _ rfl ?_ ⟨rfl, rfl⟩)
    exact Sub.of_le (AF.le_put (row_nil (by decide)) (AF.le_top _))
  · replace h := ite_f h hc
    refine k_skip ?_
    refine kC_normal ?_
    refine k_seq ?_
    refine k_reg .free hmixP (by kernel_rfl) ?_
    refine G_q rfl (op_move (av := .exact (.string (bs a0))) rfl ?_)
    obtain ⟨y2, hy2, h⟩ := bnd1_some h
    refine G_q rfl (op_pure (m_ref9_walk_ok _ _ _ _ hy2) Try.func32 (by kernel_rfl) (LEs.cons (AV.le_eq rfl) (LEs.cons (AV.le_eq rfl) (LEs.cons (AV.le_eq rfl) LEs.nil))) ?_)
    refine G_q rfl (op_move (av := .tup [.exact (.int .i64 y2.1), .row 1 c_api_Value y2.2.1, .exact (.int .i64 y2.2.2)]) rfl ?_)
    refine G_q rfl (op_extract (av := .exact (.int .i64 y2.1)) rfl rfl ?_)
    refine G_q rfl (op_extract (av := .row 1 c_api_Value y2.2.1) rfl rfl ?_)
    refine G_q rfl (op_extract (av := .exact (.int .i64 y2.2.2)) rfl rfl ?_)
    refine G_q rfl (op_assign (av := .exact (.int .i64 y2.1)) rfl ?_)
    refine G_q rfl (op_assign (av := .row 1 c_api_Value y2.2.1) rfl ?_)
    refine G_q rfl (op_assign (av := .exact (.int .i64 y2.2.2)) rfl ?_)
    refine G_nil ?_
    refine kC_normal ?_
    refine k_seq ?_
    refine k_reg .free hmixP (by kernel_rfl) ?_
    refine G_q rfl (op_move (av := .row 1 c_api_Value y2.2.1) rfl ?_)
    refine G_q rfl (op_assign (av := .row 1 c_api_Value y2.2.1) rfl ?_)
    refine G_nil ?_
    refine kC_normal ?_
    refine k_ret ?_
    obtain rfl := Option.some.inj h
    refine kP_any (endN (af' := (AF.put AF0 (some 2) (.row 1 c_api_Value y2.2.1))) (σ' := []) _ rfl ?_ ⟨rfl, rfl⟩)
    exact Sub.of_le (AF.le_put (AV.le_eq rfl) (AF.le_top _))
set_option maxHeartbeats 4000000 in
theorem m_law10_awake_ok  (r : Bool) (h : m_law10_awake = some r) : Pure Try.prog 12 [] (.exact (.bool r)) := by
  unfold m_law10_awake at h
  refine Pure.ofFun (fun_of_awp Try.func12 rfl Try.ntmps12 (by simp) rfl (res1 rfl) fun E hE => k_end ?_)
  refine k_seq ?_
  refine k_reg .free hmixP (by kernel_rfl) ?_
  refine G_q rfl (op_assign (av := .exact (.bool false)) rfl ?_)
  refine G_nil ?_
  refine kC_normal ?_
  refine k_seq ?_
  refine k_reg .free hmixP (by kernel_rfl) ?_
  obtain ⟨y1, hy1, h⟩ := bnd1_some h
  refine G_q rfl (op_pure (m_finset_Range_ok _ _ _ hy1) Try.func19 (by kernel_rfl) (LEs.cons (AV.le_eq rfl) (LEs.cons (AV.le_eq rfl) LEs.nil)) ?_)
  refine G_q rfl (op_move (av := .tup [.exact (.string (bs y1.1)), .exact (.int .i64 y1.2)]) rfl ?_)
  refine G_q rfl (op_extract (av := .exact (.string (bs y1.1))) rfl rfl ?_)
  refine G_q rfl (op_extract (av := .exact (.int .i64 y1.2)) rfl rfl ?_)
  refine G_q rfl (op_assign (av := .exact (.string (bs y1.1))) rfl ?_)
  refine G_q rfl (op_assign (av := .exact (.int .i64 y1.2)) rfl ?_)
  refine G_nil ?_
  refine kC_normal ?_
  refine k_seq ?_
  refine k_reg .free hmixP (by kernel_rfl) ?_
  refine G_q rfl (op_move (av := .exact (.string (bs y1.1))) rfl ?_)
  obtain ⟨y2, hy2, h⟩ := bnd1_some h
  refine G_q rfl (op_pure (m_finset_Subsets_ok _ _ hy2) Try.func13 (by kernel_rfl) (LEs.cons (AV.le_eq rfl) LEs.nil) ?_)
  refine G_q rfl (op_move (av := .tup [.exact (.string (bs y2.1)), .exact (.int .i64 y2.2)]) rfl ?_)
  refine G_q rfl (op_extract (av := .exact (.string (bs y2.1))) rfl rfl ?_)
  refine G_q rfl (op_extract (av := .exact (.int .i64 y2.2)) rfl rfl ?_)
  refine G_q rfl (op_assign (av := .exact (.string (bs y2.1))) rfl ?_)
  refine G_q rfl (op_assign (av := .exact (.int .i64 y2.2)) rfl ?_)
  refine G_nil ?_
  refine kC_normal ?_
  refine k_seq ?_
  refine k_reg .free hmixP (by kernel_rfl) ?_
  obtain ⟨y3, hy3, h⟩ := bnd1_some h
  refine G_q rfl (op_pure (m_ref9_Set_ok _ _ hy3) Try.func22 (by kernel_rfl) (LEs.cons (row_nil (by decide)) LEs.nil) ?_)
  obtain ⟨y4, hy4, h⟩ := bnd1_some h
  refine G_q rfl (op_pure (m_finset_BigInter_ok _ _ hy4) Try.func27 (by kernel_rfl) (LEs.cons (AV.le_eq rfl) LEs.nil) ?_)
  refine G_q rfl (op_move (av := .tup [.exact (.string (bs y4.1)), .exact (.int .i64 y4.2)]) rfl ?_)
  refine G_q rfl (op_extract (av := .exact (.string (bs y4.1))) rfl rfl ?_)
  refine G_q rfl (op_extract (av := .exact (.int .i64 y4.2)) rfl rfl ?_)
  refine G_q rfl (op_assign (av := .exact (.string (bs y4.1))) rfl ?_)
  refine G_q rfl (op_assign (av := .exact (.int .i64 y4.2)) rfl ?_)
  refine G_nil ?_
  refine kC_normal ?_
  refine k_join1_0 h (fun (x0_j5 : Bool) => (AF.put AF0 (some 0) (.exact (.bool x0_j5)))) (fun (x0_j5 : Bool) => []) (fun k5 h => ?_) (fun x0_j5 h => ?_)
  · refine k_reg .free hmixP (by kernel_rfl) ?_
    refine G_q rfl (op_move (av := .exact (.int .i64 y1.2)) rfl ?_)
    refine G_q rfl (op_eql rfl rfl ?_)
    refine G_q rfl (op_move (av := .exact (.bool (decide (y1.2 = 0)))) rfl ?_)
    refine G_split (p := y1.2 = 0) 23 rfl (fun hc => ?_) (fun hc => ?_)
    · replace h := ite_t h hc
      refine Gy_q rfl rfl rfl (op_move (av := .exact (.string (bs y1.1))) rfl ?_)
      obtain ⟨y10, hy10, h⟩ := bnd1_some h
      refine Gy_q rfl rfl rfl (op_pure (m_ref9_Int_ok _ _ hy10) Try.func21 (by kernel_rfl) (LEs.cons (AV.le_eq rfl) LEs.nil) ?_)
      obtain ⟨y11, hy11, h⟩ := bnd1_some h
      refine Gy_q rfl rfl rfl (op_pure (m_ref9_Int_ok _ _ hy11) Try.func21 (by kernel_rfl) (LEs.cons (AV.le_eq rfl) LEs.nil) ?_)
      refine Gy_q rfl rfl rfl (op_litT (n := 1) (enc := c_api_Value) [y10, y11] (CellsAll.cons rfl CellsOf.str (CellsAll.cons rfl CellsOf.str CellsAll.nil)) rfl (by kernel_rfl) (LEss.cons (LEs.cons (AV.le_eq rfl) LEs.nil) (LEss.cons (LEs.cons (AV.le_eq rfl) LEs.nil) LEss.nil)) ?_)
      obtain ⟨y12, hy12, h⟩ := bnd1_some h
      refine Gy_q rfl rfl rfl (op_pure (m_ref9_Set_ok _ _ hy12) Try.func22 (by kernel_rfl) (LEs.cons (AV.le_eq rfl) LEs.nil) ?_)
      refine Gy_q rfl rfl rfl (op_eqlS rfl rfl ?_)
      refine G_q rfl (op_pick_t rfl (av := .exact (.bool (decide (y1.1 = y12)))) rfl ?_)
      refine G_q rfl (op_move (av := .exact (.bool (decide (y1.1 = y12)))) rfl ?_)
      refine G_split (p := y1.1 = y12) 31 rfl (fun hc => ?_) (fun hc => ?_)
      · replace h := ite_t h hc
        refine Gy_q rfl rfl rfl (op_move (av := .exact (.int .i64 y2.2)) rfl ?_)
        refine Gy_q rfl rfl rfl (op_eql rfl rfl ?_)
        refine G_q rfl (op_pick_t rfl (av := .exact (.bool (decide (y2.2 = 0)))) rfl ?_)
        refine G_q rfl (op_move (av := .exact (.bool (decide (y2.2 = 0)))) rfl ?_)
        refine G_split (p := y2.2 = 0) 35 rfl (fun hc => ?_) (fun hc => ?_)
        · replace h := ite_t h hc
          refine Gy_q rfl rfl rfl (op_move (av := .exact (.string (bs y2.1))) rfl ?_)
          obtain ⟨y13, hy13, h⟩ := bnd1_some h
          refine Gy_q rfl rfl rfl (op_pure (m_ref9_Parts_ok _ _ hy13) Try.func14 (by kernel_rfl) (LEs.cons (AV.le_eq rfl) LEs.nil) ?_)
          refine Gy_q rfl rfl rfl (op_len_row (by kernel_rfl) rfl ?_)
          refine Gy_q rfl rfl rfl (op_eql rfl rfl ?_)
          refine G_q rfl (op_pick_t rfl (av := .exact (.bool (decide ((List.length y13 : Int) = 4)))) rfl ?_)
          refine G_q rfl (op_move (av := .exact (.bool (decide ((List.length y13 : Int) = 4)))) rfl ?_)
          refine G_split (p := (List.length y13 : Int) = 4) 41 rfl (fun hc => ?_) (fun hc => ?_)
          · replace h := ite_t h hc
            refine Gy_q rfl rfl rfl (op_move (av := .exact (.int .i64 y4.2)) rfl ?_)
            refine Gy_q rfl rfl rfl (op_eql rfl rfl ?_)
            refine G_q rfl (op_pick_t rfl (av := .exact (.bool (decide (y4.2 = 12)))) rfl ?_)
            refine G_q rfl (op_assign (av := .exact (.bool (decide (y4.2 = 12)))) rfl ?_)
            refine G_nil ?_
            refine kI_normal ⟨_, h, ?_⟩
            exact Sub.of_le (AF.le_put (AV.le_eq rfl) (AF.le_top _))
          · replace h := ite_f h hc
            refine G_n rfl rfl ?_
            refine G_n rfl rfl ?_
            refine G_q rfl (op_pick_f rfl (av := .exact (.bool false)) rfl ?_)
            refine G_q rfl (op_assign (av := .exact (.bool false)) rfl ?_)
            refine G_nil ?_
            refine kI_normal ⟨_, h, ?_⟩
            exact Sub.of_le (AF.le_put (AV.le_eq rfl) (AF.le_top _))
        · replace h := ite_f h hc
          refine G_n rfl rfl ?_
          refine G_n rfl rfl ?_
          refine G_n rfl rfl ?_
          refine G_n rfl rfl ?_
          refine G_q rfl (op_pick_f rfl (av := .exact (.bool false)) rfl ?_)
          refine G_q rfl (op_move (av := .exact (.bool false)) rfl ?_)
          refine G_n rfl rfl ?_
          refine G_n rfl rfl ?_
          refine G_q rfl (op_pick_f rfl (av := .exact (.bool false)) rfl ?_)
          refine G_q rfl (op_assign (av := .exact (.bool false)) rfl ?_)
          refine G_nil ?_
          refine kI_normal ⟨_, h, ?_⟩
          exact Sub.of_le (AF.le_put (AV.le_eq rfl) (AF.le_top _))
      · replace h := ite_f h hc
        refine G_n rfl rfl ?_
        refine G_n rfl rfl ?_
        refine G_q rfl (op_pick_f rfl (av := .exact (.bool false)) rfl ?_)
        refine G_q rfl (op_move (av := .exact (.bool false)) rfl ?_)
        refine G_n rfl rfl ?_
        refine G_n rfl rfl ?_
        refine G_n rfl rfl ?_
        refine G_n rfl rfl ?_
        refine G_q rfl (op_pick_f rfl (av := .exact (.bool false)) rfl ?_)
        refine G_q rfl (op_move (av := .exact (.bool false)) rfl ?_)
        refine G_n rfl rfl ?_
        refine G_n rfl rfl ?_
        refine G_q rfl (op_pick_f rfl (av := .exact (.bool false)) rfl ?_)
        refine G_q rfl (op_assign (av := .exact (.bool false)) rfl ?_)
        refine G_nil ?_
        refine kI_normal ⟨_, h, ?_⟩
        exact Sub.of_le (AF.le_put (AV.le_eq rfl) (AF.le_top _))
    · replace h := ite_f h hc
      refine G_n rfl rfl ?_
      refine G_n rfl rfl ?_
      refine G_n rfl rfl ?_
      refine G_n rfl rfl ?_
      refine G_n rfl rfl ?_
      refine G_n rfl rfl ?_
      refine G_q rfl (op_pick_f rfl (av := .exact (.bool false)) rfl ?_)
      refine G_q rfl (op_move (av := .exact (.bool false)) rfl ?_)
      refine G_n rfl rfl ?_
      refine G_n rfl rfl ?_
      refine G_q rfl (op_pick_f rfl (av := .exact (.bool false)) rfl ?_)
      refine G_q rfl (op_move (av := .exact (.bool false)) rfl ?_)
      refine G_n rfl rfl ?_
      refine G_n rfl rfl ?_
      refine G_n rfl rfl ?_
      refine G_n rfl rfl ?_
      refine G_q rfl (op_pick_f rfl (av := .exact (.bool false)) rfl ?_)
      refine G_q rfl (op_move (av := .exact (.bool false)) rfl ?_)
      refine G_n rfl rfl ?_
      refine G_n rfl rfl ?_
      refine G_q rfl (op_pick_f rfl (av := .exact (.bool false)) rfl ?_)
      refine G_q rfl (op_assign (av := .exact (.bool false)) rfl ?_)
      refine G_nil ?_
      refine kI_normal ⟨_, h, ?_⟩
      exact Sub.of_le (AF.le_put (AV.le_eq rfl) (AF.le_top _))
  · refine k_ret ?_
    obtain rfl := Option.some.inj h
    refine kP_any (endN (af' := (AF.put AF0 (some 0) (.exact (.bool x0_j5)))) (σ' := []) _ rfl ?_ ⟨rfl, rfl⟩)
    exact Sub.of_le (AF.le_put (AV.le_eq rfl) (AF.le_top _))
set_option maxHeartbeats 4000000 in
theorem m_ref9_bounded_ok (a0 : List (List UInt8)) (r : (List UInt8) × Int) (h : m_ref9_bounded a0 = some r) : Pure Try.prog 40 [(.row 1 c_api_Value a0)] (.tup [.exact (.string (bs r.1)), .exact (.int .i64 r.2)]) := by
  unfold m_ref9_bounded at h
  refine Pure.ofFun (fun_of_awp Try.func40 rfl Try.ntmps40 (by simp) rfl (res2 rfl) fun E hE => k_end ?_)
  refine k_seq ?_
  refine k_reg .free hmixP (by kernel_rfl) ?_
  refine G_q rfl (op_assign (av := .exact (.string (bs ([] : List UInt8)))) rfl ?_)
  refine G_q rfl (op_assign (av := .exact (.int .i64 0)) rfl ?_)
  refine G_nil ?_
  refine kC_normal ?_
  refine k_seq ?_
  refine k_reg .free hmixP (by kernel_rfl) ?_
  refine G_q rfl (op_move (av := .row 1 c_api_Value a0) rfl ?_)
  obtain ⟨y1, hy1, h⟩ := bnd1_some h
  refine G_q rfl (op_pure (m_ref9_Sort_ok _ _ hy1) Try.func45 (by kernel_rfl) (LEs.cons (AV.le_eq rfl) LEs.nil) ?_)
  refine G_q rfl (op_assign (av := .row 1 c_api_Value y1) rfl ?_)
  refine G_nil ?_
  refine kC_normal ?_
  refine k_seq ?_
  refine k_seq ?_
  refine k_reg .free hmixP (by kernel_rfl) ?_
  refine G_q rfl (op_move (av := .row 1 c_api_Value y1) rfl ?_)
  refine G_q rfl (op_len_row (by kernel_rfl) rfl ?_)
  refine G_q rfl (op_gtr rfl rfl ?_)
  refine G_nil ?_
  refine kC_normal ?_
  refine k_cond_d (p := 4096 < (List.length y1 : Int)) rfl (fun hc => ?_) (fun hc => ?_)
  · replace h := ite_t h hc
    refine k_seq ?_
    refine k_reg .free hmixP (by kernel_rfl) ?_
    refine G_q rfl (op_assign (av := .exact (.string (bs ([] : List UInt8)))) rfl ?_)
    refine G_q rfl (op_assign (av := .exact (.int .i64 9)) rfl ?_)
    refine G_nil ?_
    refine kC_normal ?_
    refine k_ret ?_
    refine kC_ret ?_
    obtain rfl := Option.some.inj h
    refine kP_any (endN (af' := (AF.put (AF.put AF0 (some 2) (.exact (.string (bs ([] : List UInt8))))) (some 3) (.exact (.int .i64 9)))) (σ' := []) _ rfl ?_ ⟨rfl, rfl⟩)
    exact Sub.of_le (AF.le_put (AV.le_eq rfl) (AF.le_put (AV.le_eq rfl) (AF.le_top _)))
  · replace h := ite_f h hc
    refine k_skip ?_
    refine kC_normal ?_
    refine k_seq ?_
    refine k_reg .free hmixP (by kernel_rfl) ?_
    refine G_q rfl (op_move (av := .row 1 c_api_Value y1) rfl ?_)
    obtain ⟨y2, hy2, h⟩ := bnd1_some h
    refine G_q rfl (op_pure (m_ref9_Set_ok _ _ hy2) Try.func22 (by kernel_rfl) (LEs.cons (AV.le_eq rfl) LEs.nil) ?_)
    refine G_q rfl (op_assign (av := .exact (.string (bs y2))) rfl ?_)
    refine G_nil ?_
    refine kC_normal ?_
    refine k_seq ?_
    refine k_seq ?_
    refine k_reg .free hmixP (by kernel_rfl) ?_
    refine G_q rfl (op_move (av := .exact (.string (bs y2))) rfl ?_)
    refine G_q rfl (op_eqlS rfl rfl ?_)
    refine G_nil ?_
    refine kC_normal ?_
    refine k_cond_d (p := y2 = ([] : List UInt8)) rfl (fun hc => ?_) (fun hc => ?_)
    · replace h := ite_t h hc
      refine k_seq ?_
      refine k_reg .free hmixP (by kernel_rfl) ?_
      refine G_q rfl (op_assign (av := .exact (.string (bs ([] : List UInt8)))) rfl ?_)
      refine G_q rfl (op_assign (av := .exact (.int .i64 9)) rfl ?_)
      refine G_nil ?_
      refine kC_normal ?_
      refine k_ret ?_
      refine kC_ret ?_
      obtain rfl := Option.some.inj h
      refine kP_any (endN (af' := (AF.put (AF.put AF0 (some 2) (.exact (.string (bs ([] : List UInt8))))) (some 3) (.exact (.int .i64 9)))) (σ' := []) _ rfl ?_ ⟨rfl, rfl⟩)
      exact Sub.of_le (AF.le_put (AV.le_eq rfl) (AF.le_put (AV.le_eq rfl) (AF.le_top _)))
    · replace h := ite_f h hc
      refine k_skip ?_
      refine kC_normal ?_
      refine k_seq ?_
      refine k_reg .free hmixP (by kernel_rfl) ?_
      refine G_q rfl (op_move (av := .exact (.string (bs y2))) rfl ?_)
      refine G_q rfl (op_assign (av := .exact (.string (bs y2))) rfl ?_)
      refine G_q rfl (op_assign (av := .exact (.int .i64 0)) rfl ?_)
      refine G_nil ?_
      refine kC_normal ?_
      refine k_ret ?_
      obtain rfl := Option.some.inj h
      refine kP_any (endN (af' := (AF.put (AF.put AF0 (some 2) (.exact (.string (bs y2)))) (some 3) (.exact (.int .i64 0)))) (σ' := []) _ rfl ?_ ⟨rfl, rfl⟩)
      exact Sub.of_le (AF.le_put (AV.le_eq rfl) (AF.le_put (AV.le_eq rfl) (AF.le_top _)))
set_option maxHeartbeats 4000000 in
theorem m_ref9_Range_ok (a0 : Int) (a1 : Int) (r : (List UInt8) × Int) (h : m_ref9_Range a0 a1 = some r) : Pure Try.prog 20 [(.exact (.int .i64 a0)), (.exact (.int .i64 a1))] (.tup [.exact (.string (bs r.1)), .exact (.int .i64 r.2)]) := by
  unfold m_ref9_Range at h
  refine Pure.ofFun (fun_of_awp Try.func20 rfl Try.ntmps20 (by simp) rfl (res2 rfl) fun E hE => k_end ?_)
  refine k_seq ?_
  refine k_reg .free hmixP (by kernel_rfl) ?_
  refine G_q rfl (op_assign (av := .exact (.string (bs ([] : List UInt8)))) rfl ?_)
  refine G_q rfl (op_assign (av := .exact (.int .i64 0)) rfl ?_)
  refine G_nil ?_
  refine kC_normal ?_
  refine k_seq ?_
  refine k_reg .free hmixP (by kernel_rfl) ?_
  refine G_q rfl (op_assign (av := .exact (.slice none 0 0)) rfl ?_)
  refine G_nil ?_
  refine kC_normal ?_
  refine k_join1_1 h (fun (x6_j1 : List (List UInt8)) (v6_j1 : Value) => (AF.put AF0 (some 6) (.exact v6_j1))) (fun (x6_j1 : List (List UInt8)) (v6_j1 : Value) => [vecT Try.prog 33 1 c_api_Value v6_j1 x6_j1]) (fun k1 h => ?_) (fun x6_j1 v6_j1 h => ?_)
  · refine k_seq ?_
    refine k_reg .free hmixP (by kernel_rfl) ?_
    refine G_q rfl (op_move (av := .exact (.int .i64 a0)) rfl ?_)
    refine G_q rfl (op_assign (av := .exact (.int .i64 a0)) rfl ?_)
    refine G_nil ?_
    refine kC_normal ?_
    refine k_block ?_
    refine k_loop2_1 (m_ref9_Range_L2 a1 k1) (m_ref9_Range_B2 a1 k1) (fun _ _ => rfl) (fun m _ _ => rfl) h (fun (x6_l2 : List (List UInt8)) (x7_l2 : Int) (v6_l2 : Value) => (AF.put (AF.put (AF.put AF0 (some 1) (.exact (.int .i64 a1))) (some 6) (.exact v6_l2)) (some 7) (.exact (.int .i64 x7_l2)))) (fun (x6_l2 : List (List UInt8)) (x7_l2 : Int) (v6_l2 : Value) => [vecT Try.prog 33 1 c_api_Value v6_l2 x6_l2]) (.slice none 0 0) ?_ (fun rec2 x6_l2 x7_l2 v6_l2 h => ?_)
    · refine Sub.trans (SubU.to (SubU.nilT (P := Try.prog) (t := 33) (n := 1) (enc := c_api_Value))) ?_
      exact Sub.of_le (AF.le_put (AV.le_eq rfl) (AF.le_put (AV.le_eq rfl) (AF.le_put (AV.le_eq rfl) (AF.le_top _))))
    · unfold m_ref9_Range_B2 at h
      refine k_seq ?_
      refine k_seq ?_
      refine k_reg .free hmixP (by kernel_rfl) ?_
      refine G_q rfl (op_move (av := .exact (.int .i64 x7_l2)) rfl ?_)
      refine G_q rfl (op_move (av := .exact (.int .i64 a1)) rfl ?_)
      refine G_q rfl (op_leq rfl rfl ?_)
      refine G_nil ?_
      refine kC_normal ?_
      refine k_cond_d (p := x7_l2 ≤ a1) rfl (fun hc => ?_) (fun hc => ?_)
      · replace h := ite_t h hc
        refine k_skip ?_
        refine kC_normal ?_
        refine k_seq ?_
        refine k_block ?_
        refine k_seq ?_
        refine k_seq ?_
        refine k_reg .free hmixP (by kernel_rfl) ?_
        refine G_q rfl (op_move (av := .exact v6_l2) rfl ?_)
        refine G_r rfl (op_len_vec (by kernel_rfl) rfl ?_)
        refine G_q rfl (op_geq rfl rfl ?_)
        refine G_nil ?_
        refine kC_normal ?_
        refine k_cond_d (p := 4096 ≤ (List.length x6_l2 : Int)) rfl (fun hc => ?_) (fun hc => ?_)
        · replace h := ite_t h hc
          refine k_seq ?_
          refine k_reg .free hmixP (by kernel_rfl) ?_
          refine G_q rfl (op_assign (av := .exact (.string (bs ([] : List UInt8)))) rfl ?_)
          refine G_q rfl (op_assign (av := .exact (.int .i64 9)) rfl ?_)
          refine G_nil ?_
          refine kC_normal ?_
          refine k_ret ?_
          refine kC_ret ?_
          refine kB_ret ?_
          refine kC_ret ?_
          refine kI_ret ?_
          refine kB_ret ?_
          refine kI_ret ?_
          obtain rfl := Option.some.inj h
          refine kP_any (endN (af' := (AF.put (AF.put AF0 (some 4) (.exact (.string (bs ([] : List UInt8))))) (some 5) (.exact (.int .i64 9)))) (σ' := []) _ rfl ?_ ⟨rfl, rfl⟩)
          refine Sub.trans (SubU.to SubU.drop) ?_
          exact Sub.of_le (AF.le_put (AV.le_eq rfl) (AF.le_put (AV.le_eq rfl) (AF.le_top _)))
        · replace h := ite_f h hc
          refine k_skip ?_
          refine kC_normal ?_
          refine k_seq ?_
          refine k_reg .free hmixP (by kernel_rfl) ?_
          refine G_q rfl (op_move (av := .exact v6_l2) rfl ?_)
          refine G_q rfl (op_move (av := .exact (.int .i64 x7_l2)) rfl ?_)
          obtain ⟨y18, hy18, h⟩ := bnd1_some h
          refine G_q rfl (op_pure (m_ref9_Int_ok _ _ hy18) Try.func21 (by kernel_rfl) (LEs.cons (AV.le_eq rfl) LEs.nil) ?_)
          refine G_q rfl (op_litT (n := 1) (enc := c_api_Value) [y18] (CellsAll.cons rfl CellsOf.str CellsAll.nil) rfl (by kernel_rfl) (LEss.cons (LEs.cons (AV.le_eq rfl) LEs.nil) LEss.nil) ?_)
          obtain ⟨n19, h⟩ := need_some h
          refine G_l rfl (op_appT (by kernel_rfl) rfl rfl oc_c_api_Value n19 (fun v20 => ?_))
          refine G_q rfl (op_assign (av := .exact v20) rfl ?_)
          refine G_nil ?_
          refine kC_normal ?_
          refine k_seq ?_
          refine k_reg .free hmixP (by kernel_rfl) ?_
          refine G_q rfl (op_move (av := .exact (.int .i64 x7_l2)) rfl ?_)
          refine G_q rfl (op_eql rfl rfl ?_)
          refine G_nil ?_
          refine kC_normal ?_
          refine k_cond_d (p := x7_l2 = 9223372036854775807) rfl (fun hc => ?_) (fun hc => ?_)
          · replace h := ite_t h hc
            refine k_exit ?_
            refine kB_pass rfl ?_
            refine kC_exit ?_
            refine kI_exit ?_
            refine kB_exit ?_
            refine kI_normal ⟨_, v20, h, ?_⟩
            exact Sub.of_le (AF.le_put (AV.le_eq rfl) (AF.le_top _))
          · replace h := ite_f h hc
            refine k_skip ?_
            refine kB_normal ?_
            refine kC_normal ?_
            refine k_reg .free hmixP (by kernel_rfl) ?_
            refine G_q rfl (op_move (av := .exact (.int .i64 x7_l2)) rfl ?_)
            refine G_q rfl (op_add rfl rfl rfl ?_)
            refine G_q rfl (op_assign (av := .exact (.int .i64 (i64 (x7_l2 + 1)))) rfl ?_)
            refine G_nil ?_
            refine kI_normal ⟨_, _, v20, h, ?_⟩
            exact Sub.of_le (AF.le_put (AV.le_eq rfl) (AF.le_put (AV.le_eq rfl) (AF.le_put (AV.le_eq rfl) (AF.le_top _))))
      · replace h := ite_f h hc
        refine k_exit ?_
        refine kC_exit ?_
        refine kI_exit ?_
        refine kB_exit ?_
        refine kI_normal ⟨_, v6_l2, h, ?_⟩
        exact Sub.of_le (AF.le_put (AV.le_eq rfl) (AF.le_top _))
  · refine k_seq ?_
    refine k_reg .free hmixP (by kernel_rfl) ?_
    refine G_q rfl (op_move (av := .exact v6_j1) rfl ?_)
    refine G_sub rfl (SubU.freezeT2 (s1 := 6) (s2 := 24) rfl rfl len_c_api_Value) ?_
    obtain ⟨y21, hy21, h⟩ := bnd1_some h
    refine G_q rfl (op_pure (m_ref9_bounded_ok _ _ hy21) Try.func40 (by kernel_rfl) (LEs.cons (AV.le_eq rfl) LEs.nil) ?_)
    refine G_q rfl (op_extract (av := .exact (.string (bs y21.1))) rfl rfl ?_)
    refine G_q rfl (op_extract (av := .exact (.int .i64 y21.2)) rfl rfl ?_)
    refine G_q rfl (op_assign (av := .exact (.string (bs y21.1))) rfl ?_)
    refine G_q rfl (op_assign (av := .exact (.int .i64 y21.2)) rfl ?_)
    refine G_nil ?_
    refine kC_normal ?_
    refine k_ret ?_
    obtain rfl := Option.some.inj h
    refine kP_any (endN (af' := (AF.put (AF.put AF0 (some 4) (.exact (.string (bs y21.1)))) (some 5) (.exact (.int .i64 y21.2)))) (σ' := []) _ rfl ?_ ⟨rfl, rfl⟩)
    exact Sub.of_le (AF.le_put (AV.le_eq rfl) (AF.le_put (AV.le_eq rfl) (AF.le_top _)))
set_option maxHeartbeats 4000000 in
theorem m_finset_count_ok (a0 : List (List (List UInt8))) (r : Int) (h : m_finset_count a0 = some r) : Pure Try.prog 36 [(.row 1 c_L_api_Value a0)] (.exact (.int .i64 r)) := by
  unfold m_finset_count at h
  refine Pure.ofFun (fun_of_awp Try.func36 rfl Try.ntmps36 (by simp) rfl (res1 rfl) fun E hE => k_end ?_)
  refine k_seq ?_
  refine k_reg .free hmixP (by kernel_rfl) ?_
  refine G_q rfl (op_assign (av := .exact (.int .i64 0)) rfl ?_)
  refine G_nil ?_
  refine kC_normal ?_
  refine k_seq ?_
  refine k_reg .free hmixP (by kernel_rfl) ?_
  refine G_q rfl (op_assign (av := .exact (.int .i64 1)) rfl ?_)
  refine G_nil ?_
  refine kC_normal ?_
  refine k_join1_0 h (fun (x3_j1 : Int) => (AF.put AF0 (some 3) (.exact (.int .i64 x3_j1)))) (fun (x3_j1 : Int) => []) (fun k1 h => ?_) (fun x3_j1 h => ?_)
  · refine k_seq ?_
    refine k_reg .free hmixP (by kernel_rfl) ?_
    refine G_q rfl (op_move (av := .row 1 c_L_api_Value a0) rfl ?_)
    refine G_q rfl (op_len_row (by kernel_rfl) rfl ?_)
    refine G_q rfl (op_move (av := .exact (.int .i64 0)) rfl ?_)
    refine G_nil ?_
    refine kC_normal ?_
    refine k_block ?_
    refine k_loop2_0 (m_finset_count_L2 a0 k1) (m_finset_count_B2 a0 k1) (fun _ _ => rfl) (fun m _ _ => rfl) h (fun (x3_l2 : Int) (x8_l2 : Int) => (AF.put (AF.put (AF.put (AF.put AF0 (some 3) (.exact (.int .i64 x3_l2))) (some 6) (.row 1 c_L_api_Value a0)) (some 7) (.exact (.int .i64 (List.length a0 : Int)))) (some 8) (.exact (.int .i64 x8_l2)))) (fun (x3_l2 : Int) (x8_l2 : Int) => []) ?_ (fun rec2 x3_l2 x8_l2 h => ?_)
    · exact Sub.of_le (AF.le_put (AV.le_eq rfl) (AF.le_put (AV.le_eq rfl) (AF.le_put (AV.le_eq rfl) (AF.le_put (AV.le_eq rfl) (AF.le_top _)))))
    · unfold m_finset_count_B2 at h
      refine k_seq ?_
      refine k_reg .free hmixP (by kernel_rfl) ?_
      refine G_q rfl (op_lss rfl rfl ?_)
      refine G_nil ?_
      refine kC_normal ?_
      refine k_seq ?_
      refine k_cond_d (p := x8_l2 < (List.length a0 : Int)) rfl (fun hc => ?_) (fun hc => ?_)
      · replace h := ite_t h hc
        refine k_skip ?_
        refine kC_normal ?_
        refine k_seq ?_
        refine k_block ?_
        refine k_seq ?_
        refine k_reg .free hmixP (by kernel_rfl) ?_
        obtain ⟨n8, h⟩ := need_some h
        refine G_q rfl (op_index_row (by kernel_rfl) rfl rfl n8.1 n8.2 ?_)
        refine G_q rfl (op_load1p (a := .row 1 c_api_Value (gi a0 x8_l2)) (by kernel_rfl) rfl rfl ?_)
        refine G_q rfl (op_assign (av := .row 1 c_api_Value (gi a0 x8_l2)) rfl ?_)
        refine G_nil ?_
        refine kC_normal ?_
        refine k_seq ?_
        refine k_reg .free hmixP (by kernel_rfl) ?_
        refine G_q rfl (op_move (av := .exact (.int .i64 x3_l2)) rfl ?_)
        refine G_q rfl (op_move (av := .row 1 c_api_Value (gi a0 x8_l2)) rfl ?_)
        refine G_q rfl (op_len_row (by kernel_rfl) rfl ?_)
        refine G_q rfl (op_mul rfl rfl rfl ?_)
        refine G_q rfl (op_min rfl rfl ?_)
        refine G_q rfl (op_assign (av := .exact (.int .i64 (min (i64 (x3_l2 * (List.length (gi a0 x8_l2) : Int))) 4097))) rfl ?_)
        refine G_nil ?_
        refine kC_normal ?_
        refine k_seq ?_
        refine k_reg .free hmixP (by kernel_rfl) ?_
        refine G_q rfl (op_move (av := .row 1 c_api_Value (gi a0 x8_l2)) rfl ?_)
        refine G_q rfl (op_len_row (by kernel_rfl) rfl ?_)
        refine G_q rfl (op_eql rfl rfl ?_)
        refine G_nil ?_
        refine kC_normal ?_
        refine k_cond_d (p := (List.length (gi a0 x8_l2) : Int) = 0) rfl (fun hc => ?_) (fun hc => ?_)
        · replace h := ite_t h hc
          refine k_seq ?_
          refine k_reg .free hmixP (by kernel_rfl) ?_
          refine G_q rfl (op_assign (av := .exact (.int .i64 0)) rfl ?_)
          refine G_nil ?_
          refine kC_normal ?_
          refine k_ret ?_
          refine kB_ret ?_
          refine kC_ret ?_
          refine kI_ret ?_
          refine kB_ret ?_
          refine kI_ret ?_
          obtain rfl := Option.some.inj h
          refine kP_any (endN (af' := (AF.put AF0 (some 2) (.exact (.int .i64 0)))) (σ' := []) _ rfl ?_ ⟨rfl, rfl⟩)
          exact Sub.of_le (AF.le_put (AV.le_eq rfl) (AF.le_top _))
        · replace h := ite_f h hc
          refine k_skip ?_
          refine kB_normal ?_
          refine kC_normal ?_
          refine k_reg .free hmixP (by kernel_rfl) ?_
          refine G_q rfl (op_add rfl rfl rfl ?_)
          refine G_q rfl (op_move (av := .exact (.int .i64 (i64 (x8_l2 + 1)))) rfl ?_)
          refine G_nil ?_
          refine kI_normal ⟨_, _, h, ?_⟩
          exact Sub.of_le (AF.le_put (AV.le_eq rfl) (AF.le_put (AV.le_eq rfl) (AF.le_put (AV.le_eq rfl) (AF.le_put (AV.le_eq rfl) (AF.le_top _)))))
      · replace h := ite_f h hc
        refine k_exit ?_
        refine kC_exit ?_
        refine kI_exit ?_
        refine kB_exit ?_
        refine kI_normal ⟨_, h, ?_⟩
        exact Sub.of_le (AF.le_put (AV.le_eq rfl) (AF.le_top _))
  · refine k_seq ?_
    refine k_reg .free hmixP (by kernel_rfl) ?_
    refine G_q rfl (op_move (av := .exact (.int .i64 x3_j1)) rfl ?_)
    refine G_q rfl (op_assign (av := .exact (.int .i64 x3_j1)) rfl ?_)
    refine G_nil ?_
    refine kC_normal ?_
    refine k_ret ?_
    obtain rfl := Option.some.inj h
    refine kP_any (endN (af' := (AF.put AF0 (some 2) (.exact (.int .i64 x3_j1)))) (σ' := []) _ rfl ?_ ⟨rfl, rfl⟩)
    exact Sub.of_le (AF.le_put (AV.le_eq rfl) (AF.le_top _))
set_option maxHeartbeats 4000000 in
theorem m_value_Seq_ok (a0 : List (List UInt8)) (r : (List UInt8)) (h : m_value_Seq a0 = some r) : Pure Try.prog 37 [(.row 1 c_api_Value a0)] (.exact (.string (bs r))) := by
  unfold m_value_Seq at h
  refine Pure.ofFun (fun_of_awp Try.func37 rfl Try.ntmps37 (by simp) rfl (res1 rfl) fun E hE => k_end ?_)
  refine k_seq ?_
  refine k_reg .free hmixP (by kernel_rfl) ?_
  refine G_q rfl (op_assign (av := .exact (.string (bs ([] : List UInt8)))) rfl ?_)
  refine G_nil ?_
  refine kC_normal ?_
  refine k_seq ?_
  refine k_reg .free hmixP (by kernel_rfl) ?_
  refine G_q rfl (op_move (av := .row 1 c_api_Value a0) rfl ?_)
  obtain ⟨y1, hy1, h⟩ := bnd1_some h
  refine G_q rfl (op_pure (m_value_compound_ok _ _ _ hy1) Try.func48 (by kernel_rfl) (LEs.cons (AV.le_eq rfl) (LEs.cons (AV.le_eq rfl) LEs.nil)) ?_)
  refine G_q rfl (op_assign (av := .exact (.string (bs y1))) rfl ?_)
  refine G_nil ?_
  refine kC_normal ?_
  refine k_ret ?_
  obtain rfl := Option.some.inj h
  refine kP_any (endN (af' := (AF.put AF0 (some 2) (.exact (.string (bs y1))))) (σ' := []) _ rfl ?_ ⟨rfl, rfl⟩)
  exact Sub.of_le (AF.le_put (AV.le_eq rfl) (AF.le_top _))
end Go.Proofs.Ytdbnodliomlilaa
/- The functions compute their models, by program. -/
namespace Go.Proofs.Ytdbnodliomlilaa
open Go.RowKit
attribute [local irreducible] AV.exact AV.top AV.row AV.ptr AV.agg AV.tup AV.eptr AV.fn AV.nilq AV.nilqn opA opB opM opR Quiet Loud Reads wpG awp den Sub SubU Pure Fun vecI vecT boxI CellsAll CellsOf OneC LEs LEss
set_option maxRecDepth 100000

set_option maxHeartbeats 4000000 in
theorem m_finset_Product_ok (a0 : List (List UInt8)) (r : (List UInt8) × Int) (h : m_finset_Product a0 = some r) : Pure Try.prog 17 [(.row 1 c_api_Value a0)] (.tup [.exact (.string (bs r.1)), .exact (.int .i64 r.2)]) := by
  unfold m_finset_Product at h
  refine Pure.ofFun (fun_of_awp Try.func17 rfl Try.ntmps17 (by simp) rfl (res2 rfl) fun E hE => k_end ?_)
  refine k_seq ?_
  refine k_reg .free hmixP (by kernel_rfl) ?_
  refine G_q rfl (op_assign (av := .exact (.string (bs ([] : List UInt8)))) rfl ?_)
  refine G_q rfl (op_assign (av := .exact (.int .i64 0)) rfl ?_)
  refine G_nil ?_
  refine kC_normal ?_
  refine k_seq ?_
  refine k_reg .free hmixP (by kernel_rfl) ?_
  refine G_q rfl (op_move (av := .row 1 c_api_Value a0) rfl ?_)
  obtain ⟨y1, hy1, h⟩ := bnd1_some h
  refine G_q rfl (op_pure (m_finset_elements_ok _ _ hy1) Try.func28 (by kernel_rfl) (LEs.cons (AV.le_eq rfl) LEs.nil) ?_)
  refine G_q rfl (op_move (av := .tup [.row 1 c_L_api_Value y1.1, .exact (.int .i64 y1.2)]) rfl ?_)
  refine G_q rfl (op_extract (av := .row 1 c_L_api_Value y1.1) rfl rfl ?_)
  refine G_q rfl (op_extract (av := .exact (.int .i64 y1.2)) rfl rfl ?_)
  refine G_q rfl (op_assign (av := .row 1 c_L_api_Value y1.1) rfl ?_)
  refine G_q rfl (op_assign (av := .exact (.int .i64 y1.2)) rfl ?_)
  refine G_nil ?_
  refine kC_normal ?_
  refine k_seq ?_
  refine k_seq ?_
  refine k_reg .free hmixP (by kernel_rfl) ?_
  refine G_q rfl (op_move (av := .exact (.int .i64 y1.2)) rfl ?_)
  refine G_q rfl (op_neq rfl rfl ?_)
  refine G_nil ?_
  refine kC_normal ?_
  refine k_cond_d (p := ¬ y1.2 = 0) rfl (fun hc => ?_) (fun hc => ?_)
  · replace h := ite_t h hc
    refine k_seq ?_
    refine k_reg .free hmixP (by kernel_rfl) ?_
    refine G_q rfl (op_move (av := .exact (.int .i64 y1.2)) rfl ?_)
    refine G_q rfl (op_assign (av := .exact (.string (bs ([] : List UInt8)))) rfl ?_)
    refine G_q rfl (op_assign (av := .exact (.int .i64 y1.2)) rfl ?_)
    refine G_nil ?_
    refine kC_normal ?_
    refine k_ret ?_
    refine kC_ret ?_
    obtain rfl := Option.some.inj h
    refine kP_any (endN (af' := (AF.put (AF.put AF0 (some 2) (.exact (.string (bs ([] : List UInt8))))) (some 3) (.exact (.int .i64 y1.2)))) (σ' := []) _ rfl ?_ ⟨rfl, rfl⟩)
    exact Sub.of_le (AF.le_put (AV.le_eq rfl) (AF.le_put (AV.le_eq rfl) (AF.le_top _)))
  · replace h := ite_f h hc
    refine k_skip ?_
    refine kC_normal ?_
    refine k_seq ?_
    refine k_reg .free hmixP (by kernel_rfl) ?_
    refine G_q rfl (op_move (av := .row 1 c_L_api_Value y1.1) rfl ?_)
    obtain ⟨y2, hy2, h⟩ := bnd1_some h
    refine G_q rfl (op_pure (m_finset_count_ok _ _ hy2) Try.func36 (by kernel_rfl) (LEs.cons (AV.le_eq rfl) LEs.nil) ?_)
    refine G_q rfl (op_assign (av := .exact (.int .i64 y2)) rfl ?_)
    refine G_nil ?_
    refine kC_normal ?_
    refine k_seq ?_
    refine k_seq ?_
    refine k_reg .free hmixP (by kernel_rfl) ?_
    refine G_q rfl (op_move (av := .exact (.int .i64 y2)) rfl ?_)
    refine G_q rfl (op_gtr rfl rfl ?_)
    refine G_nil ?_
    refine kC_normal ?_
    refine k_cond_d (p := 4096 < y2) rfl (fun hc => ?_) (fun hc => ?_)
    · replace h := ite_t h hc
      refine k_seq ?_
      refine k_reg .free hmixP (by kernel_rfl) ?_
      refine G_q rfl (op_assign (av := .exact (.string (bs ([] : List UInt8)))) rfl ?_)
      refine G_q rfl (op_assign (av := .exact (.int .i64 9)) rfl ?_)
      refine G_nil ?_
      refine kC_normal ?_
      refine k_ret ?_
      refine kC_ret ?_
      obtain rfl := Option.some.inj h
      refine kP_any (endN (af' := (AF.put (AF.put AF0 (some 2) (.exact (.string (bs ([] : List UInt8))))) (some 3) (.exact (.int .i64 9)))) (σ' := []) _ rfl ?_ ⟨rfl, rfl⟩)
      exact Sub.of_le (AF.le_put (AV.le_eq rfl) (AF.le_put (AV.le_eq rfl) (AF.le_top _)))
    · replace h := ite_f h hc
      refine k_skip ?_
      refine kC_normal ?_
      refine k_seq ?_
      refine k_reg .free hmixP (by kernel_rfl) ?_
      refine G_q rfl (op_assign (av := .exact (.slice none 0 0)) rfl ?_)
      refine G_nil ?_
      refine kC_normal ?_
      refine k_join1_1 h (fun (x7_j3 : List (List UInt8)) (v7_j3 : Value) => (AF.put AF0 (some 7) (.exact v7_j3))) (fun (x7_j3 : List (List UInt8)) (v7_j3 : Value) => [vecT Try.prog 33 1 c_api_Value v7_j3 x7_j3]) (fun k3 h => ?_) (fun x7_j3 v7_j3 h => ?_)
      · refine k_seq ?_
        refine k_reg .free hmixP (by kernel_rfl) ?_
        refine G_q rfl (op_move (av := .exact (.int .i64 y2)) rfl ?_)
        refine G_q rfl (op_move (av := .exact (.int .i64 0)) rfl ?_)
        refine G_nil ?_
        refine kC_normal ?_
        refine k_block ?_
        refine k_loop2_1 (m_finset_Product_L14 y1 y2 k3) (m_finset_Product_B14 y1 y2 k3) (fun _ _ => rfl) (fun m _ _ => rfl) h (fun (x7_l14 : List (List UInt8)) (x24_l14 : Int) (v7_l14 : Value) => (AF.put (AF.put (AF.put (AF.put AF0 (some 4) (.row 1 c_L_api_Value y1.1)) (some 7) (.exact v7_l14)) (some 23) (.exact (.int .i64 y2))) (some 24) (.exact (.int .i64 x24_l14)))) (fun (x7_l14 : List (List UInt8)) (x24_l14 : Int) (v7_l14 : Value) => [vecT Try.prog 33 1 c_api_Value v7_l14 x7_l14]) (.slice none 0 0) ?_ (fun rec14 x7_l14 x24_l14 v7_l14 h => ?_)
        · refine Sub.trans (SubU.to (SubU.nilT (P := Try.prog) (t := 33) (n := 1) (enc := c_api_Value))) ?_
          exact Sub.of_le (AF.le_put (AV.le_eq rfl) (AF.le_put (AV.le_eq rfl) (AF.le_put (AV.le_eq rfl) (AF.le_put (AV.le_eq rfl) (AF.le_top _)))))
        · unfold m_finset_Product_B14 at h
          refine k_seq ?_
          refine k_reg .free hmixP (by kernel_rfl) ?_
          refine G_q rfl (op_lss rfl rfl ?_)
          refine G_nil ?_
          refine kC_normal ?_
          refine k_seq ?_
          refine k_cond_d (p := x24_l14 < y2) rfl (fun hc => ?_) (fun hc => ?_)
          · replace h := ite_t h hc
            refine k_skip ?_
            refine kC_normal ?_
            refine k_join1_1 h (fun (x7_j510 : List (List UInt8)) (v7_j510 : Value) => (AF.put (AF.put (AF.put (AF.put AF0 (some 4) (.row 1 c_L_api_Value y1.1)) (some 7) (.exact v7_j510)) (some 23) (.exact (.int .i64 y2))) (some 24) (.exact (.int .i64 x24_l14)))) (fun (x7_j510 : List (List UInt8)) (v7_j510 : Value) => [vecT Try.prog 33 1 c_api_Value v7_j510 x7_j510]) (fun k510 h => ?_) (fun x7_j510 v7_j510 h => ?_)
            · refine k_block ?_
              refine k_seq ?_
              refine k_reg .free hmixP (by kernel_rfl) ?_
              refine G_q rfl (op_move (av := .exact (.int .i64 x24_l14)) rfl ?_)
              refine G_q rfl (op_assign (av := .exact (.int .i64 x24_l14)) rfl ?_)
              refine G_nil ?_
              refine kC_normal ?_
              refine k_seq ?_
              refine k_reg .free hmixP (by kernel_rfl) ?_
              refine G_q rfl (op_move (av := .row 1 c_L_api_Value y1.1) rfl ?_)
              refine G_q rfl (op_len_row (by kernel_rfl) rfl ?_)
              obtain ⟨n561, h⟩ := need_some h
              refine G_l rfl (op_make (enc := c_api_Value) (zr := ([] : List UInt8)) (by kernel_rfl) rfl rfl n561.1 n561.2 len_c_api_Value Try.zeroValue25 (fun _ _ => (Fit.ex Fit.nil0)) (fun v562 => ?_))
              refine G_q rfl (op_assign (av := .exact v562) rfl ?_)
              refine G_nil ?_
              refine kC_normal ?_
              refine k_join1_0 h (fun (x9_j563 : List (List UInt8)) => (AF.put (AF.put (AF.put (AF.put (AF.put AF0 (some 4) (.row 1 c_L_api_Value y1.1)) (some 7) (.exact v7_l14)) (some 9) (.exact v562)) (some 23) (.exact (.int .i64 y2))) (some 24) (.exact (.int .i64 x24_l14)))) (fun (x9_j563 : List (List UInt8)) => [vecT Try.prog 33 1 c_api_Value v7_l14 x7_l14, vecT Try.prog 33 1 c_api_Value v562 x9_j563]) (fun k563 h => ?_) (fun x9_j563 h => ?_)
              · refine k_seq ?_
                refine k_reg .free hmixP (by kernel_rfl) ?_
                refine G_q rfl (op_move (av := .row 1 c_L_api_Value y1.1) rfl ?_)
                refine G_q rfl (op_len_row (by kernel_rfl) rfl ?_)
                refine G_q rfl (op_sub rfl rfl rfl ?_)
                refine G_q rfl (op_assign (av := .exact (.int .i64 (i64 ((List.length y1.1 : Int) - 1)))) rfl ?_)
                refine G_nil ?_
                refine kC_normal ?_
                refine k_block ?_
                refine k_loop3_0 (m_finset_Product_L26 y1 k563) (m_finset_Product_B26 y1 k563) (fun _ _ _ => rfl) (fun m _ _ _ => rfl) h (fun (x8_l26 : Int) (x9_l26 : List (List UInt8)) (x10_l26 : Int) => (AF.put (AF.put (AF.put (AF.put (AF.put (AF.put (AF.put AF0 (some 4) (.row 1 c_L_api_Value y1.1)) (some 7) (.exact v7_l14)) (some 8) (.exact (.int .i64 x8_l26))) (some 9) (.exact v562)) (some 10) (.exact (.int .i64 x10_l26))) (some 23) (.exact (.int .i64 y2))) (some 24) (.exact (.int .i64 x24_l14)))) (fun (x8_l26 : Int) (x9_l26 : List (List UInt8)) (x10_l26 : Int) => [vecT Try.prog 33 1 c_api_Value v7_l14 x7_l14, vecT Try.prog 33 1 c_api_Value v562 x9_l26]) ?_ (fun rec26 x8_l26 x9_l26 x10_l26 h => ?_)
                · refine Sub.trans (SubU.to SubU.f1) ?_
                  exact Sub.of_le (AF.le_put (AV.le_eq rfl) (AF.le_put (AV.le_eq rfl) (AF.le_put (AV.le_eq rfl) (AF.le_put (AV.le_eq rfl) (AF.le_put (AV.le_eq rfl) (AF.le_put (AV.le_eq rfl) (AF.le_put (AV.le_eq rfl) (AF.le_top _))))))))
                · unfold m_finset_Product_B26 at h
                  refine k_seq ?_
                  refine k_seq ?_
                  refine k_reg .free hmixP (by kernel_rfl) ?_
                  refine G_q rfl (op_move (av := .exact (.int .i64 x10_l26)) rfl ?_)
                  refine G_q rfl (op_geq rfl rfl ?_)
                  refine G_nil ?_
                  refine kC_normal ?_
                  refine k_cond_d (p := 0 ≤ x10_l26) rfl (fun hc => ?_) (fun hc => ?_)
                  · replace h := ite_t h hc
                    refine k_skip ?_
                    refine kC_normal ?_
                    refine k_seq ?_
                    refine k_block ?_
                    refine k_seq ?_
                    refine k_plan [] [(0, 0), (0, 1), (0, 2), (0, 3), (0, 4), (0, 5), (0, 6), (0, 7), (0, 8), (0, 9), (0, 10), (0, 11), (0, 12), (0, 13), (0, 14), (1, 15), (2, 16)] hmixP (by kernel_rfl) ?_
                    refine P_q no34_0 rfl (op_move (av := .exact v562) rfl ?_)
                    refine P_q no34_0 rfl (op_move (av := .exact (.int .i64 x10_l26)) rfl ?_)
                    refine P_q no34_0 rfl (op_move (av := .row 1 c_L_api_Value y1.1) rfl ?_)
                    refine P_q no34_0 rfl (op_move (av := .exact (.int .i64 x10_l26)) rfl ?_)
                    obtain ⟨n600, h⟩ := need_some h
                    refine P_q no34_0 rfl (op_index_row (by kernel_rfl) rfl rfl n600.1 n600.2 ?_)
                    refine P_q no34_0 rfl (op_load1p (a := .row 1 c_api_Value (gi y1.1 x10_l26)) (by kernel_rfl) rfl rfl ?_)
                    refine P_q no34_0 rfl (op_move (av := .exact (.int .i64 x8_l26)) rfl ?_)
                    refine P_q no34_0 rfl (op_move (av := .row 1 c_L_api_Value y1.1) rfl ?_)
                    refine P_q no34_0 rfl (op_move (av := .exact (.int .i64 x10_l26)) rfl ?_)
                    obtain ⟨n601, h⟩ := need_some h
                    refine P_q no34_0 rfl (op_index_row (by kernel_rfl) rfl rfl n601.1 n601.2 ?_)
                    refine P_q no34_0 rfl (op_load1p (a := .row 1 c_api_Value (gi y1.1 x10_l26)) (by kernel_rfl) rfl rfl ?_)
                    refine P_q no34_0 rfl (op_len_row (by kernel_rfl) rfl ?_)
                    obtain ⟨n602, h⟩ := need_some h
                    refine P_q no34_0 rfl (op_rem rfl rfl n602 rfl ?_)
                    obtain ⟨n603, h⟩ := need_some h
                    refine P_q no34_0 rfl (op_index_row (by kernel_rfl) rfl rfl n603.1 n603.2 ?_)
                    refine P_q no34_0 rfl (op_load1p (a := .exact (.string (bs (gi (gi y1.1 x10_l26) (Int.tmod x8_l26 (List.length (gi y1.1 x10_l26) : Int)))))) (by kernel_rfl) rfl rfl ?_)
                    obtain ⟨n604, h⟩ := need_some h
                    refine P_r rfl (opR_f1 (op_index_vec (by kernel_rfl) rfl rfl n604.1 n604.2 ?_))
                    refine P_l rfl (opB_f1 (op_store_vec (i := x10_l26) (o := 0) (z := gi (gi y1.1 x10_l26) (Int.tmod x8_l26 (List.length (gi y1.1 x10_l26) : Int))) (c' := [.exact (.string (bs (gi (gi y1.1 x10_l26) (Int.tmod x8_l26 (List.length (gi y1.1 x10_l26) : Int)))))]) (by kernel_rfl) len_c_api_Value rfl n604.1 n604.2 rfl CellsOf.str (LEs.cons (AV.le_eq rfl) LEs.nil) (OneC.str OneC.nil) (by kernel_rfl) (Nat.le_of_ble_eq_true rfl) rfl ?_))
                    refine P_nil ?_
                    refine kC_normal ?_
                    refine k_reg .free hmixP (by kernel_rfl) ?_
                    refine G_q rfl (op_move (av := .exact (.int .i64 x8_l26)) rfl ?_)
                    refine G_q rfl (op_move (av := .row 1 c_L_api_Value y1.1) rfl ?_)
                    refine G_q rfl (op_move (av := .exact (.int .i64 x10_l26)) rfl ?_)
                    obtain ⟨n605, h⟩ := need_some h
                    refine G_q rfl (op_index_row (by kernel_rfl) rfl rfl n605.1 n605.2 ?_)
                    refine G_q rfl (op_load1p (a := .row 1 c_api_Value (gi y1.1 x10_l26)) (by kernel_rfl) rfl rfl ?_)
                    refine G_q rfl (op_len_row (by kernel_rfl) rfl ?_)
                    obtain ⟨n606, h⟩ := need_some h
                    refine G_q rfl (op_quo rfl rfl n606 rfl ?_)
                    refine G_q rfl (op_assign (av := .exact (.int .i64 (i64 (Int.tdiv x8_l26 (List.length (gi y1.1 x10_l26) : Int))))) rfl ?_)
                    refine G_nil ?_
                    refine kB_normal ?_
                    refine kC_normal ?_
                    refine k_reg .free hmixP (by kernel_rfl) ?_
                    refine G_q rfl (op_move (av := .exact (.int .i64 x10_l26)) rfl ?_)
                    refine G_q rfl (op_sub rfl rfl rfl ?_)
                    refine G_q rfl (op_assign (av := .exact (.int .i64 (i64 (x10_l26 - 1)))) rfl ?_)
                    refine G_nil ?_
                    refine kI_normal ⟨_, _, _, h, ?_⟩
                    refine Sub.trans (SubU.to SubU.f1) ?_
                    exact Sub.of_le (AF.le_put (AV.le_eq rfl) (AF.le_put (AV.le_eq rfl) (AF.le_put (AV.le_eq rfl) (AF.le_put (AV.le_eq rfl) (AF.le_put (AV.le_eq rfl) (AF.le_put (AV.le_eq rfl) (AF.le_put (AV.le_eq rfl) (AF.le_top _))))))))
                  · replace h := ite_f h hc
                    refine k_exit ?_
                    refine kC_exit ?_
                    refine kI_exit ?_
                    refine kB_exit ?_
                    refine kI_normal ⟨_, h, ?_⟩
                    exact Sub.of_le (AF.le_put (AV.le_eq rfl) (AF.le_put (AV.le_eq rfl) (AF.le_put (AV.le_eq rfl) (AF.le_put (AV.le_eq rfl) (AF.le_put (AV.le_eq rfl) (AF.le_top _))))))
              · refine k_reg .free hmixP (by kernel_rfl) ?_
                refine G_q rfl (op_move (av := .exact v7_l14) rfl ?_)
                refine G_q rfl (op_move (av := .exact v562) rfl ?_)
                refine G_sub rfl (SubU.trans SubU.f1 (SubU.freezeT2 (s1 := 9) (s2 := 61) rfl rfl len_c_api_Value)) ?_
                obtain ⟨y607, hy607, h⟩ := bnd1_some h
                refine G_q rfl (op_pure (m_value_Seq_ok _ _ hy607) Try.func37 (by kernel_rfl) (LEs.cons (AV.le_eq rfl) LEs.nil) ?_)
                refine G_q rfl (op_litT (n := 1) (enc := c_api_Value) [y607] (CellsAll.cons rfl CellsOf.str CellsAll.nil) rfl (by kernel_rfl) (LEss.cons (LEs.cons (AV.le_eq rfl) LEs.nil) LEss.nil) ?_)
                obtain ⟨n608, h⟩ := need_some h
                refine G_l rfl (op_appT (by kernel_rfl) rfl rfl oc_c_api_Value n608 (fun v609 => ?_))
                refine G_q rfl (op_assign (av := .exact v609) rfl ?_)
                refine G_nil ?_
                refine kB_normal ?_
                refine kI_normal ⟨_, v609, h, ?_⟩
                exact Sub.of_le (AF.le_put (AV.le_eq rfl) (AF.le_put (AV.le_eq rfl) (AF.le_put (AV.le_eq rfl) (AF.le_put (AV.le_eq rfl) (AF.le_top _)))))
            · refine k_reg .free hmixP (by kernel_rfl) ?_
              refine G_q rfl (op_add rfl rfl rfl ?_)
              refine G_q rfl (op_move (av := .exact (.int .i64 (i64 (x24_l14 + 1)))) rfl ?_)
              refine G_nil ?_
              refine kI_normal ⟨_, _, v7_j510, h, ?_⟩
              exact Sub.of_le (AF.le_put (AV.le_eq rfl) (AF.le_put (AV.le_eq rfl) (AF.le_put (AV.le_eq rfl) (AF.le_put (AV.le_eq rfl) (AF.le_top _)))))
          · replace h := ite_f h hc
            refine k_exit ?_
            refine kC_exit ?_
            refine kI_exit ?_
            refine kB_exit ?_
            refine kI_normal ⟨_, v7_l14, h, ?_⟩
            exact Sub.of_le (AF.le_put (AV.le_eq rfl) (AF.le_top _))
      · refine k_seq ?_
        refine k_reg .free hmixP (by kernel_rfl) ?_
        refine G_q rfl (op_move (av := .exact v7_j3) rfl ?_)
        refine G_sub rfl (SubU.freezeT2 (s1 := 7) (s2 := 66) rfl rfl len_c_api_Value) ?_
        obtain ⟨y610, hy610, h⟩ := bnd1_some h
        refine G_q rfl (op_pure (m_finset_set_ok _ _ hy610) Try.func30 (by kernel_rfl) (LEs.cons (AV.le_eq rfl) LEs.nil) ?_)
        refine G_q rfl (op_extract (av := .exact (.string (bs y610.1))) rfl rfl ?_)
        refine G_q rfl (op_extract (av := .exact (.int .i64 y610.2)) rfl rfl ?_)
        refine G_q rfl (op_assign (av := .exact (.string (bs y610.1))) rfl ?_)
        refine G_q rfl (op_assign (av := .exact (.int .i64 y610.2)) rfl ?_)
        refine G_nil ?_
        refine kC_normal ?_
        refine k_ret ?_
        obtain rfl := Option.some.inj h
        refine kP_any (endN (af' := (AF.put (AF.put AF0 (some 2) (.exact (.string (bs y610.1)))) (some 3) (.exact (.int .i64 y610.2)))) (σ' := []) _ rfl ?_ ⟨rfl, rfl⟩)
        exact Sub.of_le (AF.le_put (AV.le_eq rfl) (AF.le_put (AV.le_eq rfl) (AF.le_top _)))
set_option maxHeartbeats 4000000 in
theorem m_ref9_Kind_ok (a0 : List UInt8) (r : Int) (h : m_ref9_Kind a0 = some r) : Pure Try.prog 54 [(.exact (.string (bs a0)))] (.exact (.int .i64 r)) := by
  unfold m_ref9_Kind at h
  refine Pure.ofFun (fun_of_awp Try.func54 rfl Try.ntmps54 (by simp) rfl (res1 rfl) fun E hE => k_end ?_)
  refine k_seq ?_
  refine k_reg .free hmixP (by kernel_rfl) ?_
  refine G_q rfl (op_assign (av := .exact (.int .i64 0)) rfl ?_)
  refine G_nil ?_
  refine kC_normal ?_
  refine k_seq ?_
  refine k_seq ?_
  refine k_reg .free hmixP (by kernel_rfl) ?_
  refine G_q rfl (op_move (av := .exact (.string (bs a0))) rfl ?_)
  obtain ⟨y1, hy1, h⟩ := bnd1_some h
  refine G_q rfl (op_pure (m_ref9_Valid_ok _ _ hy1) Try.func31 (by kernel_rfl) (LEs.cons (AV.le_eq rfl) LEs.nil) ?_)
  refine G_q rfl (op_not rfl ?_)
  refine G_nil ?_
  refine kC_normal ?_
  refine k_cond_b (c := !y1) rfl (fun hc => ?_) (fun hc => ?_)
  · replace h := ite_t h hc
    refine k_seq ?_
    refine k_reg .free hmixP (by kernel_rfl) ?_
    refine G_q rfl (op_assign (av := .exact (.int .i64 0)) rfl ?_)
    refine G_nil ?_
    refine kC_normal ?_
    refine k_ret ?_
    refine kC_ret ?_
    obtain rfl := Option.some.inj h
    refine kP_any (endN (af' := (AF.put AF0 (some 2) (.exact (.int .i64 0)))) (σ' := []) _ rfl ?_ ⟨rfl, rfl⟩)
    exact Sub.of_le (AF.le_put (AV.le_eq rfl) (AF.le_top _))
  · replace h := ite_f h hc
    refine k_skip ?_
    refine kC_normal ?_
    refine k_seq ?_
    refine k_reg .free hmixP (by kernel_rfl) ?_
    refine G_q rfl (op_move (av := .exact (.string (bs a0))) rfl ?_)
    obtain ⟨n2, h⟩ := need_some h
    refine G_q rfl (op_index_str (by kernel_rfl) rfl rfl n2.1 n2.2 ?_)
    refine G_q rfl (op_convInt (k := .i64) (r := (UInt8.toNat (gi a0 0) : Int)) (by kernel_rfl) rfl (wrap_u8 rfl _) ?_)
    refine G_q rfl (op_assign (av := .exact (.int .i64 (UInt8.toNat (gi a0 0) : Int))) rfl ?_)
    refine G_nil ?_
    refine kC_normal ?_
    refine k_ret ?_
    obtain rfl := Option.some.inj h
    refine kP_any (endN (af' := (AF.put AF0 (some 2) (.exact (.int .i64 (UInt8.toNat (gi a0 0) : Int))))) (σ' := []) _ rfl ?_ ⟨rfl, rfl⟩)
    exact Sub.of_le (AF.le_put (AV.le_eq rfl) (AF.le_top _))
set_option maxHeartbeats 4000000 in
theorem m_ref9_sets_ok (a0 : List (List UInt8)) (r : Bool) (h : m_ref9_sets a0 = some r) : Pure Try.prog 38 [(.row 1 c_api_Value a0)] (.exact (.bool r)) := by
  unfold m_ref9_sets at h
  refine Pure.ofFun (fun_of_awp Try.func38 rfl Try.ntmps38 (by simp) rfl (res1 rfl) fun E hE => k_end ?_)
  refine k_seq ?_
  refine k_reg .free hmixP (by kernel_rfl) ?_
  refine G_q rfl (op_assign (av := .exact (.bool false)) rfl ?_)
  refine G_nil ?_
  refine kC_normal ?_
  refine k_join0_0 h (AF0) ([]) (fun k1 h => ?_) (fun  h => ?_)
  · refine k_seq ?_
    refine k_reg .free hmixP (by kernel_rfl) ?_
    refine G_q rfl (op_assign (av := .exact (.int .i64 0)) rfl ?_)
    refine G_nil ?_
    refine kC_normal ?_
    refine k_block ?_
    refine k_loop1_0 (m_ref9_sets_L2 a0 k1) (m_ref9_sets_B2 a0 k1) (fun _ => rfl) (fun m _ => rfl) h (fun (x3_l2 : Int) => (AF.put (AF.put AF0 (some 0) (.row 1 c_api_Value a0)) (some 3) (.exact (.int .i64 x3_l2)))) (fun (x3_l2 : Int) => []) ?_ (fun rec2 x3_l2 h => ?_)
    · exact Sub.of_le (AF.le_put (AV.le_eq rfl) (AF.le_put (AV.le_eq rfl) (AF.le_top _)))
    · unfold m_ref9_sets_B2 at h
      refine k_seq ?_
      refine k_seq ?_
      refine k_reg .free hmixP (by kernel_rfl) ?_
      refine G_q rfl (op_move (av := .exact (.int .i64 x3_l2)) rfl ?_)
      refine G_q rfl (op_move (av := .row 1 c_api_Value a0) rfl ?_)
      refine G_q rfl (op_len_row (by kernel_rfl) rfl ?_)
      refine G_q rfl (op_lss rfl rfl ?_)
      refine G_nil ?_
      refine kC_normal ?_
      refine k_cond_d (p := x3_l2 < (List.length a0 : Int)) rfl (fun hc => ?_) (fun hc => ?_)
      · replace h := ite_t h hc
        refine k_skip ?_
        refine kC_normal ?_
        refine k_seq ?_
        refine k_block ?_
        refine k_seq ?_
        refine k_reg .free hmixP (by kernel_rfl) ?_
        refine G_q rfl (op_move (av := .row 1 c_api_Value a0) rfl ?_)
        refine G_q rfl (op_move (av := .exact (.int .i64 x3_l2)) rfl ?_)
        obtain ⟨n13, h⟩ := need_some h
        refine G_q rfl (op_index_row (by kernel_rfl) rfl rfl n13.1 n13.2 ?_)
        refine G_q rfl (op_load1p (a := .exact (.string (bs (gi a0 x3_l2)))) (by kernel_rfl) rfl rfl ?_)
        obtain ⟨y14, hy14, h⟩ := bnd1_some h
        refine G_q rfl (op_pure (m_ref9_Kind_ok _ _ hy14) Try.func54 (by kernel_rfl) (LEs.cons (AV.le_eq rfl) LEs.nil) ?_)
        refine G_q rfl (op_neq rfl rfl ?_)
        refine G_nil ?_
        refine kC_normal ?_
        refine k_cond_d (p := ¬ y14 = 5) rfl (fun hc => ?_) (fun hc => ?_)
        · replace h := ite_t h hc
          refine k_seq ?_
          refine k_reg .free hmixP (by kernel_rfl) ?_
          refine G_q rfl (op_assign (av := .exact (.bool false)) rfl ?_)
          refine G_nil ?_
          refine kC_normal ?_
          refine k_ret ?_
          refine kB_ret ?_
          refine kC_ret ?_
          refine kI_ret ?_
          refine kB_ret ?_
          refine kI_ret ?_
          obtain rfl := Option.some.inj h
          refine kP_any (endN (af' := (AF.put AF0 (some 2) (.exact (.bool false)))) (σ' := []) _ rfl ?_ ⟨rfl, rfl⟩)
          exact Sub.of_le (AF.le_put (AV.le_eq rfl) (AF.le_top _))
        · replace h := ite_f h hc
          refine k_skip ?_
          refine kB_normal ?_
          refine kC_normal ?_
          refine k_reg .free hmixP (by kernel_rfl) ?_
          refine G_q rfl (op_move (av := .exact (.int .i64 x3_l2)) rfl ?_)
          refine G_q rfl (op_add rfl rfl rfl ?_)
          refine G_q rfl (op_assign (av := .exact (.int .i64 (i64 (x3_l2 + 1)))) rfl ?_)
          refine G_nil ?_
          refine kI_normal ⟨_, h, ?_⟩
          exact Sub.of_le (AF.le_put (AV.le_eq rfl) (AF.le_put (AV.le_eq rfl) (AF.le_top _)))
      · replace h := ite_f h hc
        refine k_exit ?_
        refine kC_exit ?_
        refine kI_exit ?_
        refine kB_exit ?_
        refine kI_normal ⟨h, ?_⟩
        exact Sub.of_le (AF.le_top _)
  · refine k_seq ?_
    refine k_reg .free hmixP (by kernel_rfl) ?_
    refine G_q rfl (op_assign (av := .exact (.bool true)) rfl ?_)
    refine G_nil ?_
    refine kC_normal ?_
    refine k_ret ?_
    obtain rfl := Option.some.inj h
    refine kP_any (endN (af' := (AF.put AF0 (some 2) (.exact (.bool true)))) (σ' := []) _ rfl ?_ ⟨rfl, rfl⟩)
    exact Sub.of_le (AF.le_put (AV.le_eq rfl) (AF.le_top _))
set_option maxHeartbeats 4000000 in
theorem m_ref9_Make_ok (a0 : Int) (a1 : List (List UInt8)) (r : (List UInt8)) (h : m_ref9_Make a0 a1 = some r) : Pure Try.prog 39 [(.exact (.int .i64 a0)), (.row 1 c_api_Value a1)] (.exact (.string (bs r))) := by
  unfold m_ref9_Make at h
  refine Pure.ofFun (fun_of_awp Try.func39 rfl Try.ntmps39 (by simp) rfl (res1 rfl) fun E hE => k_end ?_)
  refine k_seq ?_
  refine k_reg .free hmixP (by kernel_rfl) ?_
  refine G_q rfl (op_assign (av := .exact (.string (bs ([] : List UInt8)))) rfl ?_)
  refine G_nil ?_
  refine kC_normal ?_
  refine k_seq ?_
  refine k_seq ?_
  refine k_reg .free hmixP (by kernel_rfl) ?_
  refine G_q rfl (op_move (av := .row 1 c_api_Value a1) rfl ?_)
  obtain ⟨y1, hy1, h⟩ := bnd1_some h
  refine G_q rfl (op_pure (m_ref9_all_ok _ _ hy1) Try.func43 (by kernel_rfl) (LEs.cons (AV.le_eq rfl) LEs.nil) ?_)
  refine G_q rfl (op_not rfl ?_)
  refine G_nil ?_
  refine kC_normal ?_
  refine k_cond_b (c := !y1) rfl (fun hc => ?_) (fun hc => ?_)
  · replace h := ite_t h hc
    refine k_seq ?_
    refine k_reg .free hmixP (by kernel_rfl) ?_
    refine G_q rfl (op_assign (av := .exact (.string (bs ([] : List UInt8)))) rfl ?_)
    refine G_nil ?_
    refine kC_normal ?_
    refine k_ret ?_
    refine kC_ret ?_
    obtain rfl := Option.some.inj h
    refine kP_any (endN (af' := (AF.put AF0 (some 4) (.exact (.string (bs ([] : List UInt8)))))) (σ' := []) _ rfl ?_ ⟨rfl, rfl⟩)
    exact Sub.of_le (AF.le_put (AV.le_eq rfl) (AF.le_top _))
  · replace h := ite_f h hc
    refine k_skip ?_
    refine kC_normal ?_
    refine k_seq ?_
    refine k_reg .free hmixP (by kernel_rfl) ?_
    refine G_q rfl (op_move (av := .exact (.int .i64 a0)) rfl ?_)
    refine G_q rfl (op_move (av := .row 1 c_api_Value a1) rfl ?_)
    obtain ⟨y2, hy2, h⟩ := bnd1_some h
    refine G_q rfl (op_pure (m_ref9_compound_ok _ _ _ hy2) Try.func44 (by kernel_rfl) (LEs.cons (AV.le_eq rfl) (LEs.cons (AV.le_eq rfl) LEs.nil)) ?_)
    refine G_q rfl (op_assign (av := .exact (.string (bs y2))) rfl ?_)
    refine G_nil ?_
    refine kC_normal ?_
    refine k_ret ?_
    obtain rfl := Option.some.inj h
    refine kP_any (endN (af' := (AF.put AF0 (some 4) (.exact (.string (bs y2))))) (σ' := []) _ rfl ?_ ⟨rfl, rfl⟩)
    exact Sub.of_le (AF.le_put (AV.le_eq rfl) (AF.le_top _))
set_option maxHeartbeats 4000000 in
theorem m_ref9_Product_ok (a0 : List (List UInt8)) (r : (List UInt8) × Int) (h : m_ref9_Product a0 = some r) : Pure Try.prog 18 [(.row 1 c_api_Value a0)] (.tup [.exact (.string (bs r.1)), .exact (.int .i64 r.2)]) := by
  unfold m_ref9_Product at h
  refine Pure.ofFun (fun_of_awp Try.func18 rfl Try.ntmps18 (by simp) rfl (res2 rfl) fun E hE => k_end ?_)
  refine k_seq ?_
  refine k_reg .free hmixP (by kernel_rfl) ?_
  refine G_q rfl (op_assign (av := .exact (.string (bs ([] : List UInt8)))) rfl ?_)
  refine G_q rfl (op_assign (av := .exact (.int .i64 0)) rfl ?_)
  refine G_nil ?_
  refine kC_normal ?_
  refine k_seq ?_
  refine k_seq ?_
  refine k_reg .free hmixP (by kernel_rfl) ?_
  refine G_q rfl (op_move (av := .row 1 c_api_Value a0) rfl ?_)
  obtain ⟨y1, hy1, h⟩ := bnd1_some h
  refine G_q rfl (op_pure (m_ref9_sets_ok _ _ hy1) Try.func38 (by kernel_rfl) (LEs.cons (AV.le_eq rfl) LEs.nil) ?_)
  refine G_q rfl (op_not rfl ?_)
  refine G_nil ?_
  refine kC_normal ?_
  refine k_cond_b (c := !y1) rfl (fun hc => ?_) (fun hc => ?_)
  · replace h := ite_t h hc
    refine k_seq ?_
    refine k_reg .free hmixP (by kernel_rfl) ?_
    refine G_q rfl (op_assign (av := .exact (.string (bs ([] : List UInt8)))) rfl ?_)
    refine G_q rfl (op_assign (av := .exact (.int .i64 6)) rfl ?_)
    refine G_nil ?_
    refine kC_normal ?_
    refine k_ret ?_
    refine kC_ret ?_
    obtain rfl := Option.some.inj h
    refine kP_any (endN (af' := (AF.put (AF.put AF0 (some 2) (.exact (.string (bs ([] : List UInt8))))) (some 3) (.exact (.int .i64 6)))) (σ' := []) _ rfl ?_ ⟨rfl, rfl⟩)
    exact Sub.of_le (AF.le_put (AV.le_eq rfl) (AF.le_put (AV.le_eq rfl) (AF.le_top _)))
  · replace h := ite_f h hc
    refine k_skip ?_
    refine kC_normal ?_
    refine k_seq ?_
    refine k_reg .free hmixP (by kernel_rfl) ?_
    refine G_q rfl (op_litT (n := 1) (enc := c_L_api_Value) [([] : List (List UInt8))] (CellsAll.cons rfl CellsOf.slice CellsAll.nil) rfl (by kernel_rfl) (LEss.cons (LEs.cons (row_nil (by decide)) LEs.nil) LEss.nil) ?_)
    refine G_q rfl (op_assign (av := .row 1 c_L_api_Value ([([] : List (List UInt8))])) rfl ?_)
    refine G_nil ?_
    refine kC_normal ?_
    refine k_join0_0 h ((AF.put (AF.put AF0 (some 0) (.row 1 c_api_Value a0)) (some 4) (.row 1 c_L_api_Value ([([] : List (List UInt8))])))) ([]) (fun k2 h => ?_) (fun  h => ?_)
    · refine k_seq ?_
      refine k_reg .free hmixP (by kernel_rfl) ?_
      refine G_q rfl (op_assign (av := .exact (.int .i64 0)) rfl ?_)
      refine G_nil ?_
      refine kC_normal ?_
      refine k_block ?_
      refine k_loop1_0 (m_ref9_Product_L2 a0 k2) (m_ref9_Product_B2 a0 k2) (fun _ => rfl) (fun m _ => rfl) h (fun (x5_l2 : Int) => (AF.put (AF.put (AF.put AF0 (some 0) (.row 1 c_api_Value a0)) (some 4) (.row 1 c_L_api_Value ([([] : List (List UInt8))]))) (some 5) (.exact (.int .i64 x5_l2)))) (fun (x5_l2 : Int) => []) ?_ (fun rec2 x5_l2 h => ?_)
      · exact Sub.of_le (AF.le_put (AV.le_eq rfl) (AF.le_put (AV.le_eq rfl) (AF.le_put (AV.le_eq rfl) (AF.le_top _))))
      · unfold m_ref9_Product_B2 at h
        refine k_seq ?_
        refine k_seq ?_
        refine k_reg .free hmixP (by kernel_rfl) ?_
        refine G_q rfl (op_move (av := .exact (.int .i64 x5_l2)) rfl ?_)
        refine G_q rfl (op_move (av := .row 1 c_api_Value a0) rfl ?_)
        refine G_q rfl (op_len_row (by kernel_rfl) rfl ?_)
        refine G_q rfl (op_lss rfl rfl ?_)
        refine G_nil ?_
        refine kC_normal ?_
        refine k_cond_d (p := x5_l2 < (List.length a0 : Int)) rfl (fun hc => ?_) (fun hc => ?_)
        · replace h := ite_t h hc
          refine k_skip ?_
          refine kC_normal ?_
          refine k_seq ?_
          refine k_block ?_
          refine k_seq ?_
          refine k_reg .free hmixP (by kernel_rfl) ?_
          refine G_q rfl (op_move (av := .row 1 c_api_Value a0) rfl ?_)
          refine G_q rfl (op_move (av := .exact (.int .i64 x5_l2)) rfl ?_)
          obtain ⟨n19, h⟩ := need_some h
          refine G_q rfl (op_index_row (by kernel_rfl) rfl rfl n19.1 n19.2 ?_)
          refine G_q rfl (op_load1p (a := .exact (.string (bs (gi a0 x5_l2)))) (by kernel_rfl) rfl rfl ?_)
          obtain ⟨y20, hy20, h⟩ := bnd1_some h
          refine G_q rfl (op_pure (m_ref9_Parts_ok _ _ hy20) Try.func14 (by kernel_rfl) (LEs.cons (AV.le_eq rfl) LEs.nil) ?_)
          refine G_q rfl (op_len_row (by kernel_rfl) rfl ?_)
          refine G_q rfl (op_eql rfl rfl ?_)
          refine G_nil ?_
          refine kC_normal ?_
          refine k_cond_d (p := (List.length y20 : Int) = 0) rfl (fun hc => ?_) (fun hc => ?_)
          · replace h := ite_t h hc
            refine k_seq ?_
            refine k_reg .free hmixP (by kernel_rfl) ?_
            obtain ⟨y21, hy21, h⟩ := bnd1_some h
            refine G_q rfl (op_pure (m_ref9_Set_ok _ _ hy21) Try.func22 (by kernel_rfl) (LEs.cons (row_nil (by decide)) LEs.nil) ?_)
            refine G_q rfl (op_assign (av := .exact (.string (bs y21))) rfl ?_)
            refine G_q rfl (op_assign (av := .exact (.int .i64 0)) rfl ?_)
            refine G_nil ?_
            refine kC_normal ?_
            refine k_ret ?_
            refine kB_ret ?_
            refine kC_ret ?_
            refine kI_ret ?_
            refine kB_ret ?_
            refine kI_ret ?_
            obtain rfl := Option.some.inj h
            refine kP_any (endN (af' := (AF.put (AF.put AF0 (some 2) (.exact (.string (bs y21)))) (some 3) (.exact (.int .i64 0)))) (σ' := []) _ rfl ?_ ⟨rfl, rfl⟩)
            exact Sub.of_le (AF.le_put (AV.le_eq rfl) (AF.le_put (AV.le_eq rfl) (AF.le_top _)))
          · replace h := ite_f h hc
            refine k_skip ?_
            refine kB_normal ?_
            refine kC_normal ?_
            refine k_reg .free hmixP (by kernel_rfl) ?_
            refine G_q rfl (op_move (av := .exact (.int .i64 x5_l2)) rfl ?_)
            refine G_q rfl (op_add rfl rfl rfl ?_)
            refine G_q rfl (op_assign (av := .exact (.int .i64 (i64 (x5_l2 + 1)))) rfl ?_)
            refine G_nil ?_
            refine kI_normal ⟨_, h, ?_⟩
            exact Sub.of_le (AF.le_put (AV.le_eq rfl) (AF.le_put (AV.le_eq rfl) (AF.le_put (AV.le_eq rfl) (AF.le_top _))))
        · replace h := ite_f h hc
          refine k_exit ?_
          refine kC_exit ?_
          refine kI_exit ?_
          refine kB_exit ?_
          refine kI_normal ⟨h, ?_⟩
          exact Sub.of_le (AF.le_put (AV.le_eq rfl) (AF.le_put (AV.le_eq rfl) (AF.le_top _)))
    · refine k_join1_0 h (fun (x4_j22 : List (List (List UInt8))) => (AF.put AF0 (some 4) (.row 1 c_L_api_Value x4_j22))) (fun (x4_j22 : List (List (List UInt8))) => []) (fun k22 h => ?_) (fun x4_j22 h => ?_)
      · refine k_seq ?_
        refine k_reg .free hmixP (by kernel_rfl) ?_
        refine G_q rfl (op_assign (av := .exact (.int .i64 0)) rfl ?_)
        refine G_nil ?_
        refine kC_normal ?_
        refine k_block ?_
        refine k_loop2_0 (m_ref9_Product_L88 a0 k22) (m_ref9_Product_B88 a0 k22) (fun _ _ => rfl) (fun m _ _ => rfl) h (fun (x4_l88 : List (List (List UInt8))) (x6_l88 : Int) => (AF.put (AF.put (AF.put AF0 (some 0) (.row 1 c_api_Value a0)) (some 4) (.row 1 c_L_api_Value x4_l88)) (some 6) (.exact (.int .i64 x6_l88)))) (fun (x4_l88 : List (List (List UInt8))) (x6_l88 : Int) => []) ?_ (fun rec88 x4_l88 x6_l88 h => ?_)
        · exact Sub.of_le (AF.le_put (AV.le_eq rfl) (AF.le_put (AV.le_eq rfl) (AF.le_put (AV.le_eq rfl) (AF.le_top _))))
        · unfold m_ref9_Product_B88 at h
          refine k_seq ?_
          refine k_seq ?_
          refine k_reg .free hmixP (by kernel_rfl) ?_
          refine G_q rfl (op_move (av := .exact (.int .i64 x6_l88)) rfl ?_)
          refine G_q rfl (op_move (av := .row 1 c_api_Value a0) rfl ?_)
          refine G_q rfl (op_len_row (by kernel_rfl) rfl ?_)
          refine G_q rfl (op_lss rfl rfl ?_)
          refine G_nil ?_
          refine kC_normal ?_
          refine k_cond_d (p := x6_l88 < (List.length a0 : Int)) rfl (fun hc => ?_) (fun hc => ?_)
          · replace h := ite_t h hc
            refine k_skip ?_
            refine kC_normal ?_
            refine k_join1_1 h (fun (x4_j3139 : List (List (List UInt8))) (v4_j3139 : Value) => (AF.put (AF.put (AF.put AF0 (some 0) (.row 1 c_api_Value a0)) (some 4) (.exact v4_j3139)) (some 6) (.exact (.int .i64 x6_l88)))) (fun (x4_j3139 : List (List (List UInt8))) (v4_j3139 : Value) => [vecT Try.prog 47 1 c_L_api_Value v4_j3139 x4_j3139]) (fun k3139 h => ?_) (fun x4_j3139 v4_j3139 h => ?_)
            · refine k_block ?_
              refine k_seq ?_
              refine k_reg .free hmixP (by kernel_rfl) ?_
              refine G_q rfl (op_move (av := .row 1 c_api_Value a0) rfl ?_)
              refine G_q rfl (op_move (av := .exact (.int .i64 x6_l88)) rfl ?_)
              obtain ⟨n3451, h⟩ := need_some h
              refine G_q rfl (op_index_row (by kernel_rfl) rfl rfl n3451.1 n3451.2 ?_)
              refine G_q rfl (op_load1p (a := .exact (.string (bs (gi a0 x6_l88)))) (by kernel_rfl) rfl rfl ?_)
              obtain ⟨y3452, hy3452, h⟩ := bnd1_some h
              refine G_q rfl (op_pure (m_ref9_Parts_ok _ _ hy3452) Try.func14 (by kernel_rfl) (LEs.cons (AV.le_eq rfl) LEs.nil) ?_)
              refine G_q rfl (op_assign (av := .row 1 c_api_Value y3452) rfl ?_)
              refine G_nil ?_
              refine kC_normal ?_
              refine k_seq ?_
              refine k_reg .free hmixP (by kernel_rfl) ?_
              refine G_q rfl (op_assign (av := .exact (.slice none 0 0)) rfl ?_)
              refine G_nil ?_
              refine kC_normal ?_
              refine k_join1_1 h (fun (x8_j3453 : List (List (List UInt8))) (v8_j3453 : Value) => (AF.put (AF.put (AF.put AF0 (some 0) (.row 1 c_api_Value a0)) (some 6) (.exact (.int .i64 x6_l88))) (some 8) (.exact v8_j3453))) (fun (x8_j3453 : List (List (List UInt8))) (v8_j3453 : Value) => [vecT Try.prog 47 1 c_L_api_Value v8_j3453 x8_j3453]) (fun k3453 h => ?_) (fun x8_j3453 v8_j3453 h => ?_)
              · refine k_seq ?_
                refine k_reg .free hmixP (by kernel_rfl) ?_
                refine G_q rfl (op_assign (av := .exact (.int .i64 0)) rfl ?_)
                refine G_nil ?_
                refine kC_normal ?_
                refine k_block ?_
                refine k_loop2_1 (m_ref9_Product_L166 x4_l88 y3452 k3453) (m_ref9_Product_B166 x4_l88 y3452 k3453) (fun _ _ => rfl) (fun m _ _ => rfl) h (fun (x8_l166 : List (List (List UInt8))) (x9_l166 : Int) (v8_l166 : Value) => (AF.put (AF.put (AF.put (AF.put (AF.put (AF.put AF0 (some 0) (.row 1 c_api_Value a0)) (some 4) (.row 1 c_L_api_Value x4_l88)) (some 6) (.exact (.int .i64 x6_l88))) (some 7) (.row 1 c_api_Value y3452)) (some 8) (.exact v8_l166)) (some 9) (.exact (.int .i64 x9_l166)))) (fun (x8_l166 : List (List (List UInt8))) (x9_l166 : Int) (v8_l166 : Value) => [vecT Try.prog 47 1 c_L_api_Value v8_l166 x8_l166]) (.slice none 0 0) ?_ (fun rec166 x8_l166 x9_l166 v8_l166 h => ?_)
                · refine Sub.trans (SubU.to (SubU.nilT (P := Try.prog) (t := 47) (n := 1) (enc := c_L_api_Value))) ?_
                  exact Sub.of_le (AF.le_put (AV.le_eq rfl) (AF.le_put (AV.le_eq rfl) (AF.le_put (AV.le_eq rfl) (AF.le_put (AV.le_eq rfl) (AF.le_put (AV.le_eq rfl) (AF.le_put (AV.le_eq rfl) (AF.le_top _)))))))
                · unfold m_ref9_Product_B166 at h
                  refine k_seq ?_
                  refine k_seq ?_
                  refine k_reg .free hmixP (by kernel_rfl) ?_
                  refine G_q rfl (op_move (av := .exact (.int .i64 x9_l166)) rfl ?_)
                  refine G_q rfl (op_move (av := .row 1 c_L_api_Value x4_l88) rfl ?_)
                  refine G_q rfl (op_len_row (by kernel_rfl) rfl ?_)
                  refine G_q rfl (op_lss rfl rfl ?_)
                  refine G_nil ?_
                  refine kC_normal ?_
                  refine k_cond_d (p := x9_l166 < (List.length x4_l88 : Int)) rfl (fun hc => ?_) (fun hc => ?_)
                  · replace h := ite_t h hc
                    refine k_skip ?_
                    refine kC_normal ?_
                    refine k_join1_1 h (fun (x8_j3710 : List (List (List UInt8))) (v8_j3710 : Value) => (AF.put (AF.put (AF.put (AF.put (AF.put (AF.put AF0 (some 0) (.row 1 c_api_Value a0)) (some 4) (.row 1 c_L_api_Value x4_l88)) (some 6) (.exact (.int .i64 x6_l88))) (some 7) (.row 1 c_api_Value y3452)) (some 8) (.exact v8_j3710)) (some 9) (.exact (.int .i64 x9_l166)))) (fun (x8_j3710 : List (List (List UInt8))) (v8_j3710 : Value) => [vecT Try.prog 47 1 c_L_api_Value v8_j3710 x8_j3710]) (fun k3710 h => ?_) (fun x8_j3710 v8_j3710 h => ?_)
                    · refine k_block ?_
                      refine k_seq ?_
                      refine k_reg .free hmixP (by kernel_rfl) ?_
                      refine G_q rfl (op_assign (av := .exact (.int .i64 0)) rfl ?_)
                      refine G_nil ?_
                      refine kC_normal ?_
                      refine k_block ?_
                      refine k_loop2_1 (m_ref9_Product_L172 x4_l88 y3452 x9_l166 k3710) (m_ref9_Product_B172 x4_l88 y3452 x9_l166 k3710) (fun _ _ => rfl) (fun m _ _ => rfl) h (fun (x8_l172 : List (List (List UInt8))) (x10_l172 : Int) (v8_l172 : Value) => (AF.put (AF.put (AF.put (AF.put (AF.put (AF.put (AF.put AF0 (some 0) (.row 1 c_api_Value a0)) (some 4) (.row 1 c_L_api_Value x4_l88)) (some 6) (.exact (.int .i64 x6_l88))) (some 7) (.row 1 c_api_Value y3452)) (some 8) (.exact v8_l172)) (some 9) (.exact (.int .i64 x9_l166))) (some 10) (.exact (.int .i64 x10_l172)))) (fun (x8_l172 : List (List (List UInt8))) (x10_l172 : Int) (v8_l172 : Value) => [vecT Try.prog 47 1 c_L_api_Value v8_l172 x8_l172]) v8_l166 ?_ (fun rec172 x8_l172 x10_l172 v8_l172 h => ?_)
                      · exact Sub.of_le (AF.le_put (AV.le_eq rfl) (AF.le_put (AV.le_eq rfl) (AF.le_put (AV.le_eq rfl) (AF.le_put (AV.le_eq rfl) (AF.le_put (AV.le_eq rfl) (AF.le_put (AV.le_eq rfl) (AF.le_put (AV.le_eq rfl) (AF.le_top _))))))))
                      · unfold m_ref9_Product_B172 at h
                        refine k_seq ?_
                        refine k_seq ?_
                        refine k_reg .free hmixP (by kernel_rfl) ?_
                        refine G_q rfl (op_move (av := .exact (.int .i64 x10_l172)) rfl ?_)
                        refine G_q rfl (op_move (av := .row 1 c_api_Value y3452) rfl ?_)
                        refine G_q rfl (op_len_row (by kernel_rfl) rfl ?_)
                        refine G_q rfl (op_lss rfl rfl ?_)
                        refine G_nil ?_
                        refine kC_normal ?_
                        refine k_cond_d (p := x10_l172 < (List.length y3452 : Int)) rfl (fun hc => ?_) (fun hc => ?_)
                        · replace h := ite_t h hc
                          refine k_skip ?_
                          refine kC_normal ?_
                          refine k_seq ?_
                          refine k_block ?_
                          refine k_seq ?_
                          refine k_seq ?_
                          refine k_reg .free hmixP (by kernel_rfl) ?_
                          refine G_q rfl (op_move (av := .exact v8_l172) rfl ?_)
                          refine G_r rfl (op_len_vec (by kernel_rfl) rfl ?_)
                          refine G_q rfl (op_geq rfl rfl ?_)
                          refine G_nil ?_
                          refine kC_normal ?_
                          refine k_cond_d (p := 4096 ≤ (List.length x8_l172 : Int)) rfl (fun hc => ?_) (fun hc => ?_)
                          · replace h := ite_t h hc
                            refine k_seq ?_
                            refine k_reg .free hmixP (by kernel_rfl) ?_
                            refine G_q rfl (op_assign (av := .exact (.string (bs ([] : List UInt8)))) rfl ?_)
                            refine G_q rfl (op_assign (av := .exact (.int .i64 9)) rfl ?_)
                            refine G_nil ?_
                            refine kC_normal ?_
                            refine k_ret ?_
                            refine kC_ret ?_
                            refine kB_ret ?_
                            refine kC_ret ?_
                            refine kI_ret ?_
                            refine kB_ret ?_
                            refine kB_ret ?_
                            refine kI_ret ?_
                            refine kI_ret ?_
                            refine kB_ret ?_
                            refine kI_ret ?_
                            refine kB_ret ?_
                            refine kI_ret ?_
                            refine kI_ret ?_
                            refine kB_ret ?_
                            refine kI_ret ?_
                            obtain rfl := Option.some.inj h
                            refine kP_any (endN (af' := (AF.put (AF.put AF0 (some 2) (.exact (.string (bs ([] : List UInt8))))) (some 3) (.exact (.int .i64 9)))) (σ' := []) _ rfl ?_ ⟨rfl, rfl⟩)
                            refine Sub.trans (SubU.to SubU.drop) ?_
                            exact Sub.of_le (AF.le_put (AV.le_eq rfl) (AF.le_put (AV.le_eq rfl) (AF.le_top _)))
                          · replace h := ite_f h hc
                            refine k_skip ?_
                            refine kC_normal ?_
                            refine k_plan [] [(0, 0), (0, 1), (0, 2), (0, 3), (0, 4), (0, 6), (0, 7), (0, 8), (0, 9), (0, 10), (2, 5), (2, 11), (0, 12), (2, 13), (0, 14)] hmixP (by kernel_rfl) ?_
                            refine P_q no34_0 rfl (op_move (av := .exact v8_l172) rfl ?_)
                            refine P_q no34_0 rfl (op_move (av := .row 1 c_L_api_Value x4_l88) rfl ?_)
                            refine P_q no34_0 rfl (op_move (av := .exact (.int .i64 x9_l166)) rfl ?_)
                            obtain ⟨n3752, h⟩ := need_some h
                            refine P_q no34_0 rfl (op_index_row (by kernel_rfl) rfl rfl n3752.1 n3752.2 ?_)
                            refine P_q no34_0 rfl (op_load1p (a := .row 1 c_api_Value (gi x4_l88 x9_l166)) (by kernel_rfl) rfl rfl ?_)
                            refine P_q no34_0 rfl (op_move (av := .row 1 c_api_Value y3452) rfl ?_)
                            refine P_q no34_0 rfl (op_move (av := .exact (.int .i64 x10_l172)) rfl ?_)
                            obtain ⟨n3753, h⟩ := need_some h
                            refine P_q no34_0 rfl (op_index_row (by kernel_rfl) rfl rfl n3753.1 n3753.2 ?_)
                            refine P_q no34_0 rfl (op_load1p (a := .exact (.string (bs (gi y3452 x10_l172)))) (by kernel_rfl) rfl rfl ?_)
                            refine P_q no34_0 rfl (op_litT (n := 1) (enc := c_api_Value) [gi y3452 x10_l172] (CellsAll.cons rfl CellsOf.str CellsAll.nil) rfl (by kernel_rfl) (LEss.cons (LEs.cons (AV.le_eq rfl) LEs.nil) LEss.nil) ?_)
                            obtain ⟨n3754, h⟩ := need_some h
                            refine P_l rfl (op_appN (enc := c_api_Value) (by kernel_rfl) rfl rfl oc_c_api_Value n3754 (fun v3755 => ?_))
                            obtain ⟨n3756, h⟩ := need_some h
                            refine P_l rfl (opB_frz (t := 33) (n := 1) (enc := c_api_Value) rfl len_c_api_Value (op_appT (by kernel_rfl) rfl rfl oc_c_api_Value n3756 (fun v3757 => ⟨v3757, _, _, rfl, rfl, ?_⟩)))
                            refine P_q no34_0 rfl (op_litT (n := 1) (enc := c_L_api_Value) [(gi x4_l88 x9_l166 ++ [gi y3452 x10_l172])] (CellsAll.cons rfl CellsOf.row CellsAll.nil) rfl (by kernel_rfl) (LEss.cons (LEs.cons (AV.le_eq rfl) LEs.nil) LEss.nil) ?_)
                            obtain ⟨n3758, h⟩ := need_some h
                            refine P_l rfl (op_appT (by kernel_rfl) rfl rfl oc_c_L_api_Value n3758 (fun v3759 => ?_))
                            refine P_q no34_0 rfl (op_assign (av := .exact v3759) rfl ?_)
                            refine P_nil ?_
                            refine kB_normal ?_
                            refine kC_normal ?_
                            refine k_reg .free hmixP (by kernel_rfl) ?_
                            refine G_q rfl (op_move (av := .exact (.int .i64 x10_l172)) rfl ?_)
                            refine G_q rfl (op_add rfl rfl rfl ?_)
                            refine G_q rfl (op_assign (av := .exact (.int .i64 (i64 (x10_l172 + 1)))) rfl ?_)
                            refine G_nil ?_
                            refine kI_normal ⟨_, _, v3759, h, ?_⟩
                            exact Sub.of_le (AF.le_put (AV.le_eq rfl) (AF.le_put (AV.le_eq rfl) (AF.le_put (AV.le_eq rfl) (AF.le_put (AV.le_eq rfl) (AF.le_put (AV.le_eq rfl) (AF.le_put (AV.le_eq rfl) (AF.le_put (AV.le_eq rfl) (AF.le_top _))))))))
                        · replace h := ite_f h hc
                          refine k_exit ?_
                          refine kC_exit ?_
                          refine kI_exit ?_
                          refine kB_exit ?_
                          refine kB_normal ?_
                          refine kI_normal ⟨_, v8_l172, h, ?_⟩
                          exact Sub.of_le (AF.le_put (AV.le_eq rfl) (AF.le_put (AV.le_eq rfl) (AF.le_put (AV.le_eq rfl) (AF.le_put (AV.le_eq rfl) (AF.le_put (AV.le_eq rfl) (AF.le_put (AV.le_eq rfl) (AF.le_top _)))))))
                    · refine k_reg .free hmixP (by kernel_rfl) ?_
                      refine G_q rfl (op_move (av := .exact (.int .i64 x9_l166)) rfl ?_)
                      refine G_q rfl (op_add rfl rfl rfl ?_)
                      refine G_q rfl (op_assign (av := .exact (.int .i64 (i64 (x9_l166 + 1)))) rfl ?_)
                      refine G_nil ?_
                      refine kI_normal ⟨_, _, v8_j3710, h, ?_⟩
                      exact Sub.of_le (AF.le_put (AV.le_eq rfl) (AF.le_put (AV.le_eq rfl) (AF.le_put (AV.le_eq rfl) (AF.le_put (AV.le_eq rfl) (AF.le_put (AV.le_eq rfl) (AF.le_put (AV.le_eq rfl) (AF.le_top _)))))))
                  · replace h := ite_f h hc
                    refine k_exit ?_
                    refine kC_exit ?_
                    refine kI_exit ?_
                    refine kB_exit ?_
                    refine kI_normal ⟨_, v8_l166, h, ?_⟩
                    exact Sub.of_le (AF.le_put (AV.le_eq rfl) (AF.le_put (AV.le_eq rfl) (AF.le_put (AV.le_eq rfl) (AF.le_top _))))
              · refine k_reg .free hmixP (by kernel_rfl) ?_
                refine G_q rfl (op_move (av := .exact v8_j3453) rfl ?_)
                refine G_q rfl (op_assign (av := .exact v8_j3453) rfl ?_)
                refine G_nil ?_
                refine kB_normal ?_
                refine kI_normal ⟨_, v8_j3453, h, ?_⟩
                exact Sub.of_le (AF.le_put (AV.le_eq rfl) (AF.le_put (AV.le_eq rfl) (AF.le_put (AV.le_eq rfl) (AF.le_top _))))
            · refine k_reg .free hmixP (by kernel_rfl) ?_
              refine G_q rfl (op_move (av := .exact (.int .i64 x6_l88)) rfl ?_)
              refine G_q rfl (op_add rfl rfl rfl ?_)
              refine G_q rfl (op_assign (av := .exact (.int .i64 (i64 (x6_l88 + 1)))) rfl ?_)
              refine G_nil ?_
              refine kI_normal ⟨_, _, h, ?_⟩
              refine Sub.trans (SubU.to (SubU.freezeT (s := 4) rfl len_c_L_api_Value)) ?_
              exact Sub.of_le (AF.le_put (AV.le_eq rfl) (AF.le_put (AV.le_eq rfl) (AF.le_put (AV.le_eq rfl) (AF.le_top _))))
          · replace h := ite_f h hc
            refine k_exit ?_
            refine kC_exit ?_
            refine kI_exit ?_
            refine kB_exit ?_
            refine kI_normal ⟨_, h, ?_⟩
            exact Sub.of_le (AF.le_put (AV.le_eq rfl) (AF.le_top _))
      · refine k_seq ?_
        refine k_reg .free hmixP (by kernel_rfl) ?_
        refine G_q rfl (op_assign (av := .exact (.slice none 0 0)) rfl ?_)
        refine G_nil ?_
        refine kC_normal ?_
        refine k_join1_1 h (fun (x11_j3760 : List (List UInt8)) (v11_j3760 : Value) => (AF.put AF0 (some 11) (.exact v11_j3760))) (fun (x11_j3760 : List (List UInt8)) (v11_j3760 : Value) => [vecT Try.prog 33 1 c_api_Value v11_j3760 x11_j3760]) (fun k3760 h => ?_) (fun x11_j3760 v11_j3760 h => ?_)
        · refine k_seq ?_
          refine k_reg .free hmixP (by kernel_rfl) ?_
          refine G_q rfl (op_assign (av := .exact (.int .i64 0)) rfl ?_)
          refine G_nil ?_
          refine kC_normal ?_
          refine k_block ?_
          refine k_loop2_1 (m_ref9_Product_L174 x4_j22 k3760) (m_ref9_Product_B174 x4_j22 k3760) (fun _ _ => rfl) (fun m _ _ => rfl) h (fun (x11_l174 : List (List UInt8)) (x12_l174 : Int) (v11_l174 : Value) => (AF.put (AF.put (AF.put AF0 (some 4) (.row 1 c_L_api_Value x4_j22)) (some 11) (.exact v11_l174)) (some 12) (.exact (.int .i64 x12_l174)))) (fun (x11_l174 : List (List UInt8)) (x12_l174 : Int) (v11_l174 : Value) => [vecT Try.prog 33 1 c_api_Value v11_l174 x11_l174]) (.slice none 0 0) ?_ (fun rec174 x11_l174 x12_l174 v11_l174 h => ?_)
          · refine Sub.trans (SubU.to (SubU.nilT (P := Try.prog) (t := 33) (n := 1) (enc := c_api_Value))) ?_
            exact Sub.of_le (AF.le_put (AV.le_eq rfl) (AF.le_put (AV.le_eq rfl) (AF.le_put (AV.le_eq rfl) (AF.le_top _))))
          · unfold m_ref9_Product_B174 at h
            refine k_seq ?_
            refine k_seq ?_
            refine k_reg .free hmixP (by kernel_rfl) ?_
            refine G_q rfl (op_move (av := .exact (.int .i64 x12_l174)) rfl ?_)
            refine G_q rfl (op_move (av := .row 1 c_L_api_Value x4_j22) rfl ?_)
            refine G_q rfl (op_len_row (by kernel_rfl) rfl ?_)
            refine G_q rfl (op_lss rfl rfl ?_)
            refine G_nil ?_
            refine kC_normal ?_
            refine k_cond_d (p := x12_l174 < (List.length x4_j22 : Int)) rfl (fun hc => ?_) (fun hc => ?_)
            · replace h := ite_t h hc
              refine k_skip ?_
              refine kC_normal ?_
              refine k_seq ?_
              refine k_block ?_
              refine k_seq ?_
              refine k_reg .free hmixP (by kernel_rfl) ?_
              refine G_q rfl (op_move (av := .row 1 c_L_api_Value x4_j22) rfl ?_)
              refine G_q rfl (op_move (av := .exact (.int .i64 x12_l174)) rfl ?_)
              obtain ⟨n3782, h⟩ := need_some h
              refine G_q rfl (op_index_row (by kernel_rfl) rfl rfl n3782.1 n3782.2 ?_)
              refine G_q rfl (op_load1p (a := .row 1 c_api_Value (gi x4_j22 x12_l174)) (by kernel_rfl) rfl rfl ?_)
              obtain ⟨y3783, hy3783, h⟩ := bnd1_some h
              refine G_q rfl (op_pure (m_ref9_Make_ok _ _ _ hy3783) Try.func39 (by kernel_rfl) (LEs.cons (AV.le_eq rfl) (LEs.cons (AV.le_eq rfl) LEs.nil)) ?_)
              refine G_q rfl (op_assign (av := .exact (.string (bs y3783))) rfl ?_)
              refine G_nil ?_
              refine kC_normal ?_
              refine k_seq ?_
              refine k_seq ?_
              refine k_reg .free hmixP (by kernel_rfl) ?_
              refine G_q rfl (op_move (av := .exact (.string (bs y3783))) rfl ?_)
              refine G_q rfl (op_eqlS rfl rfl ?_)
              refine G_nil ?_
              refine kC_normal ?_
              refine k_cond_d (p := y3783 = ([] : List UInt8)) rfl (fun hc => ?_) (fun hc => ?_)
              · replace h := ite_t h hc
                refine k_seq ?_
                refine k_reg .free hmixP (by kernel_rfl) ?_
                refine G_q rfl (op_assign (av := .exact (.string (bs ([] : List UInt8)))) rfl ?_)
                refine G_q rfl (op_assign (av := .exact (.int .i64 9)) rfl ?_)
                refine G_nil ?_
                refine kC_normal ?_
                refine k_ret ?_
                refine kC_ret ?_
                refine kB_ret ?_
                refine kC_ret ?_
                refine kI_ret ?_
                refine kB_ret ?_
                refine kI_ret ?_
                obtain rfl := Option.some.inj h
                refine kP_any (endN (af' := (AF.put (AF.put AF0 (some 2) (.exact (.string (bs ([] : List UInt8))))) (some 3) (.exact (.int .i64 9)))) (σ' := []) _ rfl ?_ ⟨rfl, rfl⟩)
                refine Sub.trans (SubU.to SubU.drop) ?_
                exact Sub.of_le (AF.le_put (AV.le_eq rfl) (AF.le_put (AV.le_eq rfl) (AF.le_top _)))
              · replace h := ite_f h hc
                refine k_skip ?_
                refine kC_normal ?_
                refine k_reg .free hmixP (by kernel_rfl) ?_
                refine G_q rfl (op_move (av := .exact v11_l174) rfl ?_)
                refine G_q rfl (op_move (av := .exact (.string (bs y3783))) rfl ?_)
                refine G_q rfl (op_litT (n := 1) (enc := c_api_Value) [y3783] (CellsAll.cons rfl CellsOf.str CellsAll.nil) rfl (by kernel_rfl) (LEss.cons (LEs.cons (AV.le_eq rfl) LEs.nil) LEss.nil) ?_)
                obtain ⟨n3784, h⟩ := need_some h
                refine G_l rfl (op_appT (by kernel_rfl) rfl rfl oc_c_api_Value n3784 (fun v3785 => ?_))
                refine G_q rfl (op_assign (av := .exact v3785) rfl ?_)
                refine G_nil ?_
                refine kB_normal ?_
                refine kC_normal ?_
                refine k_reg .free hmixP (by kernel_rfl) ?_
                refine G_q rfl (op_move (av := .exact (.int .i64 x12_l174)) rfl ?_)
                refine G_q rfl (op_add rfl rfl rfl ?_)
                refine G_q rfl (op_assign (av := .exact (.int .i64 (i64 (x12_l174 + 1)))) rfl ?_)
                refine G_nil ?_
                refine kI_normal ⟨_, _, v3785, h, ?_⟩
                exact Sub.of_le (AF.le_put (AV.le_eq rfl) (AF.le_put (AV.le_eq rfl) (AF.le_put (AV.le_eq rfl) (AF.le_top _))))
            · replace h := ite_f h hc
              refine k_exit ?_
              refine kC_exit ?_
              refine kI_exit ?_
              refine kB_exit ?_
              refine kI_normal ⟨_, v11_l174, h, ?_⟩
              exact Sub.of_le (AF.le_put (AV.le_eq rfl) (AF.le_top _))
        · refine k_seq ?_
          refine k_reg .free hmixP (by kernel_rfl) ?_
          refine G_q rfl (op_move (av := .exact v11_j3760) rfl ?_)
          refine G_sub rfl (SubU.freezeT2 (s1 := 11) (s2 := 90) rfl rfl len_c_api_Value) ?_
          obtain ⟨y3786, hy3786, h⟩ := bnd1_some h
          refine G_q rfl (op_pure (m_ref9_bounded_ok _ _ hy3786) Try.func40 (by kernel_rfl) (LEs.cons (AV.le_eq rfl) LEs.nil) ?_)
          refine G_q rfl (op_extract (av := .exact (.string (bs y3786.1))) rfl rfl ?_)
          refine G_q rfl (op_extract (av := .exact (.int .i64 y3786.2)) rfl rfl ?_)
          refine G_q rfl (op_assign (av := .exact (.string (bs y3786.1))) rfl ?_)
          refine G_q rfl (op_assign (av := .exact (.int .i64 y3786.2)) rfl ?_)
          refine G_nil ?_
          refine kC_normal ?_
          refine k_ret ?_
          obtain rfl := Option.some.inj h
          refine kP_any (endN (af' := (AF.put (AF.put AF0 (some 2) (.exact (.string (bs y3786.1)))) (some 3) (.exact (.int .i64 y3786.2)))) (σ' := []) _ rfl ?_ ⟨rfl, rfl⟩)
          exact Sub.of_le (AF.le_put (AV.le_eq rfl) (AF.le_put (AV.le_eq rfl) (AF.le_top _)))
set_option maxHeartbeats 4000000 in
theorem m_law10_FinsetProducts_ok (a0 : List (List UInt8)) (a1 : Int) (a2 : Int) (a3 : List Int) (r : Bool) (h : m_law10_FinsetProducts a0 a1 a2 a3 = some r) : Pure Try.prog 5 [(.row 1 c_api_Value a0), (.exact (.int .i64 a1)), (.exact (.int .i64 a2)), (.row 1 c_int a3)] (.exact (.bool r)) := by
  unfold m_law10_FinsetProducts at h
  refine Pure.ofFun (fun_of_awp Try.func5 rfl Try.ntmps5 (by simp) rfl (res1 rfl) fun E hE => k_end ?_)
  refine k_seq ?_
  refine k_reg .free hmixP (by kernel_rfl) ?_
  refine G_q rfl (op_assign (av := .exact (.bool false)) rfl ?_)
  refine G_nil ?_
  refine kC_normal ?_
  refine k_seq ?_
  refine k_reg .free hmixP (by kernel_rfl) ?_
  refine G_q rfl (op_move (av := .row 1 c_int a3) rfl ?_)
  obtain ⟨y1, hy1, h⟩ := bnd1_some h
  refine G_l rfl (op_fun_0_1_1 (m_gen_New_ok _ _ hy1) Try.func7 (by kernel_rfl) (LEs.cons (AV.le_eq rfl) LEs.nil) (fun b2 => ?_))
  refine G_q rfl (op_assign (av := pA b2 0) rfl ?_)
  refine G_nil ?_
  refine kC_normal ?_
  refine k_seq ?_
  refine k_reg .free hmixP (by kernel_rfl) ?_
  refine G_q rfl (op_assign (av := .exact (.slice none 0 0)) rfl ?_)
  refine G_nil ?_
  refine kC_normal ?_
  refine k_join1_1 h (fun (x10_j3 : List (List UInt8)) (v10_j3 : Value) => (AF.put (AF.put (AF.put (AF.put AF0 (some 0) (.row 1 c_api_Value a0)) (some 1) (.exact (.int .i64 a1))) (some 2) (.exact (.int .i64 a2))) (some 10) (.exact v10_j3))) (fun (x10_j3 : List (List UInt8)) (v10_j3 : Value) => [vecT Try.prog 33 1 c_api_Value v10_j3 x10_j3]) (fun k3 h => ?_) (fun x10_j3 v10_j3 h => ?_)
  · refine k_seq ?_
    refine k_reg .free hmixP (by kernel_rfl) ?_
    refine G_q rfl (op_move (av := pA b2 0) rfl ?_)
    obtain ⟨y15, hy15, h⟩ := bnd1_some h
    refine G_l rfl (op_fun_1_0_1 (m_gen_Choices_Next_ok _ _ _ hy15) Try.func16 (by kernel_rfl) (LEs.cons (AV.le_eq rfl) (LEs.cons (AV.le_eq rfl) LEs.nil)) ?_)
    refine G_q rfl (op_assign (av := .exact (.int .i64 y15.1)) rfl ?_)
    refine G_nil ?_
    refine kC_normal ?_
    refine k_block ?_
    refine k_loop4_1 (m_law10_FinsetProducts_L2 k3) (m_law10_FinsetProducts_B2 k3) (fun _ _ _ _ => rfl) (fun m _ _ _ _ => rfl) h (fun (x9_0_l2 : List Int) (x9_1_l2 : Int) (x10_l2 : List (List UInt8)) (x11_l2 : Int) (v10_l2 : Value) => (AF.put (AF.put (AF.put (AF.put (AF.put (AF.put AF0 (some 0) (.row 1 c_api_Value a0)) (some 1) (.exact (.int .i64 a1))) (some 2) (.exact (.int .i64 a2))) (some 9) (pA b2 0)) (some 10) (.exact v10_l2)) (some 11) (.exact (.int .i64 x11_l2)))) (fun (x9_0_l2 : List Int) (x9_1_l2 : Int) (x10_l2 : List (List UInt8)) (x11_l2 : Int) (v10_l2 : Value) => [boxI 42 b2 [.row 1 c_int x9_0_l2, .exact (.int .i64 x9_1_l2)], vecT Try.prog 33 1 c_api_Value v10_l2 x10_l2]) (.slice none 0 0) ?_ (fun rec2 x9_0_l2 x9_1_l2 x10_l2 x11_l2 v10_l2 h => ?_)
    · refine Sub.trans (SubU.to (SubU.nilT (P := Try.prog) (t := 33) (n := 1) (enc := c_api_Value))) ?_
      refine Sub.trans (SubU.to SubU.f1) ?_
      exact Sub.of_le (AF.le_put (AV.le_eq rfl) (AF.le_put (AV.le_eq rfl) (AF.le_put (AV.le_eq rfl) (AF.le_put (AV.le_eq rfl) (AF.le_put (AV.le_eq rfl) (AF.le_put (AV.le_eq rfl) (AF.le_top _)))))))
    · unfold m_law10_FinsetProducts_B2 at h
      refine k_seq ?_
      refine k_seq ?_
      refine k_reg .free hmixP (by kernel_rfl) ?_
      refine G_q rfl (op_move (av := .exact (.int .i64 x11_l2)) rfl ?_)
      refine G_q rfl (op_gtr rfl rfl ?_)
      refine G_nil ?_
      refine kC_normal ?_
      refine k_cond_d (p := 0 < x11_l2) rfl (fun hc => ?_) (fun hc => ?_)
      · replace h := ite_t h hc
        refine k_skip ?_
        refine kC_normal ?_
        refine k_seq ?_
        refine k_block ?_
        refine k_reg .free hmixP (by kernel_rfl) ?_
        refine G_q rfl (op_move (av := .exact v10_l2) rfl ?_)
        refine G_q rfl (op_move (av := pA b2 0) rfl ?_)
        obtain ⟨y22, hy22, h⟩ := bnd1_some h
        refine G_l rfl (op_fun_1_0_1 (m_gen_Choices_Ints_ok _ _ hy22) Try.func8 (by kernel_rfl) (LEs.cons (AV.le_eq rfl) LEs.nil) ?_)
        refine G_q rfl (op_litT (n := 1) (enc := c_api_Value) [y22.1] (CellsAll.cons rfl CellsOf.str CellsAll.nil) rfl (by kernel_rfl) (LEss.cons (LEs.cons (AV.le_eq rfl) LEs.nil) LEss.nil) ?_)
        obtain ⟨n23, h⟩ := need_some h
        refine G_l rfl (opB_f1 (op_appT (by kernel_rfl) rfl rfl oc_c_api_Value n23 (fun v24 => ?_)))
        refine G_q rfl (op_assign (av := .exact v24) rfl ?_)
        refine G_nil ?_
        refine kB_normal ?_
        refine kC_normal ?_
        refine k_reg .free hmixP (by kernel_rfl) ?_
        refine G_q rfl (op_move (av := .exact (.int .i64 x11_l2)) rfl ?_)
        refine G_q rfl (op_sub rfl rfl rfl ?_)
        refine G_q rfl (op_assign (av := .exact (.int .i64 (i64 (x11_l2 - 1)))) rfl ?_)
        refine G_nil ?_
        refine kI_normal ⟨_, _, _, _, v24, h, ?_⟩
        refine Sub.trans (SubU.to SubU.f1) ?_
        exact Sub.of_le (AF.le_put (AV.le_eq rfl) (AF.le_put (AV.le_eq rfl) (AF.le_put (AV.le_eq rfl) (AF.le_put (AV.le_eq rfl) (AF.le_put (AV.le_eq rfl) (AF.le_put (AV.le_eq rfl) (AF.le_top _)))))))
      · replace h := ite_f h hc
        refine k_exit ?_
        refine kC_exit ?_
        refine kI_exit ?_
        refine kB_exit ?_
        refine kI_normal ⟨_, v10_l2, h, ?_⟩
        refine Sub.trans (SubU.to SubU.drop) ?_
        exact Sub.of_le (AF.le_put (AV.le_eq rfl) (AF.le_put (AV.le_eq rfl) (AF.le_put (AV.le_eq rfl) (AF.le_put (AV.le_eq rfl) (AF.le_top _)))))
  · refine k_seq ?_
    refine k_reg .free hmixP (by kernel_rfl) ?_
    refine G_q rfl (op_move (av := .row 1 c_api_Value a0) rfl ?_)
    obtain ⟨y25, hy25, h⟩ := bnd1_some h
    refine G_q rfl (op_pure (m_finset_Product_ok _ _ hy25) Try.func17 (by kernel_rfl) (LEs.cons (AV.le_eq rfl) LEs.nil) ?_)
    refine G_q rfl (op_move (av := .tup [.exact (.string (bs y25.1)), .exact (.int .i64 y25.2)]) rfl ?_)
    refine G_q rfl (op_extract (av := .exact (.string (bs y25.1))) rfl rfl ?_)
    refine G_q rfl (op_extract (av := .exact (.int .i64 y25.2)) rfl rfl ?_)
    refine G_q rfl (op_assign (av := .exact (.string (bs y25.1))) rfl ?_)
    refine G_q rfl (op_assign (av := .exact (.int .i64 y25.2)) rfl ?_)
    refine G_nil ?_
    refine kC_normal ?_
    refine k_seq ?_
    refine k_reg .free hmixP (by kernel_rfl) ?_
    refine G_q rfl (op_move (av := .row 1 c_api_Value a0) rfl ?_)
    obtain ⟨y26, hy26, h⟩ := bnd1_some h
    refine G_q rfl (op_pure (m_ref9_Product_ok _ _ hy26) Try.func18 (by kernel_rfl) (LEs.cons (AV.le_eq rfl) LEs.nil) ?_)
    refine G_q rfl (op_move (av := .tup [.exact (.string (bs y26.1)), .exact (.int .i64 y26.2)]) rfl ?_)
    refine G_q rfl (op_extract (av := .exact (.string (bs y26.1))) rfl rfl ?_)
    refine G_q rfl (op_extract (av := .exact (.int .i64 y26.2)) rfl rfl ?_)
    refine G_q rfl (op_assign (av := .exact (.string (bs y26.1))) rfl ?_)
    refine G_q rfl (op_assign (av := .exact (.int .i64 y26.2)) rfl ?_)
    refine G_nil ?_
    refine kC_normal ?_
    refine k_seq ?_
    refine k_reg .free hmixP (by kernel_rfl) ?_
    refine G_q rfl (op_move (av := .exact v10_j3) rfl ?_)
    refine G_sub rfl (SubU.freezeT2 (s1 := 10) (s2 := 53) rfl rfl len_c_api_Value) ?_
    obtain ⟨y27, hy27, h⟩ := bnd1_some h
    refine G_q rfl (op_pure (m_finset_Product_ok _ _ hy27) Try.func17 (by kernel_rfl) (LEs.cons (AV.le_eq rfl) LEs.nil) ?_)
    refine G_q rfl (op_move (av := .tup [.exact (.string (bs y27.1)), .exact (.int .i64 y27.2)]) rfl ?_)
    refine G_q rfl (op_extract (av := .exact (.string (bs y27.1))) rfl rfl ?_)
    refine G_q rfl (op_extract (av := .exact (.int .i64 y27.2)) rfl rfl ?_)
    refine G_q rfl (op_assign (av := .exact (.string (bs y27.1))) rfl ?_)
    refine G_q rfl (op_assign (av := .exact (.int .i64 y27.2)) rfl ?_)
    refine G_nil ?_
    refine kC_normal ?_
    refine k_seq ?_
    refine k_reg .free hmixP (by kernel_rfl) ?_
    refine G_q rfl (op_move (av := .row 1 c_api_Value x10_j3) rfl ?_)
    obtain ⟨y28, hy28, h⟩ := bnd1_some h
    refine G_q rfl (op_pure (m_ref9_Product_ok _ _ hy28) Try.func18 (by kernel_rfl) (LEs.cons (AV.le_eq rfl) LEs.nil) ?_)
    refine G_q rfl (op_move (av := .tup [.exact (.string (bs y28.1)), .exact (.int .i64 y28.2)]) rfl ?_)
    refine G_q rfl (op_extract (av := .exact (.string (bs y28.1))) rfl rfl ?_)
    refine G_q rfl (op_extract (av := .exact (.int .i64 y28.2)) rfl rfl ?_)
    refine G_q rfl (op_assign (av := .exact (.string (bs y28.1))) rfl ?_)
    refine G_q rfl (op_assign (av := .exact (.int .i64 y28.2)) rfl ?_)
    refine G_nil ?_
    refine kC_normal ?_
    refine k_seq ?_
    refine k_reg .free hmixP (by kernel_rfl) ?_
    refine G_q rfl (op_move (av := .exact (.int .i64 a1)) rfl ?_)
    refine G_q rfl (op_move (av := .exact (.int .i64 a2)) rfl ?_)
    obtain ⟨y29, hy29, h⟩ := bnd1_some h
    refine G_q rfl (op_pure (m_finset_Range_ok _ _ _ hy29) Try.func19 (by kernel_rfl) (LEs.cons (AV.le_eq rfl) (LEs.cons (AV.le_eq rfl) LEs.nil)) ?_)
    refine G_q rfl (op_move (av := .tup [.exact (.string (bs y29.1)), .exact (.int .i64 y29.2)]) rfl ?_)
    refine G_q rfl (op_extract (av := .exact (.string (bs y29.1))) rfl rfl ?_)
    refine G_q rfl (op_extract (av := .exact (.int .i64 y29.2)) rfl rfl ?_)
    refine G_q rfl (op_assign (av := .exact (.string (bs y29.1))) rfl ?_)
    refine G_q rfl (op_assign (av := .exact (.int .i64 y29.2)) rfl ?_)
    refine G_nil ?_
    refine kC_normal ?_
    refine k_seq ?_
    refine k_reg .free hmixP (by kernel_rfl) ?_
    refine G_q rfl (op_move (av := .exact (.int .i64 a1)) rfl ?_)
    refine G_q rfl (op_move (av := .exact (.int .i64 a2)) rfl ?_)
    obtain ⟨y30, hy30, h⟩ := bnd1_some h
    refine G_q rfl (op_pure (m_ref9_Range_ok _ _ _ hy30) Try.func20 (by kernel_rfl) (LEs.cons (AV.le_eq rfl) (LEs.cons (AV.le_eq rfl) LEs.nil)) ?_)
    refine G_q rfl (op_move (av := .tup [.exact (.string (bs y30.1)), .exact (.int .i64 y30.2)]) rfl ?_)
    refine G_q rfl (op_extract (av := .exact (.string (bs y30.1))) rfl rfl ?_)
    refine G_q rfl (op_extract (av := .exact (.int .i64 y30.2)) rfl rfl ?_)
    refine G_q rfl (op_assign (av := .exact (.string (bs y30.1))) rfl ?_)
    refine G_q rfl (op_assign (av := .exact (.int .i64 y30.2)) rfl ?_)
    refine G_nil ?_
    refine kC_normal ?_
    refine k_seq ?_
    refine k_reg .free hmixP (by kernel_rfl) ?_
    refine G_q rfl (op_move (av := .exact (.int .i64 a1)) rfl ?_)
    refine G_q rfl (op_rem rfl rfl (by decide) rfl ?_)
    refine G_q rfl (op_assign (av := .exact (.int .i64 (Int.tmod a1 100))) rfl ?_)
    refine G_nil ?_
    refine kC_normal ?_
    refine k_seq ?_
    refine k_reg .free hmixP (by kernel_rfl) ?_
    refine G_q rfl (op_move (av := .exact (.int .i64 (Int.tmod a1 100))) rfl ?_)
    refine G_q rfl (op_move (av := .exact (.int .i64 (Int.tmod a1 100))) rfl ?_)
    refine G_q rfl (op_move (av := .exact (.int .i64 a2)) rfl ?_)
    refine G_q rfl (op_rem rfl rfl (by decide) rfl ?_)
    refine G_q rfl (op_add rfl rfl rfl ?_)
    obtain ⟨y31, hy31, h⟩ := bnd1_some h
    refine G_q rfl (op_pure (m_finset_Range_ok _ _ _ hy31) Try.func19 (by kernel_rfl) (LEs.cons (AV.le_eq rfl) (LEs.cons (AV.le_eq rfl) LEs.nil)) ?_)
    refine G_q rfl (op_move (av := .tup [.exact (.string (bs y31.1)), .exact (.int .i64 y31.2)]) rfl ?_)
    refine G_q rfl (op_extract (av := .exact (.string (bs y31.1))) rfl rfl ?_)
    refine G_q rfl (op_extract (av := .exact (.int .i64 y31.2)) rfl rfl ?_)
    refine G_q rfl (op_assign (av := .exact (.string (bs y31.1))) rfl ?_)
    refine G_q rfl (op_assign (av := .exact (.int .i64 y31.2)) rfl ?_)
    refine G_nil ?_
    refine kC_normal ?_
    refine k_seq ?_
    refine k_reg .free hmixP (by kernel_rfl) ?_
    refine G_q rfl (op_move (av := .exact (.int .i64 (Int.tmod a1 100))) rfl ?_)
    refine G_q rfl (op_move (av := .exact (.int .i64 (Int.tmod a1 100))) rfl ?_)
    refine G_q rfl (op_move (av := .exact (.int .i64 a2)) rfl ?_)
    refine G_q rfl (op_rem rfl rfl (by decide) rfl ?_)
    refine G_q rfl (op_add rfl rfl rfl ?_)
    obtain ⟨y32, hy32, h⟩ := bnd1_some h
    refine G_q rfl (op_pure (m_ref9_Range_ok _ _ _ hy32) Try.func20 (by kernel_rfl) (LEs.cons (AV.le_eq rfl) (LEs.cons (AV.le_eq rfl) LEs.nil)) ?_)
    refine G_q rfl (op_move (av := .tup [.exact (.string (bs y32.1)), .exact (.int .i64 y32.2)]) rfl ?_)
    refine G_q rfl (op_extract (av := .exact (.string (bs y32.1))) rfl rfl ?_)
    refine G_q rfl (op_extract (av := .exact (.int .i64 y32.2)) rfl rfl ?_)
    refine G_q rfl (op_assign (av := .exact (.string (bs y32.1))) rfl ?_)
    refine G_q rfl (op_assign (av := .exact (.int .i64 y32.2)) rfl ?_)
    refine G_nil ?_
    refine kC_normal ?_
    refine k_join1_0 h (fun (x8_j33 : Bool) => (AF.put AF0 (some 8) (.exact (.bool x8_j33)))) (fun (x8_j33 : Bool) => []) (fun k33 h => ?_) (fun x8_j33 h => ?_)
    · refine k_reg .free hmixP (by kernel_rfl) ?_
      obtain ⟨y35, hy35, h⟩ := bnd1_some h
      refine G_q rfl (op_pure (m_law10_awake_ok _ hy35) Try.func12 (by kernel_rfl) LEs.nil ?_)
      refine G_q rfl (op_move (av := .exact (.bool y35)) rfl ?_)
      refine G_splitB (c := y35) 95 rfl (fun hc => ?_) (fun hc => ?_)
      · replace h := ite_t h hc
        refine Gy_q rfl rfl rfl (op_move (av := .exact (.string (bs y25.1))) rfl ?_)
        refine Gy_q rfl rfl rfl (op_move (av := .exact (.string (bs y26.1))) rfl ?_)
        refine Gy_q rfl rfl rfl (op_eqlS rfl rfl ?_)
        refine G_q rfl (op_pick_t rfl (av := .exact (.bool (decide (y25.1 = y26.1)))) rfl ?_)
        refine G_q rfl (op_move (av := .exact (.bool (decide (y25.1 = y26.1)))) rfl ?_)
        refine G_split (p := y25.1 = y26.1) 100 rfl (fun hc => ?_) (fun hc => ?_)
        · replace h := ite_t h hc
          refine Gy_q rfl rfl rfl (op_move (av := .exact (.int .i64 y25.2)) rfl ?_)
          refine Gy_q rfl rfl rfl (op_move (av := .exact (.int .i64 y26.2)) rfl ?_)
          refine Gy_q rfl rfl rfl (op_eql rfl rfl ?_)
          refine G_q rfl (op_pick_t rfl (av := .exact (.bool (decide (y25.2 = y26.2)))) rfl ?_)
          refine G_q rfl (op_move (av := .exact (.bool (decide (y25.2 = y26.2)))) rfl ?_)
          refine G_split (p := y25.2 = y26.2) 105 rfl (fun hc => ?_) (fun hc => ?_)
          · replace h := ite_t h hc
            refine Gy_q rfl rfl rfl (op_move (av := .exact (.string (bs y27.1))) rfl ?_)
            refine Gy_q rfl rfl rfl (op_move (av := .exact (.string (bs y28.1))) rfl ?_)
            refine Gy_q rfl rfl rfl (op_eqlS rfl rfl ?_)
            refine G_q rfl (op_pick_t rfl (av := .exact (.bool (decide (y27.1 = y28.1)))) rfl ?_)
            refine G_q rfl (op_move (av := .exact (.bool (decide (y27.1 = y28.1)))) rfl ?_)
            refine G_split (p := y27.1 = y28.1) 110 rfl (fun hc => ?_) (fun hc => ?_)
            · replace h := ite_t h hc
              refine Gy_q rfl rfl rfl (op_move (av := .exact (.int .i64 y27.2)) rfl ?_)
              refine Gy_q rfl rfl rfl (op_move (av := .exact (.int .i64 y28.2)) rfl ?_)
              refine Gy_q rfl rfl rfl (op_eql rfl rfl ?_)
              refine G_q rfl (op_pick_t rfl (av := .exact (.bool (decide (y27.2 = y28.2)))) rfl ?_)
              refine G_q rfl (op_move (av := .exact (.bool (decide (y27.2 = y28.2)))) rfl ?_)
              refine G_split (p := y27.2 = y28.2) 115 rfl (fun hc => ?_) (fun hc => ?_)
              · replace h := ite_t h hc
                refine Gy_q rfl rfl rfl (op_move (av := .exact (.string (bs y29.1))) rfl ?_)
                refine Gy_q rfl rfl rfl (op_move (av := .exact (.string (bs y30.1))) rfl ?_)
                refine Gy_q rfl rfl rfl (op_eqlS rfl rfl ?_)
                refine G_q rfl (op_pick_t rfl (av := .exact (.bool (decide (y29.1 = y30.1)))) rfl ?_)
                refine G_q rfl (op_move (av := .exact (.bool (decide (y29.1 = y30.1)))) rfl ?_)
                refine G_split (p := y29.1 = y30.1) 120 rfl (fun hc => ?_) (fun hc => ?_)
                · replace h := ite_t h hc
                  refine Gy_q rfl rfl rfl (op_move (av := .exact (.int .i64 y29.2)) rfl ?_)
                  refine Gy_q rfl rfl rfl (op_move (av := .exact (.int .i64 y30.2)) rfl ?_)
                  refine Gy_q rfl rfl rfl (op_eql rfl rfl ?_)
                  refine G_q rfl (op_pick_t rfl (av := .exact (.bool (decide (y29.2 = y30.2)))) rfl ?_)
                  refine G_q rfl (op_move (av := .exact (.bool (decide (y29.2 = y30.2)))) rfl ?_)
                  refine G_split (p := y29.2 = y30.2) 125 rfl (fun hc => ?_) (fun hc => ?_)
                  · replace h := ite_t h hc
                    refine Gy_q rfl rfl rfl (op_move (av := .exact (.string (bs y31.1))) rfl ?_)
                    refine Gy_q rfl rfl rfl (op_move (av := .exact (.string (bs y32.1))) rfl ?_)
                    refine Gy_q rfl rfl rfl (op_eqlS rfl rfl ?_)
                    refine G_q rfl (op_pick_t rfl (av := .exact (.bool (decide (y31.1 = y32.1)))) rfl ?_)
                    refine G_q rfl (op_move (av := .exact (.bool (decide (y31.1 = y32.1)))) rfl ?_)
                    refine G_split (p := y31.1 = y32.1) 130 rfl (fun hc => ?_) (fun hc => ?_)
                    · replace h := ite_t h hc
                      refine Gy_q rfl rfl rfl (op_move (av := .exact (.int .i64 y31.2)) rfl ?_)
                      refine Gy_q rfl rfl rfl (op_move (av := .exact (.int .i64 y32.2)) rfl ?_)
                      refine Gy_q rfl rfl rfl (op_eql rfl rfl ?_)
                      refine G_q rfl (op_pick_t rfl (av := .exact (.bool (decide (y31.2 = y32.2)))) rfl ?_)
                      refine G_q rfl (op_assign (av := .exact (.bool (decide (y31.2 = y32.2)))) rfl ?_)
                      refine G_nil ?_
                      refine kI_normal ⟨_, h, ?_⟩
                      exact Sub.of_le (AF.le_put (AV.le_eq rfl) (AF.le_top _))
                    · replace h := ite_f h hc
                      refine G_n rfl rfl ?_
                      refine G_n rfl rfl ?_
                      refine G_n rfl rfl ?_
                      refine G_q rfl (op_pick_f rfl (av := .exact (.bool false)) rfl ?_)
                      refine G_q rfl (op_assign (av := .exact (.bool false)) rfl ?_)
                      refine G_nil ?_
                      refine kI_normal ⟨_, h, ?_⟩
                      exact Sub.of_le (AF.le_put (AV.le_eq rfl) (AF.le_top _))
                  · replace h := ite_f h hc
                    refine G_n rfl rfl ?_
                    refine G_n rfl rfl ?_
                    refine G_n rfl rfl ?_
                    refine G_q rfl (op_pick_f rfl (av := .exact (.bool false)) rfl ?_)
                    refine G_q rfl (op_move (av := .exact (.bool false)) rfl ?_)
                    refine G_n rfl rfl ?_
                    refine G_n rfl rfl ?_
                    refine G_n rfl rfl ?_
                    refine G_q rfl (op_pick_f rfl (av := .exact (.bool false)) rfl ?_)
                    refine G_q rfl (op_assign (av := .exact (.bool false)) rfl ?_)
                    refine G_nil ?_
                    refine kI_normal ⟨_, h, ?_⟩
                    exact Sub.of_le (AF.le_put (AV.le_eq rfl) (AF.le_top _))
                · replace h := ite_f h hc
                  refine G_n rfl rfl ?_
                  refine G_n rfl rfl ?_
                  refine G_n rfl rfl ?_
                  refine G_q rfl (op_pick_f rfl (av := .exact (.bool false)) rfl ?_)
                  refine G_q rfl (op_move (av := .exact (.bool false)) rfl ?_)
                  refine G_n rfl rfl ?_
                  refine G_n rfl rfl ?_
                  refine G_n rfl rfl ?_
                  refine G_q rfl (op_pick_f rfl (av := .exact (.bool false)) rfl ?_)
                  refine G_q rfl (op_move (av := .exact (.bool false)) rfl ?_)
                  refine G_n rfl rfl ?_
                  refine G_n rfl rfl ?_
                  refine G_n rfl rfl ?_
                  refine G_q rfl (op_pick_f rfl (av := .exact (.bool false)) rfl ?_)
                  refine G_q rfl (op_assign (av := .exact (.bool false)) rfl ?_)
                  refine G_nil ?_
                  refine kI_normal ⟨_, h, ?_⟩
                  exact Sub.of_le (AF.le_put (AV.le_eq rfl) (AF.le_top _))
              · replace h := ite_f h hc
                refine G_n rfl rfl ?_
                refine G_n rfl rfl ?_
                refine G_n rfl rfl ?_
                refine G_q rfl (op_pick_f rfl (av := .exact (.bool false)) rfl ?_)
                refine G_q rfl (op_move (av := .exact (.bool false)) rfl ?_)
                refine G_n rfl rfl ?_
                refine G_n rfl rfl ?_
                refine G_n rfl rfl ?_
                refine G_q rfl (op_pick_f rfl (av := .exact (.bool false)) rfl ?_)
                refine G_q rfl (op_move (av := .exact (.bool false)) rfl ?_)
                refine G_n rfl rfl ?_
                refine G_n rfl rfl ?_
                refine G_n rfl rfl ?_
                refine G_q rfl (op_pick_f rfl (av := .exact (.bool false)) rfl ?_)
                refine G_q rfl (op_move (av := .exact (.bool false)) rfl ?_)
                refine G_n rfl rfl ?_
                refine G_n rfl rfl ?_
                refine G_n rfl rfl ?_
                refine G_q rfl (op_pick_f rfl (av := .exact (.bool false)) rfl ?_)
                refine G_q rfl (op_assign (av := .exact (.bool false)) rfl ?_)
                refine G_nil ?_
                refine kI_normal ⟨_, h, ?_⟩
                exact Sub.of_le (AF.le_put (AV.le_eq rfl) (AF.le_top _))
            · replace h := ite_f h hc
              refine G_n rfl rfl ?_
              refine G_n rfl rfl ?_
              refine G_n rfl rfl ?_
              refine G_q rfl (op_pick_f rfl (av := .exact (.bool false)) rfl ?_)
              refine G_q rfl (op_move (av := .exact (.bool false)) rfl ?_)
              refine G_n rfl rfl ?_
              refine G_n rfl rfl ?_
              refine G_n rfl rfl ?_
              refine G_q rfl (op_pick_f rfl (av := .exact (.bool false)) rfl ?_)
              refine G_q rfl (op_move (av := .exact (.bool false)) rfl ?_)
              refine G_n rfl rfl ?_
              refine G_n rfl rfl ?_
              refine G_n rfl rfl ?_
              refine G_q rfl (op_pick_f rfl (av := .exact (.bool false)) rfl ?_)
              refine G_q rfl (op_move (av := .exact (.bool false)) rfl ?_)
              refine G_n rfl rfl ?_
              refine G_n rfl rfl ?_
              refine G_n rfl rfl ?_
              refine G_q rfl (op_pick_f rfl (av := .exact (.bool false)) rfl ?_)
              refine G_q rfl (op_move (av := .exact (.bool false)) rfl ?_)
              refine G_n rfl rfl ?_
              refine G_n rfl rfl ?_
              refine G_n rfl rfl ?_
              refine G_q rfl (op_pick_f rfl (av := .exact (.bool false)) rfl ?_)
              refine G_q rfl (op_assign (av := .exact (.bool false)) rfl ?_)
              refine G_nil ?_
              refine kI_normal ⟨_, h, ?_⟩
              exact Sub.of_le (AF.le_put (AV.le_eq rfl) (AF.le_top _))
          · replace h := ite_f h hc
            refine G_n rfl rfl ?_
            refine G_n rfl rfl ?_
            refine G_n rfl rfl ?_
            refine G_q rfl (op_pick_f rfl (av := .exact (.bool false)) rfl ?_)
            refine G_q rfl (op_move (av := .exact (.bool false)) rfl ?_)
            refine G_n rfl rfl ?_
            refine G_n rfl rfl ?_
            refine G_n rfl rfl ?_
            refine G_q rfl (op_pick_f rfl (av := .exact (.bool false)) rfl ?_)
            refine G_q rfl (op_move (av := .exact (.bool false)) rfl ?_)
            refine G_n rfl rfl ?_
            refine G_n rfl rfl ?_
            refine G_n rfl rfl ?_
            refine G_q rfl (op_pick_f rfl (av := .exact (.bool false)) rfl ?_)
            refine G_q rfl (op_move (av := .exact (.bool false)) rfl ?_)
            refine G_n rfl rfl ?_
            refine G_n rfl rfl ?_
            refine G_n rfl rfl ?_
            refine G_q rfl (op_pick_f rfl (av := .exact (.bool false)) rfl ?_)
            refine G_q rfl (op_move (av := .exact (.bool false)) rfl ?_)
            refine G_n rfl rfl ?_
            refine G_n rfl rfl ?_
            refine G_n rfl rfl ?_
            refine G_q rfl (op_pick_f rfl (av := .exact (.bool false)) rfl ?_)
            refine G_q rfl (op_move (av := .exact (.bool false)) rfl ?_)
            refine G_n rfl rfl ?_
            refine G_n rfl rfl ?_
            refine G_n rfl rfl ?_
            refine G_q rfl (op_pick_f rfl (av := .exact (.bool false)) rfl ?_)
            refine G_q rfl (op_assign (av := .exact (.bool false)) rfl ?_)
            refine G_nil ?_
            refine kI_normal ⟨_, h, ?_⟩
            exact Sub.of_le (AF.le_put (AV.le_eq rfl) (AF.le_top _))
        · replace h := ite_f h hc
          refine G_n rfl rfl ?_
          refine G_n rfl rfl ?_
          refine G_n rfl rfl ?_
          refine G_q rfl (op_pick_f rfl (av := .exact (.bool false)) rfl ?_)
          refine G_q rfl (op_move (av := .exact (.bool false)) rfl ?_)
          refine G_n rfl rfl ?_
          refine G_n rfl rfl ?_
          refine G_n rfl rfl ?_
          refine G_q rfl (op_pick_f rfl (av := .exact (.bool false)) rfl ?_)
          refine G_q rfl (op_move (av := .exact (.bool false)) rfl ?_)
          refine G_n rfl rfl ?_
          refine G_n rfl rfl ?_
          refine G_n rfl rfl ?_
          refine G_q rfl (op_pick_f rfl (av := .exact (.bool false)) rfl ?_)
          refine G_q rfl (op_move (av := .exact (.bool false)) rfl ?_)
          refine G_n rfl rfl ?_
          refine G_n rfl rfl ?_
          refine G_n rfl rfl ?_
          refine G_q rfl (op_pick_f rfl (av := .exact (.bool false)) rfl ?_)
          refine G_q rfl (op_move (av := .exact (.bool false)) rfl ?_)
          refine G_n rfl rfl ?_
          refine G_n rfl rfl ?_
          refine G_n rfl rfl ?_
          refine G_q rfl (op_pick_f rfl (av := .exact (.bool false)) rfl ?_)
          refine G_q rfl (op_move (av := .exact (.bool false)) rfl ?_)
          refine G_n rfl rfl ?_
          refine G_n rfl rfl ?_
          refine G_n rfl rfl ?_
          refine G_q rfl (op_pick_f rfl (av := .exact (.bool false)) rfl ?_)
          refine G_q rfl (op_move (av := .exact (.bool false)) rfl ?_)
          refine G_n rfl rfl ?_
          refine G_n rfl rfl ?_
          refine G_n rfl rfl ?_
          refine G_q rfl (op_pick_f rfl (av := .exact (.bool false)) rfl ?_)
          refine G_q rfl (op_assign (av := .exact (.bool false)) rfl ?_)
          refine G_nil ?_
          refine kI_normal ⟨_, h, ?_⟩
          exact Sub.of_le (AF.le_put (AV.le_eq rfl) (AF.le_top _))
      · replace h := ite_f h hc
        refine G_n rfl rfl ?_
        refine G_n rfl rfl ?_
        refine G_n rfl rfl ?_
        refine G_q rfl (op_pick_f rfl (av := .exact (.bool false)) rfl ?_)
        refine G_q rfl (op_move (av := .exact (.bool false)) rfl ?_)
        refine G_n rfl rfl ?_
        refine G_n rfl rfl ?_
        refine G_n rfl rfl ?_
        refine G_q rfl (op_pick_f rfl (av := .exact (.bool false)) rfl ?_)
        refine G_q rfl (op_move (av := .exact (.bool false)) rfl ?_)
        refine G_n rfl rfl ?_
        refine G_n rfl rfl ?_
        refine G_n rfl rfl ?_
        refine G_q rfl (op_pick_f rfl (av := .exact (.bool false)) rfl ?_)
        refine G_q rfl (op_move (av := .exact (.bool false)) rfl ?_)
        refine G_n rfl rfl ?_
        refine G_n rfl rfl ?_
        refine G_n rfl rfl ?_
        refine G_q rfl (op_pick_f rfl (av := .exact (.bool false)) rfl ?_)
        refine G_q rfl (op_move (av := .exact (.bool false)) rfl ?_)
        refine G_n rfl rfl ?_
        refine G_n rfl rfl ?_
        refine G_n rfl rfl ?_
        refine G_q rfl (op_pick_f rfl (av := .exact (.bool false)) rfl ?_)
        refine G_q rfl (op_move (av := .exact (.bool false)) rfl ?_)
        refine G_n rfl rfl ?_
        refine G_n rfl rfl ?_
        refine G_n rfl rfl ?_
        refine G_q rfl (op_pick_f rfl (av := .exact (.bool false)) rfl ?_)
        refine G_q rfl (op_move (av := .exact (.bool false)) rfl ?_)
        refine G_n rfl rfl ?_
        refine G_n rfl rfl ?_
        refine G_n rfl rfl ?_
        refine G_q rfl (op_pick_f rfl (av := .exact (.bool false)) rfl ?_)
        refine G_q rfl (op_move (av := .exact (.bool false)) rfl ?_)
        refine G_n rfl rfl ?_
        refine G_n rfl rfl ?_
        refine G_n rfl rfl ?_
        refine G_q rfl (op_pick_f rfl (av := .exact (.bool false)) rfl ?_)
        refine G_q rfl (op_assign (av := .exact (.bool false)) rfl ?_)
        refine G_nil ?_
        refine kI_normal ⟨_, h, ?_⟩
        exact Sub.of_le (AF.le_put (AV.le_eq rfl) (AF.le_top _))
    · refine k_ret ?_
      obtain rfl := Option.some.inj h
      refine kP_any (endN (af' := (AF.put AF0 (some 8) (.exact (.bool x8_j33)))) (σ' := []) _ rfl ?_ ⟨rfl, rfl⟩)
      exact Sub.of_le (AF.le_put (AV.le_eq rfl) (AF.le_top _))
end Go.Proofs.Ytdbnodliomlilaa
