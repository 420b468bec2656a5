/- The functions compute their models, by program. -/
import Derived.Test.YtdfdjgolijckfaaDoorQn4
namespace Go.Proofs.YtdfdjgolijckfaaDoor
open Go.RowKit
attribute [local irreducible] AV.exact AV.top AV.row AV.ptr AV.agg AV.tup AV.eptr AV.fn AV.nilq AV.nilqn opA opB opM opR Quiet Loud Reads wpG awp den Sub SubU Pure Fun vecI vecT boxI CellsAll CellsOf OneC LEs LEss
set_option maxRecDepth 100000

set_option maxHeartbeats 4000000 in
theorem m_slices_Clip_L_api_Need_api_Need_ok (a0 : List (Int × Int)) (r : (List (Int × Int))) (h : m_slices_Clip_L_api_Need_api_Need a0 = some r) : Pure Tryd.prog 60 [(.row 2 c_api_Need a0)] (.row 2 c_api_Need r) := by
  unfold m_slices_Clip_L_api_Need_api_Need at h
  refine Pure.ofFun (fun_of_awp Tryd.func60 rfl Tryd.ntmps60 (by simp) rfl (res1 rfl) fun E hE => k_end ?_)
  refine k_seq ?_
  refine k_reg .free hmixP (by kernel_rfl) ?_
  refine G_q rfl (op_assign (av := .exact (.slice none 0 0)) rfl ?_)
  refine G_nil ?_
  refine kC_normal ?_
  refine k_seq ?_
  refine k_reg .free hmixP (by kernel_rfl) ?_
  refine G_q rfl (op_move (av := .row 2 c_api_Need a0) rfl ?_)
  refine G_q rfl (op_move (av := .row 2 c_api_Need a0) rfl ?_)
  refine G_q rfl (op_len_row (by kernel_rfl) rfl ?_)
  refine G_q rfl (op_move (av := .row 2 c_api_Need a0) rfl ?_)
  refine G_q rfl (op_len_row (by kernel_rfl) rfl ?_)
  obtain ⟨n1, h⟩ := need_some h
  refine G_q rfl (op_slice_row3 (by kernel_rfl) rfl bnd_none rfl rfl (Int.le_refl 0) n1 (Int.le_refl _) (Int.le_refl _) ?_)
  refine G_q rfl (op_assign (av := .row 2 c_api_Need (List.take (Int.toNat (List.length a0 : Int)) a0)) rfl ?_)
  refine G_nil ?_
  refine kC_normal ?_
  refine k_ret ?_
  obtain rfl := Option.some.inj h
  refine kP_any (endN (af' := (AF.put AF0 (some 2) (.row 2 c_api_Need (List.take (Int.toNat (List.length a0 : Int)) a0)))) (σ' := []) _ rfl ?_ ⟨rfl, rfl⟩)
  exact Sub.of_le (AF.le_put (AV.le_eq rfl) (AF.le_top _))
set_option maxHeartbeats 4000000 in
theorem m_types_Needs_ok (a0 : List (Int × Int × Int)) (a1 : Int) (r : (List (Int × Int)) × Bool) (h : m_types_Needs a0 a1 = some r) : Pure Tryd.prog 26 [(.row 3 c_api_TypeNode a0), (.exact (.int .i64 a1))] (.tup [.row 2 c_api_Need r.1, .exact (.bool r.2)]) := by
  unfold m_types_Needs at h
  refine Pure.ofFun (fun_of_awp Tryd.func26 rfl Tryd.ntmps26 (by simp) rfl (res2 rfl) fun E hE => k_end ?_)
  refine k_seq ?_
  refine k_reg .free hmixP (by kernel_rfl) ?_
  refine G_q rfl (op_assign (av := .exact (.slice none 0 0)) rfl ?_)
  refine G_q rfl (op_assign (av := .exact (.bool false)) rfl ?_)
  refine G_nil ?_
  refine kC_normal ?_
  refine k_seq ?_
  refine k_join1_0 h (fun (x24_j5 : Bool) => (AF.put (AF.put (AF.put AF0 (some 0) (.row 3 c_api_TypeNode a0)) (some 1) (.exact (.int .i64 a1))) (some 24) (.exact (.bool x24_j5)))) (fun (x24_j5 : Bool) => []) (fun k5 h => ?_) (fun x24_j5 h => ?_)
  · refine k_reg .free hmixP (by kernel_rfl) ?_
    refine G_q rfl (op_move (av := .row 3 c_api_TypeNode a0) rfl ?_)
    obtain ⟨y7, hy7, h⟩ := bnd1_some h
    refine G_q rfl (op_pure (m_types_Valid_ok _ _ hy7) Tryd.func29 (by kernel_rfl) (LEs.cons (AV.le_eq rfl) LEs.nil) ?_)
    refine G_q rfl (op_not rfl ?_)
    refine G_q rfl (op_move (av := .exact (.bool (!y7))) rfl ?_)
    refine G_splitB (c := !y7) 17 rfl (fun hc => ?_) (fun hc => ?_)
    · replace h := ite_t h hc
      refine G_n rfl rfl ?_
      refine G_n rfl rfl ?_
      refine G_q rfl (op_pick_t rfl (av := .exact (.bool true)) rfl ?_)
      refine G_q rfl (op_move (av := .exact (.bool true)) rfl ?_)
      refine G_n rfl rfl ?_
      refine G_n rfl rfl ?_
      refine G_q rfl (op_pick_t rfl (av := .exact (.bool true)) rfl ?_)
      refine G_nil ?_
      refine kI_normal ⟨_, h, ?_⟩
      exact Sub.of_le (AF.le_put (AV.le_eq rfl) (AF.le_put (AV.le_eq rfl) (AF.le_put (AV.le_eq rfl) (AF.le_top _))))
    · replace h := ite_f h hc
      refine Gy_q rfl rfl rfl (op_move (av := .exact (.int .i64 a1)) rfl ?_)
      refine Gy_q rfl rfl rfl (op_lss rfl rfl ?_)
      refine G_q rfl (op_pick_f rfl (av := .exact (.bool (decide (a1 < 0)))) rfl ?_)
      refine G_q rfl (op_move (av := .exact (.bool (decide (a1 < 0)))) rfl ?_)
      refine G_split (p := a1 < 0) 21 rfl (fun hc => ?_) (fun hc => ?_)
      · replace h := ite_t h hc
        refine G_n rfl rfl ?_
        refine G_n rfl rfl ?_
        refine G_q rfl (op_pick_t rfl (av := .exact (.bool true)) rfl ?_)
        refine G_nil ?_
        refine kI_normal ⟨_, h, ?_⟩
        exact Sub.of_le (AF.le_put (AV.le_eq rfl) (AF.le_put (AV.le_eq rfl) (AF.le_put (AV.le_eq rfl) (AF.le_top _))))
      · replace h := ite_f h hc
        refine Gy_q rfl rfl rfl (op_move (av := .exact (.int .i64 a1)) rfl ?_)
        refine Gy_q rfl rfl rfl (op_gtr rfl rfl ?_)
        refine G_q rfl (op_pick_f rfl (av := .exact (.bool (decide (7 < a1)))) rfl ?_)
        refine G_nil ?_
        refine kI_normal ⟨_, h, ?_⟩
        exact Sub.of_le (AF.le_put (AV.le_eq rfl) (AF.le_put (AV.le_eq rfl) (AF.le_put (AV.le_eq rfl) (AF.le_top _))))
  · refine k_cond_b (c := x24_j5) rfl (fun hc => ?_) (fun hc => ?_)
    · replace h := ite_t h hc
      refine k_seq ?_
      refine k_reg .free hmixP (by kernel_rfl) ?_
      refine G_q rfl (op_assign (av := .exact (.slice none 0 0)) rfl ?_)
      refine G_q rfl (op_assign (av := .exact (.bool false)) rfl ?_)
      refine G_nil ?_
      refine kC_normal ?_
      refine k_ret ?_
      refine kC_ret ?_
      obtain rfl := Option.some.inj h
      refine kP_any (endN (af' := (AF.put (AF.put AF0 (some 4) (.row 2 c_api_Need [])) (some 5) (.exact (.bool false)))) (σ' := []) _ rfl ?_ ⟨rfl, rfl⟩)
      exact Sub.of_le (AF.le_put (AV.le_eq rfl) (AF.le_put (row_nil (by decide)) (AF.le_top _)))
    · replace h := ite_f h hc
      refine k_skip ?_
      refine kC_normal ?_
      refine k_seq ?_
      refine k_reg .free hmixP (by kernel_rfl) ?_
      refine G_l rfl (op_mnew (V := (fun _ => True)) (kv := (fun k : Int => .int .i64 k)) (vv := (fun x : Int => .exact (.int .i64 x))) (fun b8 => ?_))
      refine G_q rfl (op_assign (av := .exact (.map (some b8))) rfl ?_)
      refine G_nil ?_
      refine kC_normal ?_
      refine k_join1_0 h (fun (x6_j9 : List (Int × Int)) => (AF.put AF0 (some 6) (.exact (.map (some b8))))) (fun (x6_j9 : List (Int × Int)) => [mapI (fun _ => True) (fun k : Int => .int .i64 k) (fun x : Int => .exact (.int .i64 x)) b8 x6_j9]) (fun k9 h => ?_) (fun x6_j9 h => ?_)
      · refine k_seq ?_
        refine k_reg .free hmixP (by kernel_rfl) ?_
        refine G_q rfl (op_litT (n := 1) (enc := c_int) [1, 2, 4] (CellsAll.cons rfl CellsOf.int (CellsAll.cons rfl CellsOf.int (CellsAll.cons rfl CellsOf.int CellsAll.nil))) rfl (by kernel_rfl) (LEss.cons (LEs.cons (AV.le_eq rfl) LEs.nil) (LEss.cons (LEs.cons (AV.le_eq rfl) LEs.nil) (LEss.cons (LEs.cons (AV.le_eq rfl) LEs.nil) LEss.nil))) ?_)
        refine G_q rfl (op_len_row (by kernel_rfl) rfl ?_)
        refine G_q rfl (op_move (av := .exact (.int .i64 0)) rfl ?_)
        refine G_nil ?_
        refine kC_normal ?_
        refine k_block ?_
        refine k_loop2_0 (m_types_Needs_L8 a0 a1 k9) (m_types_Needs_B8 a0 a1 k9) (fun _ _ => rfl) (fun m _ _ => rfl) h (fun (x6_l8 : List (Int × Int)) (x28_l8 : Int) => (AF.put (AF.put (AF.put (AF.put (AF.put (AF.put AF0 (some 0) (.row 3 c_api_TypeNode a0)) (some 1) (.exact (.int .i64 a1))) (some 6) (.exact (.map (some b8)))) (some 26) (.row 1 c_int [1, 2, 4])) (some 27) (.exact (.int .i64 (List.length [1, 2, 4] : Int)))) (some 28) (.exact (.int .i64 x28_l8)))) (fun (x6_l8 : List (Int × Int)) (x28_l8 : Int) => [mapI (fun _ => True) (fun k : Int => .int .i64 k) (fun x : Int => .exact (.int .i64 x)) b8 x6_l8]) ?_ (fun rec8 x6_l8 x28_l8 h => ?_)
        · exact Sub.of_le (AF.le_put (AV.le_eq rfl) (AF.le_put (AV.le_eq rfl) (AF.le_put (AV.le_eq rfl) (AF.le_put (AV.le_eq rfl) (AF.le_put (AV.le_eq rfl) (AF.le_put (AV.le_eq rfl) (AF.le_top _)))))))
        · unfold m_types_Needs_B8 at h
          refine k_seq ?_
          refine k_reg .free hmixP (by kernel_rfl) ?_
          refine G_q rfl (op_lss rfl rfl ?_)
          refine G_nil ?_
          refine kC_normal ?_
          refine k_seq ?_
          refine k_cond_d (p := x28_l8 < (List.length [1, 2, 4] : Int)) rfl (fun hc => ?_) (fun hc => ?_)
          · replace h := ite_t h hc
            refine k_skip ?_
            refine kC_normal ?_
            refine k_join1_0 h (fun (x6_j246 : List (Int × Int)) => (AF.put (AF.put (AF.put (AF.put (AF.put (AF.put AF0 (some 0) (.row 3 c_api_TypeNode a0)) (some 1) (.exact (.int .i64 a1))) (some 6) (.exact (.map (some b8)))) (some 26) (.row 1 c_int [1, 2, 4])) (some 27) (.exact (.int .i64 (List.length [1, 2, 4] : Int)))) (some 28) (.exact (.int .i64 x28_l8)))) (fun (x6_j246 : List (Int × Int)) => [mapI (fun _ => True) (fun k : Int => .int .i64 k) (fun x : Int => .exact (.int .i64 x)) b8 x6_j246]) (fun k246 h => ?_) (fun x6_j246 h => ?_)
            · refine k_block ?_
              refine k_seq ?_
              refine k_reg .free hmixP (by kernel_rfl) ?_
              obtain ⟨n270, h⟩ := need_some h
              refine G_q rfl (op_index_row (by kernel_rfl) rfl rfl n270.1 n270.2 ?_)
              refine G_q rfl (op_load1p (a := .exact (.int .i64 (gi [1, 2, 4] x28_l8))) (by kernel_rfl) rfl rfl ?_)
              refine G_q rfl (op_assign (av := .exact (.int .i64 (gi [1, 2, 4] x28_l8))) rfl ?_)
              refine G_nil ?_
              refine kC_normal ?_
              refine k_seq ?_
              refine k_seq ?_
              refine k_reg .free hmixP (by kernel_rfl) ?_
              refine G_q rfl (op_move (av := .exact (.int .i64 a1)) rfl ?_)
              refine G_q rfl (op_move (av := .exact (.int .i64 (gi [1, 2, 4] x28_l8))) rfl ?_)
              refine G_q rfl (op_and rfl rfl rfl ?_)
              refine G_q rfl (op_eql rfl rfl ?_)
              refine G_nil ?_
              refine kC_normal ?_
              refine k_cond_d (p := (bAnd .i64 a1 (gi [1, 2, 4] x28_l8)) = 0) rfl (fun hc => ?_) (fun hc => ?_)
              · replace h := ite_t h hc
                refine k_exit ?_
                refine kC_exit ?_
                refine kB_exit ?_
                refine kI_normal ⟨_, h, ?_⟩
                exact Sub.of_le (AF.le_put (AV.le_eq rfl) (AF.le_put (AV.le_eq rfl) (AF.le_put (AV.le_eq rfl) (AF.le_put (AV.le_eq rfl) (AF.le_put (AV.le_eq rfl) (AF.le_put (AV.le_eq rfl) (AF.le_top _)))))))
              · replace h := ite_f h hc
                refine k_skip ?_
                refine kC_normal ?_
                refine k_seq ?_
                refine k_reg .free hmixP (by kernel_rfl) ?_
                refine G_q rfl (op_move (av := .row 3 c_api_TypeNode a0) rfl ?_)
                refine G_q rfl (op_len_row (by kernel_rfl) rfl ?_)
                refine G_q rfl (op_move (av := .exact (.int .i64 0)) rfl ?_)
                refine G_nil ?_
                refine kC_normal ?_
                refine k_block ?_
                refine k_loop2_0 (m_types_Needs_L14 a0 x28_l8 k246) (m_types_Needs_B14 a0 x28_l8 k246) (fun _ _ => rfl) (fun m _ _ => rfl) h (fun (x6_l14 : List (Int × Int)) (x38_l14 : Int) => (AF.put (AF.put (AF.put (AF.put (AF.put (AF.put (AF.put (AF.put (AF.put (AF.put AF0 (some 0) (.row 3 c_api_TypeNode a0)) (some 1) (.exact (.int .i64 a1))) (some 6) (.exact (.map (some b8)))) (some 8) (.exact (.int .i64 (gi [1, 2, 4] x28_l8)))) (some 26) (.row 1 c_int [1, 2, 4])) (some 27) (.exact (.int .i64 (List.length [1, 2, 4] : Int)))) (some 28) (.exact (.int .i64 x28_l8))) (some 36) (.row 3 c_api_TypeNode a0)) (some 37) (.exact (.int .i64 (List.length a0 : Int)))) (some 38) (.exact (.int .i64 x38_l14)))) (fun (x6_l14 : List (Int × Int)) (x38_l14 : Int) => [mapI (fun _ => True) (fun k : Int => .int .i64 k) (fun x : Int => .exact (.int .i64 x)) b8 x6_l14]) ?_ (fun rec14 x6_l14 x38_l14 h => ?_)
                · exact Sub.of_le (AF.le_put (AV.le_eq rfl) (AF.le_put (AV.le_eq rfl) (AF.le_put (AV.le_eq rfl) (AF.le_put (AV.le_eq rfl) (AF.le_put (AV.le_eq rfl) (AF.le_put (AV.le_eq rfl) (AF.le_put (AV.le_eq rfl) (AF.le_put (AV.le_eq rfl) (AF.le_put (AV.le_eq rfl) (AF.le_put (AV.le_eq rfl) (AF.le_top _)))))))))))
                · unfold m_types_Needs_B14 at h
                  refine k_seq ?_
                  refine k_reg .free hmixP (by kernel_rfl) ?_
                  refine G_q rfl (op_lss rfl rfl ?_)
                  refine G_nil ?_
                  refine kC_normal ?_
                  refine k_seq ?_
                  refine k_cond_d (p := x38_l14 < (List.length a0 : Int)) rfl (fun hc => ?_) (fun hc => ?_)
                  · replace h := ite_t h hc
                    refine k_skip ?_
                    refine kC_normal ?_
                    refine k_join1_0 h (fun (x6_j285 : List (Int × Int)) => (AF.put (AF.put (AF.put (AF.put (AF.put (AF.put (AF.put (AF.put (AF.put (AF.put AF0 (some 0) (.row 3 c_api_TypeNode a0)) (some 1) (.exact (.int .i64 a1))) (some 6) (.exact (.map (some b8)))) (some 8) (.exact (.int .i64 (gi [1, 2, 4] x28_l8)))) (some 26) (.row 1 c_int [1, 2, 4])) (some 27) (.exact (.int .i64 (List.length [1, 2, 4] : Int)))) (some 28) (.exact (.int .i64 x28_l8))) (some 36) (.row 3 c_api_TypeNode a0)) (some 37) (.exact (.int .i64 (List.length a0 : Int)))) (some 38) (.exact (.int .i64 x38_l14)))) (fun (x6_j285 : List (Int × Int)) => [mapI (fun _ => True) (fun k : Int => .int .i64 k) (fun x : Int => .exact (.int .i64 x)) b8 x6_j285]) (fun k285 h => ?_) (fun x6_j285 h => ?_)
                    · refine k_block ?_
                      refine k_seq ?_
                      refine k_reg .free hmixP (by kernel_rfl) ?_
                      obtain ⟨n289, h⟩ := need_some h
                      refine G_q rfl (op_index_row (by kernel_rfl) rfl rfl n289.1 n289.2 ?_)
                      refine G_q rfl (op_loadNp (m := 3) (c' := c_api_TypeNode (gi a0 x38_l14)) (by kernel_rfl) rfl rfl rfl ?_)
                      refine G_l rfl (op_alloc (c := [.exact (.int .i64 ((0, 0, 0).1)), .exact (.int .i64 ((0, 0, 0).2.1)), .exact (.int .i64 ((0, 0, 0).2.2))]) rfl (LEs.cons (AV.le_eq rfl) (LEs.cons (AV.le_eq rfl) (LEs.cons (AV.le_eq rfl) LEs.nil))) (fun b290 => ?_))
                      refine G_l rfl (op_store_box (c' := [.exact (.int .i64 ((gi a0 x38_l14).1)), .exact (.int .i64 ((gi a0 x38_l14).2.1)), .exact (.int .i64 ((gi a0 x38_l14).2.2))]) (c3 := [.exact (.int .i64 ((gi a0 x38_l14).1)), .exact (.int .i64 ((gi a0 x38_l14).2.1)), .exact (.int .i64 ((gi a0 x38_l14).2.2))]) rfl rfl CellsOf.agg (LEs.cons (AV.le_eq rfl) (LEs.cons (AV.le_eq rfl) (LEs.cons (AV.le_eq rfl) LEs.nil))) (oc_c_api_TypeNode _) (by kernel_rfl) (Nat.le_of_ble_eq_true rfl) rfl ?_)
                      refine G_nil ?_
                      refine kC_normal ?_
                      refine k_block ?_
                      refine k_seq ?_
                      refine k_reg .free hmixP (by kernel_rfl) ?_
                      refine G_q rfl (op_fieldAddr (o := 0) (by kernel_rfl) rfl ?_)
                      refine G_r rfl (op_load_box1 (a := .exact (.int .i64 ((gi a0 x38_l14).1))) (by kernel_rfl) rfl rfl ?_)
                      refine G_q rfl (op_eql rfl rfl ?_)
                      refine G_q rfl (op_assign (av := .exact (.bool (decide (((gi a0 x38_l14).1) = 1)))) rfl ?_)
                      refine G_nil ?_
                      refine kC_normal ?_
                      refine k_cond_d (p := ((gi a0 x38_l14).1) = 1) rfl (fun hc => ?_) (fun hc => ?_)
                      · replace h := ite_t h hc
                        refine k_reg .free hmixP (by kernel_rfl) ?_
                        refine G_q rfl (op_move (av := .exact (.map (some b8))) rfl ?_)
                        refine G_q rfl (op_fieldAddr (o := 1) (by kernel_rfl) rfl ?_)
                        refine G_r rfl (op_load_box1 (a := .exact (.int .i64 ((gi a0 x38_l14).2.1))) (by kernel_rfl) rfl rfl ?_)
                        refine G_r rfl (op_mlook (z := (0 : Int)) (List.Mem.tail _ (List.Mem.head _)) (keyOk_int Tryd.underlying3) (fun _ _ _ => trivial) Tryd.underlying78 (fun _ w => ⟨_, Tryd.zeroValue3 w, zp_exact⟩) rfl (keyAV_int rfl) ?_)
                        refine G_q rfl (op_move (av := .exact (.int .i64 (gi [1, 2, 4] x28_l8))) rfl ?_)
                        refine G_q rfl (op_or rfl rfl rfl ?_)
                        refine G_l rfl (opB_f1 (op_mput (z := bOr .i64 (Option.getD (lookL x6_l14 ((gi a0 x38_l14).2.1)) 0) (gi [1, 2, 4] x28_l8)) (keyOk_int Tryd.underlying3) (fun _ _ _ => trivial) Tryd.underlying78 rfl (keyAV_int rfl) (AV.le_eq rfl) ?_))
                        refine G_nil ?_
                        refine kB_normal ?_
                        refine kB_normal ?_
                        refine kI_normal ⟨_, h, ?_⟩
                        refine Sub.trans (SubU.to SubU.f1) ?_
                        refine Sub.trans (SubU.to SubU.drop) ?_
                        exact Sub.of_le (AF.le_put (AV.le_eq rfl) (AF.le_put (AV.le_eq rfl) (AF.le_put (AV.le_eq rfl) (AF.le_put (AV.le_eq rfl) (AF.le_put (AV.le_eq rfl) (AF.le_put (AV.le_eq rfl) (AF.le_put (AV.le_eq rfl) (AF.le_put (AV.le_eq rfl) (AF.le_put (AV.le_eq rfl) (AF.le_put (AV.le_eq rfl) (AF.le_top _)))))))))))
                      · replace h := ite_f h hc
                        refine k_seq ?_
                        refine k_reg .free hmixP (by kernel_rfl) ?_
                        refine G_q rfl (op_fieldAddr (o := 0) (by kernel_rfl) rfl ?_)
                        refine G_r rfl (op_load_box1 (a := .exact (.int .i64 ((gi a0 x38_l14).1))) (by kernel_rfl) rfl rfl ?_)
                        refine G_q rfl (op_move (av := .exact (.int .i64 (gi [1, 2, 4] x28_l8))) rfl ?_)
                        obtain ⟨y291, hy291, h⟩ := bnd1_some h
                        refine G_q rfl (op_pure (m_types_belongs_ok _ _ _ hy291) Tryd.func57 (by kernel_rfl) (LEs.cons (AV.le_eq rfl) (LEs.cons (AV.le_eq rfl) LEs.nil)) ?_)
                        refine G_q rfl (op_not rfl ?_)
                        refine G_q rfl (op_assign (av := .exact (.bool (!y291))) rfl ?_)
                        refine G_nil ?_
                        refine kC_normal ?_
                        refine k_cond_b (c := !y291) rfl (fun hc => ?_) (fun hc => ?_)
                        · replace h := ite_t h hc
                          refine k_seq ?_
                          refine k_reg .free hmixP (by kernel_rfl) ?_
                          refine G_q rfl (op_assign (av := .exact (.slice none 0 0)) rfl ?_)
                          refine G_q rfl (op_assign (av := .exact (.bool false)) rfl ?_)
                          refine G_nil ?_
                          refine kC_normal ?_
                          refine k_ret ?_
                          refine kB_ret ?_
                          refine kB_ret ?_
                          refine kI_ret ?_
                          refine kI_ret ?_
                          refine kB_ret ?_
                          refine kB_ret ?_
                          refine kI_ret ?_
                          refine kI_ret ?_
                          refine kB_ret ?_
                          refine kI_ret ?_
                          obtain rfl := Option.some.inj h
                          refine kP_any (endN (af' := (AF.put (AF.put AF0 (some 4) (.row 2 c_api_Need [])) (some 5) (.exact (.bool false)))) (σ' := []) _ rfl ?_ ⟨rfl, rfl⟩)
                          refine Sub.trans (SubU.to SubU.drop) ?_
                          refine Sub.trans (SubU.to SubU.drop) ?_
                          exact Sub.of_le (AF.le_put (AV.le_eq rfl) (AF.le_put (row_nil (by decide)) (AF.le_top _)))
                        · replace h := ite_f h hc
                          refine k_skip ?_
                          refine kB_normal ?_
                          refine kB_normal ?_
                          refine kI_normal ⟨_, h, ?_⟩
                          refine Sub.trans (SubU.to SubU.drop) ?_
                          exact Sub.of_le (AF.le_put (AV.le_eq rfl) (AF.le_put (AV.le_eq rfl) (AF.le_put (AV.le_eq rfl) (AF.le_put (AV.le_eq rfl) (AF.le_put (AV.le_eq rfl) (AF.le_put (AV.le_eq rfl) (AF.le_put (AV.le_eq rfl) (AF.le_put (AV.le_eq rfl) (AF.le_put (AV.le_eq rfl) (AF.le_put (AV.le_eq rfl) (AF.le_top _)))))))))))
                    · refine k_reg .free hmixP (by kernel_rfl) ?_
                      refine G_q rfl (op_add rfl rfl rfl ?_)
                      refine G_q rfl (op_move (av := .exact (.int .i64 (i64 (x38_l14 + 1)))) rfl ?_)
                      refine G_nil ?_
                      refine kI_normal ⟨_, _, h, ?_⟩
                      exact Sub.of_le (AF.le_put (AV.le_eq rfl) (AF.le_put (AV.le_eq rfl) (AF.le_put (AV.le_eq rfl) (AF.le_put (AV.le_eq rfl) (AF.le_put (AV.le_eq rfl) (AF.le_put (AV.le_eq rfl) (AF.le_put (AV.le_eq rfl) (AF.le_put (AV.le_eq rfl) (AF.le_put (AV.le_eq rfl) (AF.le_put (AV.le_eq rfl) (AF.le_top _)))))))))))
                  · replace h := ite_f h hc
                    refine k_exit ?_
                    refine kC_exit ?_
                    refine kI_exit ?_
                    refine kB_exit ?_
                    refine kB_normal ?_
                    refine kI_normal ⟨_, h, ?_⟩
                    exact Sub.of_le (AF.le_put (AV.le_eq rfl) (AF.le_put (AV.le_eq rfl) (AF.le_put (AV.le_eq rfl) (AF.le_put (AV.le_eq rfl) (AF.le_put (AV.le_eq rfl) (AF.le_put (AV.le_eq rfl) (AF.le_top _)))))))
            · refine k_reg .free hmixP (by kernel_rfl) ?_
              refine G_q rfl (op_add rfl rfl rfl ?_)
              refine G_q rfl (op_move (av := .exact (.int .i64 (i64 (x28_l8 + 1)))) rfl ?_)
              refine G_nil ?_
              refine kI_normal ⟨_, _, h, ?_⟩
              exact Sub.of_le (AF.le_put (AV.le_eq rfl) (AF.le_put (AV.le_eq rfl) (AF.le_put (AV.le_eq rfl) (AF.le_put (AV.le_eq rfl) (AF.le_put (AV.le_eq rfl) (AF.le_put (AV.le_eq rfl) (AF.le_top _)))))))
          · replace h := ite_f h hc
            refine k_exit ?_
            refine kC_exit ?_
            refine kI_exit ?_
            refine kB_exit ?_
            refine kI_normal ⟨_, h, ?_⟩
            exact Sub.of_le (AF.le_put (AV.le_eq rfl) (AF.le_top _))
      · refine k_seq ?_
        refine k_reg .free hmixP (by kernel_rfl) ?_
        refine G_q rfl (op_assign (av := .exact (.slice none 0 0)) rfl ?_)
        refine G_nil ?_
        refine kC_normal ?_
        refine k_join1_1 h (fun (x11_j292 : List (Int × Int)) (v11_j292 : Value) => (AF.put AF0 (some 11) (.exact v11_j292))) (fun (x11_j292 : List (Int × Int)) (v11_j292 : Value) => [vecT Tryd.prog 47 2 c_api_Need v11_j292 x11_j292]) (fun k292 h => ?_) (fun x11_j292 v11_j292 h => ?_)
        · refine k_seq ?_
          refine k_reg .free hmixP (by kernel_rfl) ?_
          refine G_q rfl (op_move (av := .exact (.map (some b8))) rfl ?_)
          refine G_l rfl (op_mrange Tryd.underlying78 rfl (fun r304 => ?_))
          refine G_nil ?_
          refine kC_normal ?_
          refine k_block ?_
          refine k_range1_1 (V := (fun _ => True)) (kv := (fun k : Int => .int .i64 k)) (vv := (fun x : Int => .exact (.int .i64 x))) (b := b8) (r := r304) h (fun (x11_l16 : List (Int × Int)) (v11_l16 : Value) => (AF.put (AF.put AF0 (some 11) (.exact v11_l16)) (some 61) (pA r304 0))) (fun (x11_l16 : List (Int × Int)) (v11_l16 : Value) => [vecT Tryd.prog 47 2 c_api_Need v11_l16 x11_l16]) (.slice none 0 0) ?_ (fun x11_l16 v11_l16 left cur Q hK hB => ?_)
          · refine Sub.trans (SubU.to (SubU.nilT (P := Tryd.prog) (t := 47) (n := 2) (enc := c_api_Need))) ?_
            refine Sub.trans (SubU.to SubU.f1) ?_
            exact Sub.of_le (AF.le_put (AV.le_eq rfl) (AF.le_put (AV.le_eq rfl) (AF.le_top _)))
          · refine k_seq ?_
            refine k_reg .free hmixP (by kernel_rfl) ?_
            refine G_l rfl (op_mnext rfl (fun hl => ?_) (fun A311 y311 B311 hl => ?_))
            · replace h := hK hl
              refine G_q rfl (op_extract (av := .exact (.bool false)) rfl rfl ?_)
              refine G_nil ?_
              refine kC_normal ?_
              refine k_seq ?_
              refine k_cond_f rfl ?_
              refine k_exit ?_
              refine kC_exit ?_
              refine kI_exit ?_
              refine kB_exit ?_
              refine kI_normal ⟨_, v11_l16, h, ?_⟩
              refine Sub.trans (SubU.to SubU.drop) ?_
              exact Sub.of_le (AF.le_put (AV.le_eq rfl) (AF.le_top _))
            · obtain ⟨x', h, hj⟩ := hB A311 y311 B311 hl
              unfold m_types_Needs_R16 at h
              refine G_q rfl (op_extract (av := .exact (.bool true)) rfl rfl ?_)
              refine G_nil ?_
              refine kC_normal ?_
              refine k_seq ?_
              refine k_cond_t rfl ?_
              refine k_skip ?_
              refine kC_normal ?_
              refine k_block ?_
              refine k_seq ?_
              refine k_reg .free hmixP (by kernel_rfl) ?_
              refine G_r rfl (op_mentry rfl ?_)
              refine G_q rfl (op_extract (av := .exact (.int .i64 y311.1)) rfl rfl ?_)
              refine G_q rfl (op_extract (av := .exact (.int .i64 y311.2)) rfl rfl ?_)
              refine G_q rfl (op_assign (av := .exact (.int .i64 y311.1)) rfl ?_)
              refine G_q rfl (op_assign (av := .exact (.int .i64 y311.2)) rfl ?_)
              refine G_nil ?_
              refine kC_normal ?_
              refine k_reg .free hmixP (by kernel_rfl) ?_
              refine G_q rfl (op_move (av := .exact v11_l16) rfl ?_)
              refine G_q rfl (op_move (av := .exact (.int .i64 y311.1)) rfl ?_)
              refine G_q rfl (op_move (av := .exact (.int .i64 y311.2)) rfl ?_)
              refine G_q rfl (op_bld (c' := c_api_Need (y311.1, y311.2)) (CellsAll.cons rfl CellsOf.int (CellsAll.cons rfl CellsOf.int CellsAll.nil)) rfl (LEs.cons (AV.le_eq rfl) (LEs.cons (AV.le_eq rfl) LEs.nil)) ?_)
              refine G_q rfl (op_litT (n := 2) (enc := c_api_Need) [(y311.1, y311.2)] (CellsAll.cons rfl CellsOf.agg CellsAll.nil) rfl (by kernel_rfl) (LEss.cons (LEs.cons (AV.le_eq rfl) (LEs.cons (AV.le_eq rfl) LEs.nil)) LEss.nil) ?_)
              obtain ⟨n312, h⟩ := need_some h
              refine G_l rfl (opB_f1 (op_appT (by kernel_rfl) rfl rfl oc_c_api_Need n312 (fun v313 => ?_)))
              refine G_q rfl (op_assign (av := .exact v313) rfl ?_)
              refine G_nil ?_
              refine kB_normal ?_
              obtain rfl := Option.some.inj h
              refine hj _ _ v313 ?_
              refine Sub.trans (SubU.to SubU.f1) ?_
              exact Sub.of_le (AF.le_put (AV.le_eq rfl) (AF.le_put (AV.le_eq rfl) (AF.le_top _)))
        · refine k_seq ?_
          refine k_reg .free hmixP (by kernel_rfl) ?_
          refine G_q rfl (op_move (av := .exact v11_j292) rfl ?_)
          obtain ⟨y314, hy314, h⟩ := bnd1_some h
          refine G_l rfl (op_fun_1_0_1 (m_sort_api_Need_types_Needs_1_ok _ _ hy314) Tryd.func58 (by kernel_rfl) (LEs.cons (AV.le_eq rfl) (LEs.cons (AV.le_eq rfl) LEs.nil)) ?_)
          refine G_nil ?_
          refine kC_normal ?_
          refine k_seq ?_
          refine k_reg .free hmixP (by kernel_rfl) ?_
          refine G_q rfl (op_move (av := .exact v11_j292) rfl ?_)
          refine G_sub rfl (SubU.freezeT3 (s1 := 11) (s2 := 73) (s3 := 75) rfl rfl rfl len_c_api_Need) ?_
          obtain ⟨y315, hy315, h⟩ := bnd1_some h
          refine G_q rfl (op_pure (m_slices_Clip_L_api_Need_api_Need_ok _ _ hy315) Tryd.func60 (by kernel_rfl) (LEs.cons (AV.le_eq rfl) LEs.nil) ?_)
          refine G_q rfl (op_assign (av := .row 2 c_api_Need y315) rfl ?_)
          refine G_q rfl (op_assign (av := .exact (.bool true)) rfl ?_)
          refine G_nil ?_
          refine kC_normal ?_
          refine k_ret ?_
          obtain rfl := Option.some.inj h
          refine kP_any (endN (af' := (AF.put (AF.put AF0 (some 4) (.row 2 c_api_Need y315)) (some 5) (.exact (.bool true)))) (σ' := []) _ rfl ?_ ⟨rfl, rfl⟩)
          exact Sub.of_le (AF.le_put (AV.le_eq rfl) (AF.le_put (AV.le_eq rfl) (AF.le_top _)))
set_option maxHeartbeats 4000000 in
theorem m_ref6_arity_ok (a0 : Int × Int × Int) (r : Bool) (h : m_ref6_arity a0 = some r) : Pure Tryd.prog 84 [(.agg (c_api_TypeNode a0))] (.exact (.bool r)) := by
  unfold m_ref6_arity at h
  refine Pure.ofFun (fun_of_awp Tryd.func84 rfl Tryd.ntmps84 (by simp) rfl (res1 rfl) fun E hE => k_end ?_)
  refine k_seq ?_
  refine k_reg .free hmixP (by kernel_rfl) ?_
  refine G_q rfl (op_box (c := c_api_TypeNode a0) rfl CellsOf.agg ?_)
  refine G_q rfl (op_assign (av := .exact (.bool false)) rfl ?_)
  refine G_nil ?_
  refine kC_normal ?_
  refine k_seq ?_
  refine k_reg .free hmixP (by kernel_rfl) ?_
  refine G_q rfl (op_fieldAddr_ptr (o := 1) (c' := (List.drop 1 (c_api_TypeNode a0))) (by kernel_rfl) rfl rfl ?_)
  refine G_q rfl (op_load1p (a := .exact (.int .i64 a0.2.1)) (by kernel_rfl) rfl rfl ?_)
  refine G_q rfl (op_eql rfl rfl ?_)
  refine G_q rfl (op_assign (av := .exact (.bool (decide (a0.2.1 = 0)))) rfl ?_)
  refine G_nil ?_
  refine kC_normal ?_
  refine k_seq ?_
  refine k_seq ?_
  refine k_reg .free hmixP (by kernel_rfl) ?_
  refine G_q rfl (op_fieldAddr_ptr (o := 0) (c' := (List.drop 0 (c_api_TypeNode a0))) (by kernel_rfl) rfl rfl ?_)
  refine G_q rfl (op_load1p (a := .exact (.int .i64 a0.1)) (by kernel_rfl) rfl rfl ?_)
  refine G_nil ?_
  refine kC_normal ?_
  refine k_block ?_
  refine k_join1_0 h (fun (x9_j12 : Bool) => (AF.put (AF.put (AF.put (AF.put AF0 (some 1) (.ptr (c_api_TypeNode a0))) (some 3) (.exact (.bool (decide (a0.2.1 = 0))))) (some 8) (.exact (.int .i64 a0.1))) (some 9) (.exact (.bool x9_j12)))) (fun (x9_j12 : Bool) => []) (fun k12 h => ?_) (fun x9_j12 h => ?_)
  · refine k_seq ?_
    refine k_reg .free hmixP (by kernel_rfl) ?_
    refine G_q rfl (op_eql rfl rfl ?_)
    refine G_q rfl (op_assign (av := .exact (.bool (decide (a0.1 = 1)))) rfl ?_)
    refine G_nil ?_
    refine kC_normal ?_
    refine k_cond_d (p := a0.1 = 1) rfl (fun hc => ?_) (fun hc => ?_)
    · replace h := ite_t h hc
      refine k_skip ?_
      refine kI_normal ⟨_, h, ?_⟩
      exact Sub.of_le (AF.le_put (AV.le_eq rfl) (AF.le_put (AV.le_eq rfl) (AF.le_put (AV.le_eq rfl) (AF.le_put (AV.le_eq rfl) (AF.le_top _)))))
    · replace h := ite_f h hc
      refine k_reg .free hmixP (by kernel_rfl) ?_
      refine G_q rfl (op_eql rfl rfl ?_)
      refine G_q rfl (op_assign (av := .exact (.bool (decide (a0.1 = 6)))) rfl ?_)
      refine G_nil ?_
      refine kI_normal ⟨_, h, ?_⟩
      exact Sub.of_le (AF.le_put (AV.le_eq rfl) (AF.le_put (AV.le_eq rfl) (AF.le_put (AV.le_eq rfl) (AF.le_put (AV.le_eq rfl) (AF.le_top _)))))
  · refine k_cond_b (c := x9_j12) rfl (fun hc => ?_) (fun hc => ?_)
    · replace h := ite_t h hc
      refine k_join1_0 h (fun (x2_j13 : Bool) => (AF.put AF0 (some 2) (.exact (.bool x2_j13)))) (fun (x2_j13 : Bool) => []) (fun k13 h => ?_) (fun x2_j13 h => ?_)
      · refine k_reg .free hmixP (by kernel_rfl) ?_
        refine G_q rfl (op_fieldAddr_ptr (o := 2) (c' := (List.drop 2 (c_api_TypeNode a0))) (by kernel_rfl) rfl rfl ?_)
        refine G_q rfl (op_load1p (a := .exact (.int .i64 a0.2.2)) (by kernel_rfl) rfl rfl ?_)
        refine G_q rfl (op_eql rfl rfl ?_)
        refine G_q rfl (op_move (av := .exact (.bool (decide (a0.2.2 = 0)))) rfl ?_)
        refine G_split (p := a0.2.2 = 0) 15 rfl (fun hc => ?_) (fun hc => ?_)
        · replace h := ite_t h hc
          refine Gy_q rfl rfl rfl (op_fieldAddr_ptr (o := 1) (c' := (List.drop 1 (c_api_TypeNode a0))) (by kernel_rfl) rfl rfl ?_)
          refine Gy_q rfl rfl rfl (op_load1p (a := .exact (.int .i64 a0.2.1)) (by kernel_rfl) rfl rfl ?_)
          refine Gy_q rfl rfl rfl (op_geq rfl rfl ?_)
          refine G_q rfl (op_pick_t rfl (av := .exact (.bool (decide (0 ≤ a0.2.1)))) rfl ?_)
          refine G_q rfl (op_move (av := .exact (.bool (decide (0 ≤ a0.2.1)))) rfl ?_)
          refine G_split (p := 0 ≤ a0.2.1) 20 rfl (fun hc => ?_) (fun hc => ?_)
          · replace h := ite_t h hc
            refine Gy_q rfl rfl rfl (op_fieldAddr_ptr (o := 1) (c' := (List.drop 1 (c_api_TypeNode a0))) (by kernel_rfl) rfl rfl ?_)
            refine Gy_q rfl rfl rfl (op_load1p (a := .exact (.int .i64 a0.2.1)) (by kernel_rfl) rfl rfl ?_)
            refine Gy_q rfl rfl rfl (op_leq rfl rfl ?_)
            refine G_q rfl (op_pick_t rfl (av := .exact (.bool (decide (a0.2.1 ≤ 1073741824)))) rfl ?_)
            refine G_q rfl (op_assign (av := .exact (.bool (decide (a0.2.1 ≤ 1073741824)))) rfl ?_)
            refine G_nil ?_
            refine kI_normal ⟨_, h, ?_⟩
            exact Sub.of_le (AF.le_put (AV.le_eq rfl) (AF.le_top _))
          · replace h := ite_f h hc
            refine G_n rfl rfl ?_
            refine G_n rfl rfl ?_
            refine G_n rfl rfl ?_
            refine G_q rfl (op_pick_f rfl (av := .exact (.bool false)) rfl ?_)
            refine G_q rfl (op_assign (av := .exact (.bool false)) rfl ?_)
            refine G_nil ?_
            refine kI_normal ⟨_, h, ?_⟩
            exact Sub.of_le (AF.le_put (AV.le_eq rfl) (AF.le_top _))
        · replace h := ite_f h hc
          refine G_n rfl rfl ?_
          refine G_n rfl rfl ?_
          refine G_n rfl rfl ?_
          refine G_q rfl (op_pick_f rfl (av := .exact (.bool false)) rfl ?_)
          refine G_q rfl (op_move (av := .exact (.bool false)) rfl ?_)
          refine G_n rfl rfl ?_
          refine G_n rfl rfl ?_
          refine G_n rfl rfl ?_
          refine G_q rfl (op_pick_f rfl (av := .exact (.bool false)) rfl ?_)
          refine G_q rfl (op_assign (av := .exact (.bool false)) rfl ?_)
          refine G_nil ?_
          refine kI_normal ⟨_, h, ?_⟩
          exact Sub.of_le (AF.le_put (AV.le_eq rfl) (AF.le_top _))
      · refine k_ret ?_
        refine kB_ret ?_
        refine kC_ret ?_
        obtain rfl := Option.some.inj h
        refine kP_any (endN (af' := (AF.put AF0 (some 2) (.exact (.bool x2_j13)))) (σ' := []) _ rfl ?_ ⟨rfl, rfl⟩)
        exact Sub.of_le (AF.le_put (AV.le_eq rfl) (AF.le_top _))
    · replace h := ite_f h hc
      refine k_join1_0 h (fun (x25_j14 : Bool) => (AF.put (AF.put (AF.put (AF.put AF0 (some 1) (.ptr (c_api_TypeNode a0))) (some 3) (.exact (.bool (decide (a0.2.1 = 0))))) (some 8) (.exact (.int .i64 a0.1))) (some 25) (.exact (.bool x25_j14)))) (fun (x25_j14 : Bool) => []) (fun k14 h => ?_) (fun x25_j14 h => ?_)
      · refine k_seq ?_
        refine k_reg .free hmixP (by kernel_rfl) ?_
        refine G_q rfl (op_eql rfl rfl ?_)
        refine G_q rfl (op_assign (av := .exact (.bool (decide (a0.1 = 2)))) rfl ?_)
        refine G_nil ?_
        refine kC_normal ?_
        refine k_cond_d (p := a0.1 = 2) rfl (fun hc => ?_) (fun hc => ?_)
        · replace h := ite_t h hc
          refine k_skip ?_
          refine kI_normal ⟨_, h, ?_⟩
          exact Sub.of_le (AF.le_put (AV.le_eq rfl) (AF.le_put (AV.le_eq rfl) (AF.le_put (AV.le_eq rfl) (AF.le_put (AV.le_eq rfl) (AF.le_top _)))))
        · replace h := ite_f h hc
          refine k_seq ?_
          refine k_reg .free hmixP (by kernel_rfl) ?_
          refine G_q rfl (op_eql rfl rfl ?_)
          refine G_q rfl (op_assign (av := .exact (.bool (decide (a0.1 = 3)))) rfl ?_)
          refine G_nil ?_
          refine kC_normal ?_
          refine k_cond_d (p := a0.1 = 3) rfl (fun hc => ?_) (fun hc => ?_)
          · replace h := ite_t h hc
            refine k_skip ?_
            refine kI_normal ⟨_, h, ?_⟩
            exact Sub.of_le (AF.le_put (AV.le_eq rfl) (AF.le_put (AV.le_eq rfl) (AF.le_put (AV.le_eq rfl) (AF.le_put (AV.le_eq rfl) (AF.le_top _)))))
          · replace h := ite_f h hc
            refine k_seq ?_
            refine k_reg .free hmixP (by kernel_rfl) ?_
            refine G_q rfl (op_eql rfl rfl ?_)
            refine G_q rfl (op_assign (av := .exact (.bool (decide (a0.1 = 4)))) rfl ?_)
            refine G_nil ?_
            refine kC_normal ?_
            refine k_cond_d (p := a0.1 = 4) rfl (fun hc => ?_) (fun hc => ?_)
            · replace h := ite_t h hc
              refine k_skip ?_
              refine kI_normal ⟨_, h, ?_⟩
              exact Sub.of_le (AF.le_put (AV.le_eq rfl) (AF.le_put (AV.le_eq rfl) (AF.le_put (AV.le_eq rfl) (AF.le_put (AV.le_eq rfl) (AF.le_top _)))))
            · replace h := ite_f h hc
              refine k_reg .free hmixP (by kernel_rfl) ?_
              refine G_q rfl (op_eql rfl rfl ?_)
              refine G_q rfl (op_assign (av := .exact (.bool (decide (a0.1 = 5)))) rfl ?_)
              refine G_nil ?_
              refine kI_normal ⟨_, h, ?_⟩
              exact Sub.of_le (AF.le_put (AV.le_eq rfl) (AF.le_put (AV.le_eq rfl) (AF.le_put (AV.le_eq rfl) (AF.le_put (AV.le_eq rfl) (AF.le_top _)))))
      · refine k_cond_b (c := x25_j14) rfl (fun hc => ?_) (fun hc => ?_)
        · replace h := ite_t h hc
          refine k_join1_0 h (fun (x2_j15 : Bool) => (AF.put AF0 (some 2) (.exact (.bool x2_j15)))) (fun (x2_j15 : Bool) => []) (fun k15 h => ?_) (fun x2_j15 h => ?_)
          · refine k_reg .free hmixP (by kernel_rfl) ?_
            refine G_q rfl (op_move (av := .exact (.bool (decide (a0.2.1 = 0)))) rfl ?_)
            refine G_q rfl (op_move (av := .exact (.bool (decide (a0.2.1 = 0)))) rfl ?_)
            refine G_split (p := a0.2.1 = 0) 31 rfl (fun hc => ?_) (fun hc => ?_)
            · replace h := ite_t h hc
              refine Gy_q rfl rfl rfl (op_fieldAddr_ptr (o := 2) (c' := (List.drop 2 (c_api_TypeNode a0))) (by kernel_rfl) rfl rfl ?_)
              refine Gy_q rfl rfl rfl (op_load1p (a := .exact (.int .i64 a0.2.2)) (by kernel_rfl) rfl rfl ?_)
              refine Gy_q rfl rfl rfl (op_eql rfl rfl ?_)
              refine G_q rfl (op_pick_t rfl (av := .exact (.bool (decide (a0.2.2 = 0)))) rfl ?_)
              refine G_q rfl (op_assign (av := .exact (.bool (decide (a0.2.2 = 0)))) rfl ?_)
              refine G_nil ?_
              refine kI_normal ⟨_, h, ?_⟩
              exact Sub.of_le (AF.le_put (AV.le_eq rfl) (AF.le_top _))
            · replace h := ite_f h hc
              refine G_n rfl rfl ?_
              refine G_n rfl rfl ?_
              refine G_n rfl rfl ?_
              refine G_q rfl (op_pick_f rfl (av := .exact (.bool false)) rfl ?_)
              refine G_q rfl (op_assign (av := .exact (.bool false)) rfl ?_)
              refine G_nil ?_
              refine kI_normal ⟨_, h, ?_⟩
              exact Sub.of_le (AF.le_put (AV.le_eq rfl) (AF.le_top _))
          · refine k_ret ?_
            refine kB_ret ?_
            refine kC_ret ?_
            obtain rfl := Option.some.inj h
            refine kP_any (endN (af' := (AF.put AF0 (some 2) (.exact (.bool x2_j15)))) (σ' := []) _ rfl ?_ ⟨rfl, rfl⟩)
            exact Sub.of_le (AF.le_put (AV.le_eq rfl) (AF.le_top _))
        · replace h := ite_f h hc
          refine k_join1_0 h (fun (x36_j16 : Bool) => (AF.put (AF.put (AF.put (AF.put AF0 (some 1) (.ptr (c_api_TypeNode a0))) (some 3) (.exact (.bool (decide (a0.2.1 = 0))))) (some 8) (.exact (.int .i64 a0.1))) (some 36) (.exact (.bool x36_j16)))) (fun (x36_j16 : Bool) => []) (fun k16 h => ?_) (fun x36_j16 h => ?_)
          · refine k_seq ?_
            refine k_reg .free hmixP (by kernel_rfl) ?_
            refine G_q rfl (op_eql rfl rfl ?_)
            refine G_q rfl (op_assign (av := .exact (.bool (decide (a0.1 = 7)))) rfl ?_)
            refine G_nil ?_
            refine kC_normal ?_
            refine k_cond_d (p := a0.1 = 7) rfl (fun hc => ?_) (fun hc => ?_)
            · replace h := ite_t h hc
              refine k_skip ?_
              refine kI_normal ⟨_, h, ?_⟩
              exact Sub.of_le (AF.le_put (AV.le_eq rfl) (AF.le_put (AV.le_eq rfl) (AF.le_put (AV.le_eq rfl) (AF.le_put (AV.le_eq rfl) (AF.le_top _)))))
            · replace h := ite_f h hc
              refine k_reg .free hmixP (by kernel_rfl) ?_
              refine G_q rfl (op_eql rfl rfl ?_)
              refine G_q rfl (op_assign (av := .exact (.bool (decide (a0.1 = 8)))) rfl ?_)
              refine G_nil ?_
              refine kI_normal ⟨_, h, ?_⟩
              exact Sub.of_le (AF.le_put (AV.le_eq rfl) (AF.le_put (AV.le_eq rfl) (AF.le_put (AV.le_eq rfl) (AF.le_put (AV.le_eq rfl) (AF.le_top _)))))
          · refine k_cond_b (c := x36_j16) rfl (fun hc => ?_) (fun hc => ?_)
            · replace h := ite_t h hc
              refine k_join1_0 h (fun (x2_j17 : Bool) => (AF.put AF0 (some 2) (.exact (.bool x2_j17)))) (fun (x2_j17 : Bool) => []) (fun k17 h => ?_) (fun x2_j17 h => ?_)
              · refine k_reg .free hmixP (by kernel_rfl) ?_
                refine G_q rfl (op_move (av := .exact (.bool (decide (a0.2.1 = 0)))) rfl ?_)
                refine G_q rfl (op_move (av := .exact (.bool (decide (a0.2.1 = 0)))) rfl ?_)
                refine G_split (p := a0.2.1 = 0) 40 rfl (fun hc => ?_) (fun hc => ?_)
                · replace h := ite_t h hc
                  refine Gy_q rfl rfl rfl (op_fieldAddr_ptr (o := 2) (c' := (List.drop 2 (c_api_TypeNode a0))) (by kernel_rfl) rfl rfl ?_)
                  refine Gy_q rfl rfl rfl (op_load1p (a := .exact (.int .i64 a0.2.2)) (by kernel_rfl) rfl rfl ?_)
                  refine Gy_q rfl rfl rfl (op_eql rfl rfl ?_)
                  refine G_q rfl (op_pick_t rfl (av := .exact (.bool (decide (a0.2.2 = 1)))) rfl ?_)
                  refine G_q rfl (op_assign (av := .exact (.bool (decide (a0.2.2 = 1)))) rfl ?_)
                  refine G_nil ?_
                  refine kI_normal ⟨_, h, ?_⟩
                  exact Sub.of_le (AF.le_put (AV.le_eq rfl) (AF.le_top _))
                · replace h := ite_f h hc
                  refine G_n rfl rfl ?_
                  refine G_n rfl rfl ?_
                  refine G_n rfl rfl ?_
                  refine G_q rfl (op_pick_f rfl (av := .exact (.bool false)) rfl ?_)
                  refine G_q rfl (op_assign (av := .exact (.bool false)) rfl ?_)
                  refine G_nil ?_
                  refine kI_normal ⟨_, h, ?_⟩
                  exact Sub.of_le (AF.le_put (AV.le_eq rfl) (AF.le_top _))
              · refine k_ret ?_
                refine kB_ret ?_
                refine kC_ret ?_
                obtain rfl := Option.some.inj h
                refine kP_any (endN (af' := (AF.put AF0 (some 2) (.exact (.bool x2_j17)))) (σ' := []) _ rfl ?_ ⟨rfl, rfl⟩)
                exact Sub.of_le (AF.le_put (AV.le_eq rfl) (AF.le_top _))
            · replace h := ite_f h hc
              refine k_join1_0 h (fun (x45_j18 : Bool) => (AF.put (AF.put (AF.put (AF.put AF0 (some 1) (.ptr (c_api_TypeNode a0))) (some 3) (.exact (.bool (decide (a0.2.1 = 0))))) (some 8) (.exact (.int .i64 a0.1))) (some 45) (.exact (.bool x45_j18)))) (fun (x45_j18 : Bool) => []) (fun k18 h => ?_) (fun x45_j18 h => ?_)
              · refine k_seq ?_
                refine k_reg .free hmixP (by kernel_rfl) ?_
                refine G_q rfl (op_eql rfl rfl ?_)
                refine G_q rfl (op_assign (av := .exact (.bool (decide (a0.1 = 9)))) rfl ?_)
                refine G_nil ?_
                refine kC_normal ?_
                refine k_cond_d (p := a0.1 = 9) rfl (fun hc => ?_) (fun hc => ?_)
                · replace h := ite_t h hc
                  refine k_skip ?_
                  refine kI_normal ⟨_, h, ?_⟩
                  exact Sub.of_le (AF.le_put (AV.le_eq rfl) (AF.le_put (AV.le_eq rfl) (AF.le_put (AV.le_eq rfl) (AF.le_put (AV.le_eq rfl) (AF.le_top _)))))
                · replace h := ite_f h hc
                  refine k_seq ?_
                  refine k_reg .free hmixP (by kernel_rfl) ?_
                  refine G_q rfl (op_eql rfl rfl ?_)
                  refine G_q rfl (op_assign (av := .exact (.bool (decide (a0.1 = 12)))) rfl ?_)
                  refine G_nil ?_
                  refine kC_normal ?_
                  refine k_cond_d (p := a0.1 = 12) rfl (fun hc => ?_) (fun hc => ?_)
                  · replace h := ite_t h hc
                    refine k_skip ?_
                    refine kI_normal ⟨_, h, ?_⟩
                    exact Sub.of_le (AF.le_put (AV.le_eq rfl) (AF.le_put (AV.le_eq rfl) (AF.le_put (AV.le_eq rfl) (AF.le_put (AV.le_eq rfl) (AF.le_top _)))))
                  · replace h := ite_f h hc
                    refine k_reg .free hmixP (by kernel_rfl) ?_
                    refine G_q rfl (op_eql rfl rfl ?_)
                    refine G_q rfl (op_assign (av := .exact (.bool (decide (a0.1 = 13)))) rfl ?_)
                    refine G_nil ?_
                    refine kI_normal ⟨_, h, ?_⟩
                    exact Sub.of_le (AF.le_put (AV.le_eq rfl) (AF.le_put (AV.le_eq rfl) (AF.le_put (AV.le_eq rfl) (AF.le_put (AV.le_eq rfl) (AF.le_top _)))))
              · refine k_cond_b (c := x45_j18) rfl (fun hc => ?_) (fun hc => ?_)
                · replace h := ite_t h hc
                  refine k_join1_0 h (fun (x2_j19 : Bool) => (AF.put AF0 (some 2) (.exact (.bool x2_j19)))) (fun (x2_j19 : Bool) => []) (fun k19 h => ?_) (fun x2_j19 h => ?_)
                  · refine k_reg .free hmixP (by kernel_rfl) ?_
                    refine G_q rfl (op_move (av := .exact (.bool (decide (a0.2.1 = 0)))) rfl ?_)
                    refine G_q rfl (op_move (av := .exact (.bool (decide (a0.2.1 = 0)))) rfl ?_)
                    refine G_split (p := a0.2.1 = 0) 50 rfl (fun hc => ?_) (fun hc => ?_)
                    · replace h := ite_t h hc
                      refine Gy_q rfl rfl rfl (op_fieldAddr_ptr (o := 2) (c' := (List.drop 2 (c_api_TypeNode a0))) (by kernel_rfl) rfl rfl ?_)
                      refine Gy_q rfl rfl rfl (op_load1p (a := .exact (.int .i64 a0.2.2)) (by kernel_rfl) rfl rfl ?_)
                      refine Gy_q rfl rfl rfl (op_eql rfl rfl ?_)
                      refine G_q rfl (op_pick_t rfl (av := .exact (.bool (decide (a0.2.2 = 2)))) rfl ?_)
                      refine G_q rfl (op_assign (av := .exact (.bool (decide (a0.2.2 = 2)))) rfl ?_)
                      refine G_nil ?_
                      refine kI_normal ⟨_, h, ?_⟩
                      exact Sub.of_le (AF.le_put (AV.le_eq rfl) (AF.le_top _))
                    · replace h := ite_f h hc
                      refine G_n rfl rfl ?_
                      refine G_n rfl rfl ?_
                      refine G_n rfl rfl ?_
                      refine G_q rfl (op_pick_f rfl (av := .exact (.bool false)) rfl ?_)
                      refine G_q rfl (op_assign (av := .exact (.bool false)) rfl ?_)
                      refine G_nil ?_
                      refine kI_normal ⟨_, h, ?_⟩
                      exact Sub.of_le (AF.le_put (AV.le_eq rfl) (AF.le_top _))
                  · refine k_ret ?_
                    refine kB_ret ?_
                    refine kC_ret ?_
                    obtain rfl := Option.some.inj h
                    refine kP_any (endN (af' := (AF.put AF0 (some 2) (.exact (.bool x2_j19)))) (σ' := []) _ rfl ?_ ⟨rfl, rfl⟩)
                    exact Sub.of_le (AF.le_put (AV.le_eq rfl) (AF.le_top _))
                · replace h := ite_f h hc
                  refine k_seq ?_
                  refine k_reg .free hmixP (by kernel_rfl) ?_
                  refine G_q rfl (op_eql rfl rfl ?_)
                  refine G_q rfl (op_assign (av := .exact (.bool (decide (a0.1 = 10)))) rfl ?_)
                  refine G_nil ?_
                  refine kC_normal ?_
                  refine k_cond_d (p := a0.1 = 10) rfl (fun hc => ?_) (fun hc => ?_)
                  · replace h := ite_t h hc
                    refine k_join1_0 h (fun (x2_j20 : Bool) => (AF.put AF0 (some 2) (.exact (.bool x2_j20)))) (fun (x2_j20 : Bool) => []) (fun k20 h => ?_) (fun x2_j20 h => ?_)
                    · refine k_reg .free hmixP (by kernel_rfl) ?_
                      refine G_q rfl (op_move (av := .exact (.bool (decide (a0.2.1 = 0)))) rfl ?_)
                      refine G_q rfl (op_move (av := .exact (.bool (decide (a0.2.1 = 0)))) rfl ?_)
                      refine G_split (p := a0.2.1 = 0) 58 rfl (fun hc => ?_) (fun hc => ?_)
                      · replace h := ite_t h hc
                        refine Gy_q rfl rfl rfl (op_fieldAddr_ptr (o := 2) (c' := (List.drop 2 (c_api_TypeNode a0))) (by kernel_rfl) rfl rfl ?_)
                        refine Gy_q rfl rfl rfl (op_load1p (a := .exact (.int .i64 a0.2.2)) (by kernel_rfl) rfl rfl ?_)
                        refine Gy_q rfl rfl rfl (op_geq rfl rfl ?_)
                        refine G_q rfl (op_pick_t rfl (av := .exact (.bool (decide (2 ≤ a0.2.2)))) rfl ?_)
                        refine G_q rfl (op_move (av := .exact (.bool (decide (2 ≤ a0.2.2)))) rfl ?_)
                        refine G_split (p := 2 ≤ a0.2.2) 63 rfl (fun hc => ?_) (fun hc => ?_)
                        · replace h := ite_t h hc
                          refine Gy_q rfl rfl rfl (op_fieldAddr_ptr (o := 2) (c' := (List.drop 2 (c_api_TypeNode a0))) (by kernel_rfl) rfl rfl ?_)
                          refine Gy_q rfl rfl rfl (op_load1p (a := .exact (.int .i64 a0.2.2)) (by kernel_rfl) rfl rfl ?_)
                          refine Gy_q rfl rfl rfl (op_leq rfl rfl ?_)
                          refine G_q rfl (op_pick_t rfl (av := .exact (.bool (decide (a0.2.2 ≤ 8)))) rfl ?_)
                          refine G_q rfl (op_assign (av := .exact (.bool (decide (a0.2.2 ≤ 8)))) rfl ?_)
                          refine G_nil ?_
                          refine kI_normal ⟨_, h, ?_⟩
                          exact Sub.of_le (AF.le_put (AV.le_eq rfl) (AF.le_top _))
                        · replace h := ite_f h hc
                          refine G_n rfl rfl ?_
                          refine G_n rfl rfl ?_
                          refine G_n rfl rfl ?_
                          refine G_q rfl (op_pick_f rfl (av := .exact (.bool false)) rfl ?_)
                          refine G_q rfl (op_assign (av := .exact (.bool false)) rfl ?_)
                          refine G_nil ?_
                          refine kI_normal ⟨_, h, ?_⟩
                          exact Sub.of_le (AF.le_put (AV.le_eq rfl) (AF.le_top _))
                      · replace h := ite_f h hc
                        refine G_n rfl rfl ?_
                        refine G_n rfl rfl ?_
                        refine G_n rfl rfl ?_
                        refine G_q rfl (op_pick_f rfl (av := .exact (.bool false)) rfl ?_)
                        refine G_q rfl (op_move (av := .exact (.bool false)) rfl ?_)
                        refine G_n rfl rfl ?_
                        refine G_n rfl rfl ?_
                        refine G_n rfl rfl ?_
                        refine G_q rfl (op_pick_f rfl (av := .exact (.bool false)) rfl ?_)
                        refine G_q rfl (op_assign (av := .exact (.bool false)) rfl ?_)
                        refine G_nil ?_
                        refine kI_normal ⟨_, h, ?_⟩
                        exact Sub.of_le (AF.le_put (AV.le_eq rfl) (AF.le_top _))
                    · refine k_ret ?_
                      refine kB_ret ?_
                      refine kC_ret ?_
                      obtain rfl := Option.some.inj h
                      refine kP_any (endN (af' := (AF.put AF0 (some 2) (.exact (.bool x2_j20)))) (σ' := []) _ rfl ?_ ⟨rfl, rfl⟩)
                      exact Sub.of_le (AF.le_put (AV.le_eq rfl) (AF.le_top _))
                  · replace h := ite_f h hc
                    refine k_seq ?_
                    refine k_reg .free hmixP (by kernel_rfl) ?_
                    refine G_q rfl (op_eql rfl rfl ?_)
                    refine G_q rfl (op_assign (av := .exact (.bool (decide (a0.1 = 11)))) rfl ?_)
                    refine G_nil ?_
                    refine kC_normal ?_
                    refine k_cond_d (p := a0.1 = 11) rfl (fun hc => ?_) (fun hc => ?_)
                    · replace h := ite_t h hc
                      refine k_join1_0 h (fun (x2_j21 : Bool) => (AF.put AF0 (some 2) (.exact (.bool x2_j21)))) (fun (x2_j21 : Bool) => []) (fun k21 h => ?_) (fun x2_j21 h => ?_)
                      · refine k_reg .free hmixP (by kernel_rfl) ?_
                        refine G_q rfl (op_move (av := .exact (.bool (decide (a0.2.1 = 0)))) rfl ?_)
                        refine G_q rfl (op_move (av := .exact (.bool (decide (a0.2.1 = 0)))) rfl ?_)
                        refine G_split (p := a0.2.1 = 0) 71 rfl (fun hc => ?_) (fun hc => ?_)
                        · replace h := ite_t h hc
                          refine Gy_q rfl rfl rfl (op_fieldAddr_ptr (o := 2) (c' := (List.drop 2 (c_api_TypeNode a0))) (by kernel_rfl) rfl rfl ?_)
                          refine Gy_q rfl rfl rfl (op_load1p (a := .exact (.int .i64 a0.2.2)) (by kernel_rfl) rfl rfl ?_)
                          refine Gy_q rfl rfl rfl (op_geq rfl rfl ?_)
                          refine G_q rfl (op_pick_t rfl (av := .exact (.bool (decide (1 ≤ a0.2.2)))) rfl ?_)
                          refine G_q rfl (op_move (av := .exact (.bool (decide (1 ≤ a0.2.2)))) rfl ?_)
                          refine G_split (p := 1 ≤ a0.2.2) 76 rfl (fun hc => ?_) (fun hc => ?_)
                          · replace h := ite_t h hc
                            refine Gy_q rfl rfl rfl (op_fieldAddr_ptr (o := 2) (c' := (List.drop 2 (c_api_TypeNode a0))) (by kernel_rfl) rfl rfl ?_)
                            refine Gy_q rfl rfl rfl (op_load1p (a := .exact (.int .i64 a0.2.2)) (by kernel_rfl) rfl rfl ?_)
                            refine Gy_q rfl rfl rfl (op_leq rfl rfl ?_)
                            refine G_q rfl (op_pick_t rfl (av := .exact (.bool (decide (a0.2.2 ≤ 9)))) rfl ?_)
                            refine G_q rfl (op_assign (av := .exact (.bool (decide (a0.2.2 ≤ 9)))) rfl ?_)
                            refine G_nil ?_
                            refine kI_normal ⟨_, h, ?_⟩
                            exact Sub.of_le (AF.le_put (AV.le_eq rfl) (AF.le_top _))
                          · replace h := ite_f h hc
                            refine G_n rfl rfl ?_
                            refine G_n rfl rfl ?_
                            refine G_n rfl rfl ?_
                            refine G_q rfl (op_pick_f rfl (av := .exact (.bool false)) rfl ?_)
                            refine G_q rfl (op_assign (av := .exact (.bool false)) rfl ?_)
                            refine G_nil ?_
                            refine kI_normal ⟨_, h, ?_⟩
                            exact Sub.of_le (AF.le_put (AV.le_eq rfl) (AF.le_top _))
                        · replace h := ite_f h hc
                          refine G_n rfl rfl ?_
                          refine G_n rfl rfl ?_
                          refine G_n rfl rfl ?_
                          refine G_q rfl (op_pick_f rfl (av := .exact (.bool false)) rfl ?_)
                          refine G_q rfl (op_move (av := .exact (.bool false)) rfl ?_)
                          refine G_n rfl rfl ?_
                          refine G_n rfl rfl ?_
                          refine G_n rfl rfl ?_
                          refine G_q rfl (op_pick_f rfl (av := .exact (.bool false)) rfl ?_)
                          refine G_q rfl (op_assign (av := .exact (.bool false)) rfl ?_)
                          refine G_nil ?_
                          refine kI_normal ⟨_, h, ?_⟩
                          exact Sub.of_le (AF.le_put (AV.le_eq rfl) (AF.le_top _))
                      · refine k_ret ?_
                        refine kB_ret ?_
                        refine kC_ret ?_
                        obtain rfl := Option.some.inj h
                        refine kP_any (endN (af' := (AF.put AF0 (some 2) (.exact (.bool x2_j21)))) (σ' := []) _ rfl ?_ ⟨rfl, rfl⟩)
                        exact Sub.of_le (AF.le_put (AV.le_eq rfl) (AF.le_top _))
                    · replace h := ite_f h hc
                      refine k_skip ?_
                      refine kB_normal ?_
                      refine kC_normal ?_
                      refine k_seq ?_
                      refine k_reg .free hmixP (by kernel_rfl) ?_
                      refine G_q rfl (op_assign (av := .exact (.bool false)) rfl ?_)
                      refine G_nil ?_
                      refine kC_normal ?_
                      refine k_ret ?_
                      obtain rfl := Option.some.inj h
                      refine kP_any (endN (af' := (AF.put AF0 (some 2) (.exact (.bool false)))) (σ' := []) _ rfl ?_ ⟨rfl, rfl⟩)
                      exact Sub.of_le (AF.le_put (AV.le_eq rfl) (AF.le_top _))
set_option maxHeartbeats 4000000 in
theorem m_ref6_walk_F_ok (self_ref6_walk : (List (Int × Int × Int)) → Int → Int → Option Int) (hself_ref6_walk : ∀ (a0 : List (Int × Int × Int)) (a1 : Int) (a2 : Int) (r : Int), self_ref6_walk a0 a1 a2 = some r → Pure Tryd.prog 64 [(.row 3 c_api_TypeNode a0), (.exact (.int .i64 a1)), (.exact (.int .i64 a2))] (.exact (.int .i64 r))) (a0 : List (Int × Int × Int)) (a1 : Int) (a2 : Int) (r : Int) (h : m_ref6_walk_F self_ref6_walk a0 a1 a2 = some r) : Pure Tryd.prog 64 [(.row 3 c_api_TypeNode a0), (.exact (.int .i64 a1)), (.exact (.int .i64 a2))] (.exact (.int .i64 r)) := by
  unfold m_ref6_walk_F at h
  refine Pure.ofFun (fun_of_awp Tryd.func64 rfl Tryd.ntmps64 (by simp) rfl (res1 rfl) fun E hE => k_end ?_)
  refine k_seq ?_
  refine k_reg .free hmixP (by kernel_rfl) ?_
  refine G_q rfl (op_assign (av := .exact (.int .i64 0)) rfl ?_)
  refine G_nil ?_
  refine kC_normal ?_
  refine k_seq ?_
  refine k_join1_0 h (fun (x24_j7 : Bool) => (AF.put (AF.put (AF.put (AF.put AF0 (some 0) (.row 3 c_api_TypeNode a0)) (some 1) (.exact (.int .i64 a1))) (some 2) (.exact (.int .i64 a2))) (some 24) (.exact (.bool x24_j7)))) (fun (x24_j7 : Bool) => []) (fun k7 h => ?_) (fun x24_j7 h => ?_)
  · refine k_reg .free hmixP (by kernel_rfl) ?_
    refine G_q rfl (op_move (av := .exact (.int .i64 a1)) rfl ?_)
    refine G_q rfl (op_move (av := .row 3 c_api_TypeNode a0) rfl ?_)
    refine G_q rfl (op_len_row (by kernel_rfl) rfl ?_)
    refine G_q rfl (op_geq rfl rfl ?_)
    refine G_q rfl (op_move (av := .exact (.bool (decide ((List.length a0 : Int) ≤ a1)))) rfl ?_)
    refine G_split (p := (List.length a0 : Int) ≤ a1) 13 rfl (fun hc => ?_) (fun hc => ?_)
    · replace h := ite_t h hc
      refine G_n rfl rfl ?_
      refine G_n rfl rfl ?_
      refine G_q rfl (op_pick_t rfl (av := .exact (.bool true)) rfl ?_)
      refine G_q rfl (op_move (av := .exact (.bool true)) rfl ?_)
      refine G_n rfl rfl ?_
      refine G_n rfl rfl ?_
      refine G_n rfl rfl ?_
      refine G_n rfl rfl ?_
      refine G_n rfl rfl ?_
      refine G_n rfl rfl ?_
      refine G_q rfl (op_pick_t rfl (av := .exact (.bool true)) rfl ?_)
      refine G_nil ?_
      refine kI_normal ⟨_, h, ?_⟩
      exact Sub.of_le (AF.le_put (AV.le_eq rfl) (AF.le_put (AV.le_eq rfl) (AF.le_put (AV.le_eq rfl) (AF.le_put (AV.le_eq rfl) (AF.le_top _)))))
    · replace h := ite_f h hc
      refine Gy_q rfl rfl rfl (op_move (av := .exact (.int .i64 a2)) rfl ?_)
      refine Gy_q rfl rfl rfl (op_gtr rfl rfl ?_)
      refine G_q rfl (op_pick_f rfl (av := .exact (.bool (decide (64 < a2)))) rfl ?_)
      refine G_q rfl (op_move (av := .exact (.bool (decide (64 < a2)))) rfl ?_)
      refine G_split (p := 64 < a2) 17 rfl (fun hc => ?_) (fun hc => ?_)
      · replace h := ite_t h hc
        refine G_n rfl rfl ?_
        refine G_n rfl rfl ?_
        refine G_n rfl rfl ?_
        refine G_n rfl rfl ?_
        refine G_n rfl rfl ?_
        refine G_n rfl rfl ?_
        refine G_q rfl (op_pick_t rfl (av := .exact (.bool true)) rfl ?_)
        refine G_nil ?_
        refine kI_normal ⟨_, h, ?_⟩
        exact Sub.of_le (AF.le_put (AV.le_eq rfl) (AF.le_put (AV.le_eq rfl) (AF.le_put (AV.le_eq rfl) (AF.le_put (AV.le_eq rfl) (AF.le_top _)))))
      · replace h := ite_f h hc
        refine Gy_q rfl rfl rfl (op_move (av := .row 3 c_api_TypeNode a0) rfl ?_)
        refine Gy_q rfl rfl rfl (op_move (av := .exact (.int .i64 a1)) rfl ?_)
        obtain ⟨n10, h⟩ := need_some h
        refine Gy_q rfl rfl rfl (op_index_row (by kernel_rfl) rfl rfl n10.1 n10.2 ?_)
        refine Gy_q rfl rfl rfl (op_loadNp (m := 3) (c' := c_api_TypeNode (gi a0 a1)) (by kernel_rfl) rfl rfl rfl ?_)
        obtain ⟨y11, hy11, h⟩ := bnd1_some h
        refine Gy_q rfl rfl rfl (op_pure (m_ref6_arity_ok _ _ hy11) Tryd.func84 (by kernel_rfl) (LEs.cons (AV.le_eq rfl) LEs.nil) ?_)
        refine Gy_q rfl rfl rfl (op_not rfl ?_)
        refine G_q rfl (op_pick_f rfl (av := .exact (.bool (!y11))) rfl ?_)
        refine G_nil ?_
        refine kI_normal ⟨_, h, ?_⟩
        exact Sub.of_le (AF.le_put (AV.le_eq rfl) (AF.le_put (AV.le_eq rfl) (AF.le_put (AV.le_eq rfl) (AF.le_put (AV.le_eq rfl) (AF.le_top _)))))
  · refine k_cond_b (c := x24_j7) rfl (fun hc => ?_) (fun hc => ?_)
    · replace h := ite_t h hc
      refine k_seq ?_
      refine k_reg .free hmixP (by kernel_rfl) ?_
      refine G_q rfl (op_assign (av := .exact (.int .i64 (-1))) rfl ?_)
      refine G_nil ?_
      refine kC_normal ?_
      refine k_ret ?_
      refine kC_ret ?_
      obtain rfl := Option.some.inj h
      refine kP_any (endN (af' := (AF.put AF0 (some 6) (.exact (.int .i64 (-1))))) (σ' := []) _ rfl ?_ ⟨rfl, rfl⟩)
      exact Sub.of_le (AF.le_put (AV.le_eq rfl) (AF.le_top _))
    · replace h := ite_f h hc
      refine k_skip ?_
      refine kC_normal ?_
      refine k_seq ?_
      refine k_reg .free hmixP (by kernel_rfl) ?_
      refine G_q rfl (op_move (av := .row 3 c_api_TypeNode a0) rfl ?_)
      refine G_q rfl (op_move (av := .exact (.int .i64 a1)) rfl ?_)
      obtain ⟨n12, h⟩ := need_some h
      refine G_q rfl (op_index_row (by kernel_rfl) rfl rfl n12.1 n12.2 ?_)
      refine G_q rfl (op_fieldAddr_ptr (o := 2) (c' := (List.drop 2 (c_api_TypeNode (gi a0 a1)))) (by kernel_rfl) rfl rfl ?_)
      refine G_q rfl (op_load1p (a := .exact (.int .i64 ((gi a0 a1).2.2))) (by kernel_rfl) rfl rfl ?_)
      refine G_q rfl (op_assign (av := .exact (.int .i64 ((gi a0 a1).2.2))) rfl ?_)
      refine G_nil ?_
      refine kC_normal ?_
      refine k_seq ?_
      refine k_reg .free hmixP (by kernel_rfl) ?_
      refine G_q rfl (op_move (av := .exact (.int .i64 a1)) rfl ?_)
      refine G_q rfl (op_add rfl rfl rfl ?_)
      refine G_q rfl (op_assign (av := .exact (.int .i64 (i64 (a1 + 1)))) rfl ?_)
      refine G_nil ?_
      refine kC_normal ?_
      refine k_join1_0 h (fun (x1_j13 : Int) => (AF.put AF0 (some 1) (.exact (.int .i64 x1_j13)))) (fun (x1_j13 : Int) => []) (fun k13 h => ?_) (fun x1_j13 h => ?_)
      · refine k_seq ?_
        refine k_reg .free hmixP (by kernel_rfl) ?_
        refine G_q rfl (op_assign (av := .exact (.int .i64 0)) rfl ?_)
        refine G_nil ?_
        refine kC_normal ?_
        refine k_block ?_
        refine k_loop2_0 (m_ref6_walk_L2 self_ref6_walk a0 a1 a2 k13) (m_ref6_walk_B2 self_ref6_walk a0 a1 a2 k13) (fun _ _ => rfl) (fun m _ _ => rfl) h (fun (x1_l2 : Int) (x8_l2 : Int) => (AF.put (AF.put (AF.put (AF.put (AF.put AF0 (some 0) (.row 3 c_api_TypeNode a0)) (some 1) (.exact (.int .i64 x1_l2))) (some 2) (.exact (.int .i64 a2))) (some 7) (.exact (.int .i64 ((gi a0 a1).2.2)))) (some 8) (.exact (.int .i64 x8_l2)))) (fun (x1_l2 : Int) (x8_l2 : Int) => []) ?_ (fun rec2 x1_l2 x8_l2 h => ?_)
        · exact Sub.of_le (AF.le_put (AV.le_eq rfl) (AF.le_put (AV.le_eq rfl) (AF.le_put (AV.le_eq rfl) (AF.le_put (AV.le_eq rfl) (AF.le_put (AV.le_eq rfl) (AF.le_top _))))))
        · unfold m_ref6_walk_B2 at h
          refine k_seq ?_
          refine k_seq ?_
          refine k_reg .free hmixP (by kernel_rfl) ?_
          refine G_q rfl (op_move (av := .exact (.int .i64 x8_l2)) rfl ?_)
          refine G_q rfl (op_move (av := .exact (.int .i64 ((gi a0 a1).2.2))) rfl ?_)
          refine G_q rfl (op_lss rfl rfl ?_)
          refine G_nil ?_
          refine kC_normal ?_
          refine k_cond_d (p := x8_l2 < ((gi a0 a1).2.2)) rfl (fun hc => ?_) (fun hc => ?_)
          · replace h := ite_t h hc
            refine k_skip ?_
            refine kC_normal ?_
            refine k_seq ?_
            refine k_block ?_
            refine k_seq ?_
            refine k_reg .free hmixP (by kernel_rfl) ?_
            refine G_q rfl (op_move (av := .row 3 c_api_TypeNode a0) rfl ?_)
            refine G_q rfl (op_move (av := .exact (.int .i64 x1_l2)) rfl ?_)
            refine G_q rfl (op_move (av := .exact (.int .i64 a2)) rfl ?_)
            refine G_q rfl (op_add rfl rfl rfl ?_)
            obtain ⟨y20, hy20, h⟩ := bnd1_some h
            refine G_q rfl (op_pure (hself_ref6_walk _ _ _ _ hy20) Tryd.func64 (by kernel_rfl) (LEs.cons (AV.le_eq rfl) (LEs.cons (AV.le_eq rfl) (LEs.cons (AV.le_eq rfl) LEs.nil))) ?_)
            refine G_q rfl (op_assign (av := .exact (.int .i64 y20)) rfl ?_)
            refine G_nil ?_
            refine kC_normal ?_
            refine k_seq ?_
            refine k_reg .free hmixP (by kernel_rfl) ?_
            refine G_q rfl (op_move (av := .exact (.int .i64 y20)) rfl ?_)
            refine G_q rfl (op_lss rfl rfl ?_)
            refine G_nil ?_
            refine kC_normal ?_
            refine k_cond_d (p := y20 < 0) rfl (fun hc => ?_) (fun hc => ?_)
            · replace h := ite_t h hc
              refine k_seq ?_
              refine k_reg .free hmixP (by kernel_rfl) ?_
              refine G_q rfl (op_assign (av := .exact (.int .i64 (-1))) rfl ?_)
              refine G_nil ?_
              refine kC_normal ?_
              refine k_ret ?_
              refine kB_ret ?_
              refine kC_ret ?_
              refine kI_ret ?_
              refine kB_ret ?_
              refine kI_ret ?_
              obtain rfl := Option.some.inj h
              refine kP_any (endN (af' := (AF.put AF0 (some 6) (.exact (.int .i64 (-1))))) (σ' := []) _ rfl ?_ ⟨rfl, rfl⟩)
              exact Sub.of_le (AF.le_put (AV.le_eq rfl) (AF.le_top _))
            · replace h := ite_f h hc
              refine k_skip ?_
              refine kB_normal ?_
              refine kC_normal ?_
              refine k_reg .free hmixP (by kernel_rfl) ?_
              refine G_q rfl (op_move (av := .exact (.int .i64 x8_l2)) rfl ?_)
              refine G_q rfl (op_add rfl rfl rfl ?_)
              refine G_q rfl (op_assign (av := .exact (.int .i64 (i64 (x8_l2 + 1)))) rfl ?_)
              refine G_nil ?_
              refine kI_normal ⟨_, _, h, ?_⟩
              exact Sub.of_le (AF.le_put (AV.le_eq rfl) (AF.le_put (AV.le_eq rfl) (AF.le_put (AV.le_eq rfl) (AF.le_put (AV.le_eq rfl) (AF.le_put (AV.le_eq rfl) (AF.le_top _))))))
          · replace h := ite_f h hc
            refine k_exit ?_
            refine kC_exit ?_
            refine kI_exit ?_
            refine kB_exit ?_
            refine kI_normal ⟨_, h, ?_⟩
            exact Sub.of_le (AF.le_put (AV.le_eq rfl) (AF.le_top _))
      · refine k_seq ?_
        refine k_reg .free hmixP (by kernel_rfl) ?_
        refine G_q rfl (op_move (av := .exact (.int .i64 x1_j13)) rfl ?_)
        refine G_q rfl (op_assign (av := .exact (.int .i64 x1_j13)) rfl ?_)
        refine G_nil ?_
        refine kC_normal ?_
        refine k_ret ?_
        obtain rfl := Option.some.inj h
        refine kP_any (endN (af' := (AF.put AF0 (some 6) (.exact (.int .i64 x1_j13)))) (σ' := []) _ rfl ?_ ⟨rfl, rfl⟩)
        exact Sub.of_le (AF.le_put (AV.le_eq rfl) (AF.le_top _))
set_option maxHeartbeats 4000000 in
theorem m_ref6_walk_S_ok : ∀ n : Nat, (∀ (a0 : List (Int × Int × Int)) (a1 : Int) (a2 : Int) (r : Int), m_ref6_walk_S n a0 a1 a2 = some r → Pure Tryd.prog 64 [(.row 3 c_api_TypeNode a0), (.exact (.int .i64 a1)), (.exact (.int .i64 a2))] (.exact (.int .i64 r)))
  | 0 => (fun _ _ _ _ h => by have h' : (none : Option _) = some _ := h; cases h')
  | n + 1 => by
    have ih := m_ref6_walk_S_ok n
    exact fun a0 a1 a2 r h => m_ref6_walk_F_ok (m_ref6_walk_S n) ih a0 a1 a2 r h
theorem m_ref6_walk_ok (a0 : List (Int × Int × Int)) (a1 : Int) (a2 : Int) (r : Int) (h : m_ref6_walk a0 a1 a2 = some r) : Pure Tryd.prog 64 [(.row 3 c_api_TypeNode a0), (.exact (.int .i64 a1)), (.exact (.int .i64 a2))] (.exact (.int .i64 r)) := (m_ref6_walk_S_ok FU) a0 a1 a2 r h
set_option maxHeartbeats 4000000 in
theorem m_ref6_ValidType_ok (a0 : List (Int × Int × Int)) (r : Bool) (h : m_ref6_ValidType a0 = some r) : Pure Tryd.prog 30 [(.row 3 c_api_TypeNode a0)] (.exact (.bool r)) := by
  unfold m_ref6_ValidType at h
  refine Pure.ofFun (fun_of_awp Tryd.func30 rfl Tryd.ntmps30 (by simp) rfl (res1 rfl) fun E hE => k_end ?_)
  refine k_seq ?_
  refine k_reg .free hmixP (by kernel_rfl) ?_
  refine G_q rfl (op_assign (av := .exact (.bool false)) rfl ?_)
  refine G_nil ?_
  refine kC_normal ?_
  refine k_join1_0 h (fun (x2_j1 : Bool) => (AF.put AF0 (some 2) (.exact (.bool x2_j1)))) (fun (x2_j1 : Bool) => []) (fun k1 h => ?_) (fun x2_j1 h => ?_)
  · refine k_reg .free hmixP (by kernel_rfl) ?_
    refine G_q rfl (op_move (av := .row 3 c_api_TypeNode a0) rfl ?_)
    refine G_q rfl (op_len_row (by kernel_rfl) rfl ?_)
    refine G_q rfl (op_leq rfl rfl ?_)
    refine G_q rfl (op_move (av := .exact (.bool (decide ((List.length a0 : Int) ≤ 512)))) rfl ?_)
    refine G_split (p := (List.length a0 : Int) ≤ 512) 6 rfl (fun hc => ?_) (fun hc => ?_)
    · replace h := ite_t h hc
      refine Gy_q rfl rfl rfl (op_move (av := .row 3 c_api_TypeNode a0) rfl ?_)
      obtain ⟨y3, hy3, h⟩ := bnd1_some h
      refine Gy_q rfl rfl rfl (op_pure (m_ref6_walk_ok _ _ _ _ hy3) Tryd.func64 (by kernel_rfl) (LEs.cons (AV.le_eq rfl) (LEs.cons (AV.le_eq rfl) (LEs.cons (AV.le_eq rfl) LEs.nil))) ?_)
      refine Gy_q rfl rfl rfl (op_move (av := .row 3 c_api_TypeNode a0) rfl ?_)
      refine Gy_q rfl rfl rfl (op_len_row (by kernel_rfl) rfl ?_)
      refine Gy_q rfl rfl rfl (op_eql rfl rfl ?_)
      refine G_q rfl (op_pick_t rfl (av := .exact (.bool (decide (y3 = (List.length a0 : Int))))) rfl ?_)
      refine G_q rfl (op_assign (av := .exact (.bool (decide (y3 = (List.length a0 : Int))))) rfl ?_)
      refine G_nil ?_
      refine kI_normal ⟨_, h, ?_⟩
      exact Sub.of_le (AF.le_put (AV.le_eq rfl) (AF.le_top _))
    · replace h := ite_f h hc
      refine G_n rfl rfl ?_
      refine G_n rfl rfl ?_
      refine G_n rfl rfl ?_
      refine G_n rfl rfl ?_
      refine G_n rfl rfl ?_
      refine G_q rfl (op_pick_f rfl (av := .exact (.bool false)) rfl ?_)
      refine G_q rfl (op_assign (av := .exact (.bool false)) rfl ?_)
      refine G_nil ?_
      refine kI_normal ⟨_, h, ?_⟩
      exact Sub.of_le (AF.le_put (AV.le_eq rfl) (AF.le_top _))
  · refine k_ret ?_
    obtain rfl := Option.some.inj h
    refine kP_any (endN (af' := (AF.put AF0 (some 2) (.exact (.bool x2_j1)))) (σ' := []) _ rfl ?_ ⟨rfl, rfl⟩)
    exact Sub.of_le (AF.le_put (AV.le_eq rfl) (AF.le_top _))
set_option maxHeartbeats 4000000 in
theorem m_ref6_class_ok (a0 : Int) (a1 : Int) (r : Bool) (h : m_ref6_class a0 a1 = some r) : Pure Tryd.prog 61 [(.exact (.int .i64 a0)), (.exact (.int .i64 a1))] (.exact (.bool r)) := by
  unfold m_ref6_class at h
  refine Pure.ofFun (fun_of_awp Tryd.func61 rfl Tryd.ntmps61 (by simp) rfl (res1 rfl) fun E hE => k_end ?_)
  refine k_seq ?_
  refine k_reg .free hmixP (by kernel_rfl) ?_
  refine G_q rfl (op_assign (av := .exact (.bool false)) rfl ?_)
  refine G_nil ?_
  refine kC_normal ?_
  refine k_seq ?_
  refine k_seq ?_
  refine k_reg .free hmixP (by kernel_rfl) ?_
  refine G_q rfl (op_move (av := .exact (.int .i64 a0)) rfl ?_)
  refine G_nil ?_
  refine kC_normal ?_
  refine k_block ?_
  refine k_join1_0 h (fun (x6_j4 : Bool) => (AF.put (AF.put (AF.put AF0 (some 1) (.exact (.int .i64 a1))) (some 5) (.exact (.int .i64 a0))) (some 6) (.exact (.bool x6_j4)))) (fun (x6_j4 : Bool) => []) (fun k4 h => ?_) (fun x6_j4 h => ?_)
  · refine k_seq ?_
    refine k_reg .free hmixP (by kernel_rfl) ?_
    refine G_q rfl (op_eql rfl rfl ?_)
    refine G_q rfl (op_assign (av := .exact (.bool (decide (a0 = 1)))) rfl ?_)
    refine G_nil ?_
    refine kC_normal ?_
    refine k_cond_d (p := a0 = 1) rfl (fun hc => ?_) (fun hc => ?_)
    · replace h := ite_t h hc
      refine k_skip ?_
      refine kI_normal ⟨_, h, ?_⟩
      exact Sub.of_le (AF.le_put (AV.le_eq rfl) (AF.le_put (AV.le_eq rfl) (AF.le_put (AV.le_eq rfl) (AF.le_top _))))
    · replace h := ite_f h hc
      refine k_seq ?_
      refine k_reg .free hmixP (by kernel_rfl) ?_
      refine G_q rfl (op_eql rfl rfl ?_)
      refine G_q rfl (op_assign (av := .exact (.bool (decide (a0 = 2)))) rfl ?_)
      refine G_nil ?_
      refine kC_normal ?_
      refine k_cond_d (p := a0 = 2) rfl (fun hc => ?_) (fun hc => ?_)
      · replace h := ite_t h hc
        refine k_skip ?_
        refine kI_normal ⟨_, h, ?_⟩
        exact Sub.of_le (AF.le_put (AV.le_eq rfl) (AF.le_put (AV.le_eq rfl) (AF.le_put (AV.le_eq rfl) (AF.le_top _))))
      · replace h := ite_f h hc
        refine k_seq ?_
        refine k_reg .free hmixP (by kernel_rfl) ?_
        refine G_q rfl (op_eql rfl rfl ?_)
        refine G_q rfl (op_assign (av := .exact (.bool (decide (a0 = 3)))) rfl ?_)
        refine G_nil ?_
        refine kC_normal ?_
        refine k_cond_d (p := a0 = 3) rfl (fun hc => ?_) (fun hc => ?_)
        · replace h := ite_t h hc
          refine k_skip ?_
          refine kI_normal ⟨_, h, ?_⟩
          exact Sub.of_le (AF.le_put (AV.le_eq rfl) (AF.le_put (AV.le_eq rfl) (AF.le_put (AV.le_eq rfl) (AF.le_top _))))
        · replace h := ite_f h hc
          refine k_seq ?_
          refine k_reg .free hmixP (by kernel_rfl) ?_
          refine G_q rfl (op_eql rfl rfl ?_)
          refine G_q rfl (op_assign (av := .exact (.bool (decide (a0 = 7)))) rfl ?_)
          refine G_nil ?_
          refine kC_normal ?_
          refine k_cond_d (p := a0 = 7) rfl (fun hc => ?_) (fun hc => ?_)
          · replace h := ite_t h hc
            refine k_skip ?_
            refine kI_normal ⟨_, h, ?_⟩
            exact Sub.of_le (AF.le_put (AV.le_eq rfl) (AF.le_put (AV.le_eq rfl) (AF.le_put (AV.le_eq rfl) (AF.le_top _))))
          · replace h := ite_f h hc
            refine k_reg .free hmixP (by kernel_rfl) ?_
            refine G_q rfl (op_eql rfl rfl ?_)
            refine G_q rfl (op_assign (av := .exact (.bool (decide (a0 = 10)))) rfl ?_)
            refine G_nil ?_
            refine kI_normal ⟨_, h, ?_⟩
            exact Sub.of_le (AF.le_put (AV.le_eq rfl) (AF.le_put (AV.le_eq rfl) (AF.le_put (AV.le_eq rfl) (AF.le_top _))))
  · refine k_cond_b (c := x6_j4) rfl (fun hc => ?_) (fun hc => ?_)
    · replace h := ite_t h hc
      refine k_seq ?_
      refine k_reg .free hmixP (by kernel_rfl) ?_
      refine G_q rfl (op_assign (av := .exact (.bool true)) rfl ?_)
      refine G_nil ?_
      refine kC_normal ?_
      refine k_ret ?_
      refine kB_ret ?_
      refine kC_ret ?_
      obtain rfl := Option.some.inj h
      refine kP_any (endN (af' := (AF.put AF0 (some 4) (.exact (.bool true)))) (σ' := []) _ rfl ?_ ⟨rfl, rfl⟩)
      exact Sub.of_le (AF.le_put (AV.le_eq rfl) (AF.le_top _))
    · replace h := ite_f h hc
      refine k_join1_0 h (fun (x12_j5 : Bool) => (AF.put (AF.put AF0 (some 1) (.exact (.int .i64 a1))) (some 12) (.exact (.bool x12_j5)))) (fun (x12_j5 : Bool) => []) (fun k5 h => ?_) (fun x12_j5 h => ?_)
      · refine k_seq ?_
        refine k_reg .free hmixP (by kernel_rfl) ?_
        refine G_q rfl (op_eql rfl rfl ?_)
        refine G_q rfl (op_assign (av := .exact (.bool (decide (a0 = 4)))) rfl ?_)
        refine G_nil ?_
        refine kC_normal ?_
        refine k_cond_d (p := a0 = 4) rfl (fun hc => ?_) (fun hc => ?_)
        · replace h := ite_t h hc
          refine k_skip ?_
          refine kI_normal ⟨_, h, ?_⟩
          exact Sub.of_le (AF.le_put (AV.le_eq rfl) (AF.le_put (AV.le_eq rfl) (AF.le_top _)))
        · replace h := ite_f h hc
          refine k_seq ?_
          refine k_reg .free hmixP (by kernel_rfl) ?_
          refine G_q rfl (op_eql rfl rfl ?_)
          refine G_q rfl (op_assign (av := .exact (.bool (decide (a0 = 6)))) rfl ?_)
          refine G_nil ?_
          refine kC_normal ?_
          refine k_cond_d (p := a0 = 6) rfl (fun hc => ?_) (fun hc => ?_)
          · replace h := ite_t h hc
            refine k_skip ?_
            refine kI_normal ⟨_, h, ?_⟩
            exact Sub.of_le (AF.le_put (AV.le_eq rfl) (AF.le_put (AV.le_eq rfl) (AF.le_top _)))
          · replace h := ite_f h hc
            refine k_seq ?_
            refine k_reg .free hmixP (by kernel_rfl) ?_
            refine G_q rfl (op_eql rfl rfl ?_)
            refine G_q rfl (op_assign (av := .exact (.bool (decide (a0 = 8)))) rfl ?_)
            refine G_nil ?_
            refine kC_normal ?_
            refine k_cond_d (p := a0 = 8) rfl (fun hc => ?_) (fun hc => ?_)
            · replace h := ite_t h hc
              refine k_skip ?_
              refine kI_normal ⟨_, h, ?_⟩
              exact Sub.of_le (AF.le_put (AV.le_eq rfl) (AF.le_put (AV.le_eq rfl) (AF.le_top _)))
            · replace h := ite_f h hc
              refine k_seq ?_
              refine k_reg .free hmixP (by kernel_rfl) ?_
              refine G_q rfl (op_eql rfl rfl ?_)
              refine G_q rfl (op_assign (av := .exact (.bool (decide (a0 = 9)))) rfl ?_)
              refine G_nil ?_
              refine kC_normal ?_
              refine k_cond_d (p := a0 = 9) rfl (fun hc => ?_) (fun hc => ?_)
              · replace h := ite_t h hc
                refine k_skip ?_
                refine kI_normal ⟨_, h, ?_⟩
                exact Sub.of_le (AF.le_put (AV.le_eq rfl) (AF.le_put (AV.le_eq rfl) (AF.le_top _)))
              · replace h := ite_f h hc
                refine k_seq ?_
                refine k_reg .free hmixP (by kernel_rfl) ?_
                refine G_q rfl (op_eql rfl rfl ?_)
                refine G_q rfl (op_assign (av := .exact (.bool (decide (a0 = 12)))) rfl ?_)
                refine G_nil ?_
                refine kC_normal ?_
                refine k_cond_d (p := a0 = 12) rfl (fun hc => ?_) (fun hc => ?_)
                · replace h := ite_t h hc
                  refine k_skip ?_
                  refine kI_normal ⟨_, h, ?_⟩
                  exact Sub.of_le (AF.le_put (AV.le_eq rfl) (AF.le_put (AV.le_eq rfl) (AF.le_top _)))
                · replace h := ite_f h hc
                  refine k_reg .free hmixP (by kernel_rfl) ?_
                  refine G_q rfl (op_eql rfl rfl ?_)
                  refine G_q rfl (op_assign (av := .exact (.bool (decide (a0 = 13)))) rfl ?_)
                  refine G_nil ?_
                  refine kI_normal ⟨_, h, ?_⟩
                  exact Sub.of_le (AF.le_put (AV.le_eq rfl) (AF.le_put (AV.le_eq rfl) (AF.le_top _)))
      · refine k_cond_b (c := x12_j5) rfl (fun hc => ?_) (fun hc => ?_)
        · replace h := ite_t h hc
          refine k_seq ?_
          refine k_reg .free hmixP (by kernel_rfl) ?_
          refine G_q rfl (op_move (av := .exact (.int .i64 a1)) rfl ?_)
          refine G_q rfl (op_neq rfl rfl ?_)
          refine G_q rfl (op_assign (av := .exact (.bool (decide (¬ a1 = 2)))) rfl ?_)
          refine G_nil ?_
          refine kC_normal ?_
          refine k_ret ?_
          refine kB_ret ?_
          refine kC_ret ?_
          obtain rfl := Option.some.inj h
          refine kP_any (endN (af' := (AF.put AF0 (some 4) (.exact (.bool (decide (¬ a1 = 2)))))) (σ' := []) _ rfl ?_ ⟨rfl, rfl⟩)
          exact Sub.of_le (AF.le_put (AV.le_eq rfl) (AF.le_top _))
        · replace h := ite_f h hc
          refine k_skip ?_
          refine kB_normal ?_
          refine kC_normal ?_
          refine k_seq ?_
          refine k_reg .free hmixP (by kernel_rfl) ?_
          refine G_q rfl (op_assign (av := .exact (.bool false)) rfl ?_)
          refine G_nil ?_
          refine kC_normal ?_
          refine k_ret ?_
          obtain rfl := Option.some.inj h
          refine kP_any (endN (af' := (AF.put AF0 (some 4) (.exact (.bool false)))) (σ' := []) _ rfl ?_ ⟨rfl, rfl⟩)
          exact Sub.of_le (AF.le_put (AV.le_eq rfl) (AF.le_top _))
set_option maxHeartbeats 4000000 in
theorem m_ref6_Need_ok (a0 : List (Int × Int)) (a1 : Int) (a2 : Int) (r : (List (Int × Int))) (h : m_ref6_Need a0 a1 a2 = some r) : Pure Tryd.prog 62 [(.row 2 c_api_Need a0), (.exact (.int .i64 a1)), (.exact (.int .i64 a2))] (.row 2 c_api_Need r) := by
  unfold m_ref6_Need at h
  refine Pure.ofFun (fun_of_awp Tryd.func62 rfl Tryd.ntmps62 (by simp) rfl (res1 rfl) fun E hE => k_end ?_)
  refine k_seq ?_
  refine k_reg .free hmixP (by kernel_rfl) ?_
  refine G_q rfl (op_assign (av := .exact (.slice none 0 0)) rfl ?_)
  refine G_nil ?_
  refine kC_normal ?_
  refine k_seq ?_
  refine k_reg .free hmixP (by kernel_rfl) ?_
  refine G_q rfl (op_move (av := .row 2 c_api_Need a0) rfl ?_)
  obtain ⟨n1, h⟩ := need_some h
  refine G_l rfl (op_appN (enc := c_api_Need) (by kernel_rfl) rfl rfl oc_c_api_Need n1 (fun v2 => ?_))
  refine G_q rfl (op_assign (av := .exact v2) rfl ?_)
  refine G_nil ?_
  refine kC_normal ?_
  refine k_seq ?_
  refine k_reg .free hmixP (by kernel_rfl) ?_
  refine G_q rfl (op_assign (av := .exact (.int .i64 0)) rfl ?_)
  refine G_nil ?_
  refine kC_normal ?_
  refine k_join1_0 h (fun (x8_j3 : Int) => (AF.put (AF.put (AF.put (AF.put AF0 (some 1) (.exact (.int .i64 a1))) (some 2) (.exact (.int .i64 a2))) (some 7) (.exact v2)) (some 8) (.exact (.int .i64 x8_j3)))) (fun (x8_j3 : Int) => [vecT Tryd.prog 47 2 c_api_Need v2 a0]) (fun k3 h => ?_) (fun x8_j3 h => ?_)
  · refine k_block ?_
    refine k_loop1_0 (m_ref6_Need_L2 a0 a1 k3) (m_ref6_Need_B2 a0 a1 k3) (fun _ => rfl) (fun m _ => rfl) h (fun (x8_l2 : Int) => (AF.put (AF.put (AF.put (AF.put AF0 (some 1) (.exact (.int .i64 a1))) (some 2) (.exact (.int .i64 a2))) (some 7) (.exact v2)) (some 8) (.exact (.int .i64 x8_l2)))) (fun (x8_l2 : Int) => [vecT Tryd.prog 47 2 c_api_Need v2 a0]) ?_ (fun rec2 x8_l2 h => ?_)
    · exact Sub.of_le (AF.le_put (AV.le_eq rfl) (AF.le_put (AV.le_eq rfl) (AF.le_put (AV.le_eq rfl) (AF.le_put (AV.le_eq rfl) (AF.le_top _)))))
    · unfold m_ref6_Need_B2 at h
      refine k_seq ?_
      refine k_join1_0 h (fun (x23_j44 : Bool) => (AF.put (AF.put (AF.put (AF.put (AF.put AF0 (some 1) (.exact (.int .i64 a1))) (some 2) (.exact (.int .i64 a2))) (some 7) (.exact v2)) (some 8) (.exact (.int .i64 x8_l2))) (some 23) (.exact (.bool x23_j44)))) (fun (x23_j44 : Bool) => [vecT Tryd.prog 47 2 c_api_Need v2 a0]) (fun k44 h => ?_) (fun x23_j44 h => ?_)
      · refine k_reg .free hmixP (by kernel_rfl) ?_
        refine G_q rfl (op_move (av := .exact (.int .i64 x8_l2)) rfl ?_)
        refine G_q rfl (op_move (av := .exact v2) rfl ?_)
        refine G_r rfl (op_len_vec (by kernel_rfl) rfl ?_)
        refine G_q rfl (op_lss rfl rfl ?_)
        refine G_q rfl (op_move (av := .exact (.bool (decide (x8_l2 < (List.length a0 : Int))))) rfl ?_)
        refine G_split (p := x8_l2 < (List.length a0 : Int)) 15 rfl (fun hc => ?_) (fun hc => ?_)
        · replace h := ite_t h hc
          refine Gy_q rfl rfl rfl (op_move (av := .exact v2) rfl ?_)
          refine Gy_q rfl rfl rfl (op_move (av := .exact (.int .i64 x8_l2)) rfl ?_)
          obtain ⟨n46, h⟩ := need_some h
          refine Gy_r rfl rfl rfl (op_index_vec (by kernel_rfl) rfl rfl n46.1 n46.2 ?_)
          refine Gy_q rfl rfl rfl (op_field_eptr (o := 0) (by kernel_rfl) rfl ?_)
          refine Gy_r rfl rfl rfl (op_load_vec1 (i := x8_l2) (o := 0) (a := .exact (.int .i64 ((gi a0 x8_l2).1))) (by kernel_rfl) len_c_api_Need rfl n46.1 n46.2 rfl ?_)
          refine Gy_q rfl rfl rfl (op_move (av := .exact (.int .i64 a1)) rfl ?_)
          refine Gy_q rfl rfl rfl (op_lss rfl rfl ?_)
          refine G_q rfl (op_pick_t rfl (av := .exact (.bool (decide (((gi a0 x8_l2).1) < a1)))) rfl ?_)
          refine G_nil ?_
          refine kI_normal ⟨_, h, ?_⟩
          exact Sub.of_le (AF.le_put (AV.le_eq rfl) (AF.le_put (AV.le_eq rfl) (AF.le_put (AV.le_eq rfl) (AF.le_put (AV.le_eq rfl) (AF.le_put (AV.le_eq rfl) (AF.le_top _))))))
        · replace h := ite_f h hc
          refine G_n rfl rfl ?_
          refine G_n rfl rfl ?_
          refine G_n rfl rfl ?_
          refine G_n rfl rfl ?_
          refine G_n rfl rfl ?_
          refine G_n rfl rfl ?_
          refine G_n rfl rfl ?_
          refine G_q rfl (op_pick_f rfl (av := .exact (.bool false)) rfl ?_)
          refine G_nil ?_
          refine kI_normal ⟨_, h, ?_⟩
          exact Sub.of_le (AF.le_put (AV.le_eq rfl) (AF.le_put (AV.le_eq rfl) (AF.le_put (AV.le_eq rfl) (AF.le_put (AV.le_eq rfl) (AF.le_put (AV.le_eq rfl) (AF.le_top _))))))
      · refine k_cond_b (c := x23_j44) rfl (fun hc => ?_) (fun hc => ?_)
        · replace h := ite_t h hc
          refine k_skip ?_
          refine kC_normal ?_
          refine k_block ?_
          refine k_reg .free hmixP (by kernel_rfl) ?_
          refine G_q rfl (op_move (av := .exact (.int .i64 x8_l2)) rfl ?_)
          refine G_q rfl (op_add rfl rfl rfl ?_)
          refine G_q rfl (op_assign (av := .exact (.int .i64 (i64 (x8_l2 + 1)))) rfl ?_)
          refine G_nil ?_
          refine kB_normal ?_
          refine kI_normal ⟨_, h, ?_⟩
          exact Sub.of_le (AF.le_put (AV.le_eq rfl) (AF.le_put (AV.le_eq rfl) (AF.le_put (AV.le_eq rfl) (AF.le_put (AV.le_eq rfl) (AF.le_top _)))))
        · replace h := ite_f h hc
          refine k_exit ?_
          refine kC_exit ?_
          refine kI_exit ?_
          refine kB_exit ?_
          refine kI_normal ⟨_, h, ?_⟩
          exact Sub.of_le (AF.le_put (AV.le_eq rfl) (AF.le_put (AV.le_eq rfl) (AF.le_put (AV.le_eq rfl) (AF.le_put (AV.le_eq rfl) (AF.le_top _)))))
  · refine k_seq ?_
    refine k_join1_0 h (fun (x38_j53 : Bool) => (AF.put (AF.put (AF.put (AF.put (AF.put AF0 (some 1) (.exact (.int .i64 a1))) (some 2) (.exact (.int .i64 a2))) (some 7) (.exact v2)) (some 8) (.exact (.int .i64 x8_j3))) (some 38) (.exact (.bool x38_j53)))) (fun (x38_j53 : Bool) => [vecT Tryd.prog 47 2 c_api_Need v2 a0]) (fun k53 h => ?_) (fun x38_j53 h => ?_)
    · refine k_reg .free hmixP (by kernel_rfl) ?_
      refine G_q rfl (op_move (av := .exact (.int .i64 x8_j3)) rfl ?_)
      refine G_q rfl (op_move (av := .exact v2) rfl ?_)
      refine G_r rfl (op_len_vec (by kernel_rfl) rfl ?_)
      refine G_q rfl (op_lss rfl rfl ?_)
      refine G_q rfl (op_move (av := .exact (.bool (decide (x8_j3 < (List.length a0 : Int))))) rfl ?_)
      refine G_split (p := x8_j3 < (List.length a0 : Int)) 30 rfl (fun hc => ?_) (fun hc => ?_)
      · replace h := ite_t h hc
        refine Gy_q rfl rfl rfl (op_move (av := .exact v2) rfl ?_)
        refine Gy_q rfl rfl rfl (op_move (av := .exact (.int .i64 x8_j3)) rfl ?_)
        obtain ⟨n55, h⟩ := need_some h
        refine Gy_r rfl rfl rfl (op_index_vec (by kernel_rfl) rfl rfl n55.1 n55.2 ?_)
        refine Gy_q rfl rfl rfl (op_field_eptr (o := 0) (by kernel_rfl) rfl ?_)
        refine Gy_r rfl rfl rfl (op_load_vec1 (i := x8_j3) (o := 0) (a := .exact (.int .i64 ((gi a0 x8_j3).1))) (by kernel_rfl) len_c_api_Need rfl n55.1 n55.2 rfl ?_)
        refine Gy_q rfl rfl rfl (op_move (av := .exact (.int .i64 a1)) rfl ?_)
        refine Gy_q rfl rfl rfl (op_eql rfl rfl ?_)
        refine G_q rfl (op_pick_t rfl (av := .exact (.bool (decide (((gi a0 x8_j3).1) = a1)))) rfl ?_)
        refine G_nil ?_
        refine kI_normal ⟨_, h, ?_⟩
        exact Sub.of_le (AF.le_put (AV.le_eq rfl) (AF.le_put (AV.le_eq rfl) (AF.le_put (AV.le_eq rfl) (AF.le_put (AV.le_eq rfl) (AF.le_put (AV.le_eq rfl) (AF.le_top _))))))
      · replace h := ite_f h hc
        refine G_n rfl rfl ?_
        refine G_n rfl rfl ?_
        refine G_n rfl rfl ?_
        refine G_n rfl rfl ?_
        refine G_n rfl rfl ?_
        refine G_n rfl rfl ?_
        refine G_n rfl rfl ?_
        refine G_q rfl (op_pick_f rfl (av := .exact (.bool false)) rfl ?_)
        refine G_nil ?_
        refine kI_normal ⟨_, h, ?_⟩
        exact Sub.of_le (AF.le_put (AV.le_eq rfl) (AF.le_put (AV.le_eq rfl) (AF.le_put (AV.le_eq rfl) (AF.le_put (AV.le_eq rfl) (AF.le_put (AV.le_eq rfl) (AF.le_top _))))))
    · refine k_cond_b (c := x38_j53) rfl (fun hc => ?_) (fun hc => ?_)
      · replace h := ite_t h hc
        refine k_seq ?_
        refine k_reg .free hmixP (by kernel_rfl) ?_
        refine G_q rfl (op_move (av := .exact v2) rfl ?_)
        refine G_q rfl (op_move (av := .exact (.int .i64 x8_j3)) rfl ?_)
        obtain ⟨n56, h⟩ := need_some h
        refine G_r rfl (op_index_vec (by kernel_rfl) rfl rfl n56.1 n56.2 ?_)
        refine G_q rfl (op_field_eptr (o := 1) (by kernel_rfl) rfl ?_)
        refine G_r rfl (op_load_vec1 (i := x8_j3) (o := 1) (a := .exact (.int .i64 ((gi a0 x8_j3).2))) (by kernel_rfl) len_c_api_Need rfl n56.1 n56.2 rfl ?_)
        refine G_q rfl (op_move (av := .exact (.int .i64 a2)) rfl ?_)
        refine G_q rfl (op_or rfl rfl rfl ?_)
        obtain ⟨n57, h⟩ := need_some h
        refine G_r rfl (op_index_vec (by kernel_rfl) rfl rfl n57.1 n57.2 ?_)
        refine G_q rfl (op_field_eptr (o := 1) (by kernel_rfl) rfl ?_)
        refine G_l rfl (op_store_vec (i := x8_j3) (o := 1) (z := ((gi a0 x8_j3).1, bOr .i64 ((gi a0 x8_j3).2) a2)) (c' := [.exact (.int .i64 (bOr .i64 ((gi a0 x8_j3).2) a2))]) (by kernel_rfl) len_c_api_Need rfl n57.1 n57.2 rfl CellsOf.int (LEs.cons (AV.le_eq rfl) LEs.nil) (OneC.int OneC.nil) (by kernel_rfl) (Nat.le_of_ble_eq_true rfl) rfl ?_)
        refine G_nil ?_
        refine kC_normal ?_
        refine k_seq ?_
        refine k_reg .free hmixP (by kernel_rfl) ?_
        refine G_q rfl (op_move (av := .exact v2) rfl ?_)
        refine G_q rfl (op_assign (av := .exact v2) rfl ?_)
        refine G_nil ?_
        refine kC_normal ?_
        refine k_ret ?_
        refine kC_ret ?_
        obtain rfl := Option.some.inj h
        refine kP_any (endN (af' := (AF.put AF0 (some 6) (.row 2 c_api_Need (List.set a0 (Int.toNat x8_j3) ((gi a0 x8_j3).1, bOr .i64 ((gi a0 x8_j3).2) a2))))) (σ' := []) _ rfl ?_ ⟨rfl, rfl⟩)
        refine Sub.trans (SubU.to (SubU.freezeT (s := 6) rfl len_c_api_Need)) ?_
        exact Sub.of_le (AF.le_put (AV.le_eq rfl) (AF.le_top _))
      · replace h := ite_f h hc
        refine k_skip ?_
        refine kC_normal ?_
        refine k_seq ?_
        refine k_reg .free hmixP (by kernel_rfl) ?_
        refine G_q rfl (op_move (av := .exact v2) rfl ?_)
        refine G_q rfl (op_bld (c' := c_api_Need (0, 0)) CellsAll.nil rfl (LEs.cons (AV.le_eq rfl) (LEs.cons (AV.le_eq rfl) LEs.nil)) ?_)
        refine G_q rfl (op_litT (n := 2) (enc := c_api_Need) [(0, 0)] (CellsAll.cons rfl CellsOf.agg CellsAll.nil) rfl (by kernel_rfl) (LEss.cons (LEs.cons (AV.le_eq rfl) (LEs.cons (AV.le_eq rfl) LEs.nil)) LEss.nil) ?_)
        obtain ⟨n58, h⟩ := need_some h
        refine G_l rfl (op_appT (by kernel_rfl) rfl rfl oc_c_api_Need n58 (fun v59 => ?_))
        refine G_q rfl (op_assign (av := .exact v59) rfl ?_)
        refine G_nil ?_
        refine kC_normal ?_
        refine k_seq ?_
        refine k_plan [] [(0, 0), (0, 1), (0, 2), (0, 4), (0, 5), (1, 3), (1, 6), (2, 7)] hmixP (by kernel_rfl) ?_
        refine P_q no34_0 rfl (op_move (av := .exact v59) rfl ?_)
        refine P_q no34_0 rfl (op_move (av := .exact (.int .i64 x8_j3)) rfl ?_)
        refine P_q no34_0 rfl (op_add rfl rfl rfl ?_)
        refine P_q no34_0 rfl (op_move (av := .exact v59) rfl ?_)
        refine P_q no34_0 rfl (op_move (av := .exact (.int .i64 x8_j3)) rfl ?_)
        obtain ⟨n60, h⟩ := need_some h
        refine P_r rfl (op_slice_vec (by kernel_rfl) rfl (bnd_some rfl) bnd_none n60.1 n60.2.1 n60.2.2 ?_)
        obtain ⟨n61, h⟩ := need_some h
        refine P_r rfl (op_slice_vec (by kernel_rfl) rfl (bnd_some rfl) bnd_none n61.1 n61.2.1 n61.2.2 ?_)
        refine P_l rfl (op_copy (q := (Nat.min (Int.toNat (List.length (a0 ++ [(0, 0)]) : Int) - Int.toNat x8_j3) (Int.toNat (List.length (a0 ++ [(0, 0)]) : Int) - Int.toNat (i64 (x8_j3 + 1))))) (by kernel_rfl) (by kernel_rfl) len_c_api_Need oc_c_api_Need rfl rfl (by have hh := n60; first | omega | (simp only [i64] at hh; omega) | (simp only [i64] at hh ⊢; omega)) (by have hh := n61; first | omega | (simp only [i64] at hh; omega) | (simp only [i64] at hh ⊢; omega)) rfl ?_)
        refine P_nil ?_
        refine kC_normal ?_
        refine k_seq ?_
        refine k_reg .free hmixP (by kernel_rfl) ?_
        refine G_q rfl (op_move (av := .exact v59) rfl ?_)
        refine G_q rfl (op_move (av := .exact (.int .i64 x8_j3)) rfl ?_)
        refine G_q rfl (op_move (av := .exact (.int .i64 a1)) rfl ?_)
        refine G_q rfl (op_move (av := .exact (.int .i64 a2)) rfl ?_)
        refine G_q rfl (op_bld (c' := c_api_Need (a1, a2)) (CellsAll.cons rfl CellsOf.int (CellsAll.cons rfl CellsOf.int CellsAll.nil)) rfl (LEs.cons (AV.le_eq rfl) (LEs.cons (AV.le_eq rfl) LEs.nil)) ?_)
        obtain ⟨n62, h⟩ := need_some h
        refine G_r rfl (op_index_vec (by kernel_rfl) rfl rfl n62.1 n62.2 ?_)
        refine G_l rfl (op_store_vec (i := x8_j3) (o := 0) (z := (a1, a2)) (c' := [.exact (.int .i64 ((a1, a2).1)), .exact (.int .i64 ((a1, a2).2))]) (by kernel_rfl) len_c_api_Need rfl n62.1 n62.2 rfl CellsOf.agg (LEs.cons (AV.le_eq rfl) (LEs.cons (AV.le_eq rfl) LEs.nil)) (oc_c_api_Need _) (by kernel_rfl) (Nat.le_of_ble_eq_true rfl) rfl ?_)
        refine G_nil ?_
        refine kC_normal ?_
        refine k_seq ?_
        refine k_reg .free hmixP (by kernel_rfl) ?_
        refine G_q rfl (op_move (av := .exact v59) rfl ?_)
        refine G_q rfl (op_assign (av := .exact v59) rfl ?_)
        refine G_nil ?_
        refine kC_normal ?_
        refine k_ret ?_
        obtain rfl := Option.some.inj h
        refine kP_any (endN (af' := (AF.put AF0 (some 6) (.row 2 c_api_Need (List.set (List.take (Int.toNat (i64 (x8_j3 + 1))) (a0 ++ [(0, 0)]) ++ List.take (Nat.min (Int.toNat (List.length (a0 ++ [(0, 0)]) : Int) - Int.toNat x8_j3) (Int.toNat (List.length (a0 ++ [(0, 0)]) : Int) - Int.toNat (i64 (x8_j3 + 1)))) (List.drop (Int.toNat x8_j3) (a0 ++ [(0, 0)])) ++ List.drop (Int.toNat (i64 (x8_j3 + 1)) + (Nat.min (Int.toNat (List.length (a0 ++ [(0, 0)]) : Int) - Int.toNat x8_j3) (Int.toNat (List.length (a0 ++ [(0, 0)]) : Int) - Int.toNat (i64 (x8_j3 + 1))))) (a0 ++ [(0, 0)])) (Int.toNat x8_j3) (a1, a2))))) (σ' := []) _ rfl ?_ ⟨rfl, rfl⟩)
        refine Sub.trans (SubU.to (SubU.freezeT (s := 6) rfl len_c_api_Need)) ?_
        exact Sub.of_le (AF.le_put (AV.le_eq rfl) (AF.le_top _))
set_option maxHeartbeats 4000000 in
theorem m_ref6_Needs_ok (a0 : List (Int × Int × Int)) (a1 : Int) (r : (List (Int × Int)) × Bool) (h : m_ref6_Needs a0 a1 = some r) : Pure Tryd.prog 27 [(.row 3 c_api_TypeNode a0), (.exact (.int .i64 a1))] (.tup [.row 2 c_api_Need r.1, .exact (.bool r.2)]) := by
  unfold m_ref6_Needs at h
  refine Pure.ofFun (fun_of_awp Tryd.func27 rfl Tryd.ntmps27 (by simp) rfl (res2 rfl) fun E hE => k_end ?_)
  refine k_seq ?_
  refine k_reg .free hmixP (by kernel_rfl) ?_
  refine G_q rfl (op_assign (av := .exact (.slice none 0 0)) rfl ?_)
  refine G_q rfl (op_assign (av := .exact (.bool false)) rfl ?_)
  refine G_nil ?_
  refine kC_normal ?_
  refine k_seq ?_
  refine k_join1_0 h (fun (x19_j5 : Bool) => (AF.put (AF.put (AF.put AF0 (some 0) (.row 3 c_api_TypeNode a0)) (some 1) (.exact (.int .i64 a1))) (some 19) (.exact (.bool x19_j5)))) (fun (x19_j5 : Bool) => []) (fun k5 h => ?_) (fun x19_j5 h => ?_)
  · refine k_reg .free hmixP (by kernel_rfl) ?_
    refine G_q rfl (op_move (av := .row 3 c_api_TypeNode a0) rfl ?_)
    obtain ⟨y7, hy7, h⟩ := bnd1_some h
    refine G_q rfl (op_pure (m_ref6_ValidType_ok _ _ hy7) Tryd.func30 (by kernel_rfl) (LEs.cons (AV.le_eq rfl) LEs.nil) ?_)
    refine G_q rfl (op_not rfl ?_)
    refine G_q rfl (op_move (av := .exact (.bool (!y7))) rfl ?_)
    refine G_splitB (c := !y7) 12 rfl (fun hc => ?_) (fun hc => ?_)
    · replace h := ite_t h hc
      refine G_n rfl rfl ?_
      refine G_n rfl rfl ?_
      refine G_q rfl (op_pick_t rfl (av := .exact (.bool true)) rfl ?_)
      refine G_q rfl (op_move (av := .exact (.bool true)) rfl ?_)
      refine G_n rfl rfl ?_
      refine G_n rfl rfl ?_
      refine G_q rfl (op_pick_t rfl (av := .exact (.bool true)) rfl ?_)
      refine G_nil ?_
      refine kI_normal ⟨_, h, ?_⟩
      exact Sub.of_le (AF.le_put (AV.le_eq rfl) (AF.le_put (AV.le_eq rfl) (AF.le_put (AV.le_eq rfl) (AF.le_top _))))
    · replace h := ite_f h hc
      refine Gy_q rfl rfl rfl (op_move (av := .exact (.int .i64 a1)) rfl ?_)
      refine Gy_q rfl rfl rfl (op_lss rfl rfl ?_)
      refine G_q rfl (op_pick_f rfl (av := .exact (.bool (decide (a1 < 0)))) rfl ?_)
      refine G_q rfl (op_move (av := .exact (.bool (decide (a1 < 0)))) rfl ?_)
      refine G_split (p := a1 < 0) 16 rfl (fun hc => ?_) (fun hc => ?_)
      · replace h := ite_t h hc
        refine G_n rfl rfl ?_
        refine G_n rfl rfl ?_
        refine G_q rfl (op_pick_t rfl (av := .exact (.bool true)) rfl ?_)
        refine G_nil ?_
        refine kI_normal ⟨_, h, ?_⟩
        exact Sub.of_le (AF.le_put (AV.le_eq rfl) (AF.le_put (AV.le_eq rfl) (AF.le_put (AV.le_eq rfl) (AF.le_top _))))
      · replace h := ite_f h hc
        refine Gy_q rfl rfl rfl (op_move (av := .exact (.int .i64 a1)) rfl ?_)
        refine Gy_q rfl rfl rfl (op_gtr rfl rfl ?_)
        refine G_q rfl (op_pick_f rfl (av := .exact (.bool (decide (7 < a1)))) rfl ?_)
        refine G_nil ?_
        refine kI_normal ⟨_, h, ?_⟩
        exact Sub.of_le (AF.le_put (AV.le_eq rfl) (AF.le_put (AV.le_eq rfl) (AF.le_put (AV.le_eq rfl) (AF.le_top _))))
  · refine k_cond_b (c := x19_j5) rfl (fun hc => ?_) (fun hc => ?_)
    · replace h := ite_t h hc
      refine k_seq ?_
      refine k_reg .free hmixP (by kernel_rfl) ?_
      refine G_q rfl (op_assign (av := .exact (.slice none 0 0)) rfl ?_)
      refine G_q rfl (op_assign (av := .exact (.bool false)) rfl ?_)
      refine G_nil ?_
      refine kC_normal ?_
      refine k_ret ?_
      refine kC_ret ?_
      obtain rfl := Option.some.inj h
      refine kP_any (endN (af' := (AF.put (AF.put AF0 (some 4) (.row 2 c_api_Need [])) (some 5) (.exact (.bool false)))) (σ' := []) _ rfl ?_ ⟨rfl, rfl⟩)
      exact Sub.of_le (AF.le_put (AV.le_eq rfl) (AF.le_put (row_nil (by decide)) (AF.le_top _)))
    · replace h := ite_f h hc
      refine k_skip ?_
      refine kC_normal ?_
      refine k_seq ?_
      refine k_reg .free hmixP (by kernel_rfl) ?_
      refine G_q rfl (op_assign (av := .exact (.slice none 0 0)) rfl ?_)
      refine G_nil ?_
      refine kC_normal ?_
      refine k_join1_0 h (fun (x6_j8 : List (Int × Int)) => (AF.put AF0 (some 6) (.row 2 c_api_Need x6_j8))) (fun (x6_j8 : List (Int × Int)) => []) (fun k8 h => ?_) (fun x6_j8 h => ?_)
      · refine k_seq ?_
        refine k_reg .free hmixP (by kernel_rfl) ?_
        refine G_q rfl (op_assign (av := .exact (.int .i64 0)) rfl ?_)
        refine G_nil ?_
        refine kC_normal ?_
        refine k_block ?_
        refine k_loop2_0 (m_ref6_Needs_L14 a0 a1 k8) (m_ref6_Needs_B14 a0 a1 k8) (fun _ _ => rfl) (fun m _ _ => rfl) h (fun (x6_l14 : List (Int × Int)) (x7_l14 : Int) => (AF.put (AF.put (AF.put (AF.put AF0 (some 0) (.row 3 c_api_TypeNode a0)) (some 1) (.exact (.int .i64 a1))) (some 6) (.row 2 c_api_Need x6_l14)) (some 7) (.exact (.int .i64 x7_l14)))) (fun (x6_l14 : List (Int × Int)) (x7_l14 : Int) => []) ?_ (fun rec14 x6_l14 x7_l14 h => ?_)
        · exact Sub.of_le (AF.le_put (AV.le_eq rfl) (AF.le_put (row_nil (by decide)) (AF.le_put (AV.le_eq rfl) (AF.le_put (AV.le_eq rfl) (AF.le_top _)))))
        · unfold m_ref6_Needs_B14 at h
          refine k_seq ?_
          refine k_seq ?_
          refine k_reg .free hmixP (by kernel_rfl) ?_
          refine G_q rfl (op_move (av := .exact (.int .i64 x7_l14)) rfl ?_)
          refine G_q rfl (op_move (av := .row 3 c_api_TypeNode a0) rfl ?_)
          refine G_q rfl (op_len_row (by kernel_rfl) rfl ?_)
          refine G_q rfl (op_lss rfl rfl ?_)
          refine G_nil ?_
          refine kC_normal ?_
          refine k_cond_d (p := x7_l14 < (List.length a0 : Int)) rfl (fun hc => ?_) (fun hc => ?_)
          · replace h := ite_t h hc
            refine k_skip ?_
            refine kC_normal ?_
            refine k_join1_0 h (fun (x6_j755 : List (Int × Int)) => (AF.put (AF.put (AF.put (AF.put AF0 (some 0) (.row 3 c_api_TypeNode a0)) (some 1) (.exact (.int .i64 a1))) (some 6) (.row 2 c_api_Need x6_j755)) (some 7) (.exact (.int .i64 x7_l14)))) (fun (x6_j755 : List (Int × Int)) => []) (fun k755 h => ?_) (fun x6_j755 h => ?_)
            · refine k_block ?_
              refine k_join0_0 h ((AF.put (AF.put (AF.put (AF.put AF0 (some 0) (.row 3 c_api_TypeNode a0)) (some 1) (.exact (.int .i64 a1))) (some 6) (.row 2 c_api_Need x6_l14)) (some 7) (.exact (.int .i64 x7_l14)))) ([]) (fun k830 h => ?_) (fun  h => ?_)
              · refine k_seq ?_
                refine k_reg .free hmixP (by kernel_rfl) ?_
                refine G_q rfl (op_assign (av := .exact (.int .i64 1)) rfl ?_)
                refine G_nil ?_
                refine kC_normal ?_
                refine k_block ?_
                refine k_loop1_0 (m_ref6_Needs_L26 a0 a1 x7_l14 k830) (m_ref6_Needs_B26 a0 a1 x7_l14 k830) (fun _ => rfl) (fun m _ => rfl) h (fun (x8_l26 : Int) => (AF.put (AF.put (AF.put (AF.put (AF.put AF0 (some 0) (.row 3 c_api_TypeNode a0)) (some 1) (.exact (.int .i64 a1))) (some 6) (.row 2 c_api_Need x6_l14)) (some 7) (.exact (.int .i64 x7_l14))) (some 8) (.exact (.int .i64 x8_l26)))) (fun (x8_l26 : Int) => []) ?_ (fun rec26 x8_l26 h => ?_)
                · exact Sub.of_le (AF.le_put (AV.le_eq rfl) (AF.le_put (AV.le_eq rfl) (AF.le_put (AV.le_eq rfl) (AF.le_put (AV.le_eq rfl) (AF.le_put (AV.le_eq rfl) (AF.le_top _))))))
                · unfold m_ref6_Needs_B26 at h
                  refine k_seq ?_
                  refine k_seq ?_
                  refine k_reg .free hmixP (by kernel_rfl) ?_
                  refine G_q rfl (op_move (av := .exact (.int .i64 x8_l26)) rfl ?_)
                  refine G_q rfl (op_leq rfl rfl ?_)
                  refine G_nil ?_
                  refine kC_normal ?_
                  refine k_cond_d (p := x8_l26 ≤ 4) rfl (fun hc => ?_) (fun hc => ?_)
                  · replace h := ite_t h hc
                    refine k_skip ?_
                    refine kC_normal ?_
                    refine k_seq ?_
                    refine k_block ?_
                    refine k_join1_0 h (fun (x43_j893 : Bool) => (AF.put (AF.put (AF.put (AF.put (AF.put (AF.put AF0 (some 0) (.row 3 c_api_TypeNode a0)) (some 1) (.exact (.int .i64 a1))) (some 6) (.row 2 c_api_Need x6_l14)) (some 7) (.exact (.int .i64 x7_l14))) (some 8) (.exact (.int .i64 x8_l26))) (some 43) (.exact (.bool x43_j893)))) (fun (x43_j893 : Bool) => []) (fun k893 h => ?_) (fun x43_j893 h => ?_)
                    · refine k_reg .free hmixP (by kernel_rfl) ?_
                      refine G_q rfl (op_move (av := .exact (.int .i64 a1)) rfl ?_)
                      refine G_q rfl (op_move (av := .exact (.int .i64 x8_l26)) rfl ?_)
                      refine G_q rfl (op_and rfl rfl rfl ?_)
                      refine G_q rfl (op_neq rfl rfl ?_)
                      refine G_q rfl (op_move (av := .exact (.bool (decide (¬ (bAnd .i64 a1 x8_l26) = 0)))) rfl ?_)
                      refine G_split (p := ¬ (bAnd .i64 a1 x8_l26) = 0) 34 rfl (fun hc => ?_) (fun hc => ?_)
                      · replace h := ite_t h hc
                        refine Gy_q rfl rfl rfl (op_move (av := .row 3 c_api_TypeNode a0) rfl ?_)
                        refine Gy_q rfl rfl rfl (op_move (av := .exact (.int .i64 x7_l14)) rfl ?_)
                        obtain ⟨n896, h⟩ := need_some h
                        refine Gy_q rfl rfl rfl (op_index_row (by kernel_rfl) rfl rfl n896.1 n896.2 ?_)
                        refine Gy_q rfl rfl rfl (op_fieldAddr_ptr (o := 0) (c' := (List.drop 0 (c_api_TypeNode (gi a0 x7_l14)))) (by kernel_rfl) rfl rfl ?_)
                        refine Gy_q rfl rfl rfl (op_load1p (a := .exact (.int .i64 ((gi a0 x7_l14).1))) (by kernel_rfl) rfl rfl ?_)
                        refine Gy_q rfl rfl rfl (op_move (av := .exact (.int .i64 x8_l26)) rfl ?_)
                        obtain ⟨y897, hy897, h⟩ := bnd1_some h
                        refine Gy_q rfl rfl rfl (op_pure (m_ref6_class_ok _ _ _ hy897) Tryd.func61 (by kernel_rfl) (LEs.cons (AV.le_eq rfl) (LEs.cons (AV.le_eq rfl) LEs.nil)) ?_)
                        refine Gy_q rfl rfl rfl (op_not rfl ?_)
                        refine G_q rfl (op_pick_t rfl (av := .exact (.bool (!y897))) rfl ?_)
                        refine G_nil ?_
                        refine kI_normal ⟨_, h, ?_⟩
                        exact Sub.of_le (AF.le_put (AV.le_eq rfl) (AF.le_put (AV.le_eq rfl) (AF.le_put (AV.le_eq rfl) (AF.le_put (AV.le_eq rfl) (AF.le_put (AV.le_eq rfl) (AF.le_put (AV.le_eq rfl) (AF.le_top _)))))))
                      · replace h := ite_f h hc
                        refine G_n rfl rfl ?_
                        refine G_n rfl rfl ?_
                        refine G_n rfl rfl ?_
                        refine G_n rfl rfl ?_
                        refine G_n rfl rfl ?_
                        refine G_n rfl rfl ?_
                        refine G_n rfl rfl ?_
                        refine G_n rfl rfl ?_
                        refine G_q rfl (op_pick_f rfl (av := .exact (.bool false)) rfl ?_)
                        refine G_nil ?_
                        refine kI_normal ⟨_, h, ?_⟩
                        exact Sub.of_le (AF.le_put (AV.le_eq rfl) (AF.le_put (AV.le_eq rfl) (AF.le_put (AV.le_eq rfl) (AF.le_put (AV.le_eq rfl) (AF.le_put (AV.le_eq rfl) (AF.le_put (AV.le_eq rfl) (AF.le_top _)))))))
                    · refine k_cond_b (c := x43_j893) rfl (fun hc => ?_) (fun hc => ?_)
                      · replace h := ite_t h hc
                        refine k_seq ?_
                        refine k_reg .free hmixP (by kernel_rfl) ?_
                        refine G_q rfl (op_assign (av := .exact (.slice none 0 0)) rfl ?_)
                        refine G_q rfl (op_assign (av := .exact (.bool false)) rfl ?_)
                        refine G_nil ?_
                        refine kC_normal ?_
                        refine k_ret ?_
                        refine kB_ret ?_
                        refine kC_ret ?_
                        refine kI_ret ?_
                        refine kB_ret ?_
                        refine kI_ret ?_
                        refine kB_ret ?_
                        refine kI_ret ?_
                        refine kI_ret ?_
                        refine kB_ret ?_
                        refine kI_ret ?_
                        obtain rfl := Option.some.inj h
                        refine kP_any (endN (af' := (AF.put (AF.put AF0 (some 4) (.row 2 c_api_Need [])) (some 5) (.exact (.bool false)))) (σ' := []) _ rfl ?_ ⟨rfl, rfl⟩)
                        exact Sub.of_le (AF.le_put (AV.le_eq rfl) (AF.le_put (row_nil (by decide)) (AF.le_top _)))
                      · replace h := ite_f h hc
                        refine k_skip ?_
                        refine kB_normal ?_
                        refine kC_normal ?_
                        refine k_reg .free hmixP (by kernel_rfl) ?_
                        refine G_q rfl (op_move (av := .exact (.int .i64 x8_l26)) rfl ?_)
                        refine G_q rfl (op_mul rfl rfl rfl ?_)
                        refine G_q rfl (op_assign (av := .exact (.int .i64 (i64 (x8_l26 * 2)))) rfl ?_)
                        refine G_nil ?_
                        refine kI_normal ⟨_, h, ?_⟩
                        exact Sub.of_le (AF.le_put (AV.le_eq rfl) (AF.le_put (AV.le_eq rfl) (AF.le_put (AV.le_eq rfl) (AF.le_put (AV.le_eq rfl) (AF.le_put (AV.le_eq rfl) (AF.le_top _))))))
                  · replace h := ite_f h hc
                    refine k_exit ?_
                    refine kC_exit ?_
                    refine kI_exit ?_
                    refine kB_exit ?_
                    refine kI_normal ⟨h, ?_⟩
                    exact Sub.of_le (AF.le_put (AV.le_eq rfl) (AF.le_put (AV.le_eq rfl) (AF.le_put (AV.le_eq rfl) (AF.le_put (AV.le_eq rfl) (AF.le_top _)))))
              · refine k_join1_0 h (fun (x53_j898 : Bool) => (AF.put (AF.put (AF.put (AF.put (AF.put AF0 (some 0) (.row 3 c_api_TypeNode a0)) (some 1) (.exact (.int .i64 a1))) (some 6) (.row 2 c_api_Need x6_l14)) (some 7) (.exact (.int .i64 x7_l14))) (some 53) (.exact (.bool x53_j898)))) (fun (x53_j898 : Bool) => []) (fun k898 h => ?_) (fun x53_j898 h => ?_)
                · refine k_reg .free hmixP (by kernel_rfl) ?_
                  refine G_q rfl (op_move (av := .row 3 c_api_TypeNode a0) rfl ?_)
                  refine G_q rfl (op_move (av := .exact (.int .i64 x7_l14)) rfl ?_)
                  obtain ⟨n900, h⟩ := need_some h
                  refine G_q rfl (op_index_row (by kernel_rfl) rfl rfl n900.1 n900.2 ?_)
                  refine G_q rfl (op_fieldAddr_ptr (o := 0) (c' := (List.drop 0 (c_api_TypeNode (gi a0 x7_l14)))) (by kernel_rfl) rfl rfl ?_)
                  refine G_q rfl (op_load1p (a := .exact (.int .i64 ((gi a0 x7_l14).1))) (by kernel_rfl) rfl rfl ?_)
                  refine G_q rfl (op_eql rfl rfl ?_)
                  refine G_q rfl (op_move (av := .exact (.bool (decide (((gi a0 x7_l14).1) = 1)))) rfl ?_)
                  refine G_split (p := ((gi a0 x7_l14).1) = 1) 50 rfl (fun hc => ?_) (fun hc => ?_)
                  · replace h := ite_t h hc
                    refine Gy_q rfl rfl rfl (op_move (av := .exact (.int .i64 a1)) rfl ?_)
                    refine Gy_q rfl rfl rfl (op_gtr rfl rfl ?_)
                    refine G_q rfl (op_pick_t rfl (av := .exact (.bool (decide (0 < a1)))) rfl ?_)
                    refine G_nil ?_
                    refine kI_normal ⟨_, h, ?_⟩
                    exact Sub.of_le (AF.le_put (AV.le_eq rfl) (AF.le_put (AV.le_eq rfl) (AF.le_put (AV.le_eq rfl) (AF.le_put (AV.le_eq rfl) (AF.le_put (AV.le_eq rfl) (AF.le_top _))))))
                  · replace h := ite_f h hc
                    refine G_n rfl rfl ?_
                    refine G_n rfl rfl ?_
                    refine G_q rfl (op_pick_f rfl (av := .exact (.bool false)) rfl ?_)
                    refine G_nil ?_
                    refine kI_normal ⟨_, h, ?_⟩
                    exact Sub.of_le (AF.le_put (AV.le_eq rfl) (AF.le_put (AV.le_eq rfl) (AF.le_put (AV.le_eq rfl) (AF.le_put (AV.le_eq rfl) (AF.le_put (AV.le_eq rfl) (AF.le_top _))))))
                · refine k_cond_b (c := x53_j898) rfl (fun hc => ?_) (fun hc => ?_)
                  · replace h := ite_t h hc
                    refine k_reg .free hmixP (by kernel_rfl) ?_
                    refine G_q rfl (op_move (av := .row 2 c_api_Need x6_l14) rfl ?_)
                    refine G_q rfl (op_move (av := .row 3 c_api_TypeNode a0) rfl ?_)
                    refine G_q rfl (op_move (av := .exact (.int .i64 x7_l14)) rfl ?_)
                    obtain ⟨n901, h⟩ := need_some h
                    refine G_q rfl (op_index_row (by kernel_rfl) rfl rfl n901.1 n901.2 ?_)
                    refine G_q rfl (op_fieldAddr_ptr (o := 1) (c' := (List.drop 1 (c_api_TypeNode (gi a0 x7_l14)))) (by kernel_rfl) rfl rfl ?_)
                    refine G_q rfl (op_load1p (a := .exact (.int .i64 ((gi a0 x7_l14).2.1))) (by kernel_rfl) rfl rfl ?_)
                    refine G_q rfl (op_move (av := .exact (.int .i64 a1)) rfl ?_)
                    obtain ⟨y902, hy902, h⟩ := bnd1_some h
                    refine G_q rfl (op_pure (m_ref6_Need_ok _ _ _ _ hy902) Tryd.func62 (by kernel_rfl) (LEs.cons (AV.le_eq rfl) (LEs.cons (AV.le_eq rfl) (LEs.cons (AV.le_eq rfl) LEs.nil))) ?_)
                    refine G_q rfl (op_assign (av := .row 2 c_api_Need y902) rfl ?_)
                    refine G_nil ?_
                    refine kB_normal ?_
                    refine kI_normal ⟨_, h, ?_⟩
                    exact Sub.of_le (AF.le_put (AV.le_eq rfl) (AF.le_put (AV.le_eq rfl) (AF.le_put (AV.le_eq rfl) (AF.le_put (AV.le_eq rfl) (AF.le_top _)))))
                  · replace h := ite_f h hc
                    refine k_skip ?_
                    refine kB_normal ?_
                    refine kI_normal ⟨_, h, ?_⟩
                    exact Sub.of_le (AF.le_put (AV.le_eq rfl) (AF.le_put (AV.le_eq rfl) (AF.le_put (AV.le_eq rfl) (AF.le_put (AV.le_eq rfl) (AF.le_top _)))))
            · refine k_reg .free hmixP (by kernel_rfl) ?_
              refine G_q rfl (op_move (av := .exact (.int .i64 x7_l14)) rfl ?_)
              refine G_q rfl (op_add rfl rfl rfl ?_)
              refine G_q rfl (op_assign (av := .exact (.int .i64 (i64 (x7_l14 + 1)))) rfl ?_)
              refine G_nil ?_
              refine kI_normal ⟨_, _, h, ?_⟩
              exact Sub.of_le (AF.le_put (AV.le_eq rfl) (AF.le_put (AV.le_eq rfl) (AF.le_put (AV.le_eq rfl) (AF.le_put (AV.le_eq rfl) (AF.le_top _)))))
          · replace h := ite_f h hc
            refine k_exit ?_
            refine kC_exit ?_
            refine kI_exit ?_
            refine kB_exit ?_
            refine kI_normal ⟨_, h, ?_⟩
            exact Sub.of_le (AF.le_put (AV.le_eq rfl) (AF.le_top _))
      · refine k_seq ?_
        refine k_reg .free hmixP (by kernel_rfl) ?_
        refine G_q rfl (op_move (av := .row 2 c_api_Need x6_j8) rfl ?_)
        refine G_q rfl (op_assign (av := .row 2 c_api_Need x6_j8) rfl ?_)
        refine G_q rfl (op_assign (av := .exact (.bool true)) rfl ?_)
        refine G_nil ?_
        refine kC_normal ?_
        refine k_ret ?_
        obtain rfl := Option.some.inj h
        refine kP_any (endN (af' := (AF.put (AF.put AF0 (some 4) (.row 2 c_api_Need x6_j8)) (some 5) (.exact (.bool true)))) (σ' := []) _ rfl ?_ ⟨rfl, rfl⟩)
        exact Sub.of_le (AF.le_put (AV.le_eq rfl) (AF.le_put (AV.le_eq rfl) (AF.le_top _)))
set_option maxHeartbeats 4000000 in
theorem m_terms_Term_Find_ok {bs : List Nat} (a0 : Int) (a1 : List (Int × Int × (List Int) × Int)) (r : Int × (List (Int × Int × (List Int) × Int))) (h : m_terms_Term_Find a0 a1 = some r) : Fun Tryd.prog 73 [(refA bs a0)] [hpI 72 (c_terms_Term bs) bs a1] (fun a s => a = refA bs r.1 ∧ s = [hpI 72 (c_terms_Term bs) bs r.2]) := by
  unfold m_terms_Term_Find at h
  refine fun_nd (List.Mem.head _) (fun hnd => ?_)
  refine fun_of_awp Tryd.func73 rfl Tryd.ntmps73 (by simp) rfl (res1 rfl) fun E hE => k_end ?_
  refine k_seq ?_
  refine k_reg .free hmixP (by kernel_rfl) ?_
  refine G_q rfl (op_assign (av := .exact (.pointer none)) rfl ?_)
  refine G_nil ?_
  refine kC_normal ?_
  refine k_join1_0 h (fun (x0_j1 : Int) => (AF.put AF0 (some 0) (refA bs x0_j1))) (fun (x0_j1 : Int) => [hpI 72 (c_terms_Term bs) bs a1]) (fun k1 h => ?_) (fun x0_j1 h => ?_)
  · refine k_block ?_
    refine k_loop1_0 (m_terms_Term_Find_L2 a1 k1) (m_terms_Term_Find_B2 a1 k1) (fun _ => rfl) (fun m _ => rfl) h (fun (x0_l2 : Int) => (AF.put AF0 (some 0) (refA bs x0_l2))) (fun (x0_l2 : Int) => [hpI 72 (c_terms_Term bs) bs a1]) ?_ (fun rec2 x0_l2 h => ?_)
    · exact Sub.of_le (AF.le_put (AV.le_eq rfl) (AF.le_top _))
    · unfold m_terms_Term_Find_B2 at h
      refine k_seq ?_
      refine k_seq ?_
      refine k_reg .free hmixP (by kernel_rfl) ?_
      refine G_q rfl (op_move (av := refA bs x0_l2) rfl ?_)
      obtain ⟨n13, h⟩ := need_some h
      refine G_q rfl (op_nilC_ref rfl n13 ?_)
      refine G_q rfl (op_field_hpt (o := 3) (by kernel_rfl) rfl ?_)
      refine G_r rfl (op_load_hptH (i := x0_l2) (o := 3) (a := refA bs ((gi a1 x0_l2).2.2.2)) (by kernel_rfl) rfl rfl ?_)
      refine G_q rfl (op_neqnil_ref (t := 72) (by kernel_rfl) (by kernel_rfl) rfl rfl ?_)
      refine G_nil ?_
      refine kC_normal ?_
      refine k_cond_d (p := ¬ ((gi a1 x0_l2).2.2.2) = -1) rfl (fun hc => ?_) (fun hc => ?_)
      · replace h := ite_t h hc
        refine k_skip ?_
        refine kC_normal ?_
        refine k_block ?_
        refine k_reg .free hmixP (by kernel_rfl) ?_
        refine G_q rfl (op_move (av := refA bs x0_l2) rfl ?_)
        obtain ⟨n14, h⟩ := need_some h
        refine G_q rfl (op_nilC_ref rfl n14 ?_)
        refine G_q rfl (op_field_hpt (o := 3) (by kernel_rfl) rfl ?_)
        refine G_r rfl (op_load_hptH (i := x0_l2) (o := 3) (a := refA bs ((gi a1 x0_l2).2.2.2)) (by kernel_rfl) rfl rfl ?_)
        refine G_q rfl (op_assign (av := refA bs ((gi a1 x0_l2).2.2.2)) rfl ?_)
        refine G_nil ?_
        refine kB_normal ?_
        refine kI_normal ⟨_, h, ?_⟩
        exact Sub.of_le (AF.le_put (AV.le_eq rfl) (AF.le_top _))
      · replace h := ite_f h hc
        refine k_exit ?_
        refine kC_exit ?_
        refine kI_exit ?_
        refine kB_exit ?_
        refine kI_normal ⟨_, h, ?_⟩
        exact Sub.of_le (AF.le_put (AV.le_eq rfl) (AF.le_top _))
  · refine k_seq ?_
    refine k_reg .free hmixP (by kernel_rfl) ?_
    refine G_q rfl (op_move (av := refA bs x0_j1) rfl ?_)
    refine G_q rfl (op_assign (av := refA bs x0_j1) rfl ?_)
    refine G_nil ?_
    refine kC_normal ?_
    refine k_ret ?_
    obtain rfl := Option.some.inj h
    refine kP_any (endN (af' := (AF.put AF0 (some 2) (refA bs x0_j1))) (σ' := [hpI 72 (c_terms_Term bs) bs a1]) _ rfl ?_ ⟨rfl, rfl⟩)
    exact Sub.of_le (AF.le_put (AV.le_eq rfl) (AF.le_top _))
end Go.Proofs.YtdfdjgolijckfaaDoor

/- The walk of occurs: a closure that changes what is in use. -/
namespace Go.Proofs.YtdfdjgolijckfaaDoor
open Go.RowKit Go.Maps

section
variable {P : Program} {af : AF} {σ : Items} {d : Option Tmp} {ty : TypeId} {pos : String} {after : Array Edge} {g : Option (Nat × Bool)}
/-- Function k with captured values. -/
def AV.clo (k : FuncId) (avs : List AV) : AV := ⟨fun M w v => ∃ caps : List Value, v = .func (.func k) #[] caps.toArray ∧ Fit M w avs caps, fun hk hm ⟨caps, h1, h2⟩ => ⟨caps, h1, h2.keep hk hm⟩⟩
theorem op_makeClo {k : FuncId} {cs : List Operand} {avs : List AV} {K : AF → Prop} (hx : LEs (cs.map af.ev) avs) (hk : K (af.put d (.clo k avs))) : opA P ⟨d, .makeFunc (.func k) #[] cs.toArray, ty, pos, after, g⟩ af K := by
  refine ⟨_, fun M w ev hM hh => ?_, hk⟩
  have hfit : Fit M w avs (cs.map ev) := fit_opnds (fun x hm => hh x (by simp [Op.operands, hm])) hx
  simp [execOp, Instr.makeFunc, go_sem, UponQ]
  exact ⟨Keeps.refl _ _, cs.map ev, by simp, hfit⟩
theorem op_callClo {k : FuncId} {fn : Func} {args avs : List AV} {post : AV → Items → Prop} {z : Operand} {xs : List Operand} {ats : Array TypeId} {K : AF → Items → Prop} (hp : Fun P k (args ++ avs) σ post) (hf : P.funcs[k]? = some fn) (hb : (fn.body.isNone || fn.name == "runtime.NumGoroutine") = false)
    (hz : af.ev z = .clo k avs) (hx : LEs (xs.map af.ev) args) (hk : ∀ av σ', post av σ' → K (af.put d av) σ') : opB P ⟨d, .call { callee := .value z, args := xs.toArray, argTypes := ats }, ty, pos, after, g⟩ af σ K := by
  refine ⟨post, fun F w ev hg h => ?_, hk⟩
  obtain ⟨caps, e1, e2⟩ := opnd_p h (x := z) (by simp [Op.operands, Call.operands]) hz
  have hfit : Fit (both F (Items.own σ)) w args (xs.map ev) := fit_opnds (fun x hm => h x (by simp [Op.operands, Call.operands, hm])) hx
  simp only [Bool.or_eq_false_iff] at hb
  have hrun : (execOp ev ⟨d, .call { callee := .value z, args := xs.toArray, argTypes := ats }, ty, pos, after, g⟩).run P w = .ok (.enter k (xs.map ev ++ caps).toArray) w := by
    simp [execOp, resolve, e1, Deferred.ofValue, invoke, run_callFunc hf hb.1 hb.2, go_sem]
  rw [hrun]
  exact hp F w _ hg (hfit.app e2)
end
attribute [local irreducible] AV.exact AV.top AV.row AV.ptr AV.agg AV.tup AV.eptr AV.fn AV.clo AV.nilq AV.nilqn opA opB opM opR Quiet Loud Reads wpG awp den Sub SubU Pure Fun vecI vecT boxI CellsAll CellsOf OneC LEs LEss
set_option maxRecDepth 100000
abbrev HNs := List (Int × Int × (List Int) × Int)
abbrev occM (w : Nat) (bs : List Nat) (s : List (Int × Bool)) : Item := mapI (refOk bs) (refV bs) (fun x : Bool => .exact (.bool x)) w s
abbrev occH (bs : List Nat) (H : HNs) : Item := hpI 72 (c_terms_Term bs) bs H
/-- What is known of occurs. -/
def OccOk (self : Int → Int → List (Int × Bool) → HNs → Option (Bool × List (Int × Bool) × HNs)) : Prop := ∀ (w : Nat) (bs : List Nat) (v t : Int) (s : List (Int × Bool)) (H : HNs) (res : Bool × List (Int × Bool) × HNs), self v t s H = some res →
  Fun Tryd.prog 74 [refA bs v, refA bs t, .exact (.map (some w))] [occM w bs s, occH bs H] (fun a σ => a = .exact (.bool res.1) ∧ σ = [occM w bs res.2.1, occH bs res.2.2])
abbrev occC (w : Nat) (bs : List Nat) (v : Int) : List AV := [.ptr [refA bs v], .ptr [.exact (.map (some w))]]
set_option maxHeartbeats 4000000 in
theorem occ1_ok {self : Int → Int → List (Int × Bool) → HNs → Option (Bool × List (Int × Bool) × HNs)} (hself : OccOk self) (w : Nat) (bs : List Nat) (v k : Int) (s : List (Int × Bool)) (H : HNs) (res : Bool × List (Int × Bool) × HNs) (h : self v k s H = some res) :
    Fun Tryd.prog 91 ([refA bs k] ++ occC w bs v) [occM w bs s, occH bs H] (fun a σ => a = .exact (.bool res.1) ∧ σ = [occM w bs res.2.1, occH bs res.2.2]) := by
  refine fun_of_awp Tryd.func91 rfl Tryd.ntmps91 (by simp) rfl (res1 rfl) fun E hE => k_end ?_
  refine k_seq ?_
  refine k_reg .free hmixP (by kernel_rfl) ?_
  refine G_q rfl (op_assign (av := .exact (.bool false)) rfl ?_)
  refine G_nil ?_
  refine kC_normal ?_
  refine k_seq ?_
  refine k_reg .free hmixP (by kernel_rfl) ?_
  refine G_q rfl (op_load1p (a := refA bs v) (by kernel_rfl) rfl rfl ?_)
  refine G_q rfl (op_move (av := refA bs k) rfl ?_)
  refine G_q rfl (op_load1p (a := .exact (.map (some w))) (by kernel_rfl) rfl rfl ?_)
  refine G_l rfl (op_fun_2_0_2 (hself w bs v k s H res h) Tryd.func74 (by kernel_rfl) (LEs.cons (AV.le_eq rfl) (LEs.cons (AV.le_eq rfl) (LEs.cons (AV.le_eq rfl) LEs.nil))) ?_)
  refine G_q rfl (op_assign (av := .exact (.bool res.1)) rfl ?_)
  refine G_nil ?_
  refine kC_normal ?_
  refine k_ret ?_
  refine kP_any (endN (af' := (AF.put AF0 (some 4) (.exact (.bool res.1)))) (σ' := [occM w bs res.2.1, occH bs res.2.2]) _ rfl ?_ ⟨rfl, rfl⟩)
  exact Sub.of_le (AF.le_put (AV.le_eq rfl) (AF.le_top _))
theorem drop_gi {kids : List Int} {j : Nat} (h : j < kids.length) : kids.drop j = gi kids (j : Int) :: kids.drop (j + 1) := by
  rw [List.drop_eq_getElem_cons h]
  congr 1
  have := gi_get (xs := kids) (i := (j : Int)) (by omega) (by omega)
  simp only [Int.toNat_natCast] at this
  rw [List.getElem?_eq_getElem h] at this
  exact Option.some.inj this
set_option maxHeartbeats 4000000 in
theorem occIx_ok {self : Int → Int → List (Int × Bool) → HNs → Option (Bool × List (Int × Bool) × HNs)} (hself : OccOk self) (w : Nat) (bs : List Nat) (v : Int) (kids : List Int) (hl : kids.length ≤ 137438953472) (s : List (Int × Bool)) (H : HNs) (res : Bool × List (Int × Bool) × HNs) (h : m_occK self v kids s H = some res) :
    Fun Tryd.prog 117 [.row 1 (c_P_terms_Term bs) kids, .clo 91 (occC w bs v)] [occM w bs s, occH bs H] (fun a σ => ∃ i : Int, decide (0 ≤ i) = res.1 ∧ a = .exact (.int .i64 i) ∧ σ = [occM w bs res.2.1, occH bs res.2.2]) := by
  refine fun_of_awp Tryd.func117 rfl Tryd.ntmps117 (by simp) rfl (res1 rfl) fun E hE => k_end ?_
  refine k_seq ?_
  refine k_reg .free hmixP (by kernel_rfl) ?_
  refine G_q rfl (op_assign (av := .exact (.int .i64 0)) rfl ?_)
  refine G_nil ?_
  refine kC_normal ?_
  refine k_seq ?_
  refine k_seq ?_
  refine k_reg .free hmixP (by kernel_rfl) ?_
  refine G_q rfl (op_move (av := .row 1 (c_P_terms_Term bs) kids) rfl ?_)
  refine G_q rfl (op_len_row (by kernel_rfl) rfl ?_)
  refine G_q rfl (op_move (av := .exact (.int .i64 0)) rfl ?_)
  refine G_nil ?_
  refine kC_normal ?_
  refine k_block ?_
  refine k_loop (α := Nat × List (Int × Bool) × HNs) (fun x => AF.put (AF.put (AF.put (AF.put AF0 (some 0) (.row 1 (c_P_terms_Term bs) kids)) (some 1) (.clo 91 (occC w bs v))) (some 7) (.exact (.int .i64 (kids.length : Int)))) (some 8) (.exact (.int .i64 (x.1 : Int)))) (fun x => [occM w bs x.2.1, occH bs x.2.2]) (fun x => m_occK self v (kids.drop x.1) x.2.1 x.2.2 = some res ∧ x.1 ≤ kids.length) (fun x => kids.length - x.1) (0, s, H) ⟨h, Nat.zero_le _⟩ ?_ (fun x hx => ?_)
  · exact Sub.of_le (AF.le_put (AV.le_eq rfl) (AF.le_put (AV.le_eq rfl) (AF.le_put (AV.le_eq rfl) (AF.le_put (AV.le_eq rfl) (AF.le_top _)))))
  obtain ⟨j, s', H'⟩ := x
  obtain ⟨hx, hj⟩ := hx
  dsimp only at hx hj ⊢
  refine k_seq ?_
  refine k_reg .free hmixP (by kernel_rfl) ?_
  refine G_q rfl (op_lss rfl rfl ?_)
  refine G_nil ?_
  refine kC_normal ?_
  refine k_seq ?_
  refine k_cond_d (p := (j : Int) < (kids.length : Int)) rfl (fun hc => ?_) (fun hc => ?_)
  · have hjl : j < kids.length := by omega
    rw [drop_gi hjl, m_occK] at hx
    obtain ⟨y, hy, hx⟩ := bnd1_some hx
    refine k_skip ?_
    refine kC_normal ?_
    refine k_seq ?_
    refine k_block ?_
    refine k_seq ?_
    refine k_reg .free hmixP (by kernel_rfl) ?_
    refine G_q rfl (op_move (av := .exact (.int .i64 (j : Int))) rfl ?_)
    refine G_q rfl (op_assign (av := .exact (.int .i64 (j : Int))) rfl ?_)
    refine G_nil ?_
    refine kC_normal ?_
    refine k_seq ?_
    refine k_reg .free hmixP (by kernel_rfl) ?_
    refine G_q rfl (op_move (av := .clo 91 (occC w bs v)) rfl ?_)
    refine G_q rfl (op_move (av := .row 1 (c_P_terms_Term bs) kids) rfl ?_)
    refine G_q rfl (op_move (av := .exact (.int .i64 (j : Int))) rfl ?_)
    refine G_q rfl (op_index_row (by kernel_rfl) rfl rfl (by omega) (by omega) ?_)
    refine G_q rfl (op_load1p (a := refA bs (gi kids (j : Int))) (by kernel_rfl) rfl rfl ?_)
    refine G_l rfl (op_callClo (occ1_ok hself w bs v (gi kids (j : Int)) s' H' y hy) Tryd.func91 (by kernel_rfl) rfl (LEs.cons (AV.le_eq rfl) LEs.nil) (fun av σ' hp => ?_))
    obtain ⟨rfl, rfl⟩ := hp
    refine G_nil ?_
    refine kC_normal ?_
    refine k_cond_b (c := y.1) rfl (fun hb => ?_) (fun hb => ?_)
    · rw [if_pos hb] at hx
      cases hx
      refine k_seq ?_
      refine k_reg .free hmixP (by kernel_rfl) ?_
      refine G_q rfl (op_move (av := .exact (.int .i64 (j : Int))) rfl ?_)
      refine G_q rfl (op_assign (av := .exact (.int .i64 (j : Int))) rfl ?_)
      refine G_nil ?_
      refine kC_normal ?_
      refine k_ret ?_
      refine kB_ret ?_
      refine kC_ret ?_
      refine kI_ret ?_
      refine kB_ret ?_
      refine kC_ret ?_
      refine kP_any (endN (af' := (AF.put AF0 (some 4) (.exact (.int .i64 (j : Int))))) (σ' := [occM w bs res.2.1, occH bs res.2.2]) _ rfl ?_ ⟨(j : Int), (by rw [hb]; simp), rfl, rfl⟩)
      exact Sub.of_le (AF.le_put (AV.le_eq rfl) (AF.le_top _))
    · rw [if_neg hb] at hx
      refine k_skip ?_
      refine kB_normal ?_
      refine kC_normal ?_
      refine k_reg .free hmixP (by kernel_rfl) ?_
      refine G_q rfl (op_add rfl rfl rfl ?_)
      refine G_q rfl (op_move (av := .exact (.int .i64 (i64 ((j : Int) + 1)))) rfl ?_)
      refine G_nil ?_
      have e1 : i64 ((j : Int) + 1) = ((j + 1 : Nat) : Int) := by rw [i64_id (by omega)]; omega
      refine kI_normal ⟨(j + 1, y.2.1, y.2.2), ⟨hx, hjl⟩, (by dsimp only; omega), ?_⟩
      dsimp only
      rw [e1]
      exact Sub.of_le (AF.le_put (AV.le_eq rfl) (AF.le_put (AV.le_eq rfl) (AF.le_put (AV.le_eq rfl) (AF.le_put (AV.le_eq rfl) (AF.le_top _)))))
  · have hjl : j = kids.length := by omega
    subst hjl
    rw [List.drop_length, m_occK] at hx
    cases hx
    refine k_exit ?_
    refine kC_exit ?_
    refine kI_exit ?_
    refine kB_exit ?_
    refine kC_normal ?_
    refine k_seq ?_
    refine k_reg .free hmixP (by kernel_rfl) ?_
    refine G_q rfl (op_assign (av := .exact (.int .i64 (-1))) rfl ?_)
    refine G_nil ?_
    refine kC_normal ?_
    refine k_ret ?_
    refine kP_any (endN (af' := (AF.put AF0 (some 4) (.exact (.int .i64 (-1))))) (σ' := [occM w bs s', occH bs H']) _ rfl ?_ ⟨(-1 : Int), rfl, rfl, rfl⟩)
    exact Sub.of_le (AF.le_put (AV.le_eq rfl) (AF.le_top _))
set_option maxHeartbeats 4000000 in
theorem occCt_ok {self : Int → Int → List (Int × Bool) → HNs → Option (Bool × List (Int × Bool) × HNs)} (hself : OccOk self) (w : Nat) (bs : List Nat) (v : Int) (kids : List Int) (hl : kids.length ≤ 137438953472) (s : List (Int × Bool)) (H : HNs) (res : Bool × List (Int × Bool) × HNs) (h : m_occK self v kids s H = some res) :
    Fun Tryd.prog 90 [.row 1 (c_P_terms_Term bs) kids, .clo 91 (occC w bs v)] [occM w bs s, occH bs H] (fun a σ => a = .exact (.bool res.1) ∧ σ = [occM w bs res.2.1, occH bs res.2.2]) := by
  refine fun_of_awp Tryd.func90 rfl Tryd.ntmps90 (by simp) rfl (res1 rfl) fun E hE => k_end ?_
  refine k_seq ?_
  refine k_reg .free hmixP (by kernel_rfl) ?_
  refine G_q rfl (op_assign (av := .exact (.bool false)) rfl ?_)
  refine G_nil ?_
  refine kC_normal ?_
  refine k_seq ?_
  refine k_reg .free hmixP (by kernel_rfl) ?_
  refine G_q rfl (op_move (av := .row 1 (c_P_terms_Term bs) kids) rfl ?_)
  refine G_q rfl (op_move (av := .clo 91 (occC w bs v)) rfl ?_)
  refine G_l rfl (op_fun (occIx_ok hself w bs v kids hl s H res h) Tryd.func117 (by kernel_rfl) (LEs.cons (AV.le_eq rfl) (LEs.cons (AV.le_eq rfl) LEs.nil)) (fun av σ' hp => ?_))
  obtain ⟨i, hi, rfl, rfl⟩ := hp
  refine G_q rfl (op_geq rfl rfl ?_)
  refine G_q rfl (op_assign (av := .exact (.bool res.1)) (by rw [← hi]; rfl) ?_)
  refine G_nil ?_
  refine kC_normal ?_
  refine k_ret ?_
  refine kP_any (endN (af' := (AF.put AF0 (some 4) (.exact (.bool res.1)))) (σ' := [occM w bs res.2.1, occH bs res.2.2]) _ rfl ?_ ⟨rfl, rfl⟩)
  exact Sub.of_le (AF.le_put (AV.le_eq rfl) (AF.le_top _))
set_option maxHeartbeats 4000000 in
theorem m_occF_ok {self : Int → Int → List (Int × Bool) → HNs → Option (Bool × List (Int × Bool) × HNs)} (hself : OccOk self) (w : Nat) (bs : List Nat) (v t : Int) (s : List (Int × Bool)) (H : HNs) (res : Bool × List (Int × Bool) × HNs) (h : m_occF m_terms_Term_Find self v t s H = some res) :
    Fun Tryd.prog 74 [refA bs v, refA bs t, .exact (.map (some w))] [occM w bs s, occH bs H] (fun a σ => a = .exact (.bool res.1) ∧ σ = [occM w bs res.2.1, occH bs res.2.2]) := by
  unfold m_occF at h
  refine fun_nd (List.Mem.tail _ (List.Mem.head _)) (fun hnd => ?_)
  refine fun_of_awp Tryd.func74 rfl Tryd.ntmps74 (by simp) rfl (res1 rfl) fun E hE => k_end ?_
  refine k_seq ?_
  refine k_reg .free hmixP (by kernel_rfl) ?_
  refine G_q rfl (op_box (c := [refA bs v]) rfl CellsOf.ref ?_)
  refine G_q rfl (op_box (c := [.exact (.map (some w))]) rfl CellsOf.mapz ?_)
  refine G_q rfl (op_assign (av := .exact (.bool false)) rfl ?_)
  refine G_nil ?_
  refine kC_normal ?_
  refine k_seq ?_
  refine k_reg .free hmixP (by kernel_rfl) ?_
  refine G_q rfl (op_move (av := refA bs t) rfl ?_)
  obtain ⟨y, hy, h⟩ := bnd1_some h
  refine G_l rfl (opB_f1 (op_fun_1_0_1 (m_terms_Term_Find_ok _ _ _ hy) Tryd.func73 (by kernel_rfl) (LEs.cons (AV.le_eq rfl) LEs.nil) ?_))
  refine G_q rfl (op_assign (av := refA bs y.1) rfl ?_)
  refine G_nil ?_
  refine kC_normal ?_
  refine k_seq ?_
  refine k_seq ?_
  refine k_reg .free hmixP (by kernel_rfl) ?_
  refine G_q rfl (op_move (av := refA bs y.1) rfl ?_)
  refine G_q rfl (op_load1p (a := refA bs v) (by kernel_rfl) rfl rfl ?_)
  refine G_r rfl (op_eq_ref (List.Mem.head _) (by kernel_rfl) (by kernel_rfl) rfl rfl ?_)
  refine G_nil ?_
  refine kC_normal ?_
  refine k_cond_d (p := y.1 = v) rfl (fun hc => ?_) (fun hc => ?_)
  · replace h := ite_t h hc
    cases h
    refine k_seq ?_
    refine k_reg .free hmixP (by kernel_rfl) ?_
    refine G_q rfl (op_assign (av := .exact (.bool true)) rfl ?_)
    refine G_nil ?_
    refine kC_normal ?_
    refine k_ret ?_
    refine kC_ret ?_
    refine kP_any (endN (af' := (AF.put AF0 (some 6) (.exact (.bool true)))) (σ' := [occM w bs s, occH bs y.2]) _ rfl ?_ ⟨rfl, rfl⟩)
    refine Sub.trans (SubU.to SubU.f1) ?_
    exact Sub.of_le (AF.le_put (AV.le_eq rfl) (AF.le_top _))
  replace h := ite_f h hc
  refine k_skip ?_
  refine kC_normal ?_
  refine k_seq ?_
  refine k_seq ?_
  refine k_reg .free hmixP (by kernel_rfl) ?_
  refine G_q rfl (op_load1p (a := .exact (.map (some w))) (by kernel_rfl) rfl rfl ?_)
  refine G_q rfl (op_move (av := refA bs y.1) rfl ?_)
  obtain ⟨n1, h⟩ := need_some h
  refine G_r rfl (op_mlook (z := false) (List.Mem.tail _ (List.Mem.head _)) (keyOk_ref (by kernel_rfl) hnd) (fun _ _ hg => hp_W (List.Mem.head _) hg) Tryd.underlying109 (fun _ w => ⟨_, Tryd.zeroValue4 w, zp_exact⟩) rfl (keyAV_ref rfl n1) ?_)
  refine G_nil ?_
  refine kC_normal ?_
  refine k_cond_b (c := Option.getD (lookL s y.1) false) rfl (fun hc => ?_) (fun hc => ?_)
  · replace h := ite_t h hc
    cases h
    refine k_seq ?_
    refine k_reg .free hmixP (by kernel_rfl) ?_
    refine G_q rfl (op_assign (av := .exact (.bool false)) rfl ?_)
    refine G_nil ?_
    refine kC_normal ?_
    refine k_ret ?_
    refine kC_ret ?_
    refine kP_any (endN (af' := (AF.put AF0 (some 6) (.exact (.bool false)))) (σ' := [occM w bs s, occH bs y.2]) _ rfl ?_ ⟨rfl, rfl⟩)
    refine Sub.trans (SubU.to SubU.f1) ?_
    exact Sub.of_le (AF.le_put (AV.le_eq rfl) (AF.le_top _))
  replace h := ite_f h hc
  refine k_skip ?_
  refine kC_normal ?_
  refine k_seq ?_
  refine k_reg .free hmixP (by kernel_rfl) ?_
  refine G_q rfl (op_load1p (a := .exact (.map (some w))) (by kernel_rfl) rfl rfl ?_)
  refine G_q rfl (op_move (av := refA bs y.1) rfl ?_)
  refine G_l rfl (opB_f1 (op_mput (z := true) (keyOk_ref (by kernel_rfl) hnd) (fun _ _ hg => hp_W (List.Mem.tail _ (List.Mem.head _)) hg) Tryd.underlying109 rfl (keyAV_ref rfl n1) (AV.le_eq rfl) ?_))
  refine G_nil ?_
  refine kC_normal ?_
  refine k_seq ?_
  refine k_reg .free hmixP (by kernel_rfl) ?_
  refine G_q rfl (op_move (av := refA bs y.1) rfl ?_)
  refine G_q rfl (op_nilC_ref rfl n1 ?_)
  refine G_q rfl (op_field_hpt (o := 2) (by kernel_rfl) rfl ?_)
  refine G_r rfl (op_load_hpt (List.Mem.tail _ (List.Mem.head _)) (o := 2) (a := .row 1 (c_P_terms_Term bs) ((gi y.2 y.1).2.2.1)) (by kernel_rfl) rfl rfl ?_)
  refine G_q rfl (op_makeClo (k := 91) (avs := occC w bs v) (LEs.cons (AV.le_eq rfl) (LEs.cons (AV.le_eq rfl) LEs.nil)) ?_)
  obtain ⟨n2, h⟩ := need_some h
  refine G_l rfl (op_fun_2_0_2 (occCt_ok hself w bs v _ n2 _ _ res h) Tryd.func90 (by kernel_rfl) (LEs.cons (AV.le_eq rfl) (LEs.cons (AV.le_eq rfl) LEs.nil)) ?_)
  refine G_q rfl (op_assign (av := .exact (.bool res.1)) rfl ?_)
  refine G_nil ?_
  refine kC_normal ?_
  refine k_ret ?_
  refine kP_any (endN (af' := (AF.put AF0 (some 6) (.exact (.bool res.1)))) (σ' := [occM w bs res.2.1, occH bs res.2.2]) _ rfl ?_ ⟨rfl, rfl⟩)
  exact Sub.of_le (AF.le_put (AV.le_eq rfl) (AF.le_top _))
theorem m_occS_ok : ∀ n, OccOk (m_occS m_terms_Term_Find n)
  | 0 => fun _ _ _ _ _ _ _ h => by cases h
  | n + 1 => fun w bs v t s H res h => m_occF_ok (m_occS_ok n) w bs v t s H res h
theorem m_occ_ok {w : Nat} {bs : List Nat} (v t : Int) (s : List (Int × Bool)) (H : HNs) (res : Bool × List (Int × Bool) × HNs) (h : m_occ m_terms_Term_Find v t s H = some res) :
    Fun Tryd.prog 74 [refA bs v, refA bs t, .exact (.map (some w))] [occM w bs s, occH bs H] (fun a σ => a = .exact (.bool res.1) ∧ σ = [occM w bs res.2.1, occH bs res.2.2]) := m_occS_ok FU w bs v t s H res h
end Go.Proofs.YtdfdjgolijckfaaDoor
/- The functions compute their models, by program. -/
namespace Go.Proofs.YtdfdjgolijckfaaDoor
open Go.RowKit
attribute [local irreducible] AV.exact AV.top AV.row AV.ptr AV.agg AV.tup AV.eptr AV.fn AV.nilq AV.nilqn opA opB opM opR Quiet Loud Reads wpG awp den Sub SubU Pure Fun vecI vecT boxI CellsAll CellsOf OneC LEs LEss
set_option maxRecDepth 100000

set_option maxHeartbeats 4000000 in
theorem m_terms_Unifier_Unify_F_ok {w0 : Nat} {bs : List Nat} (self_terms_Unifier_Unify : (List ((Int × Int) × Bool)) → Int → Int → (List (Int × Int × (List Int) × Int)) → Option (Int × (List ((Int × Int) × Bool)) × (List (Int × Int × (List Int) × Int)))) (hself_terms_Unifier_Unify : ∀ ⦃w0 : Nat⦄ ⦃bs : List Nat⦄ (a0 : List ((Int × Int) × Bool)) (a1 : Int) (a2 : Int) (a3 : List (Int × Int × (List Int) × Int)) (r : Int × (List ((Int × Int) × Bool)) × (List (Int × Int × (List Int) × Int))), self_terms_Unifier_Unify a0 a1 a2 a3 = some r → Fun Tryd.prog 41 [(.exact (.map (some w0))), (refA bs a1), (refA bs a2)] [mapI (refOk2 bs) (refV2 bs) (fun x : Bool => .exact (.bool x)) w0 a0, hpI 72 (c_terms_Term bs) bs a3] (fun a s => a = .exact (.int .i64 r.1) ∧ s = [mapI (refOk2 bs) (refV2 bs) (fun x : Bool => .exact (.bool x)) w0 r.2.1, hpI 72 (c_terms_Term bs) bs r.2.2])) (a0 : List ((Int × Int) × Bool)) (a1 : Int) (a2 : Int) (a3 : List (Int × Int × (List Int) × Int)) (r : Int × (List ((Int × Int) × Bool)) × (List (Int × Int × (List Int) × Int))) (h : m_terms_Unifier_Unify_F self_terms_Unifier_Unify a0 a1 a2 a3 = some r) : Fun Tryd.prog 41 [(.exact (.map (some w0))), (refA bs a1), (refA bs a2)] [mapI (refOk2 bs) (refV2 bs) (fun x : Bool => .exact (.bool x)) w0 a0, hpI 72 (c_terms_Term bs) bs a3] (fun a s => a = .exact (.int .i64 r.1) ∧ s = [mapI (refOk2 bs) (refV2 bs) (fun x : Bool => .exact (.bool x)) w0 r.2.1, hpI 72 (c_terms_Term bs) bs r.2.2]) := by
  unfold m_terms_Unifier_Unify_F at h
  refine fun_nd (List.Mem.tail _ (List.Mem.head _)) (fun hnd => ?_)
  refine fun_of_awp Tryd.func41 rfl Tryd.ntmps41 (by simp) rfl (res1 rfl) fun E hE => k_end ?_
  refine k_seq ?_
  refine k_reg .free hmixP (by kernel_rfl) ?_
  refine G_q rfl (op_assign (av := .exact (.int .i64 0)) rfl ?_)
  refine G_nil ?_
  refine kC_normal ?_
  refine k_seq ?_
  refine k_reg .free hmixP (by kernel_rfl) ?_
  refine G_q rfl (op_move (av := refA bs a1) rfl ?_)
  obtain ⟨y1, hy1, h⟩ := bnd1_some h
  refine G_l rfl (opB_f1 (op_fun_1_0_1 (m_terms_Term_Find_ok _ _ _ hy1) Tryd.func73 (by kernel_rfl) (LEs.cons (AV.le_eq rfl) LEs.nil) ?_))
  refine G_q rfl (op_move (av := refA bs a2) rfl ?_)
  obtain ⟨y2, hy2, h⟩ := bnd1_some h
  refine G_l rfl (op_fun_1_0_1 (m_terms_Term_Find_ok _ _ _ hy2) Tryd.func73 (by kernel_rfl) (LEs.cons (AV.le_eq rfl) LEs.nil) ?_)
  refine G_q rfl (op_assign (av := refA bs y1.1) rfl ?_)
  refine G_q rfl (op_assign (av := refA bs y2.1) rfl ?_)
  refine G_nil ?_
  refine kC_normal ?_
  refine k_seq ?_
  refine k_join1_0 h (fun (x22_j7 : Bool) => (AF.put (AF.put (AF.put (AF.put AF0 (some 0) (.exact (.map (some w0)))) (some 1) (refA bs y1.1)) (some 2) (refA bs y2.1)) (some 22) (.exact (.bool x22_j7)))) (fun (x22_j7 : Bool) => [hpI 72 (c_terms_Term bs) bs y2.2, mapI (refOk2 bs) (refV2 bs) (fun x : Bool => .exact (.bool x)) w0 a0]) (fun k7 h => ?_) (fun x22_j7 h => ?_)
  · refine k_reg .free hmixP (by kernel_rfl) ?_
    refine G_q rfl (op_move (av := refA bs y1.1) rfl ?_)
    refine G_q rfl (op_move (av := refA bs y2.1) rfl ?_)
    refine G_r rfl (op_eq_refH (by kernel_rfl) (by kernel_rfl) rfl rfl ?_)
    refine G_q rfl (op_move (av := .exact (.bool (decide (y1.1 = y2.1)))) rfl ?_)
    refine G_split (p := y1.1 = y2.1) 16 rfl (fun hc => ?_) (fun hc => ?_)
    · replace h := ite_t h hc
      refine G_n rfl rfl ?_
      refine G_n rfl rfl ?_
      refine G_n rfl rfl ?_
      refine G_n rfl rfl ?_
      refine G_n rfl rfl ?_
      refine G_q rfl (op_pick_t rfl (av := .exact (.bool true)) rfl ?_)
      refine G_nil ?_
      refine kI_normal ⟨_, h, ?_⟩
      exact Sub.of_le (AF.le_put (AV.le_eq rfl) (AF.le_put (AV.le_eq rfl) (AF.le_put (AV.le_eq rfl) (AF.le_put (AV.le_eq rfl) (AF.le_top _)))))
    · replace h := ite_f h hc
      refine Gy_q rfl rfl rfl (op_move (av := .exact (.map (some w0))) rfl ?_)
      refine Gy_q rfl rfl rfl (op_move (av := refA bs y1.1) rfl ?_)
      refine Gy_q rfl rfl rfl (op_move (av := refA bs y2.1) rfl ?_)
      refine Gy_q rfl rfl rfl (op_bld (c' := (c_A2_P_terms_Term bs) (y1.1, y2.1)) (CellsAll.cons rfl CellsOf.ref (CellsAll.cons rfl CellsOf.ref CellsAll.nil)) rfl (LEs.cons (AV.le_eq rfl) (LEs.cons (AV.le_eq rfl) LEs.nil)) ?_)
      obtain ⟨n9, h⟩ := need_some h
      refine Gy_r rfl rfl rfl (op_mlook (z := (false : Bool)) (List.Mem.tail _ (List.Mem.head _)) (keyOk_ref2 Tryd.underlying107 (by kernel_rfl) (by kernel_rfl) (by kernel_rfl) hnd) (fun _ _ hg => hp_W (List.Mem.head _) hg) Tryd.underlying67 (fun _ w => ⟨_, Tryd.zeroValue4 w, zp_exact⟩) rfl (keyAV_ref2 (k := (y1.1, y2.1)) rfl n9.1 n9.2) ?_)
      refine G_q rfl (op_pick_f rfl (av := .exact (.bool (Option.getD (lookL a0 (y1.1, y2.1)) false))) rfl ?_)
      refine G_nil ?_
      refine kI_normal ⟨_, h, ?_⟩
      exact Sub.of_le (AF.le_put (AV.le_eq rfl) (AF.le_put (AV.le_eq rfl) (AF.le_put (AV.le_eq rfl) (AF.le_put (AV.le_eq rfl) (AF.le_top _)))))
  · refine k_cond_b (c := x22_j7) rfl (fun hc => ?_) (fun hc => ?_)
    · replace h := ite_t h hc
      refine k_seq ?_
      refine k_reg .free hmixP (by kernel_rfl) ?_
      refine G_q rfl (op_assign (av := .exact (.int .i64 0)) rfl ?_)
      refine G_nil ?_
      refine kC_normal ?_
      refine k_ret ?_
      refine kC_ret ?_
      obtain rfl := Option.some.inj h
      refine kP_any (endN (af' := (AF.put AF0 (some 6) (.exact (.int .i64 0)))) (σ' := [mapI (refOk2 bs) (refV2 bs) (fun x : Bool => .exact (.bool x)) w0 a0, hpI 72 (c_terms_Term bs) bs y2.2]) _ rfl ?_ ⟨rfl, rfl⟩)
      refine Sub.trans (SubU.to SubU.f1) ?_
      exact Sub.of_le (AF.le_put (AV.le_eq rfl) (AF.le_top _))
    · replace h := ite_f h hc
      refine k_skip ?_
      refine kC_normal ?_
      refine k_seq ?_
      refine k_join1_0 h (fun (x34_j22 : Bool) => (AF.put (AF.put (AF.put (AF.put AF0 (some 0) (.exact (.map (some w0)))) (some 1) (refA bs y1.1)) (some 2) (refA bs y2.1)) (some 34) (.exact (.bool x34_j22)))) (fun (x34_j22 : Bool) => [hpI 72 (c_terms_Term bs) bs y2.2, mapI (refOk2 bs) (refV2 bs) (fun x : Bool => .exact (.bool x)) w0 a0]) (fun k22 h => ?_) (fun x34_j22 h => ?_)
      · refine k_reg .free hmixP (by kernel_rfl) ?_
        refine G_q rfl (op_move (av := refA bs y1.1) rfl ?_)
        obtain ⟨n25, h⟩ := need_some h
        refine G_q rfl (op_nilC_ref rfl n25 ?_)
        refine G_q rfl (op_field_hpt (o := 0) (by kernel_rfl) rfl ?_)
        refine G_r rfl (op_load_hptH (i := y1.1) (o := 0) (a := .exact (.int .i64 ((gi y2.2 y1.1).1))) (by kernel_rfl) rfl rfl ?_)
        refine G_q rfl (op_eql rfl rfl ?_)
        refine G_q rfl (op_move (av := .exact (.bool (decide (((gi y2.2 y1.1).1) = 1)))) rfl ?_)
        refine G_split (p := ((gi y2.2 y1.1).1) = 1) 28 rfl (fun hc => ?_) (fun hc => ?_)
        · replace h := ite_t h hc
          refine Gy_q rfl rfl rfl (op_move (av := refA bs y2.1) rfl ?_)
          obtain ⟨n26, h⟩ := need_some h
          refine Gy_q rfl rfl rfl (op_nilC_ref rfl n26 ?_)
          refine Gy_q rfl rfl rfl (op_field_hpt (o := 0) (by kernel_rfl) rfl ?_)
          refine Gy_r rfl rfl rfl (op_load_hptH (i := y2.1) (o := 0) (a := .exact (.int .i64 ((gi y2.2 y2.1).1))) (by kernel_rfl) rfl rfl ?_)
          refine Gy_q rfl rfl rfl (op_eql rfl rfl ?_)
          refine G_q rfl (op_pick_t rfl (av := .exact (.bool (decide (((gi y2.2 y2.1).1) = 1)))) rfl ?_)
          refine G_nil ?_
          refine kI_normal ⟨_, h, ?_⟩
          exact Sub.of_le (AF.le_put (AV.le_eq rfl) (AF.le_put (AV.le_eq rfl) (AF.le_put (AV.le_eq rfl) (AF.le_put (AV.le_eq rfl) (AF.le_top _)))))
        · replace h := ite_f h hc
          refine G_n rfl rfl ?_
          refine G_n rfl rfl ?_
          refine G_n rfl rfl ?_
          refine G_n rfl rfl ?_
          refine G_n rfl rfl ?_
          refine G_q rfl (op_pick_f rfl (av := .exact (.bool false)) rfl ?_)
          refine G_nil ?_
          refine kI_normal ⟨_, h, ?_⟩
          exact Sub.of_le (AF.le_put (AV.le_eq rfl) (AF.le_put (AV.le_eq rfl) (AF.le_put (AV.le_eq rfl) (AF.le_put (AV.le_eq rfl) (AF.le_top _)))))
      · refine k_cond_b (c := x34_j22) rfl (fun hc => ?_) (fun hc => ?_)
        · replace h := ite_t h hc
          refine k_join2_0 h (fun (x1_j27 : Int) (x2_j27 : Int) => (AF.put (AF.put (AF.put AF0 (some 0) (.exact (.map (some w0)))) (some 1) (refA bs x1_j27)) (some 2) (refA bs x2_j27))) (fun (x1_j27 : Int) (x2_j27 : Int) => [hpI 72 (c_terms_Term bs) bs y2.2, mapI (refOk2 bs) (refV2 bs) (fun x : Bool => .exact (.bool x)) w0 a0]) (fun k27 h => ?_) (fun x1_j27 x2_j27 h => ?_)
          · refine k_seq ?_
            refine k_plan [] [(0, 0), (0, 1), (0, 2), (0, 4), (0, 5), (0, 6), (1, 3), (1, 7), (0, 8)] hmixP (by kernel_rfl) ?_
            refine P_q no34_0 rfl (op_move (av := refA bs y1.1) rfl ?_)
            obtain ⟨n30, h⟩ := need_some h
            refine P_q no34_0 rfl (op_nilC_ref rfl n30 ?_)
            refine P_q no34_0 rfl (op_field_hpt (o := 1) (by kernel_rfl) rfl ?_)
            refine P_q no34_0 rfl (op_move (av := refA bs y2.1) rfl ?_)
            obtain ⟨n31, h⟩ := need_some h
            refine P_q no34_0 rfl (op_nilC_ref rfl n31 ?_)
            refine P_q no34_0 rfl (op_field_hpt (o := 1) (by kernel_rfl) rfl ?_)
            refine P_r rfl (op_load_hptH (i := y1.1) (o := 1) (a := .exact (.int .i64 ((gi y2.2 y1.1).2.1))) (by kernel_rfl) rfl rfl ?_)
            refine P_r rfl (op_load_hptH (i := y2.1) (o := 1) (a := .exact (.int .i64 ((gi y2.2 y2.1).2.1))) (by kernel_rfl) rfl rfl ?_)
            refine P_q no34_0 rfl (op_lss rfl rfl ?_)
            refine P_nil ?_
            refine kC_normal ?_
            refine k_cond_d (p := ((gi y2.2 y1.1).2.1) < ((gi y2.2 y2.1).2.1)) rfl (fun hc => ?_) (fun hc => ?_)
            · replace h := ite_t h hc
              refine k_reg .free hmixP (by kernel_rfl) ?_
              refine G_q rfl (op_move (av := refA bs y2.1) rfl ?_)
              refine G_q rfl (op_move (av := refA bs y1.1) rfl ?_)
              refine G_q rfl (op_assign (av := refA bs y2.1) rfl ?_)
              refine G_q rfl (op_assign (av := refA bs y1.1) rfl ?_)
              refine G_nil ?_
              refine kI_normal ⟨_, _, h, ?_⟩
              exact Sub.of_le (AF.le_put (AV.le_eq rfl) (AF.le_put (AV.le_eq rfl) (AF.le_put (AV.le_eq rfl) (AF.le_top _))))
            · replace h := ite_f h hc
              refine k_skip ?_
              refine kI_normal ⟨_, _, h, ?_⟩
              exact Sub.of_le (AF.le_put (AV.le_eq rfl) (AF.le_put (AV.le_eq rfl) (AF.le_put (AV.le_eq rfl) (AF.le_top _))))
          · refine k_seq ?_
            refine k_reg .free hmixP (by kernel_rfl) ?_
            refine G_q rfl (op_move (av := refA bs x1_j27) rfl ?_)
            refine G_q rfl (op_move (av := refA bs x2_j27) rfl ?_)
            obtain ⟨n32, h⟩ := need_some h
            refine G_q rfl (op_nilC_ref rfl n32 ?_)
            refine G_q rfl (op_field_hpt (o := 3) (by kernel_rfl) rfl ?_)
            refine G_l rfl (op_store_hpt (i := x1_j27) (o := 3) (z := ((gi y2.2 x1_j27).1, (gi y2.2 x1_j27).2.1, (gi y2.2 x1_j27).2.2.1, x2_j27)) (c' := [refA bs x2_j27]) rfl rfl CellsOf.ref (LEs.cons (AV.le_eq rfl) LEs.nil) (OneC.ref OneC.nil) (by kernel_rfl) (Nat.le_of_ble_eq_true rfl) rfl ?_)
            refine G_nil ?_
            refine kC_normal ?_
            refine k_seq ?_
            refine k_reg .free hmixP (by kernel_rfl) ?_
            refine G_q rfl (op_assign (av := .exact (.int .i64 0)) rfl ?_)
            refine G_nil ?_
            refine kC_normal ?_
            refine k_ret ?_
            refine kC_ret ?_
            obtain rfl := Option.some.inj h
            refine kP_any (endN (af' := (AF.put AF0 (some 6) (.exact (.int .i64 0)))) (σ' := [mapI (refOk2 bs) (refV2 bs) (fun x : Bool => .exact (.bool x)) w0 a0, hpI 72 (c_terms_Term bs) bs (List.set y2.2 (Int.toNat x1_j27) ((gi y2.2 x1_j27).1, (gi y2.2 x1_j27).2.1, (gi y2.2 x1_j27).2.2.1, x2_j27))]) _ rfl ?_ ⟨rfl, rfl⟩)
            refine Sub.trans (SubU.to SubU.f1) ?_
            exact Sub.of_le (AF.le_put (AV.le_eq rfl) (AF.le_top _))
        · replace h := ite_f h hc
          refine k_skip ?_
          refine kC_normal ?_
          refine k_join2_0 h (fun (x1_j33 : Int) (x2_j33 : Int) => (AF.put (AF.put (AF.put AF0 (some 0) (.exact (.map (some w0)))) (some 1) (refA bs x1_j33)) (some 2) (refA bs x2_j33))) (fun (x1_j33 : Int) (x2_j33 : Int) => [hpI 72 (c_terms_Term bs) bs y2.2, mapI (refOk2 bs) (refV2 bs) (fun x : Bool => .exact (.bool x)) w0 a0]) (fun k33 h => ?_) (fun x1_j33 x2_j33 h => ?_)
          · refine k_seq ?_
            refine k_reg .free hmixP (by kernel_rfl) ?_
            refine G_q rfl (op_move (av := refA bs y2.1) rfl ?_)
            obtain ⟨n35, h⟩ := need_some h
            refine G_q rfl (op_nilC_ref rfl n35 ?_)
            refine G_q rfl (op_field_hpt (o := 0) (by kernel_rfl) rfl ?_)
            refine G_r rfl (op_load_hptH (i := y2.1) (o := 0) (a := .exact (.int .i64 ((gi y2.2 y2.1).1))) (by kernel_rfl) rfl rfl ?_)
            refine G_q rfl (op_eql rfl rfl ?_)
            refine G_nil ?_
            refine kC_normal ?_
            refine k_cond_d (p := ((gi y2.2 y2.1).1) = 1) rfl (fun hc => ?_) (fun hc => ?_)
            · replace h := ite_t h hc
              refine k_reg .free hmixP (by kernel_rfl) ?_
              refine G_q rfl (op_move (av := refA bs y2.1) rfl ?_)
              refine G_q rfl (op_move (av := refA bs y1.1) rfl ?_)
              refine G_q rfl (op_assign (av := refA bs y2.1) rfl ?_)
              refine G_q rfl (op_assign (av := refA bs y1.1) rfl ?_)
              refine G_nil ?_
              refine kI_normal ⟨_, _, h, ?_⟩
              exact Sub.of_le (AF.le_put (AV.le_eq rfl) (AF.le_put (AV.le_eq rfl) (AF.le_put (AV.le_eq rfl) (AF.le_top _))))
            · replace h := ite_f h hc
              refine k_skip ?_
              refine kI_normal ⟨_, _, h, ?_⟩
              exact Sub.of_le (AF.le_put (AV.le_eq rfl) (AF.le_put (AV.le_eq rfl) (AF.le_put (AV.le_eq rfl) (AF.le_top _))))
          · refine k_seq ?_
            refine k_seq ?_
            refine k_reg .free hmixP (by kernel_rfl) ?_
            refine G_q rfl (op_move (av := refA bs x1_j33) rfl ?_)
            obtain ⟨n36, h⟩ := need_some h
            refine G_q rfl (op_nilC_ref rfl n36 ?_)
            refine G_q rfl (op_field_hpt (o := 0) (by kernel_rfl) rfl ?_)
            refine G_r rfl (op_load_hptH (i := x1_j33) (o := 0) (a := .exact (.int .i64 ((gi y2.2 x1_j33).1))) (by kernel_rfl) rfl rfl ?_)
            refine G_q rfl (op_eql rfl rfl ?_)
            refine G_nil ?_
            refine kC_normal ?_
            refine k_cond_d (p := ((gi y2.2 x1_j33).1) = 1) rfl (fun hc => ?_) (fun hc => ?_)
            · replace h := ite_t h hc
              refine k_seq ?_
              refine k_seq ?_
              refine k_reg .free hmixP (by kernel_rfl) ?_
              refine G_q rfl (op_move (av := refA bs x1_j33) rfl ?_)
              refine G_q rfl (op_move (av := refA bs x2_j33) rfl ?_)
              refine G_l rfl (op_mnew (V := (refOk bs)) (kv := (refV bs)) (vv := (fun x : Bool => .exact (.bool x))) (fun b37 => ?_))
              obtain ⟨y38, hy38, h⟩ := bnd1_some h
              refine G_l rfl (opB_f1 (opB_f1 (op_fun_2_0_2 (m_occ_ok _ _ _ _ _ hy38) Tryd.func74 (by kernel_rfl) (LEs.cons (AV.le_eq rfl) (LEs.cons (AV.le_eq rfl) (LEs.cons (AV.le_eq rfl) LEs.nil))) ?_)))
              refine G_nil ?_
              refine kC_normal ?_
              refine k_cond_b (c := y38.1) rfl (fun hc => ?_) (fun hc => ?_)
              · replace h := ite_t h hc
                refine k_seq ?_
                refine k_reg .free hmixP (by kernel_rfl) ?_
                refine G_q rfl (op_assign (av := .exact (.int .i64 8)) rfl ?_)
                refine G_nil ?_
                refine kC_normal ?_
                refine k_ret ?_
                refine kC_ret ?_
                refine kC_ret ?_
                obtain rfl := Option.some.inj h
                refine kP_any (endN (af' := (AF.put AF0 (some 6) (.exact (.int .i64 8)))) (σ' := [mapI (refOk2 bs) (refV2 bs) (fun x : Bool => .exact (.bool x)) w0 a0, hpI 72 (c_terms_Term bs) bs y38.2.2]) _ rfl ?_ ⟨rfl, rfl⟩)
                refine Sub.trans (SubU.to SubU.drop) ?_
                refine Sub.trans (SubU.to SubU.f1) ?_
                exact Sub.of_le (AF.le_put (AV.le_eq rfl) (AF.le_top _))
              · replace h := ite_f h hc
                refine k_skip ?_
                refine kC_normal ?_
                refine k_seq ?_
                refine k_reg .free hmixP (by kernel_rfl) ?_
                refine G_q rfl (op_move (av := refA bs x1_j33) rfl ?_)
                refine G_q rfl (op_move (av := refA bs x2_j33) rfl ?_)
                obtain ⟨n39, h⟩ := need_some h
                refine G_q rfl (op_nilC_ref rfl n39 ?_)
                refine G_q rfl (op_field_hpt (o := 3) (by kernel_rfl) rfl ?_)
                refine G_l rfl (opB_f1 (op_store_hpt (i := x1_j33) (o := 3) (z := ((gi y38.2.2 x1_j33).1, (gi y38.2.2 x1_j33).2.1, (gi y38.2.2 x1_j33).2.2.1, x2_j33)) (c' := [refA bs x2_j33]) rfl rfl CellsOf.ref (LEs.cons (AV.le_eq rfl) LEs.nil) (OneC.ref OneC.nil) (by kernel_rfl) (Nat.le_of_ble_eq_true rfl) rfl ?_))
                refine G_nil ?_
                refine kC_normal ?_
                refine k_seq ?_
                refine k_reg .free hmixP (by kernel_rfl) ?_
                refine G_q rfl (op_assign (av := .exact (.int .i64 0)) rfl ?_)
                refine G_nil ?_
                refine kC_normal ?_
                refine k_ret ?_
                refine kC_ret ?_
                obtain rfl := Option.some.inj h
                refine kP_any (endN (af' := (AF.put AF0 (some 6) (.exact (.int .i64 0)))) (σ' := [mapI (refOk2 bs) (refV2 bs) (fun x : Bool => .exact (.bool x)) w0 a0, hpI 72 (c_terms_Term bs) bs (List.set y38.2.2 (Int.toNat x1_j33) ((gi y38.2.2 x1_j33).1, (gi y38.2.2 x1_j33).2.1, (gi y38.2.2 x1_j33).2.2.1, x2_j33))]) _ rfl ?_ ⟨rfl, rfl⟩)
                refine Sub.trans (SubU.to SubU.f1) ?_
                refine Sub.trans (SubU.to SubU.drop) ?_
                refine Sub.trans (SubU.to SubU.f1) ?_
                exact Sub.of_le (AF.le_put (AV.le_eq rfl) (AF.le_top _))
            · replace h := ite_f h hc
              refine k_skip ?_
              refine kC_normal ?_
              refine k_seq ?_
              refine k_join1_0 h (fun (x102_j54 : Bool) => (AF.put (AF.put (AF.put (AF.put AF0 (some 0) (.exact (.map (some w0)))) (some 1) (refA bs x1_j33)) (some 2) (refA bs x2_j33)) (some 102) (.exact (.bool x102_j54)))) (fun (x102_j54 : Bool) => [hpI 72 (c_terms_Term bs) bs y2.2, mapI (refOk2 bs) (refV2 bs) (fun x : Bool => .exact (.bool x)) w0 a0]) (fun k54 h => ?_) (fun x102_j54 h => ?_)
              · refine k_plan [] [(0, 0), (0, 1), (0, 2), (0, 4), (0, 5), (0, 6), (1, 3), (1, 7), (0, 8), (0, 9), (0, 10), (0, 11), (0, 12), (0, 14), (0, 15), (0, 16), (1, 13), (1, 17), (0, 18), (0, 19), (0, 20), (0, 21), (0, 22), (0, 23), (0, 26), (0, 27), (0, 28), (1, 24), (0, 25), (1, 29), (0, 30), (0, 31), (0, 32)] hmixP (by kernel_rfl) ?_
                refine P_q no34_0 rfl (op_move (av := refA bs x1_j33) rfl ?_)
                obtain ⟨n61, h⟩ := need_some h
                refine P_q no34_0 rfl (op_nilC_ref rfl n61 ?_)
                refine P_q no34_0 rfl (op_field_hpt (o := 0) (by kernel_rfl) rfl ?_)
                refine P_q no34_0 rfl (op_move (av := refA bs x2_j33) rfl ?_)
                obtain ⟨n62, h⟩ := need_some h
                refine P_q no34_0 rfl (op_nilC_ref rfl n62 ?_)
                refine P_q no34_0 rfl (op_field_hpt (o := 0) (by kernel_rfl) rfl ?_)
                refine P_r rfl (op_load_hptH (i := x1_j33) (o := 0) (a := .exact (.int .i64 ((gi y2.2 x1_j33).1))) (by kernel_rfl) rfl rfl ?_)
                refine P_r rfl (op_load_hptH (i := x2_j33) (o := 0) (a := .exact (.int .i64 ((gi y2.2 x2_j33).1))) (by kernel_rfl) rfl rfl ?_)
                refine P_q no34_0 rfl (op_neq rfl rfl ?_)
                refine P_q no34_0 rfl (op_move (av := .exact (.bool (decide (¬ ((gi y2.2 x1_j33).1) = ((gi y2.2 x2_j33).1))))) rfl ?_)
                refine P_split (p := ¬ ((gi y2.2 x1_j33).1) = ((gi y2.2 x2_j33).1)) 79 rfl (fun hc => ?_) (fun hc => ?_)
                · replace h := ite_t h hc
                  refine P_n no34_0 rfl rfl rfl ?_
                  refine P_n no34_0 rfl rfl rfl ?_
                  refine P_n no34_0 rfl rfl rfl ?_
                  refine P_n no34_0 rfl rfl rfl ?_
                  refine P_n no34_0 rfl rfl rfl ?_
                  refine P_n no34_0 rfl rfl rfl ?_
                  refine P_n no34_1 rfl rfl rfl ?_
                  refine P_n no34_1 rfl rfl rfl ?_
                  refine P_n no34_0 rfl rfl rfl ?_
                  refine P_q no34_0 rfl (op_pick_t rfl (av := .exact (.bool true)) rfl ?_)
                  refine P_q no34_0 rfl (op_move (av := .exact (.bool true)) rfl ?_)
                  refine P_n no34_0 rfl rfl rfl ?_
                  refine P_n no34_0 rfl rfl rfl ?_
                  refine P_n no34_0 rfl rfl rfl ?_
                  refine P_n no34_0 rfl rfl rfl ?_
                  refine P_n no34_0 rfl rfl rfl ?_
                  refine P_n no34_0 rfl rfl rfl ?_
                  refine P_n no34_1 rfl rfl rfl ?_
                  refine P_n no34_0 rfl rfl rfl ?_
                  refine P_n no34_1 rfl rfl rfl ?_
                  refine P_n no34_0 rfl rfl rfl ?_
                  refine P_n no34_0 rfl rfl rfl ?_
                  refine P_q no34_0 rfl (op_pick_t rfl (av := .exact (.bool true)) rfl ?_)
                  refine P_nil ?_
                  refine kI_normal ⟨_, h, ?_⟩
                  exact Sub.of_le (AF.le_put (AV.le_eq rfl) (AF.le_put (AV.le_eq rfl) (AF.le_put (AV.le_eq rfl) (AF.le_put (AV.le_eq rfl) (AF.le_top _)))))
                · replace h := ite_f h hc
                  refine Py_q no34_0 rfl rfl rfl (op_move (av := refA bs x1_j33) rfl ?_)
                  obtain ⟨n63, h⟩ := need_some h
                  refine Py_q no34_0 rfl rfl rfl (op_nilC_ref rfl n63 ?_)
                  refine Py_q no34_0 rfl rfl rfl (op_field_hpt (o := 1) (by kernel_rfl) rfl ?_)
                  refine Py_q no34_0 rfl rfl rfl (op_move (av := refA bs x2_j33) rfl ?_)
                  obtain ⟨n64, h⟩ := need_some h
                  refine Py_q no34_0 rfl rfl rfl (op_nilC_ref rfl n64 ?_)
                  refine Py_q no34_0 rfl rfl rfl (op_field_hpt (o := 1) (by kernel_rfl) rfl ?_)
                  refine Py_r rfl rfl rfl (op_load_hptH (i := x1_j33) (o := 1) (a := .exact (.int .i64 ((gi y2.2 x1_j33).2.1))) (by kernel_rfl) rfl rfl ?_)
                  refine Py_r rfl rfl rfl (op_load_hptH (i := x2_j33) (o := 1) (a := .exact (.int .i64 ((gi y2.2 x2_j33).2.1))) (by kernel_rfl) rfl rfl ?_)
                  refine Py_q no34_0 rfl rfl rfl (op_neq rfl rfl ?_)
                  refine P_q no34_0 rfl (op_pick_f rfl (av := .exact (.bool (decide (¬ ((gi y2.2 x1_j33).2.1) = ((gi y2.2 x2_j33).2.1))))) rfl ?_)
                  refine P_q no34_0 rfl (op_move (av := .exact (.bool (decide (¬ ((gi y2.2 x1_j33).2.1) = ((gi y2.2 x2_j33).2.1))))) rfl ?_)
                  refine P_split (p := ¬ ((gi y2.2 x1_j33).2.1) = ((gi y2.2 x2_j33).2.1)) 90 rfl (fun hc => ?_) (fun hc => ?_)
                  · replace h := ite_t h hc
                    refine P_n no34_0 rfl rfl rfl ?_
                    refine P_n no34_0 rfl rfl rfl ?_
                    refine P_n no34_0 rfl rfl rfl ?_
                    refine P_n no34_0 rfl rfl rfl ?_
                    refine P_n no34_0 rfl rfl rfl ?_
                    refine P_n no34_0 rfl rfl rfl ?_
                    refine P_n no34_1 rfl rfl rfl ?_
                    refine P_n no34_0 rfl rfl rfl ?_
                    refine P_n no34_1 rfl rfl rfl ?_
                    refine P_n no34_0 rfl rfl rfl ?_
                    refine P_n no34_0 rfl rfl rfl ?_
                    refine P_q no34_0 rfl (op_pick_t rfl (av := .exact (.bool true)) rfl ?_)
                    refine P_nil ?_
                    refine kI_normal ⟨_, h, ?_⟩
                    exact Sub.of_le (AF.le_put (AV.le_eq rfl) (AF.le_put (AV.le_eq rfl) (AF.le_put (AV.le_eq rfl) (AF.le_put (AV.le_eq rfl) (AF.le_top _)))))
                  · replace h := ite_f h hc
                    refine Py_q no34_0 rfl rfl rfl (op_move (av := refA bs x1_j33) rfl ?_)
                    obtain ⟨n65, h⟩ := need_some h
                    refine Py_q no34_0 rfl rfl rfl (op_nilC_ref rfl n65 ?_)
                    refine Py_q no34_0 rfl rfl rfl (op_field_hpt (o := 2) (by kernel_rfl) rfl ?_)
                    refine Py_q no34_0 rfl rfl rfl (op_move (av := refA bs x2_j33) rfl ?_)
                    obtain ⟨n66, h⟩ := need_some h
                    refine Py_q no34_0 rfl rfl rfl (op_nilC_ref rfl n66 ?_)
                    refine Py_q no34_0 rfl rfl rfl (op_field_hpt (o := 2) (by kernel_rfl) rfl ?_)
                    refine Py_r rfl rfl rfl (op_load_hptH (i := x1_j33) (o := 2) (a := .row 1 (c_P_terms_Term bs) ((gi y2.2 x1_j33).2.2.1)) (by kernel_rfl) rfl rfl ?_)
                    refine Py_q no34_0 rfl rfl rfl (op_len_row (by kernel_rfl) rfl ?_)
                    refine Py_r rfl rfl rfl (op_load_hptH (i := x2_j33) (o := 2) (a := .row 1 (c_P_terms_Term bs) ((gi y2.2 x2_j33).2.2.1)) (by kernel_rfl) rfl rfl ?_)
                    refine Py_q no34_0 rfl rfl rfl (op_len_row (by kernel_rfl) rfl ?_)
                    refine Py_q no34_0 rfl rfl rfl (op_neq rfl rfl ?_)
                    refine P_q no34_0 rfl (op_pick_f rfl (av := .exact (.bool (decide (¬ (List.length ((gi y2.2 x1_j33).2.2.1) : Int) = (List.length ((gi y2.2 x2_j33).2.2.1) : Int))))) rfl ?_)
                    refine P_nil ?_
                    refine kI_normal ⟨_, h, ?_⟩
                    exact Sub.of_le (AF.le_put (AV.le_eq rfl) (AF.le_put (AV.le_eq rfl) (AF.le_put (AV.le_eq rfl) (AF.le_put (AV.le_eq rfl) (AF.le_top _)))))
              · refine k_cond_b (c := x102_j54) rfl (fun hc => ?_) (fun hc => ?_)
                · replace h := ite_t h hc
                  refine k_seq ?_
                  refine k_reg .free hmixP (by kernel_rfl) ?_
                  refine G_q rfl (op_assign (av := .exact (.int .i64 6)) rfl ?_)
                  refine G_nil ?_
                  refine kC_normal ?_
                  refine k_ret ?_
                  refine kC_ret ?_
                  obtain rfl := Option.some.inj h
                  refine kP_any (endN (af' := (AF.put AF0 (some 6) (.exact (.int .i64 6)))) (σ' := [mapI (refOk2 bs) (refV2 bs) (fun x : Bool => .exact (.bool x)) w0 a0, hpI 72 (c_terms_Term bs) bs y2.2]) _ rfl ?_ ⟨rfl, rfl⟩)
                  refine Sub.trans (SubU.to SubU.f1) ?_
                  exact Sub.of_le (AF.le_put (AV.le_eq rfl) (AF.le_top _))
                · replace h := ite_f h hc
                  refine k_skip ?_
                  refine kC_normal ?_
                  refine k_join2_0 h (fun (xH_j67 : List (Int × Int × (List Int) × Int)) (x0_j67 : List ((Int × Int) × Bool)) => (AF.put (AF.put (AF.put AF0 (some 0) (.exact (.map (some w0)))) (some 1) (refA bs x1_j33)) (some 2) (refA bs x2_j33))) (fun (xH_j67 : List (Int × Int × (List Int) × Int)) (x0_j67 : List ((Int × Int) × Bool)) => [hpI 72 (c_terms_Term bs) bs xH_j67, mapI (refOk2 bs) (refV2 bs) (fun x : Bool => .exact (.bool x)) w0 x0_j67]) (fun k67 h => ?_) (fun xH_j67 x0_j67 h => ?_)
                  · refine k_seq ?_
                    refine k_reg .free hmixP (by kernel_rfl) ?_
                    refine G_q rfl (op_move (av := refA bs x1_j33) rfl ?_)
                    obtain ⟨n85, h⟩ := need_some h
                    refine G_q rfl (op_nilC_ref rfl n85 ?_)
                    refine G_q rfl (op_field_hpt (o := 2) (by kernel_rfl) rfl ?_)
                    refine G_r rfl (op_load_hptH (i := x1_j33) (o := 2) (a := .row 1 (c_P_terms_Term bs) ((gi y2.2 x1_j33).2.2.1)) (by kernel_rfl) rfl rfl ?_)
                    refine G_q rfl (op_len_row (by kernel_rfl) rfl ?_)
                    refine G_q rfl (op_move (av := .exact (.int .i64 0)) rfl ?_)
                    refine G_nil ?_
                    refine kC_normal ?_
                    refine k_block ?_
                    refine k_loop3_0 (m_terms_Unifier_Unify_L2 self_terms_Unifier_Unify y2 x1_j33 x2_j33 k67) (m_terms_Unifier_Unify_B2 self_terms_Unifier_Unify y2 x1_j33 x2_j33 k67) (fun _ _ _ => rfl) (fun m _ _ _ => rfl) h (fun (xH_l2 : List (Int × Int × (List Int) × Int)) (x0_l2 : List ((Int × Int) × Bool)) (x108_l2 : Int) => (AF.put (AF.put (AF.put (AF.put (AF.put AF0 (some 0) (.exact (.map (some w0)))) (some 1) (refA bs x1_j33)) (some 2) (refA bs x2_j33)) (some 107) (.exact (.int .i64 (List.length ((gi y2.2 x1_j33).2.2.1) : Int)))) (some 108) (.exact (.int .i64 x108_l2)))) (fun (xH_l2 : List (Int × Int × (List Int) × Int)) (x0_l2 : List ((Int × Int) × Bool)) (x108_l2 : Int) => [hpI 72 (c_terms_Term bs) bs xH_l2, mapI (refOk2 bs) (refV2 bs) (fun x : Bool => .exact (.bool x)) w0 x0_l2]) ?_ (fun rec2 xH_l2 x0_l2 x108_l2 h => ?_)
                    · exact Sub.of_le (AF.le_put (AV.le_eq rfl) (AF.le_put (AV.le_eq rfl) (AF.le_put (AV.le_eq rfl) (AF.le_put (AV.le_eq rfl) (AF.le_put (AV.le_eq rfl) (AF.le_top _))))))
                    · unfold m_terms_Unifier_Unify_B2 at h
                      refine k_seq ?_
                      refine k_reg .free hmixP (by kernel_rfl) ?_
                      refine G_q rfl (op_lss rfl rfl ?_)
                      refine G_nil ?_
                      refine kC_normal ?_
                      refine k_seq ?_
                      refine k_cond_d (p := x108_l2 < (List.length ((gi y2.2 x1_j33).2.2.1) : Int)) rfl (fun hc => ?_) (fun hc => ?_)
                      · replace h := ite_t h hc
                        refine k_skip ?_
                        refine kC_normal ?_
                        refine k_seq ?_
                        refine k_block ?_
                        refine k_seq ?_
                        refine k_reg .free hmixP (by kernel_rfl) ?_
                        refine G_q rfl (op_move (av := .exact (.int .i64 x108_l2)) rfl ?_)
                        refine G_q rfl (op_assign (av := .exact (.int .i64 x108_l2)) rfl ?_)
                        refine G_nil ?_
                        refine kC_normal ?_
                        refine k_seq ?_
                        refine k_plan [] [(0, 0), (0, 1), (0, 2), (0, 3), (0, 5), (0, 8), (0, 9), (0, 10), (0, 12), (1, 4), (0, 6), (0, 7), (1, 11), (0, 13), (0, 14), (2, 15), (0, 16)] hmixP (by kernel_rfl) ?_
                        refine P_q no34_0 rfl (op_move (av := .exact (.map (some w0))) rfl ?_)
                        refine P_q no34_0 rfl (op_move (av := refA bs x1_j33) rfl ?_)
                        obtain ⟨n96, h⟩ := need_some h
                        refine P_q no34_0 rfl (op_nilC_ref rfl n96 ?_)
                        refine P_q no34_0 rfl (op_field_hpt (o := 2) (by kernel_rfl) rfl ?_)
                        refine P_q no34_0 rfl (op_move (av := .exact (.int .i64 x108_l2)) rfl ?_)
                        refine P_q no34_0 rfl (op_move (av := refA bs x2_j33) rfl ?_)
                        obtain ⟨n97, h⟩ := need_some h
                        refine P_q no34_0 rfl (op_nilC_ref rfl n97 ?_)
                        refine P_q no34_0 rfl (op_field_hpt (o := 2) (by kernel_rfl) rfl ?_)
                        refine P_q no34_0 rfl (op_move (av := .exact (.int .i64 x108_l2)) rfl ?_)
                        refine P_r rfl (op_load_hptH (i := x1_j33) (o := 2) (a := .row 1 (c_P_terms_Term bs) ((gi xH_l2 x1_j33).2.2.1)) (by kernel_rfl) rfl rfl ?_)
                        obtain ⟨n98, h⟩ := need_some h
                        refine P_q no34_0 rfl (op_index_row (by kernel_rfl) rfl rfl n98.1 n98.2 ?_)
                        refine P_q no34_0 rfl (op_load1p (a := refA bs (gi ((gi xH_l2 x1_j33).2.2.1) x108_l2)) (by kernel_rfl) rfl rfl ?_)
                        refine P_r rfl (op_load_hptH (i := x2_j33) (o := 2) (a := .row 1 (c_P_terms_Term bs) ((gi xH_l2 x2_j33).2.2.1)) (by kernel_rfl) rfl rfl ?_)
                        obtain ⟨n99, h⟩ := need_some h
                        refine P_q no34_0 rfl (op_index_row (by kernel_rfl) rfl rfl n99.1 n99.2 ?_)
                        refine P_q no34_0 rfl (op_load1p (a := refA bs (gi ((gi xH_l2 x2_j33).2.2.1) x108_l2)) (by kernel_rfl) rfl rfl ?_)
                        obtain ⟨y100, hy100, h⟩ := bnd1_some h
                        refine P_l rfl (opB_f1 (op_fun_2_0_2 (hself_terms_Unifier_Unify _ _ _ _ _ hy100) Tryd.func41 (by kernel_rfl) (LEs.cons (AV.le_eq rfl) (LEs.cons (AV.le_eq rfl) (LEs.cons (AV.le_eq rfl) LEs.nil))) ?_))
                        refine P_q no34_0 rfl (op_assign (av := .exact (.int .i64 y100.1)) rfl ?_)
                        refine P_nil ?_
                        refine kC_normal ?_
                        refine k_seq ?_
                        refine k_reg .free hmixP (by kernel_rfl) ?_
                        refine G_q rfl (op_move (av := .exact (.int .i64 y100.1)) rfl ?_)
                        refine G_q rfl (op_neq rfl rfl ?_)
                        refine G_nil ?_
                        refine kC_normal ?_
                        refine k_cond_d (p := ¬ y100.1 = 0) rfl (fun hc => ?_) (fun hc => ?_)
                        · replace h := ite_t h hc
                          refine k_seq ?_
                          refine k_reg .free hmixP (by kernel_rfl) ?_
                          refine G_q rfl (op_move (av := .exact (.int .i64 y100.1)) rfl ?_)
                          refine G_q rfl (op_assign (av := .exact (.int .i64 y100.1)) rfl ?_)
                          refine G_nil ?_
                          refine kC_normal ?_
                          refine k_ret ?_
                          refine kB_ret ?_
                          refine kC_ret ?_
                          refine kI_ret ?_
                          refine kB_ret ?_
                          refine kI_ret ?_
                          obtain rfl := Option.some.inj h
                          refine kP_any (endN (af' := (AF.put AF0 (some 6) (.exact (.int .i64 y100.1)))) (σ' := [mapI (refOk2 bs) (refV2 bs) (fun x : Bool => .exact (.bool x)) w0 y100.2.1, hpI 72 (c_terms_Term bs) bs y100.2.2]) _ rfl ?_ ⟨rfl, rfl⟩)
                          exact Sub.of_le (AF.le_put (AV.le_eq rfl) (AF.le_top _))
                        · replace h := ite_f h hc
                          refine k_skip ?_
                          refine kB_normal ?_
                          refine kC_normal ?_
                          refine k_reg .free hmixP (by kernel_rfl) ?_
                          refine G_q rfl (op_add rfl rfl rfl ?_)
                          refine G_q rfl (op_move (av := .exact (.int .i64 (i64 (x108_l2 + 1)))) rfl ?_)
                          refine G_nil ?_
                          refine kI_normal ⟨_, _, _, h, ?_⟩
                          refine Sub.trans (SubU.to SubU.f1) ?_
                          exact Sub.of_le (AF.le_put (AV.le_eq rfl) (AF.le_put (AV.le_eq rfl) (AF.le_put (AV.le_eq rfl) (AF.le_put (AV.le_eq rfl) (AF.le_put (AV.le_eq rfl) (AF.le_top _))))))
                      · replace h := ite_f h hc
                        refine k_exit ?_
                        refine kC_exit ?_
                        refine kI_exit ?_
                        refine kB_exit ?_
                        refine kI_normal ⟨_, _, h, ?_⟩
                        exact Sub.of_le (AF.le_put (AV.le_eq rfl) (AF.le_put (AV.le_eq rfl) (AF.le_put (AV.le_eq rfl) (AF.le_top _))))
                  · refine k_seq ?_
                    refine k_reg .free hmixP (by kernel_rfl) ?_
                    refine G_q rfl (op_move (av := .exact (.map (some w0))) rfl ?_)
                    refine G_q rfl (op_move (av := refA bs x1_j33) rfl ?_)
                    refine G_q rfl (op_move (av := refA bs x2_j33) rfl ?_)
                    refine G_q rfl (op_bld (c' := (c_A2_P_terms_Term bs) (x1_j33, x2_j33)) (CellsAll.cons rfl CellsOf.ref (CellsAll.cons rfl CellsOf.ref CellsAll.nil)) rfl (LEs.cons (AV.le_eq rfl) (LEs.cons (AV.le_eq rfl) LEs.nil)) ?_)
                    obtain ⟨n101, h⟩ := need_some h
                    refine G_l rfl (opB_f1 (op_mput (z := true) (keyOk_ref2 Tryd.underlying107 (by kernel_rfl) (by kernel_rfl) (by kernel_rfl) hnd) (fun _ _ hg => hp_W (List.Mem.tail _ (List.Mem.head _)) hg) Tryd.underlying67 rfl (keyAV_ref2 (k := (x1_j33, x2_j33)) rfl n101.1 n101.2) (AV.le_eq rfl) ?_))
                    refine G_nil ?_
                    refine kC_normal ?_
                    refine k_seq ?_
                    refine k_reg .free hmixP (by kernel_rfl) ?_
                    refine G_q rfl (op_assign (av := .exact (.int .i64 0)) rfl ?_)
                    refine G_nil ?_
                    refine kC_normal ?_
                    refine k_ret ?_
                    obtain rfl := Option.some.inj h
                    refine kP_any (endN (af' := (AF.put AF0 (some 6) (.exact (.int .i64 0)))) (σ' := [mapI (refOk2 bs) (refV2 bs) (fun x : Bool => .exact (.bool x)) w0 (putL x0_j67 (x1_j33, x2_j33) true), hpI 72 (c_terms_Term bs) bs xH_j67]) _ rfl ?_ ⟨rfl, rfl⟩)
                    exact Sub.of_le (AF.le_put (AV.le_eq rfl) (AF.le_top _))
set_option maxHeartbeats 4000000 in
theorem m_terms_Unifier_Unify_S_ok : ∀ n : Nat, (∀ ⦃w0 : Nat⦄ ⦃bs : List Nat⦄ (a0 : List ((Int × Int) × Bool)) (a1 : Int) (a2 : Int) (a3 : List (Int × Int × (List Int) × Int)) (r : Int × (List ((Int × Int) × Bool)) × (List (Int × Int × (List Int) × Int))), m_terms_Unifier_Unify_S n a0 a1 a2 a3 = some r → Fun Tryd.prog 41 [(.exact (.map (some w0))), (refA bs a1), (refA bs a2)] [mapI (refOk2 bs) (refV2 bs) (fun x : Bool => .exact (.bool x)) w0 a0, hpI 72 (c_terms_Term bs) bs a3] (fun a s => a = .exact (.int .i64 r.1) ∧ s = [mapI (refOk2 bs) (refV2 bs) (fun x : Bool => .exact (.bool x)) w0 r.2.1, hpI 72 (c_terms_Term bs) bs r.2.2]))
  | 0 => (fun _ _ _ _ _ _ _ h => by have h' : (none : Option _) = some _ := h; cases h')
  | n + 1 => by
    have ih := m_terms_Unifier_Unify_S_ok n
    exact fun w0 bs a0 a1 a2 a3 r h => m_terms_Unifier_Unify_F_ok (m_terms_Unifier_Unify_S n) ih a0 a1 a2 a3 r h
theorem m_terms_Unifier_Unify_ok {w0 : Nat} {bs : List Nat} (a0 : List ((Int × Int) × Bool)) (a1 : Int) (a2 : Int) (a3 : List (Int × Int × (List Int) × Int)) (r : Int × (List ((Int × Int) × Bool)) × (List (Int × Int × (List Int) × Int))) (h : m_terms_Unifier_Unify a0 a1 a2 a3 = some r) : Fun Tryd.prog 41 [(.exact (.map (some w0))), (refA bs a1), (refA bs a2)] [mapI (refOk2 bs) (refV2 bs) (fun x : Bool => .exact (.bool x)) w0 a0, hpI 72 (c_terms_Term bs) bs a3] (fun a s => a = .exact (.int .i64 r.1) ∧ s = [mapI (refOk2 bs) (refV2 bs) (fun x : Bool => .exact (.bool x)) w0 r.2.1, hpI 72 (c_terms_Term bs) bs r.2.2]) := (m_terms_Unifier_Unify_S_ok FU) a0 a1 a2 a3 r h
set_option maxHeartbeats 4000000 in
theorem m_terms_Measure_F_ok {w1 : Nat} {bs : List Nat} (self_terms_Measure : Int → (List (Int × (Int × Int))) → (List (Int × Int × (List Int) × Int)) → Option ((Int × Int) × (List (Int × (Int × Int))) × (List (Int × Int × (List Int) × Int)))) (hself_terms_Measure : ∀ ⦃w1 : Nat⦄ ⦃bs : List Nat⦄ (a0 : Int) (a1 : List (Int × (Int × Int))) (a2 : List (Int × Int × (List Int) × Int)) (r : (Int × Int) × (List (Int × (Int × Int))) × (List (Int × Int × (List Int) × Int))), self_terms_Measure a0 a1 a2 = some r → Fun Tryd.prog 75 [(refA bs a0), (.exact (.map (some w1)))] [mapI (refOk bs) (refV bs) (fun x : Int × Int => .agg (c_terms_Extent x)) w1 a1, hpI 72 (c_terms_Term bs) bs a2] (fun a s => a = .agg (c_terms_Extent r.1) ∧ s = [mapI (refOk bs) (refV bs) (fun x : Int × Int => .agg (c_terms_Extent x)) w1 r.2.1, hpI 72 (c_terms_Term bs) bs r.2.2])) (a0 : Int) (a1 : List (Int × (Int × Int))) (a2 : List (Int × Int × (List Int) × Int)) (r : (Int × Int) × (List (Int × (Int × Int))) × (List (Int × Int × (List Int) × Int))) (h : m_terms_Measure_F self_terms_Measure a0 a1 a2 = some r) : Fun Tryd.prog 75 [(refA bs a0), (.exact (.map (some w1)))] [mapI (refOk bs) (refV bs) (fun x : Int × Int => .agg (c_terms_Extent x)) w1 a1, hpI 72 (c_terms_Term bs) bs a2] (fun a s => a = .agg (c_terms_Extent r.1) ∧ s = [mapI (refOk bs) (refV bs) (fun x : Int × Int => .agg (c_terms_Extent x)) w1 r.2.1, hpI 72 (c_terms_Term bs) bs r.2.2]) := by
  unfold m_terms_Measure_F at h
  refine fun_nd (List.Mem.tail _ (List.Mem.head _)) (fun hnd => ?_)
  refine fun_of_awp_cell (sz := 2) Tryd.func75 rfl Tryd.ntmps75 (by simp) rfl (by kernel_rfl) fun E hE => k_end ?_
  refine k_seq ?_
  refine k_reg .free hmixP (by kernel_rfl) ?_
  refine G_l rfl (op_alloc (c := [.exact (.int .i64 ((0, 0).1)), .exact (.int .i64 ((0, 0).2))]) rfl (LEs.cons (AV.le_eq rfl) (LEs.cons (AV.le_eq rfl) LEs.nil)) (fun b1 => ?_))
  refine G_nil ?_
  refine kC_normal ?_
  refine k_seq ?_
  refine k_reg .free hmixP (by kernel_rfl) ?_
  refine G_q rfl (op_move (av := refA bs a0) rfl ?_)
  obtain ⟨y2, hy2, h⟩ := bnd1_some h
  refine G_l rfl (opB_f2 (op_fun_1_0_1 (m_terms_Term_Find_ok _ _ _ hy2) Tryd.func73 (by kernel_rfl) (LEs.cons (AV.le_eq rfl) LEs.nil) ?_))
  refine G_q rfl (op_assign (av := refA bs y2.1) rfl ?_)
  refine G_nil ?_
  refine kC_normal ?_
  refine k_seq ?_
  refine k_seq ?_
  refine k_reg .free hmixP (by kernel_rfl) ?_
  refine G_q rfl (op_move (av := .exact (.map (some w1))) rfl ?_)
  refine G_q rfl (op_move (av := refA bs y2.1) rfl ?_)
  obtain ⟨n3, h⟩ := need_some h
  refine G_r rfl (op_mlook2 (z := ((0, 0) : Int × Int)) (List.Mem.tail _ (List.Mem.tail _ (List.Mem.head _))) (keyOk_ref (by kernel_rfl) hnd) (fun _ _ hg => hp_W (List.Mem.head _) hg) Tryd.underlying113 (fun _ w => ⟨_, Tryd.zeroValue111 w, (zp_agg (Fit.ex (Fit.ex Fit.nil0)))⟩) rfl (keyAV_ref rfl n3) ?_)
  refine G_q rfl (op_move (av := .tup [.agg (c_terms_Extent (Option.getD (lookL a1 y2.1) (0, 0))), .exact (.bool (Option.isSome (lookL a1 y2.1)))]) rfl ?_)
  refine G_q rfl (op_extract (av := .agg (c_terms_Extent (Option.getD (lookL a1 y2.1) (0, 0)))) rfl rfl ?_)
  refine G_q rfl (op_extract (av := .exact (.bool (Option.isSome (lookL a1 y2.1)))) rfl rfl ?_)
  refine G_l rfl (op_alloc (c := [.exact (.int .i64 ((0, 0).1)), .exact (.int .i64 ((0, 0).2))]) rfl (LEs.cons (AV.le_eq rfl) (LEs.cons (AV.le_eq rfl) LEs.nil)) (fun b4 => ?_))
  refine G_l rfl (op_store_box (c' := [.exact (.int .i64 ((Option.getD (lookL a1 y2.1) (0, 0)).1)), .exact (.int .i64 ((Option.getD (lookL a1 y2.1) (0, 0)).2))]) (c3 := [.exact (.int .i64 ((Option.getD (lookL a1 y2.1) (0, 0)).1)), .exact (.int .i64 ((Option.getD (lookL a1 y2.1) (0, 0)).2))]) rfl rfl CellsOf.agg (LEs.cons (AV.le_eq rfl) (LEs.cons (AV.le_eq rfl) LEs.nil)) (oc_c_terms_Extent _) (by kernel_rfl) (Nat.le_of_ble_eq_true rfl) rfl ?_)
  refine G_q rfl (op_assign (av := .exact (.bool (Option.isSome (lookL a1 y2.1)))) rfl ?_)
  refine G_nil ?_
  refine kC_normal ?_
  refine k_seq ?_
  refine k_reg .free hmixP (by kernel_rfl) ?_
  refine G_q rfl (op_move (av := .exact (.bool (Option.isSome (lookL a1 y2.1)))) rfl ?_)
  refine G_nil ?_
  refine kC_normal ?_
  refine k_cond_b (c := (Option.isSome (lookL a1 y2.1))) rfl (fun hc => ?_) (fun hc => ?_)
  · replace h := ite_t h hc
    refine k_seq ?_
    refine k_reg .free hmixP (by kernel_rfl) ?_
    refine G_r rfl (op_load_boxN (m := 2) (c' := c_terms_Extent ((Option.getD (lookL a1 y2.1) (0, 0)).1, (Option.getD (lookL a1 y2.1) (0, 0)).2)) (by kernel_rfl) rfl rfl rfl ?_)
    refine G_l rfl (opB_f2 (op_store_box (c' := [.exact (.int .i64 (((Option.getD (lookL a1 y2.1) (0, 0)).1, (Option.getD (lookL a1 y2.1) (0, 0)).2).1)), .exact (.int .i64 (((Option.getD (lookL a1 y2.1) (0, 0)).1, (Option.getD (lookL a1 y2.1) (0, 0)).2).2))]) (c3 := [.exact (.int .i64 (((Option.getD (lookL a1 y2.1) (0, 0)).1, (Option.getD (lookL a1 y2.1) (0, 0)).2).1)), .exact (.int .i64 (((Option.getD (lookL a1 y2.1) (0, 0)).1, (Option.getD (lookL a1 y2.1) (0, 0)).2).2))]) rfl rfl CellsOf.agg (LEs.cons (AV.le_eq rfl) (LEs.cons (AV.le_eq rfl) LEs.nil)) (oc_c_terms_Extent _) (by kernel_rfl) (Nat.le_of_ble_eq_true rfl) rfl ?_))
    refine G_nil ?_
    refine kC_normal ?_
    refine k_ret ?_
    refine kC_ret ?_
    obtain rfl := Option.some.inj h
    refine kP_any (endC (af' := (AF.put AF0 (some 4) (.ptr (c_terms_Extent (((Option.getD (lookL a1 y2.1) (0, 0)).1, (Option.getD (lookL a1 y2.1) (0, 0)).2).1, ((Option.getD (lookL a1 y2.1) (0, 0)).1, (Option.getD (lookL a1 y2.1) (0, 0)).2).2))))) (σ' := [mapI (refOk bs) (refV bs) (fun x : Int × Int => .agg (c_terms_Extent x)) w1 a1, hpI 72 (c_terms_Term bs) bs y2.2]) (c := c_terms_Extent (((Option.getD (lookL a1 y2.1) (0, 0)).1, (Option.getD (lookL a1 y2.1) (0, 0)).2).1, ((Option.getD (lookL a1 y2.1) (0, 0)).1, (Option.getD (lookL a1 y2.1) (0, 0)).2).2)) ?_ rfl rfl ⟨rfl, rfl⟩)
    refine Sub.trans (SubU.to (SubU.freezeBox (s := 4) rfl)) ?_
    refine Sub.trans (SubU.to SubU.drop) ?_
    refine Sub.trans (SubU.to SubU.f1) ?_
    exact Sub.of_le (AF.le_put (AV.le_eq rfl) (AF.le_top _))
  · replace h := ite_f h hc
    refine k_skip ?_
    refine kC_normal ?_
    refine k_seq ?_
    refine k_reg .free hmixP (by kernel_rfl) ?_
    refine G_q rfl (op_bld (c' := c_terms_Extent (1, 0)) (CellsAll.cons rfl CellsOf.int (CellsAll.cons rfl CellsOf.int CellsAll.nil)) rfl (LEs.cons (AV.le_eq rfl) (LEs.cons (AV.le_eq rfl) LEs.nil)) ?_)
    refine G_l rfl (op_alloc (c := [.exact (.int .i64 ((0, 0).1)), .exact (.int .i64 ((0, 0).2))]) rfl (LEs.cons (AV.le_eq rfl) (LEs.cons (AV.le_eq rfl) LEs.nil)) (fun b5 => ?_))
    refine G_l rfl (op_store_box (c' := [.exact (.int .i64 ((1, 0).1)), .exact (.int .i64 ((1, 0).2))]) (c3 := [.exact (.int .i64 ((1, 0).1)), .exact (.int .i64 ((1, 0).2))]) rfl rfl CellsOf.agg (LEs.cons (AV.le_eq rfl) (LEs.cons (AV.le_eq rfl) LEs.nil)) (oc_c_terms_Extent _) (by kernel_rfl) (Nat.le_of_ble_eq_true rfl) rfl ?_)
    refine G_nil ?_
    refine kC_normal ?_
    refine k_join4_0 h (fun (xH_j6 : List (Int × Int × (List Int) × Int)) (x1_j6 : List (Int × (Int × Int))) (x7_0_j6 : Int) (x7_1_j6 : Int) => (AF.put (AF.put (AF.put (AF.put AF0 (some 0) (refA bs y2.1)) (some 1) (.exact (.map (some w1)))) (some 4) (pA b1 0)) (some 7) (pA b5 0))) (fun (xH_j6 : List (Int × Int × (List Int) × Int)) (x1_j6 : List (Int × (Int × Int))) (x7_0_j6 : Int) (x7_1_j6 : Int) => [hpI 72 (c_terms_Term bs) bs xH_j6, mapI (refOk bs) (refV bs) (fun x : Int × Int => .agg (c_terms_Extent x)) w1 x1_j6, boxI 111 b1 [.exact (.int .i64 ((0, 0).1)), .exact (.int .i64 ((0, 0).2))], boxI 111 b5 [.exact (.int .i64 x7_0_j6), .exact (.int .i64 x7_1_j6)]]) (fun k6 h => ?_) (fun xH_j6 x1_j6 x7_0_j6 x7_1_j6 h => ?_)
    · refine k_seq ?_
      refine k_reg .free hmixP (by kernel_rfl) ?_
      refine G_q rfl (op_move (av := refA bs y2.1) rfl ?_)
      obtain ⟨n18, h⟩ := need_some h
      refine G_q rfl (op_nilC_ref rfl n18 ?_)
      refine G_q rfl (op_field_hpt (o := 2) (by kernel_rfl) rfl ?_)
      refine G_r rfl (opR_f2 (op_load_hptH (i := y2.1) (o := 2) (a := .row 1 (c_P_terms_Term bs) ((gi y2.2 y2.1).2.2.1)) (by kernel_rfl) rfl rfl ?_))
      refine G_q rfl (op_len_row (by kernel_rfl) rfl ?_)
      refine G_q rfl (op_move (av := .exact (.int .i64 0)) rfl ?_)
      refine G_nil ?_
      refine kC_normal ?_
      refine k_block ?_
      refine k_loop5_0 (m_terms_Measure_L2 self_terms_Measure y2 k6) (m_terms_Measure_B2 self_terms_Measure y2 k6) (fun _ _ _ _ _ => rfl) (fun m _ _ _ _ _ => rfl) h (fun (xH_l2 : List (Int × Int × (List Int) × Int)) (x1_l2 : List (Int × (Int × Int))) (x7_0_l2 : Int) (x7_1_l2 : Int) (x27_l2 : Int) => (AF.put (AF.put (AF.put (AF.put (AF.put (AF.put (AF.put AF0 (some 0) (refA bs y2.1)) (some 1) (.exact (.map (some w1)))) (some 4) (pA b1 0)) (some 7) (pA b5 0)) (some 25) (.row 1 (c_P_terms_Term bs) ((gi y2.2 y2.1).2.2.1))) (some 26) (.exact (.int .i64 (List.length ((gi y2.2 y2.1).2.2.1) : Int)))) (some 27) (.exact (.int .i64 x27_l2)))) (fun (xH_l2 : List (Int × Int × (List Int) × Int)) (x1_l2 : List (Int × (Int × Int))) (x7_0_l2 : Int) (x7_1_l2 : Int) (x27_l2 : Int) => [hpI 72 (c_terms_Term bs) bs xH_l2, mapI (refOk bs) (refV bs) (fun x : Int × Int => .agg (c_terms_Extent x)) w1 x1_l2, boxI 111 b1 [.exact (.int .i64 ((0, 0).1)), .exact (.int .i64 ((0, 0).2))], boxI 111 b5 [.exact (.int .i64 x7_0_l2), .exact (.int .i64 x7_1_l2)]]) ?_ (fun rec2 xH_l2 x1_l2 x7_0_l2 x7_1_l2 x27_l2 h => ?_)
      · refine Sub.trans (SubU.to SubU.f1) ?_
        refine Sub.trans (SubU.to SubU.drop) ?_
        refine Sub.trans (SubU.to SubU.f2) ?_
        refine Sub.trans (SubU.to SubU.f3) ?_
        refine Sub.trans (SubU.to SubU.f3) ?_
        exact Sub.of_le (AF.le_put (AV.le_eq rfl) (AF.le_put (AV.le_eq rfl) (AF.le_put (AV.le_eq rfl) (AF.le_put (AV.le_eq rfl) (AF.le_put (AV.le_eq rfl) (AF.le_put (AV.le_eq rfl) (AF.le_put (AV.le_eq rfl) (AF.le_top _))))))))
      · unfold m_terms_Measure_B2 at h
        refine k_seq ?_
        refine k_reg .free hmixP (by kernel_rfl) ?_
        refine G_q rfl (op_lss rfl rfl ?_)
        refine G_nil ?_
        refine kC_normal ?_
        refine k_seq ?_
        refine k_cond_d (p := x27_l2 < (List.length ((gi y2.2 y2.1).2.2.1) : Int)) rfl (fun hc => ?_) (fun hc => ?_)
        · replace h := ite_t h hc
          refine k_skip ?_
          refine kC_normal ?_
          refine k_seq ?_
          refine k_block ?_
          refine k_seq ?_
          refine k_reg .free hmixP (by kernel_rfl) ?_
          obtain ⟨n25, h⟩ := need_some h
          refine G_q rfl (op_index_row (by kernel_rfl) rfl rfl n25.1 n25.2 ?_)
          refine G_q rfl (op_load1p (a := refA bs (gi ((gi y2.2 y2.1).2.2.1) x27_l2)) (by kernel_rfl) rfl rfl ?_)
          refine G_q rfl (op_assign (av := refA bs (gi ((gi y2.2 y2.1).2.2.1) x27_l2)) rfl ?_)
          refine G_nil ?_
          refine kC_normal ?_
          refine k_seq ?_
          refine k_reg .free hmixP (by kernel_rfl) ?_
          refine G_q rfl (op_move (av := refA bs (gi ((gi y2.2 y2.1).2.2.1) x27_l2)) rfl ?_)
          refine G_q rfl (op_move (av := .exact (.map (some w1))) rfl ?_)
          obtain ⟨y26, hy26, h⟩ := bnd1_some h
          refine G_l rfl (opB_f1 (op_fun_2_0_2 (hself_terms_Measure _ _ _ _ hy26) Tryd.func75 (by kernel_rfl) (LEs.cons (AV.le_eq rfl) (LEs.cons (AV.le_eq rfl) LEs.nil)) ?_))
          refine G_l rfl (op_alloc (c := [.exact (.int .i64 ((0, 0).1)), .exact (.int .i64 ((0, 0).2))]) rfl (LEs.cons (AV.le_eq rfl) (LEs.cons (AV.le_eq rfl) LEs.nil)) (fun b27 => ?_))
          refine G_l rfl (op_store_box (c' := [.exact (.int .i64 y26.1.1), .exact (.int .i64 y26.1.2)]) (c3 := [.exact (.int .i64 y26.1.1), .exact (.int .i64 y26.1.2)]) rfl rfl CellsOf.agg (LEs.cons (AV.le_eq rfl) (LEs.cons (AV.le_eq rfl) LEs.nil)) (oc_c_terms_Extent _) (by kernel_rfl) (Nat.le_of_ble_eq_true rfl) rfl ?_)
          refine G_nil ?_
          refine kC_normal ?_
          refine k_seq ?_
          refine k_reg .free hmixP (by kernel_rfl) ?_
          refine G_q rfl (op_fieldAddr (o := 0) (by kernel_rfl) rfl ?_)
          refine G_r rfl (opR_f4 (op_load_box1 (a := .exact (.int .i64 x7_0_l2)) (by kernel_rfl) rfl rfl ?_))
          refine G_q rfl (op_fieldAddr (o := 0) (by kernel_rfl) rfl ?_)
          refine G_r rfl (op_load_box1 (a := .exact (.int .i64 y26.1.1)) (by kernel_rfl) rfl rfl ?_)
          refine G_q rfl (op_add rfl rfl rfl ?_)
          refine G_q rfl (op_min rfl rfl ?_)
          refine G_q rfl (op_fieldAddr (o := 0) (by kernel_rfl) rfl ?_)
          refine G_l rfl (opB_f4 (op_store_box (c' := [.exact (.int .i64 (min (i64 (x7_0_l2 + y26.1.1)) 513))]) (c3 := [.exact (.int .i64 (min (i64 (x7_0_l2 + y26.1.1)) 513)), .exact (.int .i64 x7_1_l2)]) rfl rfl CellsOf.int (LEs.cons (AV.le_eq rfl) LEs.nil) (OneC.int OneC.nil) (by kernel_rfl) (Nat.le_of_ble_eq_true rfl) rfl ?_))
          refine G_nil ?_
          refine kC_normal ?_
          refine k_reg .free hmixP (by kernel_rfl) ?_
          refine G_q rfl (op_fieldAddr (o := 1) (by kernel_rfl) rfl ?_)
          refine G_r rfl (op_load_box1 (a := .exact (.int .i64 x7_1_l2)) (by kernel_rfl) rfl rfl ?_)
          refine G_q rfl (op_fieldAddr (o := 1) (by kernel_rfl) rfl ?_)
          refine G_r rfl (opR_f1 (op_load_box1 (a := .exact (.int .i64 y26.1.2)) (by kernel_rfl) rfl rfl ?_))
          refine G_q rfl (op_max rfl rfl ?_)
          refine G_q rfl (op_fieldAddr (o := 1) (by kernel_rfl) rfl ?_)
          refine G_l rfl (op_store_box (c' := [.exact (.int .i64 (max x7_1_l2 y26.1.2))]) (c3 := [.exact (.int .i64 (min (i64 (x7_0_l2 + y26.1.1)) 513)), .exact (.int .i64 (max x7_1_l2 y26.1.2))]) rfl rfl CellsOf.int (LEs.cons (AV.le_eq rfl) LEs.nil) (OneC.int OneC.nil) (by kernel_rfl) (Nat.le_of_ble_eq_true rfl) rfl ?_)
          refine G_nil ?_
          refine kB_normal ?_
          refine kC_normal ?_
          refine k_reg .free hmixP (by kernel_rfl) ?_
          refine G_q rfl (op_add rfl rfl rfl ?_)
          refine G_q rfl (op_move (av := .exact (.int .i64 (i64 (x27_l2 + 1)))) rfl ?_)
          refine G_nil ?_
          refine kI_normal ⟨_, _, _, _, _, h, ?_⟩
          refine Sub.trans (SubU.to SubU.f1) ?_
          refine Sub.trans (SubU.to SubU.drop) ?_
          refine Sub.trans (SubU.to SubU.f3) ?_
          refine Sub.trans (SubU.to SubU.f2) ?_
          refine Sub.trans (SubU.to SubU.f3) ?_
          exact Sub.of_le (AF.le_put (AV.le_eq rfl) (AF.le_put (AV.le_eq rfl) (AF.le_put (AV.le_eq rfl) (AF.le_put (AV.le_eq rfl) (AF.le_put (AV.le_eq rfl) (AF.le_put (AV.le_eq rfl) (AF.le_put (AV.le_eq rfl) (AF.le_top _))))))))
        · replace h := ite_f h hc
          refine k_exit ?_
          refine kC_exit ?_
          refine kI_exit ?_
          refine kB_exit ?_
          refine kI_normal ⟨_, _, _, _, h, ?_⟩
          exact Sub.of_le (AF.le_put (AV.le_eq rfl) (AF.le_put (AV.le_eq rfl) (AF.le_put (AV.le_eq rfl) (AF.le_put (AV.le_eq rfl) (AF.le_top _)))))
    · refine k_seq ?_
      refine k_reg .free hmixP (by kernel_rfl) ?_
      refine G_q rfl (op_fieldAddr (o := 1) (by kernel_rfl) rfl ?_)
      refine G_r rfl (opR_f3 (op_load_box1 (a := .exact (.int .i64 x7_1_j6)) (by kernel_rfl) rfl rfl ?_))
      refine G_q rfl (op_add rfl rfl rfl ?_)
      refine G_q rfl (op_fieldAddr (o := 1) (by kernel_rfl) rfl ?_)
      refine G_l rfl (opB_f3 (op_store_box (c' := [.exact (.int .i64 (i64 (x7_1_j6 + 1)))]) (c3 := [.exact (.int .i64 x7_0_j6), .exact (.int .i64 (i64 (x7_1_j6 + 1)))]) rfl rfl CellsOf.int (LEs.cons (AV.le_eq rfl) LEs.nil) (OneC.int OneC.nil) (by kernel_rfl) (Nat.le_of_ble_eq_true rfl) rfl ?_))
      refine G_nil ?_
      refine kC_normal ?_
      refine k_seq ?_
      refine k_reg .free hmixP (by kernel_rfl) ?_
      refine G_q rfl (op_move (av := .exact (.map (some w1))) rfl ?_)
      refine G_q rfl (op_move (av := refA bs y2.1) rfl ?_)
      refine G_r rfl (op_load_boxN (m := 2) (c' := c_terms_Extent (x7_0_j6, i64 (x7_1_j6 + 1))) (by kernel_rfl) rfl rfl rfl ?_)
      obtain ⟨n28, h⟩ := need_some h
      refine G_l rfl (opB_f2 (op_mput (z := (x7_0_j6, i64 (x7_1_j6 + 1))) (keyOk_ref (by kernel_rfl) hnd) (fun _ _ hg => hp_W (List.Mem.tail _ (List.Mem.tail _ (List.Mem.head _))) hg) Tryd.underlying113 rfl (keyAV_ref rfl n28) (AV.le_eq rfl) ?_))
      refine G_nil ?_
      refine kC_normal ?_
      refine k_seq ?_
      refine k_reg .free hmixP (by kernel_rfl) ?_
      refine G_r rfl (opR_f1 (op_load_boxN (m := 2) (c' := c_terms_Extent (x7_0_j6, i64 (x7_1_j6 + 1))) (by kernel_rfl) rfl rfl rfl ?_))
      refine G_l rfl (opB_f3 (op_store_box (c' := [.exact (.int .i64 ((x7_0_j6, i64 (x7_1_j6 + 1)).1)), .exact (.int .i64 ((x7_0_j6, i64 (x7_1_j6 + 1)).2))]) (c3 := [.exact (.int .i64 ((x7_0_j6, i64 (x7_1_j6 + 1)).1)), .exact (.int .i64 ((x7_0_j6, i64 (x7_1_j6 + 1)).2))]) rfl rfl CellsOf.agg (LEs.cons (AV.le_eq rfl) (LEs.cons (AV.le_eq rfl) LEs.nil)) (oc_c_terms_Extent _) (by kernel_rfl) (Nat.le_of_ble_eq_true rfl) rfl ?_))
      refine G_nil ?_
      refine kC_normal ?_
      refine k_ret ?_
      obtain rfl := Option.some.inj h
      refine kP_any (endC (af' := (AF.put AF0 (some 4) (.ptr (c_terms_Extent ((x7_0_j6, i64 (x7_1_j6 + 1)).1, (x7_0_j6, i64 (x7_1_j6 + 1)).2))))) (σ' := [mapI (refOk bs) (refV bs) (fun x : Int × Int => .agg (c_terms_Extent x)) w1 (putL x1_j6 y2.1 (x7_0_j6, i64 (x7_1_j6 + 1))), hpI 72 (c_terms_Term bs) bs xH_j6]) (c := c_terms_Extent ((x7_0_j6, i64 (x7_1_j6 + 1)).1, (x7_0_j6, i64 (x7_1_j6 + 1)).2)) ?_ rfl rfl ⟨rfl, rfl⟩)
      refine Sub.trans (SubU.to (SubU.freezeBox (s := 4) rfl)) ?_
      refine Sub.trans (SubU.to SubU.f1) ?_
      refine Sub.trans (SubU.to SubU.drop) ?_
      exact Sub.of_le (AF.le_put (AV.le_eq rfl) (AF.le_top _))
set_option maxHeartbeats 4000000 in
theorem m_terms_Measure_S_ok : ∀ n : Nat, (∀ ⦃w1 : Nat⦄ ⦃bs : List Nat⦄ (a0 : Int) (a1 : List (Int × (Int × Int))) (a2 : List (Int × Int × (List Int) × Int)) (r : (Int × Int) × (List (Int × (Int × Int))) × (List (Int × Int × (List Int) × Int))), m_terms_Measure_S n a0 a1 a2 = some r → Fun Tryd.prog 75 [(refA bs a0), (.exact (.map (some w1)))] [mapI (refOk bs) (refV bs) (fun x : Int × Int => .agg (c_terms_Extent x)) w1 a1, hpI 72 (c_terms_Term bs) bs a2] (fun a s => a = .agg (c_terms_Extent r.1) ∧ s = [mapI (refOk bs) (refV bs) (fun x : Int × Int => .agg (c_terms_Extent x)) w1 r.2.1, hpI 72 (c_terms_Term bs) bs r.2.2]))
  | 0 => (fun _ _ _ _ _ _ h => by have h' : (none : Option _) = some _ := h; cases h')
  | n + 1 => by
    have ih := m_terms_Measure_S_ok n
    exact fun w1 bs a0 a1 a2 r h => m_terms_Measure_F_ok (m_terms_Measure_S n) ih a0 a1 a2 r h
theorem m_terms_Measure_ok {w1 : Nat} {bs : List Nat} (a0 : Int) (a1 : List (Int × (Int × Int))) (a2 : List (Int × Int × (List Int) × Int)) (r : (Int × Int) × (List (Int × (Int × Int))) × (List (Int × Int × (List Int) × Int))) (h : m_terms_Measure a0 a1 a2 = some r) : Fun Tryd.prog 75 [(refA bs a0), (.exact (.map (some w1)))] [mapI (refOk bs) (refV bs) (fun x : Int × Int => .agg (c_terms_Extent x)) w1 a1, hpI 72 (c_terms_Term bs) bs a2] (fun a s => a = .agg (c_terms_Extent r.1) ∧ s = [mapI (refOk bs) (refV bs) (fun x : Int × Int => .agg (c_terms_Extent x)) w1 r.2.1, hpI 72 (c_terms_Term bs) bs r.2.2]) := (m_terms_Measure_S_ok FU) a0 a1 a2 r h
set_option maxHeartbeats 4000000 in
theorem m_terms_Fits_ok {bs : List Nat} (a0 : Int) (a1 : List (Int × Int × (List Int) × Int)) (r : Bool × (List (Int × Int × (List Int) × Int))) (h : m_terms_Fits a0 a1 = some r) : Fun Tryd.prog 42 [(refA bs a0)] [hpI 72 (c_terms_Term bs) bs a1] (fun a s => a = .exact (.bool r.1) ∧ s = [hpI 72 (c_terms_Term bs) bs r.2]) := by
  unfold m_terms_Fits at h
  refine fun_nd (List.Mem.head _) (fun hnd => ?_)
  refine fun_of_awp Tryd.func42 rfl Tryd.ntmps42 (by simp) rfl (res1 rfl) fun E hE => k_end ?_
  refine k_seq ?_
  refine k_reg .free hmixP (by kernel_rfl) ?_
  refine G_q rfl (op_assign (av := .exact (.bool false)) rfl ?_)
  refine G_nil ?_
  refine kC_normal ?_
  refine k_seq ?_
  refine k_reg .free hmixP (by kernel_rfl) ?_
  refine G_q rfl (op_move (av := refA bs a0) rfl ?_)
  refine G_l rfl (op_mnew (V := (refOk bs)) (kv := (refV bs)) (vv := (fun x : Int × Int => .agg (c_terms_Extent x))) (fun b1 => ?_))
  obtain ⟨y2, hy2, h⟩ := bnd1_some h
  refine G_l rfl (opB_f1 (opB_f1 (op_fun_2_0_2 (m_terms_Measure_ok _ _ _ _ hy2) Tryd.func75 (by kernel_rfl) (LEs.cons (AV.le_eq rfl) (LEs.cons (AV.le_eq rfl) LEs.nil)) ?_)))
  refine G_l rfl (op_alloc (c := [.exact (.int .i64 ((0, 0).1)), .exact (.int .i64 ((0, 0).2))]) rfl (LEs.cons (AV.le_eq rfl) (LEs.cons (AV.le_eq rfl) LEs.nil)) (fun b3 => ?_))
  refine G_l rfl (op_store_box (c' := [.exact (.int .i64 y2.1.1), .exact (.int .i64 y2.1.2)]) (c3 := [.exact (.int .i64 y2.1.1), .exact (.int .i64 y2.1.2)]) rfl rfl CellsOf.agg (LEs.cons (AV.le_eq rfl) (LEs.cons (AV.le_eq rfl) LEs.nil)) (oc_c_terms_Extent _) (by kernel_rfl) (Nat.le_of_ble_eq_true rfl) rfl ?_)
  refine G_nil ?_
  refine kC_normal ?_
  refine k_join1_0 h (fun (x2_j4 : Bool) => (AF.put AF0 (some 2) (.exact (.bool x2_j4)))) (fun (x2_j4 : Bool) => [hpI 72 (c_terms_Term bs) bs y2.2.2]) (fun k4 h => ?_) (fun x2_j4 h => ?_)
  · refine k_reg .free hmixP (by kernel_rfl) ?_
    refine G_q rfl (op_fieldAddr (o := 0) (by kernel_rfl) rfl ?_)
    refine G_r rfl (op_load_box1 (a := .exact (.int .i64 y2.1.1)) (by kernel_rfl) rfl rfl ?_)
    refine G_q rfl (op_leq rfl rfl ?_)
    refine G_q rfl (op_move (av := .exact (.bool (decide (y2.1.1 ≤ 512)))) rfl ?_)
    refine G_split (p := y2.1.1 ≤ 512) 10 rfl (fun hc => ?_) (fun hc => ?_)
    · replace h := ite_t h hc
      refine Gy_q rfl rfl rfl (op_fieldAddr (o := 1) (by kernel_rfl) rfl ?_)
      refine Gy_r rfl rfl rfl (op_load_box1 (a := .exact (.int .i64 y2.1.2)) (by kernel_rfl) rfl rfl ?_)
      refine Gy_q rfl rfl rfl (op_leq rfl rfl ?_)
      refine G_q rfl (op_pick_t rfl (av := .exact (.bool (decide (y2.1.2 ≤ 64)))) rfl ?_)
      refine G_q rfl (op_assign (av := .exact (.bool (decide (y2.1.2 ≤ 64)))) rfl ?_)
      refine G_nil ?_
      refine kI_normal ⟨_, h, ?_⟩
      refine Sub.trans (SubU.to SubU.drop) ?_
      refine Sub.trans (SubU.to SubU.drop) ?_
      exact Sub.of_le (AF.le_put (AV.le_eq rfl) (AF.le_top _))
    · replace h := ite_f h hc
      refine G_n rfl rfl ?_
      refine G_n rfl rfl ?_
      refine G_n rfl rfl ?_
      refine G_q rfl (op_pick_f rfl (av := .exact (.bool false)) rfl ?_)
      refine G_q rfl (op_assign (av := .exact (.bool false)) rfl ?_)
      refine G_nil ?_
      refine kI_normal ⟨_, h, ?_⟩
      refine Sub.trans (SubU.to SubU.drop) ?_
      refine Sub.trans (SubU.to SubU.drop) ?_
      exact Sub.of_le (AF.le_put (AV.le_eq rfl) (AF.le_top _))
  · refine k_ret ?_
    obtain rfl := Option.some.inj h
    refine kP_any (endN (af' := (AF.put AF0 (some 2) (.exact (.bool x2_j4)))) (σ' := [hpI 72 (c_terms_Term bs) bs y2.2.2]) _ rfl ?_ ⟨rfl, rfl⟩)
    exact Sub.of_le (AF.le_put (AV.le_eq rfl) (AF.le_top _))
set_option maxHeartbeats 4000000 in
theorem m_terms_Term_Write_F_ok {w1 : Value} {bs : List Nat} (self_terms_Term_Write : Int → (List (Int × Int × Int)) → (List (Int × Int × (List Int) × Int)) → Option ((List (Int × Int × Int)) × (List (Int × Int × (List Int) × Int)))) (hself_terms_Term_Write : ∀ ⦃w1 : Value⦄ ⦃bs : List Nat⦄ (a0 : Int) (a1 : List (Int × Int × Int)) (a2 : List (Int × Int × (List Int) × Int)) (r : (List (Int × Int × Int)) × (List (Int × Int × (List Int) × Int))), self_terms_Term_Write a0 a1 a2 = some r → Fun Tryd.prog 44 [(refA bs a0), (.exact w1)] [vecT Tryd.prog 22 3 c_api_TypeNode w1 a1, hpI 72 (c_terms_Term bs) bs a2] (fun a s => ∃ z0, a = .exact z0 ∧ s = [vecT Tryd.prog 22 3 c_api_TypeNode z0 r.1, hpI 72 (c_terms_Term bs) bs r.2])) (a0 : Int) (a1 : List (Int × Int × Int)) (a2 : List (Int × Int × (List Int) × Int)) (r : (List (Int × Int × Int)) × (List (Int × Int × (List Int) × Int))) (h : m_terms_Term_Write_F self_terms_Term_Write a0 a1 a2 = some r) : Fun Tryd.prog 44 [(refA bs a0), (.exact w1)] [vecT Tryd.prog 22 3 c_api_TypeNode w1 a1, hpI 72 (c_terms_Term bs) bs a2] (fun a s => ∃ z0, a = .exact z0 ∧ s = [vecT Tryd.prog 22 3 c_api_TypeNode z0 r.1, hpI 72 (c_terms_Term bs) bs r.2]) := by
  unfold m_terms_Term_Write_F at h
  refine fun_nd (List.Mem.tail _ (List.Mem.head _)) (fun hnd => ?_)
  refine fun_of_awp Tryd.func44 rfl Tryd.ntmps44 (by simp) rfl (res1 rfl) fun E hE => k_end ?_
  refine k_seq ?_
  refine k_reg .free hmixP (by kernel_rfl) ?_
  refine G_q rfl (op_assign (av := .exact (.slice none 0 0)) rfl ?_)
  refine G_nil ?_
  refine kC_normal ?_
  refine k_seq ?_
  refine k_reg .free hmixP (by kernel_rfl) ?_
  refine G_q rfl (op_move (av := refA bs a0) rfl ?_)
  obtain ⟨y1, hy1, h⟩ := bnd1_some h
  refine G_l rfl (opB_f1 (op_fun_1_0_1 (m_terms_Term_Find_ok _ _ _ hy1) Tryd.func73 (by kernel_rfl) (LEs.cons (AV.le_eq rfl) LEs.nil) ?_))
  refine G_q rfl (op_assign (av := refA bs y1.1) rfl ?_)
  refine G_nil ?_
  refine kC_normal ?_
  refine k_seq ?_
  refine k_plan [] [(0, 0), (0, 1), (0, 2), (0, 3), (0, 5), (0, 6), (0, 7), (0, 9), (0, 10), (0, 11), (1, 4), (1, 8), (1, 12), (0, 13), (0, 14), (0, 15), (2, 16), (0, 17)] hmixP (by kernel_rfl) ?_
  refine P_q no34_0 rfl (op_move (av := .exact w1) rfl ?_)
  refine P_q no34_0 rfl (op_move (av := refA bs y1.1) rfl ?_)
  obtain ⟨n2, h⟩ := need_some h
  refine P_q no34_0 rfl (op_nilC_ref rfl n2 ?_)
  refine P_q no34_0 rfl (op_field_hpt (o := 0) (by kernel_rfl) rfl ?_)
  refine P_q no34_0 rfl (op_move (av := refA bs y1.1) rfl ?_)
  obtain ⟨n3, h⟩ := need_some h
  refine P_q no34_0 rfl (op_nilC_ref rfl n3 ?_)
  refine P_q no34_0 rfl (op_field_hpt (o := 1) (by kernel_rfl) rfl ?_)
  refine P_q no34_0 rfl (op_move (av := refA bs y1.1) rfl ?_)
  obtain ⟨n4, h⟩ := need_some h
  refine P_q no34_0 rfl (op_nilC_ref rfl n4 ?_)
  refine P_q no34_0 rfl (op_field_hpt (o := 2) (by kernel_rfl) rfl ?_)
  refine P_r rfl (op_load_hptH (i := y1.1) (o := 0) (a := .exact (.int .i64 ((gi y1.2 y1.1).1))) (by kernel_rfl) rfl rfl ?_)
  refine P_r rfl (op_load_hptH (i := y1.1) (o := 1) (a := .exact (.int .i64 ((gi y1.2 y1.1).2.1))) (by kernel_rfl) rfl rfl ?_)
  refine P_r rfl (op_load_hptH (i := y1.1) (o := 2) (a := .row 1 (c_P_terms_Term bs) ((gi y1.2 y1.1).2.2.1)) (by kernel_rfl) rfl rfl ?_)
  refine P_q no34_0 rfl (op_len_row (by kernel_rfl) rfl ?_)
  refine P_q no34_0 rfl (op_bld (c' := c_api_TypeNode ((gi y1.2 y1.1).1, (gi y1.2 y1.1).2.1, (List.length ((gi y1.2 y1.1).2.2.1) : Int))) (CellsAll.cons rfl CellsOf.int (CellsAll.cons rfl CellsOf.int (CellsAll.cons rfl CellsOf.int CellsAll.nil))) rfl (LEs.cons (AV.le_eq rfl) (LEs.cons (AV.le_eq rfl) (LEs.cons (AV.le_eq rfl) LEs.nil))) ?_)
  refine P_q no34_0 rfl (op_litT (n := 3) (enc := c_api_TypeNode) [((gi y1.2 y1.1).1, (gi y1.2 y1.1).2.1, (List.length ((gi y1.2 y1.1).2.2.1) : Int))] (CellsAll.cons rfl CellsOf.agg CellsAll.nil) rfl (by kernel_rfl) (LEss.cons (LEs.cons (AV.le_eq rfl) (LEs.cons (AV.le_eq rfl) (LEs.cons (AV.le_eq rfl) LEs.nil))) LEss.nil) ?_)
  obtain ⟨n5, h⟩ := need_some h
  refine P_l rfl (opB_f1 (op_appT (by kernel_rfl) rfl rfl oc_c_api_TypeNode n5 (fun v6 => ?_)))
  refine P_q no34_0 rfl (op_assign (av := .exact v6) rfl ?_)
  refine P_nil ?_
  refine kC_normal ?_
  refine k_join2_1 h (fun (xH_j7 : List (Int × Int × (List Int) × Int)) (x1_j7 : List (Int × Int × Int)) (v1_j7 : Value) => (AF.put AF0 (some 1) (.exact v1_j7))) (fun (xH_j7 : List (Int × Int × (List Int) × Int)) (x1_j7 : List (Int × Int × Int)) (v1_j7 : Value) => [hpI 72 (c_terms_Term bs) bs xH_j7, vecT Tryd.prog 22 3 c_api_TypeNode v1_j7 x1_j7]) (fun k7 h => ?_) (fun xH_j7 x1_j7 v1_j7 h => ?_)
  · refine k_seq ?_
    refine k_reg .free hmixP (by kernel_rfl) ?_
    refine G_q rfl (op_move (av := refA bs y1.1) rfl ?_)
    obtain ⟨n19, h⟩ := need_some h
    refine G_q rfl (op_nilC_ref rfl n19 ?_)
    refine G_q rfl (op_field_hpt (o := 2) (by kernel_rfl) rfl ?_)
    refine G_r rfl (opR_f1 (op_load_hptH (i := y1.1) (o := 2) (a := .row 1 (c_P_terms_Term bs) ((gi y1.2 y1.1).2.2.1)) (by kernel_rfl) rfl rfl ?_))
    refine G_q rfl (op_len_row (by kernel_rfl) rfl ?_)
    refine G_q rfl (op_move (av := .exact (.int .i64 0)) rfl ?_)
    refine G_nil ?_
    refine kC_normal ?_
    refine k_block ?_
    refine k_loop3_1 (m_terms_Term_Write_L2 self_terms_Term_Write y1 k7) (m_terms_Term_Write_B2 self_terms_Term_Write y1 k7) (fun _ _ _ => rfl) (fun m _ _ _ => rfl) h (fun (xH_l2 : List (Int × Int × (List Int) × Int)) (x1_l2 : List (Int × Int × Int)) (x31_l2 : Int) (v1_l2 : Value) => (AF.put (AF.put (AF.put (AF.put AF0 (some 1) (.exact v1_l2)) (some 29) (.row 1 (c_P_terms_Term bs) ((gi y1.2 y1.1).2.2.1))) (some 30) (.exact (.int .i64 (List.length ((gi y1.2 y1.1).2.2.1) : Int)))) (some 31) (.exact (.int .i64 x31_l2)))) (fun (xH_l2 : List (Int × Int × (List Int) × Int)) (x1_l2 : List (Int × Int × Int)) (x31_l2 : Int) (v1_l2 : Value) => [hpI 72 (c_terms_Term bs) bs xH_l2, vecT Tryd.prog 22 3 c_api_TypeNode v1_l2 x1_l2]) v6 ?_ (fun rec2 xH_l2 x1_l2 x31_l2 v1_l2 h => ?_)
    · refine Sub.trans (SubU.to SubU.f1) ?_
      exact Sub.of_le (AF.le_put (AV.le_eq rfl) (AF.le_put (AV.le_eq rfl) (AF.le_put (AV.le_eq rfl) (AF.le_put (AV.le_eq rfl) (AF.le_top _)))))
    · unfold m_terms_Term_Write_B2 at h
      refine k_seq ?_
      refine k_reg .free hmixP (by kernel_rfl) ?_
      refine G_q rfl (op_lss rfl rfl ?_)
      refine G_nil ?_
      refine kC_normal ?_
      refine k_seq ?_
      refine k_cond_d (p := x31_l2 < (List.length ((gi y1.2 y1.1).2.2.1) : Int)) rfl (fun hc => ?_) (fun hc => ?_)
      · replace h := ite_t h hc
        refine k_skip ?_
        refine kC_normal ?_
        refine k_seq ?_
        refine k_block ?_
        refine k_seq ?_
        refine k_reg .free hmixP (by kernel_rfl) ?_
        obtain ⟨n26, h⟩ := need_some h
        refine G_q rfl (op_index_row (by kernel_rfl) rfl rfl n26.1 n26.2 ?_)
        refine G_q rfl (op_load1p (a := refA bs (gi ((gi y1.2 y1.1).2.2.1) x31_l2)) (by kernel_rfl) rfl rfl ?_)
        refine G_q rfl (op_assign (av := refA bs (gi ((gi y1.2 y1.1).2.2.1) x31_l2)) rfl ?_)
        refine G_nil ?_
        refine kC_normal ?_
        refine k_reg .free hmixP (by kernel_rfl) ?_
        refine G_q rfl (op_move (av := refA bs (gi ((gi y1.2 y1.1).2.2.1) x31_l2)) rfl ?_)
        refine G_q rfl (op_move (av := .exact v1_l2) rfl ?_)
        obtain ⟨y27, hy27, h⟩ := bnd1_some h
        refine G_l rfl (opB_f1 (op_fun_2_1_2 (hself_terms_Term_Write _ _ _ _ hy27) Tryd.func44 (by kernel_rfl) (LEs.cons (AV.le_eq rfl) (LEs.cons (AV.le_eq rfl) LEs.nil)) (fun v28 => ?_)))
        refine G_q rfl (op_assign (av := .exact v28) rfl ?_)
        refine G_nil ?_
        refine kB_normal ?_
        refine kC_normal ?_
        refine k_reg .free hmixP (by kernel_rfl) ?_
        refine G_q rfl (op_add rfl rfl rfl ?_)
        refine G_q rfl (op_move (av := .exact (.int .i64 (i64 (x31_l2 + 1)))) rfl ?_)
        refine G_nil ?_
        refine kI_normal ⟨_, _, _, v28, h, ?_⟩
        refine Sub.trans (SubU.to SubU.f1) ?_
        exact Sub.of_le (AF.le_put (AV.le_eq rfl) (AF.le_put (AV.le_eq rfl) (AF.le_put (AV.le_eq rfl) (AF.le_put (AV.le_eq rfl) (AF.le_top _)))))
      · replace h := ite_f h hc
        refine k_exit ?_
        refine kC_exit ?_
        refine kI_exit ?_
        refine kB_exit ?_
        refine kI_normal ⟨_, _, v1_l2, h, ?_⟩
        exact Sub.of_le (AF.le_put (AV.le_eq rfl) (AF.le_top _))
  · refine k_seq ?_
    refine k_reg .free hmixP (by kernel_rfl) ?_
    refine G_q rfl (op_move (av := .exact v1_j7) rfl ?_)
    refine G_q rfl (op_assign (av := .exact v1_j7) rfl ?_)
    refine G_nil ?_
    refine kC_normal ?_
    refine k_ret ?_
    obtain rfl := Option.some.inj h
    refine kP_any (endN (af' := (AF.put AF0 (some 4) (.exact v1_j7))) (σ' := [vecT Tryd.prog 22 3 c_api_TypeNode v1_j7 x1_j7, hpI 72 (c_terms_Term bs) bs xH_j7]) _ rfl ?_ ⟨v1_j7, rfl, rfl⟩)
    refine Sub.trans (SubU.to SubU.f1) ?_
    exact Sub.of_le (AF.le_put (AV.le_eq rfl) (AF.le_top _))
set_option maxHeartbeats 4000000 in
theorem m_terms_Term_Write_S_ok : ∀ n : Nat, (∀ ⦃w1 : Value⦄ ⦃bs : List Nat⦄ (a0 : Int) (a1 : List (Int × Int × Int)) (a2 : List (Int × Int × (List Int) × Int)) (r : (List (Int × Int × Int)) × (List (Int × Int × (List Int) × Int))), m_terms_Term_Write_S n a0 a1 a2 = some r → Fun Tryd.prog 44 [(refA bs a0), (.exact w1)] [vecT Tryd.prog 22 3 c_api_TypeNode w1 a1, hpI 72 (c_terms_Term bs) bs a2] (fun a s => ∃ z0, a = .exact z0 ∧ s = [vecT Tryd.prog 22 3 c_api_TypeNode z0 r.1, hpI 72 (c_terms_Term bs) bs r.2]))
  | 0 => (fun _ _ _ _ _ _ h => by have h' : (none : Option _) = some _ := h; cases h')
  | n + 1 => by
    have ih := m_terms_Term_Write_S_ok n
    exact fun w1 bs a0 a1 a2 r h => m_terms_Term_Write_F_ok (m_terms_Term_Write_S n) ih a0 a1 a2 r h
theorem m_terms_Term_Write_ok {w1 : Value} {bs : List Nat} (a0 : Int) (a1 : List (Int × Int × Int)) (a2 : List (Int × Int × (List Int) × Int)) (r : (List (Int × Int × Int)) × (List (Int × Int × (List Int) × Int))) (h : m_terms_Term_Write a0 a1 a2 = some r) : Fun Tryd.prog 44 [(refA bs a0), (.exact w1)] [vecT Tryd.prog 22 3 c_api_TypeNode w1 a1, hpI 72 (c_terms_Term bs) bs a2] (fun a s => ∃ z0, a = .exact z0 ∧ s = [vecT Tryd.prog 22 3 c_api_TypeNode z0 r.1, hpI 72 (c_terms_Term bs) bs r.2]) := (m_terms_Term_Write_S_ok FU) a0 a1 a2 r h
set_option maxHeartbeats 4000000 in
theorem m_slices_Clip_L_api_TypeNode_api_TypeNode_ok (a0 : List (Int × Int × Int)) (r : (List (Int × Int × Int))) (h : m_slices_Clip_L_api_TypeNode_api_TypeNode a0 = some r) : Pure Tryd.prog 43 [(.row 3 c_api_TypeNode a0)] (.row 3 c_api_TypeNode r) := by
  unfold m_slices_Clip_L_api_TypeNode_api_TypeNode at h
  refine Pure.ofFun (fun_of_awp Tryd.func43 rfl Tryd.ntmps43 (by simp) rfl (res1 rfl) fun E hE => k_end ?_)
  refine k_seq ?_
  refine k_reg .free hmixP (by kernel_rfl) ?_
  refine G_q rfl (op_assign (av := .exact (.slice none 0 0)) rfl ?_)
  refine G_nil ?_
  refine kC_normal ?_
  refine k_seq ?_
  refine k_reg .free hmixP (by kernel_rfl) ?_
  refine G_q rfl (op_move (av := .row 3 c_api_TypeNode a0) rfl ?_)
  refine G_q rfl (op_move (av := .row 3 c_api_TypeNode a0) rfl ?_)
  refine G_q rfl (op_len_row (by kernel_rfl) rfl ?_)
  refine G_q rfl (op_move (av := .row 3 c_api_TypeNode a0) rfl ?_)
  refine G_q rfl (op_len_row (by kernel_rfl) rfl ?_)
  obtain ⟨n1, h⟩ := need_some h
  refine G_q rfl (op_slice_row3 (by kernel_rfl) rfl bnd_none rfl rfl (Int.le_refl 0) n1 (Int.le_refl _) (Int.le_refl _) ?_)
  refine G_q rfl (op_assign (av := .row 3 c_api_TypeNode (List.take (Int.toNat (List.length a0 : Int)) a0)) rfl ?_)
  refine G_nil ?_
  refine kC_normal ?_
  refine k_ret ?_
  obtain rfl := Option.some.inj h
  refine kP_any (endN (af' := (AF.put AF0 (some 2) (.row 3 c_api_TypeNode (List.take (Int.toNat (List.length a0 : Int)) a0)))) (σ' := []) _ rfl ?_ ⟨rfl, rfl⟩)
  exact Sub.of_le (AF.le_put (AV.le_eq rfl) (AF.le_top _))
set_option maxHeartbeats 4000000 in
theorem m_slices_Clip_L_api_Binding_api_Binding_ok (a0 : List (Int × (List (Int × Int × Int)))) (r : (List (Int × (List (Int × Int × Int))))) (h : m_slices_Clip_L_api_Binding_api_Binding a0 = some r) : Pure Tryd.prog 47 [(.row 2 c_api_Binding a0)] (.row 2 c_api_Binding r) := by
  unfold m_slices_Clip_L_api_Binding_api_Binding at h
  refine Pure.ofFun (fun_of_awp Tryd.func47 rfl Tryd.ntmps47 (by simp) rfl (res1 rfl) fun E hE => k_end ?_)
  refine k_seq ?_
  refine k_reg .free hmixP (by kernel_rfl) ?_
  refine G_q rfl (op_assign (av := .exact (.slice none 0 0)) rfl ?_)
  refine G_nil ?_
  refine kC_normal ?_
  refine k_seq ?_
  refine k_reg .free hmixP (by kernel_rfl) ?_
  refine G_q rfl (op_move (av := .row 2 c_api_Binding a0) rfl ?_)
  refine G_q rfl (op_move (av := .row 2 c_api_Binding a0) rfl ?_)
  refine G_q rfl (op_len_row (by kernel_rfl) rfl ?_)
  refine G_q rfl (op_move (av := .row 2 c_api_Binding a0) rfl ?_)
  refine G_q rfl (op_len_row (by kernel_rfl) rfl ?_)
  obtain ⟨n1, h⟩ := need_some h
  refine G_q rfl (op_slice_row3 (by kernel_rfl) rfl bnd_none rfl rfl (Int.le_refl 0) n1 (Int.le_refl _) (Int.le_refl _) ?_)
  refine G_q rfl (op_assign (av := .row 2 c_api_Binding (List.take (Int.toNat (List.length a0 : Int)) a0)) rfl ?_)
  refine G_nil ?_
  refine kC_normal ?_
  refine k_ret ?_
  obtain rfl := Option.some.inj h
  refine kP_any (endN (af' := (AF.put AF0 (some 2) (.row 2 c_api_Binding (List.take (Int.toNat (List.length a0 : Int)) a0)))) (σ' := []) _ rfl ?_ ⟨rfl, rfl⟩)
  exact Sub.of_le (AF.le_put (AV.le_eq rfl) (AF.le_top _))
set_option maxHeartbeats 4000000 in
theorem m_types_Unify_ok (a0 : List (Int × Int × Int)) (a1 : List (Int × Int × Int)) (r : (List (Int × (List (Int × Int × Int)))) × Int) (h : m_types_Unify a0 a1 = some r) : Pure Tryd.prog 12 [(.row 3 c_api_TypeNode a0), (.row 3 c_api_TypeNode a1)] (.tup [.row 2 c_api_Binding r.1, .exact (.int .i64 r.2)]) := by
  unfold m_types_Unify at h
  refine Pure.ofFun (fun_of_awp Tryd.func12 rfl Tryd.ntmps12 (by simp) rfl (res2 rfl) fun E hE => k_end ?_)
  refine k_seq ?_
  refine k_reg .free hmixP (by kernel_rfl) ?_
  refine G_q rfl (op_assign (av := .exact (.slice none 0 0)) rfl ?_)
  refine G_q rfl (op_assign (av := .exact (.int .i64 0)) rfl ?_)
  refine G_nil ?_
  refine kC_normal ?_
  refine k_seq ?_
  refine k_join1_0 h (fun (x22_j7 : Bool) => (AF.put (AF.put (AF.put AF0 (some 0) (.row 3 c_api_TypeNode a0)) (some 1) (.row 3 c_api_TypeNode a1)) (some 22) (.exact (.bool x22_j7)))) (fun (x22_j7 : Bool) => []) (fun k7 h => ?_) (fun x22_j7 h => ?_)
  · refine k_reg .free hmixP (by kernel_rfl) ?_
    refine G_q rfl (op_move (av := .row 3 c_api_TypeNode a0) rfl ?_)
    obtain ⟨y10, hy10, h⟩ := bnd1_some h
    refine G_q rfl (op_pure (m_types_Valid_ok _ _ hy10) Tryd.func29 (by kernel_rfl) (LEs.cons (AV.le_eq rfl) LEs.nil) ?_)
    refine G_q rfl (op_not rfl ?_)
    refine G_q rfl (op_move (av := .exact (.bool (!y10))) rfl ?_)
    refine G_splitB (c := !y10) 18 rfl (fun hc => ?_) (fun hc => ?_)
    · replace h := ite_t h hc
      refine G_n rfl rfl ?_
      refine G_n rfl rfl ?_
      refine G_n rfl rfl ?_
      refine G_q rfl (op_pick_t rfl (av := .exact (.bool true)) rfl ?_)
      refine G_nil ?_
      refine kI_normal ⟨_, h, ?_⟩
      exact Sub.of_le (AF.le_put (AV.le_eq rfl) (AF.le_put (AV.le_eq rfl) (AF.le_put (AV.le_eq rfl) (AF.le_top _))))
    · replace h := ite_f h hc
      refine Gy_q rfl rfl rfl (op_move (av := .row 3 c_api_TypeNode a1) rfl ?_)
      obtain ⟨y11, hy11, h⟩ := bnd1_some h
      refine Gy_q rfl rfl rfl (op_pure (m_types_Valid_ok _ _ hy11) Tryd.func29 (by kernel_rfl) (LEs.cons (AV.le_eq rfl) LEs.nil) ?_)
      refine Gy_q rfl rfl rfl (op_not rfl ?_)
      refine G_q rfl (op_pick_f rfl (av := .exact (.bool (!y11))) rfl ?_)
      refine G_nil ?_
      refine kI_normal ⟨_, h, ?_⟩
      exact Sub.of_le (AF.le_put (AV.le_eq rfl) (AF.le_put (AV.le_eq rfl) (AF.le_put (AV.le_eq rfl) (AF.le_top _))))
  · refine k_cond_b (c := x22_j7) rfl (fun hc => ?_) (fun hc => ?_)
    · replace h := ite_t h hc
      refine k_seq ?_
      refine k_reg .free hmixP (by kernel_rfl) ?_
      refine G_q rfl (op_assign (av := .exact (.slice none 0 0)) rfl ?_)
      refine G_q rfl (op_assign (av := .exact (.int .i64 1)) rfl ?_)
      refine G_nil ?_
      refine kC_normal ?_
      refine k_ret ?_
      refine kC_ret ?_
      obtain rfl := Option.some.inj h
      refine kP_any (endN (af' := (AF.put (AF.put AF0 (some 4) (.row 2 c_api_Binding [])) (some 5) (.exact (.int .i64 1)))) (σ' := []) _ rfl ?_ ⟨rfl, rfl⟩)
      exact Sub.of_le (AF.le_put (AV.le_eq rfl) (AF.le_put (row_nil (by decide)) (AF.le_top _)))
    · replace h := ite_f h hc
      refine k_skip ?_
      refine kC_normal ?_
      refine k_seq ?_
      refine k_reg .free hmixP (by kernel_rfl) ?_
      obtain ⟨bs, hbs⟩ : ∃ x : List Nat, x = [] := ⟨_, rfl⟩
      refine G_sub rfl (SubU.newHeap (t := 72) (enc := (c_terms_Term bs)) hbs) ?_
      refine G_l rfl (op_mnew (V := (fun _ => True)) (kv := (fun k : Int => .int .i64 k)) (vv := (fun x : Int => refA bs x)) (fun b12 => ?_))
      refine G_q rfl (op_assign (av := .exact (.map (some b12))) rfl ?_)
      refine G_nil ?_
      refine kC_normal ?_
      refine k_seq ?_
      refine k_reg .free hmixP (by kernel_rfl) ?_
      refine G_q rfl (op_move (av := .exact (.map (some b12))) rfl ?_)
      refine G_q rfl (op_move (av := .row 3 c_api_TypeNode a0) rfl ?_)
      obtain ⟨y13, hy13, h⟩ := bnd1_some h
      refine G_l rfl (opB_f1 (opB_f1 (op_fun_2_1_3 (m_terms_Reader_Read_ok _ _ _ _ hy13) Tryd.func40 (by kernel_rfl) (LEs.cons (AV.le_eq rfl) (LEs.cons (AV.le_eq rfl) LEs.nil)) (fun bs => ?_))))
      refine G_sub rfl (SubU.useExt (af' := (AF.put (AF.put (AF.put (AF.put (AF.put (AF.put (AF.put (AF.put AF0 (some 0) (.row 3 c_api_TypeNode a0)) (some 1) (.row 3 c_api_TypeNode a1)) (some 6) (.exact (.map (some b12)))) (some 22) (.exact (.bool x22_j7))) (some 23) (.exact (.map (some b12)))) (some 25) (.exact (.map (some b12)))) (some 26) (.row 3 c_api_TypeNode a0)) (some 27) (.tup [refA bs y13.1, .row 3 c_api_TypeNode y13.2.1]))) (List.Mem.tail _ (List.Mem.tail _ (List.Mem.head _))) (fun hx => SubU.trans SubU.f2 (SubU.trans SubU.drop (SubU.of_le (AF.le_put (AV.le_eq rfl) (AF.le_put (AV.le_eq rfl) (AF.le_put (AV.le_eq rfl) (AF.le_put (AV.le_eq rfl) (AF.le_put (AV.le_eq rfl) (AF.le_put (AV.le_eq rfl) (AF.le_put (AV.le_eq rfl) (AF.le_put (AV.le_eq rfl) (AF.le_top _))))))))))))) ?_
      refine G_q rfl (op_move (av := .tup [refA bs y13.1, .row 3 c_api_TypeNode y13.2.1]) rfl ?_)
      refine G_q rfl (op_extract (av := refA bs y13.1) rfl rfl ?_)
      refine G_q rfl (op_extract (av := .row 3 c_api_TypeNode y13.2.1) rfl rfl ?_)
      refine G_q rfl (op_assign (av := refA bs y13.1) rfl ?_)
      refine G_q rfl (op_assign (av := .row 3 c_api_TypeNode y13.2.1) rfl ?_)
      refine G_nil ?_
      refine kC_normal ?_
      refine k_seq ?_
      refine k_reg .free hmixP (by kernel_rfl) ?_
      refine G_q rfl (op_move (av := .exact (.map (some b12))) rfl ?_)
      refine G_q rfl (op_move (av := .row 3 c_api_TypeNode a1) rfl ?_)
      obtain ⟨y14, hy14, h⟩ := bnd1_some h
      refine G_l rfl (opB_f1 (opB_f1 (op_fun_2_1_3 (m_terms_Reader_Read_ok _ _ _ _ hy14) Tryd.func40 (by kernel_rfl) (LEs.cons (AV.le_eq rfl) (LEs.cons (AV.le_eq rfl) LEs.nil)) (fun bs => ?_))))
      refine G_sub rfl (SubU.useExt (af' := (AF.put (AF.put (AF.put (AF.put (AF.put (AF.put (AF.put (AF.put (AF.put (AF.put (AF.put (AF.put (AF.put (AF.put AF0 (some 0) (.row 3 c_api_TypeNode a0)) (some 1) (.row 3 c_api_TypeNode a1)) (some 6) (.exact (.map (some b12)))) (some 7) (refA bs y13.1)) (some 8) (.row 3 c_api_TypeNode y13.2.1)) (some 22) (.exact (.bool x22_j7))) (some 23) (.exact (.map (some b12)))) (some 25) (.exact (.map (some b12)))) (some 26) (.row 3 c_api_TypeNode a0)) (some 28) (refA bs y13.1)) (some 29) (.row 3 c_api_TypeNode y13.2.1)) (some 31) (.exact (.map (some b12)))) (some 32) (.row 3 c_api_TypeNode a1)) (some 33) (.tup [refA bs y14.1, .row 3 c_api_TypeNode y14.2.1]))) (List.Mem.tail _ (List.Mem.tail _ (List.Mem.head _))) (fun hx => SubU.trans SubU.f2 (SubU.trans SubU.drop (SubU.of_le (AF.le_put (AV.le_eq rfl) (AF.le_put (AV.le_eq rfl) (AF.le_put (AV.le_eq rfl) (AF.le_put (AV.le_eq rfl) (AF.le_put (refA_ext hx) (AF.le_put (AV.le_eq rfl) (AF.le_put (AV.le_eq rfl) (AF.le_put (AV.le_eq rfl) (AF.le_put (AV.le_eq rfl) (AF.le_put (AV.le_eq rfl) (AF.le_put (refA_ext hx) (AF.le_put (AV.le_eq rfl) (AF.le_put (AV.le_eq rfl) (AF.le_put (AV.le_eq rfl) (AF.le_top _))))))))))))))))))) ?_
      refine G_q rfl (op_move (av := .tup [refA bs y14.1, .row 3 c_api_TypeNode y14.2.1]) rfl ?_)
      refine G_q rfl (op_extract (av := refA bs y14.1) rfl rfl ?_)
      refine G_q rfl (op_extract (av := .row 3 c_api_TypeNode y14.2.1) rfl rfl ?_)
      refine G_q rfl (op_assign (av := refA bs y14.1) rfl ?_)
      refine G_q rfl (op_assign (av := .row 3 c_api_TypeNode y14.2.1) rfl ?_)
      refine G_nil ?_
      refine kC_normal ?_
      refine k_seq ?_
      refine k_seq ?_
      refine k_reg .free hmixP (by kernel_rfl) ?_
      refine G_l rfl (op_mnew (V := (refOk2 bs)) (kv := (refV2 bs)) (vv := (fun x : Bool => .exact (.bool x))) (fun b15 => ?_))
      refine G_q rfl (op_move (av := refA bs y13.1) rfl ?_)
      refine G_q rfl (op_move (av := refA bs y14.1) rfl ?_)
      obtain ⟨y16, hy16, h⟩ := bnd1_some h
      refine G_l rfl (opB_f2 (opB_f1 (op_fun_2_0_2 (m_terms_Unifier_Unify_ok _ _ _ _ _ hy16) Tryd.func41 (by kernel_rfl) (LEs.cons (AV.le_eq rfl) (LEs.cons (AV.le_eq rfl) (LEs.cons (AV.le_eq rfl) LEs.nil))) ?_)))
      refine G_q rfl (op_assign (av := .exact (.int .i64 y16.1)) rfl ?_)
      refine G_nil ?_
      refine kC_normal ?_
      refine k_seq ?_
      refine k_reg .free hmixP (by kernel_rfl) ?_
      refine G_q rfl (op_move (av := .exact (.int .i64 y16.1)) rfl ?_)
      refine G_q rfl (op_neq rfl rfl ?_)
      refine G_nil ?_
      refine kC_normal ?_
      refine k_cond_d (p := ¬ y16.1 = 0) rfl (fun hc => ?_) (fun hc => ?_)
      · replace h := ite_t h hc
        refine k_seq ?_
        refine k_reg .free hmixP (by kernel_rfl) ?_
        refine G_q rfl (op_move (av := .exact (.int .i64 y16.1)) rfl ?_)
        refine G_q rfl (op_assign (av := .exact (.slice none 0 0)) rfl ?_)
        refine G_q rfl (op_assign (av := .exact (.int .i64 y16.1)) rfl ?_)
        refine G_nil ?_
        refine kC_normal ?_
        refine k_ret ?_
        refine kC_ret ?_
        obtain rfl := Option.some.inj h
        refine kP_any (endN (af' := (AF.put (AF.put AF0 (some 4) (.row 2 c_api_Binding [])) (some 5) (.exact (.int .i64 y16.1)))) (σ' := []) _ rfl ?_ ⟨rfl, rfl⟩)
        refine Sub.trans (SubU.to SubU.drop) ?_
        refine Sub.trans (SubU.to SubU.drop) ?_
        refine Sub.trans (SubU.to SubU.drop) ?_
        exact Sub.of_le (AF.le_put (AV.le_eq rfl) (AF.le_put (row_nil (by decide)) (AF.le_top _)))
      · replace h := ite_f h hc
        refine k_skip ?_
        refine kC_normal ?_
        refine k_seq ?_
        refine k_seq ?_
        refine k_reg .free hmixP (by kernel_rfl) ?_
        refine G_q rfl (op_move (av := refA bs y13.1) rfl ?_)
        obtain ⟨y17, hy17, h⟩ := bnd1_some h
        refine G_l rfl (opB_f1 (op_fun_1_0_1 (m_terms_Fits_ok _ _ _ hy17) Tryd.func42 (by kernel_rfl) (LEs.cons (AV.le_eq rfl) LEs.nil) ?_))
        refine G_q rfl (op_not rfl ?_)
        refine G_nil ?_
        refine kC_normal ?_
        refine k_cond_b (c := !y17.1) rfl (fun hc => ?_) (fun hc => ?_)
        · replace h := ite_t h hc
          refine k_seq ?_
          refine k_reg .free hmixP (by kernel_rfl) ?_
          refine G_q rfl (op_assign (av := .exact (.slice none 0 0)) rfl ?_)
          refine G_q rfl (op_assign (av := .exact (.int .i64 10)) rfl ?_)
          refine G_nil ?_
          refine kC_normal ?_
          refine k_ret ?_
          refine kC_ret ?_
          obtain rfl := Option.some.inj h
          refine kP_any (endN (af' := (AF.put (AF.put AF0 (some 4) (.row 2 c_api_Binding [])) (some 5) (.exact (.int .i64 10)))) (σ' := []) _ rfl ?_ ⟨rfl, rfl⟩)
          refine Sub.trans (SubU.to SubU.drop) ?_
          refine Sub.trans (SubU.to SubU.drop) ?_
          refine Sub.trans (SubU.to SubU.drop) ?_
          exact Sub.of_le (AF.le_put (AV.le_eq rfl) (AF.le_put (row_nil (by decide)) (AF.le_top _)))
        · replace h := ite_f h hc
          refine k_skip ?_
          refine kC_normal ?_
          refine k_seq ?_
          refine k_reg .free hmixP (by kernel_rfl) ?_
          refine G_q rfl (op_assign (av := .exact (.slice none 0 0)) rfl ?_)
          refine G_nil ?_
          refine kC_normal ?_
          refine k_join2_1 h (fun (xH_j18 : List (Int × Int × (List Int) × Int)) (x12_j18 : List (Int × (List (Int × Int × Int)))) (v12_j18 : Value) => (AF.put AF0 (some 12) (.exact v12_j18))) (fun (xH_j18 : List (Int × Int × (List Int) × Int)) (x12_j18 : List (Int × (List (Int × Int × Int)))) (v12_j18 : Value) => [hpI 72 (c_terms_Term bs) bs xH_j18, vecT Tryd.prog 24 2 c_api_Binding v12_j18 x12_j18]) (fun k18 h => ?_) (fun xH_j18 x12_j18 v12_j18 h => ?_)
          · refine k_seq ?_
            refine k_reg .free hmixP (by kernel_rfl) ?_
            refine G_q rfl (op_move (av := .exact (.map (some b12))) rfl ?_)
            refine G_l rfl (opB_f2 (op_mrange Tryd.underlying62 rfl (fun r45 => ?_)))
            refine G_nil ?_
            refine kC_normal ?_
            refine k_block ?_
            refine k_range1_1 (V := (fun _ => True)) (kv := (fun k : Int => .int .i64 k)) (vv := (fun x : Int => refA bs x)) (b := b12) (r := r45) h (fun (s_l2 : (List (Int × Int × (List Int) × Int)) × (List (Int × (List (Int × Int × Int))))) (v12_l2 : Value) => (AF.put (AF.put AF0 (some 12) (.exact v12_l2)) (some 47) (pA r45 0))) (fun (s_l2 : (List (Int × Int × (List Int) × Int)) × (List (Int × (List (Int × Int × Int))))) (v12_l2 : Value) => [hpI 72 (c_terms_Term bs) bs s_l2.1, vecT Tryd.prog 24 2 c_api_Binding v12_l2 s_l2.2]) (.slice none 0 0) ?_ (fun s_l2 v12_l2 left cur Q hK hB => ?_)
            · refine Sub.trans (SubU.to SubU.f2) ?_
              refine Sub.trans (SubU.to SubU.drop) ?_
              refine Sub.trans (SubU.to (SubU.nilT (P := Tryd.prog) (t := 24) (n := 2) (enc := c_api_Binding))) ?_
              refine Sub.trans (SubU.to SubU.f2) ?_
              refine Sub.trans (SubU.to SubU.f2) ?_
              exact Sub.of_le (AF.le_put (AV.le_eq rfl) (AF.le_put (AV.le_eq rfl) (AF.le_top _)))
            · obtain ⟨xH_l2, x12_l2⟩ := s_l2
              refine k_seq ?_
              refine k_reg .free hmixP (by kernel_rfl) ?_
              refine G_l rfl (op_mnext rfl (fun hl => ?_) (fun A62 y62 B62 hl => ?_))
              · replace h := hK hl
                refine G_q rfl (op_extract (av := .exact (.bool false)) rfl rfl ?_)
                refine G_nil ?_
                refine kC_normal ?_
                refine k_seq ?_
                refine k_cond_f rfl ?_
                refine k_exit ?_
                refine kC_exit ?_
                refine kI_exit ?_
                refine kB_exit ?_
                refine kI_normal ⟨_, _, v12_l2, h, ?_⟩
                refine Sub.trans (SubU.to SubU.drop) ?_
                exact Sub.of_le (AF.le_put (AV.le_eq rfl) (AF.le_top _))
              · obtain ⟨x', h, hj⟩ := hB A62 y62 B62 hl
                unfold m_types_Unify_R2 at h
                refine G_q rfl (op_extract (av := .exact (.bool true)) rfl rfl ?_)
                refine G_nil ?_
                refine kC_normal ?_
                refine k_seq ?_
                refine k_cond_t rfl ?_
                refine k_skip ?_
                refine kC_normal ?_
                refine k_block ?_
                refine k_seq ?_
                refine k_reg .free hmixP (by kernel_rfl) ?_
                refine G_r rfl (op_mentry rfl ?_)
                refine G_q rfl (op_extract (av := .exact (.int .i64 y62.1)) rfl rfl ?_)
                refine G_q rfl (op_extract (av := refA bs y62.2) rfl rfl ?_)
                refine G_q rfl (op_assign (av := .exact (.int .i64 y62.1)) rfl ?_)
                refine G_q rfl (op_assign (av := refA bs y62.2) rfl ?_)
                refine G_nil ?_
                refine kC_normal ?_
                refine k_seq ?_
                refine k_reg .free hmixP (by kernel_rfl) ?_
                refine G_q rfl (op_move (av := refA bs y62.2) rfl ?_)
                obtain ⟨n63, h⟩ := need_some h
                refine G_q rfl (op_nilC_ref rfl n63 ?_)
                refine G_q rfl (op_field_hpt (o := 3) (by kernel_rfl) rfl ?_)
                refine G_r rfl (opR_f1 (op_load_hptH (i := y62.2) (o := 3) (a := refA bs ((gi xH_l2 y62.2).2.2.2)) (by kernel_rfl) rfl rfl ?_))
                refine G_q rfl (op_neqnil_ref (t := 72) (by kernel_rfl) (by kernel_rfl) rfl rfl ?_)
                refine G_nil ?_
                refine kC_normal ?_
                refine k_cond_d (p := ¬ ((gi xH_l2 y62.2).2.2.2) = -1) rfl (fun hc => ?_) (fun hc => ?_)
                · replace h := ite_t h hc
                  refine k_reg .free hmixP (by kernel_rfl) ?_
                  refine G_q rfl (op_move (av := .exact v12_l2) rfl ?_)
                  refine G_q rfl (op_move (av := .exact (.int .i64 y62.1)) rfl ?_)
                  refine G_q rfl (op_move (av := refA bs y62.2) rfl ?_)
                  refine G_sub rfl (SubU.nilT (P := Tryd.prog) (t := 22) (n := 3) (enc := c_api_TypeNode)) ?_
                  obtain ⟨y65, hy65, h⟩ := bnd1_some h
                  refine G_l rfl (opB_f2 (opB_f1 (op_fun_2_1_2 (m_terms_Term_Write_ok _ _ _ _ hy65) Tryd.func44 (by kernel_rfl) (LEs.cons (AV.le_eq rfl) (LEs.cons (AV.le_eq rfl) LEs.nil)) (fun v66 => ?_))))
                  refine G_sub rfl (SubU.freezeT (s := 61) rfl len_c_api_TypeNode) ?_
                  obtain ⟨y67, hy67, h⟩ := bnd1_some h
                  refine G_q rfl (op_pure (m_slices_Clip_L_api_TypeNode_api_TypeNode_ok _ _ hy67) Tryd.func43 (by kernel_rfl) (LEs.cons (AV.le_eq rfl) LEs.nil) ?_)
                  refine G_q rfl (op_bld (c' := c_api_Binding (y62.1, y67)) (CellsAll.cons rfl CellsOf.int (CellsAll.cons rfl CellsOf.row CellsAll.nil)) rfl (LEs.cons (AV.le_eq rfl) (LEs.cons (AV.le_eq rfl) LEs.nil)) ?_)
                  refine G_q rfl (op_litT (n := 2) (enc := c_api_Binding) [(y62.1, y67)] (CellsAll.cons rfl CellsOf.agg CellsAll.nil) rfl (by kernel_rfl) (LEss.cons (LEs.cons (AV.le_eq rfl) (LEs.cons (AV.le_eq rfl) LEs.nil)) LEss.nil) ?_)
                  obtain ⟨n68, h⟩ := need_some h
                  refine G_l rfl (opB_f2 (op_appT (by kernel_rfl) rfl rfl oc_c_api_Binding n68 (fun v69 => ?_)))
                  refine G_q rfl (op_assign (av := .exact v69) rfl ?_)
                  refine G_nil ?_
                  refine kB_normal ?_
                  obtain rfl := Option.some.inj h
                  refine hj _ _ v69 ?_
                  refine Sub.trans (SubU.to SubU.f1) ?_
                  refine Sub.trans (SubU.to SubU.f2) ?_
                  exact Sub.of_le (AF.le_put (AV.le_eq rfl) (AF.le_put (AV.le_eq rfl) (AF.le_top _)))
                · replace h := ite_f h hc
                  refine k_skip ?_
                  refine kB_normal ?_
                  obtain rfl := Option.some.inj h
                  refine hj _ _ v12_l2 ?_
                  exact Sub.of_le (AF.le_put (AV.le_eq rfl) (AF.le_put (AV.le_eq rfl) (AF.le_top _)))
          · refine k_seq ?_
            refine k_reg .free hmixP (by kernel_rfl) ?_
            refine G_q rfl (op_move (av := .exact v12_j18) rfl ?_)
            obtain ⟨y70, hy70, h⟩ := bnd1_some h
            refine G_l rfl (opB_f1 (op_fun_1_0_1 (m_sort_api_Binding_types_Unify_1_ok _ _ hy70) Tryd.func45 (by kernel_rfl) (LEs.cons (AV.le_eq rfl) (LEs.cons (AV.le_eq rfl) LEs.nil)) ?_))
            refine G_nil ?_
            refine kC_normal ?_
            refine k_seq ?_
            refine k_reg .free hmixP (by kernel_rfl) ?_
            refine G_q rfl (op_move (av := .exact v12_j18) rfl ?_)
            refine G_sub rfl (SubU.freezeT3 (s1 := 12) (s2 := 66) (s3 := 68) rfl rfl rfl len_c_api_Binding) ?_
            obtain ⟨y71, hy71, h⟩ := bnd1_some h
            refine G_q rfl (op_pure (m_slices_Clip_L_api_Binding_api_Binding_ok _ _ hy71) Tryd.func47 (by kernel_rfl) (LEs.cons (AV.le_eq rfl) LEs.nil) ?_)
            refine G_q rfl (op_assign (av := .row 2 c_api_Binding y71) rfl ?_)
            refine G_q rfl (op_assign (av := .exact (.int .i64 0)) rfl ?_)
            refine G_nil ?_
            refine kC_normal ?_
            refine k_ret ?_
            obtain rfl := Option.some.inj h
            refine kP_any (endN (af' := (AF.put (AF.put AF0 (some 4) (.row 2 c_api_Binding y71)) (some 5) (.exact (.int .i64 0)))) (σ' := []) _ rfl ?_ ⟨rfl, rfl⟩)
            refine Sub.trans (SubU.to SubU.drop) ?_
            exact Sub.of_le (AF.le_put (AV.le_eq rfl) (AF.le_put (AV.le_eq rfl) (AF.le_top _)))
end Go.Proofs.YtdfdjgolijckfaaDoor
