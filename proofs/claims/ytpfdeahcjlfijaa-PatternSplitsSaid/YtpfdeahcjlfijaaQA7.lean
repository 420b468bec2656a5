/- The functions compute their models, by program. -/
import Derived.Test.YtpfdeahcjlfijaaQA6
namespace Go.Proofs.Ytpfdeahcjlfijaa
open Go.RowKit
attribute [local irreducible] AV.exact AV.top AV.row AV.ptr AV.agg AV.tup AV.eptr AV.fn AV.nilq AV.nilqn opA opB opM opR Quiet Loud Reads wpG awp den Sub SubU Pure Fun vecI vecT boxI CellsAll CellsOf OneC LEs LEss
set_option maxRecDepth 100000

set_option maxHeartbeats 4000000 in
theorem m_pattern_node_match_S_ok : ∀ n : Nat, (∀ ⦃w2 : Value⦄ (a0 : Nd) (a1 : List UInt8) (a2 : List (List UInt8)) (r : (List (List UInt8)) × Bool), m_pattern_node_match_S n a0 a1 a2 = some r → Fun Try.prog 13 [(ndA a0), (.exact (.string (bs a1))), (.exact w2)] [vecT Try.prog 25 1 c_api_Value w2 a2] (fun a s => ∃ z0, a = .tup [.exact z0, .exact (.bool r.2)] ∧ s = [vecT Try.prog 25 1 c_api_Value z0 r.1]))
  | 0 => (fun _ _ _ _ _ h => by have h' : (none : Option _) = some _ := h; cases h')
  | n + 1 => by
    have ih := m_pattern_node_match_S_ok n
    exact fun w2 a0 a1 a2 r h => m_pattern_node_match_F_ok (m_pattern_node_match_S n) ih a0 a1 a2 r h
theorem m_pattern_node_match_ok {w2 : Value} (a0 : Nd) (a1 : List UInt8) (a2 : List (List UInt8)) (r : (List (List UInt8)) × Bool) (h : m_pattern_node_match a0 a1 a2 = some r) : Fun Try.prog 13 [(ndA a0), (.exact (.string (bs a1))), (.exact w2)] [vecT Try.prog 25 1 c_api_Value w2 a2] (fun a s => ∃ z0, a = .tup [.exact z0, .exact (.bool r.2)] ∧ s = [vecT Try.prog 25 1 c_api_Value z0 r.1]) := (m_pattern_node_match_S_ok FU) a0 a1 a2 r h
set_option maxHeartbeats 4000000 in
theorem m_pattern_Match_ok (a0 : List (Int × Int × Int)) (a1 : List UInt8) (r : (List (List UInt8)) × Bool) (h : m_pattern_Match a0 a1 = some r) : Pure Try.prog 6 [(.row 3 c_api_Code a0), (.exact (.string (bs a1)))] (.tup [.row 1 c_api_Value r.1, .exact (.bool r.2)]) := by
  unfold m_pattern_Match at h
  refine Pure.ofFun (fun_of_awp Try.func6 rfl Try.ntmps6 (by simp) rfl (res2 rfl) fun E hE => k_end ?_)
  refine k_seq ?_
  refine k_reg .free hmixP (by kernel_rfl) ?_
  refine G_q rfl (op_assign (av := .exact (.slice none 0 0)) rfl ?_)
  refine G_q rfl (op_assign (av := .exact (.bool false)) rfl ?_)
  refine G_nil ?_
  refine kC_normal ?_
  refine k_seq ?_
  refine k_reg .free hmixP (by kernel_rfl) ?_
  refine G_q rfl (op_move (av := .row 3 c_api_Code a0) rfl ?_)
  obtain ⟨y1, hy1, h⟩ := bnd1_some h
  refine G_q rfl (op_pure (m_pattern_whole_ok _ _ hy1) Try.func11 (by kernel_rfl) (LEs.cons (AV.le_eq rfl) LEs.nil) ?_)
  refine G_q rfl (op_move (av := .tup [ndA y1.1, .exact (.bool y1.2)]) rfl ?_)
  refine G_q rfl (op_extract (av := ndA y1.1) rfl rfl ?_)
  refine G_q rfl (op_extract (av := .exact (.bool y1.2)) rfl rfl ?_)
  refine G_q rfl (op_assign (av := ndA y1.1) rfl ?_)
  refine G_q rfl (op_assign (av := .exact (.bool y1.2)) rfl ?_)
  refine G_nil ?_
  refine kC_normal ?_
  refine k_seq ?_
  refine k_join1_0 h (fun (x20_j6 : Bool) => (AF.put (AF.put (AF.put AF0 (some 1) (.exact (.string (bs a1)))) (some 6) (ndA y1.1)) (some 20) (.exact (.bool x20_j6)))) (fun (x20_j6 : Bool) => []) (fun k6 h => ?_) (fun x20_j6 h => ?_)
  · refine k_reg .free hmixP (by kernel_rfl) ?_
    refine G_q rfl (op_move (av := .exact (.bool y1.2)) rfl ?_)
    refine G_q rfl (op_not rfl ?_)
    refine G_q rfl (op_move (av := .exact (.bool (!y1.2))) rfl ?_)
    refine G_splitB (c := !y1.2) 16 rfl (fun hc => ?_) (fun hc => ?_)
    · replace h := ite_t h hc
      refine G_n rfl rfl ?_
      refine G_n rfl rfl ?_
      refine G_n rfl rfl ?_
      refine G_q rfl (op_pick_t rfl (av := .exact (.bool true)) rfl ?_)
      refine G_nil ?_
      refine kI_normal ⟨_, h, ?_⟩
      exact Sub.of_le (AF.le_put (AV.le_eq rfl) (AF.le_put (AV.le_eq rfl) (AF.le_put (AV.le_eq rfl) (AF.le_top _))))
    · replace h := ite_f h hc
      refine Gy_q rfl rfl rfl (op_move (av := .exact (.string (bs a1))) rfl ?_)
      obtain ⟨y8, hy8, h⟩ := bnd1_some h
      refine Gy_q rfl rfl rfl (op_pure (m_value_Valid_ok _ _ hy8) Try.func12 (by kernel_rfl) (LEs.cons (AV.le_eq rfl) LEs.nil) ?_)
      refine Gy_q rfl rfl rfl (op_not rfl ?_)
      refine G_q rfl (op_pick_f rfl (av := .exact (.bool (!y8))) rfl ?_)
      refine G_nil ?_
      refine kI_normal ⟨_, h, ?_⟩
      exact Sub.of_le (AF.le_put (AV.le_eq rfl) (AF.le_put (AV.le_eq rfl) (AF.le_put (AV.le_eq rfl) (AF.le_top _))))
  · refine k_cond_b (c := x20_j6) rfl (fun hc => ?_) (fun hc => ?_)
    · replace h := ite_t h hc
      refine k_seq ?_
      refine k_reg .free hmixP (by kernel_rfl) ?_
      refine G_q rfl (op_assign (av := .exact (.slice none 0 0)) rfl ?_)
      refine G_q rfl (op_assign (av := .exact (.bool false)) rfl ?_)
      refine G_nil ?_
      refine kC_normal ?_
      refine k_ret ?_
      refine kC_ret ?_
      obtain rfl := Option.some.inj h
      refine kP_any (endN (af' := (AF.put (AF.put AF0 (some 4) (.row 1 c_api_Value [])) (some 5) (.exact (.bool false)))) (σ' := []) _ rfl ?_ ⟨rfl, rfl⟩)
      exact Sub.of_le (AF.le_put (AV.le_eq rfl) (AF.le_put (row_nil (by decide)) (AF.le_top _)))
    · replace h := ite_f h hc
      refine k_skip ?_
      refine kC_normal ?_
      refine k_seq ?_
      refine k_reg .free hmixP (by kernel_rfl) ?_
      refine G_q rfl (op_move (av := ndA y1.1) rfl ?_)
      refine G_q rfl (op_move (av := .exact (.string (bs a1))) rfl ?_)
      refine G_sub rfl (SubU.nilT (P := Try.prog) (t := 25) (n := 1) (enc := c_api_Value)) ?_
      obtain ⟨y10, hy10, h⟩ := bnd1_some h
      refine G_l rfl (op_fun_1_1_1 (m_pattern_node_match_ok _ _ _ _ hy10) Try.func13 (by kernel_rfl) (LEs.cons (AV.le_eq rfl) (LEs.cons (AV.le_eq rfl) (LEs.cons (AV.le_eq rfl) LEs.nil))) (fun v11 => ?_))
      refine G_q rfl (op_move (av := .tup [.exact v11, .exact (.bool y10.2)]) rfl ?_)
      refine G_q rfl (op_extract (av := .exact v11) rfl rfl ?_)
      refine G_q rfl (op_extract (av := .exact (.bool y10.2)) rfl rfl ?_)
      refine G_q rfl (op_assign (av := .exact v11) rfl ?_)
      refine G_q rfl (op_assign (av := .exact (.bool y10.2)) rfl ?_)
      refine G_nil ?_
      refine kC_normal ?_
      refine k_seq ?_
      refine k_seq ?_
      refine k_reg .free hmixP (by kernel_rfl) ?_
      refine G_q rfl (op_move (av := .exact (.bool y10.2)) rfl ?_)
      refine G_q rfl (op_not rfl ?_)
      refine G_nil ?_
      refine kC_normal ?_
      refine k_cond_b (c := !y10.2) rfl (fun hc => ?_) (fun hc => ?_)
      · replace h := ite_t h hc
        refine k_seq ?_
        refine k_reg .free hmixP (by kernel_rfl) ?_
        refine G_q rfl (op_assign (av := .exact (.slice none 0 0)) rfl ?_)
        refine G_q rfl (op_assign (av := .exact (.bool false)) rfl ?_)
        refine G_nil ?_
        refine kC_normal ?_
        refine k_ret ?_
        refine kC_ret ?_
        obtain rfl := Option.some.inj h
        refine kP_any (endN (af' := (AF.put (AF.put AF0 (some 4) (.row 1 c_api_Value [])) (some 5) (.exact (.bool false)))) (σ' := []) _ rfl ?_ ⟨rfl, rfl⟩)
        refine Sub.trans (SubU.to SubU.drop) ?_
        exact Sub.of_le (AF.le_put (AV.le_eq rfl) (AF.le_put (row_nil (by decide)) (AF.le_top _)))
      · replace h := ite_f h hc
        refine k_skip ?_
        refine kC_normal ?_
        refine k_seq ?_
        refine k_reg .free hmixP (by kernel_rfl) ?_
        refine G_q rfl (op_move (av := .exact v11) rfl ?_)
        refine G_sub rfl (SubU.freezeT3 (s1 := 8) (s2 := 25) (s3 := 29) rfl rfl rfl len_c_api_Value) ?_
        obtain ⟨y12, hy12, h⟩ := bnd1_some h
        refine G_q rfl (op_pure (m_slices_Clip_L_api_Value_api_Value_ok _ _ hy12) Try.func14 (by kernel_rfl) (LEs.cons (AV.le_eq rfl) LEs.nil) ?_)
        refine G_q rfl (op_assign (av := .row 1 c_api_Value y12) rfl ?_)
        refine G_q rfl (op_assign (av := .exact (.bool true)) rfl ?_)
        refine G_nil ?_
        refine kC_normal ?_
        refine k_ret ?_
        obtain rfl := Option.some.inj h
        refine kP_any (endN (af' := (AF.put (AF.put AF0 (some 4) (.row 1 c_api_Value y12)) (some 5) (.exact (.bool true)))) (σ' := []) _ rfl ?_ ⟨rfl, rfl⟩)
        exact Sub.of_le (AF.le_put (AV.le_eq rfl) (AF.le_put (AV.le_eq rfl) (AF.le_top _)))
set_option maxHeartbeats 4000000 in
theorem m_pattern_node_all_1_ok (self_pattern_node_all : Nd → (Nd → Option Bool) → Option Bool) (hself_pattern_node_all : ∀ (a0 : Nd) (a1 : Nd → Option Bool) (r : Bool), self_pattern_node_all a0 a1 = some r → Pure Try.prog 33 [(ndA a0), (.fn Try.prog (fun (i : Nd) => [ndA i]) (fun (i : Nd) => a1 i) (fun (r : Bool) => .exact (.bool r)))] (.exact (.bool r))) (a0 : Nd) (a1 : Nd → Option Bool) (r : Bool) (h : m_pattern_node_all_1 self_pattern_node_all a0 a1 = some r) : Pure Try.prog 46 [(ndA a0), (.ptr ([.fn Try.prog (fun (i : Nd) => [ndA i]) (fun (i : Nd) => a1 i) (fun (r : Bool) => .exact (.bool r))]))] (.exact (.bool r)) := by
  unfold m_pattern_node_all_1 at h
  refine Pure.ofFun (fun_of_awp Try.func46 rfl Try.ntmps46 (by simp) rfl (res1 rfl) fun E hE => k_end ?_)
  refine k_seq ?_
  refine k_reg .free hmixP (by kernel_rfl) ?_
  refine G_q rfl (op_assign (av := .exact (.bool false)) rfl ?_)
  refine G_nil ?_
  refine kC_normal ?_
  refine k_seq ?_
  refine k_reg .free hmixP (by kernel_rfl) ?_
  refine G_q rfl (op_move (av := ndA a0) rfl ?_)
  refine G_q rfl (op_load1p (a := .fn Try.prog (fun (i : Nd) => [ndA i]) (fun (i : Nd) => a1 i) (fun (r : Bool) => .exact (.bool r))) (by kernel_rfl) rfl rfl ?_)
  obtain ⟨y1, hy1, h⟩ := bnd1_some h
  refine G_q rfl (op_pure (hself_pattern_node_all _ _ _ hy1) Try.func33 (by kernel_rfl) (LEs.cons (AV.le_eq rfl) (LEs.cons (AV.le_eq rfl) LEs.nil)) ?_)
  refine G_q rfl (op_not rfl ?_)
  refine G_q rfl (op_assign (av := .exact (.bool (!y1))) rfl ?_)
  refine G_nil ?_
  refine kC_normal ?_
  refine k_ret ?_
  obtain rfl := Option.some.inj h
  refine kP_any (endN (af' := (AF.put AF0 (some 3) (.exact (.bool (!y1))))) (σ' := []) _ rfl ?_ ⟨rfl, rfl⟩)
  exact Sub.of_le (AF.le_put (AV.le_eq rfl) (AF.le_top _))
set_option maxHeartbeats 4000000 in
theorem m_slices_IndexFunc_L_pattern_node_pattern_node_ok (a0 : List Nd) (a1 : Nd → Option Bool) (r : Int) (h : m_slices_IndexFunc_L_pattern_node_pattern_node a0 a1 = some r) : Pure Try.prog 60 [(.row 1 c_P_pattern_node a0), (.fn Try.prog (fun (i : Nd) => [ndA i]) (fun (i : Nd) => a1 i) (fun (r : Bool) => .exact (.bool r)))] (.exact (.int .i64 r)) := by
  unfold m_slices_IndexFunc_L_pattern_node_pattern_node at h
  refine Pure.ofFun (fun_of_awp Try.func60 rfl Try.ntmps60 (by simp) rfl (res1 rfl) fun E hE => k_end ?_)
  refine k_seq ?_
  refine k_reg .free hmixP (by kernel_rfl) ?_
  refine G_q rfl (op_assign (av := .exact (.int .i64 0)) rfl ?_)
  refine G_nil ?_
  refine kC_normal ?_
  refine k_join0_0 h (AF0) ([]) (fun k1 h => ?_) (fun  h => ?_)
  · refine k_seq ?_
    refine k_reg .free hmixP (by kernel_rfl) ?_
    refine G_q rfl (op_move (av := .row 1 c_P_pattern_node a0) rfl ?_)
    refine G_q rfl (op_len_row (by kernel_rfl) rfl ?_)
    refine G_q rfl (op_move (av := .exact (.int .i64 0)) rfl ?_)
    refine G_nil ?_
    refine kC_normal ?_
    refine k_block ?_
    refine k_loop1_0 (m_slices_IndexFunc_L_pattern_node_pattern_node_L2 a0 a1 k1) (m_slices_IndexFunc_L_pattern_node_pattern_node_B2 a0 a1 k1) (fun _ => rfl) (fun m _ => rfl) h (fun (x8_l2 : Int) => (AF.put (AF.put (AF.put (AF.put AF0 (some 0) (.row 1 c_P_pattern_node a0)) (some 1) (.fn Try.prog (fun (i : Nd) => [ndA i]) (fun (i : Nd) => a1 i) (fun (r : Bool) => .exact (.bool r)))) (some 7) (.exact (.int .i64 (List.length a0 : Int)))) (some 8) (.exact (.int .i64 x8_l2)))) (fun (x8_l2 : Int) => []) ?_ (fun rec2 x8_l2 h => ?_)
    · exact Sub.of_le (AF.le_put (AV.le_eq rfl) (AF.le_put (AV.le_eq rfl) (AF.le_put (AV.le_eq rfl) (AF.le_put (AV.le_eq rfl) (AF.le_top _)))))
    · unfold m_slices_IndexFunc_L_pattern_node_pattern_node_B2 at h
      refine k_seq ?_
      refine k_reg .free hmixP (by kernel_rfl) ?_
      refine G_q rfl (op_lss rfl rfl ?_)
      refine G_nil ?_
      refine kC_normal ?_
      refine k_seq ?_
      refine k_cond_d (p := x8_l2 < (List.length a0 : Int)) rfl (fun hc => ?_) (fun hc => ?_)
      · replace h := ite_t h hc
        refine k_skip ?_
        refine kC_normal ?_
        refine k_seq ?_
        refine k_block ?_
        refine k_seq ?_
        refine k_reg .free hmixP (by kernel_rfl) ?_
        refine G_q rfl (op_move (av := .exact (.int .i64 x8_l2)) rfl ?_)
        refine G_q rfl (op_assign (av := .exact (.int .i64 x8_l2)) rfl ?_)
        refine G_nil ?_
        refine kC_normal ?_
        refine k_seq ?_
        refine k_reg .free hmixP (by kernel_rfl) ?_
        refine G_q rfl (op_move (av := .fn Try.prog (fun (i : Nd) => [ndA i]) (fun (i : Nd) => a1 i) (fun (r : Bool) => .exact (.bool r))) rfl ?_)
        refine G_q rfl (op_move (av := .row 1 c_P_pattern_node a0) rfl ?_)
        refine G_q rfl (op_move (av := .exact (.int .i64 x8_l2)) rfl ?_)
        obtain ⟨n13, h⟩ := need_some h
        refine G_q rfl (op_index_row (by kernel_rfl) rfl rfl n13.1 n13.2 ?_)
        refine G_q rfl (op_load1p (a := ndA (gi a0 x8_l2)) (by kernel_rfl) rfl rfl ?_)
        obtain ⟨y14, hy14, h⟩ := bnd1_some h
        refine G_q rfl (op_callfn (gi a0 x8_l2) rfl hy14 (LEs.cons (AV.le_eq rfl) LEs.nil) ?_)
        refine G_nil ?_
        refine kC_normal ?_
        refine k_cond_b (c := y14) rfl (fun hc => ?_) (fun hc => ?_)
        · replace h := ite_t h hc
          refine k_seq ?_
          refine k_reg .free hmixP (by kernel_rfl) ?_
          refine G_q rfl (op_move (av := .exact (.int .i64 x8_l2)) rfl ?_)
          refine G_q rfl (op_assign (av := .exact (.int .i64 x8_l2)) rfl ?_)
          refine G_nil ?_
          refine kC_normal ?_
          refine k_ret ?_
          refine kB_ret ?_
          refine kC_ret ?_
          refine kI_ret ?_
          refine kB_ret ?_
          refine kI_ret ?_
          obtain rfl := Option.some.inj h
          refine kP_any (endN (af' := (AF.put AF0 (some 4) (.exact (.int .i64 x8_l2)))) (σ' := []) _ rfl ?_ ⟨rfl, rfl⟩)
          exact Sub.of_le (AF.le_put (AV.le_eq rfl) (AF.le_top _))
        · replace h := ite_f h hc
          refine k_skip ?_
          refine kB_normal ?_
          refine kC_normal ?_
          refine k_reg .free hmixP (by kernel_rfl) ?_
          refine G_q rfl (op_add rfl rfl rfl ?_)
          refine G_q rfl (op_move (av := .exact (.int .i64 (i64 (x8_l2 + 1)))) rfl ?_)
          refine G_nil ?_
          refine kI_normal ⟨_, h, ?_⟩
          exact Sub.of_le (AF.le_put (AV.le_eq rfl) (AF.le_put (AV.le_eq rfl) (AF.le_put (AV.le_eq rfl) (AF.le_put (AV.le_eq rfl) (AF.le_top _)))))
      · replace h := ite_f h hc
        refine k_exit ?_
        refine kC_exit ?_
        refine kI_exit ?_
        refine kB_exit ?_
        refine kI_normal ⟨h, ?_⟩
        exact Sub.of_le (AF.le_top _)
  · refine k_seq ?_
    refine k_reg .free hmixP (by kernel_rfl) ?_
    refine G_q rfl (op_assign (av := .exact (.int .i64 (-1))) rfl ?_)
    refine G_nil ?_
    refine kC_normal ?_
    refine k_ret ?_
    obtain rfl := Option.some.inj h
    refine kP_any (endN (af' := (AF.put AF0 (some 4) (.exact (.int .i64 (-1))))) (σ' := []) _ rfl ?_ ⟨rfl, rfl⟩)
    exact Sub.of_le (AF.le_put (AV.le_eq rfl) (AF.le_top _))
set_option maxHeartbeats 4000000 in
theorem m_slices_ContainsFunc_L_pattern_node_pattern_node_ok (a0 : List Nd) (a1 : Nd → Option Bool) (r : Bool) (h : m_slices_ContainsFunc_L_pattern_node_pattern_node a0 a1 = some r) : Pure Try.prog 45 [(.row 1 c_P_pattern_node a0), (.fn Try.prog (fun (i : Nd) => [ndA i]) (fun (i : Nd) => a1 i) (fun (r : Bool) => .exact (.bool r)))] (.exact (.bool r)) := by
  unfold m_slices_ContainsFunc_L_pattern_node_pattern_node at h
  refine Pure.ofFun (fun_of_awp Try.func45 rfl Try.ntmps45 (by simp) rfl (res1 rfl) fun E hE => k_end ?_)
  refine k_seq ?_
  refine k_reg .free hmixP (by kernel_rfl) ?_
  refine G_q rfl (op_assign (av := .exact (.bool false)) rfl ?_)
  refine G_nil ?_
  refine kC_normal ?_
  refine k_seq ?_
  refine k_reg .free hmixP (by kernel_rfl) ?_
  refine G_q rfl (op_move (av := .row 1 c_P_pattern_node a0) rfl ?_)
  refine G_q rfl (op_move (av := .fn Try.prog (fun (i : Nd) => [ndA i]) (fun (i : Nd) => a1 i) (fun (r : Bool) => .exact (.bool r))) rfl ?_)
  obtain ⟨y1, hy1, h⟩ := bnd1_some h
  refine G_q rfl (op_pure (m_slices_IndexFunc_L_pattern_node_pattern_node_ok _ _ _ hy1) Try.func60 (by kernel_rfl) (LEs.cons (AV.le_eq rfl) (LEs.cons (AV.le_eq rfl) LEs.nil)) ?_)
  refine G_q rfl (op_geq rfl rfl ?_)
  refine G_q rfl (op_assign (av := .exact (.bool (decide (0 ≤ y1)))) rfl ?_)
  refine G_nil ?_
  refine kC_normal ?_
  refine k_ret ?_
  obtain rfl := Option.some.inj h
  refine kP_any (endN (af' := (AF.put AF0 (some 4) (.exact (.bool (decide (0 ≤ y1)))))) (σ' := []) _ rfl ?_ ⟨rfl, rfl⟩)
  exact Sub.of_le (AF.le_put (AV.le_eq rfl) (AF.le_top _))
set_option maxHeartbeats 4000000 in
theorem m_pattern_node_all_F_ok (self_pattern_node_all : Nd → (Nd → Option Bool) → Option Bool) (hself_pattern_node_all : ∀ (a0 : Nd) (a1 : Nd → Option Bool) (r : Bool), self_pattern_node_all a0 a1 = some r → Pure Try.prog 33 [(ndA a0), (.fn Try.prog (fun (i : Nd) => [ndA i]) (fun (i : Nd) => a1 i) (fun (r : Bool) => .exact (.bool r)))] (.exact (.bool r))) (a0 : Nd) (a1 : Nd → Option Bool) (r : Bool) (h : m_pattern_node_all_F self_pattern_node_all a0 a1 = some r) : Pure Try.prog 33 [(ndA a0), (.fn Try.prog (fun (i : Nd) => [ndA i]) (fun (i : Nd) => a1 i) (fun (r : Bool) => .exact (.bool r)))] (.exact (.bool r)) := by
  unfold m_pattern_node_all_F at h
  refine Pure.ofFun (fun_of_awp Try.func33 rfl Try.ntmps33 (by simp) rfl (res1 rfl) fun E hE => k_end ?_)
  refine k_seq ?_
  refine k_reg .free hmixP (by kernel_rfl) ?_
  refine G_l rfl (op_boxI (c := [.fn Try.prog (fun (i : Nd) => [ndA i]) (fun (i : Nd) => a1 i) (fun (r : Bool) => .exact (.bool r))]) rfl CellsOf.fn (LEs.cons (AV.le_eq rfl) LEs.nil) (fun b1 => ?_))
  refine G_q rfl (op_assign (av := .exact (.bool false)) rfl ?_)
  refine G_nil ?_
  refine kC_normal ?_
  refine k_join1_0 h (fun (x4_j2 : Bool) => (AF.put AF0 (some 4) (.exact (.bool x4_j2)))) (fun (x4_j2 : Bool) => []) (fun k2 h => ?_) (fun x4_j2 h => ?_)
  · refine k_reg .free hmixP (by kernel_rfl) ?_
    refine G_r rfl (op_load_box1 (a := .fn Try.prog (fun (i : Nd) => [ndA i]) (fun (i : Nd) => a1 i) (fun (r : Bool) => .exact (.bool r))) (by kernel_rfl) rfl rfl ?_)
    refine G_q rfl (op_move (av := ndA a0) rfl ?_)
    obtain ⟨y6, hy6, h⟩ := bnd1_some h
    refine G_q rfl (op_callfn (a0) rfl hy6 (LEs.cons (AV.le_eq rfl) LEs.nil) ?_)
    refine G_q rfl (op_move (av := .exact (.bool y6)) rfl ?_)
    refine G_splitB (c := y6) 8 rfl (fun hc => ?_) (fun hc => ?_)
    · replace h := ite_t h hc
      refine Gy_q rfl rfl rfl (op_move (av := ndA a0) rfl ?_)
      obtain ⟨y7, hy7, h⟩ := bnd1_some h
      refine Gy_q rfl rfl rfl (op_nilCheck_ptr (c := c_pattern_node y7) (ndA_un hy7) ?_)
      refine Gy_q rfl rfl rfl (op_fieldAddr_ptr (o := 2) (c' := (List.drop 2 (c_pattern_node y7))) (by kernel_rfl) rfl rfl ?_)
      refine Gy_q rfl rfl rfl (op_load1p (a := .row 1 c_P_pattern_node y7.2.2) (by kernel_rfl) rfl rfl ?_)
      refine G_sub rfl (SubU.freezeBox (s := 3) rfl) ?_
      refine Gy_q rfl rfl rfl (op_makeFunc (args := (fun (i : Nd) => [ndA i])) (f := (fun (i : Nd) => (fun (x0 : Nd) => m_pattern_node_all_1 self_pattern_node_all x0 a1) i)) (res := (fun (r : Bool) => .exact (.bool r))) Try.func46 (by kernel_rfl) [.ptr ([.fn Try.prog (fun (i : Nd) => [ndA i]) (fun (i : Nd) => a1 i) (fun (r : Bool) => .exact (.bool r))])] (LEs.cons (AV.le_eq rfl) LEs.nil) (fun i r h => m_pattern_node_all_1_ok self_pattern_node_all hself_pattern_node_all i a1 r h) ?_)
      obtain ⟨y8, hy8, h⟩ := bnd1_some h
      refine Gy_q rfl rfl rfl (op_pure (m_slices_ContainsFunc_L_pattern_node_pattern_node_ok _ _ _ hy8) Try.func45 (by kernel_rfl) (LEs.cons (AV.le_eq rfl) (LEs.cons (AV.le_eq rfl) LEs.nil)) ?_)
      refine Gy_q rfl rfl rfl (op_not rfl ?_)
      refine G_q rfl (op_pick_t rfl (av := .exact (.bool (!y8))) rfl ?_)
      refine G_q rfl (op_assign (av := .exact (.bool (!y8))) rfl ?_)
      refine G_nil ?_
      refine kI_normal ⟨_, h, ?_⟩
      exact Sub.of_le (AF.le_put (AV.le_eq rfl) (AF.le_top _))
    · replace h := ite_f h hc
      refine G_n rfl rfl ?_
      refine G_n rfl rfl ?_
      refine G_n rfl rfl ?_
      refine G_n rfl rfl ?_
      refine G_n rfl rfl ?_
      refine G_n rfl rfl ?_
      refine G_n rfl rfl ?_
      refine G_q rfl (op_pick_f rfl (av := .exact (.bool false)) rfl ?_)
      refine G_q rfl (op_assign (av := .exact (.bool false)) rfl ?_)
      refine G_nil ?_
      refine kI_normal ⟨_, h, ?_⟩
      refine Sub.trans (SubU.to SubU.drop) ?_
      exact Sub.of_le (AF.le_put (AV.le_eq rfl) (AF.le_top _))
  · refine k_ret ?_
    obtain rfl := Option.some.inj h
    refine kP_any (endN (af' := (AF.put AF0 (some 4) (.exact (.bool x4_j2)))) (σ' := []) _ rfl ?_ ⟨rfl, rfl⟩)
    exact Sub.of_le (AF.le_put (AV.le_eq rfl) (AF.le_top _))
set_option maxHeartbeats 4000000 in
theorem m_pattern_node_all_S_ok : ∀ n : Nat, (∀ (a0 : Nd) (a1 : Nd → Option Bool) (r : Bool), m_pattern_node_all_S n a0 a1 = some r → Pure Try.prog 33 [(ndA a0), (.fn Try.prog (fun (i : Nd) => [ndA i]) (fun (i : Nd) => a1 i) (fun (r : Bool) => .exact (.bool r)))] (.exact (.bool r)))
  | 0 => (fun _ _ _ h => by have h' : (none : Option _) = some _ := h; cases h')
  | n + 1 => by
    have ih := m_pattern_node_all_S_ok n
    exact fun a0 a1 r h => m_pattern_node_all_F_ok (m_pattern_node_all_S n) ih a0 a1 r h
theorem m_pattern_node_all_ok (a0 : Nd) (a1 : Nd → Option Bool) (r : Bool) (h : m_pattern_node_all a0 a1 = some r) : Pure Try.prog 33 [(ndA a0), (.fn Try.prog (fun (i : Nd) => [ndA i]) (fun (i : Nd) => a1 i) (fun (r : Bool) => .exact (.bool r)))] (.exact (.bool r)) := (m_pattern_node_all_S_ok FU) a0 a1 r h
set_option maxHeartbeats 4000000 in
theorem m_pattern_Build_1_ok (a0 : Nd) (r : Bool) (h : m_pattern_Build_1 a0 = some r) : Pure Try.prog 34 [(ndA a0)] (.exact (.bool r)) := by
  unfold m_pattern_Build_1 at h
  refine Pure.ofFun (fun_of_awp Try.func34 rfl Try.ntmps34 (by simp) rfl (res1 rfl) fun E hE => k_end ?_)
  refine k_seq ?_
  refine k_reg .free hmixP (by kernel_rfl) ?_
  refine G_q rfl (op_assign (av := .exact (.bool false)) rfl ?_)
  refine G_nil ?_
  refine kC_normal ?_
  refine k_join1_0 h (fun (x2_j1 : Bool) => (AF.put AF0 (some 2) (.exact (.bool x2_j1)))) (fun (x2_j1 : Bool) => []) (fun k1 h => ?_) (fun x2_j1 h => ?_)
  · refine k_reg .free hmixP (by kernel_rfl) ?_
    refine G_q rfl (op_move (av := ndA a0) rfl ?_)
    obtain ⟨y5, hy5, h⟩ := bnd1_some h
    refine G_q rfl (op_nilCheck_ptr (c := c_pattern_node y5) (ndA_un hy5) ?_)
    refine G_q rfl (op_fieldAddr_ptr (o := 0) (c' := (List.drop 0 (c_pattern_node y5))) (by kernel_rfl) rfl rfl ?_)
    refine G_q rfl (op_load1p (a := .exact (.int .i64 y5.1)) (by kernel_rfl) rfl rfl ?_)
    refine G_q rfl (op_neq rfl rfl ?_)
    refine G_q rfl (op_move (av := .exact (.bool (decide (¬ y5.1 = 31)))) rfl ?_)
    refine G_split (p := ¬ y5.1 = 31) 8 rfl (fun hc => ?_) (fun hc => ?_)
    · replace h := ite_t h hc
      refine Gy_q rfl rfl rfl (op_move (av := ndA a0) rfl ?_)
      obtain ⟨y6, hy6, h⟩ := bnd1_some h
      refine Gy_q rfl rfl rfl (op_nilCheck_ptr (c := c_pattern_node y6) (ndA_un hy6) ?_)
      refine Gy_q rfl rfl rfl (op_fieldAddr_ptr (o := 0) (c' := (List.drop 0 (c_pattern_node y6))) (by kernel_rfl) rfl rfl ?_)
      refine Gy_q rfl rfl rfl (op_load1p (a := .exact (.int .i64 y6.1)) (by kernel_rfl) rfl rfl ?_)
      refine Gy_q rfl rfl rfl (op_neq rfl rfl ?_)
      refine G_q rfl (op_pick_t rfl (av := .exact (.bool (decide (¬ y6.1 = 40)))) rfl ?_)
      refine G_q rfl (op_move (av := .exact (.bool (decide (¬ y6.1 = 40)))) rfl ?_)
      refine G_split (p := ¬ y6.1 = 40) 15 rfl (fun hc => ?_) (fun hc => ?_)
      · replace h := ite_t h hc
        refine Gy_q rfl rfl rfl (op_move (av := ndA a0) rfl ?_)
        obtain ⟨y7, hy7, h⟩ := bnd1_some h
        refine Gy_q rfl rfl rfl (op_nilCheck_ptr (c := c_pattern_node y7) (ndA_un hy7) ?_)
        refine Gy_q rfl rfl rfl (op_fieldAddr_ptr (o := 0) (c' := (List.drop 0 (c_pattern_node y7))) (by kernel_rfl) rfl rfl ?_)
        refine Gy_q rfl rfl rfl (op_load1p (a := .exact (.int .i64 y7.1)) (by kernel_rfl) rfl rfl ?_)
        refine Gy_q rfl rfl rfl (op_neq rfl rfl ?_)
        refine G_q rfl (op_pick_t rfl (av := .exact (.bool (decide (¬ y7.1 = 39)))) rfl ?_)
        refine G_q rfl (op_assign (av := .exact (.bool (decide (¬ y7.1 = 39)))) rfl ?_)
        refine G_nil ?_
        refine kI_normal ⟨_, h, ?_⟩
        exact Sub.of_le (AF.le_put (AV.le_eq rfl) (AF.le_top _))
      · replace h := ite_f h hc
        refine G_n rfl rfl ?_
        refine G_n rfl rfl ?_
        refine G_n rfl rfl ?_
        refine G_n rfl rfl ?_
        refine G_n rfl rfl ?_
        refine G_q rfl (op_pick_f rfl (av := .exact (.bool false)) rfl ?_)
        refine G_q rfl (op_assign (av := .exact (.bool false)) rfl ?_)
        refine G_nil ?_
        refine kI_normal ⟨_, h, ?_⟩
        exact Sub.of_le (AF.le_put (AV.le_eq rfl) (AF.le_top _))
    · replace h := ite_f h hc
      refine G_n rfl rfl ?_
      refine G_n rfl rfl ?_
      refine G_n rfl rfl ?_
      refine G_n rfl rfl ?_
      refine G_n rfl rfl ?_
      refine G_q rfl (op_pick_f rfl (av := .exact (.bool false)) rfl ?_)
      refine G_q rfl (op_move (av := .exact (.bool false)) rfl ?_)
      refine G_n rfl rfl ?_
      refine G_n rfl rfl ?_
      refine G_n rfl rfl ?_
      refine G_n rfl rfl ?_
      refine G_n rfl rfl ?_
      refine G_q rfl (op_pick_f rfl (av := .exact (.bool false)) rfl ?_)
      refine G_q rfl (op_assign (av := .exact (.bool false)) rfl ?_)
      refine G_nil ?_
      refine kI_normal ⟨_, h, ?_⟩
      exact Sub.of_le (AF.le_put (AV.le_eq rfl) (AF.le_top _))
  · refine k_ret ?_
    obtain rfl := Option.some.inj h
    refine kP_any (endN (af' := (AF.put AF0 (some 2) (.exact (.bool x2_j1)))) (σ' := []) _ rfl ?_ ⟨rfl, rfl⟩)
    exact Sub.of_le (AF.le_put (AV.le_eq rfl) (AF.le_top _))
set_option maxHeartbeats 4000000 in
theorem m_pattern_Vars_ok (a0 : List (Int × Int × Int)) (r : Int) (h : m_pattern_Vars a0 = some r) : Pure Try.prog 18 [(.row 3 c_api_Code a0)] (.exact (.int .i64 r)) := by
  unfold m_pattern_Vars at h
  refine Pure.ofFun (fun_of_awp Try.func18 rfl Try.ntmps18 (by simp) rfl (res1 rfl) fun E hE => k_end ?_)
  refine k_seq ?_
  refine k_reg .free hmixP (by kernel_rfl) ?_
  refine G_q rfl (op_assign (av := .exact (.int .i64 0)) rfl ?_)
  refine G_nil ?_
  refine kC_normal ?_
  refine k_seq ?_
  refine k_reg .free hmixP (by kernel_rfl) ?_
  refine G_q rfl (op_assign (av := .exact (.int .i64 0)) rfl ?_)
  refine G_nil ?_
  refine kC_normal ?_
  refine k_join1_0 h (fun (x3_j1 : Int) => (AF.put AF0 (some 3) (.exact (.int .i64 x3_j1)))) (fun (x3_j1 : Int) => []) (fun k1 h => ?_) (fun x3_j1 h => ?_)
  · refine k_seq ?_
    refine k_reg .free hmixP (by kernel_rfl) ?_
    refine G_q rfl (op_move (av := .row 3 c_api_Code a0) rfl ?_)
    refine G_q rfl (op_len_row (by kernel_rfl) rfl ?_)
    refine G_q rfl (op_move (av := .exact (.int .i64 0)) rfl ?_)
    refine G_nil ?_
    refine kC_normal ?_
    refine k_block ?_
    refine k_loop2_0 (m_pattern_Vars_L2 a0 k1) (m_pattern_Vars_B2 a0 k1) (fun _ _ => rfl) (fun m _ _ => rfl) h (fun (x3_l2 : Int) (x8_l2 : Int) => (AF.put (AF.put (AF.put (AF.put AF0 (some 3) (.exact (.int .i64 x3_l2))) (some 6) (.row 3 c_api_Code a0)) (some 7) (.exact (.int .i64 (List.length a0 : Int)))) (some 8) (.exact (.int .i64 x8_l2)))) (fun (x3_l2 : Int) (x8_l2 : Int) => []) ?_ (fun rec2 x3_l2 x8_l2 h => ?_)
    · exact Sub.of_le (AF.le_put (AV.le_eq rfl) (AF.le_put (AV.le_eq rfl) (AF.le_put (AV.le_eq rfl) (AF.le_put (AV.le_eq rfl) (AF.le_top _)))))
    · unfold m_pattern_Vars_B2 at h
      refine k_seq ?_
      refine k_reg .free hmixP (by kernel_rfl) ?_
      refine G_q rfl (op_lss rfl rfl ?_)
      refine G_nil ?_
      refine kC_normal ?_
      refine k_seq ?_
      refine k_cond_d (p := x8_l2 < (List.length a0 : Int)) rfl (fun hc => ?_) (fun hc => ?_)
      · replace h := ite_t h hc
        refine k_skip ?_
        refine kC_normal ?_
        refine k_join1_0 h (fun (x3_j28 : Int) => (AF.put (AF.put (AF.put (AF.put AF0 (some 3) (.exact (.int .i64 x3_j28))) (some 6) (.row 3 c_api_Code a0)) (some 7) (.exact (.int .i64 (List.length a0 : Int)))) (some 8) (.exact (.int .i64 x8_l2)))) (fun (x3_j28 : Int) => []) (fun k28 h => ?_) (fun x3_j28 h => ?_)
        · refine k_block ?_
          refine k_seq ?_
          refine k_reg .free hmixP (by kernel_rfl) ?_
          obtain ⟨n31, h⟩ := need_some h
          refine G_q rfl (op_index_row (by kernel_rfl) rfl rfl n31.1 n31.2 ?_)
          refine G_q rfl (op_loadNp (m := 3) (c' := c_api_Code (gi a0 x8_l2)) (by kernel_rfl) rfl rfl rfl ?_)
          refine G_l rfl (op_alloc (c := [.exact (.int .i64 ((0, 0, 0).1)), .exact (.int .i64 ((0, 0, 0).2.1)), .exact (.int .i64 ((0, 0, 0).2.2))]) rfl (LEs.cons (AV.le_eq rfl) (LEs.cons (AV.le_eq rfl) (LEs.cons (AV.le_eq rfl) LEs.nil))) (fun b32 => ?_))
          refine G_l rfl (op_store_box (c' := [.exact (.int .i64 ((gi a0 x8_l2).1)), .exact (.int .i64 ((gi a0 x8_l2).2.1)), .exact (.int .i64 ((gi a0 x8_l2).2.2))]) (c3 := [.exact (.int .i64 ((gi a0 x8_l2).1)), .exact (.int .i64 ((gi a0 x8_l2).2.1)), .exact (.int .i64 ((gi a0 x8_l2).2.2))]) rfl rfl CellsOf.agg (LEs.cons (AV.le_eq rfl) (LEs.cons (AV.le_eq rfl) (LEs.cons (AV.le_eq rfl) LEs.nil))) (oc_c_api_Code _) (by kernel_rfl) (Nat.le_of_ble_eq_true rfl) rfl ?_)
          refine G_nil ?_
          refine kC_normal ?_
          refine k_seq ?_
          refine k_reg .free hmixP (by kernel_rfl) ?_
          refine G_q rfl (op_fieldAddr (o := 0) (by kernel_rfl) rfl ?_)
          refine G_r rfl (op_load_box1 (a := .exact (.int .i64 ((gi a0 x8_l2).1))) (by kernel_rfl) rfl rfl ?_)
          refine G_q rfl (op_eql rfl rfl ?_)
          refine G_nil ?_
          refine kC_normal ?_
          refine k_cond_d (p := ((gi a0 x8_l2).1) = 30) rfl (fun hc => ?_) (fun hc => ?_)
          · replace h := ite_t h hc
            refine k_reg .free hmixP (by kernel_rfl) ?_
            refine G_q rfl (op_move (av := .exact (.int .i64 x3_l2)) rfl ?_)
            refine G_q rfl (op_add rfl rfl rfl ?_)
            refine G_q rfl (op_assign (av := .exact (.int .i64 (i64 (x3_l2 + 1)))) rfl ?_)
            refine G_nil ?_
            refine kB_normal ?_
            refine kI_normal ⟨_, h, ?_⟩
            refine Sub.trans (SubU.to SubU.drop) ?_
            exact Sub.of_le (AF.le_put (AV.le_eq rfl) (AF.le_put (AV.le_eq rfl) (AF.le_put (AV.le_eq rfl) (AF.le_put (AV.le_eq rfl) (AF.le_top _)))))
          · replace h := ite_f h hc
            refine k_skip ?_
            refine kB_normal ?_
            refine kI_normal ⟨_, h, ?_⟩
            refine Sub.trans (SubU.to SubU.drop) ?_
            exact Sub.of_le (AF.le_put (AV.le_eq rfl) (AF.le_put (AV.le_eq rfl) (AF.le_put (AV.le_eq rfl) (AF.le_put (AV.le_eq rfl) (AF.le_top _)))))
        · refine k_reg .free hmixP (by kernel_rfl) ?_
          refine G_q rfl (op_add rfl rfl rfl ?_)
          refine G_q rfl (op_move (av := .exact (.int .i64 (i64 (x8_l2 + 1)))) rfl ?_)
          refine G_nil ?_
          refine kI_normal ⟨_, _, h, ?_⟩
          exact Sub.of_le (AF.le_put (AV.le_eq rfl) (AF.le_put (AV.le_eq rfl) (AF.le_put (AV.le_eq rfl) (AF.le_put (AV.le_eq rfl) (AF.le_top _)))))
      · replace h := ite_f h hc
        refine k_exit ?_
        refine kC_exit ?_
        refine kI_exit ?_
        refine kB_exit ?_
        refine kI_normal ⟨_, h, ?_⟩
        exact Sub.of_le (AF.le_put (AV.le_eq rfl) (AF.le_top _))
  · refine k_seq ?_
    refine k_reg .free hmixP (by kernel_rfl) ?_
    refine G_q rfl (op_move (av := .exact (.int .i64 x3_j1)) rfl ?_)
    refine G_q rfl (op_assign (av := .exact (.int .i64 x3_j1)) rfl ?_)
    refine G_nil ?_
    refine kC_normal ?_
    refine k_ret ?_
    obtain rfl := Option.some.inj h
    refine kP_any (endN (af' := (AF.put AF0 (some 2) (.exact (.int .i64 x3_j1)))) (σ' := []) _ rfl ?_ ⟨rfl, rfl⟩)
    exact Sub.of_le (AF.le_put (AV.le_eq rfl) (AF.le_top _))
set_option maxHeartbeats 4000000 in
theorem m_value_append64_ok {w0 : Value} (a0 : List UInt8) (a1 : Int) (r : (List UInt8)) (h : m_value_append64 a0 a1 = some r) : Fun Try.prog 61 [(.exact w0), (.exact (.int .u64 a1))] [vecT Try.prog 36 1 c_uint8 w0 a0] (fun a s => ∃ z0, a = .exact z0 ∧ s = [vecT Try.prog 36 1 c_uint8 z0 r]) := by
  unfold m_value_append64 at h
  refine fun_of_awp Try.func61 rfl Try.ntmps61 (by simp) rfl (res1 rfl) fun E hE => k_end ?_
  refine k_seq ?_
  refine k_reg .free hmixP (by kernel_rfl) ?_
  refine G_q rfl (op_assign (av := .exact (.slice none 0 0)) rfl ?_)
  refine G_nil ?_
  refine kC_normal ?_
  refine k_join1_1 h (fun (x0_j1 : List UInt8) (v0_j1 : Value) => (AF.put AF0 (some 0) (.exact v0_j1))) (fun (x0_j1 : List UInt8) (v0_j1 : Value) => [vecT Try.prog 36 1 c_uint8 v0_j1 x0_j1]) (fun k1 h => ?_) (fun x0_j1 v0_j1 h => ?_)
  · refine k_seq ?_
    refine k_reg .free hmixP (by kernel_rfl) ?_
    refine G_q rfl (op_assign (av := .exact (.int .i64 56)) rfl ?_)
    refine G_nil ?_
    refine kC_normal ?_
    refine k_block ?_
    refine k_loop2_1 (m_value_append64_L2 a1 k1) (m_value_append64_B2 a1 k1) (fun _ _ => rfl) (fun m _ _ => rfl) h (fun (x0_l2 : List UInt8) (x5_l2 : Int) (v0_l2 : Value) => (AF.put (AF.put (AF.put AF0 (some 0) (.exact v0_l2)) (some 1) (.exact (.int .u64 a1))) (some 5) (.exact (.int .i64 x5_l2)))) (fun (x0_l2 : List UInt8) (x5_l2 : Int) (v0_l2 : Value) => [vecT Try.prog 36 1 c_uint8 v0_l2 x0_l2]) w0 ?_ (fun rec2 x0_l2 x5_l2 v0_l2 h => ?_)
    · exact Sub.of_le (AF.le_put (AV.le_eq rfl) (AF.le_put (AV.le_eq rfl) (AF.le_put (AV.le_eq rfl) (AF.le_top _))))
    · unfold m_value_append64_B2 at h
      refine k_seq ?_
      refine k_seq ?_
      refine k_reg .free hmixP (by kernel_rfl) ?_
      refine G_q rfl (op_move (av := .exact (.int .i64 x5_l2)) rfl ?_)
      refine G_q rfl (op_geq rfl rfl ?_)
      refine G_nil ?_
      refine kC_normal ?_
      refine k_cond_d (p := 0 ≤ x5_l2) rfl (fun hc => ?_) (fun hc => ?_)
      · replace h := ite_t h hc
        refine k_skip ?_
        refine kC_normal ?_
        refine k_seq ?_
        refine k_block ?_
        refine k_reg .free hmixP (by kernel_rfl) ?_
        refine G_q rfl (op_move (av := .exact v0_l2) rfl ?_)
        refine G_q rfl (op_move (av := .exact (.int .u64 a1)) rfl ?_)
        refine G_q rfl (op_move (av := .exact (.int .i64 x5_l2)) rfl ?_)
        obtain ⟨n16, h⟩ := need_some h
        refine G_q rfl (op_shr rfl rfl n16 rfl ?_)
        refine G_q rfl (op_convInt (k := .u8) (r := (UInt8.toNat (u8i (Int.fdiv a1 (2 ^ min (Int.toNat x5_l2) IntKind.u64.bits))) : Int)) (by kernel_rfl) rfl (u8i_eq _) ?_)
        refine G_q rfl (op_litT (n := 1) (enc := c_uint8) [u8i (Int.fdiv a1 (2 ^ min (Int.toNat x5_l2) IntKind.u64.bits))] (CellsAll.cons rfl CellsOf.int CellsAll.nil) rfl (by kernel_rfl) (LEss.cons (LEs.cons (AV.le_eq rfl) LEs.nil) LEss.nil) ?_)
        obtain ⟨n17, h⟩ := need_some h
        refine G_l rfl (op_appT (by kernel_rfl) rfl rfl oc_c_uint8 n17 (fun v18 => ?_))
        refine G_q rfl (op_assign (av := .exact v18) rfl ?_)
        refine G_nil ?_
        refine kB_normal ?_
        refine kC_normal ?_
        refine k_reg .free hmixP (by kernel_rfl) ?_
        refine G_q rfl (op_move (av := .exact (.int .i64 x5_l2)) rfl ?_)
        refine G_q rfl (op_sub rfl rfl rfl ?_)
        refine G_q rfl (op_assign (av := .exact (.int .i64 (i64 (x5_l2 - 8)))) rfl ?_)
        refine G_nil ?_
        refine kI_normal ⟨_, _, v18, h, ?_⟩
        exact Sub.of_le (AF.le_put (AV.le_eq rfl) (AF.le_put (AV.le_eq rfl) (AF.le_put (AV.le_eq rfl) (AF.le_top _))))
      · replace h := ite_f h hc
        refine k_exit ?_
        refine kC_exit ?_
        refine kI_exit ?_
        refine kB_exit ?_
        refine kI_normal ⟨_, v0_l2, h, ?_⟩
        exact Sub.of_le (AF.le_put (AV.le_eq rfl) (AF.le_top _))
  · refine k_seq ?_
    refine k_reg .free hmixP (by kernel_rfl) ?_
    refine G_q rfl (op_move (av := .exact v0_j1) rfl ?_)
    refine G_q rfl (op_assign (av := .exact v0_j1) rfl ?_)
    refine G_nil ?_
    refine kC_normal ?_
    refine k_ret ?_
    obtain rfl := Option.some.inj h
    refine kP_any (endN (af' := (AF.put AF0 (some 4) (.exact v0_j1))) (σ' := [vecT Try.prog 36 1 c_uint8 v0_j1 x0_j1]) _ rfl ?_ ⟨v0_j1, rfl, rfl⟩)
    exact Sub.of_le (AF.le_put (AV.le_eq rfl) (AF.le_top _))
set_option maxHeartbeats 4000000 in
theorem m_value_Int_ok (a0 : Int) (r : (List UInt8)) (h : m_value_Int a0 = some r) : Pure Try.prog 47 [(.exact (.int .i64 a0))] (.exact (.string (bs r))) := by
  unfold m_value_Int at h
  refine Pure.ofFun (fun_of_awp Try.func47 rfl Try.ntmps47 (by simp) rfl (res1 rfl) fun E hE => k_end ?_)
  refine k_seq ?_
  refine k_reg .free hmixP (by kernel_rfl) ?_
  refine G_q rfl (op_assign (av := .exact (.string (bs ([] : List UInt8)))) rfl ?_)
  refine G_nil ?_
  refine kC_normal ?_
  refine k_seq ?_
  refine k_reg .free hmixP (by kernel_rfl) ?_
  refine G_l rfl (op_litI (n := 1) (enc := c_uint8) [1] (by kernel_rfl) (CellsAll.cons rfl CellsOf.int CellsAll.nil) rfl (by kernel_rfl) (LEss.cons (LEs.cons (AV.le_eq rfl) LEs.nil) LEss.nil) (fun v1 => ?_))
  refine G_q rfl (op_move (av := .exact (.int .i64 a0)) rfl ?_)
  refine G_q rfl (op_convInt (k := .u64) (by kernel_rfl) rfl rfl ?_)
  obtain ⟨y2, hy2, h⟩ := bnd1_some h
  refine G_l rfl (op_fun_1_1_1 (m_value_append64_ok _ _ _ hy2) Try.func61 (by kernel_rfl) (LEs.cons (AV.le_eq rfl) (LEs.cons (AV.le_eq rfl) LEs.nil)) (fun v3 => ?_))
  refine G_r rfl (op_bytesS_bor rfl (by kernel_rfl) (Bor.vec (List.Mem.head _) len_c_uint8) ?_)
  refine G_q rfl (op_assign (av := .exact (.string (bs y2))) rfl ?_)
  refine G_nil ?_
  refine kC_normal ?_
  refine k_ret ?_
  obtain rfl := Option.some.inj h
  refine kP_any (endN (af' := (AF.put AF0 (some 2) (.exact (.string (bs y2))))) (σ' := []) _ rfl ?_ ⟨rfl, rfl⟩)
  refine Sub.trans (SubU.to SubU.drop) ?_
  exact Sub.of_le (AF.le_put (AV.le_eq rfl) (AF.le_top _))
set_option maxHeartbeats 4000000 in
theorem m_value_Bool_ok (a0 : Bool) (r : (List UInt8)) (h : m_value_Bool a0 = some r) : Pure Try.prog 48 [(.exact (.bool a0))] (.exact (.string (bs r))) := by
  unfold m_value_Bool at h
  refine Pure.ofFun (fun_of_awp Try.func48 rfl Try.ntmps48 (by simp) rfl (res1 rfl) fun E hE => k_end ?_)
  refine k_seq ?_
  refine k_reg .free hmixP (by kernel_rfl) ?_
  refine G_q rfl (op_assign (av := .exact (.string (bs ([] : List UInt8)))) rfl ?_)
  refine G_nil ?_
  refine kC_normal ?_
  refine k_seq ?_
  refine k_seq ?_
  refine k_reg .free hmixP (by kernel_rfl) ?_
  refine G_q rfl (op_move (av := .exact (.bool a0)) rfl ?_)
  refine G_nil ?_
  refine kC_normal ?_
  refine k_cond_b (c := a0) rfl (fun hc => ?_) (fun hc => ?_)
  · replace h := ite_t h hc
    refine k_seq ?_
    refine k_reg .free hmixP (by kernel_rfl) ?_
    refine G_q rfl (op_litT (n := 1) (enc := c_uint8) [2, 1] (CellsAll.cons rfl CellsOf.int (CellsAll.cons rfl CellsOf.int CellsAll.nil)) rfl (by kernel_rfl) (LEss.cons (LEs.cons (AV.le_eq rfl) LEs.nil) (LEss.cons (LEs.cons (AV.le_eq rfl) LEs.nil) LEss.nil)) ?_)
    refine G_q rfl (op_bytesS rfl (by kernel_rfl) rfl ?_)
    refine G_q rfl (op_assign (av := .exact (.string (bs [2, 1]))) rfl ?_)
    refine G_nil ?_
    refine kC_normal ?_
    refine k_ret ?_
    refine kC_ret ?_
    obtain rfl := Option.some.inj h
    refine kP_any (endN (af' := (AF.put AF0 (some 2) (.exact (.string (bs [2, 1]))))) (σ' := []) _ rfl ?_ ⟨rfl, rfl⟩)
    exact Sub.of_le (AF.le_put (AV.le_eq rfl) (AF.le_top _))
  · replace h := ite_f h hc
    refine k_skip ?_
    refine kC_normal ?_
    refine k_seq ?_
    refine k_reg .free hmixP (by kernel_rfl) ?_
    refine G_q rfl (op_litT (n := 1) (enc := c_uint8) [2, 0] (CellsAll.cons rfl CellsOf.int (CellsAll.cons rfl CellsOf.int CellsAll.nil)) rfl (by kernel_rfl) (LEss.cons (LEs.cons (AV.le_eq rfl) LEs.nil) (LEss.cons (LEs.cons (AV.le_eq rfl) LEs.nil) LEss.nil)) ?_)
    refine G_q rfl (op_bytesS rfl (by kernel_rfl) rfl ?_)
    refine G_q rfl (op_assign (av := .exact (.string (bs [2, 0]))) rfl ?_)
    refine G_nil ?_
    refine kC_normal ?_
    refine k_ret ?_
    obtain rfl := Option.some.inj h
    refine kP_any (endN (af' := (AF.put AF0 (some 2) (.exact (.string (bs [2, 0]))))) (σ' := []) _ rfl ?_ ⟨rfl, rfl⟩)
    exact Sub.of_le (AF.le_put (AV.le_eq rfl) (AF.le_top _))
end Go.Proofs.Ytpfdeahcjlfijaa
/- The functions compute their models, by program. -/
namespace Go.Proofs.Ytpfdeahcjlfijaa
open Go.RowKit
attribute [local irreducible] AV.exact AV.top AV.row AV.ptr AV.agg AV.tup AV.eptr AV.fn AV.nilq AV.nilqn opA opB opM opR Quiet Loud Reads wpG awp den Sub SubU Pure Fun vecI vecT boxI CellsAll CellsOf OneC LEs LEss
set_option maxRecDepth 100000

set_option maxHeartbeats 4000000 in
theorem m_value_Tuple_ok (a0 : List (List UInt8)) (r : (List UInt8)) (h : m_value_Tuple a0 = some r) : Pure Try.prog 49 [(.row 1 c_api_Value a0)] (.exact (.string (bs r))) := by
  unfold m_value_Tuple at h
  refine Pure.ofFun (fun_of_awp Try.func49 rfl Try.ntmps49 (by simp) rfl (res1 rfl) fun E hE => k_end ?_)
  refine k_seq ?_
  refine k_reg .free hmixP (by kernel_rfl) ?_
  refine G_q rfl (op_assign (av := .exact (.string (bs ([] : List UInt8)))) rfl ?_)
  refine G_nil ?_
  refine kC_normal ?_
  refine k_seq ?_
  refine k_reg .free hmixP (by kernel_rfl) ?_
  refine G_q rfl (op_move (av := .row 1 c_api_Value a0) rfl ?_)
  obtain ⟨y1, hy1, h⟩ := bnd1_some h
  refine G_q rfl (op_pure (m_value_compound_ok _ _ _ hy1) Try.func43 (by kernel_rfl) (LEs.cons (AV.le_eq rfl) (LEs.cons (AV.le_eq rfl) LEs.nil)) ?_)
  refine G_q rfl (op_assign (av := .exact (.string (bs y1))) rfl ?_)
  refine G_nil ?_
  refine kC_normal ?_
  refine k_ret ?_
  obtain rfl := Option.some.inj h
  refine kP_any (endN (af' := (AF.put AF0 (some 2) (.exact (.string (bs y1))))) (σ' := []) _ rfl ?_ ⟨rfl, rfl⟩)
  exact Sub.of_le (AF.le_put (AV.le_eq rfl) (AF.le_top _))
set_option maxHeartbeats 4000000 in
theorem m_slices_Clone_L_api_Value_api_Value_ok (a0 : List (List UInt8)) (r : (List (List UInt8))) (h : m_slices_Clone_L_api_Value_api_Value a0 = some r) : Fun Try.prog 69 [(.row 1 c_api_Value a0)] [] (fun a s => ∃ z0, a = .exact z0 ∧ s = [vecT Try.prog 25 1 c_api_Value z0 r]) := by
  unfold m_slices_Clone_L_api_Value_api_Value at h
  refine fun_of_awp Try.func69 rfl Try.ntmps69 (by simp) rfl (res1 rfl) fun E hE => k_end ?_
  refine k_seq ?_
  refine k_reg .free hmixP (by kernel_rfl) ?_
  refine G_q rfl (op_assign (av := .exact (.slice none 0 0)) rfl ?_)
  refine G_nil ?_
  refine kC_normal ?_
  refine k_seq ?_
  refine k_seq ?_
  refine k_reg .free hmixP (by kernel_rfl) ?_
  refine G_q rfl (op_move (av := .row 1 c_api_Value a0) rfl ?_)
  refine G_q rfl (op_eqnil_row (by kernel_rfl) rfl ?_)
  refine G_nil ?_
  refine kC_normal ?_
  obtain ⟨h1, h⟩ := nilc_some h
  refine k_cond_u (p := a0 = []) rfl (fun hc => ?_) ?_
  · replace h := h1 hc
    refine k_seq ?_
    refine k_reg .free hmixP (by kernel_rfl) ?_
    refine G_q rfl (op_assign (av := .exact (.slice none 0 0)) rfl ?_)
    refine G_nil ?_
    refine kC_normal ?_
    refine k_ret ?_
    refine kC_ret ?_
    obtain rfl := Option.some.inj h
    refine kP_any (endN (af' := (AF.put AF0 (some 2) (.exact (.slice none 0 0)))) (σ' := [vecT Try.prog 25 1 c_api_Value (.slice none 0 0) []]) _ rfl ?_ ⟨(.slice none 0 0), rfl, rfl⟩)
    refine Sub.trans (SubU.to (SubU.nilT (P := Try.prog) (t := 25) (n := 1) (enc := c_api_Value))) ?_
    exact Sub.of_le (AF.le_put (AV.le_eq rfl) (AF.le_top _))
  · refine k_skip ?_
    refine kC_normal ?_
    refine k_seq ?_
    refine k_reg .free hmixP (by kernel_rfl) ?_
    refine G_l rfl (op_lit0I (enc := c_api_Value) (n := 1) (by kernel_rfl) (fun v1 => ?_))
    refine G_q rfl (op_move (av := .row 1 c_api_Value a0) rfl ?_)
    obtain ⟨n2, h⟩ := need_some h
    refine G_l rfl (op_appT (by kernel_rfl) rfl rfl oc_c_api_Value n2 (fun v3 => ?_))
    refine G_q rfl (op_assign (av := .exact v3) rfl ?_)
    refine G_nil ?_
    refine kC_normal ?_
    refine k_ret ?_
    obtain rfl := Option.some.inj h
    refine kP_any (endN (af' := (AF.put AF0 (some 2) (.exact v3))) (σ' := [vecT Try.prog 25 1 c_api_Value v3 (([] : List (List UInt8)) ++ a0)]) _ rfl ?_ ⟨v3, rfl, rfl⟩)
    exact Sub.of_le (AF.le_put (AV.le_eq rfl) (AF.le_top _))
set_option maxHeartbeats 4000000 in
theorem m_value_Compare_ok (a0 : List UInt8) (a1 : List UInt8) (r : Int) (h : m_value_Compare a0 a1 = some r) : Pure Try.prog 71 [(.exact (.string (bs a0))), (.exact (.string (bs a1)))] (.exact (.int .i64 r)) := by
  unfold m_value_Compare at h
  refine Pure.ofFun (fun_of_awp Try.func71 rfl Try.ntmps71 (by simp) rfl (res1 rfl) fun E hE => k_end ?_)
  refine k_seq ?_
  refine k_reg .free hmixP (by kernel_rfl) ?_
  refine G_q rfl (op_assign (av := .exact (.int .i64 0)) rfl ?_)
  refine G_nil ?_
  refine kC_normal ?_
  refine k_seq ?_
  refine k_seq ?_
  refine k_reg .free hmixP (by kernel_rfl) ?_
  refine G_q rfl (op_move (av := .exact (.string (bs a0))) rfl ?_)
  obtain ⟨y6, hy6, h⟩ := bnd1_some h
  refine G_q rfl (op_pure (m_value_Valid_ok _ _ hy6) Try.func12 (by kernel_rfl) (LEs.cons (AV.le_eq rfl) LEs.nil) ?_)
  refine G_q rfl (op_move (av := .exact (.string (bs a1))) rfl ?_)
  obtain ⟨y7, hy7, h⟩ := bnd1_some h
  refine G_q rfl (op_pure (m_value_Valid_ok _ _ hy7) Try.func12 (by kernel_rfl) (LEs.cons (AV.le_eq rfl) LEs.nil) ?_)
  refine G_q rfl (op_assign (av := .exact (.bool y6)) rfl ?_)
  refine G_q rfl (op_assign (av := .exact (.bool y7)) rfl ?_)
  refine G_nil ?_
  refine kC_normal ?_
  refine k_block ?_
  refine k_join1_0 h (fun (x11_j8 : Bool) => (AF.put (AF.put (AF.put (AF.put (AF.put AF0 (some 0) (.exact (.string (bs a0)))) (some 1) (.exact (.string (bs a1)))) (some 5) (.exact (.bool y6))) (some 6) (.exact (.bool y7))) (some 11) (.exact (.bool x11_j8)))) (fun (x11_j8 : Bool) => []) (fun k8 h => ?_) (fun x11_j8 h => ?_)
  · refine k_reg .free hmixP (by kernel_rfl) ?_
    refine G_q rfl (op_move (av := .exact (.bool y6)) rfl ?_)
    refine G_q rfl (op_move (av := .exact (.bool y6)) rfl ?_)
    refine G_splitB (c := y6) 13 rfl (fun hc => ?_) (fun hc => ?_)
    · replace h := ite_t h hc
      refine Gy_q rfl rfl rfl (op_move (av := .exact (.bool y7)) rfl ?_)
      refine G_q rfl (op_pick_t rfl (av := .exact (.bool y7)) rfl ?_)
      refine G_q rfl (op_assign (av := .exact (.bool y7)) rfl ?_)
      refine G_nil ?_
      refine kI_normal ⟨_, h, ?_⟩
      exact Sub.of_le (AF.le_put (AV.le_eq rfl) (AF.le_put (AV.le_eq rfl) (AF.le_put (AV.le_eq rfl) (AF.le_put (AV.le_eq rfl) (AF.le_put (AV.le_eq rfl) (AF.le_top _))))))
    · replace h := ite_f h hc
      refine G_n rfl rfl ?_
      refine G_q rfl (op_pick_f rfl (av := .exact (.bool false)) rfl ?_)
      refine G_q rfl (op_assign (av := .exact (.bool false)) rfl ?_)
      refine G_nil ?_
      refine kI_normal ⟨_, h, ?_⟩
      exact Sub.of_le (AF.le_put (AV.le_eq rfl) (AF.le_put (AV.le_eq rfl) (AF.le_put (AV.le_eq rfl) (AF.le_put (AV.le_eq rfl) (AF.le_put (AV.le_eq rfl) (AF.le_top _))))))
  · refine k_cond_b (c := x11_j8) rfl (fun hc => ?_) (fun hc => ?_)
    · replace h := ite_t h hc
      refine k_seq ?_
      refine k_reg .free hmixP (by kernel_rfl) ?_
      refine G_q rfl (op_move (av := .exact (.string (bs a0))) rfl ?_)
      refine G_q rfl (op_move (av := .exact (.string (bs a1))) rfl ?_)
      obtain ⟨y9, hy9, h⟩ := bnd1_some h
      refine G_q rfl (op_pure (m_value_compare_ok _ _ _ hy9) Try.func73 (by kernel_rfl) (LEs.cons (AV.le_eq rfl) (LEs.cons (AV.le_eq rfl) LEs.nil)) ?_)
      refine G_q rfl (op_assign (av := .exact (.int .i64 y9)) rfl ?_)
      refine G_nil ?_
      refine kC_normal ?_
      refine k_ret ?_
      refine kB_ret ?_
      refine kC_ret ?_
      obtain rfl := Option.some.inj h
      refine kP_any (endN (af' := (AF.put AF0 (some 4) (.exact (.int .i64 y9)))) (σ' := []) _ rfl ?_ ⟨rfl, rfl⟩)
      exact Sub.of_le (AF.le_put (AV.le_eq rfl) (AF.le_top _))
    · replace h := ite_f h hc
      refine k_seq ?_
      refine k_reg .free hmixP (by kernel_rfl) ?_
      refine G_q rfl (op_move (av := .exact (.bool y6)) rfl ?_)
      refine G_q rfl (op_assign (av := .exact (.bool y6)) rfl ?_)
      refine G_nil ?_
      refine kC_normal ?_
      refine k_cond_b (c := y6) rfl (fun hc => ?_) (fun hc => ?_)
      · replace h := ite_t h hc
        refine k_seq ?_
        refine k_reg .free hmixP (by kernel_rfl) ?_
        refine G_q rfl (op_assign (av := .exact (.int .i64 1)) rfl ?_)
        refine G_nil ?_
        refine kC_normal ?_
        refine k_ret ?_
        refine kB_ret ?_
        refine kC_ret ?_
        obtain rfl := Option.some.inj h
        refine kP_any (endN (af' := (AF.put AF0 (some 4) (.exact (.int .i64 1)))) (σ' := []) _ rfl ?_ ⟨rfl, rfl⟩)
        exact Sub.of_le (AF.le_put (AV.le_eq rfl) (AF.le_top _))
      · replace h := ite_f h hc
        refine k_seq ?_
        refine k_reg .free hmixP (by kernel_rfl) ?_
        refine G_q rfl (op_move (av := .exact (.bool y7)) rfl ?_)
        refine G_q rfl (op_assign (av := .exact (.bool y7)) rfl ?_)
        refine G_nil ?_
        refine kC_normal ?_
        refine k_cond_b (c := y7) rfl (fun hc => ?_) (fun hc => ?_)
        · replace h := ite_t h hc
          refine k_seq ?_
          refine k_reg .free hmixP (by kernel_rfl) ?_
          refine G_q rfl (op_assign (av := .exact (.int .i64 (-1))) rfl ?_)
          refine G_nil ?_
          refine kC_normal ?_
          refine k_ret ?_
          refine kB_ret ?_
          refine kC_ret ?_
          obtain rfl := Option.some.inj h
          refine kP_any (endN (af' := (AF.put AF0 (some 4) (.exact (.int .i64 (-1))))) (σ' := []) _ rfl ?_ ⟨rfl, rfl⟩)
          exact Sub.of_le (AF.le_put (AV.le_eq rfl) (AF.le_top _))
        · replace h := ite_f h hc
          refine k_skip ?_
          refine kB_normal ?_
          refine kC_normal ?_
          refine k_seq ?_
          refine k_reg .free hmixP (by kernel_rfl) ?_
          refine G_q rfl (op_move (av := .exact (.string (bs a0))) rfl ?_)
          refine G_q rfl (op_move (av := .exact (.string (bs a1))) rfl ?_)
          obtain ⟨y10, hy10, h⟩ := bnd1_some h
          refine G_q rfl (op_pure (m_cmp_Compare_api_Value_ok _ _ _ hy10) Try.func78 (by kernel_rfl) (LEs.cons (AV.le_eq rfl) (LEs.cons (AV.le_eq rfl) LEs.nil)) ?_)
          refine G_q rfl (op_assign (av := .exact (.int .i64 y10)) rfl ?_)
          refine G_nil ?_
          refine kC_normal ?_
          refine k_ret ?_
          obtain rfl := Option.some.inj h
          refine kP_any (endN (af' := (AF.put AF0 (some 4) (.exact (.int .i64 y10)))) (σ' := []) _ rfl ?_ ⟨rfl, rfl⟩)
          exact Sub.of_le (AF.le_put (AV.le_eq rfl) (AF.le_top _))
set_option maxHeartbeats 4000000 in
theorem m_slices_Compact_L_api_Value_api_Value_ok {w0 : Value} (a0 : List (List UInt8)) (r : (List (List UInt8))) (h : m_slices_Compact_L_api_Value_api_Value a0 = some r) : Fun Try.prog 72 [(.exact w0)] [vecT Try.prog 25 1 c_api_Value w0 a0] (fun a s => a = .row 1 c_api_Value r ∧ s = []) := by
  unfold m_slices_Compact_L_api_Value_api_Value at h
  refine fun_of_awp Try.func72 rfl Try.ntmps72 (by simp) rfl (res1 rfl) fun E hE => k_end ?_
  refine k_seq ?_
  refine k_reg .free hmixP (by kernel_rfl) ?_
  refine G_q rfl (op_assign (av := .exact (.slice none 0 0)) rfl ?_)
  refine G_nil ?_
  refine kC_normal ?_
  refine k_seq ?_
  refine k_seq ?_
  refine k_reg .free hmixP (by kernel_rfl) ?_
  refine G_q rfl (op_move (av := .exact w0) rfl ?_)
  refine G_r rfl (op_len_vec (by kernel_rfl) rfl ?_)
  refine G_q rfl (op_lss rfl rfl ?_)
  refine G_nil ?_
  refine kC_normal ?_
  refine k_cond_d (p := (List.length a0 : Int) < 2) rfl (fun hc => ?_) (fun hc => ?_)
  · replace h := ite_t h hc
    refine k_seq ?_
    refine k_reg .free hmixP (by kernel_rfl) ?_
    refine G_q rfl (op_move (av := .exact w0) rfl ?_)
    refine G_q rfl (op_assign (av := .exact w0) rfl ?_)
    refine G_nil ?_
    refine kC_normal ?_
    refine k_ret ?_
    refine kC_ret ?_
    obtain rfl := Option.some.inj h
    refine kP_any (endN (af' := (AF.put AF0 (some 2) (.row 1 c_api_Value a0))) (σ' := []) _ rfl ?_ ⟨rfl, rfl⟩)
    refine Sub.trans (SubU.to (SubU.freezeT (s := 2) rfl len_c_api_Value)) ?_
    exact Sub.of_le (AF.le_put (AV.le_eq rfl) (AF.le_top _))
  · replace h := ite_f h hc
    refine k_skip ?_
    refine kC_normal ?_
    refine k_join0_0 h ((AF.put AF0 (some 0) (.exact w0))) ([vecT Try.prog 25 1 c_api_Value w0 a0]) (fun k1 h => ?_) (fun  h => ?_)
    · refine k_seq ?_
      refine k_reg .free hmixP (by kernel_rfl) ?_
      refine G_q rfl (op_assign (av := .exact (.int .i64 1)) rfl ?_)
      refine G_nil ?_
      refine kC_normal ?_
      refine k_block ?_
      refine k_loop1_0 (m_slices_Compact_L_api_Value_api_Value_L14 a0 k1) (m_slices_Compact_L_api_Value_api_Value_B14 a0 k1) (fun _ => rfl) (fun m _ => rfl) h (fun (x3_l14 : Int) => (AF.put (AF.put AF0 (some 0) (.exact w0)) (some 3) (.exact (.int .i64 x3_l14)))) (fun (x3_l14 : Int) => [vecT Try.prog 25 1 c_api_Value w0 a0]) ?_ (fun rec14 x3_l14 h => ?_)
      · exact Sub.of_le (AF.le_put (AV.le_eq rfl) (AF.le_put (AV.le_eq rfl) (AF.le_top _)))
      · unfold m_slices_Compact_L_api_Value_api_Value_B14 at h
        refine k_seq ?_
        refine k_seq ?_
        refine k_reg .free hmixP (by kernel_rfl) ?_
        refine G_q rfl (op_move (av := .exact (.int .i64 x3_l14)) rfl ?_)
        refine G_q rfl (op_move (av := .exact w0) rfl ?_)
        refine G_r rfl (op_len_vec (by kernel_rfl) rfl ?_)
        refine G_q rfl (op_lss rfl rfl ?_)
        refine G_nil ?_
        refine kC_normal ?_
        refine k_cond_d (p := x3_l14 < (List.length a0 : Int)) rfl (fun hc => ?_) (fun hc => ?_)
        · replace h := ite_t h hc
          refine k_skip ?_
          refine kC_normal ?_
          refine k_join0_0 h ((AF.put (AF.put AF0 (some 0) (.exact w0)) (some 3) (.exact (.int .i64 x3_l14)))) ([vecT Try.prog 25 1 c_api_Value w0 a0]) (fun k628 h => ?_) (fun  h => ?_)
          · refine k_block ?_
            refine k_seq ?_
            refine k_plan [] [(0, 0), (0, 1), (0, 4), (0, 5), (0, 6), (1, 2), (1, 3), (1, 7), (1, 8), (0, 9)] hmixP (by kernel_rfl) ?_
            refine P_q no34_0 rfl (op_move (av := .exact w0) rfl ?_)
            refine P_q no34_0 rfl (op_move (av := .exact (.int .i64 x3_l14)) rfl ?_)
            refine P_q no34_0 rfl (op_move (av := .exact w0) rfl ?_)
            refine P_q no34_0 rfl (op_move (av := .exact (.int .i64 x3_l14)) rfl ?_)
            refine P_q no34_0 rfl (op_sub rfl rfl rfl ?_)
            obtain ⟨n691, h⟩ := need_some h
            refine P_r rfl (op_index_vec (by kernel_rfl) rfl rfl n691.1 n691.2 ?_)
            refine P_r rfl (op_load_vec1 (i := x3_l14) (o := 0) (a := .exact (.string (bs (gi a0 x3_l14)))) (by kernel_rfl) len_c_api_Value rfl n691.1 n691.2 rfl ?_)
            obtain ⟨n692, h⟩ := need_some h
            refine P_r rfl (op_index_vec (by kernel_rfl) rfl rfl n692.1 n692.2 ?_)
            refine P_r rfl (op_load_vec1 (i := i64 (x3_l14 - 1)) (o := 0) (a := .exact (.string (bs (gi a0 (i64 (x3_l14 - 1)))))) (by kernel_rfl) len_c_api_Value rfl n692.1 n692.2 rfl ?_)
            refine P_q no34_0 rfl (op_eqlS rfl rfl ?_)
            refine P_nil ?_
            refine kC_normal ?_
            refine k_cond_d (p := (gi a0 x3_l14) = (gi a0 (i64 (x3_l14 - 1)))) rfl (fun hc => ?_) (fun hc => ?_)
            · replace h := ite_t h hc
              refine k_seq ?_
              refine k_reg .free hmixP (by kernel_rfl) ?_
              refine G_q rfl (op_move (av := .exact w0) rfl ?_)
              refine G_q rfl (op_move (av := .exact (.int .i64 x3_l14)) rfl ?_)
              obtain ⟨n693, h⟩ := need_some h
              refine G_r rfl (op_slice_vec (by kernel_rfl) rfl (bnd_some rfl) bnd_none n693.1 n693.2.1 n693.2.2 ?_)
              refine G_q rfl (op_assign (av := .vsub w0 1 (Int.toNat x3_l14) (Int.toNat (List.length a0 : Int) - Int.toNat x3_l14)) rfl ?_)
              refine G_nil ?_
              refine kC_normal ?_
              refine k_join2_0 h (fun (x0_j694 : List (List UInt8)) (x3_j694 : Int) => (AF.put (AF.put AF0 (some 0) (.exact w0)) (some 3) (.exact (.int .i64 x3_j694)))) (fun (x0_j694 : List (List UInt8)) (x3_j694 : Int) => [vecT Try.prog 25 1 c_api_Value w0 x0_j694]) (fun k694 h => ?_) (fun x0_j694 x3_j694 h => ?_)
              · refine k_seq ?_
                refine k_reg .free hmixP (by kernel_rfl) ?_
                refine G_q rfl (op_assign (av := .exact (.int .i64 1)) rfl ?_)
                refine G_nil ?_
                refine kC_normal ?_
                refine k_block ?_
                refine k_loop3_0 (m_slices_Compact_L_api_Value_api_Value_L26 a0 x3_l14 k694) (m_slices_Compact_L_api_Value_api_Value_B26 a0 x3_l14 k694) (fun _ _ _ => rfl) (fun m _ _ _ => rfl) h (fun (x0_l26 : List (List UInt8)) (x3_l26 : Int) (x5_l26 : Int) => (AF.put (AF.put (AF.put (AF.put AF0 (some 0) (.exact w0)) (some 3) (.exact (.int .i64 x3_l26))) (some 4) (.vsub w0 1 (Int.toNat x3_l14) (Int.toNat (List.length a0 : Int) - Int.toNat x3_l14))) (some 5) (.exact (.int .i64 x5_l26)))) (fun (x0_l26 : List (List UInt8)) (x3_l26 : Int) (x5_l26 : Int) => [vecT Try.prog 25 1 c_api_Value w0 x0_l26]) ?_ (fun rec26 x0_l26 x3_l26 x5_l26 h => ?_)
                · exact Sub.of_le (AF.le_put (AV.le_eq rfl) (AF.le_put (AV.le_eq rfl) (AF.le_put (AV.le_eq rfl) (AF.le_put (AV.le_eq rfl) (AF.le_top _)))))
                · unfold m_slices_Compact_L_api_Value_api_Value_B26 at h
                  refine k_seq ?_
                  refine k_seq ?_
                  refine k_reg .free hmixP (by kernel_rfl) ?_
                  refine G_q rfl (op_move (av := .exact (.int .i64 x5_l26)) rfl ?_)
                  refine G_q rfl (op_move (av := .vsub w0 1 (Int.toNat x3_l14) (Int.toNat (List.length a0 : Int) - Int.toNat x3_l14)) rfl ?_)
                  refine G_q rfl (op_len_vsub (by kernel_rfl) rfl ?_)
                  refine G_q rfl (op_lss rfl rfl ?_)
                  refine G_nil ?_
                  refine kC_normal ?_
                  refine k_cond_d (p := x5_l26 < ((Int.toNat (List.length a0 : Int) - Int.toNat x3_l14 : Nat) : Int)) rfl (fun hc => ?_) (fun hc => ?_)
                  · replace h := ite_t h hc
                    refine k_skip ?_
                    refine kC_normal ?_
                    refine k_join2_0 h (fun (x0_j741 : List (List UInt8)) (x3_j741 : Int) => (AF.put (AF.put (AF.put (AF.put AF0 (some 0) (.exact w0)) (some 3) (.exact (.int .i64 x3_j741))) (some 4) (.vsub w0 1 (Int.toNat x3_l14) (Int.toNat (List.length a0 : Int) - Int.toNat x3_l14))) (some 5) (.exact (.int .i64 x5_l26)))) (fun (x0_j741 : List (List UInt8)) (x3_j741 : Int) => [vecT Try.prog 25 1 c_api_Value w0 x0_j741]) (fun k741 h => ?_) (fun x0_j741 x3_j741 h => ?_)
                    · refine k_block ?_
                      refine k_seq ?_
                      refine k_plan [] [(0, 0), (0, 1), (0, 4), (0, 5), (0, 6), (1, 2), (1, 3), (1, 7), (1, 8), (0, 9)] hmixP (by kernel_rfl) ?_
                      refine P_q no34_0 rfl (op_move (av := .vsub w0 1 (Int.toNat x3_l14) (Int.toNat (List.length a0 : Int) - Int.toNat x3_l14)) rfl ?_)
                      refine P_q no34_0 rfl (op_move (av := .exact (.int .i64 x5_l26)) rfl ?_)
                      refine P_q no34_0 rfl (op_move (av := .vsub w0 1 (Int.toNat x3_l14) (Int.toNat (List.length a0 : Int) - Int.toNat x3_l14)) rfl ?_)
                      refine P_q no34_0 rfl (op_move (av := .exact (.int .i64 x5_l26)) rfl ?_)
                      refine P_q no34_0 rfl (op_sub rfl rfl rfl ?_)
                      obtain ⟨n746, h⟩ := need_some h
                      refine P_r rfl (op_index_vsub (j := (x3_l14 + x5_l26)) (by kernel_rfl) rfl rfl n746.2.1 (by have hh := n746; try simp only [i64] at *; omega) (by have hh := n746; try simp only [i64] at *; omega) (by have hh := n746; try simp only [i64] at *; omega) ?_)
                      refine P_r rfl (op_load_vec1 (i := (x3_l14 + x5_l26)) (o := 0) (a := .exact (.string (bs (gi x0_l26 (x3_l14 + x5_l26))))) (by kernel_rfl) len_c_api_Value rfl n746.2.2.2.1 n746.2.2.2.2 rfl ?_)
                      obtain ⟨n747, h⟩ := need_some h
                      refine P_r rfl (op_index_vsub (j := (x3_l14 + (i64 (x5_l26 - 1)))) (by kernel_rfl) rfl rfl n747.2.1 (by have hh := n747; try simp only [i64] at *; omega) (by have hh := n747; try simp only [i64] at *; omega) (by have hh := n747; try simp only [i64] at *; omega) ?_)
                      refine P_r rfl (op_load_vec1 (i := (x3_l14 + (i64 (x5_l26 - 1)))) (o := 0) (a := .exact (.string (bs (gi x0_l26 (x3_l14 + (i64 (x5_l26 - 1))))))) (by kernel_rfl) len_c_api_Value rfl n747.2.2.2.1 n747.2.2.2.2 rfl ?_)
                      refine P_q no34_0 rfl (op_neqS rfl rfl ?_)
                      refine P_nil ?_
                      refine kC_normal ?_
                      refine k_cond_d (p := ¬ (gi x0_l26 (x3_l14 + x5_l26)) = (gi x0_l26 (x3_l14 + (i64 (x5_l26 - 1))))) rfl (fun hc => ?_) (fun hc => ?_)
                      · replace h := ite_t h hc
                        refine k_seq ?_
                        refine k_reg .free hmixP (by kernel_rfl) ?_
                        refine G_q rfl (op_move (av := .exact w0) rfl ?_)
                        refine G_q rfl (op_move (av := .exact (.int .i64 x3_l26)) rfl ?_)
                        refine G_q rfl (op_move (av := .vsub w0 1 (Int.toNat x3_l14) (Int.toNat (List.length a0 : Int) - Int.toNat x3_l14)) rfl ?_)
                        refine G_q rfl (op_move (av := .exact (.int .i64 x5_l26)) rfl ?_)
                        obtain ⟨n748, h⟩ := need_some h
                        refine G_r rfl (op_index_vsub (j := (x3_l14 + x5_l26)) (by kernel_rfl) rfl rfl n748.2.1 (by have hh := n748; try simp only [i64] at *; omega) (by have hh := n748; try simp only [i64] at *; omega) (by have hh := n748; try simp only [i64] at *; omega) ?_)
                        refine G_r rfl (op_load_vec1 (i := (x3_l14 + x5_l26)) (o := 0) (a := .exact (.string (bs (gi x0_l26 (x3_l14 + x5_l26))))) (by kernel_rfl) len_c_api_Value rfl n748.2.2.2.1 n748.2.2.2.2 rfl ?_)
                        obtain ⟨n749, h⟩ := need_some h
                        refine G_r rfl (op_index_vec (by kernel_rfl) rfl rfl n749.1 n749.2 ?_)
                        refine G_l rfl (op_store_vec (i := x3_l26) (o := 0) (z := gi x0_l26 (x3_l14 + x5_l26)) (c' := [.exact (.string (bs (gi x0_l26 (x3_l14 + x5_l26))))]) (by kernel_rfl) len_c_api_Value rfl n749.1 n749.2 rfl CellsOf.str (LEs.cons (AV.le_eq rfl) LEs.nil) (OneC.str OneC.nil) (by kernel_rfl) (Nat.le_of_ble_eq_true rfl) rfl ?_)
                        refine G_nil ?_
                        refine kC_normal ?_
                        refine k_reg .free hmixP (by kernel_rfl) ?_
                        refine G_q rfl (op_move (av := .exact (.int .i64 x3_l26)) rfl ?_)
                        refine G_q rfl (op_add rfl rfl rfl ?_)
                        refine G_q rfl (op_assign (av := .exact (.int .i64 (i64 (x3_l26 + 1)))) rfl ?_)
                        refine G_nil ?_
                        refine kB_normal ?_
                        refine kI_normal ⟨_, _, h, ?_⟩
                        exact Sub.of_le (AF.le_put (AV.le_eq rfl) (AF.le_put (AV.le_eq rfl) (AF.le_put (AV.le_eq rfl) (AF.le_put (AV.le_eq rfl) (AF.le_top _)))))
                      · replace h := ite_f h hc
                        refine k_skip ?_
                        refine kB_normal ?_
                        refine kI_normal ⟨_, _, h, ?_⟩
                        exact Sub.of_le (AF.le_put (AV.le_eq rfl) (AF.le_put (AV.le_eq rfl) (AF.le_put (AV.le_eq rfl) (AF.le_put (AV.le_eq rfl) (AF.le_top _)))))
                    · refine k_reg .free hmixP (by kernel_rfl) ?_
                      refine G_q rfl (op_move (av := .exact (.int .i64 x5_l26)) rfl ?_)
                      refine G_q rfl (op_add rfl rfl rfl ?_)
                      refine G_q rfl (op_assign (av := .exact (.int .i64 (i64 (x5_l26 + 1)))) rfl ?_)
                      refine G_nil ?_
                      refine kI_normal ⟨_, _, _, h, ?_⟩
                      exact Sub.of_le (AF.le_put (AV.le_eq rfl) (AF.le_put (AV.le_eq rfl) (AF.le_put (AV.le_eq rfl) (AF.le_put (AV.le_eq rfl) (AF.le_top _)))))
                  · replace h := ite_f h hc
                    refine k_exit ?_
                    refine kC_exit ?_
                    refine kI_exit ?_
                    refine kB_exit ?_
                    refine kI_normal ⟨_, _, h, ?_⟩
                    exact Sub.of_le (AF.le_put (AV.le_eq rfl) (AF.le_put (AV.le_eq rfl) (AF.le_top _)))
              · refine k_seq ?_
                refine k_reg .free hmixP (by kernel_rfl) ?_
                refine G_q rfl (op_move (av := .exact w0) rfl ?_)
                refine G_q rfl (op_move (av := .exact (.int .i64 x3_j694)) rfl ?_)
                obtain ⟨n750, h⟩ := need_some h
                refine G_r rfl (op_slice_vec (by kernel_rfl) rfl (bnd_some rfl) bnd_none n750.1 n750.2.1 n750.2.2 ?_)
                refine G_l rfl (op_clear (zr := []) (by kernel_rfl) len_c_api_Value oc_c_api_Value rfl (by have := n750; omega) Try.zeroValue26 (fun _ _ => (Fit.ex Fit.nil0)) ?_)
                refine G_nil ?_
                refine kC_normal ?_
                refine k_seq ?_
                refine k_reg .free hmixP (by kernel_rfl) ?_
                refine G_q rfl (op_move (av := .exact w0) rfl ?_)
                refine G_q rfl (op_move (av := .exact (.int .i64 x3_j694)) rfl ?_)
                refine G_sub rfl (SubU.freezeT3 (s1 := 0) (s2 := 54) (s3 := 57) rfl rfl rfl len_c_api_Value) ?_
                obtain ⟨n751, h⟩ := need_some h
                refine G_q rfl (op_slice_rowt (by kernel_rfl) rfl bnd_none (bnd_some rfl) (Int.le_refl 0) n751.1 n751.2 ?_)
                refine G_q rfl (op_assign (av := .row 1 c_api_Value (List.take (Int.toNat x3_j694) (List.take (Int.toNat x3_j694) x0_j694 ++ List.replicate (Int.toNat (List.length x0_j694 : Int) - Int.toNat x3_j694) ([] : List UInt8) ++ List.drop (Int.toNat x3_j694 + (Int.toNat (List.length x0_j694 : Int) - Int.toNat x3_j694)) x0_j694))) rfl ?_)
                refine G_nil ?_
                refine kC_normal ?_
                refine k_ret ?_
                refine kB_ret ?_
                refine kI_ret ?_
                refine kI_ret ?_
                refine kB_ret ?_
                refine kI_ret ?_
                obtain rfl := Option.some.inj h
                refine kP_any (endN (af' := (AF.put AF0 (some 2) (.row 1 c_api_Value (List.take (Int.toNat x3_j694) (List.take (Int.toNat x3_j694) x0_j694 ++ List.replicate (Int.toNat (List.length x0_j694 : Int) - Int.toNat x3_j694) ([] : List UInt8) ++ List.drop (Int.toNat x3_j694 + (Int.toNat (List.length x0_j694 : Int) - Int.toNat x3_j694)) x0_j694))))) (σ' := []) _ rfl ?_ ⟨rfl, rfl⟩)
                exact Sub.of_le (AF.le_put (AV.le_eq rfl) (AF.le_top _))
            · replace h := ite_f h hc
              refine k_skip ?_
              refine kB_normal ?_
              refine kI_normal ⟨h, ?_⟩
              exact Sub.of_le (AF.le_put (AV.le_eq rfl) (AF.le_put (AV.le_eq rfl) (AF.le_top _)))
          · refine k_reg .free hmixP (by kernel_rfl) ?_
            refine G_q rfl (op_move (av := .exact (.int .i64 x3_l14)) rfl ?_)
            refine G_q rfl (op_add rfl rfl rfl ?_)
            refine G_q rfl (op_assign (av := .exact (.int .i64 (i64 (x3_l14 + 1)))) rfl ?_)
            refine G_nil ?_
            refine kI_normal ⟨_, h, ?_⟩
            exact Sub.of_le (AF.le_put (AV.le_eq rfl) (AF.le_put (AV.le_eq rfl) (AF.le_top _)))
        · replace h := ite_f h hc
          refine k_exit ?_
          refine kC_exit ?_
          refine kI_exit ?_
          refine kB_exit ?_
          refine kI_normal ⟨h, ?_⟩
          exact Sub.of_le (AF.le_put (AV.le_eq rfl) (AF.le_top _))
    · refine k_seq ?_
      refine k_reg .free hmixP (by kernel_rfl) ?_
      refine G_q rfl (op_move (av := .exact w0) rfl ?_)
      refine G_q rfl (op_assign (av := .exact w0) rfl ?_)
      refine G_nil ?_
      refine kC_normal ?_
      refine k_ret ?_
      obtain rfl := Option.some.inj h
      refine kP_any (endN (af' := (AF.put AF0 (some 2) (.row 1 c_api_Value a0))) (σ' := []) _ rfl ?_ ⟨rfl, rfl⟩)
      refine Sub.trans (SubU.to (SubU.freezeT (s := 2) rfl len_c_api_Value)) ?_
      exact Sub.of_le (AF.le_put (AV.le_eq rfl) (AF.le_top _))
set_option maxHeartbeats 4000000 in
theorem m_value_Sort_ok (a0 : List (List UInt8)) (r : (List (List UInt8))) (h : m_value_Sort a0 = some r) : Pure Try.prog 62 [(.row 1 c_api_Value a0)] (.row 1 c_api_Value r) := by
  unfold m_value_Sort at h
  refine Pure.ofFun (fun_of_awp Try.func62 rfl Try.ntmps62 (by simp) rfl (res1 rfl) fun E hE => k_end ?_)
  refine k_seq ?_
  refine k_reg .free hmixP (by kernel_rfl) ?_
  refine G_q rfl (op_assign (av := .exact (.slice none 0 0)) rfl ?_)
  refine G_nil ?_
  refine kC_normal ?_
  refine k_seq ?_
  refine k_reg .free hmixP (by kernel_rfl) ?_
  refine G_q rfl (op_move (av := .row 1 c_api_Value a0) rfl ?_)
  obtain ⟨y1, hy1, h⟩ := bnd1_some h
  refine G_l rfl (op_fun_0_1_1 (m_slices_Clone_L_api_Value_api_Value_ok _ _ hy1) Try.func69 (by kernel_rfl) (LEs.cons (AV.le_eq rfl) LEs.nil) (fun v2 => ?_))
  refine G_q rfl (op_assign (av := .exact v2) rfl ?_)
  refine G_nil ?_
  refine kC_normal ?_
  refine k_seq ?_
  refine k_reg .free hmixP (by kernel_rfl) ?_
  refine G_q rfl (op_move (av := .exact v2) rfl ?_)
  obtain ⟨y3, hy3, h⟩ := bnd1_some h
  refine G_l rfl (op_fun_1_0_1 (m_sort_api_Value_ok m_value_Compare_ok _ _ hy3) Try.func70 (by kernel_rfl) (LEs.cons (AV.le_eq rfl) (LEs.cons (AV.le_eq rfl) LEs.nil)) ?_)
  refine G_nil ?_
  refine kC_normal ?_
  refine k_seq ?_
  refine k_reg .free hmixP (by kernel_rfl) ?_
  refine G_q rfl (op_move (av := .exact v2) rfl ?_)
  obtain ⟨y4, hy4, h⟩ := bnd1_some h
  refine G_l rfl (op_fun_1_0_0 (m_slices_Compact_L_api_Value_api_Value_ok _ _ hy4) Try.func72 (by kernel_rfl) (LEs.cons (AV.le_eq rfl) LEs.nil) ?_)
  obtain ⟨y5, hy5, h⟩ := bnd1_some h
  refine G_q rfl (op_pure (m_slices_Clip_L_api_Value_api_Value_ok _ _ hy5) Try.func14 (by kernel_rfl) (LEs.cons (AV.le_eq rfl) LEs.nil) ?_)
  refine G_q rfl (op_assign (av := .row 1 c_api_Value y5) rfl ?_)
  refine G_nil ?_
  refine kC_normal ?_
  refine k_ret ?_
  obtain rfl := Option.some.inj h
  refine kP_any (endN (af' := (AF.put AF0 (some 2) (.row 1 c_api_Value y5))) (σ' := []) _ rfl ?_ ⟨rfl, rfl⟩)
  exact Sub.of_le (AF.le_put (AV.le_eq rfl) (AF.le_top _))
set_option maxHeartbeats 4000000 in
theorem m_value_Set_ok (a0 : List (List UInt8)) (r : (List UInt8)) (h : m_value_Set a0 = some r) : Pure Try.prog 50 [(.row 1 c_api_Value a0)] (.exact (.string (bs r))) := by
  unfold m_value_Set at h
  refine Pure.ofFun (fun_of_awp Try.func50 rfl Try.ntmps50 (by simp) rfl (res1 rfl) fun E hE => k_end ?_)
  refine k_seq ?_
  refine k_reg .free hmixP (by kernel_rfl) ?_
  refine G_q rfl (op_assign (av := .exact (.string (bs ([] : List UInt8)))) rfl ?_)
  refine G_nil ?_
  refine kC_normal ?_
  refine k_seq ?_
  refine k_reg .free hmixP (by kernel_rfl) ?_
  refine G_q rfl (op_move (av := .row 1 c_api_Value a0) rfl ?_)
  obtain ⟨y1, hy1, h⟩ := bnd1_some h
  refine G_q rfl (op_pure (m_value_Sort_ok _ _ hy1) Try.func62 (by kernel_rfl) (LEs.cons (AV.le_eq rfl) LEs.nil) ?_)
  obtain ⟨y2, hy2, h⟩ := bnd1_some h
  refine G_q rfl (op_pure (m_value_compound_ok _ _ _ hy2) Try.func43 (by kernel_rfl) (LEs.cons (AV.le_eq rfl) (LEs.cons (AV.le_eq rfl) LEs.nil)) ?_)
  refine G_q rfl (op_assign (av := .exact (.string (bs y2))) rfl ?_)
  refine G_nil ?_
  refine kC_normal ?_
  refine k_ret ?_
  obtain rfl := Option.some.inj h
  refine kP_any (endN (af' := (AF.put AF0 (some 2) (.exact (.string (bs y2))))) (σ' := []) _ rfl ?_ ⟨rfl, rfl⟩)
  exact Sub.of_le (AF.le_put (AV.le_eq rfl) (AF.le_top _))
set_option maxHeartbeats 4000000 in
theorem m_value_Name_ok (a0 : Int) (r : (List UInt8)) (h : m_value_Name a0 = some r) : Pure Try.prog 63 [(.exact (.int .i64 a0))] (.exact (.string (bs r))) := by
  unfold m_value_Name at h
  refine Pure.ofFun (fun_of_awp Try.func63 rfl Try.ntmps63 (by simp) rfl (res1 rfl) fun E hE => k_end ?_)
  refine k_seq ?_
  refine k_reg .free hmixP (by kernel_rfl) ?_
  refine G_q rfl (op_assign (av := .exact (.string (bs ([] : List UInt8)))) rfl ?_)
  refine G_nil ?_
  refine kC_normal ?_
  refine k_seq ?_
  refine k_join1_0 h (fun (x8_j3 : Bool) => (AF.put (AF.put AF0 (some 0) (.exact (.int .i64 a0))) (some 8) (.exact (.bool x8_j3)))) (fun (x8_j3 : Bool) => []) (fun k3 h => ?_) (fun x8_j3 h => ?_)
  · refine k_reg .free hmixP (by kernel_rfl) ?_
    refine G_q rfl (op_move (av := .exact (.int .i64 a0)) rfl ?_)
    refine G_q rfl (op_lss rfl rfl ?_)
    refine G_q rfl (op_move (av := .exact (.bool (decide (a0 < 0)))) rfl ?_)
    refine G_split (p := a0 < 0) 5 rfl (fun hc => ?_) (fun hc => ?_)
    · replace h := ite_t h hc
      refine G_n rfl rfl ?_
      refine G_n rfl rfl ?_
      refine G_q rfl (op_pick_t rfl (av := .exact (.bool true)) rfl ?_)
      refine G_nil ?_
      refine kI_normal ⟨_, h, ?_⟩
      exact Sub.of_le (AF.le_put (AV.le_eq rfl) (AF.le_put (AV.le_eq rfl) (AF.le_top _)))
    · replace h := ite_f h hc
      refine Gy_q rfl rfl rfl (op_move (av := .exact (.int .i64 a0)) rfl ?_)
      refine Gy_q rfl rfl rfl (op_gtr rfl rfl ?_)
      refine G_q rfl (op_pick_f rfl (av := .exact (.bool (decide (65535 < a0)))) rfl ?_)
      refine G_nil ?_
      refine kI_normal ⟨_, h, ?_⟩
      exact Sub.of_le (AF.le_put (AV.le_eq rfl) (AF.le_put (AV.le_eq rfl) (AF.le_top _)))
  · refine k_cond_b (c := x8_j3) rfl (fun hc => ?_) (fun hc => ?_)
    · replace h := ite_t h hc
      refine k_seq ?_
      refine k_reg .free hmixP (by kernel_rfl) ?_
      refine G_q rfl (op_assign (av := .exact (.string (bs ([] : List UInt8)))) rfl ?_)
      refine G_nil ?_
      refine kC_normal ?_
      refine k_ret ?_
      refine kC_ret ?_
      obtain rfl := Option.some.inj h
      refine kP_any (endN (af' := (AF.put AF0 (some 2) (.exact (.string (bs ([] : List UInt8)))))) (σ' := []) _ rfl ?_ ⟨rfl, rfl⟩)
      exact Sub.of_le (AF.le_put (AV.le_eq rfl) (AF.le_top _))
    · replace h := ite_f h hc
      refine k_skip ?_
      refine kC_normal ?_
      refine k_seq ?_
      refine k_reg .free hmixP (by kernel_rfl) ?_
      refine G_l rfl (op_litI (n := 1) (enc := c_uint8) [10] (by kernel_rfl) (CellsAll.cons rfl CellsOf.int CellsAll.nil) rfl (by kernel_rfl) (LEss.cons (LEs.cons (AV.le_eq rfl) LEs.nil) LEss.nil) (fun v4 => ?_))
      refine G_q rfl (op_move (av := .exact (.int .i64 a0)) rfl ?_)
      refine G_q rfl (op_convInt (k := .u16) (by kernel_rfl) rfl rfl ?_)
      obtain ⟨y5, hy5, h⟩ := bnd1_some h
      refine G_l rfl (op_fun_1_1_1 (m_value_append16_ok _ _ _ hy5) Try.func55 (by kernel_rfl) (LEs.cons (AV.le_eq rfl) (LEs.cons (AV.le_eq rfl) LEs.nil)) (fun v6 => ?_))
      refine G_r rfl (op_bytesS_bor rfl (by kernel_rfl) (Bor.vec (List.Mem.head _) len_c_uint8) ?_)
      refine G_q rfl (op_assign (av := .exact (.string (bs y5))) rfl ?_)
      refine G_nil ?_
      refine kC_normal ?_
      refine k_ret ?_
      obtain rfl := Option.some.inj h
      refine kP_any (endN (af' := (AF.put AF0 (some 2) (.exact (.string (bs y5))))) (σ' := []) _ rfl ?_ ⟨rfl, rfl⟩)
      refine Sub.trans (SubU.to SubU.drop) ?_
      exact Sub.of_le (AF.le_put (AV.le_eq rfl) (AF.le_top _))
set_option maxHeartbeats 4000000 in
theorem m_value_Dot_ok (a0 : Int) (a1 : List (List UInt8)) (r : (List UInt8)) (h : m_value_Dot a0 a1 = some r) : Pure Try.prog 51 [(.exact (.int .i64 a0)), (.row 1 c_api_Value a1)] (.exact (.string (bs r))) := by
  unfold m_value_Dot at h
  refine Pure.ofFun (fun_of_awp Try.func51 rfl Try.ntmps51 (by simp) rfl (res1 rfl) fun E hE => k_end ?_)
  refine k_seq ?_
  refine k_reg .free hmixP (by kernel_rfl) ?_
  refine G_q rfl (op_assign (av := .exact (.string (bs ([] : List UInt8)))) rfl ?_)
  refine G_nil ?_
  refine kC_normal ?_
  refine k_seq ?_
  refine k_reg .free hmixP (by kernel_rfl) ?_
  refine G_q rfl (op_move (av := .exact (.int .i64 a0)) rfl ?_)
  obtain ⟨y1, hy1, h⟩ := bnd1_some h
  refine G_q rfl (op_pure (m_value_Name_ok _ _ hy1) Try.func63 (by kernel_rfl) (LEs.cons (AV.le_eq rfl) LEs.nil) ?_)
  refine G_l rfl (op_litI (n := 1) (enc := c_api_Value) [y1] (by kernel_rfl) (CellsAll.cons rfl CellsOf.str CellsAll.nil) rfl (by kernel_rfl) (LEss.cons (LEs.cons (AV.le_eq rfl) LEs.nil) LEss.nil) (fun v2 => ?_))
  refine G_q rfl (op_move (av := .row 1 c_api_Value a1) rfl ?_)
  obtain ⟨n3, h⟩ := need_some h
  refine G_l rfl (op_appT (by kernel_rfl) rfl rfl oc_c_api_Value n3 (fun v4 => ?_))
  refine G_sub rfl (SubU.freezeT (s := 9) rfl len_c_api_Value) ?_
  obtain ⟨y5, hy5, h⟩ := bnd1_some h
  refine G_q rfl (op_pure (m_value_compound_ok _ _ _ hy5) Try.func43 (by kernel_rfl) (LEs.cons (AV.le_eq rfl) (LEs.cons (AV.le_eq rfl) LEs.nil)) ?_)
  refine G_q rfl (op_assign (av := .exact (.string (bs y5))) rfl ?_)
  refine G_nil ?_
  refine kC_normal ?_
  refine k_ret ?_
  obtain rfl := Option.some.inj h
  refine kP_any (endN (af' := (AF.put AF0 (some 4) (.exact (.string (bs y5))))) (σ' := []) _ rfl ?_ ⟨rfl, rfl⟩)
  exact Sub.of_le (AF.le_put (AV.le_eq rfl) (AF.le_top _))
set_option maxHeartbeats 4000000 in
theorem m_pattern_node_build_F_ok (self_pattern_node_build : Nd → (List (List UInt8)) → Option ((List UInt8) × (List (List UInt8)))) (hself_pattern_node_build : ∀ (a0 : Nd) (a1 : List (List UInt8)) (r : (List UInt8) × (List (List UInt8))), self_pattern_node_build a0 a1 = some r → Pure Try.prog 35 [(ndA a0), (.row 1 c_api_Value a1)] (.tup [.exact (.string (bs r.1)), .row 1 c_api_Value r.2])) (a0 : Nd) (a1 : List (List UInt8)) (r : (List UInt8) × (List (List UInt8))) (h : m_pattern_node_build_F self_pattern_node_build a0 a1 = some r) : Pure Try.prog 35 [(ndA a0), (.row 1 c_api_Value a1)] (.tup [.exact (.string (bs r.1)), .row 1 c_api_Value r.2]) := by
  unfold m_pattern_node_build_F at h
  refine Pure.ofFun (fun_of_awp Try.func35 rfl Try.ntmps35 (by simp) rfl (res2 rfl) fun E hE => k_end ?_)
  refine k_seq ?_
  refine k_reg .free hmixP (by kernel_rfl) ?_
  refine G_q rfl (op_assign (av := .exact (.string (bs ([] : List UInt8)))) rfl ?_)
  refine G_q rfl (op_assign (av := .exact (.slice none 0 0)) rfl ?_)
  refine G_nil ?_
  refine kC_normal ?_
  refine k_seq ?_
  refine k_seq ?_
  refine k_reg .free hmixP (by kernel_rfl) ?_
  refine G_q rfl (op_move (av := ndA a0) rfl ?_)
  obtain ⟨y1, hy1, h⟩ := bnd1_some h
  refine G_q rfl (op_nilCheck_ptr (c := c_pattern_node y1) (ndA_un hy1) ?_)
  refine G_q rfl (op_fieldAddr_ptr (o := 0) (c' := (List.drop 0 (c_pattern_node y1))) (by kernel_rfl) rfl rfl ?_)
  refine G_q rfl (op_load1p (a := .exact (.int .i64 y1.1)) (by kernel_rfl) rfl rfl ?_)
  refine G_nil ?_
  refine kC_normal ?_
  refine k_block ?_
  refine k_seq ?_
  refine k_reg .free hmixP (by kernel_rfl) ?_
  refine G_q rfl (op_eql rfl rfl ?_)
  refine G_q rfl (op_assign (av := .exact (.bool (decide (y1.1 = 30)))) rfl ?_)
  refine G_nil ?_
  refine kC_normal ?_
  refine k_cond_d (p := y1.1 = 30) rfl (fun hc => ?_) (fun hc => ?_)
  · replace h := ite_t h hc
    refine k_seq ?_
    refine k_plan [] [(0, 0), (0, 1), (0, 2), (0, 3), (0, 4), (0, 5), (0, 6)] hmixP (by kernel_rfl) ?_
    refine P_q no34_0 rfl (op_move (av := .row 1 c_api_Value a1) rfl ?_)
    obtain ⟨n2, h⟩ := need_some h
    refine P_q no34_0 rfl (op_index_row (by kernel_rfl) rfl rfl n2.1 n2.2 ?_)
    refine P_q no34_0 rfl (op_load1p (a := .exact (.string (bs (gi a1 0)))) (by kernel_rfl) rfl rfl ?_)
    refine P_q no34_0 rfl (op_move (av := .row 1 c_api_Value a1) rfl ?_)
    obtain ⟨n3, h⟩ := need_some h
    refine P_q no34_0 rfl (op_slice_rowd (by kernel_rfl) rfl (bnd_some rfl) bnd_none (by decide) n3 (Int.le_refl _) ?_)
    refine P_q no34_0 rfl (op_assign (av := .exact (.string (bs (gi a1 0)))) rfl ?_)
    refine P_q no34_0 rfl (op_assign (av := .row 1 c_api_Value (List.drop (Int.toNat 1) a1)) rfl ?_)
    refine P_nil ?_
    refine kC_normal ?_
    refine k_ret ?_
    refine kB_ret ?_
    refine kC_ret ?_
    obtain rfl := Option.some.inj h
    refine kP_any (endN (af' := (AF.put (AF.put AF0 (some 4) (.exact (.string (bs (gi a1 0))))) (some 5) (.row 1 c_api_Value (List.drop (Int.toNat 1) a1)))) (σ' := []) _ rfl ?_ ⟨rfl, rfl⟩)
    exact Sub.of_le (AF.le_put (AV.le_eq rfl) (AF.le_put (AV.le_eq rfl) (AF.le_top _)))
  · replace h := ite_f h hc
    refine k_seq ?_
    refine k_reg .free hmixP (by kernel_rfl) ?_
    refine G_q rfl (op_eql rfl rfl ?_)
    refine G_q rfl (op_assign (av := .exact (.bool (decide (y1.1 = 32)))) rfl ?_)
    refine G_nil ?_
    refine kC_normal ?_
    refine k_cond_d (p := y1.1 = 32) rfl (fun hc => ?_) (fun hc => ?_)
    · replace h := ite_t h hc
      refine k_seq ?_
      refine k_reg .free hmixP (by kernel_rfl) ?_
      refine G_q rfl (op_move (av := ndA a0) rfl ?_)
      obtain ⟨y4, hy4, h⟩ := bnd1_some h
      refine G_q rfl (op_nilCheck_ptr (c := c_pattern_node y4) (ndA_un hy4) ?_)
      refine G_q rfl (op_fieldAddr_ptr (o := 1) (c' := (List.drop 1 (c_pattern_node y4))) (by kernel_rfl) rfl rfl ?_)
      refine G_q rfl (op_load1p (a := .exact (.int .i64 y4.2.1)) (by kernel_rfl) rfl rfl ?_)
      obtain ⟨y5, hy5, h⟩ := bnd1_some h
      refine G_q rfl (op_pure (m_value_Int_ok _ _ hy5) Try.func47 (by kernel_rfl) (LEs.cons (AV.le_eq rfl) LEs.nil) ?_)
      refine G_q rfl (op_move (av := .row 1 c_api_Value a1) rfl ?_)
      refine G_q rfl (op_assign (av := .exact (.string (bs y5))) rfl ?_)
      refine G_q rfl (op_assign (av := .row 1 c_api_Value a1) rfl ?_)
      refine G_nil ?_
      refine kC_normal ?_
      refine k_ret ?_
      refine kB_ret ?_
      refine kC_ret ?_
      obtain rfl := Option.some.inj h
      refine kP_any (endN (af' := (AF.put (AF.put AF0 (some 4) (.exact (.string (bs y5)))) (some 5) (.row 1 c_api_Value a1))) (σ' := []) _ rfl ?_ ⟨rfl, rfl⟩)
      exact Sub.of_le (AF.le_put (AV.le_eq rfl) (AF.le_put (AV.le_eq rfl) (AF.le_top _)))
    · replace h := ite_f h hc
      refine k_seq ?_
      refine k_reg .free hmixP (by kernel_rfl) ?_
      refine G_q rfl (op_eql rfl rfl ?_)
      refine G_q rfl (op_assign (av := .exact (.bool (decide (y1.1 = 33)))) rfl ?_)
      refine G_nil ?_
      refine kC_normal ?_
      refine k_cond_d (p := y1.1 = 33) rfl (fun hc => ?_) (fun hc => ?_)
      · replace h := ite_t h hc
        refine k_seq ?_
        refine k_reg .free hmixP (by kernel_rfl) ?_
        refine G_q rfl (op_move (av := ndA a0) rfl ?_)
        obtain ⟨y6, hy6, h⟩ := bnd1_some h
        refine G_q rfl (op_nilCheck_ptr (c := c_pattern_node y6) (ndA_un hy6) ?_)
        refine G_q rfl (op_fieldAddr_ptr (o := 1) (c' := (List.drop 1 (c_pattern_node y6))) (by kernel_rfl) rfl rfl ?_)
        refine G_q rfl (op_load1p (a := .exact (.int .i64 y6.2.1)) (by kernel_rfl) rfl rfl ?_)
        refine G_q rfl (op_eql rfl rfl ?_)
        obtain ⟨y7, hy7, h⟩ := bnd1_some h
        refine G_q rfl (op_pure (m_value_Bool_ok _ _ hy7) Try.func48 (by kernel_rfl) (LEs.cons (AV.le_eq rfl) LEs.nil) ?_)
        refine G_q rfl (op_move (av := .row 1 c_api_Value a1) rfl ?_)
        refine G_q rfl (op_assign (av := .exact (.string (bs y7))) rfl ?_)
        refine G_q rfl (op_assign (av := .row 1 c_api_Value a1) rfl ?_)
        refine G_nil ?_
        refine kC_normal ?_
        refine k_ret ?_
        refine kB_ret ?_
        refine kC_ret ?_
        obtain rfl := Option.some.inj h
        refine kP_any (endN (af' := (AF.put (AF.put AF0 (some 4) (.exact (.string (bs y7)))) (some 5) (.row 1 c_api_Value a1))) (σ' := []) _ rfl ?_ ⟨rfl, rfl⟩)
        exact Sub.of_le (AF.le_put (AV.le_eq rfl) (AF.le_put (AV.le_eq rfl) (AF.le_top _)))
      · replace h := ite_f h hc
        refine k_skip ?_
        refine kB_normal ?_
        refine kC_normal ?_
        refine k_seq ?_
        refine k_reg .free hmixP (by kernel_rfl) ?_
        refine G_q rfl (op_assign (av := .exact (.slice none 0 0)) rfl ?_)
        refine G_nil ?_
        refine kC_normal ?_
        refine k_join2_1 h (fun (x1_j8 : List (List UInt8)) (x6_j8 : List (List UInt8)) (v6_j8 : Value) => (AF.put (AF.put (AF.put AF0 (some 0) (ndA a0)) (some 1) (.row 1 c_api_Value x1_j8)) (some 6) (.exact v6_j8))) (fun (x1_j8 : List (List UInt8)) (x6_j8 : List (List UInt8)) (v6_j8 : Value) => [vecT Try.prog 25 1 c_api_Value v6_j8 x6_j8]) (fun k8 h => ?_) (fun x1_j8 x6_j8 v6_j8 h => ?_)
        · refine k_seq ?_
          refine k_reg .free hmixP (by kernel_rfl) ?_
          refine G_q rfl (op_move (av := ndA a0) rfl ?_)
          obtain ⟨y23, hy23, h⟩ := bnd1_some h
          refine G_q rfl (op_nilCheck_ptr (c := c_pattern_node y23) (ndA_un hy23) ?_)
          refine G_q rfl (op_fieldAddr_ptr (o := 2) (c' := (List.drop 2 (c_pattern_node y23))) (by kernel_rfl) rfl rfl ?_)
          refine G_q rfl (op_load1p (a := .row 1 c_P_pattern_node y23.2.2) (by kernel_rfl) rfl rfl ?_)
          refine G_q rfl (op_len_row (by kernel_rfl) rfl ?_)
          refine G_q rfl (op_move (av := .exact (.int .i64 0)) rfl ?_)
          refine G_nil ?_
          refine kC_normal ?_
          refine k_block ?_
          refine k_loop3_1 (m_pattern_node_build_L2 self_pattern_node_build k8 y23) (m_pattern_node_build_B2 self_pattern_node_build k8 y23) (fun _ _ _ => rfl) (fun m _ _ _ => rfl) h (fun (x1_l2 : List (List UInt8)) (x6_l2 : List (List UInt8)) (x45_l2 : Int) (v6_l2 : Value) => (AF.put (AF.put (AF.put (AF.put (AF.put (AF.put AF0 (some 0) (ndA a0)) (some 1) (.row 1 c_api_Value x1_l2)) (some 6) (.exact v6_l2)) (some 43) (.row 1 c_P_pattern_node y23.2.2)) (some 44) (.exact (.int .i64 (List.length y23.2.2 : Int)))) (some 45) (.exact (.int .i64 x45_l2)))) (fun (x1_l2 : List (List UInt8)) (x6_l2 : List (List UInt8)) (x45_l2 : Int) (v6_l2 : Value) => [vecT Try.prog 25 1 c_api_Value v6_l2 x6_l2]) (.slice none 0 0) ?_ (fun rec2 x1_l2 x6_l2 x45_l2 v6_l2 h => ?_)
          · refine Sub.trans (SubU.to (SubU.nilT (P := Try.prog) (t := 25) (n := 1) (enc := c_api_Value))) ?_
            exact Sub.of_le (AF.le_put (AV.le_eq rfl) (AF.le_put (AV.le_eq rfl) (AF.le_put (AV.le_eq rfl) (AF.le_put (AV.le_eq rfl) (AF.le_put (AV.le_eq rfl) (AF.le_put (AV.le_eq rfl) (AF.le_top _)))))))
          · unfold m_pattern_node_build_B2 at h
            refine k_seq ?_
            refine k_reg .free hmixP (by kernel_rfl) ?_
            refine G_q rfl (op_lss rfl rfl ?_)
            refine G_nil ?_
            refine kC_normal ?_
            refine k_seq ?_
            refine k_cond_d (p := x45_l2 < (List.length y23.2.2 : Int)) rfl (fun hc => ?_) (fun hc => ?_)
            · replace h := ite_t h hc
              refine k_skip ?_
              refine kC_normal ?_
              refine k_seq ?_
              refine k_block ?_
              refine k_seq ?_
              refine k_reg .free hmixP (by kernel_rfl) ?_
              obtain ⟨n32, h⟩ := need_some h
              refine G_q rfl (op_index_row (by kernel_rfl) rfl rfl n32.1 n32.2 ?_)
              refine G_q rfl (op_load1p (a := ndA (gi y23.2.2 x45_l2)) (by kernel_rfl) rfl rfl ?_)
              refine G_q rfl (op_assign (av := ndA (gi y23.2.2 x45_l2)) rfl ?_)
              refine G_nil ?_
              refine kC_normal ?_
              refine k_seq ?_
              refine k_reg .free hmixP (by kernel_rfl) ?_
              refine G_q rfl (op_move (av := ndA (gi y23.2.2 x45_l2)) rfl ?_)
              refine G_q rfl (op_move (av := .row 1 c_api_Value x1_l2) rfl ?_)
              obtain ⟨y33, hy33, h⟩ := bnd1_some h
              refine G_q rfl (op_pure (hself_pattern_node_build _ _ _ hy33) Try.func35 (by kernel_rfl) (LEs.cons (AV.le_eq rfl) (LEs.cons (AV.le_eq rfl) LEs.nil)) ?_)
              refine G_q rfl (op_move (av := .tup [.exact (.string (bs y33.1)), .row 1 c_api_Value y33.2]) rfl ?_)
              refine G_q rfl (op_extract (av := .exact (.string (bs y33.1))) rfl rfl ?_)
              refine G_q rfl (op_extract (av := .row 1 c_api_Value y33.2) rfl rfl ?_)
              refine G_q rfl (op_assign (av := .exact (.string (bs y33.1))) rfl ?_)
              refine G_q rfl (op_assign (av := .row 1 c_api_Value y33.2) rfl ?_)
              refine G_nil ?_
              refine kC_normal ?_
              refine k_seq ?_
              refine k_reg .free hmixP (by kernel_rfl) ?_
              refine G_q rfl (op_move (av := .exact v6_l2) rfl ?_)
              refine G_q rfl (op_move (av := .exact (.string (bs y33.1))) rfl ?_)
              refine G_q rfl (op_litT (n := 1) (enc := c_api_Value) [y33.1] (CellsAll.cons rfl CellsOf.str CellsAll.nil) rfl (by kernel_rfl) (LEss.cons (LEs.cons (AV.le_eq rfl) LEs.nil) LEss.nil) ?_)
              obtain ⟨n34, h⟩ := need_some h
              refine G_l rfl (op_appT (by kernel_rfl) rfl rfl oc_c_api_Value n34 (fun v35 => ?_))
              refine G_q rfl (op_assign (av := .exact v35) rfl ?_)
              refine G_nil ?_
              refine kC_normal ?_
              refine k_reg .free hmixP (by kernel_rfl) ?_
              refine G_q rfl (op_move (av := .row 1 c_api_Value y33.2) rfl ?_)
              refine G_q rfl (op_assign (av := .row 1 c_api_Value y33.2) rfl ?_)
              refine G_nil ?_
              refine kB_normal ?_
              refine kC_normal ?_
              refine k_reg .free hmixP (by kernel_rfl) ?_
              refine G_q rfl (op_add rfl rfl rfl ?_)
              refine G_q rfl (op_move (av := .exact (.int .i64 (i64 (x45_l2 + 1)))) rfl ?_)
              refine G_nil ?_
              refine kI_normal ⟨_, _, _, v35, h, ?_⟩
              exact Sub.of_le (AF.le_put (AV.le_eq rfl) (AF.le_put (AV.le_eq rfl) (AF.le_put (AV.le_eq rfl) (AF.le_put (AV.le_eq rfl) (AF.le_put (AV.le_eq rfl) (AF.le_put (AV.le_eq rfl) (AF.le_top _)))))))
            · replace h := ite_f h hc
              refine k_exit ?_
              refine kC_exit ?_
              refine kI_exit ?_
              refine kB_exit ?_
              refine kI_normal ⟨_, _, v6_l2, h, ?_⟩
              exact Sub.of_le (AF.le_put (AV.le_eq rfl) (AF.le_put (AV.le_eq rfl) (AF.le_put (AV.le_eq rfl) (AF.le_top _))))
        · refine k_seq ?_
          refine k_seq ?_
          refine k_reg .free hmixP (by kernel_rfl) ?_
          refine G_q rfl (op_move (av := ndA a0) rfl ?_)
          obtain ⟨y36, hy36, h⟩ := bnd1_some h
          refine G_q rfl (op_nilCheck_ptr (c := c_pattern_node y36) (ndA_un hy36) ?_)
          refine G_q rfl (op_fieldAddr_ptr (o := 0) (c' := (List.drop 0 (c_pattern_node y36))) (by kernel_rfl) rfl rfl ?_)
          refine G_q rfl (op_load1p (a := .exact (.int .i64 y36.1)) (by kernel_rfl) rfl rfl ?_)
          refine G_nil ?_
          refine kC_normal ?_
          refine k_block ?_
          refine k_seq ?_
          refine k_reg .free hmixP (by kernel_rfl) ?_
          refine G_q rfl (op_eql rfl rfl ?_)
          refine G_q rfl (op_assign (av := .exact (.bool (decide (y36.1 = 34)))) rfl ?_)
          refine G_nil ?_
          refine kC_normal ?_
          refine k_cond_d (p := y36.1 = 34) rfl (fun hc => ?_) (fun hc => ?_)
          · replace h := ite_t h hc
            refine k_seq ?_
            refine k_reg .free hmixP (by kernel_rfl) ?_
            refine G_q rfl (op_move (av := .exact v6_j8) rfl ?_)
            refine G_sub rfl (SubU.freezeT2 (s1 := 6) (s2 := 67) rfl rfl len_c_api_Value) ?_
            obtain ⟨y37, hy37, h⟩ := bnd1_some h
            refine G_q rfl (op_pure (m_value_Tuple_ok _ _ hy37) Try.func49 (by kernel_rfl) (LEs.cons (AV.le_eq rfl) LEs.nil) ?_)
            refine G_q rfl (op_move (av := .row 1 c_api_Value x1_j8) rfl ?_)
            refine G_q rfl (op_assign (av := .exact (.string (bs y37))) rfl ?_)
            refine G_q rfl (op_assign (av := .row 1 c_api_Value x1_j8) rfl ?_)
            refine G_nil ?_
            refine kC_normal ?_
            refine k_ret ?_
            refine kB_ret ?_
            refine kC_ret ?_
            obtain rfl := Option.some.inj h
            refine kP_any (endN (af' := (AF.put (AF.put AF0 (some 4) (.exact (.string (bs y37)))) (some 5) (.row 1 c_api_Value x1_j8))) (σ' := []) _ rfl ?_ ⟨rfl, rfl⟩)
            exact Sub.of_le (AF.le_put (AV.le_eq rfl) (AF.le_put (AV.le_eq rfl) (AF.le_top _)))
          · replace h := ite_f h hc
            refine k_seq ?_
            refine k_reg .free hmixP (by kernel_rfl) ?_
            refine G_q rfl (op_eql rfl rfl ?_)
            refine G_q rfl (op_assign (av := .exact (.bool (decide (y36.1 = 35)))) rfl ?_)
            refine G_nil ?_
            refine kC_normal ?_
            refine k_cond_d (p := y36.1 = 35) rfl (fun hc => ?_) (fun hc => ?_)
            · replace h := ite_t h hc
              refine k_seq ?_
              refine k_reg .free hmixP (by kernel_rfl) ?_
              refine G_q rfl (op_move (av := .exact v6_j8) rfl ?_)
              refine G_sub rfl (SubU.freezeT2 (s1 := 6) (s2 := 72) rfl rfl len_c_api_Value) ?_
              obtain ⟨y38, hy38, h⟩ := bnd1_some h
              refine G_q rfl (op_pure (m_value_Seq_ok _ _ hy38) Try.func28 (by kernel_rfl) (LEs.cons (AV.le_eq rfl) LEs.nil) ?_)
              refine G_q rfl (op_move (av := .row 1 c_api_Value x1_j8) rfl ?_)
              refine G_q rfl (op_assign (av := .exact (.string (bs y38))) rfl ?_)
              refine G_q rfl (op_assign (av := .row 1 c_api_Value x1_j8) rfl ?_)
              refine G_nil ?_
              refine kC_normal ?_
              refine k_ret ?_
              refine kB_ret ?_
              refine kC_ret ?_
              obtain rfl := Option.some.inj h
              refine kP_any (endN (af' := (AF.put (AF.put AF0 (some 4) (.exact (.string (bs y38)))) (some 5) (.row 1 c_api_Value x1_j8))) (σ' := []) _ rfl ?_ ⟨rfl, rfl⟩)
              exact Sub.of_le (AF.le_put (AV.le_eq rfl) (AF.le_put (AV.le_eq rfl) (AF.le_top _)))
            · replace h := ite_f h hc
              refine k_seq ?_
              refine k_reg .free hmixP (by kernel_rfl) ?_
              refine G_q rfl (op_eql rfl rfl ?_)
              refine G_q rfl (op_assign (av := .exact (.bool (decide (y36.1 = 37)))) rfl ?_)
              refine G_nil ?_
              refine kC_normal ?_
              refine k_cond_d (p := y36.1 = 37) rfl (fun hc => ?_) (fun hc => ?_)
              · replace h := ite_t h hc
                refine k_seq ?_
                refine k_reg .free hmixP (by kernel_rfl) ?_
                refine G_q rfl (op_move (av := .exact v6_j8) rfl ?_)
                refine G_sub rfl (SubU.freezeT2 (s1 := 6) (s2 := 77) rfl rfl len_c_api_Value) ?_
                obtain ⟨y39, hy39, h⟩ := bnd1_some h
                refine G_q rfl (op_pure (m_value_Set_ok _ _ hy39) Try.func50 (by kernel_rfl) (LEs.cons (AV.le_eq rfl) LEs.nil) ?_)
                refine G_q rfl (op_move (av := .row 1 c_api_Value x1_j8) rfl ?_)
                refine G_q rfl (op_assign (av := .exact (.string (bs y39))) rfl ?_)
                refine G_q rfl (op_assign (av := .row 1 c_api_Value x1_j8) rfl ?_)
                refine G_nil ?_
                refine kC_normal ?_
                refine k_ret ?_
                refine kB_ret ?_
                refine kC_ret ?_
                obtain rfl := Option.some.inj h
                refine kP_any (endN (af' := (AF.put (AF.put AF0 (some 4) (.exact (.string (bs y39)))) (some 5) (.row 1 c_api_Value x1_j8))) (σ' := []) _ rfl ?_ ⟨rfl, rfl⟩)
                exact Sub.of_le (AF.le_put (AV.le_eq rfl) (AF.le_put (AV.le_eq rfl) (AF.le_top _)))
              · replace h := ite_f h hc
                refine k_seq ?_
                refine k_reg .free hmixP (by kernel_rfl) ?_
                refine G_q rfl (op_eql rfl rfl ?_)
                refine G_q rfl (op_assign (av := .exact (.bool (decide (y36.1 = 38)))) rfl ?_)
                refine G_nil ?_
                refine kC_normal ?_
                refine k_cond_d (p := y36.1 = 38) rfl (fun hc => ?_) (fun hc => ?_)
                · replace h := ite_t h hc
                  refine k_seq ?_
                  refine k_join1_0 h (fun (x93_j46 : Bool) => (AF.put (AF.put (AF.put (AF.put AF0 (some 0) (ndA a0)) (some 1) (.row 1 c_api_Value x1_j8)) (some 6) (.exact v6_j8)) (some 93) (.exact (.bool x93_j46)))) (fun (x93_j46 : Bool) => [vecT Try.prog 25 1 c_api_Value v6_j8 x6_j8]) (fun k46 h => ?_) (fun x93_j46 h => ?_)
                  · refine k_reg .free hmixP (by kernel_rfl) ?_
                    refine G_q rfl (op_move (av := ndA a0) rfl ?_)
                    obtain ⟨y49, hy49, h⟩ := bnd1_some h
                    refine G_q rfl (op_nilCheck_ptr (c := c_pattern_node y49) (ndA_un hy49) ?_)
                    refine G_q rfl (op_fieldAddr_ptr (o := 1) (c' := (List.drop 1 (c_pattern_node y49))) (by kernel_rfl) rfl rfl ?_)
                    refine G_q rfl (op_load1p (a := .exact (.int .i64 y49.2.1)) (by kernel_rfl) rfl rfl ?_)
                    refine G_q rfl (op_lss rfl rfl ?_)
                    refine G_q rfl (op_move (av := .exact (.bool (decide (y49.2.1 < 0)))) rfl ?_)
                    refine G_split (p := y49.2.1 < 0) 87 rfl (fun hc => ?_) (fun hc => ?_)
                    · replace h := ite_t h hc
                      refine G_n rfl rfl ?_
                      refine G_n rfl rfl ?_
                      refine G_n rfl rfl ?_
                      refine G_n rfl rfl ?_
                      refine G_n rfl rfl ?_
                      refine G_q rfl (op_pick_t rfl (av := .exact (.bool true)) rfl ?_)
                      refine G_nil ?_
                      refine kI_normal ⟨_, h, ?_⟩
                      exact Sub.of_le (AF.le_put (AV.le_eq rfl) (AF.le_put (AV.le_eq rfl) (AF.le_put (AV.le_eq rfl) (AF.le_put (AV.le_eq rfl) (AF.le_top _)))))
                    · replace h := ite_f h hc
                      refine Gy_q rfl rfl rfl (op_move (av := ndA a0) rfl ?_)
                      obtain ⟨y50, hy50, h⟩ := bnd1_some h
                      refine Gy_q rfl rfl rfl (op_nilCheck_ptr (c := c_pattern_node y50) (ndA_un hy50) ?_)
                      refine Gy_q rfl rfl rfl (op_fieldAddr_ptr (o := 1) (c' := (List.drop 1 (c_pattern_node y50))) (by kernel_rfl) rfl rfl ?_)
                      refine Gy_q rfl rfl rfl (op_load1p (a := .exact (.int .i64 y50.2.1)) (by kernel_rfl) rfl rfl ?_)
                      refine Gy_q rfl rfl rfl (op_geq rfl rfl ?_)
                      refine G_q rfl (op_pick_f rfl (av := .exact (.bool (decide (65536 ≤ y50.2.1)))) rfl ?_)
                      refine G_nil ?_
                      refine kI_normal ⟨_, h, ?_⟩
                      exact Sub.of_le (AF.le_put (AV.le_eq rfl) (AF.le_put (AV.le_eq rfl) (AF.le_put (AV.le_eq rfl) (AF.le_put (AV.le_eq rfl) (AF.le_top _)))))
                  · refine k_cond_b (c := x93_j46) rfl (fun hc => ?_) (fun hc => ?_)
                    · replace h := ite_t h hc
                      refine k_seq ?_
                      refine k_reg .free hmixP (by kernel_rfl) ?_
                      refine G_q rfl (op_move (av := .row 1 c_api_Value x1_j8) rfl ?_)
                      refine G_q rfl (op_assign (av := .exact (.string (bs ([] : List UInt8)))) rfl ?_)
                      refine G_q rfl (op_assign (av := .row 1 c_api_Value x1_j8) rfl ?_)
                      refine G_nil ?_
                      refine kC_normal ?_
                      refine k_ret ?_
                      refine kC_ret ?_
                      refine kB_ret ?_
                      refine kC_ret ?_
                      obtain rfl := Option.some.inj h
                      refine kP_any (endN (af' := (AF.put (AF.put AF0 (some 4) (.exact (.string (bs ([] : List UInt8))))) (some 5) (.row 1 c_api_Value x1_j8))) (σ' := []) _ rfl ?_ ⟨rfl, rfl⟩)
                      refine Sub.trans (SubU.to SubU.drop) ?_
                      exact Sub.of_le (AF.le_put (AV.le_eq rfl) (AF.le_put (AV.le_eq rfl) (AF.le_top _)))
                    · replace h := ite_f h hc
                      refine k_skip ?_
                      refine kC_normal ?_
                      refine k_seq ?_
                      refine k_reg .free hmixP (by kernel_rfl) ?_
                      refine G_q rfl (op_move (av := ndA a0) rfl ?_)
                      obtain ⟨y51, hy51, h⟩ := bnd1_some h
                      refine G_q rfl (op_nilCheck_ptr (c := c_pattern_node y51) (ndA_un hy51) ?_)
                      refine G_q rfl (op_fieldAddr_ptr (o := 1) (c' := (List.drop 1 (c_pattern_node y51))) (by kernel_rfl) rfl rfl ?_)
                      refine G_q rfl (op_load1p (a := .exact (.int .i64 y51.2.1)) (by kernel_rfl) rfl rfl ?_)
                      refine G_q rfl (op_move (av := .exact v6_j8) rfl ?_)
                      refine G_sub rfl (SubU.freezeT2 (s1 := 6) (s2 := 99) rfl rfl len_c_api_Value) ?_
                      obtain ⟨y52, hy52, h⟩ := bnd1_some h
                      refine G_q rfl (op_pure (m_value_Dot_ok _ _ _ hy52) Try.func51 (by kernel_rfl) (LEs.cons (AV.le_eq rfl) (LEs.cons (AV.le_eq rfl) LEs.nil)) ?_)
                      refine G_q rfl (op_move (av := .row 1 c_api_Value x1_j8) rfl ?_)
                      refine G_q rfl (op_assign (av := .exact (.string (bs y52))) rfl ?_)
                      refine G_q rfl (op_assign (av := .row 1 c_api_Value x1_j8) rfl ?_)
                      refine G_nil ?_
                      refine kC_normal ?_
                      refine k_ret ?_
                      refine kB_ret ?_
                      refine kC_ret ?_
                      obtain rfl := Option.some.inj h
                      refine kP_any (endN (af' := (AF.put (AF.put AF0 (some 4) (.exact (.string (bs y52)))) (some 5) (.row 1 c_api_Value x1_j8))) (σ' := []) _ rfl ?_ ⟨rfl, rfl⟩)
                      exact Sub.of_le (AF.le_put (AV.le_eq rfl) (AF.le_put (AV.le_eq rfl) (AF.le_top _)))
                · replace h := ite_f h hc
                  refine k_skip ?_
                  refine kB_normal ?_
                  refine kC_normal ?_
                  refine k_seq ?_
                  refine k_reg .free hmixP (by kernel_rfl) ?_
                  refine G_q rfl (op_move (av := .exact v6_j8) rfl ?_)
                  refine G_q rfl (op_move (av := ndA a0) rfl ?_)
                  obtain ⟨y53, hy53, h⟩ := bnd1_some h
                  refine G_q rfl (op_nilCheck_ptr (c := c_pattern_node y53) (ndA_un hy53) ?_)
                  refine G_q rfl (op_fieldAddr_ptr (o := 1) (c' := (List.drop 1 (c_pattern_node y53))) (by kernel_rfl) rfl rfl ?_)
                  refine G_q rfl (op_load1p (a := .exact (.int .i64 y53.2.1)) (by kernel_rfl) rfl rfl ?_)
                  obtain ⟨n54, h⟩ := need_some h
                  refine G_r rfl (op_index_vec (by kernel_rfl) rfl rfl n54.1 n54.2 ?_)
                  refine G_r rfl (op_load_vec1 (i := y53.2.1) (o := 0) (a := .exact (.string (bs (gi x6_j8 y53.2.1)))) (by kernel_rfl) len_c_api_Value rfl n54.1 n54.2 rfl ?_)
                  refine G_q rfl (op_assign (av := .exact (.string (bs (gi x6_j8 y53.2.1)))) rfl ?_)
                  refine G_nil ?_
                  refine kC_normal ?_
                  refine k_seq ?_
                  refine k_seq ?_
                  refine k_reg .free hmixP (by kernel_rfl) ?_
                  refine G_q rfl (op_move (av := .exact (.string (bs (gi x6_j8 y53.2.1)))) rfl ?_)
                  obtain ⟨y55, hy55, h⟩ := bnd1_some h
                  refine G_q rfl (op_pure (m_value_Kind_ok _ _ hy55) Try.func22 (by kernel_rfl) (LEs.cons (AV.le_eq rfl) LEs.nil) ?_)
                  refine G_q rfl (op_neq rfl rfl ?_)
                  refine G_nil ?_
                  refine kC_normal ?_
                  refine k_cond_d (p := ¬ y55 = 4) rfl (fun hc => ?_) (fun hc => ?_)
                  · replace h := ite_t h hc
                    refine k_seq ?_
                    refine k_reg .free hmixP (by kernel_rfl) ?_
                    refine G_q rfl (op_move (av := .row 1 c_api_Value x1_j8) rfl ?_)
                    refine G_q rfl (op_assign (av := .exact (.string (bs ([] : List UInt8)))) rfl ?_)
                    refine G_q rfl (op_assign (av := .row 1 c_api_Value x1_j8) rfl ?_)
                    refine G_nil ?_
                    refine kC_normal ?_
                    refine k_ret ?_
                    refine kC_ret ?_
                    obtain rfl := Option.some.inj h
                    refine kP_any (endN (af' := (AF.put (AF.put AF0 (some 4) (.exact (.string (bs ([] : List UInt8))))) (some 5) (.row 1 c_api_Value x1_j8))) (σ' := []) _ rfl ?_ ⟨rfl, rfl⟩)
                    refine Sub.trans (SubU.to SubU.drop) ?_
                    exact Sub.of_le (AF.le_put (AV.le_eq rfl) (AF.le_put (AV.le_eq rfl) (AF.le_top _)))
                  · replace h := ite_f h hc
                    refine k_skip ?_
                    refine kC_normal ?_
                    refine k_seq ?_
                    refine awp_sub (SubU.to (SubU.freezeT2 (s1 := 6) (s2 := 102) rfl rfl len_c_api_Value)) ?_
                    refine k_plan [] [(0, 0), (0, 1), (0, 2), (0, 3), (0, 4), (0, 5), (0, 6), (0, 7), (0, 8), (0, 9), (0, 10), (0, 11), (0, 12), (0, 13), (0, 14), (0, 15), (0, 16), (0, 17), (0, 18), (0, 19), (0, 20)] hmixP (by kernel_rfl) ?_
                    refine P_q no34_0 rfl (op_move (av := .row 1 c_api_Value x6_j8) rfl ?_)
                    refine P_q no34_0 rfl (op_move (av := ndA a0) rfl ?_)
                    obtain ⟨y57, hy57, h⟩ := bnd1_some h
                    refine P_q no34_0 rfl (op_nilCheck_ptr (c := c_pattern_node y57) (ndA_un hy57) ?_)
                    refine P_q no34_0 rfl (op_fieldAddr_ptr (o := 1) (c' := (List.drop 1 (c_pattern_node y57))) (by kernel_rfl) rfl rfl ?_)
                    refine P_q no34_0 rfl (op_load1p (a := .exact (.int .i64 y57.2.1)) (by kernel_rfl) rfl rfl ?_)
                    obtain ⟨n58, h⟩ := need_some h
                    refine P_q no34_0 rfl (op_slice_rowt (by kernel_rfl) rfl bnd_none (bnd_some rfl) (Int.le_refl 0) n58.1 n58.2 ?_)
                    refine P_q no34_0 rfl (op_move (av := .exact (.string (bs (gi x6_j8 y53.2.1)))) rfl ?_)
                    obtain ⟨y59, hy59, h⟩ := bnd1_some h
                    refine P_q no34_0 rfl (op_pure (m_value_Parts_ok _ _ hy59) Try.func23 (by kernel_rfl) (LEs.cons (AV.le_eq rfl) LEs.nil) ?_)
                    refine P_q no34_0 rfl (op_move (av := .row 1 c_api_Value x6_j8) rfl ?_)
                    refine P_q no34_0 rfl (op_move (av := ndA a0) rfl ?_)
                    obtain ⟨y60, hy60, h⟩ := bnd1_some h
                    refine P_q no34_0 rfl (op_nilCheck_ptr (c := c_pattern_node y60) (ndA_un hy60) ?_)
                    refine P_q no34_0 rfl (op_fieldAddr_ptr (o := 1) (c' := (List.drop 1 (c_pattern_node y60))) (by kernel_rfl) rfl rfl ?_)
                    refine P_q no34_0 rfl (op_load1p (a := .exact (.int .i64 y60.2.1)) (by kernel_rfl) rfl rfl ?_)
                    refine P_q no34_0 rfl (op_add rfl rfl rfl ?_)
                    obtain ⟨n61, h⟩ := need_some h
                    refine P_q no34_0 rfl (op_slice_rowd (by kernel_rfl) rfl (bnd_some rfl) bnd_none n61.1 n61.2 (Int.le_refl _) ?_)
                    refine P_q no34_0 rfl (op_litT (n := 1) (enc := c_L_api_Value) [List.take (Int.toNat y57.2.1) x6_j8, y59, List.drop (Int.toNat (i64 (y60.2.1 + 1))) x6_j8] (CellsAll.cons rfl CellsOf.row (CellsAll.cons rfl CellsOf.row (CellsAll.cons rfl CellsOf.row CellsAll.nil))) rfl (by kernel_rfl) (LEss.cons (LEs.cons (AV.le_eq rfl) LEs.nil) (LEss.cons (LEs.cons (AV.le_eq rfl) LEs.nil) (LEss.cons (LEs.cons (AV.le_eq rfl) LEs.nil) LEss.nil))) ?_)
                    obtain ⟨y62, hy62, h⟩ := bnd1_some h
                    refine P_q no34_0 rfl (op_pure (m_slices_Concat_L_api_Value_api_Value_ok _ _ hy62) Try.func27 (by kernel_rfl) (LEs.cons (AV.le_eq rfl) LEs.nil) ?_)
                    obtain ⟨y63, hy63, h⟩ := bnd1_some h
                    refine P_q no34_0 rfl (op_pure (m_value_Seq_ok _ _ hy63) Try.func28 (by kernel_rfl) (LEs.cons (AV.le_eq rfl) LEs.nil) ?_)
                    refine P_q no34_0 rfl (op_move (av := .row 1 c_api_Value x1_j8) rfl ?_)
                    refine P_q no34_0 rfl (op_assign (av := .exact (.string (bs y63))) rfl ?_)
                    refine P_q no34_0 rfl (op_assign (av := .row 1 c_api_Value x1_j8) rfl ?_)
                    refine P_nil ?_
                    refine kC_normal ?_
                    refine k_ret ?_
                    obtain rfl := Option.some.inj h
                    refine kP_any (endN (af' := (AF.put (AF.put AF0 (some 4) (.exact (.string (bs y63)))) (some 5) (.row 1 c_api_Value x1_j8))) (σ' := []) _ rfl ?_ ⟨rfl, rfl⟩)
                    exact Sub.of_le (AF.le_put (AV.le_eq rfl) (AF.le_put (AV.le_eq rfl) (AF.le_top _)))
set_option maxHeartbeats 4000000 in
theorem m_pattern_node_build_S_ok : ∀ n : Nat, (∀ (a0 : Nd) (a1 : List (List UInt8)) (r : (List UInt8) × (List (List UInt8))), m_pattern_node_build_S n a0 a1 = some r → Pure Try.prog 35 [(ndA a0), (.row 1 c_api_Value a1)] (.tup [.exact (.string (bs r.1)), .row 1 c_api_Value r.2]))
  | 0 => (fun _ _ _ h => by have h' : (none : Option _) = some _ := h; cases h')
  | n + 1 => by
    have ih := m_pattern_node_build_S_ok n
    exact fun a0 a1 r h => m_pattern_node_build_F_ok (m_pattern_node_build_S n) ih a0 a1 r h
theorem m_pattern_node_build_ok (a0 : Nd) (a1 : List (List UInt8)) (r : (List UInt8) × (List (List UInt8))) (h : m_pattern_node_build a0 a1 = some r) : Pure Try.prog 35 [(ndA a0), (.row 1 c_api_Value a1)] (.tup [.exact (.string (bs r.1)), .row 1 c_api_Value r.2]) := (m_pattern_node_build_S_ok FU) a0 a1 r h
set_option maxHeartbeats 4000000 in
theorem m_pattern_Build_ok (a0 : List (Int × Int × Int)) (a1 : List (List UInt8)) (r : (List UInt8) × Bool) (h : m_pattern_Build a0 a1 = some r) : Pure Try.prog 17 [(.row 3 c_api_Code a0), (.row 1 c_api_Value a1)] (.tup [.exact (.string (bs r.1)), .exact (.bool r.2)]) := by
  unfold m_pattern_Build at h
  refine Pure.ofFun (fun_of_awp Try.func17 rfl Try.ntmps17 (by simp) rfl (res2 rfl) fun E hE => k_end ?_)
  refine k_seq ?_
  refine k_reg .free hmixP (by kernel_rfl) ?_
  refine G_q rfl (op_assign (av := .exact (.string (bs ([] : List UInt8)))) rfl ?_)
  refine G_q rfl (op_assign (av := .exact (.bool false)) rfl ?_)
  refine G_nil ?_
  refine kC_normal ?_
  refine k_seq ?_
  refine k_reg .free hmixP (by kernel_rfl) ?_
  refine G_q rfl (op_move (av := .row 3 c_api_Code a0) rfl ?_)
  obtain ⟨y1, hy1, h⟩ := bnd1_some h
  refine G_q rfl (op_pure (m_pattern_whole_ok _ _ hy1) Try.func11 (by kernel_rfl) (LEs.cons (AV.le_eq rfl) LEs.nil) ?_)
  refine G_q rfl (op_move (av := .tup [ndA y1.1, .exact (.bool y1.2)]) rfl ?_)
  refine G_q rfl (op_extract (av := ndA y1.1) rfl rfl ?_)
  refine G_q rfl (op_extract (av := .exact (.bool y1.2)) rfl rfl ?_)
  refine G_q rfl (op_assign (av := ndA y1.1) rfl ?_)
  refine G_q rfl (op_assign (av := .exact (.bool y1.2)) rfl ?_)
  refine G_nil ?_
  refine kC_normal ?_
  refine k_join1_0 h (fun (x7_j2 : Bool) => (AF.put (AF.put (AF.put (AF.put AF0 (some 0) (.row 3 c_api_Code a0)) (some 1) (.row 1 c_api_Value a1)) (some 6) (ndA y1.1)) (some 7) (.exact (.bool x7_j2)))) (fun (x7_j2 : Bool) => []) (fun k2 h => ?_) (fun x7_j2 h => ?_)
  · refine k_reg .free hmixP (by kernel_rfl) ?_
    refine G_q rfl (op_move (av := .exact (.bool y1.2)) rfl ?_)
    refine G_q rfl (op_move (av := .exact (.bool y1.2)) rfl ?_)
    refine G_splitB (c := y1.2) 16 rfl (fun hc => ?_) (fun hc => ?_)
    · replace h := ite_t h hc
      refine Gy_q rfl rfl rfl (op_move (av := ndA y1.1) rfl ?_)
      obtain ⟨y4, hy4, h⟩ := bnd1_some h
      refine Gy_q rfl rfl rfl (op_pure (m_pattern_node_all_ok _ _ _ hy4) Try.func33 (by kernel_rfl) (LEs.cons (AV.le_eq rfl) (LEs.cons ((fn_le Try.func34 (by kernel_rfl) (fun i r h => m_pattern_Build_1_ok i r h))) LEs.nil)) ?_)
      refine G_q rfl (op_pick_t rfl (av := .exact (.bool y4)) rfl ?_)
      refine G_q rfl (op_assign (av := .exact (.bool y4)) rfl ?_)
      refine G_nil ?_
      refine kI_normal ⟨_, h, ?_⟩
      exact Sub.of_le (AF.le_put (AV.le_eq rfl) (AF.le_put (AV.le_eq rfl) (AF.le_put (AV.le_eq rfl) (AF.le_put (AV.le_eq rfl) (AF.le_top _)))))
    · replace h := ite_f h hc
      refine G_n rfl rfl ?_
      refine G_n rfl rfl ?_
      refine G_q rfl (op_pick_f rfl (av := .exact (.bool false)) rfl ?_)
      refine G_q rfl (op_assign (av := .exact (.bool false)) rfl ?_)
      refine G_nil ?_
      refine kI_normal ⟨_, h, ?_⟩
      exact Sub.of_le (AF.le_put (AV.le_eq rfl) (AF.le_put (AV.le_eq rfl) (AF.le_put (AV.le_eq rfl) (AF.le_put (AV.le_eq rfl) (AF.le_top _)))))
  · refine k_seq ?_
    refine k_join1_0 h (fun (x28_j9 : Bool) => (AF.put (AF.put (AF.put AF0 (some 1) (.row 1 c_api_Value a1)) (some 6) (ndA y1.1)) (some 28) (.exact (.bool x28_j9)))) (fun (x28_j9 : Bool) => []) (fun k9 h => ?_) (fun x28_j9 h => ?_)
    · refine k_reg .free hmixP (by kernel_rfl) ?_
      refine G_q rfl (op_move (av := .exact (.bool x7_j2)) rfl ?_)
      refine G_q rfl (op_not rfl ?_)
      refine G_q rfl (op_move (av := .exact (.bool (!x7_j2))) rfl ?_)
      refine G_splitB (c := !x7_j2) 22 rfl (fun hc => ?_) (fun hc => ?_)
      · replace h := ite_t h hc
        refine G_n rfl rfl ?_
        refine G_n rfl rfl ?_
        refine G_n rfl rfl ?_
        refine G_n rfl rfl ?_
        refine G_n rfl rfl ?_
        refine G_q rfl (op_pick_t rfl (av := .exact (.bool true)) rfl ?_)
        refine G_nil ?_
        refine kI_normal ⟨_, h, ?_⟩
        exact Sub.of_le (AF.le_put (AV.le_eq rfl) (AF.le_put (AV.le_eq rfl) (AF.le_put (AV.le_eq rfl) (AF.le_top _))))
      · replace h := ite_f h hc
        refine Gy_q rfl rfl rfl (op_move (av := .row 1 c_api_Value a1) rfl ?_)
        refine Gy_q rfl rfl rfl (op_len_row (by kernel_rfl) rfl ?_)
        refine Gy_q rfl rfl rfl (op_move (av := .row 3 c_api_Code a0) rfl ?_)
        obtain ⟨y11, hy11, h⟩ := bnd1_some h
        refine Gy_q rfl rfl rfl (op_pure (m_pattern_Vars_ok _ _ hy11) Try.func18 (by kernel_rfl) (LEs.cons (AV.le_eq rfl) LEs.nil) ?_)
        refine Gy_q rfl rfl rfl (op_neq rfl rfl ?_)
        refine G_q rfl (op_pick_f rfl (av := .exact (.bool (decide (¬ (List.length a1 : Int) = y11)))) rfl ?_)
        refine G_nil ?_
        refine kI_normal ⟨_, h, ?_⟩
        exact Sub.of_le (AF.le_put (AV.le_eq rfl) (AF.le_put (AV.le_eq rfl) (AF.le_put (AV.le_eq rfl) (AF.le_top _))))
    · refine k_cond_b (c := x28_j9) rfl (fun hc => ?_) (fun hc => ?_)
      · replace h := ite_t h hc
        refine k_seq ?_
        refine k_reg .free hmixP (by kernel_rfl) ?_
        refine G_q rfl (op_assign (av := .exact (.string (bs ([] : List UInt8)))) rfl ?_)
        refine G_q rfl (op_assign (av := .exact (.bool false)) rfl ?_)
        refine G_nil ?_
        refine kC_normal ?_
        refine k_ret ?_
        refine kC_ret ?_
        obtain rfl := Option.some.inj h
        refine kP_any (endN (af' := (AF.put (AF.put AF0 (some 4) (.exact (.string (bs ([] : List UInt8))))) (some 5) (.exact (.bool false)))) (σ' := []) _ rfl ?_ ⟨rfl, rfl⟩)
        exact Sub.of_le (AF.le_put (AV.le_eq rfl) (AF.le_put (AV.le_eq rfl) (AF.le_top _)))
      · replace h := ite_f h hc
        refine k_skip ?_
        refine kC_normal ?_
        refine k_seq ?_
        refine k_reg .free hmixP (by kernel_rfl) ?_
        refine G_q rfl (op_move (av := ndA y1.1) rfl ?_)
        refine G_q rfl (op_move (av := .row 1 c_api_Value a1) rfl ?_)
        obtain ⟨y12, hy12, h⟩ := bnd1_some h
        refine G_q rfl (op_pure (m_pattern_node_build_ok _ _ _ hy12) Try.func35 (by kernel_rfl) (LEs.cons (AV.le_eq rfl) (LEs.cons (AV.le_eq rfl) LEs.nil)) ?_)
        refine G_q rfl (op_move (av := .tup [.exact (.string (bs y12.1)), .row 1 c_api_Value y12.2]) rfl ?_)
        refine G_q rfl (op_extract (av := .exact (.string (bs y12.1))) rfl rfl ?_)
        refine G_q rfl (op_extract (av := .row 1 c_api_Value y12.2) rfl rfl ?_)
        refine G_q rfl (op_assign (av := .exact (.string (bs y12.1))) rfl ?_)
        refine G_q rfl (op_assign (av := .row 1 c_api_Value y12.2) rfl ?_)
        refine G_nil ?_
        refine kC_normal ?_
        refine k_seq ?_
        refine k_seq ?_
        refine k_reg .free hmixP (by kernel_rfl) ?_
        refine G_q rfl (op_move (av := .exact (.string (bs y12.1))) rfl ?_)
        obtain ⟨y13, hy13, h⟩ := bnd1_some h
        refine G_q rfl (op_pure (m_value_Valid_ok _ _ hy13) Try.func12 (by kernel_rfl) (LEs.cons (AV.le_eq rfl) LEs.nil) ?_)
        refine G_q rfl (op_not rfl ?_)
        refine G_nil ?_
        refine kC_normal ?_
        refine k_cond_b (c := !y13) rfl (fun hc => ?_) (fun hc => ?_)
        · replace h := ite_t h hc
          refine k_seq ?_
          refine k_reg .free hmixP (by kernel_rfl) ?_
          refine G_q rfl (op_assign (av := .exact (.string (bs ([] : List UInt8)))) rfl ?_)
          refine G_q rfl (op_assign (av := .exact (.bool false)) rfl ?_)
          refine G_nil ?_
          refine kC_normal ?_
          refine k_ret ?_
          refine kC_ret ?_
          obtain rfl := Option.some.inj h
          refine kP_any (endN (af' := (AF.put (AF.put AF0 (some 4) (.exact (.string (bs ([] : List UInt8))))) (some 5) (.exact (.bool false)))) (σ' := []) _ rfl ?_ ⟨rfl, rfl⟩)
          exact Sub.of_le (AF.le_put (AV.le_eq rfl) (AF.le_put (AV.le_eq rfl) (AF.le_top _)))
        · replace h := ite_f h hc
          refine k_skip ?_
          refine kC_normal ?_
          refine k_seq ?_
          refine k_reg .free hmixP (by kernel_rfl) ?_
          refine G_q rfl (op_move (av := .exact (.string (bs y12.1))) rfl ?_)
          refine G_q rfl (op_assign (av := .exact (.string (bs y12.1))) rfl ?_)
          refine G_q rfl (op_assign (av := .exact (.bool true)) rfl ?_)
          refine G_nil ?_
          refine kC_normal ?_
          refine k_ret ?_
          obtain rfl := Option.some.inj h
          refine kP_any (endN (af' := (AF.put (AF.put AF0 (some 4) (.exact (.string (bs y12.1)))) (some 5) (.exact (.bool true)))) (σ' := []) _ rfl ?_ ⟨rfl, rfl⟩)
          exact Sub.of_le (AF.le_put (AV.le_eq rfl) (AF.le_put (AV.le_eq rfl) (AF.le_top _)))
set_option maxHeartbeats 4000000 in
theorem m_pattern_Irrefutable_1_ok (a0 : Nd) (r : Bool) (h : m_pattern_Irrefutable_1 a0 = some r) : Pure Try.prog 36 [(ndA a0)] (.exact (.bool r)) := by
  unfold m_pattern_Irrefutable_1 at h
  refine Pure.ofFun (fun_of_awp Try.func36 rfl Try.ntmps36 (by simp) rfl (res1 rfl) fun E hE => k_end ?_)
  refine k_seq ?_
  refine k_reg .free hmixP (by kernel_rfl) ?_
  refine G_q rfl (op_assign (av := .exact (.bool false)) rfl ?_)
  refine G_nil ?_
  refine kC_normal ?_
  refine k_join1_0 h (fun (x2_j1 : Bool) => (AF.put AF0 (some 2) (.exact (.bool x2_j1)))) (fun (x2_j1 : Bool) => []) (fun k1 h => ?_) (fun x2_j1 h => ?_)
  · refine k_reg .free hmixP (by kernel_rfl) ?_
    refine G_q rfl (op_move (av := ndA a0) rfl ?_)
    obtain ⟨y6, hy6, h⟩ := bnd1_some h
    refine G_q rfl (op_nilCheck_ptr (c := c_pattern_node y6) (ndA_un hy6) ?_)
    refine G_q rfl (op_fieldAddr_ptr (o := 0) (c' := (List.drop 0 (c_pattern_node y6))) (by kernel_rfl) rfl rfl ?_)
    refine G_q rfl (op_load1p (a := .exact (.int .i64 y6.1)) (by kernel_rfl) rfl rfl ?_)
    refine G_q rfl (op_eql rfl rfl ?_)
    refine G_q rfl (op_move (av := .exact (.bool (decide (y6.1 = 30)))) rfl ?_)
    refine G_split (p := y6.1 = 30) 8 rfl (fun hc => ?_) (fun hc => ?_)
    · replace h := ite_t h hc
      refine G_n rfl rfl ?_
      refine G_n rfl rfl ?_
      refine G_n rfl rfl ?_
      refine G_n rfl rfl ?_
      refine G_n rfl rfl ?_
      refine G_q rfl (op_pick_t rfl (av := .exact (.bool true)) rfl ?_)
      refine G_q rfl (op_move (av := .exact (.bool true)) rfl ?_)
      refine G_n rfl rfl ?_
      refine G_n rfl rfl ?_
      refine G_n rfl rfl ?_
      refine G_n rfl rfl ?_
      refine G_n rfl rfl ?_
      refine G_q rfl (op_pick_t rfl (av := .exact (.bool true)) rfl ?_)
      refine G_q rfl (op_move (av := .exact (.bool true)) rfl ?_)
      refine G_n rfl rfl ?_
      refine G_n rfl rfl ?_
      refine G_n rfl rfl ?_
      refine G_n rfl rfl ?_
      refine G_n rfl rfl ?_
      refine G_q rfl (op_pick_t rfl (av := .exact (.bool true)) rfl ?_)
      refine G_q rfl (op_assign (av := .exact (.bool true)) rfl ?_)
      refine G_nil ?_
      refine kI_normal ⟨_, h, ?_⟩
      exact Sub.of_le (AF.le_put (AV.le_eq rfl) (AF.le_top _))
    · replace h := ite_f h hc
      refine Gy_q rfl rfl rfl (op_move (av := ndA a0) rfl ?_)
      obtain ⟨y7, hy7, h⟩ := bnd1_some h
      refine Gy_q rfl rfl rfl (op_nilCheck_ptr (c := c_pattern_node y7) (ndA_un hy7) ?_)
      refine Gy_q rfl rfl rfl (op_fieldAddr_ptr (o := 0) (c' := (List.drop 0 (c_pattern_node y7))) (by kernel_rfl) rfl rfl ?_)
      refine Gy_q rfl rfl rfl (op_load1p (a := .exact (.int .i64 y7.1)) (by kernel_rfl) rfl rfl ?_)
      refine Gy_q rfl rfl rfl (op_eql rfl rfl ?_)
      refine G_q rfl (op_pick_f rfl (av := .exact (.bool (decide (y7.1 = 31)))) rfl ?_)
      refine G_q rfl (op_move (av := .exact (.bool (decide (y7.1 = 31)))) rfl ?_)
      refine G_split (p := y7.1 = 31) 15 rfl (fun hc => ?_) (fun hc => ?_)
      · replace h := ite_t h hc
        refine G_n rfl rfl ?_
        refine G_n rfl rfl ?_
        refine G_n rfl rfl ?_
        refine G_n rfl rfl ?_
        refine G_n rfl rfl ?_
        refine G_q rfl (op_pick_t rfl (av := .exact (.bool true)) rfl ?_)
        refine G_q rfl (op_move (av := .exact (.bool true)) rfl ?_)
        refine G_n rfl rfl ?_
        refine G_n rfl rfl ?_
        refine G_n rfl rfl ?_
        refine G_n rfl rfl ?_
        refine G_n rfl rfl ?_
        refine G_q rfl (op_pick_t rfl (av := .exact (.bool true)) rfl ?_)
        refine G_q rfl (op_assign (av := .exact (.bool true)) rfl ?_)
        refine G_nil ?_
        refine kI_normal ⟨_, h, ?_⟩
        exact Sub.of_le (AF.le_put (AV.le_eq rfl) (AF.le_top _))
      · replace h := ite_f h hc
        refine Gy_q rfl rfl rfl (op_move (av := ndA a0) rfl ?_)
        obtain ⟨y8, hy8, h⟩ := bnd1_some h
        refine Gy_q rfl rfl rfl (op_nilCheck_ptr (c := c_pattern_node y8) (ndA_un hy8) ?_)
        refine Gy_q rfl rfl rfl (op_fieldAddr_ptr (o := 0) (c' := (List.drop 0 (c_pattern_node y8))) (by kernel_rfl) rfl rfl ?_)
        refine Gy_q rfl rfl rfl (op_load1p (a := .exact (.int .i64 y8.1)) (by kernel_rfl) rfl rfl ?_)
        refine Gy_q rfl rfl rfl (op_eql rfl rfl ?_)
        refine G_q rfl (op_pick_f rfl (av := .exact (.bool (decide (y8.1 = 34)))) rfl ?_)
        refine G_q rfl (op_move (av := .exact (.bool (decide (y8.1 = 34)))) rfl ?_)
        refine G_split (p := y8.1 = 34) 22 rfl (fun hc => ?_) (fun hc => ?_)
        · replace h := ite_t h hc
          refine G_n rfl rfl ?_
          refine G_n rfl rfl ?_
          refine G_n rfl rfl ?_
          refine G_n rfl rfl ?_
          refine G_n rfl rfl ?_
          refine G_q rfl (op_pick_t rfl (av := .exact (.bool true)) rfl ?_)
          refine G_q rfl (op_assign (av := .exact (.bool true)) rfl ?_)
          refine G_nil ?_
          refine kI_normal ⟨_, h, ?_⟩
          exact Sub.of_le (AF.le_put (AV.le_eq rfl) (AF.le_top _))
        · replace h := ite_f h hc
          refine Gy_q rfl rfl rfl (op_move (av := ndA a0) rfl ?_)
          obtain ⟨y9, hy9, h⟩ := bnd1_some h
          refine Gy_q rfl rfl rfl (op_nilCheck_ptr (c := c_pattern_node y9) (ndA_un hy9) ?_)
          refine Gy_q rfl rfl rfl (op_fieldAddr_ptr (o := 0) (c' := (List.drop 0 (c_pattern_node y9))) (by kernel_rfl) rfl rfl ?_)
          refine Gy_q rfl rfl rfl (op_load1p (a := .exact (.int .i64 y9.1)) (by kernel_rfl) rfl rfl ?_)
          refine Gy_q rfl rfl rfl (op_eql rfl rfl ?_)
          refine G_q rfl (op_pick_f rfl (av := .exact (.bool (decide (y9.1 = 40)))) rfl ?_)
          refine G_q rfl (op_assign (av := .exact (.bool (decide (y9.1 = 40)))) rfl ?_)
          refine G_nil ?_
          refine kI_normal ⟨_, h, ?_⟩
          exact Sub.of_le (AF.le_put (AV.le_eq rfl) (AF.le_top _))
  · refine k_ret ?_
    obtain rfl := Option.some.inj h
    refine kP_any (endN (af' := (AF.put AF0 (some 2) (.exact (.bool x2_j1)))) (σ' := []) _ rfl ?_ ⟨rfl, rfl⟩)
    exact Sub.of_le (AF.le_put (AV.le_eq rfl) (AF.le_top _))
end Go.Proofs.Ytpfdeahcjlfijaa
/- The functions compute their models, by program. -/
namespace Go.Proofs.Ytpfdeahcjlfijaa
open Go.RowKit
attribute [local irreducible] AV.exact AV.top AV.row AV.ptr AV.agg AV.tup AV.eptr AV.fn AV.nilq AV.nilqn opA opB opM opR Quiet Loud Reads wpG awp den Sub SubU Pure Fun vecI vecT boxI CellsAll CellsOf OneC LEs LEss
set_option maxRecDepth 100000

set_option maxHeartbeats 4000000 in
theorem m_pattern_Irrefutable_ok (a0 : List (Int × Int × Int)) (r : Bool) (h : m_pattern_Irrefutable a0 = some r) : Pure Try.prog 19 [(.row 3 c_api_Code a0)] (.exact (.bool r)) := by
  unfold m_pattern_Irrefutable at h
  refine Pure.ofFun (fun_of_awp Try.func19 rfl Try.ntmps19 (by simp) rfl (res1 rfl) fun E hE => k_end ?_)
  refine k_seq ?_
  refine k_reg .free hmixP (by kernel_rfl) ?_
  refine G_q rfl (op_assign (av := .exact (.bool false)) rfl ?_)
  refine G_nil ?_
  refine kC_normal ?_
  refine k_seq ?_
  refine k_reg .free hmixP (by kernel_rfl) ?_
  refine G_q rfl (op_move (av := .row 3 c_api_Code a0) rfl ?_)
  obtain ⟨y1, hy1, h⟩ := bnd1_some h
  refine G_q rfl (op_pure (m_pattern_whole_ok _ _ hy1) Try.func11 (by kernel_rfl) (LEs.cons (AV.le_eq rfl) LEs.nil) ?_)
  refine G_q rfl (op_move (av := .tup [ndA y1.1, .exact (.bool y1.2)]) rfl ?_)
  refine G_q rfl (op_extract (av := ndA y1.1) rfl rfl ?_)
  refine G_q rfl (op_extract (av := .exact (.bool y1.2)) rfl rfl ?_)
  refine G_q rfl (op_assign (av := ndA y1.1) rfl ?_)
  refine G_q rfl (op_assign (av := .exact (.bool y1.2)) rfl ?_)
  refine G_nil ?_
  refine kC_normal ?_
  refine k_join1_0 h (fun (x2_j2 : Bool) => (AF.put AF0 (some 2) (.exact (.bool x2_j2)))) (fun (x2_j2 : Bool) => []) (fun k2 h => ?_) (fun x2_j2 h => ?_)
  · refine k_reg .free hmixP (by kernel_rfl) ?_
    refine G_q rfl (op_move (av := .exact (.bool y1.2)) rfl ?_)
    refine G_q rfl (op_move (av := .exact (.bool y1.2)) rfl ?_)
    refine G_splitB (c := y1.2) 11 rfl (fun hc => ?_) (fun hc => ?_)
    · replace h := ite_t h hc
      refine Gy_q rfl rfl rfl (op_move (av := ndA y1.1) rfl ?_)
      obtain ⟨y4, hy4, h⟩ := bnd1_some h
      refine Gy_q rfl rfl rfl (op_pure (m_pattern_node_all_ok _ _ _ hy4) Try.func33 (by kernel_rfl) (LEs.cons (AV.le_eq rfl) (LEs.cons ((fn_le Try.func36 (by kernel_rfl) (fun i r h => m_pattern_Irrefutable_1_ok i r h))) LEs.nil)) ?_)
      refine G_q rfl (op_pick_t rfl (av := .exact (.bool y4)) rfl ?_)
      refine G_q rfl (op_assign (av := .exact (.bool y4)) rfl ?_)
      refine G_nil ?_
      refine kI_normal ⟨_, h, ?_⟩
      exact Sub.of_le (AF.le_put (AV.le_eq rfl) (AF.le_top _))
    · replace h := ite_f h hc
      refine G_n rfl rfl ?_
      refine G_n rfl rfl ?_
      refine G_q rfl (op_pick_f rfl (av := .exact (.bool false)) rfl ?_)
      refine G_q rfl (op_assign (av := .exact (.bool false)) rfl ?_)
      refine G_nil ?_
      refine kI_normal ⟨_, h, ?_⟩
      exact Sub.of_le (AF.le_put (AV.le_eq rfl) (AF.le_top _))
  · refine k_ret ?_
    obtain rfl := Option.some.inj h
    refine kP_any (endN (af' := (AF.put AF0 (some 2) (.exact (.bool x2_j2)))) (σ' := []) _ rfl ?_ ⟨rfl, rfl⟩)
    exact Sub.of_le (AF.le_put (AV.le_eq rfl) (AF.le_top _))
set_option maxHeartbeats 4000000 in
theorem m_law12_awake_ok  (r : Bool) (h : m_law12_awake = some r) : Pure Try.prog 8 [] (.exact (.bool r)) := by
  unfold m_law12_awake at h
  refine Pure.ofFun (fun_of_awp Try.func8 rfl Try.ntmps8 (by simp) rfl (res1 rfl) fun E hE => k_end ?_)
  refine k_seq ?_
  refine k_reg .free hmixP (by kernel_rfl) ?_
  refine G_q rfl (op_assign (av := .exact (.bool false)) rfl ?_)
  refine G_nil ?_
  refine kC_normal ?_
  refine k_seq ?_
  refine k_reg .free hmixP (by kernel_rfl) ?_
  obtain ⟨y1, hy1, h⟩ := bnd1_some h
  refine G_q rfl (op_pure (m_law12_node_ok _ _ _ _ hy1) Try.func4 (by kernel_rfl) (LEs.cons (AV.le_eq rfl) (LEs.cons (AV.le_eq rfl) (LEs.cons (row_nil (by decide)) LEs.nil))) ?_)
  obtain ⟨y2, hy2, h⟩ := bnd1_some h
  refine G_q rfl (op_pure (m_law12_node_ok _ _ _ _ hy2) Try.func4 (by kernel_rfl) (LEs.cons (AV.le_eq rfl) (LEs.cons (AV.le_eq rfl) (LEs.cons (row_nil (by decide)) LEs.nil))) ?_)
  refine G_q rfl (op_litT (n := 1) (enc := c_L_api_Code) [y1, y2] (CellsAll.cons rfl CellsOf.row (CellsAll.cons rfl CellsOf.row CellsAll.nil)) rfl (by kernel_rfl) (LEss.cons (LEs.cons (AV.le_eq rfl) LEs.nil) (LEss.cons (LEs.cons (AV.le_eq rfl) LEs.nil) LEss.nil)) ?_)
  obtain ⟨y3, hy3, h⟩ := bnd1_some h
  refine G_q rfl (op_pure (m_law12_node_ok _ _ _ _ hy3) Try.func4 (by kernel_rfl) (LEs.cons (AV.le_eq rfl) (LEs.cons (AV.le_eq rfl) (LEs.cons (AV.le_eq rfl) LEs.nil))) ?_)
  refine G_q rfl (op_assign (av := .row 3 c_api_Code y3) rfl ?_)
  refine G_nil ?_
  refine kC_normal ?_
  refine k_seq ?_
  refine k_reg .free hmixP (by kernel_rfl) ?_
  obtain ⟨y4, hy4, h⟩ := bnd1_some h
  refine G_q rfl (op_pure (m_ref9_Int_ok _ _ hy4) Try.func5 (by kernel_rfl) (LEs.cons (AV.le_eq rfl) LEs.nil) ?_)
  obtain ⟨y5, hy5, h⟩ := bnd1_some h
  refine G_q rfl (op_pure (m_ref9_Int_ok _ _ hy5) Try.func5 (by kernel_rfl) (LEs.cons (AV.le_eq rfl) LEs.nil) ?_)
  refine G_q rfl (op_litT (n := 1) (enc := c_api_Value) [y4, y5] (CellsAll.cons rfl CellsOf.str (CellsAll.cons rfl CellsOf.str CellsAll.nil)) rfl (by kernel_rfl) (LEss.cons (LEs.cons (AV.le_eq rfl) LEs.nil) (LEss.cons (LEs.cons (AV.le_eq rfl) LEs.nil) LEss.nil)) ?_)
  obtain ⟨y6, hy6, h⟩ := bnd1_some h
  refine G_q rfl (op_pure (m_ref9_Make_ok _ _ _ hy6) Try.func7 (by kernel_rfl) (LEs.cons (AV.le_eq rfl) (LEs.cons (AV.le_eq rfl) LEs.nil)) ?_)
  refine G_q rfl (op_assign (av := .exact (.string (bs y6))) rfl ?_)
  refine G_nil ?_
  refine kC_normal ?_
  refine k_seq ?_
  refine k_reg .free hmixP (by kernel_rfl) ?_
  refine G_q rfl (op_move (av := .row 3 c_api_Code y3) rfl ?_)
  refine G_q rfl (op_move (av := .exact (.string (bs y6))) rfl ?_)
  obtain ⟨y7, hy7, h⟩ := bnd1_some h
  refine G_q rfl (op_pure (m_pattern_Match_ok _ _ _ hy7) Try.func6 (by kernel_rfl) (LEs.cons (AV.le_eq rfl) (LEs.cons (AV.le_eq rfl) LEs.nil)) ?_)
  refine G_q rfl (op_move (av := .tup [.row 1 c_api_Value y7.1, .exact (.bool y7.2)]) rfl ?_)
  refine G_q rfl (op_extract (av := .row 1 c_api_Value y7.1) rfl rfl ?_)
  refine G_q rfl (op_extract (av := .exact (.bool y7.2)) rfl rfl ?_)
  refine G_q rfl (op_assign (av := .row 1 c_api_Value y7.1) rfl ?_)
  refine G_q rfl (op_assign (av := .exact (.bool y7.2)) rfl ?_)
  refine G_nil ?_
  refine kC_normal ?_
  refine k_seq ?_
  refine k_reg .free hmixP (by kernel_rfl) ?_
  refine G_q rfl (op_move (av := .row 3 c_api_Code y3) rfl ?_)
  refine G_q rfl (op_move (av := .row 1 c_api_Value y7.1) rfl ?_)
  obtain ⟨y8, hy8, h⟩ := bnd1_some h
  refine G_q rfl (op_pure (m_pattern_Build_ok _ _ _ hy8) Try.func17 (by kernel_rfl) (LEs.cons (AV.le_eq rfl) (LEs.cons (AV.le_eq rfl) LEs.nil)) ?_)
  refine G_q rfl (op_move (av := .tup [.exact (.string (bs y8.1)), .exact (.bool y8.2)]) rfl ?_)
  refine G_q rfl (op_extract (av := .exact (.string (bs y8.1))) rfl rfl ?_)
  refine G_q rfl (op_extract (av := .exact (.bool y8.2)) rfl rfl ?_)
  refine G_q rfl (op_assign (av := .exact (.string (bs y8.1))) rfl ?_)
  refine G_q rfl (op_assign (av := .exact (.bool y8.2)) rfl ?_)
  refine G_nil ?_
  refine kC_normal ?_
  refine k_join1_0 h (fun (x0_j9 : Bool) => (AF.put AF0 (some 0) (.exact (.bool x0_j9)))) (fun (x0_j9 : Bool) => []) (fun k9 h => ?_) (fun x0_j9 h => ?_)
  · refine k_plan [] [(0, 0), (0, 1), (0, 2), (0, 3), (0, 4), (0, 5), (0, 6), (0, 7), (0, 8), (0, 9), (0, 10), (0, 11), (0, 12), (0, 13), (0, 14), (0, 15), (0, 16), (0, 17), (0, 18), (0, 19), (0, 20), (0, 21), (0, 22), (0, 23), (0, 24), (0, 25), (0, 26), (0, 27), (0, 28), (0, 29), (0, 30), (0, 31)] hmixP (by kernel_rfl) ?_
    refine P_q no34_0 rfl (op_move (av := .exact (.bool y7.2)) rfl ?_)
    refine P_q no34_0 rfl (op_move (av := .exact (.bool y7.2)) rfl ?_)
    refine P_splitB (c := y7.2) 28 rfl (fun hc => ?_) (fun hc => ?_)
    · replace h := ite_t h hc
      refine Py_q no34_0 rfl rfl rfl (op_move (av := .row 1 c_api_Value y7.1) rfl ?_)
      refine Py_q no34_0 rfl rfl rfl (op_len_row (by kernel_rfl) rfl ?_)
      refine Py_q no34_0 rfl rfl rfl (op_eql rfl rfl ?_)
      refine P_q no34_0 rfl (op_pick_t rfl (av := .exact (.bool (decide ((List.length y7.1 : Int) = 2)))) rfl ?_)
      refine P_q no34_0 rfl (op_move (av := .exact (.bool (decide ((List.length y7.1 : Int) = 2)))) rfl ?_)
      refine P_split (p := (List.length y7.1 : Int) = 2) 33 rfl (fun hc => ?_) (fun hc => ?_)
      · replace h := ite_t h hc
        refine Py_q no34_0 rfl rfl rfl (op_move (av := .row 1 c_api_Value y7.1) rfl ?_)
        obtain ⟨n14, h⟩ := need_some h
        refine Py_q no34_0 rfl rfl rfl (op_index_row (by kernel_rfl) rfl rfl n14.1 n14.2 ?_)
        refine Py_q no34_0 rfl rfl rfl (op_load1p (a := .exact (.string (bs (gi y7.1 0)))) (by kernel_rfl) rfl rfl ?_)
        obtain ⟨y15, hy15, h⟩ := bnd1_some h
        refine Py_q no34_0 rfl rfl rfl (op_pure (m_ref9_Int_ok _ _ hy15) Try.func5 (by kernel_rfl) (LEs.cons (AV.le_eq rfl) LEs.nil) ?_)
        refine Py_q no34_0 rfl rfl rfl (op_eqlS rfl rfl ?_)
        refine P_q no34_0 rfl (op_pick_t rfl (av := .exact (.bool (decide ((gi y7.1 0) = y15)))) rfl ?_)
        refine P_q no34_0 rfl (op_move (av := .exact (.bool (decide ((gi y7.1 0) = y15)))) rfl ?_)
        refine P_split (p := (gi y7.1 0) = y15) 40 rfl (fun hc => ?_) (fun hc => ?_)
        · replace h := ite_t h hc
          refine Py_q no34_0 rfl rfl rfl (op_move (av := .row 3 c_api_Code y3) rfl ?_)
          obtain ⟨y16, hy16, h⟩ := bnd1_some h
          refine Py_q no34_0 rfl rfl rfl (op_pure (m_pattern_Vars_ok _ _ hy16) Try.func18 (by kernel_rfl) (LEs.cons (AV.le_eq rfl) LEs.nil) ?_)
          refine Py_q no34_0 rfl rfl rfl (op_eql rfl rfl ?_)
          refine P_q no34_0 rfl (op_pick_t rfl (av := .exact (.bool (decide (y16 = 2)))) rfl ?_)
          refine P_q no34_0 rfl (op_move (av := .exact (.bool (decide (y16 = 2)))) rfl ?_)
          refine P_split (p := y16 = 2) 45 rfl (fun hc => ?_) (fun hc => ?_)
          · replace h := ite_t h hc
            refine Py_q no34_0 rfl rfl rfl (op_move (av := .exact (.bool y8.2)) rfl ?_)
            refine P_q no34_0 rfl (op_pick_t rfl (av := .exact (.bool y8.2)) rfl ?_)
            refine P_q no34_0 rfl (op_move (av := .exact (.bool y8.2)) rfl ?_)
            refine P_splitB (c := y8.2) 48 rfl (fun hc => ?_) (fun hc => ?_)
            · replace h := ite_t h hc
              refine Py_q no34_0 rfl rfl rfl (op_move (av := .exact (.string (bs y8.1))) rfl ?_)
              refine Py_q no34_0 rfl rfl rfl (op_move (av := .exact (.string (bs y6))) rfl ?_)
              refine Py_q no34_0 rfl rfl rfl (op_eqlS rfl rfl ?_)
              refine P_q no34_0 rfl (op_pick_t rfl (av := .exact (.bool (decide (y8.1 = y6)))) rfl ?_)
              refine P_q no34_0 rfl (op_move (av := .exact (.bool (decide (y8.1 = y6)))) rfl ?_)
              refine P_split (p := y8.1 = y6) 53 rfl (fun hc => ?_) (fun hc => ?_)
              · replace h := ite_t h hc
                refine Py_q no34_0 rfl rfl rfl (op_move (av := .row 3 c_api_Code y3) rfl ?_)
                obtain ⟨y17, hy17, h⟩ := bnd1_some h
                refine Py_q no34_0 rfl rfl rfl (op_pure (m_pattern_Irrefutable_ok _ _ hy17) Try.func19 (by kernel_rfl) (LEs.cons (AV.le_eq rfl) LEs.nil) ?_)
                refine Py_q no34_0 rfl rfl rfl (op_not rfl ?_)
                refine P_q no34_0 rfl (op_pick_t rfl (av := .exact (.bool (!y17))) rfl ?_)
                refine P_q no34_0 rfl (op_assign (av := .exact (.bool (!y17))) rfl ?_)
                refine P_nil ?_
                refine kI_normal ⟨_, h, ?_⟩
                exact Sub.of_le (AF.le_put (AV.le_eq rfl) (AF.le_top _))
              · replace h := ite_f h hc
                refine P_n no34_0 rfl rfl rfl ?_
                refine P_n no34_0 rfl rfl rfl ?_
                refine P_n no34_0 rfl rfl rfl ?_
                refine P_q no34_0 rfl (op_pick_f rfl (av := .exact (.bool false)) rfl ?_)
                refine P_q no34_0 rfl (op_assign (av := .exact (.bool false)) rfl ?_)
                refine P_nil ?_
                refine kI_normal ⟨_, h, ?_⟩
                exact Sub.of_le (AF.le_put (AV.le_eq rfl) (AF.le_top _))
            · replace h := ite_f h hc
              refine P_n no34_0 rfl rfl rfl ?_
              refine P_n no34_0 rfl rfl rfl ?_
              refine P_n no34_0 rfl rfl rfl ?_
              refine P_q no34_0 rfl (op_pick_f rfl (av := .exact (.bool false)) rfl ?_)
              refine P_q no34_0 rfl (op_move (av := .exact (.bool false)) rfl ?_)
              refine P_n no34_0 rfl rfl rfl ?_
              refine P_n no34_0 rfl rfl rfl ?_
              refine P_n no34_0 rfl rfl rfl ?_
              refine P_q no34_0 rfl (op_pick_f rfl (av := .exact (.bool false)) rfl ?_)
              refine P_q no34_0 rfl (op_assign (av := .exact (.bool false)) rfl ?_)
              refine P_nil ?_
              refine kI_normal ⟨_, h, ?_⟩
              exact Sub.of_le (AF.le_put (AV.le_eq rfl) (AF.le_top _))
          · replace h := ite_f h hc
            refine P_n no34_0 rfl rfl rfl ?_
            refine P_q no34_0 rfl (op_pick_f rfl (av := .exact (.bool false)) rfl ?_)
            refine P_q no34_0 rfl (op_move (av := .exact (.bool false)) rfl ?_)
            refine P_n no34_0 rfl rfl rfl ?_
            refine P_n no34_0 rfl rfl rfl ?_
            refine P_n no34_0 rfl rfl rfl ?_
            refine P_q no34_0 rfl (op_pick_f rfl (av := .exact (.bool false)) rfl ?_)
            refine P_q no34_0 rfl (op_move (av := .exact (.bool false)) rfl ?_)
            refine P_n no34_0 rfl rfl rfl ?_
            refine P_n no34_0 rfl rfl rfl ?_
            refine P_n no34_0 rfl rfl rfl ?_
            refine P_q no34_0 rfl (op_pick_f rfl (av := .exact (.bool false)) rfl ?_)
            refine P_q no34_0 rfl (op_assign (av := .exact (.bool false)) rfl ?_)
            refine P_nil ?_
            refine kI_normal ⟨_, h, ?_⟩
            exact Sub.of_le (AF.le_put (AV.le_eq rfl) (AF.le_top _))
        · replace h := ite_f h hc
          refine P_n no34_0 rfl rfl rfl ?_
          refine P_n no34_0 rfl rfl rfl ?_
          refine P_n no34_0 rfl rfl rfl ?_
          refine P_q no34_0 rfl (op_pick_f rfl (av := .exact (.bool false)) rfl ?_)
          refine P_q no34_0 rfl (op_move (av := .exact (.bool false)) rfl ?_)
          refine P_n no34_0 rfl rfl rfl ?_
          refine P_q no34_0 rfl (op_pick_f rfl (av := .exact (.bool false)) rfl ?_)
          refine P_q no34_0 rfl (op_move (av := .exact (.bool false)) rfl ?_)
          refine P_n no34_0 rfl rfl rfl ?_
          refine P_n no34_0 rfl rfl rfl ?_
          refine P_n no34_0 rfl rfl rfl ?_
          refine P_q no34_0 rfl (op_pick_f rfl (av := .exact (.bool false)) rfl ?_)
          refine P_q no34_0 rfl (op_move (av := .exact (.bool false)) rfl ?_)
          refine P_n no34_0 rfl rfl rfl ?_
          refine P_n no34_0 rfl rfl rfl ?_
          refine P_n no34_0 rfl rfl rfl ?_
          refine P_q no34_0 rfl (op_pick_f rfl (av := .exact (.bool false)) rfl ?_)
          refine P_q no34_0 rfl (op_assign (av := .exact (.bool false)) rfl ?_)
          refine P_nil ?_
          refine kI_normal ⟨_, h, ?_⟩
          exact Sub.of_le (AF.le_put (AV.le_eq rfl) (AF.le_top _))
      · replace h := ite_f h hc
        refine P_n no34_0 rfl rfl rfl ?_
        refine P_n no34_0 rfl rfl rfl ?_
        refine P_n no34_0 rfl rfl rfl ?_
        refine P_n no34_0 rfl rfl rfl ?_
        refine P_n no34_0 rfl rfl rfl ?_
        refine P_q no34_0 rfl (op_pick_f rfl (av := .exact (.bool false)) rfl ?_)
        refine P_q no34_0 rfl (op_move (av := .exact (.bool false)) rfl ?_)
        refine P_n no34_0 rfl rfl rfl ?_
        refine P_n no34_0 rfl rfl rfl ?_
        refine P_n no34_0 rfl rfl rfl ?_
        refine P_q no34_0 rfl (op_pick_f rfl (av := .exact (.bool false)) rfl ?_)
        refine P_q no34_0 rfl (op_move (av := .exact (.bool false)) rfl ?_)
        refine P_n no34_0 rfl rfl rfl ?_
        refine P_q no34_0 rfl (op_pick_f rfl (av := .exact (.bool false)) rfl ?_)
        refine P_q no34_0 rfl (op_move (av := .exact (.bool false)) rfl ?_)
        refine P_n no34_0 rfl rfl rfl ?_
        refine P_n no34_0 rfl rfl rfl ?_
        refine P_n no34_0 rfl rfl rfl ?_
        refine P_q no34_0 rfl (op_pick_f rfl (av := .exact (.bool false)) rfl ?_)
        refine P_q no34_0 rfl (op_move (av := .exact (.bool false)) rfl ?_)
        refine P_n no34_0 rfl rfl rfl ?_
        refine P_n no34_0 rfl rfl rfl ?_
        refine P_n no34_0 rfl rfl rfl ?_
        refine P_q no34_0 rfl (op_pick_f rfl (av := .exact (.bool false)) rfl ?_)
        refine P_q no34_0 rfl (op_assign (av := .exact (.bool false)) rfl ?_)
        refine P_nil ?_
        refine kI_normal ⟨_, h, ?_⟩
        exact Sub.of_le (AF.le_put (AV.le_eq rfl) (AF.le_top _))
    · replace h := ite_f h hc
      refine P_n no34_0 rfl rfl rfl ?_
      refine P_n no34_0 rfl rfl rfl ?_
      refine P_n no34_0 rfl rfl rfl ?_
      refine P_q no34_0 rfl (op_pick_f rfl (av := .exact (.bool false)) rfl ?_)
      refine P_q no34_0 rfl (op_move (av := .exact (.bool false)) rfl ?_)
      refine P_n no34_0 rfl rfl rfl ?_
      refine P_n no34_0 rfl rfl rfl ?_
      refine P_n no34_0 rfl rfl rfl ?_
      refine P_n no34_0 rfl rfl rfl ?_
      refine P_n no34_0 rfl rfl rfl ?_
      refine P_q no34_0 rfl (op_pick_f rfl (av := .exact (.bool false)) rfl ?_)
      refine P_q no34_0 rfl (op_move (av := .exact (.bool false)) rfl ?_)
      refine P_n no34_0 rfl rfl rfl ?_
      refine P_n no34_0 rfl rfl rfl ?_
      refine P_n no34_0 rfl rfl rfl ?_
      refine P_q no34_0 rfl (op_pick_f rfl (av := .exact (.bool false)) rfl ?_)
      refine P_q no34_0 rfl (op_move (av := .exact (.bool false)) rfl ?_)
      refine P_n no34_0 rfl rfl rfl ?_
      refine P_q no34_0 rfl (op_pick_f rfl (av := .exact (.bool false)) rfl ?_)
      refine P_q no34_0 rfl (op_move (av := .exact (.bool false)) rfl ?_)
      refine P_n no34_0 rfl rfl rfl ?_
      refine P_n no34_0 rfl rfl rfl ?_
      refine P_n no34_0 rfl rfl rfl ?_
      refine P_q no34_0 rfl (op_pick_f rfl (av := .exact (.bool false)) rfl ?_)
      refine P_q no34_0 rfl (op_move (av := .exact (.bool false)) rfl ?_)
      refine P_n no34_0 rfl rfl rfl ?_
      refine P_n no34_0 rfl rfl rfl ?_
      refine P_n no34_0 rfl rfl rfl ?_
      refine P_q no34_0 rfl (op_pick_f rfl (av := .exact (.bool false)) rfl ?_)
      refine P_q no34_0 rfl (op_assign (av := .exact (.bool false)) rfl ?_)
      refine P_nil ?_
      refine kI_normal ⟨_, h, ?_⟩
      exact Sub.of_le (AF.le_put (AV.le_eq rfl) (AF.le_top _))
  · refine k_ret ?_
    obtain rfl := Option.some.inj h
    refine kP_any (endN (af' := (AF.put AF0 (some 0) (.exact (.bool x0_j9)))) (σ' := []) _ rfl ?_ ⟨rfl, rfl⟩)
    exact Sub.of_le (AF.le_put (AV.le_eq rfl) (AF.le_top _))
set_option maxHeartbeats 4000000 in
theorem m_help_Equal_api_Value_ok (a0 : List (List UInt8)) (a1 : List (List UInt8)) (r : Bool) (h : m_help_Equal_api_Value a0 a1 = some r) : Pure Try.prog 9 [(.row 1 c_api_Value a0), (.row 1 c_api_Value a1)] (.exact (.bool r)) := by
  unfold m_help_Equal_api_Value at h
  refine Pure.ofFun (fun_of_awp Try.func9 rfl Try.ntmps9 (by simp) rfl (res1 rfl) fun E hE => k_end ?_)
  refine k_seq ?_
  refine k_reg .free hmixP (by kernel_rfl) ?_
  refine G_q rfl (op_assign (av := .exact (.bool false)) rfl ?_)
  refine G_nil ?_
  refine kC_normal ?_
  refine k_seq ?_
  refine k_seq ?_
  refine k_reg .free hmixP (by kernel_rfl) ?_
  refine G_q rfl (op_move (av := .row 1 c_api_Value a0) rfl ?_)
  refine G_q rfl (op_len_row (by kernel_rfl) rfl ?_)
  refine G_q rfl (op_move (av := .row 1 c_api_Value a1) rfl ?_)
  refine G_q rfl (op_len_row (by kernel_rfl) rfl ?_)
  refine G_q rfl (op_neq rfl rfl ?_)
  refine G_nil ?_
  refine kC_normal ?_
  refine k_cond_d (p := ¬ (List.length a0 : Int) = (List.length a1 : Int)) rfl (fun hc => ?_) (fun hc => ?_)
  · replace h := ite_t h hc
    refine k_seq ?_
    refine k_reg .free hmixP (by kernel_rfl) ?_
    refine G_q rfl (op_assign (av := .exact (.bool false)) rfl ?_)
    refine G_nil ?_
    refine kC_normal ?_
    refine k_ret ?_
    refine kC_ret ?_
    obtain rfl := Option.some.inj h
    refine kP_any (endN (af' := (AF.put AF0 (some 4) (.exact (.bool false)))) (σ' := []) _ rfl ?_ ⟨rfl, rfl⟩)
    exact Sub.of_le (AF.le_put (AV.le_eq rfl) (AF.le_top _))
  · replace h := ite_f h hc
    refine k_skip ?_
    refine kC_normal ?_
    refine k_join0_0 h (AF0) ([]) (fun k1 h => ?_) (fun  h => ?_)
    · refine k_seq ?_
      refine k_reg .free hmixP (by kernel_rfl) ?_
      refine G_q rfl (op_assign (av := .exact (.int .i64 0)) rfl ?_)
      refine G_nil ?_
      refine kC_normal ?_
      refine k_block ?_
      refine k_loop1_0 (m_help_Equal_api_Value_L2 a0 a1 k1) (m_help_Equal_api_Value_B2 a0 a1 k1) (fun _ => rfl) (fun m _ => rfl) h (fun (x5_l2 : Int) => (AF.put (AF.put (AF.put AF0 (some 0) (.row 1 c_api_Value a0)) (some 1) (.row 1 c_api_Value a1)) (some 5) (.exact (.int .i64 x5_l2)))) (fun (x5_l2 : Int) => []) ?_ (fun rec2 x5_l2 h => ?_)
      · exact Sub.of_le (AF.le_put (AV.le_eq rfl) (AF.le_put (AV.le_eq rfl) (AF.le_put (AV.le_eq rfl) (AF.le_top _))))
      · unfold m_help_Equal_api_Value_B2 at h
        refine k_seq ?_
        refine k_seq ?_
        refine k_reg .free hmixP (by kernel_rfl) ?_
        refine G_q rfl (op_move (av := .exact (.int .i64 x5_l2)) rfl ?_)
        refine G_q rfl (op_move (av := .row 1 c_api_Value a0) rfl ?_)
        refine G_q rfl (op_len_row (by kernel_rfl) rfl ?_)
        refine G_q rfl (op_lss rfl rfl ?_)
        refine G_nil ?_
        refine kC_normal ?_
        refine k_cond_d (p := x5_l2 < (List.length a0 : Int)) rfl (fun hc => ?_) (fun hc => ?_)
        · replace h := ite_t h hc
          refine k_skip ?_
          refine kC_normal ?_
          refine k_seq ?_
          refine k_block ?_
          refine k_seq ?_
          refine k_plan [] [(0, 0), (0, 1), (0, 2), (0, 3), (0, 4), (0, 5), (0, 6), (0, 7), (0, 8)] hmixP (by kernel_rfl) ?_
          refine P_q no34_0 rfl (op_move (av := .row 1 c_api_Value a0) rfl ?_)
          refine P_q no34_0 rfl (op_move (av := .exact (.int .i64 x5_l2)) rfl ?_)
          obtain ⟨n13, h⟩ := need_some h
          refine P_q no34_0 rfl (op_index_row (by kernel_rfl) rfl rfl n13.1 n13.2 ?_)
          refine P_q no34_0 rfl (op_load1p (a := .exact (.string (bs (gi a0 x5_l2)))) (by kernel_rfl) rfl rfl ?_)
          refine P_q no34_0 rfl (op_move (av := .row 1 c_api_Value a1) rfl ?_)
          refine P_q no34_0 rfl (op_move (av := .exact (.int .i64 x5_l2)) rfl ?_)
          obtain ⟨n14, h⟩ := need_some h
          refine P_q no34_0 rfl (op_index_row (by kernel_rfl) rfl rfl n14.1 n14.2 ?_)
          refine P_q no34_0 rfl (op_load1p (a := .exact (.string (bs (gi a1 x5_l2)))) (by kernel_rfl) rfl rfl ?_)
          refine P_q no34_0 rfl (op_neqS rfl rfl ?_)
          refine P_nil ?_
          refine kC_normal ?_
          refine k_cond_d (p := ¬ (gi a0 x5_l2) = (gi a1 x5_l2)) rfl (fun hc => ?_) (fun hc => ?_)
          · replace h := ite_t h hc
            refine k_seq ?_
            refine k_reg .free hmixP (by kernel_rfl) ?_
            refine G_q rfl (op_assign (av := .exact (.bool false)) rfl ?_)
            refine G_nil ?_
            refine kC_normal ?_
            refine k_ret ?_
            refine kB_ret ?_
            refine kC_ret ?_
            refine kI_ret ?_
            refine kB_ret ?_
            refine kI_ret ?_
            obtain rfl := Option.some.inj h
            refine kP_any (endN (af' := (AF.put AF0 (some 4) (.exact (.bool false)))) (σ' := []) _ rfl ?_ ⟨rfl, rfl⟩)
            exact Sub.of_le (AF.le_put (AV.le_eq rfl) (AF.le_top _))
          · replace h := ite_f h hc
            refine k_skip ?_
            refine kB_normal ?_
            refine kC_normal ?_
            refine k_reg .free hmixP (by kernel_rfl) ?_
            refine G_q rfl (op_move (av := .exact (.int .i64 x5_l2)) rfl ?_)
            refine G_q rfl (op_add rfl rfl rfl ?_)
            refine G_q rfl (op_assign (av := .exact (.int .i64 (i64 (x5_l2 + 1)))) rfl ?_)
            refine G_nil ?_
            refine kI_normal ⟨_, h, ?_⟩
            exact Sub.of_le (AF.le_put (AV.le_eq rfl) (AF.le_put (AV.le_eq rfl) (AF.le_put (AV.le_eq rfl) (AF.le_top _))))
        · replace h := ite_f h hc
          refine k_exit ?_
          refine kC_exit ?_
          refine kI_exit ?_
          refine kB_exit ?_
          refine kI_normal ⟨h, ?_⟩
          exact Sub.of_le (AF.le_top _)
    · refine k_seq ?_
      refine k_reg .free hmixP (by kernel_rfl) ?_
      refine G_q rfl (op_assign (av := .exact (.bool true)) rfl ?_)
      refine G_nil ?_
      refine kC_normal ?_
      refine k_ret ?_
      obtain rfl := Option.some.inj h
      refine kP_any (endN (af' := (AF.put AF0 (some 4) (.exact (.bool true)))) (σ' := []) _ rfl ?_ ⟨rfl, rfl⟩)
      exact Sub.of_le (AF.le_put (AV.le_eq rfl) (AF.le_top _))
set_option maxHeartbeats 4000000 in
theorem m_law12_PatternSplits_ok (a0 : UInt8) (a1 : UInt8) (a2 : UInt8) (r : Bool) (h : m_law12_PatternSplits a0 a1 a2 = some r) : Pure Try.prog 3 [(.exact (.int .u8 (UInt8.toNat a0 : Int))), (.exact (.int .u8 (UInt8.toNat a1 : Int))), (.exact (.int .u8 (UInt8.toNat a2 : Int)))] (.exact (.bool r)) := by
  unfold m_law12_PatternSplits at h
  refine Pure.ofFun (fun_of_awp Try.func3 rfl Try.ntmps3 (by simp) rfl (res1 rfl) fun E hE => k_end ?_)
  refine k_seq ?_
  refine k_reg .free hmixP (by kernel_rfl) ?_
  refine G_q rfl (op_assign (av := .exact (.bool false)) rfl ?_)
  refine G_nil ?_
  refine kC_normal ?_
  refine k_seq ?_
  refine k_reg .free hmixP (by kernel_rfl) ?_
  refine G_q rfl (op_move (av := .exact (.int .u8 (UInt8.toNat a0 : Int))) rfl ?_)
  refine G_q rfl (op_remU (a := a0) (b := 5) rfl rfl (by decide) ?_)
  refine G_q rfl (op_convInt (k := .i64) (r := (UInt8.toNat (a0 % 5) : Int)) (by kernel_rfl) rfl (wrap_u8 rfl _) ?_)
  refine G_q rfl (op_move (av := .exact (.int .u8 (UInt8.toNat a1 : Int))) rfl ?_)
  refine G_q rfl (op_remU (a := a1) (b := 5) rfl rfl (by decide) ?_)
  refine G_q rfl (op_convInt (k := .i64) (r := (UInt8.toNat (a1 % 5) : Int)) (by kernel_rfl) rfl (wrap_u8 rfl _) ?_)
  refine G_q rfl (op_move (av := .exact (.int .u8 (UInt8.toNat a2 : Int))) rfl ?_)
  refine G_q rfl (op_remU (a := a2) (b := 12) rfl rfl (by decide) ?_)
  refine G_q rfl (op_convInt (k := .i64) (r := (UInt8.toNat (a2 % 12) : Int)) (by kernel_rfl) rfl (wrap_u8 rfl _) ?_)
  refine G_q rfl (op_assign (av := .exact (.int .i64 (UInt8.toNat (a0 % 5) : Int))) rfl ?_)
  refine G_q rfl (op_assign (av := .exact (.int .i64 (UInt8.toNat (a1 % 5) : Int))) rfl ?_)
  refine G_q rfl (op_assign (av := .exact (.int .i64 (UInt8.toNat (a2 % 12) : Int))) rfl ?_)
  refine G_nil ?_
  refine kC_normal ?_
  refine k_seq ?_
  refine k_reg .free hmixP (by kernel_rfl) ?_
  refine G_q rfl (op_assign (av := .exact (.slice none 0 0)) rfl ?_)
  refine G_nil ?_
  refine kC_normal ?_
  refine k_join1_1 h (fun (x10_j1 : List (List (Int × Int × Int))) (v10_j1 : Value) => (AF.put (AF.put (AF.put (AF.put AF0 (some 7) (.exact (.int .i64 (UInt8.toNat (a0 % 5) : Int)))) (some 8) (.exact (.int .i64 (UInt8.toNat (a1 % 5) : Int)))) (some 9) (.exact (.int .i64 (UInt8.toNat (a2 % 12) : Int)))) (some 10) (.exact v10_j1))) (fun (x10_j1 : List (List (Int × Int × Int))) (v10_j1 : Value) => [vecT Try.prog 22 1 c_L_api_Code v10_j1 x10_j1]) (fun k1 h => ?_) (fun x10_j1 v10_j1 h => ?_)
  · refine k_seq ?_
    refine k_reg .free hmixP (by kernel_rfl) ?_
    refine G_q rfl (op_assign (av := .exact (.int .i64 0)) rfl ?_)
    refine G_nil ?_
    refine kC_normal ?_
    refine k_block ?_
    refine k_loop2_1 (m_law12_PatternSplits_L2 a0 k1) (m_law12_PatternSplits_B2 a0 k1) (fun _ _ => rfl) (fun m _ _ => rfl) h (fun (x10_l2 : List (List (Int × Int × Int))) (x11_l2 : Int) (v10_l2 : Value) => (AF.put (AF.put (AF.put (AF.put (AF.put AF0 (some 7) (.exact (.int .i64 (UInt8.toNat (a0 % 5) : Int)))) (some 8) (.exact (.int .i64 (UInt8.toNat (a1 % 5) : Int)))) (some 9) (.exact (.int .i64 (UInt8.toNat (a2 % 12) : Int)))) (some 10) (.exact v10_l2)) (some 11) (.exact (.int .i64 x11_l2)))) (fun (x10_l2 : List (List (Int × Int × Int))) (x11_l2 : Int) (v10_l2 : Value) => [vecT Try.prog 22 1 c_L_api_Code v10_l2 x10_l2]) (.slice none 0 0) ?_ (fun rec2 x10_l2 x11_l2 v10_l2 h => ?_)
    · refine Sub.trans (SubU.to (SubU.nilT (P := Try.prog) (t := 22) (n := 1) (enc := c_L_api_Code))) ?_
      exact Sub.of_le (AF.le_put (AV.le_eq rfl) (AF.le_put (AV.le_eq rfl) (AF.le_put (AV.le_eq rfl) (AF.le_put (AV.le_eq rfl) (AF.le_put (AV.le_eq rfl) (AF.le_top _))))))
    · unfold m_law12_PatternSplits_B2 at h
      refine k_seq ?_
      refine k_seq ?_
      refine k_reg .free hmixP (by kernel_rfl) ?_
      refine G_q rfl (op_move (av := .exact (.int .i64 x11_l2)) rfl ?_)
      refine G_q rfl (op_move (av := .exact (.int .i64 (UInt8.toNat (a0 % 5) : Int))) rfl ?_)
      refine G_q rfl (op_lss rfl rfl ?_)
      refine G_nil ?_
      refine kC_normal ?_
      refine k_cond_d (p := x11_l2 < (UInt8.toNat (a0 % 5) : Int)) rfl (fun hc => ?_) (fun hc => ?_)
      · replace h := ite_t h hc
        refine k_skip ?_
        refine kC_normal ?_
        refine k_seq ?_
        refine k_block ?_
        refine k_reg .free hmixP (by kernel_rfl) ?_
        refine G_q rfl (op_move (av := .exact v10_l2) rfl ?_)
        obtain ⟨y18, hy18, h⟩ := bnd1_some h
        refine G_q rfl (op_pure (m_law12_node_ok _ _ _ _ hy18) Try.func4 (by kernel_rfl) (LEs.cons (AV.le_eq rfl) (LEs.cons (AV.le_eq rfl) (LEs.cons (row_nil (by decide)) LEs.nil))) ?_)
        refine G_q rfl (op_litT (n := 1) (enc := c_L_api_Code) [y18] (CellsAll.cons rfl CellsOf.row CellsAll.nil) rfl (by kernel_rfl) (LEss.cons (LEs.cons (AV.le_eq rfl) LEs.nil) LEss.nil) ?_)
        obtain ⟨n19, h⟩ := need_some h
        refine G_l rfl (op_appT (by kernel_rfl) rfl rfl oc_c_L_api_Code n19 (fun v20 => ?_))
        refine G_q rfl (op_assign (av := .exact v20) rfl ?_)
        refine G_nil ?_
        refine kB_normal ?_
        refine kC_normal ?_
        refine k_reg .free hmixP (by kernel_rfl) ?_
        refine G_q rfl (op_move (av := .exact (.int .i64 x11_l2)) rfl ?_)
        refine G_q rfl (op_add rfl rfl rfl ?_)
        refine G_q rfl (op_assign (av := .exact (.int .i64 (i64 (x11_l2 + 1)))) rfl ?_)
        refine G_nil ?_
        refine kI_normal ⟨_, _, v20, h, ?_⟩
        exact Sub.of_le (AF.le_put (AV.le_eq rfl) (AF.le_put (AV.le_eq rfl) (AF.le_put (AV.le_eq rfl) (AF.le_put (AV.le_eq rfl) (AF.le_put (AV.le_eq rfl) (AF.le_top _))))))
      · replace h := ite_f h hc
        refine k_exit ?_
        refine kC_exit ?_
        refine kI_exit ?_
        refine kB_exit ?_
        refine kI_normal ⟨_, v10_l2, h, ?_⟩
        exact Sub.of_le (AF.le_put (AV.le_eq rfl) (AF.le_put (AV.le_eq rfl) (AF.le_put (AV.le_eq rfl) (AF.le_put (AV.le_eq rfl) (AF.le_top _)))))
  · refine k_join1_1 h (fun (x10_j21 : List (List (Int × Int × Int))) (v10_j21 : Value) => (AF.put (AF.put (AF.put (AF.put AF0 (some 7) (.exact (.int .i64 (UInt8.toNat (a0 % 5) : Int)))) (some 8) (.exact (.int .i64 (UInt8.toNat (a1 % 5) : Int)))) (some 9) (.exact (.int .i64 (UInt8.toNat (a2 % 12) : Int)))) (some 10) (.exact v10_j21))) (fun (x10_j21 : List (List (Int × Int × Int))) (v10_j21 : Value) => [vecT Try.prog 22 1 c_L_api_Code v10_j21 x10_j21]) (fun k21 h => ?_) (fun x10_j21 v10_j21 h => ?_)
    · refine k_seq ?_
      refine k_reg .free hmixP (by kernel_rfl) ?_
      refine G_q rfl (op_assign (av := .exact (.int .i64 0)) rfl ?_)
      refine G_nil ?_
      refine kC_normal ?_
      refine k_block ?_
      refine k_loop2_1 (m_law12_PatternSplits_L4 a1 k21) (m_law12_PatternSplits_B4 a1 k21) (fun _ _ => rfl) (fun m _ _ => rfl) h (fun (x10_l4 : List (List (Int × Int × Int))) (x12_l4 : Int) (v10_l4 : Value) => (AF.put (AF.put (AF.put (AF.put (AF.put AF0 (some 7) (.exact (.int .i64 (UInt8.toNat (a0 % 5) : Int)))) (some 8) (.exact (.int .i64 (UInt8.toNat (a1 % 5) : Int)))) (some 9) (.exact (.int .i64 (UInt8.toNat (a2 % 12) : Int)))) (some 10) (.exact v10_l4)) (some 12) (.exact (.int .i64 x12_l4)))) (fun (x10_l4 : List (List (Int × Int × Int))) (x12_l4 : Int) (v10_l4 : Value) => [vecT Try.prog 22 1 c_L_api_Code v10_l4 x10_l4]) v10_j1 ?_ (fun rec4 x10_l4 x12_l4 v10_l4 h => ?_)
      · exact Sub.of_le (AF.le_put (AV.le_eq rfl) (AF.le_put (AV.le_eq rfl) (AF.le_put (AV.le_eq rfl) (AF.le_put (AV.le_eq rfl) (AF.le_put (AV.le_eq rfl) (AF.le_top _))))))
      · unfold m_law12_PatternSplits_B4 at h
        refine k_seq ?_
        refine k_seq ?_
        refine k_reg .free hmixP (by kernel_rfl) ?_
        refine G_q rfl (op_move (av := .exact (.int .i64 x12_l4)) rfl ?_)
        refine G_q rfl (op_move (av := .exact (.int .i64 (UInt8.toNat (a1 % 5) : Int))) rfl ?_)
        refine G_q rfl (op_leq rfl rfl ?_)
        refine G_nil ?_
        refine kC_normal ?_
        refine k_cond_d (p := x12_l4 ≤ (UInt8.toNat (a1 % 5) : Int)) rfl (fun hc => ?_) (fun hc => ?_)
        · replace h := ite_t h hc
          refine k_skip ?_
          refine kC_normal ?_
          refine k_seq ?_
          refine k_block ?_
          refine k_reg .free hmixP (by kernel_rfl) ?_
          refine G_q rfl (op_move (av := .exact v10_l4) rfl ?_)
          obtain ⟨y38, hy38, h⟩ := bnd1_some h
          refine G_q rfl (op_pure (m_law12_node_ok _ _ _ _ hy38) Try.func4 (by kernel_rfl) (LEs.cons (AV.le_eq rfl) (LEs.cons (AV.le_eq rfl) (LEs.cons (row_nil (by decide)) LEs.nil))) ?_)
          refine G_q rfl (op_litT (n := 1) (enc := c_L_api_Code) [y38] (CellsAll.cons rfl CellsOf.row CellsAll.nil) rfl (by kernel_rfl) (LEss.cons (LEs.cons (AV.le_eq rfl) LEs.nil) LEss.nil) ?_)
          obtain ⟨n39, h⟩ := need_some h
          refine G_l rfl (op_appT (by kernel_rfl) rfl rfl oc_c_L_api_Code n39 (fun v40 => ?_))
          refine G_q rfl (op_assign (av := .exact v40) rfl ?_)
          refine G_nil ?_
          refine kB_normal ?_
          refine kC_normal ?_
          refine k_reg .free hmixP (by kernel_rfl) ?_
          refine G_q rfl (op_move (av := .exact (.int .i64 x12_l4)) rfl ?_)
          refine G_q rfl (op_add rfl rfl rfl ?_)
          refine G_q rfl (op_assign (av := .exact (.int .i64 (i64 (x12_l4 + 1)))) rfl ?_)
          refine G_nil ?_
          refine kI_normal ⟨_, _, v40, h, ?_⟩
          exact Sub.of_le (AF.le_put (AV.le_eq rfl) (AF.le_put (AV.le_eq rfl) (AF.le_put (AV.le_eq rfl) (AF.le_put (AV.le_eq rfl) (AF.le_put (AV.le_eq rfl) (AF.le_top _))))))
        · replace h := ite_f h hc
          refine k_exit ?_
          refine kC_exit ?_
          refine kI_exit ?_
          refine kB_exit ?_
          refine kI_normal ⟨_, v10_l4, h, ?_⟩
          exact Sub.of_le (AF.le_put (AV.le_eq rfl) (AF.le_put (AV.le_eq rfl) (AF.le_put (AV.le_eq rfl) (AF.le_put (AV.le_eq rfl) (AF.le_top _)))))
    · refine k_seq ?_
      refine k_reg .free hmixP (by kernel_rfl) ?_
      refine G_q rfl (op_assign (av := .exact (.slice none 0 0)) rfl ?_)
      refine G_nil ?_
      refine kC_normal ?_
      refine k_join1_1 h (fun (x13_j41 : List (List UInt8)) (v13_j41 : Value) => (AF.put (AF.put (AF.put (AF.put (AF.put AF0 (some 7) (.exact (.int .i64 (UInt8.toNat (a0 % 5) : Int)))) (some 8) (.exact (.int .i64 (UInt8.toNat (a1 % 5) : Int)))) (some 9) (.exact (.int .i64 (UInt8.toNat (a2 % 12) : Int)))) (some 10) (.exact v10_j21)) (some 13) (.exact v13_j41))) (fun (x13_j41 : List (List UInt8)) (v13_j41 : Value) => [vecT Try.prog 22 1 c_L_api_Code v10_j21 x10_j21, vecT Try.prog 25 1 c_api_Value v13_j41 x13_j41]) (fun k41 h => ?_) (fun x13_j41 v13_j41 h => ?_)
      · refine k_seq ?_
        refine k_reg .free hmixP (by kernel_rfl) ?_
        refine G_q rfl (op_assign (av := .exact (.int .i64 0)) rfl ?_)
        refine G_nil ?_
        refine kC_normal ?_
        refine k_block ?_
        refine k_loop2_1 (m_law12_PatternSplits_L6 a2 k41) (m_law12_PatternSplits_B6 a2 k41) (fun _ _ => rfl) (fun m _ _ => rfl) h (fun (x13_l6 : List (List UInt8)) (x14_l6 : Int) (v13_l6 : Value) => (AF.put (AF.put (AF.put (AF.put (AF.put (AF.put AF0 (some 7) (.exact (.int .i64 (UInt8.toNat (a0 % 5) : Int)))) (some 8) (.exact (.int .i64 (UInt8.toNat (a1 % 5) : Int)))) (some 9) (.exact (.int .i64 (UInt8.toNat (a2 % 12) : Int)))) (some 10) (.exact v10_j21)) (some 13) (.exact v13_l6)) (some 14) (.exact (.int .i64 x14_l6)))) (fun (x13_l6 : List (List UInt8)) (x14_l6 : Int) (v13_l6 : Value) => [vecT Try.prog 22 1 c_L_api_Code v10_j21 x10_j21, vecT Try.prog 25 1 c_api_Value v13_l6 x13_l6]) (.slice none 0 0) ?_ (fun rec6 x13_l6 x14_l6 v13_l6 h => ?_)
        · refine Sub.trans (SubU.to (SubU.nilT (P := Try.prog) (t := 25) (n := 1) (enc := c_api_Value))) ?_
          refine Sub.trans (SubU.to SubU.f1) ?_
          exact Sub.of_le (AF.le_put (AV.le_eq rfl) (AF.le_put (AV.le_eq rfl) (AF.le_put (AV.le_eq rfl) (AF.le_put (AV.le_eq rfl) (AF.le_put (AV.le_eq rfl) (AF.le_put (AV.le_eq rfl) (AF.le_top _)))))))
        · unfold m_law12_PatternSplits_B6 at h
          refine k_seq ?_
          refine k_seq ?_
          refine k_reg .free hmixP (by kernel_rfl) ?_
          refine G_q rfl (op_move (av := .exact (.int .i64 x14_l6)) rfl ?_)
          refine G_q rfl (op_move (av := .exact (.int .i64 (UInt8.toNat (a2 % 12) : Int))) rfl ?_)
          refine G_q rfl (op_lss rfl rfl ?_)
          refine G_nil ?_
          refine kC_normal ?_
          refine k_cond_d (p := x14_l6 < (UInt8.toNat (a2 % 12) : Int)) rfl (fun hc => ?_) (fun hc => ?_)
          · replace h := ite_t h hc
            refine k_skip ?_
            refine kC_normal ?_
            refine k_seq ?_
            refine k_block ?_
            refine k_reg .free hmixP (by kernel_rfl) ?_
            refine G_q rfl (op_move (av := .exact v13_l6) rfl ?_)
            refine G_q rfl (op_move (av := .exact (.int .i64 x14_l6)) rfl ?_)
            obtain ⟨y58, hy58, h⟩ := bnd1_some h
            refine G_q rfl (op_pure (m_ref9_Int_ok _ _ hy58) Try.func5 (by kernel_rfl) (LEs.cons (AV.le_eq rfl) LEs.nil) ?_)
            refine G_q rfl (op_litT (n := 1) (enc := c_api_Value) [y58] (CellsAll.cons rfl CellsOf.str CellsAll.nil) rfl (by kernel_rfl) (LEss.cons (LEs.cons (AV.le_eq rfl) LEs.nil) LEss.nil) ?_)
            obtain ⟨n59, h⟩ := need_some h
            refine G_l rfl (opB_f1 (op_appT (by kernel_rfl) rfl rfl oc_c_api_Value n59 (fun v60 => ?_)))
            refine G_q rfl (op_assign (av := .exact v60) rfl ?_)
            refine G_nil ?_
            refine kB_normal ?_
            refine kC_normal ?_
            refine k_reg .free hmixP (by kernel_rfl) ?_
            refine G_q rfl (op_move (av := .exact (.int .i64 x14_l6)) rfl ?_)
            refine G_q rfl (op_add rfl rfl rfl ?_)
            refine G_q rfl (op_assign (av := .exact (.int .i64 (i64 (x14_l6 + 1)))) rfl ?_)
            refine G_nil ?_
            refine kI_normal ⟨_, _, v60, h, ?_⟩
            refine Sub.trans (SubU.to SubU.f1) ?_
            exact Sub.of_le (AF.le_put (AV.le_eq rfl) (AF.le_put (AV.le_eq rfl) (AF.le_put (AV.le_eq rfl) (AF.le_put (AV.le_eq rfl) (AF.le_put (AV.le_eq rfl) (AF.le_put (AV.le_eq rfl) (AF.le_top _)))))))
          · replace h := ite_f h hc
            refine k_exit ?_
            refine kC_exit ?_
            refine kI_exit ?_
            refine kB_exit ?_
            refine kI_normal ⟨_, v13_l6, h, ?_⟩
            exact Sub.of_le (AF.le_put (AV.le_eq rfl) (AF.le_put (AV.le_eq rfl) (AF.le_put (AV.le_eq rfl) (AF.le_put (AV.le_eq rfl) (AF.le_put (AV.le_eq rfl) (AF.le_top _))))))
      · refine k_seq ?_
        refine k_reg .free hmixP (by kernel_rfl) ?_
        refine G_q rfl (op_move (av := .exact (.int .i64 (UInt8.toNat (a0 % 5) : Int))) rfl ?_)
        refine G_q rfl (op_move (av := .exact v10_j21) rfl ?_)
        refine G_sub rfl (SubU.freezeT2 (s1 := 10) (s2 := 56) rfl rfl len_c_L_api_Code) ?_
        obtain ⟨y61, hy61, h⟩ := bnd1_some h
        refine G_q rfl (op_pure (m_law12_node_ok _ _ _ _ hy61) Try.func4 (by kernel_rfl) (LEs.cons (AV.le_eq rfl) (LEs.cons (AV.le_eq rfl) (LEs.cons (AV.le_eq rfl) LEs.nil))) ?_)
        refine G_q rfl (op_move (av := .exact v13_j41) rfl ?_)
        refine G_sub rfl (SubU.freezeT2 (s1 := 13) (s2 := 58) rfl rfl len_c_api_Value) ?_
        obtain ⟨y62, hy62, h⟩ := bnd1_some h
        refine G_q rfl (op_pure (m_ref9_Make_ok _ _ _ hy62) Try.func7 (by kernel_rfl) (LEs.cons (AV.le_eq rfl) (LEs.cons (AV.le_eq rfl) LEs.nil)) ?_)
        obtain ⟨y63, hy63, h⟩ := bnd1_some h
        refine G_q rfl (op_pure (m_pattern_Match_ok _ _ _ hy63) Try.func6 (by kernel_rfl) (LEs.cons (AV.le_eq rfl) (LEs.cons (AV.le_eq rfl) LEs.nil)) ?_)
        refine G_q rfl (op_move (av := .tup [.row 1 c_api_Value y63.1, .exact (.bool y63.2)]) rfl ?_)
        refine G_q rfl (op_extract (av := .row 1 c_api_Value y63.1) rfl rfl ?_)
        refine G_q rfl (op_extract (av := .exact (.bool y63.2)) rfl rfl ?_)
        refine G_q rfl (op_assign (av := .row 1 c_api_Value y63.1) rfl ?_)
        refine G_q rfl (op_assign (av := .exact (.bool y63.2)) rfl ?_)
        refine G_nil ?_
        refine kC_normal ?_
        refine k_seq ?_
        refine k_seq ?_
        refine k_reg .free hmixP (by kernel_rfl) ?_
        refine G_q rfl (op_move (av := .exact (.int .i64 (UInt8.toNat (a2 % 12) : Int))) rfl ?_)
        refine G_q rfl (op_move (av := .exact (.int .i64 (UInt8.toNat (a0 % 5) : Int))) rfl ?_)
        refine G_q rfl (op_move (av := .exact (.int .i64 (UInt8.toNat (a1 % 5) : Int))) rfl ?_)
        refine G_q rfl (op_add rfl rfl rfl ?_)
        refine G_q rfl (op_lss rfl rfl ?_)
        refine G_nil ?_
        refine kC_normal ?_
        refine k_cond_d (p := (UInt8.toNat (a2 % 12) : Int) < (i64 ((UInt8.toNat (a0 % 5) : Int) + (UInt8.toNat (a1 % 5) : Int)))) rfl (fun hc => ?_) (fun hc => ?_)
        · replace h := ite_t h hc
          refine k_join1_0 h (fun (x6_j64 : Bool) => (AF.put AF0 (some 6) (.exact (.bool x6_j64)))) (fun (x6_j64 : Bool) => []) (fun k64 h => ?_) (fun x6_j64 h => ?_)
          · refine k_reg .free hmixP (by kernel_rfl) ?_
            obtain ⟨y66, hy66, h⟩ := bnd1_some h
            refine G_q rfl (op_pure (m_law12_awake_ok _ hy66) Try.func8 (by kernel_rfl) LEs.nil ?_)
            refine G_q rfl (op_move (av := .exact (.bool y66)) rfl ?_)
            refine G_splitB (c := y66) 69 rfl (fun hc => ?_) (fun hc => ?_)
            · replace h := ite_t h hc
              refine Gy_q rfl rfl rfl (op_move (av := .exact (.bool y63.2)) rfl ?_)
              refine Gy_q rfl rfl rfl (op_not rfl ?_)
              refine G_q rfl (op_pick_t rfl (av := .exact (.bool (!y63.2))) rfl ?_)
              refine G_q rfl (op_move (av := .exact (.bool (!y63.2))) rfl ?_)
              refine G_splitB (c := !y63.2) 73 rfl (fun hc => ?_) (fun hc => ?_)
              · replace h := ite_t h hc
                refine Gy_q rfl rfl rfl (op_move (av := .row 1 c_api_Value y63.1) rfl ?_)
                refine Gy_q rfl rfl rfl (op_len_row (by kernel_rfl) rfl ?_)
                refine Gy_q rfl rfl rfl (op_eql rfl rfl ?_)
                refine G_q rfl (op_pick_t rfl (av := .exact (.bool (decide ((List.length y63.1 : Int) = 0)))) rfl ?_)
                refine G_q rfl (op_assign (av := .exact (.bool (decide ((List.length y63.1 : Int) = 0)))) rfl ?_)
                refine G_nil ?_
                refine kI_normal ⟨_, h, ?_⟩
                exact Sub.of_le (AF.le_put (AV.le_eq rfl) (AF.le_top _))
              · replace h := ite_f h hc
                refine G_n rfl rfl ?_
                refine G_n rfl rfl ?_
                refine G_n rfl rfl ?_
                refine G_q rfl (op_pick_f rfl (av := .exact (.bool false)) rfl ?_)
                refine G_q rfl (op_assign (av := .exact (.bool false)) rfl ?_)
                refine G_nil ?_
                refine kI_normal ⟨_, h, ?_⟩
                exact Sub.of_le (AF.le_put (AV.le_eq rfl) (AF.le_top _))
            · replace h := ite_f h hc
              refine G_n rfl rfl ?_
              refine G_n rfl rfl ?_
              refine G_q rfl (op_pick_f rfl (av := .exact (.bool false)) rfl ?_)
              refine G_q rfl (op_move (av := .exact (.bool false)) rfl ?_)
              refine G_n rfl rfl ?_
              refine G_n rfl rfl ?_
              refine G_n rfl rfl ?_
              refine G_q rfl (op_pick_f rfl (av := .exact (.bool false)) rfl ?_)
              refine G_q rfl (op_assign (av := .exact (.bool false)) rfl ?_)
              refine G_nil ?_
              refine kI_normal ⟨_, h, ?_⟩
              exact Sub.of_le (AF.le_put (AV.le_eq rfl) (AF.le_top _))
          · refine k_ret ?_
            refine kC_ret ?_
            obtain rfl := Option.some.inj h
            refine kP_any (endN (af' := (AF.put AF0 (some 6) (.exact (.bool x6_j64)))) (σ' := []) _ rfl ?_ ⟨rfl, rfl⟩)
            exact Sub.of_le (AF.le_put (AV.le_eq rfl) (AF.le_top _))
        · replace h := ite_f h hc
          refine k_skip ?_
          refine kC_normal ?_
          refine k_seq ?_
          refine k_join1_0 h (fun (x106_j77 : Bool) => (AF.put (AF.put (AF.put (AF.put (AF.put (AF.put AF0 (some 7) (.exact (.int .i64 (UInt8.toNat (a0 % 5) : Int)))) (some 8) (.exact (.int .i64 (UInt8.toNat (a1 % 5) : Int)))) (some 9) (.exact (.int .i64 (UInt8.toNat (a2 % 12) : Int)))) (some 13) (.row 1 c_api_Value x13_j41)) (some 15) (.row 1 c_api_Value y63.1)) (some 106) (.exact (.bool x106_j77)))) (fun (x106_j77 : Bool) => []) (fun k77 h => ?_) (fun x106_j77 h => ?_)
          · refine k_plan [] [(0, 0), (0, 1), (0, 2), (0, 3), (0, 4), (0, 5), (0, 6), (0, 7), (0, 8), (0, 9), (0, 10), (0, 11), (0, 12), (0, 13), (0, 14), (0, 15), (0, 16), (0, 17), (0, 18), (0, 19), (0, 20), (0, 21), (0, 22), (0, 23), (0, 24), (0, 25), (0, 26), (0, 27), (0, 28)] hmixP (by kernel_rfl) ?_
            obtain ⟨y82, hy82, h⟩ := bnd1_some h
            refine P_q no34_0 rfl (op_pure (m_law12_awake_ok _ hy82) Try.func8 (by kernel_rfl) LEs.nil ?_)
            refine P_q no34_0 rfl (op_not rfl ?_)
            refine P_q no34_0 rfl (op_move (av := .exact (.bool (!y82))) rfl ?_)
            refine P_splitB (c := !y82) 80 rfl (fun hc => ?_) (fun hc => ?_)
            · replace h := ite_t h hc
              refine P_n no34_0 rfl rfl rfl ?_
              refine P_n no34_0 rfl rfl rfl ?_
              refine P_q no34_0 rfl (op_pick_t rfl (av := .exact (.bool true)) rfl ?_)
              refine P_q no34_0 rfl (op_move (av := .exact (.bool true)) rfl ?_)
              refine P_n no34_0 rfl rfl rfl ?_
              refine P_n no34_0 rfl rfl rfl ?_
              refine P_n no34_0 rfl rfl rfl ?_
              refine P_n no34_0 rfl rfl rfl ?_
              refine P_n no34_0 rfl rfl rfl ?_
              refine P_n no34_0 rfl rfl rfl ?_
              refine P_n no34_0 rfl rfl rfl ?_
              refine P_q no34_0 rfl (op_pick_t rfl (av := .exact (.bool true)) rfl ?_)
              refine P_q no34_0 rfl (op_move (av := .exact (.bool true)) rfl ?_)
              refine P_n no34_0 rfl rfl rfl ?_
              refine P_n no34_0 rfl rfl rfl ?_
              refine P_n no34_0 rfl rfl rfl ?_
              refine P_n no34_0 rfl rfl rfl ?_
              refine P_n no34_0 rfl rfl rfl ?_
              refine P_n no34_0 rfl rfl rfl ?_
              refine P_n no34_0 rfl rfl rfl ?_
              refine P_n no34_0 rfl rfl rfl ?_
              refine P_n no34_0 rfl rfl rfl ?_
              refine P_n no34_0 rfl rfl rfl ?_
              refine P_n no34_0 rfl rfl rfl ?_
              refine P_n no34_0 rfl rfl rfl ?_
              refine P_q no34_0 rfl (op_pick_t rfl (av := .exact (.bool true)) rfl ?_)
              refine P_nil ?_
              refine kI_normal ⟨_, h, ?_⟩
              exact Sub.of_le (AF.le_put (AV.le_eq rfl) (AF.le_put (AV.le_eq rfl) (AF.le_put (AV.le_eq rfl) (AF.le_put (AV.le_eq rfl) (AF.le_put (AV.le_eq rfl) (AF.le_put (AV.le_eq rfl) (AF.le_top _)))))))
            · replace h := ite_f h hc
              refine Py_q no34_0 rfl rfl rfl (op_move (av := .exact (.bool y63.2)) rfl ?_)
              refine Py_q no34_0 rfl rfl rfl (op_not rfl ?_)
              refine P_q no34_0 rfl (op_pick_f rfl (av := .exact (.bool (!y63.2))) rfl ?_)
              refine P_q no34_0 rfl (op_move (av := .exact (.bool (!y63.2))) rfl ?_)
              refine P_splitB (c := !y63.2) 84 rfl (fun hc => ?_) (fun hc => ?_)
              · replace h := ite_t h hc
                refine P_n no34_0 rfl rfl rfl ?_
                refine P_n no34_0 rfl rfl rfl ?_
                refine P_n no34_0 rfl rfl rfl ?_
                refine P_n no34_0 rfl rfl rfl ?_
                refine P_n no34_0 rfl rfl rfl ?_
                refine P_n no34_0 rfl rfl rfl ?_
                refine P_n no34_0 rfl rfl rfl ?_
                refine P_q no34_0 rfl (op_pick_t rfl (av := .exact (.bool true)) rfl ?_)
                refine P_q no34_0 rfl (op_move (av := .exact (.bool true)) rfl ?_)
                refine P_n no34_0 rfl rfl rfl ?_
                refine P_n no34_0 rfl rfl rfl ?_
                refine P_n no34_0 rfl rfl rfl ?_
                refine P_n no34_0 rfl rfl rfl ?_
                refine P_n no34_0 rfl rfl rfl ?_
                refine P_n no34_0 rfl rfl rfl ?_
                refine P_n no34_0 rfl rfl rfl ?_
                refine P_n no34_0 rfl rfl rfl ?_
                refine P_n no34_0 rfl rfl rfl ?_
                refine P_n no34_0 rfl rfl rfl ?_
                refine P_n no34_0 rfl rfl rfl ?_
                refine P_n no34_0 rfl rfl rfl ?_
                refine P_q no34_0 rfl (op_pick_t rfl (av := .exact (.bool true)) rfl ?_)
                refine P_nil ?_
                refine kI_normal ⟨_, h, ?_⟩
                exact Sub.of_le (AF.le_put (AV.le_eq rfl) (AF.le_put (AV.le_eq rfl) (AF.le_put (AV.le_eq rfl) (AF.le_put (AV.le_eq rfl) (AF.le_put (AV.le_eq rfl) (AF.le_put (AV.le_eq rfl) (AF.le_top _)))))))
              · replace h := ite_f h hc
                refine Py_q no34_0 rfl rfl rfl (op_move (av := .row 1 c_api_Value y63.1) rfl ?_)
                refine Py_q no34_0 rfl rfl rfl (op_len_row (by kernel_rfl) rfl ?_)
                refine Py_q no34_0 rfl rfl rfl (op_move (av := .exact (.int .i64 (UInt8.toNat (a0 % 5) : Int))) rfl ?_)
                refine Py_q no34_0 rfl rfl rfl (op_move (av := .exact (.int .i64 (UInt8.toNat (a1 % 5) : Int))) rfl ?_)
                refine Py_q no34_0 rfl rfl rfl (op_add rfl rfl rfl ?_)
                refine Py_q no34_0 rfl rfl rfl (op_add rfl rfl rfl ?_)
                refine Py_q no34_0 rfl rfl rfl (op_neq rfl rfl ?_)
                refine P_q no34_0 rfl (op_pick_f rfl (av := .exact (.bool (decide (¬ (List.length y63.1 : Int) = (i64 ((i64 ((UInt8.toNat (a0 % 5) : Int) + (UInt8.toNat (a1 % 5) : Int))) + 1)))))) rfl ?_)
                refine P_q no34_0 rfl (op_move (av := .exact (.bool (decide (¬ (List.length y63.1 : Int) = (i64 ((i64 ((UInt8.toNat (a0 % 5) : Int) + (UInt8.toNat (a1 % 5) : Int))) + 1)))))) rfl ?_)
                refine P_split (p := ¬ (List.length y63.1 : Int) = (i64 ((i64 ((UInt8.toNat (a0 % 5) : Int) + (UInt8.toNat (a1 % 5) : Int))) + 1))) 93 rfl (fun hc => ?_) (fun hc => ?_)
                · replace h := ite_t h hc
                  refine P_n no34_0 rfl rfl rfl ?_
                  refine P_n no34_0 rfl rfl rfl ?_
                  refine P_n no34_0 rfl rfl rfl ?_
                  refine P_n no34_0 rfl rfl rfl ?_
                  refine P_n no34_0 rfl rfl rfl ?_
                  refine P_n no34_0 rfl rfl rfl ?_
                  refine P_n no34_0 rfl rfl rfl ?_
                  refine P_n no34_0 rfl rfl rfl ?_
                  refine P_n no34_0 rfl rfl rfl ?_
                  refine P_n no34_0 rfl rfl rfl ?_
                  refine P_n no34_0 rfl rfl rfl ?_
                  refine P_n no34_0 rfl rfl rfl ?_
                  refine P_q no34_0 rfl (op_pick_t rfl (av := .exact (.bool true)) rfl ?_)
                  refine P_nil ?_
                  refine kI_normal ⟨_, h, ?_⟩
                  exact Sub.of_le (AF.le_put (AV.le_eq rfl) (AF.le_put (AV.le_eq rfl) (AF.le_put (AV.le_eq rfl) (AF.le_put (AV.le_eq rfl) (AF.le_put (AV.le_eq rfl) (AF.le_put (AV.le_eq rfl) (AF.le_top _)))))))
                · replace h := ite_f h hc
                  refine Py_q no34_0 rfl rfl rfl (op_move (av := .row 1 c_api_Value y63.1) rfl ?_)
                  refine Py_q no34_0 rfl rfl rfl (op_move (av := .exact (.int .i64 (UInt8.toNat (a0 % 5) : Int))) rfl ?_)
                  obtain ⟨n83, h⟩ := need_some h
                  refine Py_q no34_0 rfl rfl rfl (op_index_row (by kernel_rfl) rfl rfl n83.1 n83.2 ?_)
                  refine Py_q no34_0 rfl rfl rfl (op_load1p (a := .exact (.string (bs (gi y63.1 (UInt8.toNat (a0 % 5) : Int))))) (by kernel_rfl) rfl rfl ?_)
                  refine Py_q no34_0 rfl rfl rfl (op_move (av := .row 1 c_api_Value x13_j41) rfl ?_)
                  refine Py_q no34_0 rfl rfl rfl (op_move (av := .exact (.int .i64 (UInt8.toNat (a0 % 5) : Int))) rfl ?_)
                  refine Py_q no34_0 rfl rfl rfl (op_move (av := .exact (.int .i64 (UInt8.toNat (a2 % 12) : Int))) rfl ?_)
                  refine Py_q no34_0 rfl rfl rfl (op_move (av := .exact (.int .i64 (UInt8.toNat (a1 % 5) : Int))) rfl ?_)
                  refine Py_q no34_0 rfl rfl rfl (op_sub rfl rfl rfl ?_)
                  obtain ⟨n84, h⟩ := need_some h
                  refine Py_q no34_0 rfl rfl rfl (op_slice_row (by kernel_rfl) rfl (bnd_some rfl) (bnd_some rfl) n84.1 n84.2.1 n84.2.2 ?_)
                  obtain ⟨y85, hy85, h⟩ := bnd1_some h
                  refine Py_q no34_0 rfl rfl rfl (op_pure (m_ref9_Make_ok _ _ _ hy85) Try.func7 (by kernel_rfl) (LEs.cons (AV.le_eq rfl) (LEs.cons (AV.le_eq rfl) LEs.nil)) ?_)
                  refine Py_q no34_0 rfl rfl rfl (op_neqS rfl rfl ?_)
                  refine P_q no34_0 rfl (op_pick_f rfl (av := .exact (.bool (decide (¬ (gi y63.1 (UInt8.toNat (a0 % 5) : Int)) = y85)))) rfl ?_)
                  refine P_nil ?_
                  refine kI_normal ⟨_, h, ?_⟩
                  exact Sub.of_le (AF.le_put (AV.le_eq rfl) (AF.le_put (AV.le_eq rfl) (AF.le_put (AV.le_eq rfl) (AF.le_put (AV.le_eq rfl) (AF.le_put (AV.le_eq rfl) (AF.le_put (AV.le_eq rfl) (AF.le_top _)))))))
          · refine k_cond_b (c := x106_j77) rfl (fun hc => ?_) (fun hc => ?_)
            · replace h := ite_t h hc
              refine k_seq ?_
              refine k_reg .free hmixP (by kernel_rfl) ?_
              refine G_q rfl (op_assign (av := .exact (.bool false)) rfl ?_)
              refine G_nil ?_
              refine kC_normal ?_
              refine k_ret ?_
              refine kC_ret ?_
              obtain rfl := Option.some.inj h
              refine kP_any (endN (af' := (AF.put AF0 (some 6) (.exact (.bool false)))) (σ' := []) _ rfl ?_ ⟨rfl, rfl⟩)
              exact Sub.of_le (AF.le_put (AV.le_eq rfl) (AF.le_top _))
            · replace h := ite_f h hc
              refine k_skip ?_
              refine kC_normal ?_
              refine k_join1_0 h (fun (x6_j86 : Bool) => (AF.put AF0 (some 6) (.exact (.bool x6_j86)))) (fun (x6_j86 : Bool) => []) (fun k86 h => ?_) (fun x6_j86 h => ?_)
              · refine k_plan [] [(0, 0), (0, 1), (0, 2), (0, 3), (0, 4), (0, 5), (0, 6), (0, 7), (0, 8), (0, 9), (0, 10), (0, 11), (0, 12), (0, 13), (0, 14), (0, 15), (0, 16), (0, 17), (0, 18), (0, 19)] hmixP (by kernel_rfl) ?_
                refine P_q no34_0 rfl (op_move (av := .row 1 c_api_Value y63.1) rfl ?_)
                refine P_q no34_0 rfl (op_move (av := .exact (.int .i64 (UInt8.toNat (a0 % 5) : Int))) rfl ?_)
                obtain ⟨n93, h⟩ := need_some h
                refine P_q no34_0 rfl (op_slice_rowt (by kernel_rfl) rfl bnd_none (bnd_some rfl) (Int.le_refl 0) n93.1 n93.2 ?_)
                refine P_q no34_0 rfl (op_move (av := .row 1 c_api_Value x13_j41) rfl ?_)
                refine P_q no34_0 rfl (op_move (av := .exact (.int .i64 (UInt8.toNat (a0 % 5) : Int))) rfl ?_)
                obtain ⟨n94, h⟩ := need_some h
                refine P_q no34_0 rfl (op_slice_rowt (by kernel_rfl) rfl bnd_none (bnd_some rfl) (Int.le_refl 0) n94.1 n94.2 ?_)
                obtain ⟨y95, hy95, h⟩ := bnd1_some h
                refine P_q no34_0 rfl (op_pure (m_help_Equal_api_Value_ok _ _ _ hy95) Try.func9 (by kernel_rfl) (LEs.cons (AV.le_eq rfl) (LEs.cons (AV.le_eq rfl) LEs.nil)) ?_)
                refine P_q no34_0 rfl (op_move (av := .exact (.bool y95)) rfl ?_)
                refine P_splitB (c := y95) 114 rfl (fun hc => ?_) (fun hc => ?_)
                · replace h := ite_t h hc
                  refine Py_q no34_0 rfl rfl rfl (op_move (av := .row 1 c_api_Value y63.1) rfl ?_)
                  refine Py_q no34_0 rfl rfl rfl (op_move (av := .exact (.int .i64 (UInt8.toNat (a0 % 5) : Int))) rfl ?_)
                  refine Py_q no34_0 rfl rfl rfl (op_add rfl rfl rfl ?_)
                  obtain ⟨n96, h⟩ := need_some h
                  refine Py_q no34_0 rfl rfl rfl (op_slice_rowd (by kernel_rfl) rfl (bnd_some rfl) bnd_none n96.1 n96.2 (Int.le_refl _) ?_)
                  refine Py_q no34_0 rfl rfl rfl (op_move (av := .row 1 c_api_Value x13_j41) rfl ?_)
                  refine Py_q no34_0 rfl rfl rfl (op_move (av := .exact (.int .i64 (UInt8.toNat (a2 % 12) : Int))) rfl ?_)
                  refine Py_q no34_0 rfl rfl rfl (op_move (av := .exact (.int .i64 (UInt8.toNat (a1 % 5) : Int))) rfl ?_)
                  refine Py_q no34_0 rfl rfl rfl (op_sub rfl rfl rfl ?_)
                  obtain ⟨n97, h⟩ := need_some h
                  refine Py_q no34_0 rfl rfl rfl (op_slice_rowd (by kernel_rfl) rfl (bnd_some rfl) bnd_none n97.1 n97.2 (Int.le_refl _) ?_)
                  obtain ⟨y98, hy98, h⟩ := bnd1_some h
                  refine Py_q no34_0 rfl rfl rfl (op_pure (m_help_Equal_api_Value_ok _ _ _ hy98) Try.func9 (by kernel_rfl) (LEs.cons (AV.le_eq rfl) (LEs.cons (AV.le_eq rfl) LEs.nil)) ?_)
                  refine P_q no34_0 rfl (op_pick_t rfl (av := .exact (.bool y98)) rfl ?_)
                  refine P_q no34_0 rfl (op_assign (av := .exact (.bool y98)) rfl ?_)
                  refine P_nil ?_
                  refine kI_normal ⟨_, h, ?_⟩
                  exact Sub.of_le (AF.le_put (AV.le_eq rfl) (AF.le_top _))
                · replace h := ite_f h hc
                  refine P_n no34_0 rfl rfl rfl ?_
                  refine P_n no34_0 rfl rfl rfl ?_
                  refine P_n no34_0 rfl rfl rfl ?_
                  refine P_n no34_0 rfl rfl rfl ?_
                  refine P_n no34_0 rfl rfl rfl ?_
                  refine P_n no34_0 rfl rfl rfl ?_
                  refine P_n no34_0 rfl rfl rfl ?_
                  refine P_n no34_0 rfl rfl rfl ?_
                  refine P_n no34_0 rfl rfl rfl ?_
                  refine P_n no34_0 rfl rfl rfl ?_
                  refine P_q no34_0 rfl (op_pick_f rfl (av := .exact (.bool false)) rfl ?_)
                  refine P_q no34_0 rfl (op_assign (av := .exact (.bool false)) rfl ?_)
                  refine P_nil ?_
                  refine kI_normal ⟨_, h, ?_⟩
                  exact Sub.of_le (AF.le_put (AV.le_eq rfl) (AF.le_top _))
              · refine k_ret ?_
                obtain rfl := Option.some.inj h
                refine kP_any (endN (af' := (AF.put AF0 (some 6) (.exact (.bool x6_j86)))) (σ' := []) _ rfl ?_ ⟨rfl, rfl⟩)
                exact Sub.of_le (AF.le_put (AV.le_eq rfl) (AF.le_top _))
end Go.Proofs.Ytpfdeahcjlfijaa
