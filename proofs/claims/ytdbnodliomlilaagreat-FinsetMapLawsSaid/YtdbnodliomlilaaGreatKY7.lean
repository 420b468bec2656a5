/- The functions compute their models, by program. -/
import Derived.Test.YtdbnodliomlilaaGreatKY6
namespace Go.Proofs.YtdbnodliomlilaaGreat
open Go.RowKit
attribute [local irreducible] AV.exact AV.top AV.row AV.ptr AV.agg AV.tup AV.eptr AV.fn AV.nilq AV.nilqn opA opB opM opR Quiet Loud Reads wpG awp den Sub SubU Pure Fun vecI vecT boxI CellsAll CellsOf OneC LEs LEss
set_option maxRecDepth 100000

set_option maxHeartbeats 4000000 in
theorem m_ref9_Parts_ok (a0 : List UInt8) (r : (List (List UInt8))) (h : m_ref9_Parts a0 = some r) : Pure Tryz.prog 28 [(.exact (.string (bs a0)))] (.row 1 c_api_Value r) := by
  unfold m_ref9_Parts at h
  refine Pure.ofFun (fun_of_awp Tryz.func28 rfl Tryz.ntmps28 (by simp) rfl (res1 rfl) fun E hE => k_end ?_)
  refine k_seq ?_
  refine k_reg .free hmixP (by kernel_rfl) ?_
  refine G_q rfl (op_assign (av := .exact (.slice none 0 0)) rfl ?_)
  refine G_nil ?_
  refine kC_normal ?_
  refine k_seq ?_
  refine k_seq ?_
  refine k_reg .free hmixP (by kernel_rfl) ?_
  refine G_q rfl (op_move (av := .exact (.string (bs a0))) rfl ?_)
  obtain ⟨y1, hy1, h⟩ := bnd1_some h
  refine G_q rfl (op_pure (m_ref9_Valid_ok _ _ hy1) Tryz.func57 (by kernel_rfl) (LEs.cons (AV.le_eq rfl) LEs.nil) ?_)
  refine G_q rfl (op_not rfl ?_)
  refine G_nil ?_
  refine kC_normal ?_
  refine k_cond_b (c := !y1) rfl (fun hc => ?_) (fun hc => ?_)
  · replace h := ite_t h hc
    refine k_seq ?_
    refine k_reg .free hmixP (by kernel_rfl) ?_
    refine G_q rfl (op_assign (av := .exact (.slice none 0 0)) rfl ?_)
    refine G_nil ?_
    refine kC_normal ?_
    refine k_ret ?_
    refine kC_ret ?_
    obtain rfl := Option.some.inj h
    refine kP_any (endN (af' := (AF.put AF0 (some 2) (.row 1 c_api_Value []))) (σ' := []) _ rfl ?_ ⟨rfl, rfl⟩)
    exact Sub.of_le (AF.le_put (row_nil (by decide)) (AF.le_top _))
  · replace h := ite_f h hc
    refine k_skip ?_
    refine kC_normal ?_
    refine k_seq ?_
    refine k_reg .free hmixP (by kernel_rfl) ?_
    refine G_q rfl (op_move (av := .exact (.string (bs a0))) rfl ?_)
    obtain ⟨y2, hy2, h⟩ := bnd1_some h
    refine G_q rfl (op_pure (m_ref9_walk_ok _ _ _ _ hy2) Tryz.func71 (by kernel_rfl) (LEs.cons (AV.le_eq rfl) (LEs.cons (AV.le_eq rfl) (LEs.cons (AV.le_eq rfl) LEs.nil))) ?_)
    refine G_q rfl (op_move (av := .tup [.exact (.int .i64 y2.1), .row 1 c_api_Value y2.2.1, .exact (.int .i64 y2.2.2)]) rfl ?_)
    refine G_q rfl (op_extract (av := .exact (.int .i64 y2.1)) rfl rfl ?_)
    refine G_q rfl (op_extract (av := .row 1 c_api_Value y2.2.1) rfl rfl ?_)
    refine G_q rfl (op_extract (av := .exact (.int .i64 y2.2.2)) rfl rfl ?_)
    refine G_q rfl (op_assign (av := .exact (.int .i64 y2.1)) rfl ?_)
    refine G_q rfl (op_assign (av := .row 1 c_api_Value y2.2.1) rfl ?_)
    refine G_q rfl (op_assign (av := .exact (.int .i64 y2.2.2)) rfl ?_)
    refine G_nil ?_
    refine kC_normal ?_
    refine k_seq ?_
    refine k_reg .free hmixP (by kernel_rfl) ?_
    refine G_q rfl (op_move (av := .row 1 c_api_Value y2.2.1) rfl ?_)
    refine G_q rfl (op_assign (av := .row 1 c_api_Value y2.2.1) rfl ?_)
    refine G_nil ?_
    refine kC_normal ?_
    refine k_ret ?_
    obtain rfl := Option.some.inj h
    refine kP_any (endN (af' := (AF.put AF0 (some 2) (.row 1 c_api_Value y2.2.1))) (σ' := []) _ rfl ?_ ⟨rfl, rfl⟩)
    exact Sub.of_le (AF.le_put (AV.le_eq rfl) (AF.le_top _))
set_option maxHeartbeats 4000000 in
theorem m_finset_HasKey_ok (a0 : List UInt8) (a1 : List UInt8) (r : Bool × Int) (h : m_finset_HasKey a0 a1 = some r) : Pure Tryz.prog 17 [(.exact (.string (bs a0))), (.exact (.string (bs a1)))] (.tup [.exact (.bool r.1), .exact (.int .i64 r.2)]) := by
  unfold m_finset_HasKey at h
  refine Pure.ofFun (fun_of_awp Tryz.func17 rfl Tryz.ntmps17 (by simp) rfl (res2 rfl) fun E hE => k_end ?_)
  refine k_seq ?_
  refine k_reg .free hmixP (by kernel_rfl) ?_
  refine G_q rfl (op_assign (av := .exact (.bool false)) rfl ?_)
  refine G_q rfl (op_assign (av := .exact (.int .i64 0)) rfl ?_)
  refine G_nil ?_
  refine kC_normal ?_
  refine k_seq ?_
  refine k_reg .free hmixP (by kernel_rfl) ?_
  refine G_q rfl (op_move (av := .exact (.string (bs a0))) rfl ?_)
  obtain ⟨y1, hy1, h⟩ := bnd1_some h
  refine G_l rfl (op_fun_0_2_2 (m_finset_pairs_ok _ _ hy1) Tryz.func53 (by kernel_rfl) (LEs.cons (AV.le_eq rfl) LEs.nil) (fun v2 v3 => ?_))
  refine G_q rfl (op_move (av := .tup [.exact v2, .exact v3, .exact (.int .i64 y1.2.2)]) rfl ?_)
  refine G_q rfl (op_extract (av := .exact v2) rfl rfl ?_)
  refine G_q rfl (op_extract (av := .exact v3) rfl rfl ?_)
  refine G_q rfl (op_extract (av := .exact (.int .i64 y1.2.2)) rfl rfl ?_)
  refine G_q rfl (op_assign (av := .exact v2) rfl ?_)
  refine G_q rfl (op_assign (av := .exact v3) rfl ?_)
  refine G_q rfl (op_assign (av := .exact (.int .i64 y1.2.2)) rfl ?_)
  refine G_nil ?_
  refine kC_normal ?_
  refine k_seq ?_
  refine k_join1_0 h (fun (x21_j8 : Bool) => (AF.put (AF.put (AF.put AF0 (some 1) (.exact (.string (bs a1)))) (some 6) (.exact v2)) (some 21) (.exact (.bool x21_j8)))) (fun (x21_j8 : Bool) => [vecT Tryz.prog 33 1 c_api_Value v2 y1.1]) (fun k8 h => ?_) (fun x21_j8 h => ?_)
  · refine k_reg .free hmixP (by kernel_rfl) ?_
    refine G_q rfl (op_move (av := .exact (.int .i64 y1.2.2)) rfl ?_)
    refine G_q rfl (op_neq rfl rfl ?_)
    refine G_q rfl (op_move (av := .exact (.bool (decide (¬ y1.2.2 = 0)))) rfl ?_)
    refine G_split (p := ¬ y1.2.2 = 0) 17 rfl (fun hc => ?_) (fun hc => ?_)
    · replace h := ite_t h hc
      refine G_n rfl rfl ?_
      refine G_n rfl rfl ?_
      refine G_n rfl rfl ?_
      refine G_q rfl (op_pick_t rfl (av := .exact (.bool true)) rfl ?_)
      refine G_nil ?_
      refine kI_normal ⟨_, h, ?_⟩
      refine Sub.trans (SubU.to SubU.f1) ?_
      refine Sub.trans (SubU.to SubU.drop) ?_
      exact Sub.of_le (AF.le_put (AV.le_eq rfl) (AF.le_put (AV.le_eq rfl) (AF.le_put (AV.le_eq rfl) (AF.le_top _))))
    · replace h := ite_f h hc
      refine Gy_q rfl rfl rfl (op_move (av := .exact (.string (bs a1))) rfl ?_)
      obtain ⟨y10, hy10, h⟩ := bnd1_some h
      refine Gy_q rfl rfl rfl (op_pure (m_value_Valid_ok _ _ hy10) Tryz.func54 (by kernel_rfl) (LEs.cons (AV.le_eq rfl) LEs.nil) ?_)
      refine Gy_q rfl rfl rfl (op_not rfl ?_)
      refine G_q rfl (op_pick_f rfl (av := .exact (.bool (!y10))) rfl ?_)
      refine G_nil ?_
      refine kI_normal ⟨_, h, ?_⟩
      refine Sub.trans (SubU.to SubU.f1) ?_
      refine Sub.trans (SubU.to SubU.drop) ?_
      exact Sub.of_le (AF.le_put (AV.le_eq rfl) (AF.le_put (AV.le_eq rfl) (AF.le_put (AV.le_eq rfl) (AF.le_top _))))
  · refine k_cond_b (c := x21_j8) rfl (fun hc => ?_) (fun hc => ?_)
    · replace h := ite_t h hc
      refine k_seq ?_
      refine k_reg .free hmixP (by kernel_rfl) ?_
      refine G_q rfl (op_assign (av := .exact (.bool false)) rfl ?_)
      refine G_q rfl (op_assign (av := .exact (.int .i64 6)) rfl ?_)
      refine G_nil ?_
      refine kC_normal ?_
      refine k_ret ?_
      refine kC_ret ?_
      obtain rfl := Option.some.inj h
      refine kP_any (endN (af' := (AF.put (AF.put AF0 (some 4) (.exact (.bool false))) (some 5) (.exact (.int .i64 6)))) (σ' := []) _ rfl ?_ ⟨rfl, rfl⟩)
      refine Sub.trans (SubU.to SubU.drop) ?_
      exact Sub.of_le (AF.le_put (AV.le_eq rfl) (AF.le_put (AV.le_eq rfl) (AF.le_top _)))
    · replace h := ite_f h hc
      refine k_skip ?_
      refine kC_normal ?_
      refine k_seq ?_
      refine k_reg .free hmixP (by kernel_rfl) ?_
      refine G_q rfl (op_move (av := .exact v2) rfl ?_)
      refine G_q rfl (op_move (av := .exact (.string (bs a1))) rfl ?_)
      refine G_sub rfl (SubU.freezeT2 (s1 := 6) (s2 := 22) rfl rfl len_c_api_Value) ?_
      obtain ⟨y11, hy11, h⟩ := bnd1_some h
      refine G_q rfl (op_pure (m_finset_find_ok _ _ _ hy11) Tryz.func55 (by kernel_rfl) (LEs.cons (AV.le_eq rfl) (LEs.cons (AV.le_eq rfl) LEs.nil)) ?_)
      refine G_q rfl (op_geq rfl rfl ?_)
      refine G_q rfl (op_assign (av := .exact (.bool (decide (0 ≤ y11)))) rfl ?_)
      refine G_q rfl (op_assign (av := .exact (.int .i64 0)) rfl ?_)
      refine G_nil ?_
      refine kC_normal ?_
      refine k_ret ?_
      obtain rfl := Option.some.inj h
      refine kP_any (endN (af' := (AF.put (AF.put AF0 (some 4) (.exact (.bool (decide (0 ≤ y11))))) (some 5) (.exact (.int .i64 0)))) (σ' := []) _ rfl ?_ ⟨rfl, rfl⟩)
      exact Sub.of_le (AF.le_put (AV.le_eq rfl) (AF.le_put (AV.le_eq rfl) (AF.le_top _)))
set_option maxHeartbeats 4000000 in
theorem m_finset_without_ok {w0 : Value} {w1 : Value} (a0 : List (List UInt8)) (a1 : List (List UInt8)) (a2 : List UInt8) (r : (List (List UInt8)) × (List (List UInt8))) (h : m_finset_without a0 a1 a2 = some r) : Fun Tryz.prog 59 [(.exact w0), (.exact w1), (.exact (.string (bs a2)))] [vecT Tryz.prog 33 1 c_api_Value w0 a0, vecT Tryz.prog 33 1 c_api_Value w1 a1] (fun a s => ∃ z0 z1, a = .tup [.exact z0, .exact z1] ∧ s = [vecO Tryz.prog 33 1 c_api_Value z0 r.1, vecO Tryz.prog 33 1 c_api_Value z1 r.2]) := by
  unfold m_finset_without at h
  refine fun_of_awp Tryz.func59 rfl Tryz.ntmps59 (by simp) rfl (res2 rfl) fun E hE => k_end ?_
  refine k_seq ?_
  refine k_reg .free hmixP (by kernel_rfl) ?_
  refine G_q rfl (op_assign (av := .exact (.slice none 0 0)) rfl ?_)
  refine G_q rfl (op_assign (av := .exact (.slice none 0 0)) rfl ?_)
  refine G_nil ?_
  refine kC_normal ?_
  refine k_join2_2 h (fun (x0_j1 : List (List UInt8)) (x1_j1 : List (List UInt8)) (v0_j1 : Value) (v1_j1 : Value) => (AF.put (AF.put AF0 (some 0) (.exact v0_j1)) (some 1) (.exact v1_j1))) (fun (x0_j1 : List (List UInt8)) (x1_j1 : List (List UInt8)) (v0_j1 : Value) (v1_j1 : Value) => [vecO Tryz.prog 33 1 c_api_Value v0_j1 x0_j1, vecO Tryz.prog 33 1 c_api_Value v1_j1 x1_j1]) (fun k1 h => ?_) (fun x0_j1 x1_j1 v0_j1 v1_j1 h => ?_)
  · refine k_seq ?_
    refine k_reg .free hmixP (by kernel_rfl) ?_
    refine G_q rfl (op_move (av := .exact w0) rfl ?_)
    refine G_q rfl (op_move (av := .exact (.string (bs a2))) rfl ?_)
    obtain ⟨y11, hy11, h⟩ := bnd1_some h
    refine G_r rfl (op_borrow (m_finset_find_ok _ _ _ hy11) Tryz.func55 (by kernel_rfl) MI.exact (Bors.cons (Bor.vec (List.Mem.head _) len_c_api_Value) (Bors.cons (Bor.le (AV.le_eq rfl)) Bors.nil)) ?_)
    refine G_q rfl (op_assign (av := .exact (.int .i64 y11)) rfl ?_)
    refine G_nil ?_
    refine kC_normal ?_
    refine k_seq ?_
    refine k_reg .free hmixP (by kernel_rfl) ?_
    refine G_q rfl (op_move (av := .exact (.int .i64 y11)) rfl ?_)
    refine G_q rfl (op_geq rfl rfl ?_)
    refine G_nil ?_
    refine kC_normal ?_
    refine k_cond_d (p := 0 ≤ y11) rfl (fun hc => ?_) (fun hc => ?_)
    · replace h := ite_t h hc
      refine k_seq ?_
      refine k_plan [] [(0, 0), (0, 1), (0, 2), (0, 4), (0, 5), (0, 6), (1, 3), (1, 7), (2, 8), (0, 9)] hmixP (by kernel_rfl) ?_
      refine P_q no34_0 rfl (op_move (av := .exact w0) rfl ?_)
      refine P_q no34_0 rfl (op_move (av := .exact (.int .i64 y11)) rfl ?_)
      refine P_q no34_0 rfl (op_move (av := .exact (.int .i64 y11)) rfl ?_)
      refine P_q no34_0 rfl (op_move (av := .exact w0) rfl ?_)
      refine P_q no34_0 rfl (op_move (av := .exact (.int .i64 y11)) rfl ?_)
      refine P_q no34_0 rfl (op_add rfl rfl rfl ?_)
      obtain ⟨n12, h⟩ := need_some h
      refine P_r rfl (op_slice3_vec (by kernel_rfl) rfl rfl rfl n12.1 n12.2 ?_)
      obtain ⟨n13, h⟩ := need_some h
      refine P_r rfl (op_slice_vec (by kernel_rfl) rfl (bnd_some rfl) bnd_none n13.1 n13.2.1 n13.2.2 ?_)
      obtain ⟨n15, h⟩ := need_some h
      refine P_l rfl (op_appclip (by kernel_rfl) len_c_api_Value oc_c_api_Value rfl rfl (by have hh := n15.1; first | omega | (simp only [i64] at hh; omega) | (simp only [i64] at hh ⊢; omega)) (by have := n13; have := n12; try simp only [i64] at *; omega) (by have := n15.2; unfold LIM; omega) (fun v14 => ?_))
      refine P_q no34_0 rfl (op_assign (av := .exact v14) rfl ?_)
      refine P_nil ?_
      refine kC_normal ?_
      refine k_plan [] [(0, 0), (0, 1), (0, 2), (0, 4), (0, 5), (0, 6), (1, 3), (1, 7), (2, 8), (0, 9)] hmixP (by kernel_rfl) ?_
      refine P_q no34_0 rfl (op_move (av := .exact w1) rfl ?_)
      refine P_q no34_0 rfl (op_move (av := .exact (.int .i64 y11)) rfl ?_)
      refine P_q no34_0 rfl (op_move (av := .exact (.int .i64 y11)) rfl ?_)
      refine P_q no34_0 rfl (op_move (av := .exact w1) rfl ?_)
      refine P_q no34_0 rfl (op_move (av := .exact (.int .i64 y11)) rfl ?_)
      refine P_q no34_0 rfl (op_add rfl rfl rfl ?_)
      obtain ⟨n16, h⟩ := need_some h
      refine P_r rfl (opR_f1 (op_slice3_vec (by kernel_rfl) rfl rfl rfl n16.1 n16.2 ?_))
      obtain ⟨n17, h⟩ := need_some h
      refine P_r rfl (opR_f1 (op_slice_vec (by kernel_rfl) rfl (bnd_some rfl) bnd_none n17.1 n17.2.1 n17.2.2 ?_))
      obtain ⟨n19, h⟩ := need_some h
      refine P_l rfl (opB_f1 (op_appclip (by kernel_rfl) len_c_api_Value oc_c_api_Value rfl rfl (by have hh := n19.1; first | omega | (simp only [i64] at hh; omega) | (simp only [i64] at hh ⊢; omega)) (by have := n17; have := n16; try simp only [i64] at *; omega) (by have := n19.2; unfold LIM; omega) (fun v18 => ?_)))
      refine P_q no34_0 rfl (op_assign (av := .exact v18) rfl ?_)
      refine P_nil ?_
      refine kI_normal ⟨_, _, v14, v18, h, ?_⟩
      refine Sub.trans (SubU.to SubU.f1) ?_
      exact Sub.of_le (AF.le_put (AV.le_eq rfl) (AF.le_put (AV.le_eq rfl) (AF.le_top _)))
    · replace h := ite_f h hc
      refine k_skip ?_
      refine kI_normal ⟨_, _, w0, w1, h, ?_⟩
      refine Sub.trans (SubU.to SubU.toO) ?_
      refine Sub.trans (SubU.to SubU.f1) ?_
      refine Sub.trans (SubU.to SubU.toO) ?_
      refine Sub.trans (SubU.to SubU.f1) ?_
      exact Sub.of_le (AF.le_put (AV.le_eq rfl) (AF.le_put (AV.le_eq rfl) (AF.le_top _)))
  · refine k_seq ?_
    refine k_reg .free hmixP (by kernel_rfl) ?_
    refine G_q rfl (op_move (av := .exact v0_j1) rfl ?_)
    refine G_q rfl (op_move (av := .exact v1_j1) rfl ?_)
    refine G_q rfl (op_assign (av := .exact v0_j1) rfl ?_)
    refine G_q rfl (op_assign (av := .exact v1_j1) rfl ?_)
    refine G_nil ?_
    refine kC_normal ?_
    refine k_ret ?_
    obtain rfl := Option.some.inj h
    refine kP_any (endN (af' := (AF.put (AF.put AF0 (some 6) (.exact v0_j1)) (some 7) (.exact v1_j1))) (σ' := [vecO Tryz.prog 33 1 c_api_Value v0_j1 x0_j1, vecO Tryz.prog 33 1 c_api_Value v1_j1 x1_j1]) _ rfl ?_ ⟨v0_j1, v1_j1, rfl, rfl⟩)
    exact Sub.of_le (AF.le_put (AV.le_eq rfl) (AF.le_put (AV.le_eq rfl) (AF.le_top _)))
set_option maxHeartbeats 4000000 in
theorem m_slices_Clone_L_api_Value_api_Value_ok (a0 : List (List UInt8)) (r : (List (List UInt8))) (h : m_slices_Clone_L_api_Value_api_Value a0 = some r) : Fun Tryz.prog 98 [(.row 1 c_api_Value a0)] [] (fun a s => ∃ z0, a = .exact z0 ∧ s = [vecT Tryz.prog 33 1 c_api_Value z0 r]) := by
  unfold m_slices_Clone_L_api_Value_api_Value at h
  refine fun_of_awp Tryz.func98 rfl Tryz.ntmps98 (by simp) rfl (res1 rfl) fun E hE => k_end ?_
  refine k_seq ?_
  refine k_reg .free hmixP (by kernel_rfl) ?_
  refine G_q rfl (op_assign (av := .exact (.slice none 0 0)) rfl ?_)
  refine G_nil ?_
  refine kC_normal ?_
  refine k_seq ?_
  refine k_seq ?_
  refine k_reg .free hmixP (by kernel_rfl) ?_
  refine G_q rfl (op_move (av := .row 1 c_api_Value a0) rfl ?_)
  refine G_q rfl (op_eqnil_row (by kernel_rfl) rfl ?_)
  refine G_nil ?_
  refine kC_normal ?_
  obtain ⟨h1, h⟩ := nilc_some h
  refine k_cond_u (p := a0 = []) rfl (fun hc => ?_) ?_
  · replace h := h1 hc
    refine k_seq ?_
    refine k_reg .free hmixP (by kernel_rfl) ?_
    refine G_q rfl (op_assign (av := .exact (.slice none 0 0)) rfl ?_)
    refine G_nil ?_
    refine kC_normal ?_
    refine k_ret ?_
    refine kC_ret ?_
    obtain rfl := Option.some.inj h
    refine kP_any (endN (af' := (AF.put AF0 (some 2) (.exact (.slice none 0 0)))) (σ' := [vecT Tryz.prog 33 1 c_api_Value (.slice none 0 0) []]) _ rfl ?_ ⟨(.slice none 0 0), rfl, rfl⟩)
    refine Sub.trans (SubU.to (SubU.nilT (P := Tryz.prog) (t := 33) (n := 1) (enc := c_api_Value))) ?_
    exact Sub.of_le (AF.le_put (AV.le_eq rfl) (AF.le_top _))
  · refine k_skip ?_
    refine kC_normal ?_
    refine k_seq ?_
    refine k_reg .free hmixP (by kernel_rfl) ?_
    refine G_l rfl (op_lit0I (enc := c_api_Value) (n := 1) (by kernel_rfl) (fun v1 => ?_))
    refine G_q rfl (op_move (av := .row 1 c_api_Value a0) rfl ?_)
    obtain ⟨n2, h⟩ := need_some h
    refine G_l rfl (op_appT (by kernel_rfl) rfl rfl oc_c_api_Value n2 (fun v3 => ?_))
    refine G_q rfl (op_assign (av := .exact v3) rfl ?_)
    refine G_nil ?_
    refine kC_normal ?_
    refine k_ret ?_
    obtain rfl := Option.some.inj h
    refine kP_any (endN (af' := (AF.put AF0 (some 2) (.exact v3))) (σ' := [vecT Tryz.prog 33 1 c_api_Value v3 (([] : List (List UInt8)) ++ a0)]) _ rfl ?_ ⟨v3, rfl, rfl⟩)
    exact Sub.of_le (AF.le_put (AV.le_eq rfl) (AF.le_top _))
set_option maxHeartbeats 4000000 in
theorem m_value_Compare_ok (a0 : List UInt8) (a1 : List UInt8) (r : Int) (h : m_value_Compare a0 a1 = some r) : Pure Tryz.prog 88 [(.exact (.string (bs a0))), (.exact (.string (bs a1)))] (.exact (.int .i64 r)) := by
  unfold m_value_Compare at h
  refine Pure.ofFun (fun_of_awp Tryz.func88 rfl Tryz.ntmps88 (by simp) rfl (res1 rfl) fun E hE => k_end ?_)
  refine k_seq ?_
  refine k_reg .free hmixP (by kernel_rfl) ?_
  refine G_q rfl (op_assign (av := .exact (.int .i64 0)) rfl ?_)
  refine G_nil ?_
  refine kC_normal ?_
  refine k_seq ?_
  refine k_seq ?_
  refine k_reg .free hmixP (by kernel_rfl) ?_
  refine G_q rfl (op_move (av := .exact (.string (bs a0))) rfl ?_)
  obtain ⟨y6, hy6, h⟩ := bnd1_some h
  refine G_q rfl (op_pure (m_value_Valid_ok _ _ hy6) Tryz.func54 (by kernel_rfl) (LEs.cons (AV.le_eq rfl) LEs.nil) ?_)
  refine G_q rfl (op_move (av := .exact (.string (bs a1))) rfl ?_)
  obtain ⟨y7, hy7, h⟩ := bnd1_some h
  refine G_q rfl (op_pure (m_value_Valid_ok _ _ hy7) Tryz.func54 (by kernel_rfl) (LEs.cons (AV.le_eq rfl) LEs.nil) ?_)
  refine G_q rfl (op_assign (av := .exact (.bool y6)) rfl ?_)
  refine G_q rfl (op_assign (av := .exact (.bool y7)) rfl ?_)
  refine G_nil ?_
  refine kC_normal ?_
  refine k_block ?_
  refine k_join1_0 h (fun (x11_j8 : Bool) => (AF.put (AF.put (AF.put (AF.put (AF.put AF0 (some 0) (.exact (.string (bs a0)))) (some 1) (.exact (.string (bs a1)))) (some 5) (.exact (.bool y6))) (some 6) (.exact (.bool y7))) (some 11) (.exact (.bool x11_j8)))) (fun (x11_j8 : Bool) => []) (fun k8 h => ?_) (fun x11_j8 h => ?_)
  · refine k_reg .free hmixP (by kernel_rfl) ?_
    refine G_q rfl (op_move (av := .exact (.bool y6)) rfl ?_)
    refine G_q rfl (op_move (av := .exact (.bool y6)) rfl ?_)
    refine G_splitB (c := y6) 13 rfl (fun hc => ?_) (fun hc => ?_)
    · replace h := ite_t h hc
      refine Gy_q rfl rfl rfl (op_move (av := .exact (.bool y7)) rfl ?_)
      refine G_q rfl (op_pick_t rfl (av := .exact (.bool y7)) rfl ?_)
      refine G_q rfl (op_assign (av := .exact (.bool y7)) rfl ?_)
      refine G_nil ?_
      refine kI_normal ⟨_, h, ?_⟩
      exact Sub.of_le (AF.le_put (AV.le_eq rfl) (AF.le_put (AV.le_eq rfl) (AF.le_put (AV.le_eq rfl) (AF.le_put (AV.le_eq rfl) (AF.le_put (AV.le_eq rfl) (AF.le_top _))))))
    · replace h := ite_f h hc
      refine G_n rfl rfl ?_
      refine G_q rfl (op_pick_f rfl (av := .exact (.bool false)) rfl ?_)
      refine G_q rfl (op_assign (av := .exact (.bool false)) rfl ?_)
      refine G_nil ?_
      refine kI_normal ⟨_, h, ?_⟩
      exact Sub.of_le (AF.le_put (AV.le_eq rfl) (AF.le_put (AV.le_eq rfl) (AF.le_put (AV.le_eq rfl) (AF.le_put (AV.le_eq rfl) (AF.le_put (AV.le_eq rfl) (AF.le_top _))))))
  · refine k_cond_b (c := x11_j8) rfl (fun hc => ?_) (fun hc => ?_)
    · replace h := ite_t h hc
      refine k_seq ?_
      refine k_reg .free hmixP (by kernel_rfl) ?_
      refine G_q rfl (op_move (av := .exact (.string (bs a0))) rfl ?_)
      refine G_q rfl (op_move (av := .exact (.string (bs a1))) rfl ?_)
      obtain ⟨y9, hy9, h⟩ := bnd1_some h
      refine G_q rfl (op_pure (m_value_compare_ok _ _ _ hy9) Tryz.func104 (by kernel_rfl) (LEs.cons (AV.le_eq rfl) (LEs.cons (AV.le_eq rfl) LEs.nil)) ?_)
      refine G_q rfl (op_assign (av := .exact (.int .i64 y9)) rfl ?_)
      refine G_nil ?_
      refine kC_normal ?_
      refine k_ret ?_
      refine kB_ret ?_
      refine kC_ret ?_
      obtain rfl := Option.some.inj h
      refine kP_any (endN (af' := (AF.put AF0 (some 4) (.exact (.int .i64 y9)))) (σ' := []) _ rfl ?_ ⟨rfl, rfl⟩)
      exact Sub.of_le (AF.le_put (AV.le_eq rfl) (AF.le_top _))
    · replace h := ite_f h hc
      refine k_seq ?_
      refine k_reg .free hmixP (by kernel_rfl) ?_
      refine G_q rfl (op_move (av := .exact (.bool y6)) rfl ?_)
      refine G_q rfl (op_assign (av := .exact (.bool y6)) rfl ?_)
      refine G_nil ?_
      refine kC_normal ?_
      refine k_cond_b (c := y6) rfl (fun hc => ?_) (fun hc => ?_)
      · replace h := ite_t h hc
        refine k_seq ?_
        refine k_reg .free hmixP (by kernel_rfl) ?_
        refine G_q rfl (op_assign (av := .exact (.int .i64 1)) rfl ?_)
        refine G_nil ?_
        refine kC_normal ?_
        refine k_ret ?_
        refine kB_ret ?_
        refine kC_ret ?_
        obtain rfl := Option.some.inj h
        refine kP_any (endN (af' := (AF.put AF0 (some 4) (.exact (.int .i64 1)))) (σ' := []) _ rfl ?_ ⟨rfl, rfl⟩)
        exact Sub.of_le (AF.le_put (AV.le_eq rfl) (AF.le_top _))
      · replace h := ite_f h hc
        refine k_seq ?_
        refine k_reg .free hmixP (by kernel_rfl) ?_
        refine G_q rfl (op_move (av := .exact (.bool y7)) rfl ?_)
        refine G_q rfl (op_assign (av := .exact (.bool y7)) rfl ?_)
        refine G_nil ?_
        refine kC_normal ?_
        refine k_cond_b (c := y7) rfl (fun hc => ?_) (fun hc => ?_)
        · replace h := ite_t h hc
          refine k_seq ?_
          refine k_reg .free hmixP (by kernel_rfl) ?_
          refine G_q rfl (op_assign (av := .exact (.int .i64 (-1))) rfl ?_)
          refine G_nil ?_
          refine kC_normal ?_
          refine k_ret ?_
          refine kB_ret ?_
          refine kC_ret ?_
          obtain rfl := Option.some.inj h
          refine kP_any (endN (af' := (AF.put AF0 (some 4) (.exact (.int .i64 (-1))))) (σ' := []) _ rfl ?_ ⟨rfl, rfl⟩)
          exact Sub.of_le (AF.le_put (AV.le_eq rfl) (AF.le_top _))
        · replace h := ite_f h hc
          refine k_skip ?_
          refine kB_normal ?_
          refine kC_normal ?_
          refine k_seq ?_
          refine k_reg .free hmixP (by kernel_rfl) ?_
          refine G_q rfl (op_move (av := .exact (.string (bs a0))) rfl ?_)
          refine G_q rfl (op_move (av := .exact (.string (bs a1))) rfl ?_)
          obtain ⟨y10, hy10, h⟩ := bnd1_some h
          refine G_q rfl (op_pure (m_cmp_Compare_api_Value_ok _ _ _ hy10) Tryz.func105 (by kernel_rfl) (LEs.cons (AV.le_eq rfl) (LEs.cons (AV.le_eq rfl) LEs.nil)) ?_)
          refine G_q rfl (op_assign (av := .exact (.int .i64 y10)) rfl ?_)
          refine G_nil ?_
          refine kC_normal ?_
          refine k_ret ?_
          obtain rfl := Option.some.inj h
          refine kP_any (endN (af' := (AF.put AF0 (some 4) (.exact (.int .i64 y10)))) (σ' := []) _ rfl ?_ ⟨rfl, rfl⟩)
          exact Sub.of_le (AF.le_put (AV.le_eq rfl) (AF.le_top _))
set_option maxHeartbeats 4000000 in
theorem m_slices_Compact_L_api_Value_api_Value_ok {w0 : Value} (a0 : List (List UInt8)) (r : (List (List UInt8))) (h : m_slices_Compact_L_api_Value_api_Value a0 = some r) : Fun Tryz.prog 101 [(.exact w0)] [vecT Tryz.prog 33 1 c_api_Value w0 a0] (fun a s => a = .row 1 c_api_Value r ∧ s = []) := by
  unfold m_slices_Compact_L_api_Value_api_Value at h
  refine fun_of_awp Tryz.func101 rfl Tryz.ntmps101 (by simp) rfl (res1 rfl) fun E hE => k_end ?_
  refine k_seq ?_
  refine k_reg .free hmixP (by kernel_rfl) ?_
  refine G_q rfl (op_assign (av := .exact (.slice none 0 0)) rfl ?_)
  refine G_nil ?_
  refine kC_normal ?_
  refine k_seq ?_
  refine k_seq ?_
  refine k_reg .free hmixP (by kernel_rfl) ?_
  refine G_q rfl (op_move (av := .exact w0) rfl ?_)
  refine G_r rfl (op_len_vec (by kernel_rfl) rfl ?_)
  refine G_q rfl (op_lss rfl rfl ?_)
  refine G_nil ?_
  refine kC_normal ?_
  refine k_cond_d (p := (List.length a0 : Int) < 2) rfl (fun hc => ?_) (fun hc => ?_)
  · replace h := ite_t h hc
    refine k_seq ?_
    refine k_reg .free hmixP (by kernel_rfl) ?_
    refine G_q rfl (op_move (av := .exact w0) rfl ?_)
    refine G_q rfl (op_assign (av := .exact w0) rfl ?_)
    refine G_nil ?_
    refine kC_normal ?_
    refine k_ret ?_
    refine kC_ret ?_
    obtain rfl := Option.some.inj h
    refine kP_any (endN (af' := (AF.put AF0 (some 2) (.row 1 c_api_Value a0))) (σ' := []) _ rfl ?_ ⟨rfl, rfl⟩)
    refine Sub.trans (SubU.to (SubU.freezeT (s := 2) rfl len_c_api_Value)) ?_
    exact Sub.of_le (AF.le_put (AV.le_eq rfl) (AF.le_top _))
  · replace h := ite_f h hc
    refine k_skip ?_
    refine kC_normal ?_
    refine k_join0_0 h ((AF.put AF0 (some 0) (.exact w0))) ([vecT Tryz.prog 33 1 c_api_Value w0 a0]) (fun k1 h => ?_) (fun  h => ?_)
    · refine k_seq ?_
      refine k_reg .free hmixP (by kernel_rfl) ?_
      refine G_q rfl (op_assign (av := .exact (.int .i64 1)) rfl ?_)
      refine G_nil ?_
      refine kC_normal ?_
      refine k_block ?_
      refine k_loop1_0 (m_slices_Compact_L_api_Value_api_Value_L14 a0 k1) (m_slices_Compact_L_api_Value_api_Value_B14 a0 k1) (fun _ => rfl) (fun m _ => rfl) h (fun (x3_l14 : Int) => (AF.put (AF.put AF0 (some 0) (.exact w0)) (some 3) (.exact (.int .i64 x3_l14)))) (fun (x3_l14 : Int) => [vecT Tryz.prog 33 1 c_api_Value w0 a0]) ?_ (fun rec14 x3_l14 h => ?_)
      · exact Sub.of_le (AF.le_put (AV.le_eq rfl) (AF.le_put (AV.le_eq rfl) (AF.le_top _)))
      · unfold m_slices_Compact_L_api_Value_api_Value_B14 at h
        refine k_seq ?_
        refine k_seq ?_
        refine k_reg .free hmixP (by kernel_rfl) ?_
        refine G_q rfl (op_move (av := .exact (.int .i64 x3_l14)) rfl ?_)
        refine G_q rfl (op_move (av := .exact w0) rfl ?_)
        refine G_r rfl (op_len_vec (by kernel_rfl) rfl ?_)
        refine G_q rfl (op_lss rfl rfl ?_)
        refine G_nil ?_
        refine kC_normal ?_
        refine k_cond_d (p := x3_l14 < (List.length a0 : Int)) rfl (fun hc => ?_) (fun hc => ?_)
        · replace h := ite_t h hc
          refine k_skip ?_
          refine kC_normal ?_
          refine k_join0_0 h ((AF.put (AF.put AF0 (some 0) (.exact w0)) (some 3) (.exact (.int .i64 x3_l14)))) ([vecT Tryz.prog 33 1 c_api_Value w0 a0]) (fun k628 h => ?_) (fun  h => ?_)
          · refine k_block ?_
            refine k_seq ?_
            refine k_plan [] [(0, 0), (0, 1), (0, 4), (0, 5), (0, 6), (1, 2), (1, 3), (1, 7), (1, 8), (0, 9)] hmixP (by kernel_rfl) ?_
            refine P_q no34_0 rfl (op_move (av := .exact w0) rfl ?_)
            refine P_q no34_0 rfl (op_move (av := .exact (.int .i64 x3_l14)) rfl ?_)
            refine P_q no34_0 rfl (op_move (av := .exact w0) rfl ?_)
            refine P_q no34_0 rfl (op_move (av := .exact (.int .i64 x3_l14)) rfl ?_)
            refine P_q no34_0 rfl (op_sub rfl rfl rfl ?_)
            obtain ⟨n691, h⟩ := need_some h
            refine P_r rfl (op_index_vec (by kernel_rfl) rfl rfl n691.1 n691.2 ?_)
            refine P_r rfl (op_load_vec1 (i := x3_l14) (o := 0) (a := .exact (.string (bs (gi a0 x3_l14)))) (by kernel_rfl) len_c_api_Value rfl n691.1 n691.2 rfl ?_)
            obtain ⟨n692, h⟩ := need_some h
            refine P_r rfl (op_index_vec (by kernel_rfl) rfl rfl n692.1 n692.2 ?_)
            refine P_r rfl (op_load_vec1 (i := i64 (x3_l14 - 1)) (o := 0) (a := .exact (.string (bs (gi a0 (i64 (x3_l14 - 1)))))) (by kernel_rfl) len_c_api_Value rfl n692.1 n692.2 rfl ?_)
            refine P_q no34_0 rfl (op_eqlS rfl rfl ?_)
            refine P_nil ?_
            refine kC_normal ?_
            refine k_cond_d (p := (gi a0 x3_l14) = (gi a0 (i64 (x3_l14 - 1)))) rfl (fun hc => ?_) (fun hc => ?_)
            · replace h := ite_t h hc
              refine k_seq ?_
              refine k_reg .free hmixP (by kernel_rfl) ?_
              refine G_q rfl (op_move (av := .exact w0) rfl ?_)
              refine G_q rfl (op_move (av := .exact (.int .i64 x3_l14)) rfl ?_)
              obtain ⟨n693, h⟩ := need_some h
              refine G_r rfl (op_slice_vec (by kernel_rfl) rfl (bnd_some rfl) bnd_none n693.1 n693.2.1 n693.2.2 ?_)
              refine G_q rfl (op_assign (av := .vsub w0 1 (Int.toNat x3_l14) (Int.toNat (List.length a0 : Int) - Int.toNat x3_l14)) rfl ?_)
              refine G_nil ?_
              refine kC_normal ?_
              refine k_join2_0 h (fun (x0_j694 : List (List UInt8)) (x3_j694 : Int) => (AF.put (AF.put AF0 (some 0) (.exact w0)) (some 3) (.exact (.int .i64 x3_j694)))) (fun (x0_j694 : List (List UInt8)) (x3_j694 : Int) => [vecT Tryz.prog 33 1 c_api_Value w0 x0_j694]) (fun k694 h => ?_) (fun x0_j694 x3_j694 h => ?_)
              · refine k_seq ?_
                refine k_reg .free hmixP (by kernel_rfl) ?_
                refine G_q rfl (op_assign (av := .exact (.int .i64 1)) rfl ?_)
                refine G_nil ?_
                refine kC_normal ?_
                refine k_block ?_
                refine k_loop3_0 (m_slices_Compact_L_api_Value_api_Value_L26 a0 x3_l14 k694) (m_slices_Compact_L_api_Value_api_Value_B26 a0 x3_l14 k694) (fun _ _ _ => rfl) (fun m _ _ _ => rfl) h (fun (x0_l26 : List (List UInt8)) (x3_l26 : Int) (x5_l26 : Int) => (AF.put (AF.put (AF.put (AF.put AF0 (some 0) (.exact w0)) (some 3) (.exact (.int .i64 x3_l26))) (some 4) (.vsub w0 1 (Int.toNat x3_l14) (Int.toNat (List.length a0 : Int) - Int.toNat x3_l14))) (some 5) (.exact (.int .i64 x5_l26)))) (fun (x0_l26 : List (List UInt8)) (x3_l26 : Int) (x5_l26 : Int) => [vecT Tryz.prog 33 1 c_api_Value w0 x0_l26]) ?_ (fun rec26 x0_l26 x3_l26 x5_l26 h => ?_)
                · exact Sub.of_le (AF.le_put (AV.le_eq rfl) (AF.le_put (AV.le_eq rfl) (AF.le_put (AV.le_eq rfl) (AF.le_put (AV.le_eq rfl) (AF.le_top _)))))
                · unfold m_slices_Compact_L_api_Value_api_Value_B26 at h
                  refine k_seq ?_
                  refine k_seq ?_
                  refine k_reg .free hmixP (by kernel_rfl) ?_
                  refine G_q rfl (op_move (av := .exact (.int .i64 x5_l26)) rfl ?_)
                  refine G_q rfl (op_move (av := .vsub w0 1 (Int.toNat x3_l14) (Int.toNat (List.length a0 : Int) - Int.toNat x3_l14)) rfl ?_)
                  refine G_q rfl (op_len_vsub (by kernel_rfl) rfl ?_)
                  refine G_q rfl (op_lss rfl rfl ?_)
                  refine G_nil ?_
                  refine kC_normal ?_
                  refine k_cond_d (p := x5_l26 < ((Int.toNat (List.length a0 : Int) - Int.toNat x3_l14 : Nat) : Int)) rfl (fun hc => ?_) (fun hc => ?_)
                  · replace h := ite_t h hc
                    refine k_skip ?_
                    refine kC_normal ?_
                    refine k_join2_0 h (fun (x0_j741 : List (List UInt8)) (x3_j741 : Int) => (AF.put (AF.put (AF.put (AF.put AF0 (some 0) (.exact w0)) (some 3) (.exact (.int .i64 x3_j741))) (some 4) (.vsub w0 1 (Int.toNat x3_l14) (Int.toNat (List.length a0 : Int) - Int.toNat x3_l14))) (some 5) (.exact (.int .i64 x5_l26)))) (fun (x0_j741 : List (List UInt8)) (x3_j741 : Int) => [vecT Tryz.prog 33 1 c_api_Value w0 x0_j741]) (fun k741 h => ?_) (fun x0_j741 x3_j741 h => ?_)
                    · refine k_block ?_
                      refine k_seq ?_
                      refine k_plan [] [(0, 0), (0, 1), (0, 4), (0, 5), (0, 6), (1, 2), (1, 3), (1, 7), (1, 8), (0, 9)] hmixP (by kernel_rfl) ?_
                      refine P_q no34_0 rfl (op_move (av := .vsub w0 1 (Int.toNat x3_l14) (Int.toNat (List.length a0 : Int) - Int.toNat x3_l14)) rfl ?_)
                      refine P_q no34_0 rfl (op_move (av := .exact (.int .i64 x5_l26)) rfl ?_)
                      refine P_q no34_0 rfl (op_move (av := .vsub w0 1 (Int.toNat x3_l14) (Int.toNat (List.length a0 : Int) - Int.toNat x3_l14)) rfl ?_)
                      refine P_q no34_0 rfl (op_move (av := .exact (.int .i64 x5_l26)) rfl ?_)
                      refine P_q no34_0 rfl (op_sub rfl rfl rfl ?_)
                      obtain ⟨n746, h⟩ := need_some h
                      refine P_r rfl (op_index_vsub (j := (x3_l14 + x5_l26)) (by kernel_rfl) rfl rfl n746.2.1 (by have hh := n746; try simp only [i64] at *; omega) (by have hh := n746; try simp only [i64] at *; omega) (by have hh := n746; try simp only [i64] at *; omega) ?_)
                      refine P_r rfl (op_load_vec1 (i := (x3_l14 + x5_l26)) (o := 0) (a := .exact (.string (bs (gi x0_l26 (x3_l14 + x5_l26))))) (by kernel_rfl) len_c_api_Value rfl n746.2.2.2.1 n746.2.2.2.2 rfl ?_)
                      obtain ⟨n747, h⟩ := need_some h
                      refine P_r rfl (op_index_vsub (j := (x3_l14 + (i64 (x5_l26 - 1)))) (by kernel_rfl) rfl rfl n747.2.1 (by have hh := n747; try simp only [i64] at *; omega) (by have hh := n747; try simp only [i64] at *; omega) (by have hh := n747; try simp only [i64] at *; omega) ?_)
                      refine P_r rfl (op_load_vec1 (i := (x3_l14 + (i64 (x5_l26 - 1)))) (o := 0) (a := .exact (.string (bs (gi x0_l26 (x3_l14 + (i64 (x5_l26 - 1))))))) (by kernel_rfl) len_c_api_Value rfl n747.2.2.2.1 n747.2.2.2.2 rfl ?_)
                      refine P_q no34_0 rfl (op_neqS rfl rfl ?_)
                      refine P_nil ?_
                      refine kC_normal ?_
                      refine k_cond_d (p := ¬ (gi x0_l26 (x3_l14 + x5_l26)) = (gi x0_l26 (x3_l14 + (i64 (x5_l26 - 1))))) rfl (fun hc => ?_) (fun hc => ?_)
                      · replace h := ite_t h hc
                        refine k_seq ?_
                        refine k_reg .free hmixP (by kernel_rfl) ?_
                        refine G_q rfl (op_move (av := .exact w0) rfl ?_)
                        refine G_q rfl (op_move (av := .exact (.int .i64 x3_l26)) rfl ?_)
                        refine G_q rfl (op_move (av := .vsub w0 1 (Int.toNat x3_l14) (Int.toNat (List.length a0 : Int) - Int.toNat x3_l14)) rfl ?_)
                        refine G_q rfl (op_move (av := .exact (.int .i64 x5_l26)) rfl ?_)
                        obtain ⟨n748, h⟩ := need_some h
                        refine G_r rfl (op_index_vsub (j := (x3_l14 + x5_l26)) (by kernel_rfl) rfl rfl n748.2.1 (by have hh := n748; try simp only [i64] at *; omega) (by have hh := n748; try simp only [i64] at *; omega) (by have hh := n748; try simp only [i64] at *; omega) ?_)
                        refine G_r rfl (op_load_vec1 (i := (x3_l14 + x5_l26)) (o := 0) (a := .exact (.string (bs (gi x0_l26 (x3_l14 + x5_l26))))) (by kernel_rfl) len_c_api_Value rfl n748.2.2.2.1 n748.2.2.2.2 rfl ?_)
                        obtain ⟨n749, h⟩ := need_some h
                        refine G_r rfl (op_index_vec (by kernel_rfl) rfl rfl n749.1 n749.2 ?_)
                        refine G_l rfl (op_store_vec (i := x3_l26) (o := 0) (z := gi x0_l26 (x3_l14 + x5_l26)) (c' := [.exact (.string (bs (gi x0_l26 (x3_l14 + x5_l26))))]) (by kernel_rfl) len_c_api_Value rfl n749.1 n749.2 rfl CellsOf.str (LEs.cons (AV.le_eq rfl) LEs.nil) (OneC.str OneC.nil) (by kernel_rfl) (Nat.le_of_ble_eq_true rfl) rfl ?_)
                        refine G_nil ?_
                        refine kC_normal ?_
                        refine k_reg .free hmixP (by kernel_rfl) ?_
                        refine G_q rfl (op_move (av := .exact (.int .i64 x3_l26)) rfl ?_)
                        refine G_q rfl (op_add rfl rfl rfl ?_)
                        refine G_q rfl (op_assign (av := .exact (.int .i64 (i64 (x3_l26 + 1)))) rfl ?_)
                        refine G_nil ?_
                        refine kB_normal ?_
                        refine kI_normal ⟨_, _, h, ?_⟩
                        exact Sub.of_le (AF.le_put (AV.le_eq rfl) (AF.le_put (AV.le_eq rfl) (AF.le_put (AV.le_eq rfl) (AF.le_put (AV.le_eq rfl) (AF.le_top _)))))
                      · replace h := ite_f h hc
                        refine k_skip ?_
                        refine kB_normal ?_
                        refine kI_normal ⟨_, _, h, ?_⟩
                        exact Sub.of_le (AF.le_put (AV.le_eq rfl) (AF.le_put (AV.le_eq rfl) (AF.le_put (AV.le_eq rfl) (AF.le_put (AV.le_eq rfl) (AF.le_top _)))))
                    · refine k_reg .free hmixP (by kernel_rfl) ?_
                      refine G_q rfl (op_move (av := .exact (.int .i64 x5_l26)) rfl ?_)
                      refine G_q rfl (op_add rfl rfl rfl ?_)
                      refine G_q rfl (op_assign (av := .exact (.int .i64 (i64 (x5_l26 + 1)))) rfl ?_)
                      refine G_nil ?_
                      refine kI_normal ⟨_, _, _, h, ?_⟩
                      exact Sub.of_le (AF.le_put (AV.le_eq rfl) (AF.le_put (AV.le_eq rfl) (AF.le_put (AV.le_eq rfl) (AF.le_put (AV.le_eq rfl) (AF.le_top _)))))
                  · replace h := ite_f h hc
                    refine k_exit ?_
                    refine kC_exit ?_
                    refine kI_exit ?_
                    refine kB_exit ?_
                    refine kI_normal ⟨_, _, h, ?_⟩
                    exact Sub.of_le (AF.le_put (AV.le_eq rfl) (AF.le_put (AV.le_eq rfl) (AF.le_top _)))
              · refine k_seq ?_
                refine k_reg .free hmixP (by kernel_rfl) ?_
                refine G_q rfl (op_move (av := .exact w0) rfl ?_)
                refine G_q rfl (op_move (av := .exact (.int .i64 x3_j694)) rfl ?_)
                obtain ⟨n750, h⟩ := need_some h
                refine G_r rfl (op_slice_vec (by kernel_rfl) rfl (bnd_some rfl) bnd_none n750.1 n750.2.1 n750.2.2 ?_)
                refine G_l rfl (op_clear (zr := []) (by kernel_rfl) len_c_api_Value oc_c_api_Value rfl (by have := n750; omega) Tryz.zeroValue22 (fun _ _ => (Fit.ex Fit.nil0)) ?_)
                refine G_nil ?_
                refine kC_normal ?_
                refine k_seq ?_
                refine k_reg .free hmixP (by kernel_rfl) ?_
                refine G_q rfl (op_move (av := .exact w0) rfl ?_)
                refine G_q rfl (op_move (av := .exact (.int .i64 x3_j694)) rfl ?_)
                refine G_sub rfl (SubU.freezeT3 (s1 := 0) (s2 := 54) (s3 := 57) rfl rfl rfl len_c_api_Value) ?_
                obtain ⟨n751, h⟩ := need_some h
                refine G_q rfl (op_slice_rowt (by kernel_rfl) rfl bnd_none (bnd_some rfl) (Int.le_refl 0) n751.1 n751.2 ?_)
                refine G_q rfl (op_assign (av := .row 1 c_api_Value (List.take (Int.toNat x3_j694) (List.take (Int.toNat x3_j694) x0_j694 ++ List.replicate (Int.toNat (List.length x0_j694 : Int) - Int.toNat x3_j694) ([] : List UInt8) ++ List.drop (Int.toNat x3_j694 + (Int.toNat (List.length x0_j694 : Int) - Int.toNat x3_j694)) x0_j694))) rfl ?_)
                refine G_nil ?_
                refine kC_normal ?_
                refine k_ret ?_
                refine kB_ret ?_
                refine kI_ret ?_
                refine kI_ret ?_
                refine kB_ret ?_
                refine kI_ret ?_
                obtain rfl := Option.some.inj h
                refine kP_any (endN (af' := (AF.put AF0 (some 2) (.row 1 c_api_Value (List.take (Int.toNat x3_j694) (List.take (Int.toNat x3_j694) x0_j694 ++ List.replicate (Int.toNat (List.length x0_j694 : Int) - Int.toNat x3_j694) ([] : List UInt8) ++ List.drop (Int.toNat x3_j694 + (Int.toNat (List.length x0_j694 : Int) - Int.toNat x3_j694)) x0_j694))))) (σ' := []) _ rfl ?_ ⟨rfl, rfl⟩)
                exact Sub.of_le (AF.le_put (AV.le_eq rfl) (AF.le_top _))
            · replace h := ite_f h hc
              refine k_skip ?_
              refine kB_normal ?_
              refine kI_normal ⟨h, ?_⟩
              exact Sub.of_le (AF.le_put (AV.le_eq rfl) (AF.le_put (AV.le_eq rfl) (AF.le_top _)))
          · refine k_reg .free hmixP (by kernel_rfl) ?_
            refine G_q rfl (op_move (av := .exact (.int .i64 x3_l14)) rfl ?_)
            refine G_q rfl (op_add rfl rfl rfl ?_)
            refine G_q rfl (op_assign (av := .exact (.int .i64 (i64 (x3_l14 + 1)))) rfl ?_)
            refine G_nil ?_
            refine kI_normal ⟨_, h, ?_⟩
            exact Sub.of_le (AF.le_put (AV.le_eq rfl) (AF.le_put (AV.le_eq rfl) (AF.le_top _)))
        · replace h := ite_f h hc
          refine k_exit ?_
          refine kC_exit ?_
          refine kI_exit ?_
          refine kB_exit ?_
          refine kI_normal ⟨h, ?_⟩
          exact Sub.of_le (AF.le_put (AV.le_eq rfl) (AF.le_top _))
    · refine k_seq ?_
      refine k_reg .free hmixP (by kernel_rfl) ?_
      refine G_q rfl (op_move (av := .exact w0) rfl ?_)
      refine G_q rfl (op_assign (av := .exact w0) rfl ?_)
      refine G_nil ?_
      refine kC_normal ?_
      refine k_ret ?_
      obtain rfl := Option.some.inj h
      refine kP_any (endN (af' := (AF.put AF0 (some 2) (.row 1 c_api_Value a0))) (σ' := []) _ rfl ?_ ⟨rfl, rfl⟩)
      refine Sub.trans (SubU.to (SubU.freezeT (s := 2) rfl len_c_api_Value)) ?_
      exact Sub.of_le (AF.le_put (AV.le_eq rfl) (AF.le_top _))
set_option maxHeartbeats 4000000 in
theorem m_value_Sort_ok (a0 : List (List UInt8)) (r : (List (List UInt8))) (h : m_value_Sort a0 = some r) : Pure Tryz.prog 85 [(.row 1 c_api_Value a0)] (.row 1 c_api_Value r) := by
  unfold m_value_Sort at h
  refine Pure.ofFun (fun_of_awp Tryz.func85 rfl Tryz.ntmps85 (by simp) rfl (res1 rfl) fun E hE => k_end ?_)
  refine k_seq ?_
  refine k_reg .free hmixP (by kernel_rfl) ?_
  refine G_q rfl (op_assign (av := .exact (.slice none 0 0)) rfl ?_)
  refine G_nil ?_
  refine kC_normal ?_
  refine k_seq ?_
  refine k_reg .free hmixP (by kernel_rfl) ?_
  refine G_q rfl (op_move (av := .row 1 c_api_Value a0) rfl ?_)
  obtain ⟨y1, hy1, h⟩ := bnd1_some h
  refine G_l rfl (op_fun_0_1_1 (m_slices_Clone_L_api_Value_api_Value_ok _ _ hy1) Tryz.func98 (by kernel_rfl) (LEs.cons (AV.le_eq rfl) LEs.nil) (fun v2 => ?_))
  refine G_q rfl (op_assign (av := .exact v2) rfl ?_)
  refine G_nil ?_
  refine kC_normal ?_
  refine k_seq ?_
  refine k_reg .free hmixP (by kernel_rfl) ?_
  refine G_q rfl (op_move (av := .exact v2) rfl ?_)
  obtain ⟨y3, hy3, h⟩ := bnd1_some h
  refine G_l rfl (op_fun_1_0_1 (m_sort_api_Value_ok m_value_Compare_ok _ _ hy3) Tryz.func99 (by kernel_rfl) (LEs.cons (AV.le_eq rfl) (LEs.cons (AV.le_eq rfl) LEs.nil)) ?_)
  refine G_nil ?_
  refine kC_normal ?_
  refine k_seq ?_
  refine k_reg .free hmixP (by kernel_rfl) ?_
  refine G_q rfl (op_move (av := .exact v2) rfl ?_)
  obtain ⟨y4, hy4, h⟩ := bnd1_some h
  refine G_l rfl (op_fun_1_0_0 (m_slices_Compact_L_api_Value_api_Value_ok _ _ hy4) Tryz.func101 (by kernel_rfl) (LEs.cons (AV.le_eq rfl) LEs.nil) ?_)
  obtain ⟨y5, hy5, h⟩ := bnd1_some h
  refine G_q rfl (op_pure (m_slices_Clip_L_api_Value_api_Value_ok _ _ hy5) Tryz.func100 (by kernel_rfl) (LEs.cons (AV.le_eq rfl) LEs.nil) ?_)
  refine G_q rfl (op_assign (av := .row 1 c_api_Value y5) rfl ?_)
  refine G_nil ?_
  refine kC_normal ?_
  refine k_ret ?_
  obtain rfl := Option.some.inj h
  refine kP_any (endN (af' := (AF.put AF0 (some 2) (.row 1 c_api_Value y5))) (σ' := []) _ rfl ?_ ⟨rfl, rfl⟩)
  exact Sub.of_le (AF.le_put (AV.le_eq rfl) (AF.le_top _))
set_option maxHeartbeats 4000000 in
theorem m_value_Map_1_ok (a0 : Int) (a1 : Int) (a2 : List (List UInt8)) (r : Int) (h : m_value_Map_1 a0 a1 a2 = some r) : Pure Tryz.prog 87 [(.exact (.int .i64 a0)), (.exact (.int .i64 a1)), (.ptr [.row 1 c_api_Value a2])] (.exact (.int .i64 r)) := by
  unfold m_value_Map_1 at h
  refine Pure.ofFun (fun_of_awp Tryz.func87 rfl Tryz.ntmps87 (by simp) rfl (res1 rfl) fun E hE => k_end ?_)
  refine k_seq ?_
  refine k_reg .free hmixP (by kernel_rfl) ?_
  refine G_q rfl (op_assign (av := .exact (.int .i64 0)) rfl ?_)
  refine G_nil ?_
  refine kC_normal ?_
  refine k_seq ?_
  refine k_plan [] [(0, 0), (0, 1), (0, 2), (0, 3), (0, 4), (0, 5), (0, 6), (0, 7), (0, 8), (0, 9)] hmixP (by kernel_rfl) ?_
  refine P_q no34_0 rfl (op_load1p (a := .row 1 c_api_Value a2) (by kernel_rfl) rfl rfl ?_)
  refine P_q no34_0 rfl (op_move (av := .exact (.int .i64 a0)) rfl ?_)
  obtain ⟨n1, h⟩ := need_some h
  refine P_q no34_0 rfl (op_index_row (by kernel_rfl) rfl rfl n1.1 n1.2 ?_)
  refine P_q no34_0 rfl (op_load1p (a := .exact (.string (bs (gi a2 a0)))) (by kernel_rfl) rfl rfl ?_)
  refine P_q no34_0 rfl (op_load1p (a := .row 1 c_api_Value a2) (by kernel_rfl) rfl rfl ?_)
  refine P_q no34_0 rfl (op_move (av := .exact (.int .i64 a1)) rfl ?_)
  obtain ⟨n2, h⟩ := need_some h
  refine P_q no34_0 rfl (op_index_row (by kernel_rfl) rfl rfl n2.1 n2.2 ?_)
  refine P_q no34_0 rfl (op_load1p (a := .exact (.string (bs (gi a2 a1)))) (by kernel_rfl) rfl rfl ?_)
  obtain ⟨y3, hy3, h⟩ := bnd1_some h
  refine P_q no34_0 rfl (op_pure (m_value_Compare_ok _ _ _ hy3) Tryz.func88 (by kernel_rfl) (LEs.cons (AV.le_eq rfl) (LEs.cons (AV.le_eq rfl) LEs.nil)) ?_)
  refine P_q no34_0 rfl (op_assign (av := .exact (.int .i64 y3)) rfl ?_)
  refine P_nil ?_
  refine kC_normal ?_
  refine k_ret ?_
  obtain rfl := Option.some.inj h
  refine kP_any (endN (af' := (AF.put AF0 (some 5) (.exact (.int .i64 y3)))) (σ' := []) _ rfl ?_ ⟨rfl, rfl⟩)
  exact Sub.of_le (AF.le_put (AV.le_eq rfl) (AF.le_top _))
set_option maxHeartbeats 4000000 in
theorem m_value_append16_ok {w0 : Value} (a0 : List UInt8) (a1 : Int) (r : (List UInt8)) (h : m_value_append16 a0 a1 = some r) : Fun Tryz.prog 106 [(.exact w0), (.exact (.int .u16 a1))] [vecT Tryz.prog 44 1 c_uint8 w0 a0] (fun a s => ∃ z0, a = .exact z0 ∧ s = [vecT Tryz.prog 44 1 c_uint8 z0 r]) := by
  unfold m_value_append16 at h
  refine fun_of_awp Tryz.func106 rfl Tryz.ntmps106 (by simp) rfl (res1 rfl) fun E hE => k_end ?_
  refine k_seq ?_
  refine k_reg .free hmixP (by kernel_rfl) ?_
  refine G_q rfl (op_assign (av := .exact (.slice none 0 0)) rfl ?_)
  refine G_nil ?_
  refine kC_normal ?_
  refine k_seq ?_
  refine k_reg .free hmixP (by kernel_rfl) ?_
  refine G_q rfl (op_move (av := .exact w0) rfl ?_)
  refine G_q rfl (op_move (av := .exact (.int .u16 a1)) rfl ?_)
  refine G_q rfl (op_shr rfl rfl (by decide) rfl ?_)
  refine G_q rfl (op_convInt (k := .u8) (r := (UInt8.toNat (u8i (Int.fdiv a1 (2 ^ min (Int.toNat 8) IntKind.u16.bits))) : Int)) (by kernel_rfl) rfl (u8i_eq _) ?_)
  refine G_q rfl (op_move (av := .exact (.int .u16 a1)) rfl ?_)
  refine G_q rfl (op_convInt (k := .u8) (r := (UInt8.toNat (u8i a1) : Int)) (by kernel_rfl) rfl (u8i_eq _) ?_)
  refine G_q rfl (op_litT (n := 1) (enc := c_uint8) [u8i (Int.fdiv a1 (2 ^ min (Int.toNat 8) IntKind.u16.bits)), u8i a1] (CellsAll.cons rfl CellsOf.int (CellsAll.cons rfl CellsOf.int CellsAll.nil)) rfl (by kernel_rfl) (LEss.cons (LEs.cons (AV.le_eq rfl) LEs.nil) (LEss.cons (LEs.cons (AV.le_eq rfl) LEs.nil) LEss.nil)) ?_)
  obtain ⟨n1, h⟩ := need_some h
  refine G_l rfl (op_appT (by kernel_rfl) rfl rfl oc_c_uint8 n1 (fun v2 => ?_))
  refine G_q rfl (op_assign (av := .exact v2) rfl ?_)
  refine G_nil ?_
  refine kC_normal ?_
  refine k_ret ?_
  obtain rfl := Option.some.inj h
  refine kP_any (endN (af' := (AF.put AF0 (some 4) (.exact v2))) (σ' := [vecT Tryz.prog 44 1 c_uint8 v2 (a0 ++ [u8i (Int.fdiv a1 (2 ^ min (Int.toNat 8) IntKind.u16.bits)), u8i a1])]) _ rfl ?_ ⟨v2, rfl, rfl⟩)
  exact Sub.of_le (AF.le_put (AV.le_eq rfl) (AF.le_top _))
end Go.Proofs.YtdbnodliomlilaaGreat
/- The functions compute their models, by program. -/
namespace Go.Proofs.YtdbnodliomlilaaGreat
open Go.RowKit
attribute [local irreducible] AV.exact AV.top AV.row AV.ptr AV.agg AV.tup AV.eptr AV.fn AV.nilq AV.nilqn opA opB opM opR Quiet Loud Reads wpG awp den Sub SubU Pure Fun vecI vecT boxI CellsAll CellsOf OneC LEs LEss
set_option maxRecDepth 100000

set_option maxHeartbeats 4000000 in
theorem m_slices_IndexFunc_L_api_Value_api_Value_ok (a0 : List (List UInt8)) (a1 : (List UInt8) → Option Bool) (r : Int) (h : m_slices_IndexFunc_L_api_Value_api_Value a0 a1 = some r) : Pure Tryz.prog 131 [(.row 1 c_api_Value a0), (.fn Tryz.prog (fun (i : (List UInt8)) => [.exact (.string (bs i))]) (fun (i : (List UInt8)) => a1 i) (fun (r : Bool) => .exact (.bool r)))] (.exact (.int .i64 r)) := by
  unfold m_slices_IndexFunc_L_api_Value_api_Value at h
  refine Pure.ofFun (fun_of_awp Tryz.func131 rfl Tryz.ntmps131 (by simp) rfl (res1 rfl) fun E hE => k_end ?_)
  refine k_seq ?_
  refine k_reg .free hmixP (by kernel_rfl) ?_
  refine G_q rfl (op_assign (av := .exact (.int .i64 0)) rfl ?_)
  refine G_nil ?_
  refine kC_normal ?_
  refine k_join0_0 h (AF0) ([]) (fun k1 h => ?_) (fun  h => ?_)
  · refine k_seq ?_
    refine k_reg .free hmixP (by kernel_rfl) ?_
    refine G_q rfl (op_move (av := .row 1 c_api_Value a0) rfl ?_)
    refine G_q rfl (op_len_row (by kernel_rfl) rfl ?_)
    refine G_q rfl (op_move (av := .exact (.int .i64 0)) rfl ?_)
    refine G_nil ?_
    refine kC_normal ?_
    refine k_block ?_
    refine k_loop1_0 (m_slices_IndexFunc_L_api_Value_api_Value_L2 a0 a1 k1) (m_slices_IndexFunc_L_api_Value_api_Value_B2 a0 a1 k1) (fun _ => rfl) (fun m _ => rfl) h (fun (x8_l2 : Int) => (AF.put (AF.put (AF.put (AF.put AF0 (some 0) (.row 1 c_api_Value a0)) (some 1) (.fn Tryz.prog (fun (i : (List UInt8)) => [.exact (.string (bs i))]) (fun (i : (List UInt8)) => a1 i) (fun (r : Bool) => .exact (.bool r)))) (some 7) (.exact (.int .i64 (List.length a0 : Int)))) (some 8) (.exact (.int .i64 x8_l2)))) (fun (x8_l2 : Int) => []) ?_ (fun rec2 x8_l2 h => ?_)
    · exact Sub.of_le (AF.le_put (AV.le_eq rfl) (AF.le_put (AV.le_eq rfl) (AF.le_put (AV.le_eq rfl) (AF.le_put (AV.le_eq rfl) (AF.le_top _)))))
    · unfold m_slices_IndexFunc_L_api_Value_api_Value_B2 at h
      refine k_seq ?_
      refine k_reg .free hmixP (by kernel_rfl) ?_
      refine G_q rfl (op_lss rfl rfl ?_)
      refine G_nil ?_
      refine kC_normal ?_
      refine k_seq ?_
      refine k_cond_d (p := x8_l2 < (List.length a0 : Int)) rfl (fun hc => ?_) (fun hc => ?_)
      · replace h := ite_t h hc
        refine k_skip ?_
        refine kC_normal ?_
        refine k_seq ?_
        refine k_block ?_
        refine k_seq ?_
        refine k_reg .free hmixP (by kernel_rfl) ?_
        refine G_q rfl (op_move (av := .exact (.int .i64 x8_l2)) rfl ?_)
        refine G_q rfl (op_assign (av := .exact (.int .i64 x8_l2)) rfl ?_)
        refine G_nil ?_
        refine kC_normal ?_
        refine k_seq ?_
        refine k_reg .free hmixP (by kernel_rfl) ?_
        refine G_q rfl (op_move (av := .fn Tryz.prog (fun (i : (List UInt8)) => [.exact (.string (bs i))]) (fun (i : (List UInt8)) => a1 i) (fun (r : Bool) => .exact (.bool r))) rfl ?_)
        refine G_q rfl (op_move (av := .row 1 c_api_Value a0) rfl ?_)
        refine G_q rfl (op_move (av := .exact (.int .i64 x8_l2)) rfl ?_)
        obtain ⟨n13, h⟩ := need_some h
        refine G_q rfl (op_index_row (by kernel_rfl) rfl rfl n13.1 n13.2 ?_)
        refine G_q rfl (op_load1p (a := .exact (.string (bs (gi a0 x8_l2)))) (by kernel_rfl) rfl rfl ?_)
        obtain ⟨y14, hy14, h⟩ := bnd1_some h
        refine G_q rfl (op_callfn (gi a0 x8_l2) rfl hy14 (LEs.cons (AV.le_eq rfl) LEs.nil) ?_)
        refine G_nil ?_
        refine kC_normal ?_
        refine k_cond_b (c := y14) rfl (fun hc => ?_) (fun hc => ?_)
        · replace h := ite_t h hc
          refine k_seq ?_
          refine k_reg .free hmixP (by kernel_rfl) ?_
          refine G_q rfl (op_move (av := .exact (.int .i64 x8_l2)) rfl ?_)
          refine G_q rfl (op_assign (av := .exact (.int .i64 x8_l2)) rfl ?_)
          refine G_nil ?_
          refine kC_normal ?_
          refine k_ret ?_
          refine kB_ret ?_
          refine kC_ret ?_
          refine kI_ret ?_
          refine kB_ret ?_
          refine kI_ret ?_
          obtain rfl := Option.some.inj h
          refine kP_any (endN (af' := (AF.put AF0 (some 4) (.exact (.int .i64 x8_l2)))) (σ' := []) _ rfl ?_ ⟨rfl, rfl⟩)
          exact Sub.of_le (AF.le_put (AV.le_eq rfl) (AF.le_top _))
        · replace h := ite_f h hc
          refine k_skip ?_
          refine kB_normal ?_
          refine kC_normal ?_
          refine k_reg .free hmixP (by kernel_rfl) ?_
          refine G_q rfl (op_add rfl rfl rfl ?_)
          refine G_q rfl (op_move (av := .exact (.int .i64 (i64 (x8_l2 + 1)))) rfl ?_)
          refine G_nil ?_
          refine kI_normal ⟨_, h, ?_⟩
          exact Sub.of_le (AF.le_put (AV.le_eq rfl) (AF.le_put (AV.le_eq rfl) (AF.le_put (AV.le_eq rfl) (AF.le_put (AV.le_eq rfl) (AF.le_top _)))))
      · replace h := ite_f h hc
        refine k_exit ?_
        refine kC_exit ?_
        refine kI_exit ?_
        refine kB_exit ?_
        refine kI_normal ⟨h, ?_⟩
        exact Sub.of_le (AF.le_top _)
  · refine k_seq ?_
    refine k_reg .free hmixP (by kernel_rfl) ?_
    refine G_q rfl (op_assign (av := .exact (.int .i64 (-1))) rfl ?_)
    refine G_nil ?_
    refine kC_normal ?_
    refine k_ret ?_
    obtain rfl := Option.some.inj h
    refine kP_any (endN (af' := (AF.put AF0 (some 4) (.exact (.int .i64 (-1))))) (σ' := []) _ rfl ?_ ⟨rfl, rfl⟩)
    exact Sub.of_le (AF.le_put (AV.le_eq rfl) (AF.le_top _))
set_option maxHeartbeats 4000000 in
theorem m_slices_ContainsFunc_L_api_Value_api_Value_ok (a0 : List (List UInt8)) (a1 : (List UInt8) → Option Bool) (r : Bool) (h : m_slices_ContainsFunc_L_api_Value_api_Value a0 a1 = some r) : Pure Tryz.prog 107 [(.row 1 c_api_Value a0), (.fn Tryz.prog (fun (i : (List UInt8)) => [.exact (.string (bs i))]) (fun (i : (List UInt8)) => a1 i) (fun (r : Bool) => .exact (.bool r)))] (.exact (.bool r)) := by
  unfold m_slices_ContainsFunc_L_api_Value_api_Value at h
  refine Pure.ofFun (fun_of_awp Tryz.func107 rfl Tryz.ntmps107 (by simp) rfl (res1 rfl) fun E hE => k_end ?_)
  refine k_seq ?_
  refine k_reg .free hmixP (by kernel_rfl) ?_
  refine G_q rfl (op_assign (av := .exact (.bool false)) rfl ?_)
  refine G_nil ?_
  refine kC_normal ?_
  refine k_seq ?_
  refine k_reg .free hmixP (by kernel_rfl) ?_
  refine G_q rfl (op_move (av := .row 1 c_api_Value a0) rfl ?_)
  refine G_q rfl (op_move (av := .fn Tryz.prog (fun (i : (List UInt8)) => [.exact (.string (bs i))]) (fun (i : (List UInt8)) => a1 i) (fun (r : Bool) => .exact (.bool r))) rfl ?_)
  obtain ⟨y1, hy1, h⟩ := bnd1_some h
  refine G_q rfl (op_pure (m_slices_IndexFunc_L_api_Value_api_Value_ok _ _ _ hy1) Tryz.func131 (by kernel_rfl) (LEs.cons (AV.le_eq rfl) (LEs.cons (AV.le_eq rfl) LEs.nil)) ?_)
  refine G_q rfl (op_geq rfl rfl ?_)
  refine G_q rfl (op_assign (av := .exact (.bool (decide (0 ≤ y1)))) rfl ?_)
  refine G_nil ?_
  refine kC_normal ?_
  refine k_ret ?_
  obtain rfl := Option.some.inj h
  refine kP_any (endN (af' := (AF.put AF0 (some 4) (.exact (.bool (decide (0 ≤ y1)))))) (σ' := []) _ rfl ?_ ⟨rfl, rfl⟩)
  exact Sub.of_le (AF.le_put (AV.le_eq rfl) (AF.le_top _))
set_option maxHeartbeats 4000000 in
theorem m_value_compound_1_ok (a0 : List UInt8) (r : Bool) (h : m_value_compound_1 a0 = some r) : Pure Tryz.prog 108 [(.exact (.string (bs a0)))] (.exact (.bool r)) := by
  unfold m_value_compound_1 at h
  refine Pure.ofFun (fun_of_awp Tryz.func108 rfl Tryz.ntmps108 (by simp) rfl (res1 rfl) fun E hE => k_end ?_)
  refine k_seq ?_
  refine k_reg .free hmixP (by kernel_rfl) ?_
  refine G_q rfl (op_assign (av := .exact (.bool false)) rfl ?_)
  refine G_nil ?_
  refine kC_normal ?_
  refine k_seq ?_
  refine k_reg .free hmixP (by kernel_rfl) ?_
  refine G_q rfl (op_move (av := .exact (.string (bs a0))) rfl ?_)
  obtain ⟨y1, hy1, h⟩ := bnd1_some h
  refine G_q rfl (op_pure (m_value_Valid_ok _ _ hy1) Tryz.func54 (by kernel_rfl) (LEs.cons (AV.le_eq rfl) LEs.nil) ?_)
  refine G_q rfl (op_not rfl ?_)
  refine G_q rfl (op_assign (av := .exact (.bool (!y1))) rfl ?_)
  refine G_nil ?_
  refine kC_normal ?_
  refine k_ret ?_
  obtain rfl := Option.some.inj h
  refine kP_any (endN (af' := (AF.put AF0 (some 2) (.exact (.bool (!y1))))) (σ' := []) _ rfl ?_ ⟨rfl, rfl⟩)
  exact Sub.of_le (AF.le_put (AV.le_eq rfl) (AF.le_top _))
set_option maxHeartbeats 4000000 in
theorem m_value_checked_ok (a0 : List UInt8) (r : (List UInt8)) (h : m_value_checked a0 = some r) : Pure Tryz.prog 109 [(.row 1 c_uint8 a0)] (.exact (.string (bs r))) := by
  unfold m_value_checked at h
  refine Pure.ofFun (fun_of_awp Tryz.func109 rfl Tryz.ntmps109 (by simp) rfl (res1 rfl) fun E hE => k_end ?_)
  refine k_seq ?_
  refine k_reg .free hmixP (by kernel_rfl) ?_
  refine G_q rfl (op_assign (av := .exact (.string (bs ([] : List UInt8)))) rfl ?_)
  refine G_nil ?_
  refine kC_normal ?_
  refine k_seq ?_
  refine k_seq ?_
  refine k_reg .free hmixP (by kernel_rfl) ?_
  refine G_q rfl (op_move (av := .row 1 c_uint8 a0) rfl ?_)
  refine G_q rfl (op_bytesS rfl (by kernel_rfl) rfl ?_)
  obtain ⟨y1, hy1, h⟩ := bnd1_some h
  refine G_q rfl (op_pure (m_value_Valid_ok _ _ hy1) Tryz.func54 (by kernel_rfl) (LEs.cons (AV.le_eq rfl) LEs.nil) ?_)
  refine G_q rfl (op_not rfl ?_)
  refine G_nil ?_
  refine kC_normal ?_
  refine k_cond_b (c := !y1) rfl (fun hc => ?_) (fun hc => ?_)
  · replace h := ite_t h hc
    refine k_seq ?_
    refine k_reg .free hmixP (by kernel_rfl) ?_
    refine G_q rfl (op_assign (av := .exact (.string (bs ([] : List UInt8)))) rfl ?_)
    refine G_nil ?_
    refine kC_normal ?_
    refine k_ret ?_
    refine kC_ret ?_
    obtain rfl := Option.some.inj h
    refine kP_any (endN (af' := (AF.put AF0 (some 2) (.exact (.string (bs ([] : List UInt8)))))) (σ' := []) _ rfl ?_ ⟨rfl, rfl⟩)
    exact Sub.of_le (AF.le_put (AV.le_eq rfl) (AF.le_top _))
  · replace h := ite_f h hc
    refine k_skip ?_
    refine kC_normal ?_
    refine k_seq ?_
    refine k_reg .free hmixP (by kernel_rfl) ?_
    refine G_q rfl (op_move (av := .row 1 c_uint8 a0) rfl ?_)
    refine G_q rfl (op_bytesS rfl (by kernel_rfl) rfl ?_)
    refine G_q rfl (op_assign (av := .exact (.string (bs a0))) rfl ?_)
    refine G_nil ?_
    refine kC_normal ?_
    refine k_ret ?_
    obtain rfl := Option.some.inj h
    refine kP_any (endN (af' := (AF.put AF0 (some 2) (.exact (.string (bs a0))))) (σ' := []) _ rfl ?_ ⟨rfl, rfl⟩)
    exact Sub.of_le (AF.le_put (AV.le_eq rfl) (AF.le_top _))
set_option maxHeartbeats 4000000 in
theorem m_value_compound_ok (a0 : Int) (a1 : List (List UInt8)) (r : (List UInt8)) (h : m_value_compound a0 a1 = some r) : Pure Tryz.prog 89 [(.exact (.int .i64 a0)), (.row 1 c_api_Value a1)] (.exact (.string (bs r))) := by
  unfold m_value_compound at h
  refine Pure.ofFun (fun_of_awp Tryz.func89 rfl Tryz.ntmps89 (by simp) rfl (res1 rfl) fun E hE => k_end ?_)
  refine k_seq ?_
  refine k_reg .free hmixP (by kernel_rfl) ?_
  refine G_q rfl (op_assign (av := .exact (.string (bs ([] : List UInt8)))) rfl ?_)
  refine G_nil ?_
  refine kC_normal ?_
  refine k_seq ?_
  refine k_seq ?_
  refine k_reg .free hmixP (by kernel_rfl) ?_
  refine G_q rfl (op_move (av := .row 1 c_api_Value a1) rfl ?_)
  refine G_q rfl (op_len_row (by kernel_rfl) rfl ?_)
  refine G_q rfl (op_gtr rfl rfl ?_)
  refine G_nil ?_
  refine kC_normal ?_
  refine k_cond_d (p := 65535 < (List.length a1 : Int)) rfl (fun hc => ?_) (fun hc => ?_)
  · replace h := ite_t h hc
    refine k_seq ?_
    refine k_reg .free hmixP (by kernel_rfl) ?_
    refine G_q rfl (op_assign (av := .exact (.string (bs ([] : List UInt8)))) rfl ?_)
    refine G_nil ?_
    refine kC_normal ?_
    refine k_ret ?_
    refine kC_ret ?_
    obtain rfl := Option.some.inj h
    refine kP_any (endN (af' := (AF.put AF0 (some 4) (.exact (.string (bs ([] : List UInt8)))))) (σ' := []) _ rfl ?_ ⟨rfl, rfl⟩)
    exact Sub.of_le (AF.le_put (AV.le_eq rfl) (AF.le_top _))
  · replace h := ite_f h hc
    refine k_skip ?_
    refine kC_normal ?_
    refine k_seq ?_
    refine k_reg .free hmixP (by kernel_rfl) ?_
    refine G_q rfl (op_move (av := .exact (.int .i64 a0)) rfl ?_)
    refine G_q rfl (op_convInt (k := .u8) (r := (UInt8.toNat (u8i a0) : Int)) (by kernel_rfl) rfl (u8i_eq _) ?_)
    refine G_l rfl (op_litI (n := 1) (enc := c_uint8) [u8i a0] (by kernel_rfl) (CellsAll.cons rfl CellsOf.int CellsAll.nil) rfl (by kernel_rfl) (LEss.cons (LEs.cons (AV.le_eq rfl) LEs.nil) LEss.nil) (fun v1 => ?_))
    refine G_q rfl (op_move (av := .row 1 c_api_Value a1) rfl ?_)
    refine G_q rfl (op_len_row (by kernel_rfl) rfl ?_)
    refine G_q rfl (op_convInt (k := .u16) (by kernel_rfl) rfl rfl ?_)
    obtain ⟨y2, hy2, h⟩ := bnd1_some h
    refine G_l rfl (op_fun_1_1_1 (m_value_append16_ok _ _ _ hy2) Tryz.func106 (by kernel_rfl) (LEs.cons (AV.le_eq rfl) (LEs.cons (AV.le_eq rfl) LEs.nil)) (fun v3 => ?_))
    refine G_q rfl (op_assign (av := .exact v3) rfl ?_)
    refine G_nil ?_
    refine kC_normal ?_
    refine k_join1_1 h (fun (x5_j4 : List UInt8) (v5_j4 : Value) => (AF.put (AF.put AF0 (some 1) (.row 1 c_api_Value a1)) (some 5) (.exact v5_j4))) (fun (x5_j4 : List UInt8) (v5_j4 : Value) => [vecT Tryz.prog 44 1 c_uint8 v5_j4 x5_j4]) (fun k4 h => ?_) (fun x5_j4 v5_j4 h => ?_)
    · refine k_seq ?_
      refine k_reg .free hmixP (by kernel_rfl) ?_
      refine G_q rfl (op_move (av := .row 1 c_api_Value a1) rfl ?_)
      refine G_q rfl (op_len_row (by kernel_rfl) rfl ?_)
      refine G_q rfl (op_move (av := .exact (.int .i64 0)) rfl ?_)
      refine G_nil ?_
      refine kC_normal ?_
      refine k_block ?_
      refine k_loop2_1 (m_value_compound_L2 a1 k4) (m_value_compound_B2 a1 k4) (fun _ _ => rfl) (fun m _ _ => rfl) h (fun (x5_l2 : List UInt8) (x20_l2 : Int) (v5_l2 : Value) => (AF.put (AF.put (AF.put (AF.put (AF.put AF0 (some 1) (.row 1 c_api_Value a1)) (some 5) (.exact v5_l2)) (some 18) (.row 1 c_api_Value a1)) (some 19) (.exact (.int .i64 (List.length a1 : Int)))) (some 20) (.exact (.int .i64 x20_l2)))) (fun (x5_l2 : List UInt8) (x20_l2 : Int) (v5_l2 : Value) => [vecT Tryz.prog 44 1 c_uint8 v5_l2 x5_l2]) v3 ?_ (fun rec2 x5_l2 x20_l2 v5_l2 h => ?_)
      · exact Sub.of_le (AF.le_put (AV.le_eq rfl) (AF.le_put (AV.le_eq rfl) (AF.le_put (AV.le_eq rfl) (AF.le_put (AV.le_eq rfl) (AF.le_put (AV.le_eq rfl) (AF.le_top _))))))
      · unfold m_value_compound_B2 at h
        refine k_seq ?_
        refine k_reg .free hmixP (by kernel_rfl) ?_
        refine G_q rfl (op_lss rfl rfl ?_)
        refine G_nil ?_
        refine kC_normal ?_
        refine k_seq ?_
        refine k_cond_d (p := x20_l2 < (List.length a1 : Int)) rfl (fun hc => ?_) (fun hc => ?_)
        · replace h := ite_t h hc
          refine k_skip ?_
          refine kC_normal ?_
          refine k_seq ?_
          refine k_block ?_
          refine k_seq ?_
          refine k_reg .free hmixP (by kernel_rfl) ?_
          obtain ⟨n78, h⟩ := need_some h
          refine G_q rfl (op_index_row (by kernel_rfl) rfl rfl n78.1 n78.2 ?_)
          refine G_q rfl (op_load1p (a := .exact (.string (bs (gi a1 x20_l2)))) (by kernel_rfl) rfl rfl ?_)
          refine G_q rfl (op_assign (av := .exact (.string (bs (gi a1 x20_l2)))) rfl ?_)
          refine G_nil ?_
          refine kC_normal ?_
          refine k_seq ?_
          refine k_join1_0 h (fun (x33_j81 : Bool) => (AF.put (AF.put (AF.put (AF.put (AF.put (AF.put (AF.put AF0 (some 1) (.row 1 c_api_Value a1)) (some 5) (.exact v5_l2)) (some 7) (.exact (.string (bs (gi a1 x20_l2))))) (some 18) (.row 1 c_api_Value a1)) (some 19) (.exact (.int .i64 (List.length a1 : Int)))) (some 20) (.exact (.int .i64 x20_l2))) (some 33) (.exact (.bool x33_j81)))) (fun (x33_j81 : Bool) => [vecT Tryz.prog 44 1 c_uint8 v5_l2 x5_l2]) (fun k81 h => ?_) (fun x33_j81 h => ?_)
          · refine k_reg .free hmixP (by kernel_rfl) ?_
            refine G_q rfl (op_move (av := .exact (.string (bs (gi a1 x20_l2)))) rfl ?_)
            refine G_q rfl (op_eqlS rfl rfl ?_)
            refine G_q rfl (op_move (av := .exact (.bool (decide ((gi a1 x20_l2) = ([] : List UInt8))))) rfl ?_)
            refine G_split (p := (gi a1 x20_l2) = ([] : List UInt8)) 26 rfl (fun hc => ?_) (fun hc => ?_)
            · replace h := ite_t h hc
              refine G_n rfl rfl ?_
              refine G_n rfl rfl ?_
              refine G_n rfl rfl ?_
              refine G_n rfl rfl ?_
              refine G_n rfl rfl ?_
              refine G_n rfl rfl ?_
              refine G_q rfl (op_pick_t rfl (av := .exact (.bool true)) rfl ?_)
              refine G_nil ?_
              refine kI_normal ⟨_, h, ?_⟩
              exact Sub.of_le (AF.le_put (AV.le_eq rfl) (AF.le_put (AV.le_eq rfl) (AF.le_put (AV.le_eq rfl) (AF.le_put (AV.le_eq rfl) (AF.le_put (AV.le_eq rfl) (AF.le_put (AV.le_eq rfl) (AF.le_put (AV.le_eq rfl) (AF.le_top _))))))))
            · replace h := ite_f h hc
              refine Gy_q rfl rfl rfl (op_move (av := .exact v5_l2) rfl ?_)
              refine Gy_r rfl rfl rfl (op_len_vec (by kernel_rfl) rfl ?_)
              refine Gy_q rfl rfl rfl (op_move (av := .exact (.string (bs (gi a1 x20_l2)))) rfl ?_)
              refine Gy_q rfl rfl rfl (op_lenS (by kernel_rfl) rfl ?_)
              refine Gy_q rfl rfl rfl (op_add rfl rfl rfl ?_)
              refine Gy_q rfl rfl rfl (op_gtr rfl rfl ?_)
              refine G_q rfl (op_pick_f rfl (av := .exact (.bool (decide (131072 < (i64 ((List.length x5_l2 : Int) + (List.length (gi a1 x20_l2) : Int))))))) rfl ?_)
              refine G_nil ?_
              refine kI_normal ⟨_, h, ?_⟩
              exact Sub.of_le (AF.le_put (AV.le_eq rfl) (AF.le_put (AV.le_eq rfl) (AF.le_put (AV.le_eq rfl) (AF.le_put (AV.le_eq rfl) (AF.le_put (AV.le_eq rfl) (AF.le_put (AV.le_eq rfl) (AF.le_put (AV.le_eq rfl) (AF.le_top _))))))))
          · refine k_cond_b (c := x33_j81) rfl (fun hc => ?_) (fun hc => ?_)
            · replace h := ite_t h hc
              refine k_seq ?_
              refine k_reg .free hmixP (by kernel_rfl) ?_
              refine G_q rfl (op_assign (av := .exact (.string (bs ([] : List UInt8)))) rfl ?_)
              refine G_nil ?_
              refine kC_normal ?_
              refine k_ret ?_
              refine kC_ret ?_
              refine kB_ret ?_
              refine kC_ret ?_
              refine kI_ret ?_
              refine kB_ret ?_
              refine kI_ret ?_
              obtain rfl := Option.some.inj h
              refine kP_any (endN (af' := (AF.put AF0 (some 4) (.exact (.string (bs ([] : List UInt8)))))) (σ' := []) _ rfl ?_ ⟨rfl, rfl⟩)
              refine Sub.trans (SubU.to SubU.drop) ?_
              exact Sub.of_le (AF.le_put (AV.le_eq rfl) (AF.le_top _))
            · replace h := ite_f h hc
              refine k_skip ?_
              refine kC_normal ?_
              refine k_reg .free hmixP (by kernel_rfl) ?_
              refine G_q rfl (op_move (av := .exact v5_l2) rfl ?_)
              refine G_q rfl (op_move (av := .exact (.string (bs (gi a1 x20_l2)))) rfl ?_)
              obtain ⟨n82, h⟩ := need_some h
              refine G_l rfl (op_appTS (fun _ => rfl) (by kernel_rfl) (by kernel_rfl) (by kernel_rfl) (by kernel_rfl) rfl rfl n82 (fun v83 => ?_))
              refine G_q rfl (op_assign (av := .exact v83) rfl ?_)
              refine G_nil ?_
              refine kB_normal ?_
              refine kC_normal ?_
              refine k_reg .free hmixP (by kernel_rfl) ?_
              refine G_q rfl (op_add rfl rfl rfl ?_)
              refine G_q rfl (op_move (av := .exact (.int .i64 (i64 (x20_l2 + 1)))) rfl ?_)
              refine G_nil ?_
              refine kI_normal ⟨_, _, v83, h, ?_⟩
              exact Sub.of_le (AF.le_put (AV.le_eq rfl) (AF.le_put (AV.le_eq rfl) (AF.le_put (AV.le_eq rfl) (AF.le_put (AV.le_eq rfl) (AF.le_put (AV.le_eq rfl) (AF.le_top _))))))
        · replace h := ite_f h hc
          refine k_exit ?_
          refine kC_exit ?_
          refine kI_exit ?_
          refine kB_exit ?_
          refine kI_normal ⟨_, v5_l2, h, ?_⟩
          exact Sub.of_le (AF.le_put (AV.le_eq rfl) (AF.le_put (AV.le_eq rfl) (AF.le_top _)))
    · refine k_seq ?_
      refine k_seq ?_
      refine k_reg .free hmixP (by kernel_rfl) ?_
      refine G_q rfl (op_move (av := .row 1 c_api_Value a1) rfl ?_)
      obtain ⟨y84, hy84, h⟩ := bnd1_some h
      refine G_q rfl (op_pure (m_slices_ContainsFunc_L_api_Value_api_Value_ok _ _ _ hy84) Tryz.func107 (by kernel_rfl) (LEs.cons (AV.le_eq rfl) (LEs.cons ((fn_le Tryz.func108 (by kernel_rfl) (fun i r h => m_value_compound_1_ok i r h))) LEs.nil)) ?_)
      refine G_q rfl (op_not rfl ?_)
      refine G_nil ?_
      refine kC_normal ?_
      refine k_cond_b (c := !y84) rfl (fun hc => ?_) (fun hc => ?_)
      · replace h := ite_t h hc
        refine k_seq ?_
        refine k_reg .free hmixP (by kernel_rfl) ?_
        refine G_q rfl (op_move (av := .exact v5_j4) rfl ?_)
        refine G_sub rfl (SubU.freezeT2 (s1 := 5) (s2 := 41) rfl rfl len_c_uint8) ?_
        obtain ⟨y85, hy85, h⟩ := bnd1_some h
        refine G_q rfl (op_pure (m_value_checked_ok _ _ hy85) Tryz.func109 (by kernel_rfl) (LEs.cons (AV.le_eq rfl) LEs.nil) ?_)
        refine G_q rfl (op_assign (av := .exact (.string (bs y85))) rfl ?_)
        refine G_nil ?_
        refine kC_normal ?_
        refine k_ret ?_
        refine kC_ret ?_
        obtain rfl := Option.some.inj h
        refine kP_any (endN (af' := (AF.put AF0 (some 4) (.exact (.string (bs y85))))) (σ' := []) _ rfl ?_ ⟨rfl, rfl⟩)
        exact Sub.of_le (AF.le_put (AV.le_eq rfl) (AF.le_top _))
      · replace h := ite_f h hc
        refine k_skip ?_
        refine kC_normal ?_
        refine k_seq ?_
        refine k_reg .free hmixP (by kernel_rfl) ?_
        refine G_q rfl (op_assign (av := .exact (.string (bs ([] : List UInt8)))) rfl ?_)
        refine G_nil ?_
        refine kC_normal ?_
        refine k_ret ?_
        obtain rfl := Option.some.inj h
        refine kP_any (endN (af' := (AF.put AF0 (some 4) (.exact (.string (bs ([] : List UInt8)))))) (σ' := []) _ rfl ?_ ⟨rfl, rfl⟩)
        refine Sub.trans (SubU.to SubU.drop) ?_
        exact Sub.of_le (AF.le_put (AV.le_eq rfl) (AF.le_top _))
set_option maxHeartbeats 4000000 in
theorem m_value_Map_ok (a0 : List (List UInt8)) (a1 : List (List UInt8)) (r : (List UInt8)) (h : m_value_Map a0 a1 = some r) : Pure Tryz.prog 61 [(.row 1 c_api_Value a0), (.row 1 c_api_Value a1)] (.exact (.string (bs r))) := by
  unfold m_value_Map at h
  refine Pure.ofFun (fun_of_awp Tryz.func61 rfl Tryz.ntmps61 (by simp) rfl (res1 rfl) fun E hE => k_end ?_)
  refine k_seq ?_
  refine k_reg .free hmixP (by kernel_rfl) ?_
  refine G_l rfl (op_boxI (c := [.row 1 c_api_Value a0]) rfl CellsOf.row (LEs.cons (AV.le_eq rfl) LEs.nil) (fun b1 => ?_))
  refine G_q rfl (op_assign (av := .exact (.string (bs ([] : List UInt8)))) rfl ?_)
  refine G_nil ?_
  refine kC_normal ?_
  refine k_seq ?_
  refine k_join1_0 h (fun (x22_j6 : Bool) => (AF.put (AF.put (AF.put AF0 (some 1) (.row 1 c_api_Value a1)) (some 2) (pA b1 0)) (some 22) (.exact (.bool x22_j6)))) (fun (x22_j6 : Bool) => [boxI 33 b1 [.row 1 c_api_Value a0]]) (fun k6 h => ?_) (fun x22_j6 h => ?_)
  · refine k_plan [] [(0, 2), (0, 3), (1, 0), (0, 1), (0, 4), (0, 5), (1, 6), (0, 7), (0, 8), (1, 9), (0, 10), (0, 11), (0, 12)] hmixP (by kernel_rfl) ?_
    refine P_q no34_0 rfl (op_move (av := .row 1 c_api_Value a1) rfl ?_)
    refine P_q no34_0 rfl (op_len_row (by kernel_rfl) rfl ?_)
    refine P_r rfl (op_load_box1 (a := .row 1 c_api_Value a0) (by kernel_rfl) rfl rfl ?_)
    refine P_q no34_0 rfl (op_len_row (by kernel_rfl) rfl ?_)
    refine P_q no34_0 rfl (op_neq rfl rfl ?_)
    refine P_q no34_0 rfl (op_move (av := .exact (.bool (decide (¬ (List.length a0 : Int) = (List.length a1 : Int))))) rfl ?_)
    refine P_split (p := ¬ (List.length a0 : Int) = (List.length a1 : Int)) 15 rfl (fun hc => ?_) (fun hc => ?_)
    · replace h := ite_t h hc
      refine P_n no34_1 rfl rfl rfl ?_
      refine P_n no34_0 rfl rfl rfl ?_
      refine P_n no34_0 rfl rfl rfl ?_
      refine P_n no34_1 rfl rfl rfl ?_
      refine P_n no34_0 rfl rfl rfl ?_
      refine P_n no34_0 rfl rfl rfl ?_
      refine P_q no34_0 rfl (op_pick_t rfl (av := .exact (.bool true)) rfl ?_)
      refine P_nil ?_
      refine kI_normal ⟨_, h, ?_⟩
      exact Sub.of_le (AF.le_put (AV.le_eq rfl) (AF.le_put (AV.le_eq rfl) (AF.le_put (AV.le_eq rfl) (AF.le_top _))))
    · replace h := ite_f h hc
      refine Py_r rfl rfl rfl (op_load_box1 (a := .row 1 c_api_Value a0) (by kernel_rfl) rfl rfl ?_)
      obtain ⟨y8, hy8, h⟩ := bnd1_some h
      refine Py_q no34_0 rfl rfl rfl (op_pure (m_value_Sort_ok _ _ hy8) Tryz.func85 (by kernel_rfl) (LEs.cons (AV.le_eq rfl) LEs.nil) ?_)
      refine Py_q no34_0 rfl rfl rfl (op_len_row (by kernel_rfl) rfl ?_)
      refine Py_r rfl rfl rfl (op_load_box1 (a := .row 1 c_api_Value a0) (by kernel_rfl) rfl rfl ?_)
      refine Py_q no34_0 rfl rfl rfl (op_len_row (by kernel_rfl) rfl ?_)
      refine Py_q no34_0 rfl rfl rfl (op_neq rfl rfl ?_)
      refine P_q no34_0 rfl (op_pick_f rfl (av := .exact (.bool (decide (¬ (List.length y8 : Int) = (List.length a0 : Int))))) rfl ?_)
      refine P_nil ?_
      refine kI_normal ⟨_, h, ?_⟩
      exact Sub.of_le (AF.le_put (AV.le_eq rfl) (AF.le_put (AV.le_eq rfl) (AF.le_put (AV.le_eq rfl) (AF.le_top _))))
  · refine k_cond_b (c := x22_j6) rfl (fun hc => ?_) (fun hc => ?_)
    · replace h := ite_t h hc
      refine k_seq ?_
      refine k_reg .free hmixP (by kernel_rfl) ?_
      refine G_q rfl (op_assign (av := .exact (.string (bs ([] : List UInt8)))) rfl ?_)
      refine G_nil ?_
      refine kC_normal ?_
      refine k_ret ?_
      refine kC_ret ?_
      obtain rfl := Option.some.inj h
      refine kP_any (endN (af' := (AF.put AF0 (some 4) (.exact (.string (bs ([] : List UInt8)))))) (σ' := []) _ rfl ?_ ⟨rfl, rfl⟩)
      refine Sub.trans (SubU.to SubU.drop) ?_
      exact Sub.of_le (AF.le_put (AV.le_eq rfl) (AF.le_top _))
    · replace h := ite_f h hc
      refine k_skip ?_
      refine kC_normal ?_
      refine k_seq ?_
      refine k_reg .free hmixP (by kernel_rfl) ?_
      refine G_r rfl (op_load_box1 (a := .row 1 c_api_Value a0) (by kernel_rfl) rfl rfl ?_)
      refine G_q rfl (op_len_row (by kernel_rfl) rfl ?_)
      obtain ⟨n9, h⟩ := need_some h
      refine G_l rfl (op_make (enc := c_int) (zr := (0 : Int)) (by kernel_rfl) rfl rfl n9.1 n9.2 len_c_int Tryz.zeroValue3 (fun _ _ => (Fit.ex Fit.nil0)) (fun v10 => ?_))
      refine G_q rfl (op_assign (av := .exact v10) rfl ?_)
      refine G_nil ?_
      refine kC_normal ?_
      refine k_join1_0 h (fun (x5_j11 : List Int) => (AF.put (AF.put (AF.put AF0 (some 1) (.row 1 c_api_Value a1)) (some 2) (pA b1 0)) (some 5) (.exact v10))) (fun (x5_j11 : List Int) => [boxI 33 b1 [.row 1 c_api_Value a0], vecT Tryz.prog 23 1 c_int v10 x5_j11]) (fun k11 h => ?_) (fun x5_j11 h => ?_)
      · refine k_seq ?_
        refine k_reg .free hmixP (by kernel_rfl) ?_
        refine G_q rfl (op_move (av := .exact v10) rfl ?_)
        refine G_r rfl (op_len_vec (by kernel_rfl) rfl ?_)
        refine G_q rfl (op_move (av := .exact (.int .i64 0)) rfl ?_)
        refine G_nil ?_
        refine kC_normal ?_
        refine k_block ?_
        refine k_loop2_0 (m_value_Map_L2 a0 k11) (m_value_Map_B2 a0 k11) (fun _ _ => rfl) (fun m _ _ => rfl) h (fun (x5_l2 : List Int) (x28_l2 : Int) => (AF.put (AF.put (AF.put (AF.put (AF.put AF0 (some 1) (.row 1 c_api_Value a1)) (some 2) (pA b1 0)) (some 5) (.exact v10)) (some 27) (.exact (.int .i64 (List.length (List.replicate (Int.toNat (List.length a0 : Int)) (0 : Int)) : Int)))) (some 28) (.exact (.int .i64 x28_l2)))) (fun (x5_l2 : List Int) (x28_l2 : Int) => [boxI 33 b1 [.row 1 c_api_Value a0], vecT Tryz.prog 23 1 c_int v10 x5_l2]) ?_ (fun rec2 x5_l2 x28_l2 h => ?_)
        · refine Sub.trans (SubU.to SubU.f1) ?_
          exact Sub.of_le (AF.le_put (AV.le_eq rfl) (AF.le_put (AV.le_eq rfl) (AF.le_put (AV.le_eq rfl) (AF.le_put (AV.le_eq rfl) (AF.le_put (AV.le_eq rfl) (AF.le_top _))))))
        · unfold m_value_Map_B2 at h
          refine k_seq ?_
          refine k_reg .free hmixP (by kernel_rfl) ?_
          refine G_q rfl (op_lss rfl rfl ?_)
          refine G_nil ?_
          refine kC_normal ?_
          refine k_seq ?_
          refine k_cond_d (p := x28_l2 < (List.length (List.replicate (Int.toNat (List.length a0 : Int)) (0 : Int)) : Int)) rfl (fun hc => ?_) (fun hc => ?_)
          · replace h := ite_t h hc
            refine k_skip ?_
            refine kC_normal ?_
            refine k_seq ?_
            refine k_block ?_
            refine k_seq ?_
            refine k_reg .free hmixP (by kernel_rfl) ?_
            refine G_q rfl (op_move (av := .exact (.int .i64 x28_l2)) rfl ?_)
            refine G_q rfl (op_assign (av := .exact (.int .i64 x28_l2)) rfl ?_)
            refine G_nil ?_
            refine kC_normal ?_
            refine k_reg .free hmixP (by kernel_rfl) ?_
            refine G_q rfl (op_move (av := .exact v10) rfl ?_)
            refine G_q rfl (op_move (av := .exact (.int .i64 x28_l2)) rfl ?_)
            refine G_q rfl (op_move (av := .exact (.int .i64 x28_l2)) rfl ?_)
            obtain ⟨n18, h⟩ := need_some h
            refine G_r rfl (opR_f1 (op_index_vec (by kernel_rfl) rfl rfl n18.1 n18.2 ?_))
            refine G_l rfl (opB_f1 (op_store_vec (i := x28_l2) (o := 0) (z := x28_l2) (c' := [.exact (.int .i64 x28_l2)]) (by kernel_rfl) len_c_int rfl n18.1 n18.2 rfl CellsOf.int (LEs.cons (AV.le_eq rfl) LEs.nil) (OneC.int OneC.nil) (by kernel_rfl) (Nat.le_of_ble_eq_true rfl) rfl ?_))
            refine G_nil ?_
            refine kB_normal ?_
            refine kC_normal ?_
            refine k_reg .free hmixP (by kernel_rfl) ?_
            refine G_q rfl (op_add rfl rfl rfl ?_)
            refine G_q rfl (op_move (av := .exact (.int .i64 (i64 (x28_l2 + 1)))) rfl ?_)
            refine G_nil ?_
            refine kI_normal ⟨_, _, h, ?_⟩
            refine Sub.trans (SubU.to SubU.f1) ?_
            exact Sub.of_le (AF.le_put (AV.le_eq rfl) (AF.le_put (AV.le_eq rfl) (AF.le_put (AV.le_eq rfl) (AF.le_put (AV.le_eq rfl) (AF.le_put (AV.le_eq rfl) (AF.le_top _))))))
          · replace h := ite_f h hc
            refine k_exit ?_
            refine kC_exit ?_
            refine kI_exit ?_
            refine kB_exit ?_
            refine kI_normal ⟨_, h, ?_⟩
            exact Sub.of_le (AF.le_put (AV.le_eq rfl) (AF.le_put (AV.le_eq rfl) (AF.le_put (AV.le_eq rfl) (AF.le_top _))))
      · refine k_seq ?_
        refine k_reg .free hmixP (by kernel_rfl) ?_
        refine G_q rfl (op_move (av := .exact v10) rfl ?_)
        refine G_sub rfl (SubU.freezeBox (s := 2) rfl) ?_
        refine G_q rfl (op_makeFunc (args := (fun (i : Int × Int) => [.exact (.int .i64 i.1), .exact (.int .i64 i.2)])) (f := (fun (i : Int × Int) => (fun (x0 : Int) (x1 : Int) => m_value_Map_1 x0 x1 a0) i.1 i.2)) (res := (fun (r : Int) => .exact (.int .i64 r))) Tryz.func87 (by kernel_rfl) [.ptr [.row 1 c_api_Value a0]] (LEs.cons (AV.le_eq rfl) LEs.nil) (fun i r h => m_value_Map_1_ok i.1 i.2 a0 r h) ?_)
        obtain ⟨y19, hy19, h⟩ := bnd1_some h
        refine G_l rfl (op_fun_1_0_1 (m_sort_int_on_ok _ _ _ hy19) Tryz.func86 (by kernel_rfl) (LEs.cons (AV.le_eq rfl) (LEs.cons (AV.le_eq rfl) LEs.nil)) ?_)
        refine G_nil ?_
        refine kC_normal ?_
        refine k_seq ?_
        refine k_reg .free hmixP (by kernel_rfl) ?_
        refine G_q rfl (op_assign (av := .exact (.slice none 0 0)) rfl ?_)
        refine G_nil ?_
        refine kC_normal ?_
        refine k_join1_1 h (fun (x7_j20 : List (List UInt8)) (v7_j20 : Value) => (AF.put AF0 (some 7) (.exact v7_j20))) (fun (x7_j20 : List (List UInt8)) (v7_j20 : Value) => [vecT Tryz.prog 33 1 c_api_Value v7_j20 x7_j20]) (fun k20 h => ?_) (fun x7_j20 v7_j20 h => ?_)
        · refine k_seq ?_
          refine k_reg .free hmixP (by kernel_rfl) ?_
          refine G_q rfl (op_move (av := .exact v10) rfl ?_)
          refine G_r rfl (op_len_vec (by kernel_rfl) rfl ?_)
          refine G_q rfl (op_move (av := .exact (.int .i64 0)) rfl ?_)
          refine G_nil ?_
          refine kC_normal ?_
          refine k_block ?_
          refine k_loop2_1 (m_value_Map_L4 a0 a1 y19 k20) (m_value_Map_B4 a0 a1 y19 k20) (fun _ _ => rfl) (fun m _ _ => rfl) h (fun (x7_l4 : List (List UInt8)) (x41_l4 : Int) (v7_l4 : Value) => (AF.put (AF.put (AF.put (AF.put (AF.put (AF.put AF0 (some 1) (.row 1 c_api_Value a1)) (some 2) (.ptr [.row 1 c_api_Value a0])) (some 7) (.exact v7_l4)) (some 39) (.exact v10)) (some 40) (.exact (.int .i64 (List.length y19 : Int)))) (some 41) (.exact (.int .i64 x41_l4)))) (fun (x7_l4 : List (List UInt8)) (x41_l4 : Int) (v7_l4 : Value) => [vecT Tryz.prog 33 1 c_api_Value v7_l4 x7_l4, vecT Tryz.prog 23 1 c_int v10 y19]) (.slice none 0 0) ?_ (fun rec4 x7_l4 x41_l4 v7_l4 h => ?_)
          · refine Sub.trans (SubU.to (SubU.nilT (P := Tryz.prog) (t := 33) (n := 1) (enc := c_api_Value))) ?_
            exact Sub.of_le (AF.le_put (AV.le_eq rfl) (AF.le_put (AV.le_eq rfl) (AF.le_put (AV.le_eq rfl) (AF.le_put (AV.le_eq rfl) (AF.le_put (AV.le_eq rfl) (AF.le_put (AV.le_eq rfl) (AF.le_top _)))))))
          · unfold m_value_Map_B4 at h
            refine k_seq ?_
            refine k_reg .free hmixP (by kernel_rfl) ?_
            refine G_q rfl (op_lss rfl rfl ?_)
            refine G_nil ?_
            refine kC_normal ?_
            refine k_seq ?_
            refine k_cond_d (p := x41_l4 < (List.length y19 : Int)) rfl (fun hc => ?_) (fun hc => ?_)
            · replace h := ite_t h hc
              refine k_skip ?_
              refine kC_normal ?_
              refine k_seq ?_
              refine k_block ?_
              refine k_seq ?_
              refine k_reg .free hmixP (by kernel_rfl) ?_
              obtain ⟨n47, h⟩ := need_some h
              refine G_r rfl (opR_f1 (op_index_vec (by kernel_rfl) rfl rfl n47.1 n47.2 ?_))
              refine G_r rfl (opR_f1 (op_load_vec1 (i := x41_l4) (o := 0) (a := .exact (.int .i64 (gi y19 x41_l4))) (by kernel_rfl) len_c_int rfl n47.1 n47.2 rfl ?_))
              refine G_q rfl (op_assign (av := .exact (.int .i64 (gi y19 x41_l4))) rfl ?_)
              refine G_nil ?_
              refine kC_normal ?_
              refine k_plan [] [(0, 0), (0, 1), (0, 2), (0, 3), (0, 4), (0, 5), (0, 6), (0, 7), (0, 8), (0, 9), (2, 10), (0, 11)] hmixP (by kernel_rfl) ?_
              refine P_q no34_0 rfl (op_move (av := .exact v7_l4) rfl ?_)
              refine P_q no34_0 rfl (op_load1p (a := .row 1 c_api_Value a0) (by kernel_rfl) rfl rfl ?_)
              refine P_q no34_0 rfl (op_move (av := .exact (.int .i64 (gi y19 x41_l4))) rfl ?_)
              obtain ⟨n48, h⟩ := need_some h
              refine P_q no34_0 rfl (op_index_row (by kernel_rfl) rfl rfl n48.1 n48.2 ?_)
              refine P_q no34_0 rfl (op_load1p (a := .exact (.string (bs (gi a0 (gi y19 x41_l4))))) (by kernel_rfl) rfl rfl ?_)
              refine P_q no34_0 rfl (op_move (av := .row 1 c_api_Value a1) rfl ?_)
              refine P_q no34_0 rfl (op_move (av := .exact (.int .i64 (gi y19 x41_l4))) rfl ?_)
              obtain ⟨n49, h⟩ := need_some h
              refine P_q no34_0 rfl (op_index_row (by kernel_rfl) rfl rfl n49.1 n49.2 ?_)
              refine P_q no34_0 rfl (op_load1p (a := .exact (.string (bs (gi a1 (gi y19 x41_l4))))) (by kernel_rfl) rfl rfl ?_)
              refine P_q no34_0 rfl (op_litT (n := 1) (enc := c_api_Value) [gi a0 (gi y19 x41_l4), gi a1 (gi y19 x41_l4)] (CellsAll.cons rfl CellsOf.str (CellsAll.cons rfl CellsOf.str CellsAll.nil)) rfl (by kernel_rfl) (LEss.cons (LEs.cons (AV.le_eq rfl) LEs.nil) (LEss.cons (LEs.cons (AV.le_eq rfl) LEs.nil) LEss.nil)) ?_)
              obtain ⟨n50, h⟩ := need_some h
              refine P_l rfl (op_appT (by kernel_rfl) rfl rfl oc_c_api_Value n50 (fun v51 => ?_))
              refine P_q no34_0 rfl (op_assign (av := .exact v51) rfl ?_)
              refine P_nil ?_
              refine kB_normal ?_
              refine kC_normal ?_
              refine k_reg .free hmixP (by kernel_rfl) ?_
              refine G_q rfl (op_add rfl rfl rfl ?_)
              refine G_q rfl (op_move (av := .exact (.int .i64 (i64 (x41_l4 + 1)))) rfl ?_)
              refine G_nil ?_
              refine kI_normal ⟨_, _, v51, h, ?_⟩
              exact Sub.of_le (AF.le_put (AV.le_eq rfl) (AF.le_put (AV.le_eq rfl) (AF.le_put (AV.le_eq rfl) (AF.le_put (AV.le_eq rfl) (AF.le_put (AV.le_eq rfl) (AF.le_put (AV.le_eq rfl) (AF.le_top _)))))))
            · replace h := ite_f h hc
              refine k_exit ?_
              refine kC_exit ?_
              refine kI_exit ?_
              refine kB_exit ?_
              refine kI_normal ⟨_, v7_l4, h, ?_⟩
              refine Sub.trans (SubU.to SubU.f1) ?_
              refine Sub.trans (SubU.to SubU.drop) ?_
              exact Sub.of_le (AF.le_put (AV.le_eq rfl) (AF.le_top _))
        · refine k_seq ?_
          refine k_reg .free hmixP (by kernel_rfl) ?_
          refine G_q rfl (op_move (av := .exact v7_j20) rfl ?_)
          refine G_sub rfl (SubU.freezeT2 (s1 := 7) (s2 := 57) rfl rfl len_c_api_Value) ?_
          obtain ⟨y52, hy52, h⟩ := bnd1_some h
          refine G_q rfl (op_pure (m_value_compound_ok _ _ _ hy52) Tryz.func89 (by kernel_rfl) (LEs.cons (AV.le_eq rfl) (LEs.cons (AV.le_eq rfl) LEs.nil)) ?_)
          refine G_q rfl (op_assign (av := .exact (.string (bs y52))) rfl ?_)
          refine G_nil ?_
          refine kC_normal ?_
          refine k_ret ?_
          obtain rfl := Option.some.inj h
          refine kP_any (endN (af' := (AF.put AF0 (some 4) (.exact (.string (bs y52))))) (σ' := []) _ rfl ?_ ⟨rfl, rfl⟩)
          exact Sub.of_le (AF.le_put (AV.le_eq rfl) (AF.le_top _))
set_option maxHeartbeats 4000000 in
theorem m_finset_sized_ok (a0 : Int) (a1 : List UInt8) (r : (List UInt8) × Int) (h : m_finset_sized a0 a1 = some r) : Pure Tryz.prog 60 [(.exact (.int .i64 a0)), (.exact (.string (bs a1)))] (.tup [.exact (.string (bs r.1)), .exact (.int .i64 r.2)]) := by
  unfold m_finset_sized at h
  refine Pure.ofFun (fun_of_awp Tryz.func60 rfl Tryz.ntmps60 (by simp) rfl (res2 rfl) fun E hE => k_end ?_)
  refine k_seq ?_
  refine k_reg .free hmixP (by kernel_rfl) ?_
  refine G_q rfl (op_assign (av := .exact (.string (bs ([] : List UInt8)))) rfl ?_)
  refine G_q rfl (op_assign (av := .exact (.int .i64 0)) rfl ?_)
  refine G_nil ?_
  refine kC_normal ?_
  refine k_seq ?_
  refine k_join1_0 h (fun (x11_j3 : Bool) => (AF.put (AF.put AF0 (some 1) (.exact (.string (bs a1)))) (some 11) (.exact (.bool x11_j3)))) (fun (x11_j3 : Bool) => []) (fun k3 h => ?_) (fun x11_j3 h => ?_)
  · refine k_reg .free hmixP (by kernel_rfl) ?_
    refine G_q rfl (op_move (av := .exact (.int .i64 a0)) rfl ?_)
    refine G_q rfl (op_gtr rfl rfl ?_)
    refine G_q rfl (op_move (av := .exact (.bool (decide (4096 < a0)))) rfl ?_)
    refine G_split (p := 4096 < a0) 8 rfl (fun hc => ?_) (fun hc => ?_)
    · replace h := ite_t h hc
      refine G_n rfl rfl ?_
      refine G_n rfl rfl ?_
      refine G_q rfl (op_pick_t rfl (av := .exact (.bool true)) rfl ?_)
      refine G_nil ?_
      refine kI_normal ⟨_, h, ?_⟩
      exact Sub.of_le (AF.le_put (AV.le_eq rfl) (AF.le_put (AV.le_eq rfl) (AF.le_top _)))
    · replace h := ite_f h hc
      refine Gy_q rfl rfl rfl (op_move (av := .exact (.string (bs a1))) rfl ?_)
      refine Gy_q rfl rfl rfl (op_eqlS rfl rfl ?_)
      refine G_q rfl (op_pick_f rfl (av := .exact (.bool (decide (a1 = ([] : List UInt8))))) rfl ?_)
      refine G_nil ?_
      refine kI_normal ⟨_, h, ?_⟩
      exact Sub.of_le (AF.le_put (AV.le_eq rfl) (AF.le_put (AV.le_eq rfl) (AF.le_top _)))
  · refine k_cond_b (c := x11_j3) rfl (fun hc => ?_) (fun hc => ?_)
    · replace h := ite_t h hc
      refine k_seq ?_
      refine k_reg .free hmixP (by kernel_rfl) ?_
      refine G_q rfl (op_assign (av := .exact (.string (bs ([] : List UInt8)))) rfl ?_)
      refine G_q rfl (op_assign (av := .exact (.int .i64 9)) rfl ?_)
      refine G_nil ?_
      refine kC_normal ?_
      refine k_ret ?_
      refine kC_ret ?_
      obtain rfl := Option.some.inj h
      refine kP_any (endN (af' := (AF.put (AF.put AF0 (some 4) (.exact (.string (bs ([] : List UInt8))))) (some 5) (.exact (.int .i64 9)))) (σ' := []) _ rfl ?_ ⟨rfl, rfl⟩)
      exact Sub.of_le (AF.le_put (AV.le_eq rfl) (AF.le_put (AV.le_eq rfl) (AF.le_top _)))
    · replace h := ite_f h hc
      refine k_skip ?_
      refine kC_normal ?_
      refine k_seq ?_
      refine k_reg .free hmixP (by kernel_rfl) ?_
      refine G_q rfl (op_move (av := .exact (.string (bs a1))) rfl ?_)
      refine G_q rfl (op_assign (av := .exact (.string (bs a1))) rfl ?_)
      refine G_q rfl (op_assign (av := .exact (.int .i64 0)) rfl ?_)
      refine G_nil ?_
      refine kC_normal ?_
      refine k_ret ?_
      obtain rfl := Option.some.inj h
      refine kP_any (endN (af' := (AF.put (AF.put AF0 (some 4) (.exact (.string (bs a1)))) (some 5) (.exact (.int .i64 0)))) (σ' := []) _ rfl ?_ ⟨rfl, rfl⟩)
      exact Sub.of_le (AF.le_put (AV.le_eq rfl) (AF.le_put (AV.le_eq rfl) (AF.le_top _)))
set_option maxHeartbeats 4000000 in
theorem m_finset_Update_ok (a0 : List UInt8) (a1 : List UInt8) (a2 : List UInt8) (r : (List UInt8) × Int) (h : m_finset_Update a0 a1 a2 = some r) : Pure Tryz.prog 19 [(.exact (.string (bs a0))), (.exact (.string (bs a1))), (.exact (.string (bs a2)))] (.tup [.exact (.string (bs r.1)), .exact (.int .i64 r.2)]) := by
  unfold m_finset_Update at h
  refine Pure.ofFun (fun_of_awp Tryz.func19 rfl Tryz.ntmps19 (by simp) rfl (res2 rfl) fun E hE => k_end ?_)
  refine k_seq ?_
  refine k_reg .free hmixP (by kernel_rfl) ?_
  refine G_q rfl (op_assign (av := .exact (.string (bs ([] : List UInt8)))) rfl ?_)
  refine G_q rfl (op_assign (av := .exact (.int .i64 0)) rfl ?_)
  refine G_nil ?_
  refine kC_normal ?_
  refine k_seq ?_
  refine k_reg .free hmixP (by kernel_rfl) ?_
  refine G_q rfl (op_move (av := .exact (.string (bs a0))) rfl ?_)
  obtain ⟨y1, hy1, h⟩ := bnd1_some h
  refine G_l rfl (op_fun_0_2_2 (m_finset_pairs_ok _ _ hy1) Tryz.func53 (by kernel_rfl) (LEs.cons (AV.le_eq rfl) LEs.nil) (fun v2 v3 => ?_))
  refine G_q rfl (op_move (av := .tup [.exact v2, .exact v3, .exact (.int .i64 y1.2.2)]) rfl ?_)
  refine G_q rfl (op_extract (av := .exact v2) rfl rfl ?_)
  refine G_q rfl (op_extract (av := .exact v3) rfl rfl ?_)
  refine G_q rfl (op_extract (av := .exact (.int .i64 y1.2.2)) rfl rfl ?_)
  refine G_q rfl (op_assign (av := .exact v2) rfl ?_)
  refine G_q rfl (op_assign (av := .exact v3) rfl ?_)
  refine G_q rfl (op_assign (av := .exact (.int .i64 y1.2.2)) rfl ?_)
  refine G_nil ?_
  refine kC_normal ?_
  refine k_seq ?_
  refine k_join1_0 h (fun (x28_j10 : Bool) => (AF.put (AF.put (AF.put (AF.put (AF.put AF0 (some 1) (.exact (.string (bs a1)))) (some 2) (.exact (.string (bs a2)))) (some 8) (.exact v2)) (some 9) (.exact v3)) (some 28) (.exact (.bool x28_j10)))) (fun (x28_j10 : Bool) => [vecT Tryz.prog 33 1 c_api_Value v2 y1.1, vecT Tryz.prog 33 1 c_api_Value v3 y1.2.1]) (fun k10 h => ?_) (fun x28_j10 h => ?_)
  · refine k_reg .free hmixP (by kernel_rfl) ?_
    refine G_q rfl (op_move (av := .exact (.int .i64 y1.2.2)) rfl ?_)
    refine G_q rfl (op_neq rfl rfl ?_)
    refine G_q rfl (op_move (av := .exact (.bool (decide (¬ y1.2.2 = 0)))) rfl ?_)
    refine G_split (p := ¬ y1.2.2 = 0) 19 rfl (fun hc => ?_) (fun hc => ?_)
    · replace h := ite_t h hc
      refine G_n rfl rfl ?_
      refine G_n rfl rfl ?_
      refine G_n rfl rfl ?_
      refine G_q rfl (op_pick_t rfl (av := .exact (.bool true)) rfl ?_)
      refine G_q rfl (op_move (av := .exact (.bool true)) rfl ?_)
      refine G_n rfl rfl ?_
      refine G_n rfl rfl ?_
      refine G_n rfl rfl ?_
      refine G_q rfl (op_pick_t rfl (av := .exact (.bool true)) rfl ?_)
      refine G_nil ?_
      refine kI_normal ⟨_, h, ?_⟩
      exact Sub.of_le (AF.le_put (AV.le_eq rfl) (AF.le_put (AV.le_eq rfl) (AF.le_put (AV.le_eq rfl) (AF.le_put (AV.le_eq rfl) (AF.le_put (AV.le_eq rfl) (AF.le_top _))))))
    · replace h := ite_f h hc
      refine Gy_q rfl rfl rfl (op_move (av := .exact (.string (bs a1))) rfl ?_)
      obtain ⟨y13, hy13, h⟩ := bnd1_some h
      refine Gy_q rfl rfl rfl (op_pure (m_value_Valid_ok _ _ hy13) Tryz.func54 (by kernel_rfl) (LEs.cons (AV.le_eq rfl) LEs.nil) ?_)
      refine Gy_q rfl rfl rfl (op_not rfl ?_)
      refine G_q rfl (op_pick_f rfl (av := .exact (.bool (!y13))) rfl ?_)
      refine G_q rfl (op_move (av := .exact (.bool (!y13))) rfl ?_)
      refine G_splitB (c := !y13) 24 rfl (fun hc => ?_) (fun hc => ?_)
      · replace h := ite_t h hc
        refine G_n rfl rfl ?_
        refine G_n rfl rfl ?_
        refine G_n rfl rfl ?_
        refine G_q rfl (op_pick_t rfl (av := .exact (.bool true)) rfl ?_)
        refine G_nil ?_
        refine kI_normal ⟨_, h, ?_⟩
        exact Sub.of_le (AF.le_put (AV.le_eq rfl) (AF.le_put (AV.le_eq rfl) (AF.le_put (AV.le_eq rfl) (AF.le_put (AV.le_eq rfl) (AF.le_put (AV.le_eq rfl) (AF.le_top _))))))
      · replace h := ite_f h hc
        refine Gy_q rfl rfl rfl (op_move (av := .exact (.string (bs a2))) rfl ?_)
        obtain ⟨y14, hy14, h⟩ := bnd1_some h
        refine Gy_q rfl rfl rfl (op_pure (m_value_Valid_ok _ _ hy14) Tryz.func54 (by kernel_rfl) (LEs.cons (AV.le_eq rfl) LEs.nil) ?_)
        refine Gy_q rfl rfl rfl (op_not rfl ?_)
        refine G_q rfl (op_pick_f rfl (av := .exact (.bool (!y14))) rfl ?_)
        refine G_nil ?_
        refine kI_normal ⟨_, h, ?_⟩
        exact Sub.of_le (AF.le_put (AV.le_eq rfl) (AF.le_put (AV.le_eq rfl) (AF.le_put (AV.le_eq rfl) (AF.le_put (AV.le_eq rfl) (AF.le_put (AV.le_eq rfl) (AF.le_top _))))))
  · refine k_cond_b (c := x28_j10) rfl (fun hc => ?_) (fun hc => ?_)
    · replace h := ite_t h hc
      refine k_seq ?_
      refine k_reg .free hmixP (by kernel_rfl) ?_
      refine G_q rfl (op_assign (av := .exact (.string (bs ([] : List UInt8)))) rfl ?_)
      refine G_q rfl (op_assign (av := .exact (.int .i64 6)) rfl ?_)
      refine G_nil ?_
      refine kC_normal ?_
      refine k_ret ?_
      refine kC_ret ?_
      obtain rfl := Option.some.inj h
      refine kP_any (endN (af' := (AF.put (AF.put AF0 (some 6) (.exact (.string (bs ([] : List UInt8))))) (some 7) (.exact (.int .i64 6)))) (σ' := []) _ rfl ?_ ⟨rfl, rfl⟩)
      refine Sub.trans (SubU.to SubU.drop) ?_
      refine Sub.trans (SubU.to SubU.drop) ?_
      exact Sub.of_le (AF.le_put (AV.le_eq rfl) (AF.le_put (AV.le_eq rfl) (AF.le_top _)))
    · replace h := ite_f h hc
      refine k_skip ?_
      refine kC_normal ?_
      refine k_seq ?_
      refine k_reg .free hmixP (by kernel_rfl) ?_
      refine G_q rfl (op_move (av := .exact v2) rfl ?_)
      refine G_q rfl (op_move (av := .exact v3) rfl ?_)
      refine G_q rfl (op_move (av := .exact (.string (bs a1))) rfl ?_)
      obtain ⟨y15, hy15, h⟩ := bnd1_some h
      refine G_l rfl (opB_f1 (opB_f1 (op_fun_2_2_2 (m_finset_without_ok _ _ _ _ hy15) Tryz.func59 (by kernel_rfl) (LEs.cons (AV.le_eq rfl) (LEs.cons (AV.le_eq rfl) (LEs.cons (AV.le_eq rfl) LEs.nil))) (fun v16 v17 => ?_))))
      refine G_q rfl (op_move (av := .tup [.exact v16, .exact v17]) rfl ?_)
      refine G_q rfl (op_extract (av := .exact v16) rfl rfl ?_)
      refine G_q rfl (op_extract (av := .exact v17) rfl rfl ?_)
      refine G_q rfl (op_assign (av := .exact v16) rfl ?_)
      refine G_q rfl (op_assign (av := .exact v17) rfl ?_)
      refine G_nil ?_
      refine kC_normal ?_
      refine k_seq ?_
      refine k_reg .free hmixP (by kernel_rfl) ?_
      refine G_q rfl (op_move (av := .exact v16) rfl ?_)
      refine G_q rfl (op_move (av := .exact (.string (bs a1))) rfl ?_)
      refine G_q rfl (op_litT (n := 1) (enc := c_api_Value) [a1] (CellsAll.cons rfl CellsOf.str CellsAll.nil) rfl (by kernel_rfl) (LEss.cons (LEs.cons (AV.le_eq rfl) LEs.nil) LEss.nil) ?_)
      obtain ⟨n18, h⟩ := need_some h
      refine G_l rfl (op_appO (by kernel_rfl) rfl rfl oc_c_api_Value n18 (fun v19 => ?_))
      refine G_q rfl (op_assign (av := .exact v19) rfl ?_)
      refine G_nil ?_
      refine kC_normal ?_
      refine k_seq ?_
      refine k_reg .free hmixP (by kernel_rfl) ?_
      refine G_q rfl (op_move (av := .exact v19) rfl ?_)
      refine G_r rfl (op_len_O (by kernel_rfl) rfl ?_)
      refine G_q rfl (op_move (av := .exact v19) rfl ?_)
      refine G_q rfl (op_move (av := .exact v17) rfl ?_)
      refine G_q rfl (op_move (av := .exact (.string (bs a2))) rfl ?_)
      refine G_q rfl (op_litT (n := 1) (enc := c_api_Value) [a2] (CellsAll.cons rfl CellsOf.str CellsAll.nil) rfl (by kernel_rfl) (LEss.cons (LEs.cons (AV.le_eq rfl) LEs.nil) LEss.nil) ?_)
      obtain ⟨n20, h⟩ := need_some h
      refine G_l rfl (opB_f1 (op_appO (by kernel_rfl) rfl rfl oc_c_api_Value n20 (fun v21 => ?_)))
      refine G_sub rfl (SubU.trans SubU.f1 (SubU.freezeO (s := 42) rfl len_c_api_Value)) ?_
      refine G_sub rfl (SubU.freezeO (s := 46) rfl len_c_api_Value) ?_
      obtain ⟨y22, hy22, h⟩ := bnd1_some h
      refine G_q rfl (op_pure (m_value_Map_ok _ _ _ hy22) Tryz.func61 (by kernel_rfl) (LEs.cons (AV.le_eq rfl) (LEs.cons (AV.le_eq rfl) LEs.nil)) ?_)
      obtain ⟨y23, hy23, h⟩ := bnd1_some h
      refine G_q rfl (op_pure (m_finset_sized_ok _ _ _ hy23) Tryz.func60 (by kernel_rfl) (LEs.cons (AV.le_eq rfl) (LEs.cons (AV.le_eq rfl) LEs.nil)) ?_)
      refine G_q rfl (op_extract (av := .exact (.string (bs y23.1))) rfl rfl ?_)
      refine G_q rfl (op_extract (av := .exact (.int .i64 y23.2)) rfl rfl ?_)
      refine G_q rfl (op_assign (av := .exact (.string (bs y23.1))) rfl ?_)
      refine G_q rfl (op_assign (av := .exact (.int .i64 y23.2)) rfl ?_)
      refine G_nil ?_
      refine kC_normal ?_
      refine k_ret ?_
      obtain rfl := Option.some.inj h
      refine kP_any (endN (af' := (AF.put (AF.put AF0 (some 6) (.exact (.string (bs y23.1)))) (some 7) (.exact (.int .i64 y23.2)))) (σ' := []) _ rfl ?_ ⟨rfl, rfl⟩)
      exact Sub.of_le (AF.le_put (AV.le_eq rfl) (AF.le_put (AV.le_eq rfl) (AF.le_top _)))
set_option maxHeartbeats 4000000 in
theorem m_finset_Delete_ok (a0 : List UInt8) (a1 : List UInt8) (r : (List UInt8) × Int) (h : m_finset_Delete a0 a1 = some r) : Pure Tryz.prog 21 [(.exact (.string (bs a0))), (.exact (.string (bs a1)))] (.tup [.exact (.string (bs r.1)), .exact (.int .i64 r.2)]) := by
  unfold m_finset_Delete at h
  refine Pure.ofFun (fun_of_awp Tryz.func21 rfl Tryz.ntmps21 (by simp) rfl (res2 rfl) fun E hE => k_end ?_)
  refine k_seq ?_
  refine k_reg .free hmixP (by kernel_rfl) ?_
  refine G_q rfl (op_assign (av := .exact (.string (bs ([] : List UInt8)))) rfl ?_)
  refine G_q rfl (op_assign (av := .exact (.int .i64 0)) rfl ?_)
  refine G_nil ?_
  refine kC_normal ?_
  refine k_seq ?_
  refine k_reg .free hmixP (by kernel_rfl) ?_
  refine G_q rfl (op_move (av := .exact (.string (bs a0))) rfl ?_)
  obtain ⟨y1, hy1, h⟩ := bnd1_some h
  refine G_l rfl (op_fun_0_2_2 (m_finset_pairs_ok _ _ hy1) Tryz.func53 (by kernel_rfl) (LEs.cons (AV.le_eq rfl) LEs.nil) (fun v2 v3 => ?_))
  refine G_q rfl (op_move (av := .tup [.exact v2, .exact v3, .exact (.int .i64 y1.2.2)]) rfl ?_)
  refine G_q rfl (op_extract (av := .exact v2) rfl rfl ?_)
  refine G_q rfl (op_extract (av := .exact v3) rfl rfl ?_)
  refine G_q rfl (op_extract (av := .exact (.int .i64 y1.2.2)) rfl rfl ?_)
  refine G_q rfl (op_assign (av := .exact v2) rfl ?_)
  refine G_q rfl (op_assign (av := .exact v3) rfl ?_)
  refine G_q rfl (op_assign (av := .exact (.int .i64 y1.2.2)) rfl ?_)
  refine G_nil ?_
  refine kC_normal ?_
  refine k_seq ?_
  refine k_join1_0 h (fun (x21_j8 : Bool) => (AF.put (AF.put (AF.put (AF.put AF0 (some 1) (.exact (.string (bs a1)))) (some 6) (.exact v2)) (some 7) (.exact v3)) (some 21) (.exact (.bool x21_j8)))) (fun (x21_j8 : Bool) => [vecT Tryz.prog 33 1 c_api_Value v2 y1.1, vecT Tryz.prog 33 1 c_api_Value v3 y1.2.1]) (fun k8 h => ?_) (fun x21_j8 h => ?_)
  · refine k_reg .free hmixP (by kernel_rfl) ?_
    refine G_q rfl (op_move (av := .exact (.int .i64 y1.2.2)) rfl ?_)
    refine G_q rfl (op_neq rfl rfl ?_)
    refine G_q rfl (op_move (av := .exact (.bool (decide (¬ y1.2.2 = 0)))) rfl ?_)
    refine G_split (p := ¬ y1.2.2 = 0) 17 rfl (fun hc => ?_) (fun hc => ?_)
    · replace h := ite_t h hc
      refine G_n rfl rfl ?_
      refine G_n rfl rfl ?_
      refine G_n rfl rfl ?_
      refine G_q rfl (op_pick_t rfl (av := .exact (.bool true)) rfl ?_)
      refine G_nil ?_
      refine kI_normal ⟨_, h, ?_⟩
      exact Sub.of_le (AF.le_put (AV.le_eq rfl) (AF.le_put (AV.le_eq rfl) (AF.le_put (AV.le_eq rfl) (AF.le_put (AV.le_eq rfl) (AF.le_top _)))))
    · replace h := ite_f h hc
      refine Gy_q rfl rfl rfl (op_move (av := .exact (.string (bs a1))) rfl ?_)
      obtain ⟨y10, hy10, h⟩ := bnd1_some h
      refine Gy_q rfl rfl rfl (op_pure (m_value_Valid_ok _ _ hy10) Tryz.func54 (by kernel_rfl) (LEs.cons (AV.le_eq rfl) LEs.nil) ?_)
      refine Gy_q rfl rfl rfl (op_not rfl ?_)
      refine G_q rfl (op_pick_f rfl (av := .exact (.bool (!y10))) rfl ?_)
      refine G_nil ?_
      refine kI_normal ⟨_, h, ?_⟩
      exact Sub.of_le (AF.le_put (AV.le_eq rfl) (AF.le_put (AV.le_eq rfl) (AF.le_put (AV.le_eq rfl) (AF.le_put (AV.le_eq rfl) (AF.le_top _)))))
  · refine k_cond_b (c := x21_j8) rfl (fun hc => ?_) (fun hc => ?_)
    · replace h := ite_t h hc
      refine k_seq ?_
      refine k_reg .free hmixP (by kernel_rfl) ?_
      refine G_q rfl (op_assign (av := .exact (.string (bs ([] : List UInt8)))) rfl ?_)
      refine G_q rfl (op_assign (av := .exact (.int .i64 6)) rfl ?_)
      refine G_nil ?_
      refine kC_normal ?_
      refine k_ret ?_
      refine kC_ret ?_
      obtain rfl := Option.some.inj h
      refine kP_any (endN (af' := (AF.put (AF.put AF0 (some 4) (.exact (.string (bs ([] : List UInt8))))) (some 5) (.exact (.int .i64 6)))) (σ' := []) _ rfl ?_ ⟨rfl, rfl⟩)
      refine Sub.trans (SubU.to SubU.drop) ?_
      refine Sub.trans (SubU.to SubU.drop) ?_
      exact Sub.of_le (AF.le_put (AV.le_eq rfl) (AF.le_put (AV.le_eq rfl) (AF.le_top _)))
    · replace h := ite_f h hc
      refine k_skip ?_
      refine kC_normal ?_
      refine k_seq ?_
      refine k_reg .free hmixP (by kernel_rfl) ?_
      refine G_q rfl (op_move (av := .exact v2) rfl ?_)
      refine G_q rfl (op_move (av := .exact v3) rfl ?_)
      refine G_q rfl (op_move (av := .exact (.string (bs a1))) rfl ?_)
      obtain ⟨y11, hy11, h⟩ := bnd1_some h
      refine G_l rfl (opB_f1 (opB_f1 (op_fun_2_2_2 (m_finset_without_ok _ _ _ _ hy11) Tryz.func59 (by kernel_rfl) (LEs.cons (AV.le_eq rfl) (LEs.cons (AV.le_eq rfl) (LEs.cons (AV.le_eq rfl) LEs.nil))) (fun v12 v13 => ?_))))
      refine G_q rfl (op_move (av := .tup [.exact v12, .exact v13]) rfl ?_)
      refine G_q rfl (op_extract (av := .exact v12) rfl rfl ?_)
      refine G_q rfl (op_extract (av := .exact v13) rfl rfl ?_)
      refine G_q rfl (op_assign (av := .exact v12) rfl ?_)
      refine G_q rfl (op_assign (av := .exact v13) rfl ?_)
      refine G_nil ?_
      refine kC_normal ?_
      refine k_seq ?_
      refine k_reg .free hmixP (by kernel_rfl) ?_
      refine G_q rfl (op_move (av := .exact v12) rfl ?_)
      refine G_r rfl (op_len_O (by kernel_rfl) rfl ?_)
      refine G_q rfl (op_move (av := .exact v12) rfl ?_)
      refine G_q rfl (op_move (av := .exact v13) rfl ?_)
      refine G_sub rfl (SubU.freezeO (s := 31) rfl len_c_api_Value) ?_
      refine G_sub rfl (SubU.freezeO (s := 32) rfl len_c_api_Value) ?_
      obtain ⟨y14, hy14, h⟩ := bnd1_some h
      refine G_q rfl (op_pure (m_value_Map_ok _ _ _ hy14) Tryz.func61 (by kernel_rfl) (LEs.cons (AV.le_eq rfl) (LEs.cons (AV.le_eq rfl) LEs.nil)) ?_)
      obtain ⟨y15, hy15, h⟩ := bnd1_some h
      refine G_q rfl (op_pure (m_finset_sized_ok _ _ _ hy15) Tryz.func60 (by kernel_rfl) (LEs.cons (AV.le_eq rfl) (LEs.cons (AV.le_eq rfl) LEs.nil)) ?_)
      refine G_q rfl (op_extract (av := .exact (.string (bs y15.1))) rfl rfl ?_)
      refine G_q rfl (op_extract (av := .exact (.int .i64 y15.2)) rfl rfl ?_)
      refine G_q rfl (op_assign (av := .exact (.string (bs y15.1))) rfl ?_)
      refine G_q rfl (op_assign (av := .exact (.int .i64 y15.2)) rfl ?_)
      refine G_nil ?_
      refine kC_normal ?_
      refine k_ret ?_
      obtain rfl := Option.some.inj h
      refine kP_any (endN (af' := (AF.put (AF.put AF0 (some 4) (.exact (.string (bs y15.1)))) (some 5) (.exact (.int .i64 y15.2)))) (σ' := []) _ rfl ?_ ⟨rfl, rfl⟩)
      exact Sub.of_le (AF.le_put (AV.le_eq rfl) (AF.le_put (AV.le_eq rfl) (AF.le_top _)))
set_option maxHeartbeats 4000000 in
theorem m_value_append64_ok {w0 : Value} (a0 : List UInt8) (a1 : Int) (r : (List UInt8)) (h : m_value_append64 a0 a1 = some r) : Fun Tryz.prog 91 [(.exact w0), (.exact (.int .u64 a1))] [vecT Tryz.prog 44 1 c_uint8 w0 a0] (fun a s => ∃ z0, a = .exact z0 ∧ s = [vecT Tryz.prog 44 1 c_uint8 z0 r]) := by
  unfold m_value_append64 at h
  refine fun_of_awp Tryz.func91 rfl Tryz.ntmps91 (by simp) rfl (res1 rfl) fun E hE => k_end ?_
  refine k_seq ?_
  refine k_reg .free hmixP (by kernel_rfl) ?_
  refine G_q rfl (op_assign (av := .exact (.slice none 0 0)) rfl ?_)
  refine G_nil ?_
  refine kC_normal ?_
  refine k_join1_1 h (fun (x0_j1 : List UInt8) (v0_j1 : Value) => (AF.put AF0 (some 0) (.exact v0_j1))) (fun (x0_j1 : List UInt8) (v0_j1 : Value) => [vecT Tryz.prog 44 1 c_uint8 v0_j1 x0_j1]) (fun k1 h => ?_) (fun x0_j1 v0_j1 h => ?_)
  · refine k_seq ?_
    refine k_reg .free hmixP (by kernel_rfl) ?_
    refine G_q rfl (op_assign (av := .exact (.int .i64 56)) rfl ?_)
    refine G_nil ?_
    refine kC_normal ?_
    refine k_block ?_
    refine k_loop2_1 (m_value_append64_L2 a1 k1) (m_value_append64_B2 a1 k1) (fun _ _ => rfl) (fun m _ _ => rfl) h (fun (x0_l2 : List UInt8) (x5_l2 : Int) (v0_l2 : Value) => (AF.put (AF.put (AF.put AF0 (some 0) (.exact v0_l2)) (some 1) (.exact (.int .u64 a1))) (some 5) (.exact (.int .i64 x5_l2)))) (fun (x0_l2 : List UInt8) (x5_l2 : Int) (v0_l2 : Value) => [vecT Tryz.prog 44 1 c_uint8 v0_l2 x0_l2]) w0 ?_ (fun rec2 x0_l2 x5_l2 v0_l2 h => ?_)
    · exact Sub.of_le (AF.le_put (AV.le_eq rfl) (AF.le_put (AV.le_eq rfl) (AF.le_put (AV.le_eq rfl) (AF.le_top _))))
    · unfold m_value_append64_B2 at h
      refine k_seq ?_
      refine k_seq ?_
      refine k_reg .free hmixP (by kernel_rfl) ?_
      refine G_q rfl (op_move (av := .exact (.int .i64 x5_l2)) rfl ?_)
      refine G_q rfl (op_geq rfl rfl ?_)
      refine G_nil ?_
      refine kC_normal ?_
      refine k_cond_d (p := 0 ≤ x5_l2) rfl (fun hc => ?_) (fun hc => ?_)
      · replace h := ite_t h hc
        refine k_skip ?_
        refine kC_normal ?_
        refine k_seq ?_
        refine k_block ?_
        refine k_reg .free hmixP (by kernel_rfl) ?_
        refine G_q rfl (op_move (av := .exact v0_l2) rfl ?_)
        refine G_q rfl (op_move (av := .exact (.int .u64 a1)) rfl ?_)
        refine G_q rfl (op_move (av := .exact (.int .i64 x5_l2)) rfl ?_)
        obtain ⟨n16, h⟩ := need_some h
        refine G_q rfl (op_shr rfl rfl n16 rfl ?_)
        refine G_q rfl (op_convInt (k := .u8) (r := (UInt8.toNat (u8i (Int.fdiv a1 (2 ^ min (Int.toNat x5_l2) IntKind.u64.bits))) : Int)) (by kernel_rfl) rfl (u8i_eq _) ?_)
        refine G_q rfl (op_litT (n := 1) (enc := c_uint8) [u8i (Int.fdiv a1 (2 ^ min (Int.toNat x5_l2) IntKind.u64.bits))] (CellsAll.cons rfl CellsOf.int CellsAll.nil) rfl (by kernel_rfl) (LEss.cons (LEs.cons (AV.le_eq rfl) LEs.nil) LEss.nil) ?_)
        obtain ⟨n17, h⟩ := need_some h
        refine G_l rfl (op_appT (by kernel_rfl) rfl rfl oc_c_uint8 n17 (fun v18 => ?_))
        refine G_q rfl (op_assign (av := .exact v18) rfl ?_)
        refine G_nil ?_
        refine kB_normal ?_
        refine kC_normal ?_
        refine k_reg .free hmixP (by kernel_rfl) ?_
        refine G_q rfl (op_move (av := .exact (.int .i64 x5_l2)) rfl ?_)
        refine G_q rfl (op_sub rfl rfl rfl ?_)
        refine G_q rfl (op_assign (av := .exact (.int .i64 (i64 (x5_l2 - 8)))) rfl ?_)
        refine G_nil ?_
        refine kI_normal ⟨_, _, v18, h, ?_⟩
        exact Sub.of_le (AF.le_put (AV.le_eq rfl) (AF.le_put (AV.le_eq rfl) (AF.le_put (AV.le_eq rfl) (AF.le_top _))))
      · replace h := ite_f h hc
        refine k_exit ?_
        refine kC_exit ?_
        refine kI_exit ?_
        refine kB_exit ?_
        refine kI_normal ⟨_, v0_l2, h, ?_⟩
        exact Sub.of_le (AF.le_put (AV.le_eq rfl) (AF.le_top _))
  · refine k_seq ?_
    refine k_reg .free hmixP (by kernel_rfl) ?_
    refine G_q rfl (op_move (av := .exact v0_j1) rfl ?_)
    refine G_q rfl (op_assign (av := .exact v0_j1) rfl ?_)
    refine G_nil ?_
    refine kC_normal ?_
    refine k_ret ?_
    obtain rfl := Option.some.inj h
    refine kP_any (endN (af' := (AF.put AF0 (some 4) (.exact v0_j1))) (σ' := [vecT Tryz.prog 44 1 c_uint8 v0_j1 x0_j1]) _ rfl ?_ ⟨v0_j1, rfl, rfl⟩)
    exact Sub.of_le (AF.le_put (AV.le_eq rfl) (AF.le_top _))
end Go.Proofs.YtdbnodliomlilaaGreat
/- The functions compute their models, by program. -/
namespace Go.Proofs.YtdbnodliomlilaaGreat
open Go.RowKit
attribute [local irreducible] AV.exact AV.top AV.row AV.ptr AV.agg AV.tup AV.eptr AV.fn AV.nilq AV.nilqn opA opB opM opR Quiet Loud Reads wpG awp den Sub SubU Pure Fun vecI vecT boxI CellsAll CellsOf OneC LEs LEss
set_option maxRecDepth 100000

set_option maxHeartbeats 4000000 in
theorem m_value_Int_ok (a0 : Int) (r : (List UInt8)) (h : m_value_Int a0 = some r) : Pure Tryz.prog 64 [(.exact (.int .i64 a0))] (.exact (.string (bs r))) := by
  unfold m_value_Int at h
  refine Pure.ofFun (fun_of_awp Tryz.func64 rfl Tryz.ntmps64 (by simp) rfl (res1 rfl) fun E hE => k_end ?_)
  refine k_seq ?_
  refine k_reg .free hmixP (by kernel_rfl) ?_
  refine G_q rfl (op_assign (av := .exact (.string (bs ([] : List UInt8)))) rfl ?_)
  refine G_nil ?_
  refine kC_normal ?_
  refine k_seq ?_
  refine k_reg .free hmixP (by kernel_rfl) ?_
  refine G_l rfl (op_litI (n := 1) (enc := c_uint8) [1] (by kernel_rfl) (CellsAll.cons rfl CellsOf.int CellsAll.nil) rfl (by kernel_rfl) (LEss.cons (LEs.cons (AV.le_eq rfl) LEs.nil) LEss.nil) (fun v1 => ?_))
  refine G_q rfl (op_move (av := .exact (.int .i64 a0)) rfl ?_)
  refine G_q rfl (op_convInt (k := .u64) (by kernel_rfl) rfl rfl ?_)
  obtain ⟨y2, hy2, h⟩ := bnd1_some h
  refine G_l rfl (op_fun_1_1_1 (m_value_append64_ok _ _ _ hy2) Tryz.func91 (by kernel_rfl) (LEs.cons (AV.le_eq rfl) (LEs.cons (AV.le_eq rfl) LEs.nil)) (fun v3 => ?_))
  refine G_r rfl (op_bytesS_bor rfl (by kernel_rfl) (Bor.vec (List.Mem.head _) len_c_uint8) ?_)
  refine G_q rfl (op_assign (av := .exact (.string (bs y2))) rfl ?_)
  refine G_nil ?_
  refine kC_normal ?_
  refine k_ret ?_
  obtain rfl := Option.some.inj h
  refine kP_any (endN (af' := (AF.put AF0 (some 2) (.exact (.string (bs y2))))) (σ' := []) _ rfl ?_ ⟨rfl, rfl⟩)
  refine Sub.trans (SubU.to SubU.drop) ?_
  exact Sub.of_le (AF.le_put (AV.le_eq rfl) (AF.le_top _))
set_option maxHeartbeats 4000000 in
theorem m_value_Set_ok (a0 : List (List UInt8)) (r : (List UInt8)) (h : m_value_Set a0 = some r) : Pure Tryz.prog 67 [(.row 1 c_api_Value a0)] (.exact (.string (bs r))) := by
  unfold m_value_Set at h
  refine Pure.ofFun (fun_of_awp Tryz.func67 rfl Tryz.ntmps67 (by simp) rfl (res1 rfl) fun E hE => k_end ?_)
  refine k_seq ?_
  refine k_reg .free hmixP (by kernel_rfl) ?_
  refine G_q rfl (op_assign (av := .exact (.string (bs ([] : List UInt8)))) rfl ?_)
  refine G_nil ?_
  refine kC_normal ?_
  refine k_seq ?_
  refine k_reg .free hmixP (by kernel_rfl) ?_
  refine G_q rfl (op_move (av := .row 1 c_api_Value a0) rfl ?_)
  obtain ⟨y1, hy1, h⟩ := bnd1_some h
  refine G_q rfl (op_pure (m_value_Sort_ok _ _ hy1) Tryz.func85 (by kernel_rfl) (LEs.cons (AV.le_eq rfl) LEs.nil) ?_)
  obtain ⟨y2, hy2, h⟩ := bnd1_some h
  refine G_q rfl (op_pure (m_value_compound_ok _ _ _ hy2) Tryz.func89 (by kernel_rfl) (LEs.cons (AV.le_eq rfl) (LEs.cons (AV.le_eq rfl) LEs.nil)) ?_)
  refine G_q rfl (op_assign (av := .exact (.string (bs y2))) rfl ?_)
  refine G_nil ?_
  refine kC_normal ?_
  refine k_ret ?_
  obtain rfl := Option.some.inj h
  refine kP_any (endN (af' := (AF.put AF0 (some 2) (.exact (.string (bs y2))))) (σ' := []) _ rfl ?_ ⟨rfl, rfl⟩)
  exact Sub.of_le (AF.le_put (AV.le_eq rfl) (AF.le_top _))
set_option maxHeartbeats 4000000 in
theorem m_finset_set_ok (a0 : List (List UInt8)) (r : (List UInt8) × Int) (h : m_finset_set a0 = some r) : Pure Tryz.prog 65 [(.row 1 c_api_Value a0)] (.tup [.exact (.string (bs r.1)), .exact (.int .i64 r.2)]) := by
  unfold m_finset_set at h
  refine Pure.ofFun (fun_of_awp Tryz.func65 rfl Tryz.ntmps65 (by simp) rfl (res2 rfl) fun E hE => k_end ?_)
  refine k_seq ?_
  refine k_reg .free hmixP (by kernel_rfl) ?_
  refine G_q rfl (op_assign (av := .exact (.string (bs ([] : List UInt8)))) rfl ?_)
  refine G_q rfl (op_assign (av := .exact (.int .i64 0)) rfl ?_)
  refine G_nil ?_
  refine kC_normal ?_
  refine k_seq ?_
  refine k_seq ?_
  refine k_reg .free hmixP (by kernel_rfl) ?_
  refine G_q rfl (op_move (av := .row 1 c_api_Value a0) rfl ?_)
  refine G_q rfl (op_len_row (by kernel_rfl) rfl ?_)
  refine G_q rfl (op_gtr rfl rfl ?_)
  refine G_nil ?_
  refine kC_normal ?_
  refine k_cond_d (p := 4096 < (List.length a0 : Int)) rfl (fun hc => ?_) (fun hc => ?_)
  · replace h := ite_t h hc
    refine k_seq ?_
    refine k_reg .free hmixP (by kernel_rfl) ?_
    refine G_q rfl (op_assign (av := .exact (.string (bs ([] : List UInt8)))) rfl ?_)
    refine G_q rfl (op_assign (av := .exact (.int .i64 9)) rfl ?_)
    refine G_nil ?_
    refine kC_normal ?_
    refine k_ret ?_
    refine kC_ret ?_
    obtain rfl := Option.some.inj h
    refine kP_any (endN (af' := (AF.put (AF.put AF0 (some 2) (.exact (.string (bs ([] : List UInt8))))) (some 3) (.exact (.int .i64 9)))) (σ' := []) _ rfl ?_ ⟨rfl, rfl⟩)
    exact Sub.of_le (AF.le_put (AV.le_eq rfl) (AF.le_put (AV.le_eq rfl) (AF.le_top _)))
  · replace h := ite_f h hc
    refine k_skip ?_
    refine kC_normal ?_
    refine k_seq ?_
    refine k_reg .free hmixP (by kernel_rfl) ?_
    refine G_q rfl (op_move (av := .row 1 c_api_Value a0) rfl ?_)
    refine G_q rfl (op_len_row (by kernel_rfl) rfl ?_)
    refine G_q rfl (op_move (av := .row 1 c_api_Value a0) rfl ?_)
    obtain ⟨y1, hy1, h⟩ := bnd1_some h
    refine G_q rfl (op_pure (m_value_Set_ok _ _ hy1) Tryz.func67 (by kernel_rfl) (LEs.cons (AV.le_eq rfl) LEs.nil) ?_)
    obtain ⟨y2, hy2, h⟩ := bnd1_some h
    refine G_q rfl (op_pure (m_finset_sized_ok _ _ _ hy2) Tryz.func60 (by kernel_rfl) (LEs.cons (AV.le_eq rfl) (LEs.cons (AV.le_eq rfl) LEs.nil)) ?_)
    refine G_q rfl (op_extract (av := .exact (.string (bs y2.1))) rfl rfl ?_)
    refine G_q rfl (op_extract (av := .exact (.int .i64 y2.2)) rfl rfl ?_)
    refine G_q rfl (op_assign (av := .exact (.string (bs y2.1))) rfl ?_)
    refine G_q rfl (op_assign (av := .exact (.int .i64 y2.2)) rfl ?_)
    refine G_nil ?_
    refine kC_normal ?_
    refine k_ret ?_
    obtain rfl := Option.some.inj h
    refine kP_any (endN (af' := (AF.put (AF.put AF0 (some 2) (.exact (.string (bs y2.1)))) (some 3) (.exact (.int .i64 y2.2)))) (σ' := []) _ rfl ?_ ⟨rfl, rfl⟩)
    exact Sub.of_le (AF.le_put (AV.le_eq rfl) (AF.le_put (AV.le_eq rfl) (AF.le_top _)))
set_option maxHeartbeats 4000000 in
theorem m_finset_Range_ok (a0 : Int) (a1 : Int) (r : (List UInt8) × Int) (h : m_finset_Range a0 a1 = some r) : Pure Tryz.prog 25 [(.exact (.int .i64 a0)), (.exact (.int .i64 a1))] (.tup [.exact (.string (bs r.1)), .exact (.int .i64 r.2)]) := by
  unfold m_finset_Range at h
  refine Pure.ofFun (fun_of_awp Tryz.func25 rfl Tryz.ntmps25 (by simp) rfl (res2 rfl) fun E hE => k_end ?_)
  refine k_seq ?_
  refine k_reg .free hmixP (by kernel_rfl) ?_
  refine G_q rfl (op_assign (av := .exact (.string (bs ([] : List UInt8)))) rfl ?_)
  refine G_q rfl (op_assign (av := .exact (.int .i64 0)) rfl ?_)
  refine G_nil ?_
  refine kC_normal ?_
  refine k_seq ?_
  refine k_join1_0 h (fun (x18_j3 : Bool) => (AF.put (AF.put (AF.put AF0 (some 0) (.exact (.int .i64 a0))) (some 1) (.exact (.int .i64 a1))) (some 18) (.exact (.bool x18_j3)))) (fun (x18_j3 : Bool) => []) (fun k3 h => ?_) (fun x18_j3 h => ?_)
  · refine k_reg .free hmixP (by kernel_rfl) ?_
    refine G_q rfl (op_move (av := .exact (.int .i64 a0)) rfl ?_)
    refine G_q rfl (op_move (av := .exact (.int .i64 a1)) rfl ?_)
    refine G_q rfl (op_leq rfl rfl ?_)
    refine G_q rfl (op_move (av := .exact (.bool (decide (a0 ≤ a1)))) rfl ?_)
    refine G_split (p := a0 ≤ a1) 11 rfl (fun hc => ?_) (fun hc => ?_)
    · replace h := ite_t h hc
      refine Gy_q rfl rfl rfl (op_move (av := .exact (.int .i64 a1)) rfl ?_)
      refine Gy_q rfl rfl rfl (op_convInt (k := .u64) (by kernel_rfl) rfl rfl ?_)
      refine Gy_q rfl rfl rfl (op_move (av := .exact (.int .i64 a0)) rfl ?_)
      refine Gy_q rfl rfl rfl (op_convInt (k := .u64) (by kernel_rfl) rfl rfl ?_)
      refine Gy_q rfl rfl rfl (op_sub rfl rfl rfl ?_)
      refine Gy_q rfl rfl rfl (op_geq rfl rfl ?_)
      refine G_q rfl (op_pick_t rfl (av := .exact (.bool (decide (4096 ≤ (IntKind.u64.wrap ((IntKind.u64.wrap (a1)) - (IntKind.u64.wrap (a0)))))))) rfl ?_)
      refine G_nil ?_
      refine kI_normal ⟨_, h, ?_⟩
      exact Sub.of_le (AF.le_put (AV.le_eq rfl) (AF.le_put (AV.le_eq rfl) (AF.le_put (AV.le_eq rfl) (AF.le_top _))))
    · replace h := ite_f h hc
      refine G_n rfl rfl ?_
      refine G_n rfl rfl ?_
      refine G_n rfl rfl ?_
      refine G_n rfl rfl ?_
      refine G_n rfl rfl ?_
      refine G_n rfl rfl ?_
      refine G_q rfl (op_pick_f rfl (av := .exact (.bool false)) rfl ?_)
      refine G_nil ?_
      refine kI_normal ⟨_, h, ?_⟩
      exact Sub.of_le (AF.le_put (AV.le_eq rfl) (AF.le_put (AV.le_eq rfl) (AF.le_put (AV.le_eq rfl) (AF.le_top _))))
  · refine k_cond_b (c := x18_j3) rfl (fun hc => ?_) (fun hc => ?_)
    · replace h := ite_t h hc
      refine k_seq ?_
      refine k_reg .free hmixP (by kernel_rfl) ?_
      refine G_q rfl (op_assign (av := .exact (.string (bs ([] : List UInt8)))) rfl ?_)
      refine G_q rfl (op_assign (av := .exact (.int .i64 9)) rfl ?_)
      refine G_nil ?_
      refine kC_normal ?_
      refine k_ret ?_
      refine kC_ret ?_
      obtain rfl := Option.some.inj h
      refine kP_any (endN (af' := (AF.put (AF.put AF0 (some 4) (.exact (.string (bs ([] : List UInt8))))) (some 5) (.exact (.int .i64 9)))) (σ' := []) _ rfl ?_ ⟨rfl, rfl⟩)
      exact Sub.of_le (AF.le_put (AV.le_eq rfl) (AF.le_put (AV.le_eq rfl) (AF.le_top _)))
    · replace h := ite_f h hc
      refine k_skip ?_
      refine kC_normal ?_
      refine k_seq ?_
      refine k_reg .free hmixP (by kernel_rfl) ?_
      refine G_q rfl (op_assign (av := .exact (.slice none 0 0)) rfl ?_)
      refine G_nil ?_
      refine kC_normal ?_
      refine k_join1_1 h (fun (x6_j4 : List (List UInt8)) (v6_j4 : Value) => (AF.put AF0 (some 6) (.exact v6_j4))) (fun (x6_j4 : List (List UInt8)) (v6_j4 : Value) => [vecT Tryz.prog 33 1 c_api_Value v6_j4 x6_j4]) (fun k4 h => ?_) (fun x6_j4 v6_j4 h => ?_)
      · refine k_seq ?_
        refine k_reg .free hmixP (by kernel_rfl) ?_
        refine G_q rfl (op_move (av := .exact (.int .i64 a0)) rfl ?_)
        refine G_q rfl (op_assign (av := .exact (.int .i64 a0)) rfl ?_)
        refine G_nil ?_
        refine kC_normal ?_
        refine k_block ?_
        refine k_loop2_1 (m_finset_Range_L2 a1 k4) (m_finset_Range_B2 a1 k4) (fun _ _ => rfl) (fun m _ _ => rfl) h (fun (x6_l2 : List (List UInt8)) (x7_l2 : Int) (v6_l2 : Value) => (AF.put (AF.put (AF.put AF0 (some 1) (.exact (.int .i64 a1))) (some 6) (.exact v6_l2)) (some 7) (.exact (.int .i64 x7_l2)))) (fun (x6_l2 : List (List UInt8)) (x7_l2 : Int) (v6_l2 : Value) => [vecT Tryz.prog 33 1 c_api_Value v6_l2 x6_l2]) (.slice none 0 0) ?_ (fun rec2 x6_l2 x7_l2 v6_l2 h => ?_)
        · refine Sub.trans (SubU.to (SubU.nilT (P := Tryz.prog) (t := 33) (n := 1) (enc := c_api_Value))) ?_
          exact Sub.of_le (AF.le_put (AV.le_eq rfl) (AF.le_put (AV.le_eq rfl) (AF.le_put (AV.le_eq rfl) (AF.le_top _))))
        · unfold m_finset_Range_B2 at h
          refine k_seq ?_
          refine k_seq ?_
          refine k_reg .free hmixP (by kernel_rfl) ?_
          refine G_q rfl (op_move (av := .exact (.int .i64 x7_l2)) rfl ?_)
          refine G_q rfl (op_move (av := .exact (.int .i64 a1)) rfl ?_)
          refine G_q rfl (op_leq rfl rfl ?_)
          refine G_nil ?_
          refine kC_normal ?_
          refine k_cond_d (p := x7_l2 ≤ a1) rfl (fun hc => ?_) (fun hc => ?_)
          · replace h := ite_t h hc
            refine k_skip ?_
            refine kC_normal ?_
            refine k_seq ?_
            refine k_block ?_
            refine k_seq ?_
            refine k_reg .free hmixP (by kernel_rfl) ?_
            refine G_q rfl (op_move (av := .exact v6_l2) rfl ?_)
            refine G_q rfl (op_move (av := .exact (.int .i64 x7_l2)) rfl ?_)
            obtain ⟨y21, hy21, h⟩ := bnd1_some h
            refine G_q rfl (op_pure (m_value_Int_ok _ _ hy21) Tryz.func64 (by kernel_rfl) (LEs.cons (AV.le_eq rfl) LEs.nil) ?_)
            refine G_q rfl (op_litT (n := 1) (enc := c_api_Value) [y21] (CellsAll.cons rfl CellsOf.str CellsAll.nil) rfl (by kernel_rfl) (LEss.cons (LEs.cons (AV.le_eq rfl) LEs.nil) LEss.nil) ?_)
            obtain ⟨n22, h⟩ := need_some h
            refine G_l rfl (op_appT (by kernel_rfl) rfl rfl oc_c_api_Value n22 (fun v23 => ?_))
            refine G_q rfl (op_assign (av := .exact v23) rfl ?_)
            refine G_nil ?_
            refine kC_normal ?_
            refine k_seq ?_
            refine k_reg .free hmixP (by kernel_rfl) ?_
            refine G_q rfl (op_move (av := .exact (.int .i64 x7_l2)) rfl ?_)
            refine G_q rfl (op_move (av := .exact (.int .i64 a1)) rfl ?_)
            refine G_q rfl (op_eql rfl rfl ?_)
            refine G_nil ?_
            refine kC_normal ?_
            refine k_cond_d (p := x7_l2 = a1) rfl (fun hc => ?_) (fun hc => ?_)
            · replace h := ite_t h hc
              refine k_exit ?_
              refine kB_pass rfl ?_
              refine kC_exit ?_
              refine kI_exit ?_
              refine kB_exit ?_
              refine kI_normal ⟨_, v23, h, ?_⟩
              exact Sub.of_le (AF.le_put (AV.le_eq rfl) (AF.le_top _))
            · replace h := ite_f h hc
              refine k_skip ?_
              refine kB_normal ?_
              refine kC_normal ?_
              refine k_reg .free hmixP (by kernel_rfl) ?_
              refine G_q rfl (op_move (av := .exact (.int .i64 x7_l2)) rfl ?_)
              refine G_q rfl (op_add rfl rfl rfl ?_)
              refine G_q rfl (op_assign (av := .exact (.int .i64 (i64 (x7_l2 + 1)))) rfl ?_)
              refine G_nil ?_
              refine kI_normal ⟨_, _, v23, h, ?_⟩
              exact Sub.of_le (AF.le_put (AV.le_eq rfl) (AF.le_put (AV.le_eq rfl) (AF.le_put (AV.le_eq rfl) (AF.le_top _))))
          · replace h := ite_f h hc
            refine k_exit ?_
            refine kC_exit ?_
            refine kI_exit ?_
            refine kB_exit ?_
            refine kI_normal ⟨_, v6_l2, h, ?_⟩
            exact Sub.of_le (AF.le_put (AV.le_eq rfl) (AF.le_top _))
      · refine k_seq ?_
        refine k_reg .free hmixP (by kernel_rfl) ?_
        refine G_q rfl (op_move (av := .exact v6_j4) rfl ?_)
        refine G_sub rfl (SubU.freezeT2 (s1 := 6) (s2 := 33) rfl rfl len_c_api_Value) ?_
        obtain ⟨y24, hy24, h⟩ := bnd1_some h
        refine G_q rfl (op_pure (m_finset_set_ok _ _ hy24) Tryz.func65 (by kernel_rfl) (LEs.cons (AV.le_eq rfl) LEs.nil) ?_)
        refine G_q rfl (op_extract (av := .exact (.string (bs y24.1))) rfl rfl ?_)
        refine G_q rfl (op_extract (av := .exact (.int .i64 y24.2)) rfl rfl ?_)
        refine G_q rfl (op_assign (av := .exact (.string (bs y24.1))) rfl ?_)
        refine G_q rfl (op_assign (av := .exact (.int .i64 y24.2)) rfl ?_)
        refine G_nil ?_
        refine kC_normal ?_
        refine k_ret ?_
        obtain rfl := Option.some.inj h
        refine kP_any (endN (af' := (AF.put (AF.put AF0 (some 4) (.exact (.string (bs y24.1)))) (some 5) (.exact (.int .i64 y24.2)))) (σ' := []) _ rfl ?_ ⟨rfl, rfl⟩)
        exact Sub.of_le (AF.le_put (AV.le_eq rfl) (AF.le_put (AV.le_eq rfl) (AF.le_top _)))
set_option maxHeartbeats 4000000 in
theorem m_finset_elements_ok (a0 : List (List UInt8)) (r : (List (List (List UInt8))) × Int) (h : m_finset_elements a0 = some r) : Pure Tryz.prog 66 [(.row 1 c_api_Value a0)] (.tup [.row 1 c_L_api_Value r.1, .exact (.int .i64 r.2)]) := by
  unfold m_finset_elements at h
  refine Pure.ofFun (fun_of_awp Tryz.func66 rfl Tryz.ntmps66 (by simp) rfl (res2 rfl) fun E hE => k_end ?_)
  refine k_seq ?_
  refine k_reg .free hmixP (by kernel_rfl) ?_
  refine G_q rfl (op_assign (av := .exact (.slice none 0 0)) rfl ?_)
  refine G_q rfl (op_assign (av := .exact (.int .i64 0)) rfl ?_)
  refine G_nil ?_
  refine kC_normal ?_
  refine k_seq ?_
  refine k_reg .free hmixP (by kernel_rfl) ?_
  refine G_q rfl (op_assign (av := .exact (.slice none 0 0)) rfl ?_)
  refine G_nil ?_
  refine kC_normal ?_
  refine k_join1_1 h (fun (x4_j1 : List (List (List UInt8))) (v4_j1 : Value) => (AF.put AF0 (some 4) (.exact v4_j1))) (fun (x4_j1 : List (List (List UInt8))) (v4_j1 : Value) => [vecT Tryz.prog 72 1 c_L_api_Value v4_j1 x4_j1]) (fun k1 h => ?_) (fun x4_j1 v4_j1 h => ?_)
  · refine k_seq ?_
    refine k_reg .free hmixP (by kernel_rfl) ?_
    refine G_q rfl (op_move (av := .row 1 c_api_Value a0) rfl ?_)
    refine G_q rfl (op_len_row (by kernel_rfl) rfl ?_)
    refine G_q rfl (op_move (av := .exact (.int .i64 0)) rfl ?_)
    refine G_nil ?_
    refine kC_normal ?_
    refine k_block ?_
    refine k_loop2_1 (m_finset_elements_L2 a0 k1) (m_finset_elements_B2 a0 k1) (fun _ _ => rfl) (fun m _ _ => rfl) h (fun (x4_l2 : List (List (List UInt8))) (x9_l2 : Int) (v4_l2 : Value) => (AF.put (AF.put (AF.put (AF.put AF0 (some 4) (.exact v4_l2)) (some 7) (.row 1 c_api_Value a0)) (some 8) (.exact (.int .i64 (List.length a0 : Int)))) (some 9) (.exact (.int .i64 x9_l2)))) (fun (x4_l2 : List (List (List UInt8))) (x9_l2 : Int) (v4_l2 : Value) => [vecT Tryz.prog 72 1 c_L_api_Value v4_l2 x4_l2]) (.slice none 0 0) ?_ (fun rec2 x4_l2 x9_l2 v4_l2 h => ?_)
    · refine Sub.trans (SubU.to (SubU.nilT (P := Tryz.prog) (t := 72) (n := 1) (enc := c_L_api_Value))) ?_
      exact Sub.of_le (AF.le_put (AV.le_eq rfl) (AF.le_put (AV.le_eq rfl) (AF.le_put (AV.le_eq rfl) (AF.le_put (AV.le_eq rfl) (AF.le_top _)))))
    · unfold m_finset_elements_B2 at h
      refine k_seq ?_
      refine k_reg .free hmixP (by kernel_rfl) ?_
      refine G_q rfl (op_lss rfl rfl ?_)
      refine G_nil ?_
      refine kC_normal ?_
      refine k_seq ?_
      refine k_cond_d (p := x9_l2 < (List.length a0 : Int)) rfl (fun hc => ?_) (fun hc => ?_)
      · replace h := ite_t h hc
        refine k_skip ?_
        refine kC_normal ?_
        refine k_seq ?_
        refine k_block ?_
        refine k_seq ?_
        refine k_reg .free hmixP (by kernel_rfl) ?_
        obtain ⟨n28, h⟩ := need_some h
        refine G_q rfl (op_index_row (by kernel_rfl) rfl rfl n28.1 n28.2 ?_)
        refine G_q rfl (op_load1p (a := .exact (.string (bs (gi a0 x9_l2)))) (by kernel_rfl) rfl rfl ?_)
        refine G_q rfl (op_assign (av := .exact (.string (bs (gi a0 x9_l2)))) rfl ?_)
        refine G_nil ?_
        refine kC_normal ?_
        refine k_seq ?_
        refine k_seq ?_
        refine k_reg .free hmixP (by kernel_rfl) ?_
        refine G_q rfl (op_move (av := .exact (.string (bs (gi a0 x9_l2)))) rfl ?_)
        obtain ⟨y29, hy29, h⟩ := bnd1_some h
        refine G_q rfl (op_pure (m_value_Kind_ok _ _ hy29) Tryz.func81 (by kernel_rfl) (LEs.cons (AV.le_eq rfl) LEs.nil) ?_)
        refine G_q rfl (op_neq rfl rfl ?_)
        refine G_nil ?_
        refine kC_normal ?_
        refine k_cond_d (p := ¬ y29 = 5) rfl (fun hc => ?_) (fun hc => ?_)
        · replace h := ite_t h hc
          refine k_seq ?_
          refine k_reg .free hmixP (by kernel_rfl) ?_
          refine G_q rfl (op_assign (av := .exact (.slice none 0 0)) rfl ?_)
          refine G_q rfl (op_assign (av := .exact (.int .i64 6)) rfl ?_)
          refine G_nil ?_
          refine kC_normal ?_
          refine k_ret ?_
          refine kC_ret ?_
          refine kB_ret ?_
          refine kC_ret ?_
          refine kI_ret ?_
          refine kB_ret ?_
          refine kI_ret ?_
          obtain rfl := Option.some.inj h
          refine kP_any (endN (af' := (AF.put (AF.put AF0 (some 2) (.row 1 c_L_api_Value [])) (some 3) (.exact (.int .i64 6)))) (σ' := []) _ rfl ?_ ⟨rfl, rfl⟩)
          refine Sub.trans (SubU.to SubU.drop) ?_
          exact Sub.of_le (AF.le_put (AV.le_eq rfl) (AF.le_put (row_nil (by decide)) (AF.le_top _)))
        · replace h := ite_f h hc
          refine k_skip ?_
          refine kC_normal ?_
          refine k_reg .free hmixP (by kernel_rfl) ?_
          refine G_q rfl (op_move (av := .exact v4_l2) rfl ?_)
          refine G_q rfl (op_move (av := .exact (.string (bs (gi a0 x9_l2)))) rfl ?_)
          obtain ⟨y30, hy30, h⟩ := bnd1_some h
          refine G_q rfl (op_pure (m_value_Parts_ok _ _ hy30) Tryz.func82 (by kernel_rfl) (LEs.cons (AV.le_eq rfl) LEs.nil) ?_)
          refine G_q rfl (op_litT (n := 1) (enc := c_L_api_Value) [y30] (CellsAll.cons rfl CellsOf.row CellsAll.nil) rfl (by kernel_rfl) (LEss.cons (LEs.cons (AV.le_eq rfl) LEs.nil) LEss.nil) ?_)
          obtain ⟨n31, h⟩ := need_some h
          refine G_l rfl (op_appT (by kernel_rfl) rfl rfl oc_c_L_api_Value n31 (fun v32 => ?_))
          refine G_q rfl (op_assign (av := .exact v32) rfl ?_)
          refine G_nil ?_
          refine kB_normal ?_
          refine kC_normal ?_
          refine k_reg .free hmixP (by kernel_rfl) ?_
          refine G_q rfl (op_add rfl rfl rfl ?_)
          refine G_q rfl (op_move (av := .exact (.int .i64 (i64 (x9_l2 + 1)))) rfl ?_)
          refine G_nil ?_
          refine kI_normal ⟨_, _, v32, h, ?_⟩
          exact Sub.of_le (AF.le_put (AV.le_eq rfl) (AF.le_put (AV.le_eq rfl) (AF.le_put (AV.le_eq rfl) (AF.le_put (AV.le_eq rfl) (AF.le_top _)))))
      · replace h := ite_f h hc
        refine k_exit ?_
        refine kC_exit ?_
        refine kI_exit ?_
        refine kB_exit ?_
        refine kI_normal ⟨_, v4_l2, h, ?_⟩
        exact Sub.of_le (AF.le_put (AV.le_eq rfl) (AF.le_top _))
  · refine k_seq ?_
    refine k_reg .free hmixP (by kernel_rfl) ?_
    refine G_q rfl (op_move (av := .exact v4_j1) rfl ?_)
    refine G_q rfl (op_assign (av := .exact v4_j1) rfl ?_)
    refine G_q rfl (op_assign (av := .exact (.int .i64 0)) rfl ?_)
    refine G_nil ?_
    refine kC_normal ?_
    refine k_ret ?_
    obtain rfl := Option.some.inj h
    refine kP_any (endN (af' := (AF.put (AF.put AF0 (some 2) (.row 1 c_L_api_Value x4_j1)) (some 3) (.exact (.int .i64 0)))) (σ' := []) _ rfl ?_ ⟨rfl, rfl⟩)
    refine Sub.trans (SubU.to (SubU.freezeT (s := 2) rfl len_c_L_api_Value)) ?_
    exact Sub.of_le (AF.le_put (AV.le_eq rfl) (AF.le_put (AV.le_eq rfl) (AF.le_top _)))
set_option maxHeartbeats 4000000 in
theorem m_finset_Subsets_ok (a0 : List UInt8) (r : (List UInt8) × Int) (h : m_finset_Subsets a0 = some r) : Pure Tryz.prog 26 [(.exact (.string (bs a0)))] (.tup [.exact (.string (bs r.1)), .exact (.int .i64 r.2)]) := by
  unfold m_finset_Subsets at h
  refine Pure.ofFun (fun_of_awp Tryz.func26 rfl Tryz.ntmps26 (by simp) rfl (res2 rfl) fun E hE => k_end ?_)
  refine k_seq ?_
  refine k_reg .free hmixP (by kernel_rfl) ?_
  refine G_q rfl (op_assign (av := .exact (.string (bs ([] : List UInt8)))) rfl ?_)
  refine G_q rfl (op_assign (av := .exact (.int .i64 0)) rfl ?_)
  refine G_nil ?_
  refine kC_normal ?_
  refine k_seq ?_
  refine k_reg .free hmixP (by kernel_rfl) ?_
  refine G_q rfl (op_move (av := .exact (.string (bs a0))) rfl ?_)
  refine G_q rfl (op_litT (n := 1) (enc := c_api_Value) [a0] (CellsAll.cons rfl CellsOf.str CellsAll.nil) rfl (by kernel_rfl) (LEss.cons (LEs.cons (AV.le_eq rfl) LEs.nil) LEss.nil) ?_)
  obtain ⟨y1, hy1, h⟩ := bnd1_some h
  refine G_q rfl (op_pure (m_finset_elements_ok _ _ hy1) Tryz.func66 (by kernel_rfl) (LEs.cons (AV.le_eq rfl) LEs.nil) ?_)
  refine G_q rfl (op_move (av := .tup [.row 1 c_L_api_Value y1.1, .exact (.int .i64 y1.2)]) rfl ?_)
  refine G_q rfl (op_extract (av := .row 1 c_L_api_Value y1.1) rfl rfl ?_)
  refine G_q rfl (op_extract (av := .exact (.int .i64 y1.2)) rfl rfl ?_)
  refine G_q rfl (op_assign (av := .row 1 c_L_api_Value y1.1) rfl ?_)
  refine G_q rfl (op_assign (av := .exact (.int .i64 y1.2)) rfl ?_)
  refine G_nil ?_
  refine kC_normal ?_
  refine k_seq ?_
  refine k_seq ?_
  refine k_reg .free hmixP (by kernel_rfl) ?_
  refine G_q rfl (op_move (av := .exact (.int .i64 y1.2)) rfl ?_)
  refine G_q rfl (op_neq rfl rfl ?_)
  refine G_nil ?_
  refine kC_normal ?_
  refine k_cond_d (p := ¬ y1.2 = 0) rfl (fun hc => ?_) (fun hc => ?_)
  · replace h := ite_t h hc
    refine k_seq ?_
    refine k_reg .free hmixP (by kernel_rfl) ?_
    refine G_q rfl (op_move (av := .exact (.int .i64 y1.2)) rfl ?_)
    refine G_q rfl (op_assign (av := .exact (.string (bs ([] : List UInt8)))) rfl ?_)
    refine G_q rfl (op_assign (av := .exact (.int .i64 y1.2)) rfl ?_)
    refine G_nil ?_
    refine kC_normal ?_
    refine k_ret ?_
    refine kC_ret ?_
    obtain rfl := Option.some.inj h
    refine kP_any (endN (af' := (AF.put (AF.put AF0 (some 2) (.exact (.string (bs ([] : List UInt8))))) (some 3) (.exact (.int .i64 y1.2)))) (σ' := []) _ rfl ?_ ⟨rfl, rfl⟩)
    exact Sub.of_le (AF.le_put (AV.le_eq rfl) (AF.le_put (AV.le_eq rfl) (AF.le_top _)))
  · replace h := ite_f h hc
    refine k_skip ?_
    refine kC_normal ?_
    refine k_seq ?_
    refine k_reg .free hmixP (by kernel_rfl) ?_
    refine G_q rfl (op_move (av := .row 1 c_L_api_Value y1.1) rfl ?_)
    obtain ⟨n2, h⟩ := need_some h
    refine G_q rfl (op_index_row (by kernel_rfl) rfl rfl n2.1 n2.2 ?_)
    refine G_q rfl (op_load1p (a := .row 1 c_api_Value (gi y1.1 0)) (by kernel_rfl) rfl rfl ?_)
    refine G_q rfl (op_len_row (by kernel_rfl) rfl ?_)
    refine G_q rfl (op_assign (av := .exact (.int .i64 (List.length (gi y1.1 0) : Int))) rfl ?_)
    refine G_nil ?_
    refine kC_normal ?_
    refine k_seq ?_
    refine k_join1_0 h (fun (x31_j7 : Bool) => (AF.put (AF.put (AF.put AF0 (some 4) (.row 1 c_L_api_Value y1.1)) (some 6) (.exact (.int .i64 (List.length (gi y1.1 0) : Int)))) (some 31) (.exact (.bool x31_j7)))) (fun (x31_j7 : Bool) => []) (fun k7 h => ?_) (fun x31_j7 h => ?_)
    · refine k_reg .free hmixP (by kernel_rfl) ?_
      refine G_q rfl (op_move (av := .exact (.int .i64 (List.length (gi y1.1 0) : Int))) rfl ?_)
      refine G_q rfl (op_geq rfl rfl ?_)
      refine G_q rfl (op_move (av := .exact (.bool (decide (62 ≤ (List.length (gi y1.1 0) : Int))))) rfl ?_)
      refine G_split (p := 62 ≤ (List.length (gi y1.1 0) : Int)) 27 rfl (fun hc => ?_) (fun hc => ?_)
      · replace h := ite_t h hc
        refine G_n rfl rfl ?_
        refine G_n rfl rfl ?_
        refine G_n rfl rfl ?_
        refine G_q rfl (op_pick_t rfl (av := .exact (.bool true)) rfl ?_)
        refine G_nil ?_
        refine kI_normal ⟨_, h, ?_⟩
        exact Sub.of_le (AF.le_put (AV.le_eq rfl) (AF.le_put (AV.le_eq rfl) (AF.le_put (AV.le_eq rfl) (AF.le_top _))))
      · replace h := ite_f h hc
        refine Gy_q rfl rfl rfl (op_move (av := .exact (.int .i64 (List.length (gi y1.1 0) : Int))) rfl ?_)
        obtain ⟨n9, h⟩ := need_some h
        refine Gy_q rfl rfl rfl (op_shl rfl rfl n9 rfl ?_)
        refine Gy_q rfl rfl rfl (op_gtr rfl rfl ?_)
        refine G_q rfl (op_pick_f rfl (av := .exact (.bool (decide (4096 < (i64 (1 * 2 ^ min (Int.toNat (List.length (gi y1.1 0) : Int)) IntKind.i64.bits)))))) rfl ?_)
        refine G_nil ?_
        refine kI_normal ⟨_, h, ?_⟩
        exact Sub.of_le (AF.le_put (AV.le_eq rfl) (AF.le_put (AV.le_eq rfl) (AF.le_put (AV.le_eq rfl) (AF.le_top _))))
    · refine k_cond_b (c := x31_j7) rfl (fun hc => ?_) (fun hc => ?_)
      · replace h := ite_t h hc
        refine k_seq ?_
        refine k_reg .free hmixP (by kernel_rfl) ?_
        refine G_q rfl (op_assign (av := .exact (.string (bs ([] : List UInt8)))) rfl ?_)
        refine G_q rfl (op_assign (av := .exact (.int .i64 9)) rfl ?_)
        refine G_nil ?_
        refine kC_normal ?_
        refine k_ret ?_
        refine kC_ret ?_
        obtain rfl := Option.some.inj h
        refine kP_any (endN (af' := (AF.put (AF.put AF0 (some 2) (.exact (.string (bs ([] : List UInt8))))) (some 3) (.exact (.int .i64 9)))) (σ' := []) _ rfl ?_ ⟨rfl, rfl⟩)
        exact Sub.of_le (AF.le_put (AV.le_eq rfl) (AF.le_put (AV.le_eq rfl) (AF.le_top _)))
      · replace h := ite_f h hc
        refine k_skip ?_
        refine kC_normal ?_
        refine k_seq ?_
        refine k_reg .free hmixP (by kernel_rfl) ?_
        refine G_q rfl (op_assign (av := .exact (.slice none 0 0)) rfl ?_)
        refine G_nil ?_
        refine kC_normal ?_
        refine k_join1_1 h (fun (x7_j10 : List (List UInt8)) (v7_j10 : Value) => (AF.put AF0 (some 7) (.exact v7_j10))) (fun (x7_j10 : List (List UInt8)) (v7_j10 : Value) => [vecT Tryz.prog 33 1 c_api_Value v7_j10 x7_j10]) (fun k10 h => ?_) (fun x7_j10 v7_j10 h => ?_)
        · refine k_seq ?_
          refine k_reg .free hmixP (by kernel_rfl) ?_
          refine G_q rfl (op_move (av := .exact (.int .i64 (List.length (gi y1.1 0) : Int))) rfl ?_)
          obtain ⟨n364, h⟩ := need_some h
          refine G_q rfl (op_shl rfl rfl n364 rfl ?_)
          refine G_q rfl (op_move (av := .exact (.int .i64 0)) rfl ?_)
          refine G_nil ?_
          refine kC_normal ?_
          refine k_block ?_
          refine k_loop2_1 (m_finset_Subsets_L14 y1 k10) (m_finset_Subsets_B14 y1 k10) (fun _ _ => rfl) (fun m _ _ => rfl) h (fun (x7_l14 : List (List UInt8)) (x34_l14 : Int) (v7_l14 : Value) => (AF.put (AF.put (AF.put (AF.put AF0 (some 4) (.row 1 c_L_api_Value y1.1)) (some 7) (.exact v7_l14)) (some 33) (.exact (.int .i64 (i64 (1 * 2 ^ min (Int.toNat (List.length (gi y1.1 0) : Int)) IntKind.i64.bits))))) (some 34) (.exact (.int .i64 x34_l14)))) (fun (x7_l14 : List (List UInt8)) (x34_l14 : Int) (v7_l14 : Value) => [vecT Tryz.prog 33 1 c_api_Value v7_l14 x7_l14]) (.slice none 0 0) ?_ (fun rec14 x7_l14 x34_l14 v7_l14 h => ?_)
          · refine Sub.trans (SubU.to (SubU.nilT (P := Tryz.prog) (t := 33) (n := 1) (enc := c_api_Value))) ?_
            exact Sub.of_le (AF.le_put (AV.le_eq rfl) (AF.le_put (AV.le_eq rfl) (AF.le_put (AV.le_eq rfl) (AF.le_put (AV.le_eq rfl) (AF.le_top _)))))
          · unfold m_finset_Subsets_B14 at h
            refine k_seq ?_
            refine k_reg .free hmixP (by kernel_rfl) ?_
            refine G_q rfl (op_lss rfl rfl ?_)
            refine G_nil ?_
            refine kC_normal ?_
            refine k_seq ?_
            refine k_cond_d (p := x34_l14 < (i64 (1 * 2 ^ min (Int.toNat (List.length (gi y1.1 0) : Int)) IntKind.i64.bits))) rfl (fun hc => ?_) (fun hc => ?_)
            · replace h := ite_t h hc
              refine k_skip ?_
              refine kC_normal ?_
              refine k_join1_1 h (fun (x7_j599 : List (List UInt8)) (v7_j599 : Value) => (AF.put (AF.put (AF.put (AF.put AF0 (some 4) (.row 1 c_L_api_Value y1.1)) (some 7) (.exact v7_j599)) (some 33) (.exact (.int .i64 (i64 (1 * 2 ^ min (Int.toNat (List.length (gi y1.1 0) : Int)) IntKind.i64.bits))))) (some 34) (.exact (.int .i64 x34_l14)))) (fun (x7_j599 : List (List UInt8)) (v7_j599 : Value) => [vecT Tryz.prog 33 1 c_api_Value v7_j599 x7_j599]) (fun k599 h => ?_) (fun x7_j599 v7_j599 h => ?_)
              · refine k_block ?_
                refine k_seq ?_
                refine k_reg .free hmixP (by kernel_rfl) ?_
                refine G_q rfl (op_move (av := .exact (.int .i64 x34_l14)) rfl ?_)
                refine G_q rfl (op_assign (av := .exact (.int .i64 x34_l14)) rfl ?_)
                refine G_nil ?_
                refine kC_normal ?_
                refine k_seq ?_
                refine k_reg .free hmixP (by kernel_rfl) ?_
                refine G_q rfl (op_assign (av := .exact (.slice none 0 0)) rfl ?_)
                refine G_nil ?_
                refine kC_normal ?_
                refine k_join1_1 h (fun (x9_j658 : List (List UInt8)) (v9_j658 : Value) => (AF.put (AF.put (AF.put (AF.put (AF.put AF0 (some 4) (.row 1 c_L_api_Value y1.1)) (some 7) (.exact v7_l14)) (some 9) (.exact v9_j658)) (some 33) (.exact (.int .i64 (i64 (1 * 2 ^ min (Int.toNat (List.length (gi y1.1 0) : Int)) IntKind.i64.bits))))) (some 34) (.exact (.int .i64 x34_l14)))) (fun (x9_j658 : List (List UInt8)) (v9_j658 : Value) => [vecT Tryz.prog 33 1 c_api_Value v7_l14 x7_l14, vecT Tryz.prog 33 1 c_api_Value v9_j658 x9_j658]) (fun k658 h => ?_) (fun x9_j658 v9_j658 h => ?_)
                · refine k_seq ?_
                  refine k_reg .free hmixP (by kernel_rfl) ?_
                  refine G_q rfl (op_move (av := .row 1 c_L_api_Value y1.1) rfl ?_)
                  obtain ⟨n686, h⟩ := need_some h
                  refine G_q rfl (op_index_row (by kernel_rfl) rfl rfl n686.1 n686.2 ?_)
                  refine G_q rfl (op_load1p (a := .row 1 c_api_Value (gi y1.1 0)) (by kernel_rfl) rfl rfl ?_)
                  refine G_q rfl (op_len_row (by kernel_rfl) rfl ?_)
                  refine G_q rfl (op_move (av := .exact (.int .i64 0)) rfl ?_)
                  refine G_nil ?_
                  refine kC_normal ?_
                  refine k_block ?_
                  refine k_loop2_1 (m_finset_Subsets_L26 y1 x34_l14 k658) (m_finset_Subsets_B26 y1 x34_l14 k658) (fun _ _ => rfl) (fun m _ _ => rfl) h (fun (x9_l26 : List (List UInt8)) (x41_l26 : Int) (v9_l26 : Value) => (AF.put (AF.put (AF.put (AF.put (AF.put (AF.put (AF.put (AF.put (AF.put AF0 (some 4) (.row 1 c_L_api_Value y1.1)) (some 7) (.exact v7_l14)) (some 8) (.exact (.int .i64 x34_l14))) (some 9) (.exact v9_l26)) (some 33) (.exact (.int .i64 (i64 (1 * 2 ^ min (Int.toNat (List.length (gi y1.1 0) : Int)) IntKind.i64.bits))))) (some 34) (.exact (.int .i64 x34_l14))) (some 39) (.row 1 c_api_Value (gi y1.1 0))) (some 40) (.exact (.int .i64 (List.length (gi y1.1 0) : Int)))) (some 41) (.exact (.int .i64 x41_l26)))) (fun (x9_l26 : List (List UInt8)) (x41_l26 : Int) (v9_l26 : Value) => [vecT Tryz.prog 33 1 c_api_Value v7_l14 x7_l14, vecT Tryz.prog 33 1 c_api_Value v9_l26 x9_l26]) (.slice none 0 0) ?_ (fun rec26 x9_l26 x41_l26 v9_l26 h => ?_)
                  · refine Sub.trans (SubU.to (SubU.nilT (P := Tryz.prog) (t := 33) (n := 1) (enc := c_api_Value))) ?_
                    refine Sub.trans (SubU.to SubU.f1) ?_
                    exact Sub.of_le (AF.le_put (AV.le_eq rfl) (AF.le_put (AV.le_eq rfl) (AF.le_put (AV.le_eq rfl) (AF.le_put (AV.le_eq rfl) (AF.le_put (AV.le_eq rfl) (AF.le_put (AV.le_eq rfl) (AF.le_put (AV.le_eq rfl) (AF.le_put (AV.le_eq rfl) (AF.le_put (AV.le_eq rfl) (AF.le_top _))))))))))
                  · unfold m_finset_Subsets_B26 at h
                    refine k_seq ?_
                    refine k_reg .free hmixP (by kernel_rfl) ?_
                    refine G_q rfl (op_lss rfl rfl ?_)
                    refine G_nil ?_
                    refine kC_normal ?_
                    refine k_seq ?_
                    refine k_cond_d (p := x41_l26 < (List.length (gi y1.1 0) : Int)) rfl (fun hc => ?_) (fun hc => ?_)
                    · replace h := ite_t h hc
                      refine k_skip ?_
                      refine kC_normal ?_
                      refine k_join1_1 h (fun (x9_j703 : List (List UInt8)) (v9_j703 : Value) => (AF.put (AF.put (AF.put (AF.put (AF.put (AF.put (AF.put (AF.put (AF.put AF0 (some 4) (.row 1 c_L_api_Value y1.1)) (some 7) (.exact v7_l14)) (some 8) (.exact (.int .i64 x34_l14))) (some 9) (.exact v9_j703)) (some 33) (.exact (.int .i64 (i64 (1 * 2 ^ min (Int.toNat (List.length (gi y1.1 0) : Int)) IntKind.i64.bits))))) (some 34) (.exact (.int .i64 x34_l14))) (some 39) (.row 1 c_api_Value (gi y1.1 0))) (some 40) (.exact (.int .i64 (List.length (gi y1.1 0) : Int)))) (some 41) (.exact (.int .i64 x41_l26)))) (fun (x9_j703 : List (List UInt8)) (v9_j703 : Value) => [vecT Tryz.prog 33 1 c_api_Value v7_l14 x7_l14, vecT Tryz.prog 33 1 c_api_Value v9_j703 x9_j703]) (fun k703 h => ?_) (fun x9_j703 v9_j703 h => ?_)
                      · refine k_block ?_
                        refine k_seq ?_
                        refine k_reg .free hmixP (by kernel_rfl) ?_
                        refine G_q rfl (op_move (av := .exact (.int .i64 x41_l26)) rfl ?_)
                        obtain ⟨n708, h⟩ := need_some h
                        refine G_q rfl (op_index_row (by kernel_rfl) rfl rfl n708.1 n708.2 ?_)
                        refine G_q rfl (op_load1p (a := .exact (.string (bs (gi (gi y1.1 0) x41_l26)))) (by kernel_rfl) rfl rfl ?_)
                        refine G_q rfl (op_assign (av := .exact (.int .i64 x41_l26)) rfl ?_)
                        refine G_q rfl (op_assign (av := .exact (.string (bs (gi (gi y1.1 0) x41_l26)))) rfl ?_)
                        refine G_nil ?_
                        refine kC_normal ?_
                        refine k_seq ?_
                        refine k_reg .free hmixP (by kernel_rfl) ?_
                        refine G_q rfl (op_move (av := .exact (.int .i64 x34_l14)) rfl ?_)
                        refine G_q rfl (op_move (av := .exact (.int .i64 x41_l26)) rfl ?_)
                        obtain ⟨n709, h⟩ := need_some h
                        refine G_q rfl (op_shr rfl rfl n709 rfl ?_)
                        refine G_q rfl (op_and rfl rfl rfl ?_)
                        refine G_q rfl (op_eql rfl rfl ?_)
                        refine G_nil ?_
                        refine kC_normal ?_
                        refine k_cond_d (p := (bAnd .i64 (Int.fdiv x34_l14 (2 ^ min (Int.toNat x41_l26) IntKind.i64.bits)) 1) = 1) rfl (fun hc => ?_) (fun hc => ?_)
                        · replace h := ite_t h hc
                          refine k_reg .free hmixP (by kernel_rfl) ?_
                          refine G_q rfl (op_move (av := .exact v9_l26) rfl ?_)
                          refine G_q rfl (op_move (av := .exact (.string (bs (gi (gi y1.1 0) x41_l26)))) rfl ?_)
                          refine G_q rfl (op_litT (n := 1) (enc := c_api_Value) [gi (gi y1.1 0) x41_l26] (CellsAll.cons rfl CellsOf.str CellsAll.nil) rfl (by kernel_rfl) (LEss.cons (LEs.cons (AV.le_eq rfl) LEs.nil) LEss.nil) ?_)
                          obtain ⟨n710, h⟩ := need_some h
                          refine G_l rfl (opB_f1 (op_appT (by kernel_rfl) rfl rfl oc_c_api_Value n710 (fun v711 => ?_)))
                          refine G_q rfl (op_assign (av := .exact v711) rfl ?_)
                          refine G_nil ?_
                          refine kB_normal ?_
                          refine kI_normal ⟨_, v711, h, ?_⟩
                          refine Sub.trans (SubU.to SubU.f1) ?_
                          exact Sub.of_le (AF.le_put (AV.le_eq rfl) (AF.le_put (AV.le_eq rfl) (AF.le_put (AV.le_eq rfl) (AF.le_put (AV.le_eq rfl) (AF.le_put (AV.le_eq rfl) (AF.le_put (AV.le_eq rfl) (AF.le_put (AV.le_eq rfl) (AF.le_put (AV.le_eq rfl) (AF.le_put (AV.le_eq rfl) (AF.le_top _))))))))))
                        · replace h := ite_f h hc
                          refine k_skip ?_
                          refine kB_normal ?_
                          refine kI_normal ⟨_, v9_l26, h, ?_⟩
                          exact Sub.of_le (AF.le_put (AV.le_eq rfl) (AF.le_put (AV.le_eq rfl) (AF.le_put (AV.le_eq rfl) (AF.le_put (AV.le_eq rfl) (AF.le_put (AV.le_eq rfl) (AF.le_put (AV.le_eq rfl) (AF.le_put (AV.le_eq rfl) (AF.le_put (AV.le_eq rfl) (AF.le_put (AV.le_eq rfl) (AF.le_top _))))))))))
                      · refine k_reg .free hmixP (by kernel_rfl) ?_
                        refine G_q rfl (op_add rfl rfl rfl ?_)
                        refine G_q rfl (op_move (av := .exact (.int .i64 (i64 (x41_l26 + 1)))) rfl ?_)
                        refine G_nil ?_
                        refine kI_normal ⟨_, _, v9_j703, h, ?_⟩
                        exact Sub.of_le (AF.le_put (AV.le_eq rfl) (AF.le_put (AV.le_eq rfl) (AF.le_put (AV.le_eq rfl) (AF.le_put (AV.le_eq rfl) (AF.le_put (AV.le_eq rfl) (AF.le_put (AV.le_eq rfl) (AF.le_put (AV.le_eq rfl) (AF.le_put (AV.le_eq rfl) (AF.le_put (AV.le_eq rfl) (AF.le_top _))))))))))
                    · replace h := ite_f h hc
                      refine k_exit ?_
                      refine kC_exit ?_
                      refine kI_exit ?_
                      refine kB_exit ?_
                      refine kI_normal ⟨_, v9_l26, h, ?_⟩
                      exact Sub.of_le (AF.le_put (AV.le_eq rfl) (AF.le_put (AV.le_eq rfl) (AF.le_put (AV.le_eq rfl) (AF.le_put (AV.le_eq rfl) (AF.le_put (AV.le_eq rfl) (AF.le_top _))))))
                · refine k_reg .free hmixP (by kernel_rfl) ?_
                  refine G_q rfl (op_move (av := .exact v7_l14) rfl ?_)
                  refine G_q rfl (op_move (av := .exact v9_j658) rfl ?_)
                  refine G_sub rfl (SubU.trans SubU.f1 (SubU.freezeT2 (s1 := 9) (s2 := 57) rfl rfl len_c_api_Value)) ?_
                  obtain ⟨y712, hy712, h⟩ := bnd1_some h
                  refine G_q rfl (op_pure (m_value_Set_ok _ _ hy712) Tryz.func67 (by kernel_rfl) (LEs.cons (AV.le_eq rfl) LEs.nil) ?_)
                  refine G_q rfl (op_litT (n := 1) (enc := c_api_Value) [y712] (CellsAll.cons rfl CellsOf.str CellsAll.nil) rfl (by kernel_rfl) (LEss.cons (LEs.cons (AV.le_eq rfl) LEs.nil) LEss.nil) ?_)
                  obtain ⟨n713, h⟩ := need_some h
                  refine G_l rfl (op_appT (by kernel_rfl) rfl rfl oc_c_api_Value n713 (fun v714 => ?_))
                  refine G_q rfl (op_assign (av := .exact v714) rfl ?_)
                  refine G_nil ?_
                  refine kB_normal ?_
                  refine kI_normal ⟨_, v714, h, ?_⟩
                  exact Sub.of_le (AF.le_put (AV.le_eq rfl) (AF.le_put (AV.le_eq rfl) (AF.le_put (AV.le_eq rfl) (AF.le_put (AV.le_eq rfl) (AF.le_top _)))))
              · refine k_reg .free hmixP (by kernel_rfl) ?_
                refine G_q rfl (op_add rfl rfl rfl ?_)
                refine G_q rfl (op_move (av := .exact (.int .i64 (i64 (x34_l14 + 1)))) rfl ?_)
                refine G_nil ?_
                refine kI_normal ⟨_, _, v7_j599, h, ?_⟩
                exact Sub.of_le (AF.le_put (AV.le_eq rfl) (AF.le_put (AV.le_eq rfl) (AF.le_put (AV.le_eq rfl) (AF.le_put (AV.le_eq rfl) (AF.le_top _)))))
            · replace h := ite_f h hc
              refine k_exit ?_
              refine kC_exit ?_
              refine kI_exit ?_
              refine kB_exit ?_
              refine kI_normal ⟨_, v7_l14, h, ?_⟩
              exact Sub.of_le (AF.le_put (AV.le_eq rfl) (AF.le_top _))
        · refine k_seq ?_
          refine k_reg .free hmixP (by kernel_rfl) ?_
          refine G_q rfl (op_move (av := .exact v7_j10) rfl ?_)
          refine G_sub rfl (SubU.freezeT2 (s1 := 7) (s2 := 62) rfl rfl len_c_api_Value) ?_
          obtain ⟨y715, hy715, h⟩ := bnd1_some h
          refine G_q rfl (op_pure (m_finset_set_ok _ _ hy715) Tryz.func65 (by kernel_rfl) (LEs.cons (AV.le_eq rfl) LEs.nil) ?_)
          refine G_q rfl (op_extract (av := .exact (.string (bs y715.1))) rfl rfl ?_)
          refine G_q rfl (op_extract (av := .exact (.int .i64 y715.2)) rfl rfl ?_)
          refine G_q rfl (op_assign (av := .exact (.string (bs y715.1))) rfl ?_)
          refine G_q rfl (op_assign (av := .exact (.int .i64 y715.2)) rfl ?_)
          refine G_nil ?_
          refine kC_normal ?_
          refine k_ret ?_
          obtain rfl := Option.some.inj h
          refine kP_any (endN (af' := (AF.put (AF.put AF0 (some 2) (.exact (.string (bs y715.1)))) (some 3) (.exact (.int .i64 y715.2)))) (σ' := []) _ rfl ?_ ⟨rfl, rfl⟩)
          exact Sub.of_le (AF.le_put (AV.le_eq rfl) (AF.le_put (AV.le_eq rfl) (AF.le_top _)))
set_option maxHeartbeats 4000000 in
theorem m_finset_sets_ok (a0 : List UInt8) (r : (List (List (List UInt8))) × Int) (h : m_finset_sets a0 = some r) : Pure Tryz.prog 68 [(.exact (.string (bs a0)))] (.tup [.row 1 c_L_api_Value r.1, .exact (.int .i64 r.2)]) := by
  unfold m_finset_sets at h
  refine Pure.ofFun (fun_of_awp Tryz.func68 rfl Tryz.ntmps68 (by simp) rfl (res2 rfl) fun E hE => k_end ?_)
  refine k_seq ?_
  refine k_reg .free hmixP (by kernel_rfl) ?_
  refine G_q rfl (op_assign (av := .exact (.slice none 0 0)) rfl ?_)
  refine G_q rfl (op_assign (av := .exact (.int .i64 0)) rfl ?_)
  refine G_nil ?_
  refine kC_normal ?_
  refine k_seq ?_
  refine k_reg .free hmixP (by kernel_rfl) ?_
  refine G_q rfl (op_move (av := .exact (.string (bs a0))) rfl ?_)
  refine G_q rfl (op_litT (n := 1) (enc := c_api_Value) [a0] (CellsAll.cons rfl CellsOf.str CellsAll.nil) rfl (by kernel_rfl) (LEss.cons (LEs.cons (AV.le_eq rfl) LEs.nil) LEss.nil) ?_)
  obtain ⟨y1, hy1, h⟩ := bnd1_some h
  refine G_q rfl (op_pure (m_finset_elements_ok _ _ hy1) Tryz.func66 (by kernel_rfl) (LEs.cons (AV.le_eq rfl) LEs.nil) ?_)
  refine G_q rfl (op_move (av := .tup [.row 1 c_L_api_Value y1.1, .exact (.int .i64 y1.2)]) rfl ?_)
  refine G_q rfl (op_extract (av := .row 1 c_L_api_Value y1.1) rfl rfl ?_)
  refine G_q rfl (op_extract (av := .exact (.int .i64 y1.2)) rfl rfl ?_)
  refine G_q rfl (op_assign (av := .row 1 c_L_api_Value y1.1) rfl ?_)
  refine G_q rfl (op_assign (av := .exact (.int .i64 y1.2)) rfl ?_)
  refine G_nil ?_
  refine kC_normal ?_
  refine k_seq ?_
  refine k_seq ?_
  refine k_reg .free hmixP (by kernel_rfl) ?_
  refine G_q rfl (op_move (av := .exact (.int .i64 y1.2)) rfl ?_)
  refine G_q rfl (op_neq rfl rfl ?_)
  refine G_nil ?_
  refine kC_normal ?_
  refine k_cond_d (p := ¬ y1.2 = 0) rfl (fun hc => ?_) (fun hc => ?_)
  · replace h := ite_t h hc
    refine k_seq ?_
    refine k_reg .free hmixP (by kernel_rfl) ?_
    refine G_q rfl (op_move (av := .exact (.int .i64 y1.2)) rfl ?_)
    refine G_q rfl (op_assign (av := .exact (.slice none 0 0)) rfl ?_)
    refine G_q rfl (op_assign (av := .exact (.int .i64 y1.2)) rfl ?_)
    refine G_nil ?_
    refine kC_normal ?_
    refine k_ret ?_
    refine kC_ret ?_
    obtain rfl := Option.some.inj h
    refine kP_any (endN (af' := (AF.put (AF.put AF0 (some 2) (.row 1 c_L_api_Value [])) (some 3) (.exact (.int .i64 y1.2)))) (σ' := []) _ rfl ?_ ⟨rfl, rfl⟩)
    exact Sub.of_le (AF.le_put (AV.le_eq rfl) (AF.le_put (row_nil (by decide)) (AF.le_top _)))
  · replace h := ite_f h hc
    refine k_skip ?_
    refine kC_normal ?_
    refine k_seq ?_
    refine k_reg .free hmixP (by kernel_rfl) ?_
    refine G_q rfl (op_move (av := .row 1 c_L_api_Value y1.1) rfl ?_)
    obtain ⟨n2, h⟩ := need_some h
    refine G_q rfl (op_index_row (by kernel_rfl) rfl rfl n2.1 n2.2 ?_)
    refine G_q rfl (op_load1p (a := .row 1 c_api_Value (gi y1.1 0)) (by kernel_rfl) rfl rfl ?_)
    obtain ⟨y3, hy3, h⟩ := bnd1_some h
    refine G_q rfl (op_pure (m_finset_elements_ok _ _ hy3) Tryz.func66 (by kernel_rfl) (LEs.cons (AV.le_eq rfl) LEs.nil) ?_)
    refine G_q rfl (op_extract (av := .row 1 c_L_api_Value y3.1) rfl rfl ?_)
    refine G_q rfl (op_extract (av := .exact (.int .i64 y3.2)) rfl rfl ?_)
    refine G_q rfl (op_assign (av := .row 1 c_L_api_Value y3.1) rfl ?_)
    refine G_q rfl (op_assign (av := .exact (.int .i64 y3.2)) rfl ?_)
    refine G_nil ?_
    refine kC_normal ?_
    refine k_ret ?_
    obtain rfl := Option.some.inj h
    refine kP_any (endN (af' := (AF.put (AF.put AF0 (some 2) (.row 1 c_L_api_Value y3.1)) (some 3) (.exact (.int .i64 y3.2)))) (σ' := []) _ rfl ?_ ⟨rfl, rfl⟩)
    exact Sub.of_le (AF.le_put (AV.le_eq rfl) (AF.le_put (AV.le_eq rfl) (AF.le_top _)))
set_option maxHeartbeats 4000000 in
theorem m_finset_merge_ok (a0 : List (List UInt8)) (a1 : List (List UInt8)) (a2 : Bool → Bool → Option Bool) (r : (List (List UInt8))) (h : m_finset_merge a0 a1 a2 = some r) : Pure Tryz.prog 69 [(.row 1 c_api_Value a0), (.row 1 c_api_Value a1), (.fn Tryz.prog (fun (i : Bool × Bool) => [.exact (.bool i.1), .exact (.bool i.2)]) (fun (i : Bool × Bool) => a2 i.1 i.2) (fun (r : Bool) => .exact (.bool r)))] (.row 1 c_api_Value r) := by
  unfold m_finset_merge at h
  refine Pure.ofFun (fun_of_awp Tryz.func69 rfl Tryz.ntmps69 (by simp) rfl (res1 rfl) fun E hE => k_end ?_)
  refine k_seq ?_
  refine k_reg .free hmixP (by kernel_rfl) ?_
  refine G_q rfl (op_assign (av := .exact (.slice none 0 0)) rfl ?_)
  refine G_nil ?_
  refine kC_normal ?_
  refine k_seq ?_
  refine k_reg .free hmixP (by kernel_rfl) ?_
  refine G_q rfl (op_assign (av := .exact (.slice none 0 0)) rfl ?_)
  refine G_nil ?_
  refine kC_normal ?_
  refine k_join1_1 h (fun (x7_j1 : List (List UInt8)) (v7_j1 : Value) => (AF.put AF0 (some 7) (.exact v7_j1))) (fun (x7_j1 : List (List UInt8)) (v7_j1 : Value) => [vecT Tryz.prog 33 1 c_api_Value v7_j1 x7_j1]) (fun k1 h => ?_) (fun x7_j1 v7_j1 h => ?_)
  · refine k_seq ?_
    refine k_reg .free hmixP (by kernel_rfl) ?_
    refine G_q rfl (op_assign (av := .exact (.int .i64 0)) rfl ?_)
    refine G_q rfl (op_assign (av := .exact (.int .i64 0)) rfl ?_)
    refine G_nil ?_
    refine kC_normal ?_
    refine k_block ?_
    refine k_loop3_1 (m_finset_merge_L2 a0 a1 a2 k1) (m_finset_merge_B2 a0 a1 a2 k1) (fun _ _ _ => rfl) (fun m _ _ _ => rfl) h (fun (x7_l2 : List (List UInt8)) (x8_l2 : Int) (x9_l2 : Int) (v7_l2 : Value) => (AF.put (AF.put (AF.put (AF.put (AF.put (AF.put AF0 (some 0) (.row 1 c_api_Value a0)) (some 1) (.row 1 c_api_Value a1)) (some 2) (.fn Tryz.prog (fun (i : Bool × Bool) => [.exact (.bool i.1), .exact (.bool i.2)]) (fun (i : Bool × Bool) => a2 i.1 i.2) (fun (r : Bool) => .exact (.bool r)))) (some 7) (.exact v7_l2)) (some 8) (.exact (.int .i64 x8_l2))) (some 9) (.exact (.int .i64 x9_l2)))) (fun (x7_l2 : List (List UInt8)) (x8_l2 : Int) (x9_l2 : Int) (v7_l2 : Value) => [vecT Tryz.prog 33 1 c_api_Value v7_l2 x7_l2]) (.slice none 0 0) ?_ (fun rec2 x7_l2 x8_l2 x9_l2 v7_l2 h => ?_)
    · refine Sub.trans (SubU.to (SubU.nilT (P := Tryz.prog) (t := 33) (n := 1) (enc := c_api_Value))) ?_
      exact Sub.of_le (AF.le_put (AV.le_eq rfl) (AF.le_put (AV.le_eq rfl) (AF.le_put (AV.le_eq rfl) (AF.le_put (AV.le_eq rfl) (AF.le_put (AV.le_eq rfl) (AF.le_put (AV.le_eq rfl) (AF.le_top _)))))))
    · unfold m_finset_merge_B2 at h
      refine k_seq ?_
      refine k_join1_0 h (fun (x21_j100 : Bool) => (AF.put (AF.put (AF.put (AF.put (AF.put (AF.put (AF.put AF0 (some 0) (.row 1 c_api_Value a0)) (some 1) (.row 1 c_api_Value a1)) (some 2) (.fn Tryz.prog (fun (i : Bool × Bool) => [.exact (.bool i.1), .exact (.bool i.2)]) (fun (i : Bool × Bool) => a2 i.1 i.2) (fun (r : Bool) => .exact (.bool r)))) (some 7) (.exact v7_l2)) (some 8) (.exact (.int .i64 x8_l2))) (some 9) (.exact (.int .i64 x9_l2))) (some 21) (.exact (.bool x21_j100)))) (fun (x21_j100 : Bool) => [vecT Tryz.prog 33 1 c_api_Value v7_l2 x7_l2]) (fun k100 h => ?_) (fun x21_j100 h => ?_)
      · refine k_reg .free hmixP (by kernel_rfl) ?_
        refine G_q rfl (op_move (av := .exact (.int .i64 x8_l2)) rfl ?_)
        refine G_q rfl (op_move (av := .row 1 c_api_Value a0) rfl ?_)
        refine G_q rfl (op_len_row (by kernel_rfl) rfl ?_)
        refine G_q rfl (op_lss rfl rfl ?_)
        refine G_q rfl (op_move (av := .exact (.bool (decide (x8_l2 < (List.length a0 : Int))))) rfl ?_)
        refine G_split (p := x8_l2 < (List.length a0 : Int)) 16 rfl (fun hc => ?_) (fun hc => ?_)
        · replace h := ite_t h hc
          refine G_n rfl rfl ?_
          refine G_n rfl rfl ?_
          refine G_n rfl rfl ?_
          refine G_n rfl rfl ?_
          refine G_q rfl (op_pick_t rfl (av := .exact (.bool true)) rfl ?_)
          refine G_nil ?_
          refine kI_normal ⟨_, h, ?_⟩
          exact Sub.of_le (AF.le_put (AV.le_eq rfl) (AF.le_put (AV.le_eq rfl) (AF.le_put (AV.le_eq rfl) (AF.le_put (AV.le_eq rfl) (AF.le_put (AV.le_eq rfl) (AF.le_put (AV.le_eq rfl) (AF.le_put (AV.le_eq rfl) (AF.le_top _))))))))
        · replace h := ite_f h hc
          refine Gy_q rfl rfl rfl (op_move (av := .exact (.int .i64 x9_l2)) rfl ?_)
          refine Gy_q rfl rfl rfl (op_move (av := .row 1 c_api_Value a1) rfl ?_)
          refine Gy_q rfl rfl rfl (op_len_row (by kernel_rfl) rfl ?_)
          refine Gy_q rfl rfl rfl (op_lss rfl rfl ?_)
          refine G_q rfl (op_pick_f rfl (av := .exact (.bool (decide (x9_l2 < (List.length a1 : Int))))) rfl ?_)
          refine G_nil ?_
          refine kI_normal ⟨_, h, ?_⟩
          exact Sub.of_le (AF.le_put (AV.le_eq rfl) (AF.le_put (AV.le_eq rfl) (AF.le_put (AV.le_eq rfl) (AF.le_put (AV.le_eq rfl) (AF.le_put (AV.le_eq rfl) (AF.le_put (AV.le_eq rfl) (AF.le_put (AV.le_eq rfl) (AF.le_top _))))))))
      · refine k_cond_b (c := x21_j100) rfl (fun hc => ?_) (fun hc => ?_)
        · replace h := ite_t h hc
          refine k_skip ?_
          refine kC_normal ?_
          refine k_block ?_
          refine k_seq ?_
          refine k_reg .free hmixP (by kernel_rfl) ?_
          refine G_q rfl (op_assign (av := .exact (.int .i64 0)) rfl ?_)
          refine G_nil ?_
          refine kC_normal ?_
          refine k_join1_0 h (fun (x10_j101 : Int) => (AF.put (AF.put (AF.put (AF.put (AF.put (AF.put (AF.put AF0 (some 0) (.row 1 c_api_Value a0)) (some 1) (.row 1 c_api_Value a1)) (some 2) (.fn Tryz.prog (fun (i : Bool × Bool) => [.exact (.bool i.1), .exact (.bool i.2)]) (fun (i : Bool × Bool) => a2 i.1 i.2) (fun (r : Bool) => .exact (.bool r)))) (some 7) (.exact v7_l2)) (some 8) (.exact (.int .i64 x8_l2))) (some 9) (.exact (.int .i64 x9_l2))) (some 10) (.exact (.int .i64 x10_j101)))) (fun (x10_j101 : Int) => [vecT Tryz.prog 33 1 c_api_Value v7_l2 x7_l2]) (fun k101 h => ?_) (fun x10_j101 h => ?_)
          · refine k_block ?_
            refine k_seq ?_
            refine k_reg .free hmixP (by kernel_rfl) ?_
            refine G_q rfl (op_move (av := .exact (.int .i64 x8_l2)) rfl ?_)
            refine G_q rfl (op_move (av := .row 1 c_api_Value a0) rfl ?_)
            refine G_q rfl (op_len_row (by kernel_rfl) rfl ?_)
            refine G_q rfl (op_eql rfl rfl ?_)
            refine G_q rfl (op_assign (av := .exact (.bool (decide (x8_l2 = (List.length a0 : Int))))) rfl ?_)
            refine G_nil ?_
            refine kC_normal ?_
            refine k_cond_d (p := x8_l2 = (List.length a0 : Int)) rfl (fun hc => ?_) (fun hc => ?_)
            · replace h := ite_t h hc
              refine k_reg .free hmixP (by kernel_rfl) ?_
              refine G_q rfl (op_assign (av := .exact (.int .i64 1)) rfl ?_)
              refine G_nil ?_
              refine kB_normal ?_
              refine kI_normal ⟨_, h, ?_⟩
              exact Sub.of_le (AF.le_put (AV.le_eq rfl) (AF.le_put (AV.le_eq rfl) (AF.le_put (AV.le_eq rfl) (AF.le_put (AV.le_eq rfl) (AF.le_put (AV.le_eq rfl) (AF.le_put (AV.le_eq rfl) (AF.le_put (AV.le_eq rfl) (AF.le_top _))))))))
            · replace h := ite_f h hc
              refine k_seq ?_
              refine k_reg .free hmixP (by kernel_rfl) ?_
              refine G_q rfl (op_move (av := .exact (.int .i64 x9_l2)) rfl ?_)
              refine G_q rfl (op_move (av := .row 1 c_api_Value a1) rfl ?_)
              refine G_q rfl (op_len_row (by kernel_rfl) rfl ?_)
              refine G_q rfl (op_eql rfl rfl ?_)
              refine G_q rfl (op_assign (av := .exact (.bool (decide (x9_l2 = (List.length a1 : Int))))) rfl ?_)
              refine G_nil ?_
              refine kC_normal ?_
              refine k_cond_d (p := x9_l2 = (List.length a1 : Int)) rfl (fun hc => ?_) (fun hc => ?_)
              · replace h := ite_t h hc
                refine k_reg .free hmixP (by kernel_rfl) ?_
                refine G_q rfl (op_assign (av := .exact (.int .i64 (-1))) rfl ?_)
                refine G_nil ?_
                refine kB_normal ?_
                refine kI_normal ⟨_, h, ?_⟩
                exact Sub.of_le (AF.le_put (AV.le_eq rfl) (AF.le_put (AV.le_eq rfl) (AF.le_put (AV.le_eq rfl) (AF.le_put (AV.le_eq rfl) (AF.le_put (AV.le_eq rfl) (AF.le_put (AV.le_eq rfl) (AF.le_put (AV.le_eq rfl) (AF.le_top _))))))))
              · replace h := ite_f h hc
                refine k_plan [] [(0, 0), (0, 1), (0, 2), (0, 3), (0, 4), (0, 5), (0, 6), (0, 7), (0, 8), (0, 9)] hmixP (by kernel_rfl) ?_
                refine P_q no34_0 rfl (op_move (av := .row 1 c_api_Value a0) rfl ?_)
                refine P_q no34_0 rfl (op_move (av := .exact (.int .i64 x8_l2)) rfl ?_)
                obtain ⟨n105, h⟩ := need_some h
                refine P_q no34_0 rfl (op_index_row (by kernel_rfl) rfl rfl n105.1 n105.2 ?_)
                refine P_q no34_0 rfl (op_load1p (a := .exact (.string (bs (gi a0 x8_l2)))) (by kernel_rfl) rfl rfl ?_)
                refine P_q no34_0 rfl (op_move (av := .row 1 c_api_Value a1) rfl ?_)
                refine P_q no34_0 rfl (op_move (av := .exact (.int .i64 x9_l2)) rfl ?_)
                obtain ⟨n106, h⟩ := need_some h
                refine P_q no34_0 rfl (op_index_row (by kernel_rfl) rfl rfl n106.1 n106.2 ?_)
                refine P_q no34_0 rfl (op_load1p (a := .exact (.string (bs (gi a1 x9_l2)))) (by kernel_rfl) rfl rfl ?_)
                obtain ⟨y107, hy107, h⟩ := bnd1_some h
                refine P_q no34_0 rfl (op_pure (m_value_Compare_ok _ _ _ hy107) Tryz.func88 (by kernel_rfl) (LEs.cons (AV.le_eq rfl) (LEs.cons (AV.le_eq rfl) LEs.nil)) ?_)
                refine P_q no34_0 rfl (op_assign (av := .exact (.int .i64 y107)) rfl ?_)
                refine P_nil ?_
                refine kB_normal ?_
                refine kI_normal ⟨_, h, ?_⟩
                exact Sub.of_le (AF.le_put (AV.le_eq rfl) (AF.le_put (AV.le_eq rfl) (AF.le_put (AV.le_eq rfl) (AF.le_put (AV.le_eq rfl) (AF.le_put (AV.le_eq rfl) (AF.le_put (AV.le_eq rfl) (AF.le_put (AV.le_eq rfl) (AF.le_top _))))))))
          · refine k_seq ?_
            refine k_reg .free hmixP (by kernel_rfl) ?_
            refine G_q rfl (op_assign (av := .exact (.string (bs ([] : List UInt8)))) rfl ?_)
            refine G_nil ?_
            refine kC_normal ?_
            refine k_join2_0 h (fun (x8_j108 : Int) (x11_j108 : List UInt8) => (AF.put (AF.put (AF.put (AF.put (AF.put (AF.put (AF.put (AF.put AF0 (some 0) (.row 1 c_api_Value a0)) (some 1) (.row 1 c_api_Value a1)) (some 2) (.fn Tryz.prog (fun (i : Bool × Bool) => [.exact (.bool i.1), .exact (.bool i.2)]) (fun (i : Bool × Bool) => a2 i.1 i.2) (fun (r : Bool) => .exact (.bool r)))) (some 7) (.exact v7_l2)) (some 8) (.exact (.int .i64 x8_j108))) (some 9) (.exact (.int .i64 x9_l2))) (some 10) (.exact (.int .i64 x10_j101))) (some 11) (.exact (.string (bs x11_j108))))) (fun (x8_j108 : Int) (x11_j108 : List UInt8) => [vecT Tryz.prog 33 1 c_api_Value v7_l2 x7_l2]) (fun k108 h => ?_) (fun x8_j108 x11_j108 h => ?_)
            · refine k_seq ?_
              refine k_reg .free hmixP (by kernel_rfl) ?_
              refine G_q rfl (op_move (av := .exact (.int .i64 x10_j101)) rfl ?_)
              refine G_q rfl (op_leq rfl rfl ?_)
              refine G_nil ?_
              refine kC_normal ?_
              refine k_cond_d (p := x10_j101 ≤ 0) rfl (fun hc => ?_) (fun hc => ?_)
              · replace h := ite_t h hc
                refine k_seq ?_
                refine k_reg .free hmixP (by kernel_rfl) ?_
                refine G_q rfl (op_move (av := .row 1 c_api_Value a0) rfl ?_)
                refine G_q rfl (op_move (av := .exact (.int .i64 x8_l2)) rfl ?_)
                obtain ⟨n110, h⟩ := need_some h
                refine G_q rfl (op_index_row (by kernel_rfl) rfl rfl n110.1 n110.2 ?_)
                refine G_q rfl (op_load1p (a := .exact (.string (bs (gi a0 x8_l2)))) (by kernel_rfl) rfl rfl ?_)
                refine G_q rfl (op_assign (av := .exact (.string (bs (gi a0 x8_l2)))) rfl ?_)
                refine G_nil ?_
                refine kC_normal ?_
                refine k_reg .free hmixP (by kernel_rfl) ?_
                refine G_q rfl (op_move (av := .exact (.int .i64 x8_l2)) rfl ?_)
                refine G_q rfl (op_add rfl rfl rfl ?_)
                refine G_q rfl (op_assign (av := .exact (.int .i64 (i64 (x8_l2 + 1)))) rfl ?_)
                refine G_nil ?_
                refine kI_normal ⟨_, _, h, ?_⟩
                exact Sub.of_le (AF.le_put (AV.le_eq rfl) (AF.le_put (AV.le_eq rfl) (AF.le_put (AV.le_eq rfl) (AF.le_put (AV.le_eq rfl) (AF.le_put (AV.le_eq rfl) (AF.le_put (AV.le_eq rfl) (AF.le_put (AV.le_eq rfl) (AF.le_put (AV.le_eq rfl) (AF.le_top _)))))))))
              · replace h := ite_f h hc
                refine k_skip ?_
                refine kI_normal ⟨_, _, h, ?_⟩
                exact Sub.of_le (AF.le_put (AV.le_eq rfl) (AF.le_put (AV.le_eq rfl) (AF.le_put (AV.le_eq rfl) (AF.le_put (AV.le_eq rfl) (AF.le_put (AV.le_eq rfl) (AF.le_put (AV.le_eq rfl) (AF.le_put (AV.le_eq rfl) (AF.le_put (AV.le_eq rfl) (AF.le_top _)))))))))
            · refine k_join2_0 h (fun (x9_j111 : Int) (x11_j111 : List UInt8) => (AF.put (AF.put (AF.put (AF.put (AF.put (AF.put (AF.put (AF.put AF0 (some 0) (.row 1 c_api_Value a0)) (some 1) (.row 1 c_api_Value a1)) (some 2) (.fn Tryz.prog (fun (i : Bool × Bool) => [.exact (.bool i.1), .exact (.bool i.2)]) (fun (i : Bool × Bool) => a2 i.1 i.2) (fun (r : Bool) => .exact (.bool r)))) (some 7) (.exact v7_l2)) (some 8) (.exact (.int .i64 x8_j108))) (some 9) (.exact (.int .i64 x9_j111))) (some 10) (.exact (.int .i64 x10_j101))) (some 11) (.exact (.string (bs x11_j111))))) (fun (x9_j111 : Int) (x11_j111 : List UInt8) => [vecT Tryz.prog 33 1 c_api_Value v7_l2 x7_l2]) (fun k111 h => ?_) (fun x9_j111 x11_j111 h => ?_)
              · refine k_seq ?_
                refine k_reg .free hmixP (by kernel_rfl) ?_
                refine G_q rfl (op_move (av := .exact (.int .i64 x10_j101)) rfl ?_)
                refine G_q rfl (op_geq rfl rfl ?_)
                refine G_nil ?_
                refine kC_normal ?_
                refine k_cond_d (p := 0 ≤ x10_j101) rfl (fun hc => ?_) (fun hc => ?_)
                · replace h := ite_t h hc
                  refine k_seq ?_
                  refine k_reg .free hmixP (by kernel_rfl) ?_
                  refine G_q rfl (op_move (av := .row 1 c_api_Value a1) rfl ?_)
                  refine G_q rfl (op_move (av := .exact (.int .i64 x9_l2)) rfl ?_)
                  obtain ⟨n113, h⟩ := need_some h
                  refine G_q rfl (op_index_row (by kernel_rfl) rfl rfl n113.1 n113.2 ?_)
                  refine G_q rfl (op_load1p (a := .exact (.string (bs (gi a1 x9_l2)))) (by kernel_rfl) rfl rfl ?_)
                  refine G_q rfl (op_assign (av := .exact (.string (bs (gi a1 x9_l2)))) rfl ?_)
                  refine G_nil ?_
                  refine kC_normal ?_
                  refine k_reg .free hmixP (by kernel_rfl) ?_
                  refine G_q rfl (op_move (av := .exact (.int .i64 x9_l2)) rfl ?_)
                  refine G_q rfl (op_add rfl rfl rfl ?_)
                  refine G_q rfl (op_assign (av := .exact (.int .i64 (i64 (x9_l2 + 1)))) rfl ?_)
                  refine G_nil ?_
                  refine kI_normal ⟨_, _, h, ?_⟩
                  exact Sub.of_le (AF.le_put (AV.le_eq rfl) (AF.le_put (AV.le_eq rfl) (AF.le_put (AV.le_eq rfl) (AF.le_put (AV.le_eq rfl) (AF.le_put (AV.le_eq rfl) (AF.le_put (AV.le_eq rfl) (AF.le_put (AV.le_eq rfl) (AF.le_put (AV.le_eq rfl) (AF.le_top _)))))))))
                · replace h := ite_f h hc
                  refine k_skip ?_
                  refine kI_normal ⟨_, _, h, ?_⟩
                  exact Sub.of_le (AF.le_put (AV.le_eq rfl) (AF.le_put (AV.le_eq rfl) (AF.le_put (AV.le_eq rfl) (AF.le_put (AV.le_eq rfl) (AF.le_put (AV.le_eq rfl) (AF.le_put (AV.le_eq rfl) (AF.le_put (AV.le_eq rfl) (AF.le_put (AV.le_eq rfl) (AF.le_top _)))))))))
              · refine k_seq ?_
                refine k_reg .free hmixP (by kernel_rfl) ?_
                refine G_q rfl (op_move (av := .fn Tryz.prog (fun (i : Bool × Bool) => [.exact (.bool i.1), .exact (.bool i.2)]) (fun (i : Bool × Bool) => a2 i.1 i.2) (fun (r : Bool) => .exact (.bool r))) rfl ?_)
                refine G_q rfl (op_move (av := .exact (.int .i64 x10_j101)) rfl ?_)
                refine G_q rfl (op_leq rfl rfl ?_)
                refine G_q rfl (op_move (av := .exact (.int .i64 x10_j101)) rfl ?_)
                refine G_q rfl (op_geq rfl rfl ?_)
                obtain ⟨y114, hy114, h⟩ := bnd1_some h
                refine G_q rfl (op_callfn (decide (x10_j101 ≤ 0), decide (0 ≤ x10_j101)) rfl hy114 (LEs.cons (AV.le_eq rfl) (LEs.cons (AV.le_eq rfl) LEs.nil)) ?_)
                refine G_nil ?_
                refine kC_normal ?_
                refine k_cond_b (c := y114) rfl (fun hc => ?_) (fun hc => ?_)
                · replace h := ite_t h hc
                  refine k_reg .free hmixP (by kernel_rfl) ?_
                  refine G_q rfl (op_move (av := .exact v7_l2) rfl ?_)
                  refine G_q rfl (op_move (av := .exact (.string (bs x11_j111))) rfl ?_)
                  refine G_q rfl (op_litT (n := 1) (enc := c_api_Value) [x11_j111] (CellsAll.cons rfl CellsOf.str CellsAll.nil) rfl (by kernel_rfl) (LEss.cons (LEs.cons (AV.le_eq rfl) LEs.nil) LEss.nil) ?_)
                  obtain ⟨n115, h⟩ := need_some h
                  refine G_l rfl (op_appT (by kernel_rfl) rfl rfl oc_c_api_Value n115 (fun v116 => ?_))
                  refine G_q rfl (op_assign (av := .exact v116) rfl ?_)
                  refine G_nil ?_
                  refine kB_normal ?_
                  refine kI_normal ⟨_, _, _, v116, h, ?_⟩
                  exact Sub.of_le (AF.le_put (AV.le_eq rfl) (AF.le_put (AV.le_eq rfl) (AF.le_put (AV.le_eq rfl) (AF.le_put (AV.le_eq rfl) (AF.le_put (AV.le_eq rfl) (AF.le_put (AV.le_eq rfl) (AF.le_top _)))))))
                · replace h := ite_f h hc
                  refine k_skip ?_
                  refine kB_normal ?_
                  refine kI_normal ⟨_, _, _, v7_l2, h, ?_⟩
                  exact Sub.of_le (AF.le_put (AV.le_eq rfl) (AF.le_put (AV.le_eq rfl) (AF.le_put (AV.le_eq rfl) (AF.le_put (AV.le_eq rfl) (AF.le_put (AV.le_eq rfl) (AF.le_put (AV.le_eq rfl) (AF.le_top _)))))))
        · replace h := ite_f h hc
          refine k_exit ?_
          refine kC_exit ?_
          refine kI_exit ?_
          refine kB_exit ?_
          refine kI_normal ⟨_, v7_l2, h, ?_⟩
          exact Sub.of_le (AF.le_put (AV.le_eq rfl) (AF.le_top _))
  · refine k_seq ?_
    refine k_reg .free hmixP (by kernel_rfl) ?_
    refine G_q rfl (op_move (av := .exact v7_j1) rfl ?_)
    refine G_q rfl (op_assign (av := .exact v7_j1) rfl ?_)
    refine G_nil ?_
    refine kC_normal ?_
    refine k_ret ?_
    obtain rfl := Option.some.inj h
    refine kP_any (endN (af' := (AF.put AF0 (some 6) (.row 1 c_api_Value x7_j1))) (σ' := []) _ rfl ?_ ⟨rfl, rfl⟩)
    refine Sub.trans (SubU.to (SubU.freezeT (s := 6) rfl len_c_api_Value)) ?_
    exact Sub.of_le (AF.le_put (AV.le_eq rfl) (AF.le_top _))
set_option maxHeartbeats 4000000 in
theorem m_finset_common_ok (a0 : Bool) (a1 : Bool) (r : Bool) (h : m_finset_common a0 a1 = some r) : Pure Tryz.prog 70 [(.exact (.bool a0)), (.exact (.bool a1))] (.exact (.bool r)) := by
  unfold m_finset_common at h
  refine Pure.ofFun (fun_of_awp Tryz.func70 rfl Tryz.ntmps70 (by simp) rfl (res1 rfl) fun E hE => k_end ?_)
  refine k_seq ?_
  refine k_reg .free hmixP (by kernel_rfl) ?_
  refine G_q rfl (op_assign (av := .exact (.bool false)) rfl ?_)
  refine G_nil ?_
  refine kC_normal ?_
  refine k_join1_0 h (fun (x4_j1 : Bool) => (AF.put AF0 (some 4) (.exact (.bool x4_j1)))) (fun (x4_j1 : Bool) => []) (fun k1 h => ?_) (fun x4_j1 h => ?_)
  · refine k_reg .free hmixP (by kernel_rfl) ?_
    refine G_q rfl (op_move (av := .exact (.bool a0)) rfl ?_)
    refine G_q rfl (op_move (av := .exact (.bool a0)) rfl ?_)
    refine G_splitB (c := a0) 6 rfl (fun hc => ?_) (fun hc => ?_)
    · replace h := ite_t h hc
      refine Gy_q rfl rfl rfl (op_move (av := .exact (.bool a1)) rfl ?_)
      refine G_q rfl (op_pick_t rfl (av := .exact (.bool a1)) rfl ?_)
      refine G_q rfl (op_assign (av := .exact (.bool a1)) rfl ?_)
      refine G_nil ?_
      refine kI_normal ⟨_, h, ?_⟩
      exact Sub.of_le (AF.le_put (AV.le_eq rfl) (AF.le_top _))
    · replace h := ite_f h hc
      refine G_n rfl rfl ?_
      refine G_q rfl (op_pick_f rfl (av := .exact (.bool false)) rfl ?_)
      refine G_q rfl (op_assign (av := .exact (.bool false)) rfl ?_)
      refine G_nil ?_
      refine kI_normal ⟨_, h, ?_⟩
      exact Sub.of_le (AF.le_put (AV.le_eq rfl) (AF.le_top _))
  · refine k_ret ?_
    obtain rfl := Option.some.inj h
    refine kP_any (endN (af' := (AF.put AF0 (some 4) (.exact (.bool x4_j1)))) (σ' := []) _ rfl ?_ ⟨rfl, rfl⟩)
    exact Sub.of_le (AF.le_put (AV.le_eq rfl) (AF.le_top _))
set_option maxHeartbeats 4000000 in
theorem m_finset_BigInter_ok (a0 : List UInt8) (r : (List UInt8) × Int) (h : m_finset_BigInter a0 = some r) : Pure Tryz.prog 27 [(.exact (.string (bs a0)))] (.tup [.exact (.string (bs r.1)), .exact (.int .i64 r.2)]) := by
  unfold m_finset_BigInter at h
  refine Pure.ofFun (fun_of_awp Tryz.func27 rfl Tryz.ntmps27 (by simp) rfl (res2 rfl) fun E hE => k_end ?_)
  refine k_seq ?_
  refine k_reg .free hmixP (by kernel_rfl) ?_
  refine G_q rfl (op_assign (av := .exact (.string (bs ([] : List UInt8)))) rfl ?_)
  refine G_q rfl (op_assign (av := .exact (.int .i64 0)) rfl ?_)
  refine G_nil ?_
  refine kC_normal ?_
  refine k_seq ?_
  refine k_reg .free hmixP (by kernel_rfl) ?_
  refine G_q rfl (op_move (av := .exact (.string (bs a0))) rfl ?_)
  obtain ⟨y1, hy1, h⟩ := bnd1_some h
  refine G_q rfl (op_pure (m_finset_sets_ok _ _ hy1) Tryz.func68 (by kernel_rfl) (LEs.cons (AV.le_eq rfl) LEs.nil) ?_)
  refine G_q rfl (op_move (av := .tup [.row 1 c_L_api_Value y1.1, .exact (.int .i64 y1.2)]) rfl ?_)
  refine G_q rfl (op_extract (av := .row 1 c_L_api_Value y1.1) rfl rfl ?_)
  refine G_q rfl (op_extract (av := .exact (.int .i64 y1.2)) rfl rfl ?_)
  refine G_q rfl (op_assign (av := .row 1 c_L_api_Value y1.1) rfl ?_)
  refine G_q rfl (op_assign (av := .exact (.int .i64 y1.2)) rfl ?_)
  refine G_nil ?_
  refine kC_normal ?_
  refine k_seq ?_
  refine k_block ?_
  refine k_seq ?_
  refine k_reg .free hmixP (by kernel_rfl) ?_
  refine G_q rfl (op_move (av := .exact (.int .i64 y1.2)) rfl ?_)
  refine G_q rfl (op_neq rfl rfl ?_)
  refine G_q rfl (op_assign (av := .exact (.bool (decide (¬ y1.2 = 0)))) rfl ?_)
  refine G_nil ?_
  refine kC_normal ?_
  refine k_cond_d (p := ¬ y1.2 = 0) rfl (fun hc => ?_) (fun hc => ?_)
  · replace h := ite_t h hc
    refine k_seq ?_
    refine k_reg .free hmixP (by kernel_rfl) ?_
    refine G_q rfl (op_move (av := .exact (.int .i64 y1.2)) rfl ?_)
    refine G_q rfl (op_assign (av := .exact (.string (bs ([] : List UInt8)))) rfl ?_)
    refine G_q rfl (op_assign (av := .exact (.int .i64 y1.2)) rfl ?_)
    refine G_nil ?_
    refine kC_normal ?_
    refine k_ret ?_
    refine kB_ret ?_
    refine kC_ret ?_
    obtain rfl := Option.some.inj h
    refine kP_any (endN (af' := (AF.put (AF.put AF0 (some 2) (.exact (.string (bs ([] : List UInt8))))) (some 3) (.exact (.int .i64 y1.2)))) (σ' := []) _ rfl ?_ ⟨rfl, rfl⟩)
    exact Sub.of_le (AF.le_put (AV.le_eq rfl) (AF.le_put (AV.le_eq rfl) (AF.le_top _)))
  · replace h := ite_f h hc
    refine k_seq ?_
    refine k_reg .free hmixP (by kernel_rfl) ?_
    refine G_q rfl (op_move (av := .row 1 c_L_api_Value y1.1) rfl ?_)
    refine G_q rfl (op_len_row (by kernel_rfl) rfl ?_)
    refine G_q rfl (op_eql rfl rfl ?_)
    refine G_q rfl (op_assign (av := .exact (.bool (decide ((List.length y1.1 : Int) = 0)))) rfl ?_)
    refine G_nil ?_
    refine kC_normal ?_
    refine k_cond_d (p := (List.length y1.1 : Int) = 0) rfl (fun hc => ?_) (fun hc => ?_)
    · replace h := ite_t h hc
      refine k_seq ?_
      refine k_reg .free hmixP (by kernel_rfl) ?_
      refine G_q rfl (op_assign (av := .exact (.string (bs ([] : List UInt8)))) rfl ?_)
      refine G_q rfl (op_assign (av := .exact (.int .i64 12)) rfl ?_)
      refine G_nil ?_
      refine kC_normal ?_
      refine k_ret ?_
      refine kB_ret ?_
      refine kC_ret ?_
      obtain rfl := Option.some.inj h
      refine kP_any (endN (af' := (AF.put (AF.put AF0 (some 2) (.exact (.string (bs ([] : List UInt8))))) (some 3) (.exact (.int .i64 12)))) (σ' := []) _ rfl ?_ ⟨rfl, rfl⟩)
      exact Sub.of_le (AF.le_put (AV.le_eq rfl) (AF.le_put (AV.le_eq rfl) (AF.le_top _)))
    · replace h := ite_f h hc
      refine k_skip ?_
      refine kB_normal ?_
      refine kC_normal ?_
      refine k_seq ?_
      refine k_reg .free hmixP (by kernel_rfl) ?_
      refine G_q rfl (op_move (av := .row 1 c_L_api_Value y1.1) rfl ?_)
      obtain ⟨n2, h⟩ := need_some h
      refine G_q rfl (op_index_row (by kernel_rfl) rfl rfl n2.1 n2.2 ?_)
      refine G_q rfl (op_load1p (a := .row 1 c_api_Value (gi y1.1 0)) (by kernel_rfl) rfl rfl ?_)
      refine G_q rfl (op_assign (av := .row 1 c_api_Value (gi y1.1 0)) rfl ?_)
      refine G_nil ?_
      refine kC_normal ?_
      refine k_join1_0 h (fun (x6_j3 : List (List UInt8)) => (AF.put AF0 (some 6) (.row 1 c_api_Value x6_j3))) (fun (x6_j3 : List (List UInt8)) => []) (fun k3 h => ?_) (fun x6_j3 h => ?_)
      · refine k_seq ?_
        refine k_reg .free hmixP (by kernel_rfl) ?_
        refine G_q rfl (op_move (av := .row 1 c_L_api_Value y1.1) rfl ?_)
        obtain ⟨n12, h⟩ := need_some h
        refine G_q rfl (op_slice_rowd (by kernel_rfl) rfl (bnd_some rfl) bnd_none (by decide) n12 (Int.le_refl _) ?_)
        refine G_q rfl (op_len_row (by kernel_rfl) rfl ?_)
        refine G_q rfl (op_move (av := .exact (.int .i64 0)) rfl ?_)
        refine G_nil ?_
        refine kC_normal ?_
        refine k_block ?_
        refine k_loop2_0 (m_finset_BigInter_L2 y1 k3) (m_finset_BigInter_B2 y1 k3) (fun _ _ => rfl) (fun m _ _ => rfl) h (fun (x6_l2 : List (List UInt8)) (x28_l2 : Int) => (AF.put (AF.put (AF.put (AF.put AF0 (some 6) (.row 1 c_api_Value x6_l2)) (some 26) (.row 1 c_L_api_Value (List.drop (Int.toNat 1) y1.1))) (some 27) (.exact (.int .i64 (List.length (List.drop (Int.toNat 1) y1.1) : Int)))) (some 28) (.exact (.int .i64 x28_l2)))) (fun (x6_l2 : List (List UInt8)) (x28_l2 : Int) => []) ?_ (fun rec2 x6_l2 x28_l2 h => ?_)
        · exact Sub.of_le (AF.le_put (AV.le_eq rfl) (AF.le_put (AV.le_eq rfl) (AF.le_put (AV.le_eq rfl) (AF.le_put (AV.le_eq rfl) (AF.le_top _)))))
        · unfold m_finset_BigInter_B2 at h
          refine k_seq ?_
          refine k_reg .free hmixP (by kernel_rfl) ?_
          refine G_q rfl (op_lss rfl rfl ?_)
          refine G_nil ?_
          refine kC_normal ?_
          refine k_seq ?_
          refine k_cond_d (p := x28_l2 < (List.length (List.drop (Int.toNat 1) y1.1) : Int)) rfl (fun hc => ?_) (fun hc => ?_)
          · replace h := ite_t h hc
            refine k_skip ?_
            refine kC_normal ?_
            refine k_seq ?_
            refine k_block ?_
            refine k_seq ?_
            refine k_reg .free hmixP (by kernel_rfl) ?_
            obtain ⟨n17, h⟩ := need_some h
            refine G_q rfl (op_index_row (by kernel_rfl) rfl rfl n17.1 n17.2 ?_)
            refine G_q rfl (op_load1p (a := .row 1 c_api_Value (gi (List.drop (Int.toNat 1) y1.1) x28_l2)) (by kernel_rfl) rfl rfl ?_)
            refine G_q rfl (op_assign (av := .row 1 c_api_Value (gi (List.drop (Int.toNat 1) y1.1) x28_l2)) rfl ?_)
            refine G_nil ?_
            refine kC_normal ?_
            refine k_reg .free hmixP (by kernel_rfl) ?_
            refine G_q rfl (op_move (av := .row 1 c_api_Value x6_l2) rfl ?_)
            refine G_q rfl (op_move (av := .row 1 c_api_Value (gi (List.drop (Int.toNat 1) y1.1) x28_l2)) rfl ?_)
            obtain ⟨y18, hy18, h⟩ := bnd1_some h
            refine G_q rfl (op_pure (m_finset_merge_ok _ _ _ _ hy18) Tryz.func69 (by kernel_rfl) (LEs.cons (AV.le_eq rfl) (LEs.cons (AV.le_eq rfl) (LEs.cons ((fn_le Tryz.func70 (by kernel_rfl) (fun i r h => m_finset_common_ok i.1 i.2 r h))) LEs.nil))) ?_)
            refine G_q rfl (op_assign (av := .row 1 c_api_Value y18) rfl ?_)
            refine G_nil ?_
            refine kB_normal ?_
            refine kC_normal ?_
            refine k_reg .free hmixP (by kernel_rfl) ?_
            refine G_q rfl (op_add rfl rfl rfl ?_)
            refine G_q rfl (op_move (av := .exact (.int .i64 (i64 (x28_l2 + 1)))) rfl ?_)
            refine G_nil ?_
            refine kI_normal ⟨_, _, h, ?_⟩
            exact Sub.of_le (AF.le_put (AV.le_eq rfl) (AF.le_put (AV.le_eq rfl) (AF.le_put (AV.le_eq rfl) (AF.le_put (AV.le_eq rfl) (AF.le_top _)))))
          · replace h := ite_f h hc
            refine k_exit ?_
            refine kC_exit ?_
            refine kI_exit ?_
            refine kB_exit ?_
            refine kI_normal ⟨_, h, ?_⟩
            exact Sub.of_le (AF.le_put (AV.le_eq rfl) (AF.le_top _))
      · refine k_seq ?_
        refine k_reg .free hmixP (by kernel_rfl) ?_
        refine G_q rfl (op_move (av := .row 1 c_api_Value x6_j3) rfl ?_)
        obtain ⟨y19, hy19, h⟩ := bnd1_some h
        refine G_q rfl (op_pure (m_finset_set_ok _ _ hy19) Tryz.func65 (by kernel_rfl) (LEs.cons (AV.le_eq rfl) LEs.nil) ?_)
        refine G_q rfl (op_extract (av := .exact (.string (bs y19.1))) rfl rfl ?_)
        refine G_q rfl (op_extract (av := .exact (.int .i64 y19.2)) rfl rfl ?_)
        refine G_q rfl (op_assign (av := .exact (.string (bs y19.1))) rfl ?_)
        refine G_q rfl (op_assign (av := .exact (.int .i64 y19.2)) rfl ?_)
        refine G_nil ?_
        refine kC_normal ?_
        refine k_ret ?_
        obtain rfl := Option.some.inj h
        refine kP_any (endN (af' := (AF.put (AF.put AF0 (some 2) (.exact (.string (bs y19.1)))) (some 3) (.exact (.int .i64 y19.2)))) (σ' := []) _ rfl ?_ ⟨rfl, rfl⟩)
        exact Sub.of_le (AF.le_put (AV.le_eq rfl) (AF.le_put (AV.le_eq rfl) (AF.le_top _)))
set_option maxHeartbeats 4000000 in
theorem m_law10_awake_ok  (r : Bool) (h : m_law10_awake = some r) : Pure Tryz.prog 8 [] (.exact (.bool r)) := by
  unfold m_law10_awake at h
  refine Pure.ofFun (fun_of_awp Tryz.func8 rfl Tryz.ntmps8 (by simp) rfl (res1 rfl) fun E hE => k_end ?_)
  refine k_seq ?_
  refine k_reg .free hmixP (by kernel_rfl) ?_
  refine G_q rfl (op_assign (av := .exact (.bool false)) rfl ?_)
  refine G_nil ?_
  refine kC_normal ?_
  refine k_seq ?_
  refine k_reg .free hmixP (by kernel_rfl) ?_
  obtain ⟨y1, hy1, h⟩ := bnd1_some h
  refine G_q rfl (op_pure (m_finset_Range_ok _ _ _ hy1) Tryz.func25 (by kernel_rfl) (LEs.cons (AV.le_eq rfl) (LEs.cons (AV.le_eq rfl) LEs.nil)) ?_)
  refine G_q rfl (op_move (av := .tup [.exact (.string (bs y1.1)), .exact (.int .i64 y1.2)]) rfl ?_)
  refine G_q rfl (op_extract (av := .exact (.string (bs y1.1))) rfl rfl ?_)
  refine G_q rfl (op_extract (av := .exact (.int .i64 y1.2)) rfl rfl ?_)
  refine G_q rfl (op_assign (av := .exact (.string (bs y1.1))) rfl ?_)
  refine G_q rfl (op_assign (av := .exact (.int .i64 y1.2)) rfl ?_)
  refine G_nil ?_
  refine kC_normal ?_
  refine k_seq ?_
  refine k_reg .free hmixP (by kernel_rfl) ?_
  refine G_q rfl (op_move (av := .exact (.string (bs y1.1))) rfl ?_)
  obtain ⟨y2, hy2, h⟩ := bnd1_some h
  refine G_q rfl (op_pure (m_finset_Subsets_ok _ _ hy2) Tryz.func26 (by kernel_rfl) (LEs.cons (AV.le_eq rfl) LEs.nil) ?_)
  refine G_q rfl (op_move (av := .tup [.exact (.string (bs y2.1)), .exact (.int .i64 y2.2)]) rfl ?_)
  refine G_q rfl (op_extract (av := .exact (.string (bs y2.1))) rfl rfl ?_)
  refine G_q rfl (op_extract (av := .exact (.int .i64 y2.2)) rfl rfl ?_)
  refine G_q rfl (op_assign (av := .exact (.string (bs y2.1))) rfl ?_)
  refine G_q rfl (op_assign (av := .exact (.int .i64 y2.2)) rfl ?_)
  refine G_nil ?_
  refine kC_normal ?_
  refine k_seq ?_
  refine k_reg .free hmixP (by kernel_rfl) ?_
  obtain ⟨y3, hy3, h⟩ := bnd1_some h
  refine G_q rfl (op_pure (m_ref9_Set_ok _ _ hy3) Tryz.func24 (by kernel_rfl) (LEs.cons (row_nil (by decide)) LEs.nil) ?_)
  obtain ⟨y4, hy4, h⟩ := bnd1_some h
  refine G_q rfl (op_pure (m_finset_BigInter_ok _ _ hy4) Tryz.func27 (by kernel_rfl) (LEs.cons (AV.le_eq rfl) LEs.nil) ?_)
  refine G_q rfl (op_move (av := .tup [.exact (.string (bs y4.1)), .exact (.int .i64 y4.2)]) rfl ?_)
  refine G_q rfl (op_extract (av := .exact (.string (bs y4.1))) rfl rfl ?_)
  refine G_q rfl (op_extract (av := .exact (.int .i64 y4.2)) rfl rfl ?_)
  refine G_q rfl (op_assign (av := .exact (.string (bs y4.1))) rfl ?_)
  refine G_q rfl (op_assign (av := .exact (.int .i64 y4.2)) rfl ?_)
  refine G_nil ?_
  refine kC_normal ?_
  refine k_join1_0 h (fun (x0_j5 : Bool) => (AF.put AF0 (some 0) (.exact (.bool x0_j5)))) (fun (x0_j5 : Bool) => []) (fun k5 h => ?_) (fun x0_j5 h => ?_)
  · refine k_reg .free hmixP (by kernel_rfl) ?_
    refine G_q rfl (op_move (av := .exact (.int .i64 y1.2)) rfl ?_)
    refine G_q rfl (op_eql rfl rfl ?_)
    refine G_q rfl (op_move (av := .exact (.bool (decide (y1.2 = 0)))) rfl ?_)
    refine G_split (p := y1.2 = 0) 23 rfl (fun hc => ?_) (fun hc => ?_)
    · replace h := ite_t h hc
      refine Gy_q rfl rfl rfl (op_move (av := .exact (.string (bs y1.1))) rfl ?_)
      obtain ⟨y10, hy10, h⟩ := bnd1_some h
      refine Gy_q rfl rfl rfl (op_pure (m_ref9_Int_ok _ _ hy10) Tryz.func14 (by kernel_rfl) (LEs.cons (AV.le_eq rfl) LEs.nil) ?_)
      obtain ⟨y11, hy11, h⟩ := bnd1_some h
      refine Gy_q rfl rfl rfl (op_pure (m_ref9_Int_ok _ _ hy11) Tryz.func14 (by kernel_rfl) (LEs.cons (AV.le_eq rfl) LEs.nil) ?_)
      refine Gy_q rfl rfl rfl (op_litT (n := 1) (enc := c_api_Value) [y10, y11] (CellsAll.cons rfl CellsOf.str (CellsAll.cons rfl CellsOf.str CellsAll.nil)) rfl (by kernel_rfl) (LEss.cons (LEs.cons (AV.le_eq rfl) LEs.nil) (LEss.cons (LEs.cons (AV.le_eq rfl) LEs.nil) LEss.nil)) ?_)
      obtain ⟨y12, hy12, h⟩ := bnd1_some h
      refine Gy_q rfl rfl rfl (op_pure (m_ref9_Set_ok _ _ hy12) Tryz.func24 (by kernel_rfl) (LEs.cons (AV.le_eq rfl) LEs.nil) ?_)
      refine Gy_q rfl rfl rfl (op_eqlS rfl rfl ?_)
      refine G_q rfl (op_pick_t rfl (av := .exact (.bool (decide (y1.1 = y12)))) rfl ?_)
      refine G_q rfl (op_move (av := .exact (.bool (decide (y1.1 = y12)))) rfl ?_)
      refine G_split (p := y1.1 = y12) 31 rfl (fun hc => ?_) (fun hc => ?_)
      · replace h := ite_t h hc
        refine Gy_q rfl rfl rfl (op_move (av := .exact (.int .i64 y2.2)) rfl ?_)
        refine Gy_q rfl rfl rfl (op_eql rfl rfl ?_)
        refine G_q rfl (op_pick_t rfl (av := .exact (.bool (decide (y2.2 = 0)))) rfl ?_)
        refine G_q rfl (op_move (av := .exact (.bool (decide (y2.2 = 0)))) rfl ?_)
        refine G_split (p := y2.2 = 0) 35 rfl (fun hc => ?_) (fun hc => ?_)
        · replace h := ite_t h hc
          refine Gy_q rfl rfl rfl (op_move (av := .exact (.string (bs y2.1))) rfl ?_)
          obtain ⟨y13, hy13, h⟩ := bnd1_some h
          refine Gy_q rfl rfl rfl (op_pure (m_ref9_Parts_ok _ _ hy13) Tryz.func28 (by kernel_rfl) (LEs.cons (AV.le_eq rfl) LEs.nil) ?_)
          refine Gy_q rfl rfl rfl (op_len_row (by kernel_rfl) rfl ?_)
          refine Gy_q rfl rfl rfl (op_eql rfl rfl ?_)
          refine G_q rfl (op_pick_t rfl (av := .exact (.bool (decide ((List.length y13 : Int) = 4)))) rfl ?_)
          refine G_q rfl (op_move (av := .exact (.bool (decide ((List.length y13 : Int) = 4)))) rfl ?_)
          refine G_split (p := (List.length y13 : Int) = 4) 41 rfl (fun hc => ?_) (fun hc => ?_)
          · replace h := ite_t h hc
            refine Gy_q rfl rfl rfl (op_move (av := .exact (.int .i64 y4.2)) rfl ?_)
            refine Gy_q rfl rfl rfl (op_eql rfl rfl ?_)
            refine G_q rfl (op_pick_t rfl (av := .exact (.bool (decide (y4.2 = 12)))) rfl ?_)
            refine G_q rfl (op_assign (av := .exact (.bool (decide (y4.2 = 12)))) rfl ?_)
            refine G_nil ?_
            refine kI_normal ⟨_, h, ?_⟩
            exact Sub.of_le (AF.le_put (AV.le_eq rfl) (AF.le_top _))
          · replace h := ite_f h hc
            refine G_n rfl rfl ?_
            refine G_n rfl rfl ?_
            refine G_q rfl (op_pick_f rfl (av := .exact (.bool false)) rfl ?_)
            refine G_q rfl (op_assign (av := .exact (.bool false)) rfl ?_)
            refine G_nil ?_
            refine kI_normal ⟨_, h, ?_⟩
            exact Sub.of_le (AF.le_put (AV.le_eq rfl) (AF.le_top _))
        · replace h := ite_f h hc
          refine G_n rfl rfl ?_
          refine G_n rfl rfl ?_
          refine G_n rfl rfl ?_
          refine G_n rfl rfl ?_
          refine G_q rfl (op_pick_f rfl (av := .exact (.bool false)) rfl ?_)
          refine G_q rfl (op_move (av := .exact (.bool false)) rfl ?_)
          refine G_n rfl rfl ?_
          refine G_n rfl rfl ?_
          refine G_q rfl (op_pick_f rfl (av := .exact (.bool false)) rfl ?_)
          refine G_q rfl (op_assign (av := .exact (.bool false)) rfl ?_)
          refine G_nil ?_
          refine kI_normal ⟨_, h, ?_⟩
          exact Sub.of_le (AF.le_put (AV.le_eq rfl) (AF.le_top _))
      · replace h := ite_f h hc
        refine G_n rfl rfl ?_
        refine G_n rfl rfl ?_
        refine G_q rfl (op_pick_f rfl (av := .exact (.bool false)) rfl ?_)
        refine G_q rfl (op_move (av := .exact (.bool false)) rfl ?_)
        refine G_n rfl rfl ?_
        refine G_n rfl rfl ?_
        refine G_n rfl rfl ?_
        refine G_n rfl rfl ?_
        refine G_q rfl (op_pick_f rfl (av := .exact (.bool false)) rfl ?_)
        refine G_q rfl (op_move (av := .exact (.bool false)) rfl ?_)
        refine G_n rfl rfl ?_
        refine G_n rfl rfl ?_
        refine G_q rfl (op_pick_f rfl (av := .exact (.bool false)) rfl ?_)
        refine G_q rfl (op_assign (av := .exact (.bool false)) rfl ?_)
        refine G_nil ?_
        refine kI_normal ⟨_, h, ?_⟩
        exact Sub.of_le (AF.le_put (AV.le_eq rfl) (AF.le_top _))
    · replace h := ite_f h hc
      refine G_n rfl rfl ?_
      refine G_n rfl rfl ?_
      refine G_n rfl rfl ?_
      refine G_n rfl rfl ?_
      refine G_n rfl rfl ?_
      refine G_n rfl rfl ?_
      refine G_q rfl (op_pick_f rfl (av := .exact (.bool false)) rfl ?_)
      refine G_q rfl (op_move (av := .exact (.bool false)) rfl ?_)
      refine G_n rfl rfl ?_
      refine G_n rfl rfl ?_
      refine G_q rfl (op_pick_f rfl (av := .exact (.bool false)) rfl ?_)
      refine G_q rfl (op_move (av := .exact (.bool false)) rfl ?_)
      refine G_n rfl rfl ?_
      refine G_n rfl rfl ?_
      refine G_n rfl rfl ?_
      refine G_n rfl rfl ?_
      refine G_q rfl (op_pick_f rfl (av := .exact (.bool false)) rfl ?_)
      refine G_q rfl (op_move (av := .exact (.bool false)) rfl ?_)
      refine G_n rfl rfl ?_
      refine G_n rfl rfl ?_
      refine G_q rfl (op_pick_f rfl (av := .exact (.bool false)) rfl ?_)
      refine G_q rfl (op_assign (av := .exact (.bool false)) rfl ?_)
      refine G_nil ?_
      refine kI_normal ⟨_, h, ?_⟩
      exact Sub.of_le (AF.le_put (AV.le_eq rfl) (AF.le_top _))
  · refine k_ret ?_
    obtain rfl := Option.some.inj h
    refine kP_any (endN (af' := (AF.put AF0 (some 0) (.exact (.bool x0_j5)))) (σ' := []) _ rfl ?_ ⟨rfl, rfl⟩)
    exact Sub.of_le (AF.le_put (AV.le_eq rfl) (AF.le_top _))
end Go.Proofs.YtdbnodliomlilaaGreat
/- The functions compute their models, by program. -/
namespace Go.Proofs.YtdbnodliomlilaaGreat
open Go.RowKit
attribute [local irreducible] AV.exact AV.top AV.row AV.ptr AV.agg AV.tup AV.eptr AV.fn AV.nilq AV.nilqn opA opB opM opR Quiet Loud Reads wpG awp den Sub SubU Pure Fun vecI vecT boxI CellsAll CellsOf OneC LEs LEss
set_option maxRecDepth 100000

set_option maxHeartbeats 4000000 in
theorem m_law10_FinsetMapLaws_ok (a0 : List UInt8) (a1 : List Int) (r : Bool) (h : m_law10_FinsetMapLaws a0 a1 = some r) : Pure Tryz.prog 5 [(.row 1 c_uint8 a0), (.row 1 c_int a1)] (.exact (.bool r)) := by
  unfold m_law10_FinsetMapLaws at h
  refine Pure.ofFun (fun_of_awp Tryz.func5 rfl Tryz.ntmps5 (by simp) rfl (res1 rfl) fun E hE => k_end ?_)
  refine k_seq ?_
  refine k_reg .free hmixP (by kernel_rfl) ?_
  refine G_q rfl (op_assign (av := .exact (.bool false)) rfl ?_)
  refine G_nil ?_
  refine kC_normal ?_
  refine k_seq ?_
  refine k_reg .free hmixP (by kernel_rfl) ?_
  refine G_q rfl (op_move (av := .row 1 c_int a1) rfl ?_)
  obtain ⟨y1, hy1, h⟩ := bnd1_some h
  refine G_l rfl (op_fun_0_1_1 (m_gen_New_ok _ _ hy1) Tryz.func6 (by kernel_rfl) (LEs.cons (AV.le_eq rfl) LEs.nil) (fun b2 => ?_))
  refine G_q rfl (op_assign (av := pA b2 0) rfl ?_)
  refine G_nil ?_
  refine kC_normal ?_
  refine k_seq ?_
  refine k_reg .free hmixP (by kernel_rfl) ?_
  obtain ⟨y3, hy3, h⟩ := bnd1_some h
  refine G_q rfl (op_pure (m_ref9_Map_ok _ _ _ hy3) Tryz.func23 (by kernel_rfl) (LEs.cons (row_nil (by decide)) (LEs.cons (row_nil (by decide)) LEs.nil)) ?_)
  refine G_q rfl (op_assign (av := .exact (.string (bs y3))) rfl ?_)
  refine G_nil ?_
  refine kC_normal ?_
  refine k_seq ?_
  refine k_reg .free hmixP (by kernel_rfl) ?_
  refine G_l rfl (op_allocA (f := (fun (x : List UInt8) => .exact (.string (bs x)))) 8 ([] : List UInt8) (.string (bs [])) rfl (by kernel_rfl) rfl (fun b4 => ?_))
  refine G_nil ?_
  refine kC_normal ?_
  refine k_join2_0 h (fun (x6_j5 : List UInt8) (x7_j5 : List (List UInt8)) => (AF.put (AF.put AF0 (some 6) (.exact (.string (bs x6_j5)))) (some 7) (pA b4 0))) (fun (x6_j5 : List UInt8) (x7_j5 : List (List UInt8)) => [boxI 45 b4 (List.map (fun (x : List UInt8) => .exact (.string (bs x))) x7_j5)]) (fun k5 h => ?_) (fun x6_j5 x7_j5 h => ?_)
  · refine k_seq ?_
    refine k_reg .free hmixP (by kernel_rfl) ?_
    refine G_q rfl (op_assign (av := .exact (.int .i64 0)) rfl ?_)
    refine G_nil ?_
    refine kC_normal ?_
    refine k_block ?_
    refine k_loop5_0 (m_law10_FinsetMapLaws_L2 a0 k5) (m_law10_FinsetMapLaws_B2 a0 k5) (fun _ _ _ _ _ => rfl) (fun m _ _ _ _ _ => rfl) h (fun (x5_0_l2 : List Int) (x5_1_l2 : Int) (x6_l2 : List UInt8) (x7_l2 : List (List UInt8)) (x8_l2 : Int) => (AF.put (AF.put (AF.put (AF.put (AF.put AF0 (some 0) (.row 1 c_uint8 a0)) (some 5) (pA b2 0)) (some 6) (.exact (.string (bs x6_l2)))) (some 7) (pA b4 0)) (some 8) (.exact (.int .i64 x8_l2)))) (fun (x5_0_l2 : List Int) (x5_1_l2 : Int) (x6_l2 : List UInt8) (x7_l2 : List (List UInt8)) (x8_l2 : Int) => [boxI 48 b2 [.row 1 c_int x5_0_l2, .exact (.int .i64 x5_1_l2)], boxI 45 b4 (List.map (fun (x : List UInt8) => .exact (.string (bs x))) x7_l2)]) ?_ (fun rec2 x5_0_l2 x5_1_l2 x6_l2 x7_l2 x8_l2 h => ?_)
    · refine Sub.trans (SubU.to SubU.f1) ?_
      exact Sub.of_le (AF.le_put (AV.le_eq rfl) (AF.le_put (AV.le_eq rfl) (AF.le_put (AV.le_eq rfl) (AF.le_put (AV.le_eq rfl) (AF.le_put (AV.le_eq rfl) (AF.le_top _))))))
    · unfold m_law10_FinsetMapLaws_B2 at h
      refine k_seq ?_
      refine k_join1_0 h (fun (x30_j169 : Bool) => (AF.put (AF.put (AF.put (AF.put (AF.put (AF.put AF0 (some 0) (.row 1 c_uint8 a0)) (some 5) (pA b2 0)) (some 6) (.exact (.string (bs x6_l2)))) (some 7) (pA b4 0)) (some 8) (.exact (.int .i64 x8_l2))) (some 30) (.exact (.bool x30_j169)))) (fun (x30_j169 : Bool) => [boxI 48 b2 [.row 1 c_int x5_0_l2, .exact (.int .i64 x5_1_l2)], boxI 45 b4 (List.map (fun (x : List UInt8) => .exact (.string (bs x))) x7_l2)]) (fun k169 h => ?_) (fun x30_j169 h => ?_)
      · refine k_reg .free hmixP (by kernel_rfl) ?_
        refine G_q rfl (op_move (av := .exact (.int .i64 x8_l2)) rfl ?_)
        refine G_q rfl (op_move (av := .row 1 c_uint8 a0) rfl ?_)
        refine G_q rfl (op_len_row (by kernel_rfl) rfl ?_)
        refine G_q rfl (op_lss rfl rfl ?_)
        refine G_q rfl (op_move (av := .exact (.bool (decide (x8_l2 < (List.length a0 : Int))))) rfl ?_)
        refine G_split (p := x8_l2 < (List.length a0 : Int)) 27 rfl (fun hc => ?_) (fun hc => ?_)
        · replace h := ite_t h hc
          refine Gy_q rfl rfl rfl (op_move (av := .exact (.int .i64 x8_l2)) rfl ?_)
          refine Gy_q rfl rfl rfl (op_lss rfl rfl ?_)
          refine G_q rfl (op_pick_t rfl (av := .exact (.bool (decide (x8_l2 < 30)))) rfl ?_)
          refine G_nil ?_
          refine kI_normal ⟨_, h, ?_⟩
          exact Sub.of_le (AF.le_put (AV.le_eq rfl) (AF.le_put (AV.le_eq rfl) (AF.le_put (AV.le_eq rfl) (AF.le_put (AV.le_eq rfl) (AF.le_put (AV.le_eq rfl) (AF.le_put (AV.le_eq rfl) (AF.le_top _)))))))
        · replace h := ite_f h hc
          refine G_n rfl rfl ?_
          refine G_n rfl rfl ?_
          refine G_q rfl (op_pick_f rfl (av := .exact (.bool false)) rfl ?_)
          refine G_nil ?_
          refine kI_normal ⟨_, h, ?_⟩
          exact Sub.of_le (AF.le_put (AV.le_eq rfl) (AF.le_put (AV.le_eq rfl) (AF.le_put (AV.le_eq rfl) (AF.le_put (AV.le_eq rfl) (AF.le_put (AV.le_eq rfl) (AF.le_put (AV.le_eq rfl) (AF.le_top _)))))))
      · refine k_cond_b (c := x30_j169) rfl (fun hc => ?_) (fun hc => ?_)
        · replace h := ite_t h hc
          refine k_skip ?_
          refine kC_normal ?_
          refine k_seq ?_
          refine k_block ?_
          refine k_seq ?_
          refine k_reg .free hmixP (by kernel_rfl) ?_
          refine G_q rfl (op_move (av := .row 1 c_uint8 a0) rfl ?_)
          refine G_q rfl (op_move (av := .exact (.int .i64 x8_l2)) rfl ?_)
          obtain ⟨n185, h⟩ := need_some h
          refine G_q rfl (op_index_row (by kernel_rfl) rfl rfl n185.1 n185.2 ?_)
          refine G_q rfl (op_load1p (a := .exact (.int .u8 (UInt8.toNat (gi a0 x8_l2) : Int))) (by kernel_rfl) rfl rfl ?_)
          refine G_q rfl (op_remU (a := (gi a0 x8_l2)) (b := 8) rfl rfl (by decide) ?_)
          refine G_q rfl (op_convInt (k := .i64) (r := (UInt8.toNat ((gi a0 x8_l2) % 8) : Int)) (by kernel_rfl) rfl (wrap_u8 rfl _) ?_)
          refine G_q rfl (op_assign (av := .exact (.int .i64 (UInt8.toNat ((gi a0 x8_l2) % 8) : Int))) rfl ?_)
          refine G_nil ?_
          refine kC_normal ?_
          refine k_seq ?_
          refine k_reg .free hmixP (by kernel_rfl) ?_
          refine G_q rfl (op_move (av := pA b2 0) rfl ?_)
          obtain ⟨y186, hy186, h⟩ := bnd1_some h
          refine G_l rfl (op_fun_1_0_1 (m_gen_Choices_Value_ok _ _ _ hy186) Tryz.func10 (by kernel_rfl) (LEs.cons (AV.le_eq rfl) (LEs.cons (AV.le_eq rfl) LEs.nil)) ?_)
          refine G_q rfl (op_assign (av := .exact (.string (bs y186.1))) rfl ?_)
          refine G_nil ?_
          refine kC_normal ?_
          refine k_seq ?_
          refine k_reg .free hmixP (by kernel_rfl) ?_
          refine G_q rfl (op_move (av := .exact (.string (bs x6_l2))) rfl ?_)
          refine G_q rfl (op_move (av := .exact (.int .i64 (UInt8.toNat ((gi a0 x8_l2) % 8) : Int))) rfl ?_)
          obtain ⟨y187, hy187, h⟩ := bnd1_some h
          refine G_q rfl (op_pure (m_ref9_Int_ok _ _ hy187) Tryz.func14 (by kernel_rfl) (LEs.cons (AV.le_eq rfl) LEs.nil) ?_)
          refine G_q rfl (op_move (av := .exact (.string (bs y186.1))) rfl ?_)
          obtain ⟨y188, hy188, h⟩ := bnd1_some h
          refine G_q rfl (op_pure (m_finset_Update_ok _ _ _ _ hy188) Tryz.func19 (by kernel_rfl) (LEs.cons (AV.le_eq rfl) (LEs.cons (AV.le_eq rfl) (LEs.cons (AV.le_eq rfl) LEs.nil))) ?_)
          refine G_q rfl (op_move (av := .tup [.exact (.string (bs y188.1)), .exact (.int .i64 y188.2)]) rfl ?_)
          refine G_q rfl (op_extract (av := .exact (.string (bs y188.1))) rfl rfl ?_)
          refine G_q rfl (op_extract (av := .exact (.int .i64 y188.2)) rfl rfl ?_)
          refine G_q rfl (op_assign (av := .exact (.string (bs y188.1))) rfl ?_)
          refine G_q rfl (op_assign (av := .exact (.int .i64 y188.2)) rfl ?_)
          refine G_nil ?_
          refine kC_normal ?_
          refine k_seq ?_
          refine k_seq ?_
          refine k_reg .free hmixP (by kernel_rfl) ?_
          refine G_q rfl (op_move (av := .exact (.int .i64 y188.2)) rfl ?_)
          refine G_q rfl (op_neq rfl rfl ?_)
          refine G_nil ?_
          refine kC_normal ?_
          refine k_cond_d (p := ¬ y188.2 = 0) rfl (fun hc => ?_) (fun hc => ?_)
          · replace h := ite_t h hc
            refine k_seq ?_
            refine k_reg .free hmixP (by kernel_rfl) ?_
            refine G_q rfl (op_assign (av := .exact (.bool false)) rfl ?_)
            refine G_nil ?_
            refine kC_normal ?_
            refine k_ret ?_
            refine kC_ret ?_
            refine kB_ret ?_
            refine kC_ret ?_
            refine kI_ret ?_
            refine kB_ret ?_
            refine kI_ret ?_
            obtain rfl := Option.some.inj h
            refine kP_any (endN (af' := (AF.put AF0 (some 4) (.exact (.bool false)))) (σ' := []) _ rfl ?_ ⟨rfl, rfl⟩)
            refine Sub.trans (SubU.to SubU.drop) ?_
            refine Sub.trans (SubU.to SubU.drop) ?_
            exact Sub.of_le (AF.le_put (AV.le_eq rfl) (AF.le_top _))
          · replace h := ite_f h hc
            refine k_skip ?_
            refine kC_normal ?_
            refine k_join0_0 h ((AF.put (AF.put (AF.put (AF.put (AF.put (AF.put (AF.put AF0 (some 0) (.row 1 c_uint8 a0)) (some 5) (pA b2 0)) (some 7) (pA b4 0)) (some 8) (.exact (.int .i64 x8_l2))) (some 9) (.exact (.int .i64 (UInt8.toNat ((gi a0 x8_l2) % 8) : Int)))) (some 10) (.exact (.string (bs y186.1)))) (some 11) (.exact (.string (bs y188.1))))) ([boxI 48 b2 [.row 1 c_int y186.2.1, .exact (.int .i64 y186.2.2)], boxI 45 b4 (List.map (fun (x : List UInt8) => .exact (.string (bs x))) x7_l2)]) (fun k189 h => ?_) (fun  h => ?_)
            · refine k_seq ?_
              refine k_reg .free hmixP (by kernel_rfl) ?_
              refine G_q rfl (op_move (av := .exact (.int .i64 (UInt8.toNat ((gi a0 x8_l2) % 8) : Int))) rfl ?_)
              obtain ⟨n194, h⟩ := need_some h
              refine G_q rfl (op_indexArr (m := 8) (n := 1) (by kernel_rfl) rfl rfl n194.1 n194.2.1 ?_)
              refine G_r rfl (opR_f1 (op_load_box1 (a := .exact (.string (bs (gi x7_l2 (UInt8.toNat ((gi a0 x8_l2) % 8) : Int))))) (by kernel_rfl) rfl (arr_get (f := (fun (x : List UInt8) => .exact (.string (bs x)))) n194.1 n194.2.2) ?_))
              refine G_q rfl (op_eqlS rfl rfl ?_)
              refine G_nil ?_
              refine kC_normal ?_
              refine k_cond_d (p := (gi x7_l2 (UInt8.toNat ((gi a0 x8_l2) % 8) : Int)) = ([] : List UInt8)) rfl (fun hc => ?_) (fun hc => ?_)
              · replace h := ite_t h hc
                refine k_seq ?_
                refine k_reg .free hmixP (by kernel_rfl) ?_
                refine G_q rfl (op_move (av := .exact (.string (bs y188.1))) rfl ?_)
                refine G_q rfl (op_move (av := .exact (.int .i64 (UInt8.toNat ((gi a0 x8_l2) % 8) : Int))) rfl ?_)
                obtain ⟨y195, hy195, h⟩ := bnd1_some h
                refine G_q rfl (op_pure (m_ref9_Int_ok _ _ hy195) Tryz.func14 (by kernel_rfl) (LEs.cons (AV.le_eq rfl) LEs.nil) ?_)
                obtain ⟨y196, hy196, h⟩ := bnd1_some h
                refine G_q rfl (op_pure (m_finset_Delete_ok _ _ _ hy196) Tryz.func21 (by kernel_rfl) (LEs.cons (AV.le_eq rfl) (LEs.cons (AV.le_eq rfl) LEs.nil)) ?_)
                refine G_q rfl (op_move (av := .tup [.exact (.string (bs y196.1)), .exact (.int .i64 y196.2)]) rfl ?_)
                refine G_q rfl (op_extract (av := .exact (.string (bs y196.1))) rfl rfl ?_)
                refine G_q rfl (op_extract (av := .exact (.int .i64 y196.2)) rfl rfl ?_)
                refine G_q rfl (op_assign (av := .exact (.string (bs y196.1))) rfl ?_)
                refine G_q rfl (op_assign (av := .exact (.int .i64 y196.2)) rfl ?_)
                refine G_nil ?_
                refine kC_normal ?_
                refine k_join1_0 h (fun (x68_j197 : Bool) => (AF.put (AF.put (AF.put (AF.put (AF.put (AF.put (AF.put (AF.put AF0 (some 0) (.row 1 c_uint8 a0)) (some 5) (pA b2 0)) (some 7) (pA b4 0)) (some 8) (.exact (.int .i64 x8_l2))) (some 9) (.exact (.int .i64 (UInt8.toNat ((gi a0 x8_l2) % 8) : Int)))) (some 10) (.exact (.string (bs y186.1)))) (some 11) (.exact (.string (bs y188.1)))) (some 68) (.exact (.bool x68_j197)))) (fun (x68_j197 : Bool) => [boxI 48 b2 [.row 1 c_int y186.2.1, .exact (.int .i64 y186.2.2)], boxI 45 b4 (List.map (fun (x : List UInt8) => .exact (.string (bs x))) x7_l2)]) (fun k197 h => ?_) (fun x68_j197 h => ?_)
                · refine k_reg .free hmixP (by kernel_rfl) ?_
                  refine G_q rfl (op_move (av := .exact (.int .i64 y196.2)) rfl ?_)
                  refine G_q rfl (op_neq rfl rfl ?_)
                  refine G_q rfl (op_move (av := .exact (.bool (decide (¬ y196.2 = 0)))) rfl ?_)
                  refine G_split (p := ¬ y196.2 = 0) 64 rfl (fun hc => ?_) (fun hc => ?_)
                  · replace h := ite_t h hc
                    refine G_n rfl rfl ?_
                    refine G_n rfl rfl ?_
                    refine G_n rfl rfl ?_
                    refine G_q rfl (op_pick_t rfl (av := .exact (.bool true)) rfl ?_)
                    refine G_nil ?_
                    refine kI_normal ⟨_, h, ?_⟩
                    exact Sub.of_le (AF.le_put (AV.le_eq rfl) (AF.le_put (AV.le_eq rfl) (AF.le_put (AV.le_eq rfl) (AF.le_put (AV.le_eq rfl) (AF.le_put (AV.le_eq rfl) (AF.le_put (AV.le_eq rfl) (AF.le_put (AV.le_eq rfl) (AF.le_put (AV.le_eq rfl) (AF.le_top _)))))))))
                  · replace h := ite_f h hc
                    refine Gy_q rfl rfl rfl (op_move (av := .exact (.string (bs y196.1))) rfl ?_)
                    refine Gy_q rfl rfl rfl (op_move (av := .exact (.string (bs x6_l2))) rfl ?_)
                    refine Gy_q rfl rfl rfl (op_neqS rfl rfl ?_)
                    refine G_q rfl (op_pick_f rfl (av := .exact (.bool (decide (¬ y196.1 = x6_l2)))) rfl ?_)
                    refine G_nil ?_
                    refine kI_normal ⟨_, h, ?_⟩
                    exact Sub.of_le (AF.le_put (AV.le_eq rfl) (AF.le_put (AV.le_eq rfl) (AF.le_put (AV.le_eq rfl) (AF.le_put (AV.le_eq rfl) (AF.le_put (AV.le_eq rfl) (AF.le_put (AV.le_eq rfl) (AF.le_put (AV.le_eq rfl) (AF.le_put (AV.le_eq rfl) (AF.le_top _)))))))))
                · refine k_cond_b (c := x68_j197) rfl (fun hc => ?_) (fun hc => ?_)
                  · replace h := ite_t h hc
                    refine k_seq ?_
                    refine k_reg .free hmixP (by kernel_rfl) ?_
                    refine G_q rfl (op_assign (av := .exact (.bool false)) rfl ?_)
                    refine G_nil ?_
                    refine kC_normal ?_
                    refine k_ret ?_
                    refine kI_ret ?_
                    refine kB_ret ?_
                    refine kC_ret ?_
                    refine kI_ret ?_
                    refine kB_ret ?_
                    refine kI_ret ?_
                    obtain rfl := Option.some.inj h
                    refine kP_any (endN (af' := (AF.put AF0 (some 4) (.exact (.bool false)))) (σ' := []) _ rfl ?_ ⟨rfl, rfl⟩)
                    refine Sub.trans (SubU.to SubU.drop) ?_
                    refine Sub.trans (SubU.to SubU.drop) ?_
                    exact Sub.of_le (AF.le_put (AV.le_eq rfl) (AF.le_top _))
                  · replace h := ite_f h hc
                    refine k_skip ?_
                    refine kI_normal ⟨h, ?_⟩
                    exact Sub.of_le (AF.le_put (AV.le_eq rfl) (AF.le_put (AV.le_eq rfl) (AF.le_put (AV.le_eq rfl) (AF.le_put (AV.le_eq rfl) (AF.le_put (AV.le_eq rfl) (AF.le_put (AV.le_eq rfl) (AF.le_put (AV.le_eq rfl) (AF.le_top _))))))))
              · replace h := ite_f h hc
                refine k_skip ?_
                refine kI_normal ⟨h, ?_⟩
                exact Sub.of_le (AF.le_put (AV.le_eq rfl) (AF.le_put (AV.le_eq rfl) (AF.le_put (AV.le_eq rfl) (AF.le_put (AV.le_eq rfl) (AF.le_put (AV.le_eq rfl) (AF.le_put (AV.le_eq rfl) (AF.le_put (AV.le_eq rfl) (AF.le_top _))))))))
            · refine k_reg .free hmixP (by kernel_rfl) ?_
              refine G_q rfl (op_move (av := .exact (.int .i64 (UInt8.toNat ((gi a0 x8_l2) % 8) : Int))) rfl ?_)
              refine G_q rfl (op_move (av := .exact (.string (bs y188.1))) rfl ?_)
              refine G_q rfl (op_move (av := .exact (.string (bs y186.1))) rfl ?_)
              refine G_q rfl (op_assign (av := .exact (.string (bs y188.1))) rfl ?_)
              obtain ⟨n198, h⟩ := need_some h
              refine G_q rfl (op_indexArr (m := 8) (n := 1) (by kernel_rfl) rfl rfl n198.1 n198.2.1 ?_)
              refine G_l rfl (opB_f1 (op_store_box (c' := [.exact (.string (bs y186.1))]) (c3 := List.map (fun (x : List UInt8) => .exact (.string (bs x))) (List.set x7_l2 (Int.toNat (UInt8.toNat ((gi a0 x8_l2) % 8) : Int)) y186.1)) rfl rfl CellsOf.str (LEs.cons (AV.le_eq rfl) LEs.nil) (OneC.str OneC.nil) (by kernel_rfl) (arr_set_le n198.1 n198.2.2) (arr_set (f := (fun (x : List UInt8) => .exact (.string (bs x)))) (z := y186.1) n198.1 n198.2.2) ?_))
              refine G_nil ?_
              refine kB_normal ?_
              refine kC_normal ?_
              refine k_reg .free hmixP (by kernel_rfl) ?_
              refine G_q rfl (op_move (av := .exact (.int .i64 x8_l2)) rfl ?_)
              refine G_q rfl (op_add rfl rfl rfl ?_)
              refine G_q rfl (op_assign (av := .exact (.int .i64 (i64 (x8_l2 + 1)))) rfl ?_)
              refine G_nil ?_
              refine kI_normal ⟨_, _, _, _, _, h, ?_⟩
              refine Sub.trans (SubU.to SubU.f1) ?_
              exact Sub.of_le (AF.le_put (AV.le_eq rfl) (AF.le_put (AV.le_eq rfl) (AF.le_put (AV.le_eq rfl) (AF.le_put (AV.le_eq rfl) (AF.le_put (AV.le_eq rfl) (AF.le_top _))))))
        · replace h := ite_f h hc
          refine k_exit ?_
          refine kC_exit ?_
          refine kI_exit ?_
          refine kB_exit ?_
          refine kI_normal ⟨_, _, h, ?_⟩
          refine Sub.trans (SubU.to SubU.drop) ?_
          exact Sub.of_le (AF.le_put (AV.le_eq rfl) (AF.le_put (AV.le_eq rfl) (AF.le_top _)))
  · refine k_join0_0 h (AF0) ([]) (fun k199 h => ?_) (fun  h => ?_)
    · refine k_seq ?_
      refine k_reg .free hmixP (by kernel_rfl) ?_
      refine G_q rfl (op_assign (av := .exact (.int .i64 0)) rfl ?_)
      refine G_nil ?_
      refine kC_normal ?_
      refine k_block ?_
      refine k_loop1_0 (m_law10_FinsetMapLaws_L4 x6_j5 x7_j5 k199) (m_law10_FinsetMapLaws_B4 x6_j5 x7_j5 k199) (fun _ => rfl) (fun m _ => rfl) h (fun (x15_l4 : Int) => (AF.put (AF.put (AF.put AF0 (some 6) (.exact (.string (bs x6_j5)))) (some 7) (pA b4 0)) (some 15) (.exact (.int .i64 x15_l4)))) (fun (x15_l4 : Int) => [boxI 45 b4 (List.map (fun (x : List UInt8) => .exact (.string (bs x))) x7_j5)]) ?_ (fun rec4 x15_l4 h => ?_)
      · exact Sub.of_le (AF.le_put (AV.le_eq rfl) (AF.le_put (AV.le_eq rfl) (AF.le_put (AV.le_eq rfl) (AF.le_top _))))
      · unfold m_law10_FinsetMapLaws_B4 at h
        refine k_seq ?_
        refine k_seq ?_
        refine k_reg .free hmixP (by kernel_rfl) ?_
        refine G_q rfl (op_move (av := .exact (.int .i64 x15_l4)) rfl ?_)
        refine G_q rfl (op_lss rfl rfl ?_)
        refine G_nil ?_
        refine kC_normal ?_
        refine k_cond_d (p := x15_l4 < 8) rfl (fun hc => ?_) (fun hc => ?_)
        · replace h := ite_t h hc
          refine k_skip ?_
          refine kC_normal ?_
          refine k_seq ?_
          refine k_block ?_
          refine k_seq ?_
          refine k_reg .free hmixP (by kernel_rfl) ?_
          refine G_q rfl (op_move (av := .exact (.string (bs x6_j5))) rfl ?_)
          refine G_q rfl (op_move (av := .exact (.int .i64 x15_l4)) rfl ?_)
          obtain ⟨y306, hy306, h⟩ := bnd1_some h
          refine G_q rfl (op_pure (m_ref9_Int_ok _ _ hy306) Tryz.func14 (by kernel_rfl) (LEs.cons (AV.le_eq rfl) LEs.nil) ?_)
          obtain ⟨y307, hy307, h⟩ := bnd1_some h
          refine G_q rfl (op_pure (m_finset_Lookup_ok _ _ _ hy307) Tryz.func15 (by kernel_rfl) (LEs.cons (AV.le_eq rfl) (LEs.cons (AV.le_eq rfl) LEs.nil)) ?_)
          refine G_q rfl (op_move (av := .tup [.exact (.string (bs y307.1)), .exact (.int .i64 y307.2)]) rfl ?_)
          refine G_q rfl (op_extract (av := .exact (.string (bs y307.1))) rfl rfl ?_)
          refine G_q rfl (op_extract (av := .exact (.int .i64 y307.2)) rfl rfl ?_)
          refine G_q rfl (op_assign (av := .exact (.string (bs y307.1))) rfl ?_)
          refine G_q rfl (op_assign (av := .exact (.int .i64 y307.2)) rfl ?_)
          refine G_nil ?_
          refine kC_normal ?_
          refine k_seq ?_
          refine k_reg .free hmixP (by kernel_rfl) ?_
          refine G_q rfl (op_move (av := .exact (.string (bs x6_j5))) rfl ?_)
          refine G_q rfl (op_move (av := .exact (.int .i64 x15_l4)) rfl ?_)
          obtain ⟨y308, hy308, h⟩ := bnd1_some h
          refine G_q rfl (op_pure (m_ref9_Int_ok _ _ hy308) Tryz.func14 (by kernel_rfl) (LEs.cons (AV.le_eq rfl) LEs.nil) ?_)
          obtain ⟨y309, hy309, h⟩ := bnd1_some h
          refine G_q rfl (op_pure (m_finset_HasKey_ok _ _ _ hy309) Tryz.func17 (by kernel_rfl) (LEs.cons (AV.le_eq rfl) (LEs.cons (AV.le_eq rfl) LEs.nil)) ?_)
          refine G_q rfl (op_move (av := .tup [.exact (.bool y309.1), .exact (.int .i64 y309.2)]) rfl ?_)
          refine G_q rfl (op_extract (av := .exact (.bool y309.1)) rfl rfl ?_)
          refine G_q rfl (op_extract (av := .exact (.int .i64 y309.2)) rfl rfl ?_)
          refine G_q rfl (op_assign (av := .exact (.bool y309.1)) rfl ?_)
          refine G_q rfl (op_assign (av := .exact (.int .i64 y309.2)) rfl ?_)
          refine G_nil ?_
          refine kC_normal ?_
          refine k_join1_0 h (fun (x109_j310 : Bool) => (AF.put (AF.put (AF.put (AF.put AF0 (some 6) (.exact (.string (bs x6_j5)))) (some 7) (pA b4 0)) (some 15) (.exact (.int .i64 x15_l4))) (some 109) (.exact (.bool x109_j310)))) (fun (x109_j310 : Bool) => [boxI 45 b4 (List.map (fun (x : List UInt8) => .exact (.string (bs x))) x7_j5)]) (fun k310 h => ?_) (fun x109_j310 h => ?_)
          · refine k_reg .free hmixP (by kernel_rfl) ?_
            refine G_q rfl (op_move (av := .exact (.string (bs y307.1))) rfl ?_)
            refine G_q rfl (op_move (av := .exact (.int .i64 x15_l4)) rfl ?_)
            obtain ⟨n313, h⟩ := need_some h
            refine G_q rfl (op_indexArr (m := 8) (n := 1) (by kernel_rfl) rfl rfl n313.1 n313.2.1 ?_)
            refine G_r rfl (op_load_box1 (a := .exact (.string (bs (gi x7_j5 x15_l4)))) (by kernel_rfl) rfl (arr_get (f := (fun (x : List UInt8) => .exact (.string (bs x)))) n313.1 n313.2.2) ?_)
            refine G_q rfl (op_neqS rfl rfl ?_)
            refine G_q rfl (op_move (av := .exact (.bool (decide (¬ y307.1 = (gi x7_j5 x15_l4))))) rfl ?_)
            refine G_split (p := ¬ y307.1 = (gi x7_j5 x15_l4)) 96 rfl (fun hc => ?_) (fun hc => ?_)
            · replace h := ite_t h hc
              refine G_n rfl rfl ?_
              refine G_n rfl rfl ?_
              refine G_n rfl rfl ?_
              refine G_n rfl rfl ?_
              refine G_n rfl rfl ?_
              refine G_n rfl rfl ?_
              refine G_q rfl (op_pick_t rfl (av := .exact (.bool true)) rfl ?_)
              refine G_q rfl (op_move (av := .exact (.bool true)) rfl ?_)
              refine G_n rfl rfl ?_
              refine G_n rfl rfl ?_
              refine G_n rfl rfl ?_
              refine G_n rfl rfl ?_
              refine G_q rfl (op_pick_t rfl (av := .exact (.bool true)) rfl ?_)
              refine G_nil ?_
              refine kI_normal ⟨_, h, ?_⟩
              exact Sub.of_le (AF.le_put (AV.le_eq rfl) (AF.le_put (AV.le_eq rfl) (AF.le_put (AV.le_eq rfl) (AF.le_put (AV.le_eq rfl) (AF.le_top _)))))
            · replace h := ite_f h hc
              refine Gy_q rfl rfl rfl (op_move (av := .exact (.bool y309.1)) rfl ?_)
              refine Gy_q rfl rfl rfl (op_move (av := .exact (.int .i64 x15_l4)) rfl ?_)
              obtain ⟨n314, h⟩ := need_some h
              refine Gy_q rfl rfl rfl (op_indexArr (m := 8) (n := 1) (by kernel_rfl) rfl rfl n314.1 n314.2.1 ?_)
              refine Gy_r rfl rfl rfl (op_load_box1 (a := .exact (.string (bs (gi x7_j5 x15_l4)))) (by kernel_rfl) rfl (arr_get (f := (fun (x : List UInt8) => .exact (.string (bs x)))) n314.1 n314.2.2) ?_)
              refine Gy_q rfl rfl rfl (op_neqS rfl rfl ?_)
              refine Gy_q rfl rfl rfl (op_neqB (a := y309.1) (b := (decide (¬ (gi x7_j5 x15_l4) = ([] : List UInt8)))) (by kernel_rfl) rfl rfl ?_)
              refine G_q rfl (op_pick_f rfl (av := .exact (.bool (decide (¬ y309.1 = (decide (¬ (gi x7_j5 x15_l4) = ([] : List UInt8))))))) rfl ?_)
              refine G_q rfl (op_move (av := .exact (.bool (decide (¬ y309.1 = (decide (¬ (gi x7_j5 x15_l4) = ([] : List UInt8))))))) rfl ?_)
              refine G_split (p := ¬ y309.1 = (decide (¬ (gi x7_j5 x15_l4) = ([] : List UInt8)))) 104 rfl (fun hc => ?_) (fun hc => ?_)
              · replace h := ite_t h hc
                refine G_n rfl rfl ?_
                refine G_n rfl rfl ?_
                refine G_n rfl rfl ?_
                refine G_n rfl rfl ?_
                refine G_q rfl (op_pick_t rfl (av := .exact (.bool true)) rfl ?_)
                refine G_nil ?_
                refine kI_normal ⟨_, h, ?_⟩
                exact Sub.of_le (AF.le_put (AV.le_eq rfl) (AF.le_put (AV.le_eq rfl) (AF.le_put (AV.le_eq rfl) (AF.le_put (AV.le_eq rfl) (AF.le_top _)))))
              · replace h := ite_f h hc
                refine Gy_q rfl rfl rfl (op_move (av := .exact (.int .i64 y307.2)) rfl ?_)
                refine Gy_q rfl rfl rfl (op_eql rfl rfl ?_)
                refine Gy_q rfl rfl rfl (op_move (av := .exact (.bool y309.1)) rfl ?_)
                refine Gy_q rfl rfl rfl (op_neqB (a := (decide (y307.2 = 0))) (b := y309.1) (by kernel_rfl) rfl rfl ?_)
                refine G_q rfl (op_pick_f rfl (av := .exact (.bool (decide (¬ (decide (y307.2 = 0)) = y309.1)))) rfl ?_)
                refine G_nil ?_
                refine kI_normal ⟨_, h, ?_⟩
                exact Sub.of_le (AF.le_put (AV.le_eq rfl) (AF.le_put (AV.le_eq rfl) (AF.le_put (AV.le_eq rfl) (AF.le_put (AV.le_eq rfl) (AF.le_top _)))))
          · refine k_cond_b (c := x109_j310) rfl (fun hc => ?_) (fun hc => ?_)
            · replace h := ite_t h hc
              refine k_seq ?_
              refine k_reg .free hmixP (by kernel_rfl) ?_
              refine G_q rfl (op_assign (av := .exact (.bool false)) rfl ?_)
              refine G_nil ?_
              refine kC_normal ?_
              refine k_ret ?_
              refine kB_ret ?_
              refine kC_ret ?_
              refine kI_ret ?_
              refine kB_ret ?_
              refine kI_ret ?_
              obtain rfl := Option.some.inj h
              refine kP_any (endN (af' := (AF.put AF0 (some 4) (.exact (.bool false)))) (σ' := []) _ rfl ?_ ⟨rfl, rfl⟩)
              refine Sub.trans (SubU.to SubU.drop) ?_
              exact Sub.of_le (AF.le_put (AV.le_eq rfl) (AF.le_top _))
            · replace h := ite_f h hc
              refine k_skip ?_
              refine kB_normal ?_
              refine kC_normal ?_
              refine k_reg .free hmixP (by kernel_rfl) ?_
              refine G_q rfl (op_move (av := .exact (.int .i64 x15_l4)) rfl ?_)
              refine G_q rfl (op_add rfl rfl rfl ?_)
              refine G_q rfl (op_assign (av := .exact (.int .i64 (i64 (x15_l4 + 1)))) rfl ?_)
              refine G_nil ?_
              refine kI_normal ⟨_, h, ?_⟩
              exact Sub.of_le (AF.le_put (AV.le_eq rfl) (AF.le_put (AV.le_eq rfl) (AF.le_put (AV.le_eq rfl) (AF.le_top _))))
        · replace h := ite_f h hc
          refine k_exit ?_
          refine kC_exit ?_
          refine kI_exit ?_
          refine kB_exit ?_
          refine kI_normal ⟨h, ?_⟩
          refine Sub.trans (SubU.to SubU.drop) ?_
          exact Sub.of_le (AF.le_top _)
    · refine k_seq ?_
      refine k_reg .free hmixP (by kernel_rfl) ?_
      obtain ⟨y315, hy315, h⟩ := bnd1_some h
      refine G_q rfl (op_pure (m_law10_awake_ok _ hy315) Tryz.func8 (by kernel_rfl) LEs.nil ?_)
      refine G_q rfl (op_assign (av := .exact (.bool y315)) rfl ?_)
      refine G_nil ?_
      refine kC_normal ?_
      refine k_ret ?_
      obtain rfl := Option.some.inj h
      refine kP_any (endN (af' := (AF.put AF0 (some 4) (.exact (.bool y315)))) (σ' := []) _ rfl ?_ ⟨rfl, rfl⟩)
      exact Sub.of_le (AF.le_put (AV.le_eq rfl) (AF.le_top _))
end Go.Proofs.YtdbnodliomlilaaGreat
