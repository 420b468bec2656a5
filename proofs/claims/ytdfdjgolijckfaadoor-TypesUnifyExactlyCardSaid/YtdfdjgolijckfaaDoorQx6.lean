/- The functions compute their models, by program. -/
import Derived.Test.YtdfdjgolijckfaaDoorQx5
namespace Go.Proofs.YtdfdjgolijckfaaDoor
open Go.RowKit
attribute [local irreducible] AV.exact AV.top AV.row AV.ptr AV.agg AV.tup AV.eptr AV.fn AV.nilq AV.nilqn opA opB opM opR Quiet Loud Reads wpG awp den Sub SubU Pure Fun vecI vecT boxI CellsAll CellsOf OneC LEs LEss
set_option maxRecDepth 100000

set_option maxHeartbeats 4000000 in
theorem m_ref6_solver_add_S_ok : ∀ n : Nat, (∀ ⦃w0 : Nat⦄ ⦃w0v0 : Value⦄ ⦃w0z1 : Value⦄ (a0 : (List ((Int × Int × Int) × (List Int) × Int)) × (List (Int × Int))) (a1 : List (Int × Int × Int)) (r : Int × ((List ((Int × Int × Int) × (List Int) × Int)) × (List (Int × Int)))), m_ref6_solver_add_S n a0 a1 = some r → Fun Tryd.prog 79 [(pA w0 0), (.row 3 c_api_TypeNode a1)] [boxI 80 w0 [.exact w0v0, .exact w0z1], vecT Tryd.prog 77 5 c_cspcheckref6_shared w0v0 a0.1, mapV (fun _ => True) (fun k : Int => .int .i64 k) (fun x : Int => .exact (.int .i64 x)) w0z1 a0.2] (fun a s => ∃ zw0v0 zw0z1, a = .exact (.int .i64 r.1) ∧ s = [boxI 80 w0 [.exact zw0v0, .exact zw0z1], vecT Tryd.prog 77 5 c_cspcheckref6_shared zw0v0 r.2.1, mapV (fun _ => True) (fun k : Int => .int .i64 k) (fun x : Int => .exact (.int .i64 x)) zw0z1 r.2.2]))
  | 0 => (fun _ _ _ _ _ _ h => by have h' : (none : Option _) = some _ := h; cases h')
  | n + 1 => by
    have ih := m_ref6_solver_add_S_ok n
    exact fun w0 w0v0 w0z1 a0 a1 r h => m_ref6_solver_add_F_ok (m_ref6_solver_add_S n) ih a0 a1 r h
theorem m_ref6_solver_add_ok {w0 : Nat} {w0v0 : Value} {w0z1 : Value} (a0 : (List ((Int × Int × Int) × (List Int) × Int)) × (List (Int × Int))) (a1 : List (Int × Int × Int)) (r : Int × ((List ((Int × Int × Int) × (List Int) × Int)) × (List (Int × Int)))) (h : m_ref6_solver_add a0 a1 = some r) : Fun Tryd.prog 79 [(pA w0 0), (.row 3 c_api_TypeNode a1)] [boxI 80 w0 [.exact w0v0, .exact w0z1], vecT Tryd.prog 77 5 c_cspcheckref6_shared w0v0 a0.1, mapV (fun _ => True) (fun k : Int => .int .i64 k) (fun x : Int => .exact (.int .i64 x)) w0z1 a0.2] (fun a s => ∃ zw0v0 zw0z1, a = .exact (.int .i64 r.1) ∧ s = [boxI 80 w0 [.exact zw0v0, .exact zw0z1], vecT Tryd.prog 77 5 c_cspcheckref6_shared zw0v0 r.2.1, mapV (fun _ => True) (fun k : Int => .int .i64 k) (fun x : Int => .exact (.int .i64 x)) zw0z1 r.2.2]) := (m_ref6_solver_add_S_ok FU) a0 a1 r h
set_option maxHeartbeats 4000000 in
theorem m_ref6_solver_find_ok {w0 : Nat} {w0v0 : Value} {w0z1 : Value} (a0 : (List ((Int × Int × Int) × (List Int) × Int)) × (List (Int × Int))) (a1 : Int) (r : Int × ((List ((Int × Int × Int) × (List Int) × Int)) × (List (Int × Int)))) (h : m_ref6_solver_find a0 a1 = some r) : Fun Tryd.prog 102 [(pA w0 0), (.exact (.int .i64 a1))] [boxI 80 w0 [.exact w0v0, .exact w0z1], vecT Tryd.prog 77 5 c_cspcheckref6_shared w0v0 a0.1, mapV (fun _ => True) (fun k : Int => .int .i64 k) (fun x : Int => .exact (.int .i64 x)) w0z1 a0.2] (fun a s => ∃ zw0v0 zw0z1, a = .exact (.int .i64 r.1) ∧ s = [boxI 80 w0 [.exact zw0v0, .exact zw0z1], vecT Tryd.prog 77 5 c_cspcheckref6_shared zw0v0 r.2.1, mapV (fun _ => True) (fun k : Int => .int .i64 k) (fun x : Int => .exact (.int .i64 x)) zw0z1 r.2.2]) := by
  unfold m_ref6_solver_find at h
  refine fun_of_awp Tryd.func102 rfl Tryd.ntmps102 (by simp) rfl (res1 rfl) fun E hE => k_end ?_
  refine k_seq ?_
  refine k_reg .free hmixP (by kernel_rfl) ?_
  refine G_q rfl (op_assign (av := .exact (.int .i64 0)) rfl ?_)
  refine G_nil ?_
  refine kC_normal ?_
  refine k_join1_0 h (fun (x1_j1 : Int) => (AF.put (AF.put AF0 (some 0) (pA w0 0)) (some 1) (.exact (.int .i64 x1_j1)))) (fun (x1_j1 : Int) => [vecT Tryd.prog 77 5 c_cspcheckref6_shared w0v0 a0.1, mapV (fun _ => True) (fun k : Int => .int .i64 k) (fun x : Int => .exact (.int .i64 x)) w0z1 a0.2, boxI 80 w0 [.exact w0v0, .exact w0z1]]) (fun k1 h => ?_) (fun x1_j1 h => ?_)
  · refine k_block ?_
    refine k_loop1_0 (m_ref6_solver_find_L2 a0 k1) (m_ref6_solver_find_B2 a0 k1) (fun _ => rfl) (fun m _ => rfl) h (fun (x1_l2 : Int) => (AF.put (AF.put AF0 (some 0) (pA w0 0)) (some 1) (.exact (.int .i64 x1_l2)))) (fun (x1_l2 : Int) => [vecT Tryd.prog 77 5 c_cspcheckref6_shared w0v0 a0.1, mapV (fun _ => True) (fun k : Int => .int .i64 k) (fun x : Int => .exact (.int .i64 x)) w0z1 a0.2, boxI 80 w0 [.exact w0v0, .exact w0z1]]) ?_ (fun rec2 x1_l2 h => ?_)
    · refine Sub.trans (SubU.to SubU.f2) ?_
      refine Sub.trans (SubU.to SubU.f2) ?_
      exact Sub.of_le (AF.le_put (AV.le_eq rfl) (AF.le_put (AV.le_eq rfl) (AF.le_top _)))
    · unfold m_ref6_solver_find_B2 at h
      refine k_seq ?_
      refine k_seq ?_
      refine k_reg .free hmixP (by kernel_rfl) ?_
      refine G_q rfl (op_move (av := pA w0 0) rfl ?_)
      refine G_q rfl (op_nilCheck rfl ?_)
      refine G_q rfl (op_fieldAddr (o := 0) (by kernel_rfl) rfl ?_)
      refine G_r rfl (opR_f2 (op_load_box1 (a := .exact w0v0) (by kernel_rfl) rfl rfl ?_))
      refine G_q rfl (op_move (av := .exact (.int .i64 x1_l2)) rfl ?_)
      obtain ⟨n13, h⟩ := need_some h
      refine G_r rfl (op_index_vec (by kernel_rfl) rfl rfl n13.1 n13.2 ?_)
      refine G_q rfl (op_field_eptr (o := 4) (by kernel_rfl) rfl ?_)
      refine G_r rfl (op_load_vec1 (i := x1_l2) (o := 4) (a := .exact (.int .i64 ((gi a0.1 x1_l2).2.2))) (by kernel_rfl) len_c_cspcheckref6_shared rfl n13.1 n13.2 rfl ?_)
      refine G_q rfl (op_geq rfl rfl ?_)
      refine G_nil ?_
      refine kC_normal ?_
      refine k_cond_d (p := 0 ≤ ((gi a0.1 x1_l2).2.2)) rfl (fun hc => ?_) (fun hc => ?_)
      · replace h := ite_t h hc
        refine k_skip ?_
        refine kC_normal ?_
        refine k_block ?_
        refine k_reg .free hmixP (by kernel_rfl) ?_
        refine G_q rfl (op_move (av := pA w0 0) rfl ?_)
        refine G_q rfl (op_nilCheck rfl ?_)
        refine G_q rfl (op_fieldAddr (o := 0) (by kernel_rfl) rfl ?_)
        refine G_r rfl (opR_f2 (op_load_box1 (a := .exact w0v0) (by kernel_rfl) rfl rfl ?_))
        refine G_q rfl (op_move (av := .exact (.int .i64 x1_l2)) rfl ?_)
        obtain ⟨n14, h⟩ := need_some h
        refine G_r rfl (op_index_vec (by kernel_rfl) rfl rfl n14.1 n14.2 ?_)
        refine G_q rfl (op_field_eptr (o := 4) (by kernel_rfl) rfl ?_)
        refine G_r rfl (op_load_vec1 (i := x1_l2) (o := 4) (a := .exact (.int .i64 ((gi a0.1 x1_l2).2.2))) (by kernel_rfl) len_c_cspcheckref6_shared rfl n14.1 n14.2 rfl ?_)
        refine G_q rfl (op_assign (av := .exact (.int .i64 ((gi a0.1 x1_l2).2.2))) rfl ?_)
        refine G_nil ?_
        refine kB_normal ?_
        refine kI_normal ⟨_, h, ?_⟩
        exact Sub.of_le (AF.le_put (AV.le_eq rfl) (AF.le_put (AV.le_eq rfl) (AF.le_top _)))
      · replace h := ite_f h hc
        refine k_exit ?_
        refine kC_exit ?_
        refine kI_exit ?_
        refine kB_exit ?_
        refine kI_normal ⟨_, h, ?_⟩
        exact Sub.of_le (AF.le_put (AV.le_eq rfl) (AF.le_put (AV.le_eq rfl) (AF.le_top _)))
  · refine k_seq ?_
    refine k_reg .free hmixP (by kernel_rfl) ?_
    refine G_q rfl (op_move (av := .exact (.int .i64 x1_j1)) rfl ?_)
    refine G_q rfl (op_assign (av := .exact (.int .i64 x1_j1)) rfl ?_)
    refine G_nil ?_
    refine kC_normal ?_
    refine k_ret ?_
    obtain rfl := Option.some.inj h
    refine kP_any (endN (af' := (AF.put AF0 (some 4) (.exact (.int .i64 x1_j1)))) (σ' := [boxI 80 w0 [.exact w0v0, .exact w0z1], vecT Tryd.prog 77 5 c_cspcheckref6_shared w0v0 a0.1, mapV (fun _ => True) (fun k : Int => .int .i64 k) (fun x : Int => .exact (.int .i64 x)) w0z1 a0.2]) _ rfl ?_ ⟨w0v0, w0z1, rfl, rfl⟩)
    refine Sub.trans (SubU.to SubU.f1) ?_
    refine Sub.trans (SubU.to SubU.f1) ?_
    refine Sub.trans (SubU.to SubU.f2) ?_
    exact Sub.of_le (AF.le_put (AV.le_eq rfl) (AF.le_top _))
set_option maxHeartbeats 4000000 in
theorem m_ref6_solver_contains_F_ok {w0 : Nat} {w0v0 : Value} {w0z1 : Value} {w3 : Value} (self_ref6_solver_contains : ((List ((Int × Int × Int) × (List Int) × Int)) × (List (Int × Int))) → Int → Int → (List Bool) → Option (Bool × ((List ((Int × Int × Int) × (List Int) × Int)) × (List (Int × Int))) × (List Bool))) (hself_ref6_solver_contains : ∀ ⦃w0 : Nat⦄ ⦃w0v0 : Value⦄ ⦃w0z1 : Value⦄ ⦃w3 : Value⦄ (a0 : (List ((Int × Int × Int) × (List Int) × Int)) × (List (Int × Int))) (a1 : Int) (a2 : Int) (a3 : List Bool) (r : Bool × ((List ((Int × Int × Int) × (List Int) × Int)) × (List (Int × Int))) × (List Bool)), self_ref6_solver_contains a0 a1 a2 a3 = some r → Fun Tryd.prog 103 [(pA w0 0), (.exact (.int .i64 a1)), (.exact (.int .i64 a2)), (.exact w3)] [boxI 80 w0 [.exact w0v0, .exact w0z1], vecT Tryd.prog 77 5 c_cspcheckref6_shared w0v0 a0.1, mapV (fun _ => True) (fun k : Int => .int .i64 k) (fun x : Int => .exact (.int .i64 x)) w0z1 a0.2, vecT Tryd.prog 145 1 c_bool w3 a3] (fun a s => ∃ zw0v0 zw0z1, a = .exact (.bool r.1) ∧ s = [boxI 80 w0 [.exact zw0v0, .exact zw0z1], vecT Tryd.prog 77 5 c_cspcheckref6_shared zw0v0 r.2.1.1, mapV (fun _ => True) (fun k : Int => .int .i64 k) (fun x : Int => .exact (.int .i64 x)) zw0z1 r.2.1.2, vecT Tryd.prog 145 1 c_bool w3 r.2.2])) (a0 : (List ((Int × Int × Int) × (List Int) × Int)) × (List (Int × Int))) (a1 : Int) (a2 : Int) (a3 : List Bool) (r : Bool × ((List ((Int × Int × Int) × (List Int) × Int)) × (List (Int × Int))) × (List Bool)) (h : m_ref6_solver_contains_F self_ref6_solver_contains a0 a1 a2 a3 = some r) : Fun Tryd.prog 103 [(pA w0 0), (.exact (.int .i64 a1)), (.exact (.int .i64 a2)), (.exact w3)] [boxI 80 w0 [.exact w0v0, .exact w0z1], vecT Tryd.prog 77 5 c_cspcheckref6_shared w0v0 a0.1, mapV (fun _ => True) (fun k : Int => .int .i64 k) (fun x : Int => .exact (.int .i64 x)) w0z1 a0.2, vecT Tryd.prog 145 1 c_bool w3 a3] (fun a s => ∃ zw0v0 zw0z1, a = .exact (.bool r.1) ∧ s = [boxI 80 w0 [.exact zw0v0, .exact zw0z1], vecT Tryd.prog 77 5 c_cspcheckref6_shared zw0v0 r.2.1.1, mapV (fun _ => True) (fun k : Int => .int .i64 k) (fun x : Int => .exact (.int .i64 x)) zw0z1 r.2.1.2, vecT Tryd.prog 145 1 c_bool w3 r.2.2]) := by
  unfold m_ref6_solver_contains_F at h
  refine fun_of_awp Tryd.func103 rfl Tryd.ntmps103 (by simp) rfl (res1 rfl) fun E hE => k_end ?_
  refine k_seq ?_
  refine k_reg .free hmixP (by kernel_rfl) ?_
  refine G_q rfl (op_assign (av := .exact (.bool false)) rfl ?_)
  refine G_nil ?_
  refine kC_normal ?_
  refine k_seq ?_
  refine k_reg .free hmixP (by kernel_rfl) ?_
  refine G_q rfl (op_move (av := pA w0 0) rfl ?_)
  refine G_q rfl (op_move (av := .exact (.int .i64 a1)) rfl ?_)
  obtain ⟨y1, hy1, h⟩ := bnd1_some h
  refine G_l rfl (opB_f2 (opB_f2 (opB_f2 (op_fun_3_2_3 (m_ref6_solver_find_ok _ _ _ hy1) Tryd.func102 (by kernel_rfl) (LEs.cons (AV.le_eq rfl) (LEs.cons (AV.le_eq rfl) LEs.nil)) (fun q2v0 q2z1 => ?_)))))
  refine G_q rfl (op_assign (av := .exact (.int .i64 y1.1)) rfl ?_)
  refine G_nil ?_
  refine kC_normal ?_
  refine k_seq ?_
  refine k_join1_0 h (fun (x21_j7 : Bool) => (AF.put (AF.put (AF.put (AF.put (AF.put AF0 (some 0) (pA w0 0)) (some 1) (.exact (.int .i64 y1.1))) (some 2) (.exact (.int .i64 a2))) (some 3) (.exact w3)) (some 21) (.exact (.bool x21_j7)))) (fun (x21_j7 : Bool) => [vecT Tryd.prog 77 5 c_cspcheckref6_shared q2v0 y1.2.1, mapV (fun _ => True) (fun k : Int => .int .i64 k) (fun x : Int => .exact (.int .i64 x)) q2z1 y1.2.2, boxI 80 w0 [.exact q2v0, .exact q2z1], vecT Tryd.prog 145 1 c_bool w3 a3]) (fun k7 h => ?_) (fun x21_j7 h => ?_)
  · refine k_reg .free hmixP (by kernel_rfl) ?_
    refine G_q rfl (op_move (av := .exact (.int .i64 y1.1)) rfl ?_)
    refine G_q rfl (op_move (av := .exact (.int .i64 a2)) rfl ?_)
    refine G_q rfl (op_eql rfl rfl ?_)
    refine G_q rfl (op_move (av := .exact (.bool (decide (y1.1 = a2)))) rfl ?_)
    refine G_split (p := y1.1 = a2) 16 rfl (fun hc => ?_) (fun hc => ?_)
    · replace h := ite_t h hc
      refine G_n rfl rfl ?_
      refine G_n rfl rfl ?_
      refine G_n rfl rfl ?_
      refine G_n rfl rfl ?_
      refine G_q rfl (op_pick_t rfl (av := .exact (.bool true)) rfl ?_)
      refine G_nil ?_
      refine kI_normal ⟨_, h, ?_⟩
      refine Sub.trans (SubU.to SubU.f3) ?_
      refine Sub.trans (SubU.to SubU.f1) ?_
      refine Sub.trans (SubU.to SubU.f3) ?_
      refine Sub.trans (SubU.to SubU.f3) ?_
      exact Sub.of_le (AF.le_put (AV.le_eq rfl) (AF.le_put (AV.le_eq rfl) (AF.le_put (AV.le_eq rfl) (AF.le_put (AV.le_eq rfl) (AF.le_put (AV.le_eq rfl) (AF.le_top _))))))
    · replace h := ite_f h hc
      refine Gy_q rfl rfl rfl (op_move (av := .exact w3) rfl ?_)
      refine Gy_q rfl rfl rfl (op_move (av := .exact (.int .i64 y1.1)) rfl ?_)
      obtain ⟨n9, h⟩ := need_some h
      refine Gy_r rfl rfl rfl (opR_f3 (op_index_vec (by kernel_rfl) rfl rfl n9.1 n9.2 ?_))
      refine Gy_r rfl rfl rfl (opR_f3 (op_load_vec1 (i := y1.1) (o := 0) (a := .exact (.bool (gi a3 y1.1))) (by kernel_rfl) len_c_bool rfl n9.1 n9.2 rfl ?_))
      refine G_q rfl (op_pick_f rfl (av := .exact (.bool (gi a3 y1.1))) rfl ?_)
      refine G_nil ?_
      refine kI_normal ⟨_, h, ?_⟩
      refine Sub.trans (SubU.to SubU.f3) ?_
      refine Sub.trans (SubU.to SubU.f1) ?_
      refine Sub.trans (SubU.to SubU.f3) ?_
      refine Sub.trans (SubU.to SubU.f3) ?_
      exact Sub.of_le (AF.le_put (AV.le_eq rfl) (AF.le_put (AV.le_eq rfl) (AF.le_put (AV.le_eq rfl) (AF.le_put (AV.le_eq rfl) (AF.le_put (AV.le_eq rfl) (AF.le_top _))))))
  · refine k_cond_b (c := x21_j7) rfl (fun hc => ?_) (fun hc => ?_)
    · replace h := ite_t h hc
      refine k_seq ?_
      refine k_reg .free hmixP (by kernel_rfl) ?_
      refine G_q rfl (op_move (av := .exact (.int .i64 y1.1)) rfl ?_)
      refine G_q rfl (op_move (av := .exact (.int .i64 a2)) rfl ?_)
      refine G_q rfl (op_eql rfl rfl ?_)
      refine G_q rfl (op_assign (av := .exact (.bool (decide (y1.1 = a2)))) rfl ?_)
      refine G_nil ?_
      refine kC_normal ?_
      refine k_ret ?_
      refine kC_ret ?_
      obtain rfl := Option.some.inj h
      refine kP_any (endN (af' := (AF.put AF0 (some 8) (.exact (.bool (decide (y1.1 = a2)))))) (σ' := [boxI 80 w0 [.exact q2v0, .exact q2z1], vecT Tryd.prog 77 5 c_cspcheckref6_shared q2v0 y1.2.1, mapV (fun _ => True) (fun k : Int => .int .i64 k) (fun x : Int => .exact (.int .i64 x)) q2z1 y1.2.2, vecT Tryd.prog 145 1 c_bool w3 a3]) _ rfl ?_ ⟨q2v0, q2z1, rfl, rfl⟩)
      refine Sub.trans (SubU.to SubU.f3) ?_
      refine Sub.trans (SubU.to SubU.f2) ?_
      refine Sub.trans (SubU.to SubU.f2) ?_
      refine Sub.trans (SubU.to SubU.f3) ?_
      exact Sub.of_le (AF.le_put (AV.le_eq rfl) (AF.le_top _))
    · replace h := ite_f h hc
      refine k_skip ?_
      refine kC_normal ?_
      refine k_seq ?_
      refine k_reg .free hmixP (by kernel_rfl) ?_
      refine G_q rfl (op_move (av := .exact w3) rfl ?_)
      refine G_q rfl (op_move (av := .exact (.int .i64 y1.1)) rfl ?_)
      obtain ⟨n10, h⟩ := need_some h
      refine G_r rfl (opR_f3 (op_index_vec (by kernel_rfl) rfl rfl n10.1 n10.2 ?_))
      refine G_l rfl (opB_f3 (op_store_vec (i := y1.1) (o := 0) (z := true) (c' := [.exact (.bool true)]) (by kernel_rfl) len_c_bool rfl n10.1 n10.2 rfl CellsOf.bool (LEs.cons (AV.le_eq rfl) LEs.nil) (OneC.bool OneC.nil) (by kernel_rfl) (Nat.le_of_ble_eq_true rfl) rfl ?_))
      refine G_nil ?_
      refine kC_normal ?_
      refine k_join3_2 h (fun (x0_0_j11 : List ((Int × Int × Int) × (List Int) × Int)) (x0_1_j11 : List (Int × Int)) (x3_j11 : List Bool) (v0_0_j11 : Value) (b0_1_j11 : Value) => (AF.put (AF.put AF0 (some 0) (pA w0 0)) (some 3) (.exact w3))) (fun (x0_0_j11 : List ((Int × Int × Int) × (List Int) × Int)) (x0_1_j11 : List (Int × Int)) (x3_j11 : List Bool) (v0_0_j11 : Value) (b0_1_j11 : Value) => [vecT Tryd.prog 77 5 c_cspcheckref6_shared v0_0_j11 x0_0_j11, mapV (fun _ => True) (fun k : Int => .int .i64 k) (fun x : Int => .exact (.int .i64 x)) b0_1_j11 x0_1_j11, boxI 80 w0 [.exact v0_0_j11, .exact b0_1_j11], vecT Tryd.prog 145 1 c_bool w3 x3_j11]) (fun k11 h => ?_) (fun x0_0_j11 x0_1_j11 x3_j11 v0_0_j11 b0_1_j11 h => ?_)
      · refine k_seq ?_
        refine k_reg .free hmixP (by kernel_rfl) ?_
        refine G_q rfl (op_assign (av := .exact (.int .i64 0)) rfl ?_)
        refine G_nil ?_
        refine kC_normal ?_
        refine k_block ?_
        refine k_loop4_2 (m_ref6_solver_contains_L2 self_ref6_solver_contains a2 y1 k11) (m_ref6_solver_contains_B2 self_ref6_solver_contains a2 y1 k11) (fun _ _ _ _ => rfl) (fun m _ _ _ _ => rfl) h (fun (x0_0_l2 : List ((Int × Int × Int) × (List Int) × Int)) (x0_1_l2 : List (Int × Int)) (x3_l2 : List Bool) (x9_l2 : Int) (v0_0_l2 : Value) (b0_1_l2 : Value) => (AF.put (AF.put (AF.put (AF.put (AF.put AF0 (some 0) (pA w0 0)) (some 1) (.exact (.int .i64 y1.1))) (some 2) (.exact (.int .i64 a2))) (some 3) (.exact w3)) (some 9) (.exact (.int .i64 x9_l2)))) (fun (x0_0_l2 : List ((Int × Int × Int) × (List Int) × Int)) (x0_1_l2 : List (Int × Int)) (x3_l2 : List Bool) (x9_l2 : Int) (v0_0_l2 : Value) (b0_1_l2 : Value) => [vecT Tryd.prog 77 5 c_cspcheckref6_shared v0_0_l2 x0_0_l2, mapV (fun _ => True) (fun k : Int => .int .i64 k) (fun x : Int => .exact (.int .i64 x)) b0_1_l2 x0_1_l2, boxI 80 w0 [.exact v0_0_l2, .exact b0_1_l2], vecT Tryd.prog 145 1 c_bool w3 x3_l2]) q2v0 q2z1 ?_ (fun rec2 x0_0_l2 x0_1_l2 x3_l2 x9_l2 v0_0_l2 b0_1_l2 h => ?_)
        · refine Sub.trans (SubU.to SubU.f3) ?_
          refine Sub.trans (SubU.to SubU.f3) ?_
          refine Sub.trans (SubU.to SubU.f3) ?_
          exact Sub.of_le (AF.le_put (AV.le_eq rfl) (AF.le_put (AV.le_eq rfl) (AF.le_put (AV.le_eq rfl) (AF.le_put (AV.le_eq rfl) (AF.le_put (AV.le_eq rfl) (AF.le_top _))))))
        · unfold m_ref6_solver_contains_B2 at h
          refine k_seq ?_
          refine k_seq ?_
          refine k_reg .free hmixP (by kernel_rfl) ?_
          refine G_q rfl (op_move (av := .exact (.int .i64 x9_l2)) rfl ?_)
          refine G_q rfl (op_move (av := pA w0 0) rfl ?_)
          refine G_q rfl (op_nilCheck rfl ?_)
          refine G_q rfl (op_fieldAddr (o := 0) (by kernel_rfl) rfl ?_)
          refine G_r rfl (opR_f2 (op_load_box1 (a := .exact v0_0_l2) (by kernel_rfl) rfl rfl ?_))
          refine G_q rfl (op_move (av := .exact (.int .i64 y1.1)) rfl ?_)
          obtain ⟨n38, h⟩ := need_some h
          refine G_r rfl (op_index_vec (by kernel_rfl) rfl rfl n38.1 n38.2 ?_)
          refine G_q rfl (op_field_eptr (o := 3) (by kernel_rfl) rfl ?_)
          refine G_r rfl (op_load_vec1 (i := y1.1) (o := 3) (a := .row 1 c_int ((gi x0_0_l2 y1.1).2.1)) (by kernel_rfl) len_c_cspcheckref6_shared rfl n38.1 n38.2 rfl ?_)
          refine G_q rfl (op_len_row (by kernel_rfl) rfl ?_)
          refine G_q rfl (op_lss rfl rfl ?_)
          refine G_nil ?_
          refine kC_normal ?_
          refine k_cond_d (p := x9_l2 < (List.length ((gi x0_0_l2 y1.1).2.1) : Int)) rfl (fun hc => ?_) (fun hc => ?_)
          · replace h := ite_t h hc
            refine k_skip ?_
            refine kC_normal ?_
            refine k_seq ?_
            refine k_block ?_
            refine k_seq ?_
            refine k_reg .free hmixP (by kernel_rfl) ?_
            refine G_q rfl (op_move (av := pA w0 0) rfl ?_)
            refine G_q rfl (op_move (av := pA w0 0) rfl ?_)
            refine G_q rfl (op_nilCheck rfl ?_)
            refine G_q rfl (op_fieldAddr (o := 0) (by kernel_rfl) rfl ?_)
            refine G_r rfl (opR_f2 (op_load_box1 (a := .exact v0_0_l2) (by kernel_rfl) rfl rfl ?_))
            refine G_q rfl (op_move (av := .exact (.int .i64 y1.1)) rfl ?_)
            obtain ⟨n39, h⟩ := need_some h
            refine G_r rfl (op_index_vec (by kernel_rfl) rfl rfl n39.1 n39.2 ?_)
            refine G_q rfl (op_field_eptr (o := 3) (by kernel_rfl) rfl ?_)
            refine G_r rfl (op_load_vec1 (i := y1.1) (o := 3) (a := .row 1 c_int ((gi x0_0_l2 y1.1).2.1)) (by kernel_rfl) len_c_cspcheckref6_shared rfl n39.1 n39.2 rfl ?_)
            refine G_q rfl (op_move (av := .exact (.int .i64 x9_l2)) rfl ?_)
            obtain ⟨n40, h⟩ := need_some h
            refine G_q rfl (op_index_row (by kernel_rfl) rfl rfl n40.1 n40.2 ?_)
            refine G_q rfl (op_load1p (a := .exact (.int .i64 (gi ((gi x0_0_l2 y1.1).2.1) x9_l2))) (by kernel_rfl) rfl rfl ?_)
            refine G_q rfl (op_move (av := .exact (.int .i64 a2)) rfl ?_)
            refine G_q rfl (op_move (av := .exact w3) rfl ?_)
            obtain ⟨y41, hy41, h⟩ := bnd1_some h
            refine G_l rfl (opB_f3 (opB_f2 (opB_f2 (opB_f3 (op_fun_4_2_4 (hself_ref6_solver_contains _ _ _ _ _ hy41) Tryd.func103 (by kernel_rfl) (LEs.cons (AV.le_eq rfl) (LEs.cons (AV.le_eq rfl) (LEs.cons (AV.le_eq rfl) (LEs.cons (AV.le_eq rfl) LEs.nil)))) (fun q42v0 q42z1 => ?_))))))
            refine G_nil ?_
            refine kC_normal ?_
            refine k_cond_b (c := y41.1) rfl (fun hc => ?_) (fun hc => ?_)
            · replace h := ite_t h hc
              refine k_seq ?_
              refine k_reg .free hmixP (by kernel_rfl) ?_
              refine G_q rfl (op_assign (av := .exact (.bool true)) rfl ?_)
              refine G_nil ?_
              refine kC_normal ?_
              refine k_ret ?_
              refine kB_ret ?_
              refine kC_ret ?_
              refine kI_ret ?_
              refine kB_ret ?_
              refine kI_ret ?_
              obtain rfl := Option.some.inj h
              refine kP_any (endN (af' := (AF.put AF0 (some 8) (.exact (.bool true)))) (σ' := [boxI 80 w0 [.exact q42v0, .exact q42z1], vecT Tryd.prog 77 5 c_cspcheckref6_shared q42v0 y41.2.1.1, mapV (fun _ => True) (fun k : Int => .int .i64 k) (fun x : Int => .exact (.int .i64 x)) q42z1 y41.2.1.2, vecT Tryd.prog 145 1 c_bool w3 y41.2.2]) _ rfl ?_ ⟨q42v0, q42z1, rfl, rfl⟩)
              exact Sub.of_le (AF.le_put (AV.le_eq rfl) (AF.le_top _))
            · replace h := ite_f h hc
              refine k_skip ?_
              refine kB_normal ?_
              refine kC_normal ?_
              refine k_reg .free hmixP (by kernel_rfl) ?_
              refine G_q rfl (op_move (av := .exact (.int .i64 x9_l2)) rfl ?_)
              refine G_q rfl (op_add rfl rfl rfl ?_)
              refine G_q rfl (op_assign (av := .exact (.int .i64 (i64 (x9_l2 + 1)))) rfl ?_)
              refine G_nil ?_
              refine kI_normal ⟨_, _, _, _, q42v0, q42z1, h, ?_⟩
              refine Sub.trans (SubU.to SubU.f3) ?_
              refine Sub.trans (SubU.to SubU.f1) ?_
              refine Sub.trans (SubU.to SubU.f3) ?_
              refine Sub.trans (SubU.to SubU.f3) ?_
              exact Sub.of_le (AF.le_put (AV.le_eq rfl) (AF.le_put (AV.le_eq rfl) (AF.le_put (AV.le_eq rfl) (AF.le_put (AV.le_eq rfl) (AF.le_put (AV.le_eq rfl) (AF.le_top _))))))
          · replace h := ite_f h hc
            refine k_exit ?_
            refine kC_exit ?_
            refine kI_exit ?_
            refine kB_exit ?_
            refine kI_normal ⟨_, _, _, v0_0_l2, b0_1_l2, h, ?_⟩
            exact Sub.of_le (AF.le_put (AV.le_eq rfl) (AF.le_put (AV.le_eq rfl) (AF.le_top _)))
      · refine k_seq ?_
        refine k_reg .free hmixP (by kernel_rfl) ?_
        refine G_q rfl (op_assign (av := .exact (.bool false)) rfl ?_)
        refine G_nil ?_
        refine kC_normal ?_
        refine k_ret ?_
        obtain rfl := Option.some.inj h
        refine kP_any (endN (af' := (AF.put AF0 (some 8) (.exact (.bool false)))) (σ' := [boxI 80 w0 [.exact v0_0_j11, .exact b0_1_j11], vecT Tryd.prog 77 5 c_cspcheckref6_shared v0_0_j11 x0_0_j11, mapV (fun _ => True) (fun k : Int => .int .i64 k) (fun x : Int => .exact (.int .i64 x)) b0_1_j11 x0_1_j11, vecT Tryd.prog 145 1 c_bool w3 x3_j11]) _ rfl ?_ ⟨v0_0_j11, b0_1_j11, rfl, rfl⟩)
        refine Sub.trans (SubU.to SubU.f3) ?_
        refine Sub.trans (SubU.to SubU.f2) ?_
        refine Sub.trans (SubU.to SubU.f2) ?_
        refine Sub.trans (SubU.to SubU.f3) ?_
        exact Sub.of_le (AF.le_put (AV.le_eq rfl) (AF.le_top _))
set_option maxHeartbeats 4000000 in
theorem m_ref6_solver_contains_S_ok : ∀ n : Nat, (∀ ⦃w0 : Nat⦄ ⦃w0v0 : Value⦄ ⦃w0z1 : Value⦄ ⦃w3 : Value⦄ (a0 : (List ((Int × Int × Int) × (List Int) × Int)) × (List (Int × Int))) (a1 : Int) (a2 : Int) (a3 : List Bool) (r : Bool × ((List ((Int × Int × Int) × (List Int) × Int)) × (List (Int × Int))) × (List Bool)), m_ref6_solver_contains_S n a0 a1 a2 a3 = some r → Fun Tryd.prog 103 [(pA w0 0), (.exact (.int .i64 a1)), (.exact (.int .i64 a2)), (.exact w3)] [boxI 80 w0 [.exact w0v0, .exact w0z1], vecT Tryd.prog 77 5 c_cspcheckref6_shared w0v0 a0.1, mapV (fun _ => True) (fun k : Int => .int .i64 k) (fun x : Int => .exact (.int .i64 x)) w0z1 a0.2, vecT Tryd.prog 145 1 c_bool w3 a3] (fun a s => ∃ zw0v0 zw0z1, a = .exact (.bool r.1) ∧ s = [boxI 80 w0 [.exact zw0v0, .exact zw0z1], vecT Tryd.prog 77 5 c_cspcheckref6_shared zw0v0 r.2.1.1, mapV (fun _ => True) (fun k : Int => .int .i64 k) (fun x : Int => .exact (.int .i64 x)) zw0z1 r.2.1.2, vecT Tryd.prog 145 1 c_bool w3 r.2.2]))
  | 0 => (fun _ _ _ _ _ _ _ _ _ h => by have h' : (none : Option _) = some _ := h; cases h')
  | n + 1 => by
    have ih := m_ref6_solver_contains_S_ok n
    exact fun w0 w0v0 w0z1 w3 a0 a1 a2 a3 r h => m_ref6_solver_contains_F_ok (m_ref6_solver_contains_S n) ih a0 a1 a2 a3 r h
theorem m_ref6_solver_contains_ok {w0 : Nat} {w0v0 : Value} {w0z1 : Value} {w3 : Value} (a0 : (List ((Int × Int × Int) × (List Int) × Int)) × (List (Int × Int))) (a1 : Int) (a2 : Int) (a3 : List Bool) (r : Bool × ((List ((Int × Int × Int) × (List Int) × Int)) × (List (Int × Int))) × (List Bool)) (h : m_ref6_solver_contains a0 a1 a2 a3 = some r) : Fun Tryd.prog 103 [(pA w0 0), (.exact (.int .i64 a1)), (.exact (.int .i64 a2)), (.exact w3)] [boxI 80 w0 [.exact w0v0, .exact w0z1], vecT Tryd.prog 77 5 c_cspcheckref6_shared w0v0 a0.1, mapV (fun _ => True) (fun k : Int => .int .i64 k) (fun x : Int => .exact (.int .i64 x)) w0z1 a0.2, vecT Tryd.prog 145 1 c_bool w3 a3] (fun a s => ∃ zw0v0 zw0z1, a = .exact (.bool r.1) ∧ s = [boxI 80 w0 [.exact zw0v0, .exact zw0z1], vecT Tryd.prog 77 5 c_cspcheckref6_shared zw0v0 r.2.1.1, mapV (fun _ => True) (fun k : Int => .int .i64 k) (fun x : Int => .exact (.int .i64 x)) zw0z1 r.2.1.2, vecT Tryd.prog 145 1 c_bool w3 r.2.2]) := (m_ref6_solver_contains_S_ok FU) a0 a1 a2 a3 r h
set_option maxHeartbeats 4000000 in
theorem m_ref6_solver_same_F_ok {w0 : Nat} {w0v0 : Value} {w0z1 : Value} (self_ref6_solver_same : ((List ((Int × Int × Int) × (List Int) × Int)) × (List (Int × Int))) → Int → Int → Option (Int × ((List ((Int × Int × Int) × (List Int) × Int)) × (List (Int × Int))))) (hself_ref6_solver_same : ∀ ⦃w0 : Nat⦄ ⦃w0v0 : Value⦄ ⦃w0z1 : Value⦄ (a0 : (List ((Int × Int × Int) × (List Int) × Int)) × (List (Int × Int))) (a1 : Int) (a2 : Int) (r : Int × ((List ((Int × Int × Int) × (List Int) × Int)) × (List (Int × Int)))), self_ref6_solver_same a0 a1 a2 = some r → Fun Tryd.prog 78 [(pA w0 0), (.exact (.int .i64 a1)), (.exact (.int .i64 a2))] [boxI 80 w0 [.exact w0v0, .exact w0z1], vecT Tryd.prog 77 5 c_cspcheckref6_shared w0v0 a0.1, mapV (fun _ => True) (fun k : Int => .int .i64 k) (fun x : Int => .exact (.int .i64 x)) w0z1 a0.2] (fun a s => ∃ zw0v0 zw0z1, a = .exact (.int .i64 r.1) ∧ s = [boxI 80 w0 [.exact zw0v0, .exact zw0z1], vecT Tryd.prog 77 5 c_cspcheckref6_shared zw0v0 r.2.1, mapV (fun _ => True) (fun k : Int => .int .i64 k) (fun x : Int => .exact (.int .i64 x)) zw0z1 r.2.2])) (a0 : (List ((Int × Int × Int) × (List Int) × Int)) × (List (Int × Int))) (a1 : Int) (a2 : Int) (r : Int × ((List ((Int × Int × Int) × (List Int) × Int)) × (List (Int × Int)))) (h : m_ref6_solver_same_F self_ref6_solver_same a0 a1 a2 = some r) : Fun Tryd.prog 78 [(pA w0 0), (.exact (.int .i64 a1)), (.exact (.int .i64 a2))] [boxI 80 w0 [.exact w0v0, .exact w0z1], vecT Tryd.prog 77 5 c_cspcheckref6_shared w0v0 a0.1, mapV (fun _ => True) (fun k : Int => .int .i64 k) (fun x : Int => .exact (.int .i64 x)) w0z1 a0.2] (fun a s => ∃ zw0v0 zw0z1, a = .exact (.int .i64 r.1) ∧ s = [boxI 80 w0 [.exact zw0v0, .exact zw0z1], vecT Tryd.prog 77 5 c_cspcheckref6_shared zw0v0 r.2.1, mapV (fun _ => True) (fun k : Int => .int .i64 k) (fun x : Int => .exact (.int .i64 x)) zw0z1 r.2.2]) := by
  unfold m_ref6_solver_same_F at h
  refine fun_of_awp Tryd.func78 rfl Tryd.ntmps78 (by simp) rfl (res1 rfl) fun E hE => k_end ?_
  refine k_seq ?_
  refine k_reg .free hmixP (by kernel_rfl) ?_
  refine G_q rfl (op_assign (av := .exact (.int .i64 0)) rfl ?_)
  refine G_nil ?_
  refine kC_normal ?_
  refine k_seq ?_
  refine k_reg .free hmixP (by kernel_rfl) ?_
  refine G_q rfl (op_move (av := pA w0 0) rfl ?_)
  refine G_q rfl (op_move (av := .exact (.int .i64 a1)) rfl ?_)
  obtain ⟨y1, hy1, h⟩ := bnd1_some h
  refine G_l rfl (opB_f2 (opB_f2 (opB_f2 (op_fun_3_2_3 (m_ref6_solver_find_ok _ _ _ hy1) Tryd.func102 (by kernel_rfl) (LEs.cons (AV.le_eq rfl) (LEs.cons (AV.le_eq rfl) LEs.nil)) (fun q2v0 q2z1 => ?_)))))
  refine G_q rfl (op_move (av := pA w0 0) rfl ?_)
  refine G_q rfl (op_move (av := .exact (.int .i64 a2)) rfl ?_)
  obtain ⟨y3, hy3, h⟩ := bnd1_some h
  refine G_l rfl (opB_f2 (opB_f2 (opB_f2 (op_fun_3_2_3 (m_ref6_solver_find_ok _ _ _ hy3) Tryd.func102 (by kernel_rfl) (LEs.cons (AV.le_eq rfl) (LEs.cons (AV.le_eq rfl) LEs.nil)) (fun q4v0 q4z1 => ?_)))))
  refine G_q rfl (op_assign (av := .exact (.int .i64 y1.1)) rfl ?_)
  refine G_q rfl (op_assign (av := .exact (.int .i64 y3.1)) rfl ?_)
  refine G_nil ?_
  refine kC_normal ?_
  refine k_seq ?_
  refine k_planE [boxI 80 w0 [.exact q4v0, .exact q4z1], vecT Tryd.prog 77 5 c_cspcheckref6_shared q4v0 y3.2.1] [.op 0 0, .op 0 1, .op 0 2, .op 0 4, .op 0 8, .op 0 9, .op 0 10, .op 0 12, .op 4 3, .op 4 5, .op 0 6, .op 4 7, .op 4 11, .op 4 13, .op 0 14, .op 4 15, .new 16 7 41 [.exact (.int .i64 ((0, 0, 0).1)), .exact (.int .i64 ((0, 0, 0).2.1)), .exact (.int .i64 ((0, 0, 0).2.2))], .new 17 8 41 [.exact (.int .i64 ((0, 0, 0).1)), .exact (.int .i64 ((0, 0, 0).2.1)), .exact (.int .i64 ((0, 0, 0).2.2))], .op 3 18, .op 2 19] hmixP (by kernel_rfl) (NewOK.many [(0, 0), (0, 1), (0, 2), (0, 4), (0, 8), (0, 9), (0, 10), (0, 12), (4, 3), (4, 5), (0, 6), (4, 7), (4, 11), (4, 13), (0, 14), (4, 15)] rfl (NewOK.fresh rfl rfl (LEs.cons (AV.le_eq rfl) (LEs.cons (AV.le_eq rfl) (LEs.cons (AV.le_eq rfl) LEs.nil))) (NewOK.fresh rfl rfl (LEs.cons (AV.le_eq rfl) (LEs.cons (AV.le_eq rfl) (LEs.cons (AV.le_eq rfl) LEs.nil))) (NewOK.many [(3, 18), (2, 19)] rfl NewOK.nil)))) ?_
  refine S_go [(0, 0), (0, 1), (0, 2), (0, 4), (0, 8), (0, 9), (0, 10), (0, 12), (4, 3), (4, 5), (0, 6), (4, 7), (4, 11), (4, 13), (0, 14), (4, 15)] rfl ?_
  refine P_q no34_0 rfl (op_move (av := pA w0 0) rfl ?_)
  refine P_q no34_0 rfl (op_nilCheck rfl ?_)
  refine P_q no34_0 rfl (op_fieldAddr (o := 0) (by kernel_rfl) rfl ?_)
  refine P_q no34_0 rfl (op_move (av := .exact (.int .i64 y1.1)) rfl ?_)
  refine P_q no34_0 rfl (op_move (av := pA w0 0) rfl ?_)
  refine P_q no34_0 rfl (op_nilCheck rfl ?_)
  refine P_q no34_0 rfl (op_fieldAddr (o := 0) (by kernel_rfl) rfl ?_)
  refine P_q no34_0 rfl (op_move (av := .exact (.int .i64 y3.1)) rfl ?_)
  refine P_r4 (Has.cons (List.Mem.head _) (Has.cons (List.Mem.tail _ (List.Mem.head _)) Has.mk0)) rfl (opI_mk (List.Mem.head _) (fun _ => op_load_box1 (a := .exact q4v0) (by kernel_rfl) rfl rfl rfl) ?_)
  obtain ⟨n5, h⟩ := need_some h
  refine P_r4 (Has.cons (List.Mem.head _) (Has.cons (List.Mem.tail _ (List.Mem.head _)) Has.mk0)) rfl (opI_mk (List.Mem.tail _ (List.Mem.head _)) (fun _ => op_index_vec (by kernel_rfl) rfl rfl n5.1 n5.2 rfl) ?_)
  refine P_q no34_0 rfl (op_field_eptr (o := 0) (by kernel_rfl) rfl ?_)
  refine P_r4 (Has.cons (List.Mem.head _) (Has.cons (List.Mem.tail _ (List.Mem.head _)) Has.mk0)) rfl (opI_mk (List.Mem.tail _ (List.Mem.head _)) (fun _ => op_load_vecN (i := y1.1) (o := 0) (m := 3) (c' := c_api_TypeNode ((gi y3.2.1 y1.1).1)) (by kernel_rfl) len_c_cspcheckref6_shared rfl n5.1 n5.2 rfl rfl rfl) ?_)
  refine P_r4 (Has.cons (List.Mem.head _) (Has.cons (List.Mem.tail _ (List.Mem.head _)) Has.mk0)) rfl (opI_mk (List.Mem.head _) (fun _ => op_load_box1 (a := .exact q4v0) (by kernel_rfl) rfl rfl rfl) ?_)
  obtain ⟨n6, h⟩ := need_some h
  refine P_r4 (Has.cons (List.Mem.head _) (Has.cons (List.Mem.tail _ (List.Mem.head _)) Has.mk0)) rfl (opI_mk (List.Mem.tail _ (List.Mem.head _)) (fun _ => op_index_vec (by kernel_rfl) rfl rfl n6.1 n6.2 rfl) ?_)
  refine P_q no34_0 rfl (op_field_eptr (o := 0) (by kernel_rfl) rfl ?_)
  refine P_r4 (Has.cons (List.Mem.head _) (Has.cons (List.Mem.tail _ (List.Mem.head _)) Has.mk0)) rfl (opI_mk (List.Mem.tail _ (List.Mem.head _)) (fun _ => op_load_vecN (i := y3.1) (o := 0) (m := 3) (c' := c_api_TypeNode ((gi y3.2.1 y3.1).1)) (by kernel_rfl) len_c_cspcheckref6_shared rfl n6.1 n6.2 rfl rfl rfl) ?_)
  refine S_new (fun b7 => ?_)
  refine S_go [] rfl ?_
  refine S_new (fun b8 => ?_)
  refine S_go [(3, 18), (2, 19)] rfl ?_
  refine P_l3 rfl (opB_f1 (op_store_box (c' := [.exact (.int .i64 (((gi y3.2.1 y1.1).1).1)), .exact (.int .i64 (((gi y3.2.1 y1.1).1).2.1)), .exact (.int .i64 (((gi y3.2.1 y1.1).1).2.2))]) (c3 := [.exact (.int .i64 (((gi y3.2.1 y1.1).1).1)), .exact (.int .i64 (((gi y3.2.1 y1.1).1).2.1)), .exact (.int .i64 (((gi y3.2.1 y1.1).1).2.2))]) rfl rfl CellsOf.agg (LEs.cons (AV.le_eq rfl) (LEs.cons (AV.le_eq rfl) (LEs.cons (AV.le_eq rfl) LEs.nil))) (oc_c_api_TypeNode _) (by kernel_rfl) (Nat.le_of_ble_eq_true rfl) rfl ⟨(Has.cons (List.Mem.tail _ (List.Mem.tail _ (List.Mem.head _))) (Has.cons (List.Mem.tail _ (List.Mem.tail _ (List.Mem.tail _ (List.Mem.head _)))) Has.mk0)), ?_⟩))
  refine P_l rfl (opB_f1 (op_store_box (c' := [.exact (.int .i64 (((gi y3.2.1 y3.1).1).1)), .exact (.int .i64 (((gi y3.2.1 y3.1).1).2.1)), .exact (.int .i64 (((gi y3.2.1 y3.1).1).2.2))]) (c3 := [.exact (.int .i64 (((gi y3.2.1 y3.1).1).1)), .exact (.int .i64 (((gi y3.2.1 y3.1).1).2.1)), .exact (.int .i64 (((gi y3.2.1 y3.1).1).2.2))]) rfl rfl CellsOf.agg (LEs.cons (AV.le_eq rfl) (LEs.cons (AV.le_eq rfl) (LEs.cons (AV.le_eq rfl) LEs.nil))) (oc_c_api_TypeNode _) (by kernel_rfl) (Nat.le_of_ble_eq_true rfl) rfl ?_))
  refine P_nil ?_
  refine kC_normal ?_
  refine k_seq ?_
  refine k_block ?_
  refine k_seq ?_
  refine k_reg .free hmixP (by kernel_rfl) ?_
  refine G_q rfl (op_move (av := .exact (.int .i64 y1.1)) rfl ?_)
  refine G_q rfl (op_move (av := .exact (.int .i64 y3.1)) rfl ?_)
  refine G_q rfl (op_eql rfl rfl ?_)
  refine G_q rfl (op_assign (av := .exact (.bool (decide (y1.1 = y3.1)))) rfl ?_)
  refine G_nil ?_
  refine kC_normal ?_
  refine k_cond_d (p := y1.1 = y3.1) rfl (fun hc => ?_) (fun hc => ?_)
  · replace h := ite_t h hc
    refine k_seq ?_
    refine k_reg .free hmixP (by kernel_rfl) ?_
    refine G_q rfl (op_assign (av := .exact (.int .i64 0)) rfl ?_)
    refine G_nil ?_
    refine kC_normal ?_
    refine k_ret ?_
    refine kB_ret ?_
    refine kC_ret ?_
    obtain rfl := Option.some.inj h
    refine kP_any (endN (af' := (AF.put AF0 (some 6) (.exact (.int .i64 0)))) (σ' := [boxI 80 w0 [.exact q4v0, .exact q4z1], vecT Tryd.prog 77 5 c_cspcheckref6_shared q4v0 y3.2.1, mapV (fun _ => True) (fun k : Int => .int .i64 k) (fun x : Int => .exact (.int .i64 x)) q4z1 y3.2.2]) _ rfl ?_ ⟨q4v0, q4z1, rfl, rfl⟩)
    refine Sub.trans (SubU.to SubU.drop) ?_
    refine Sub.trans (SubU.to SubU.drop) ?_
    exact Sub.of_le (AF.le_put (AV.le_eq rfl) (AF.le_top _))
  · replace h := ite_f h hc
    refine k_join1_0 h (fun (x37_j20 : Bool) => (AF.put (AF.put (AF.put (AF.put (AF.put (AF.put AF0 (some 0) (pA w0 0)) (some 1) (.exact (.int .i64 y1.1))) (some 2) (.exact (.int .i64 y3.1))) (some 7) (pA b7 0)) (some 8) (pA b8 0)) (some 37) (.exact (.bool x37_j20)))) (fun (x37_j20 : Bool) => [vecT Tryd.prog 77 5 c_cspcheckref6_shared q4v0 y3.2.1, mapV (fun _ => True) (fun k : Int => .int .i64 k) (fun x : Int => .exact (.int .i64 x)) q4z1 y3.2.2, boxI 80 w0 [.exact q4v0, .exact q4z1], boxI 41 b7 [.exact (.int .i64 (((gi y3.2.1 y1.1).1).1)), .exact (.int .i64 (((gi y3.2.1 y1.1).1).2.1)), .exact (.int .i64 (((gi y3.2.1 y1.1).1).2.2))], boxI 41 b8 [.exact (.int .i64 (((gi y3.2.1 y3.1).1).1)), .exact (.int .i64 (((gi y3.2.1 y3.1).1).2.1)), .exact (.int .i64 (((gi y3.2.1 y3.1).1).2.2))]]) (fun k20 h => ?_) (fun x37_j20 h => ?_)
    · refine k_reg .free hmixP (by kernel_rfl) ?_
      refine G_q rfl (op_fieldAddr (o := 0) (by kernel_rfl) rfl ?_)
      refine G_r rfl (opR_f1 (op_load_box1 (a := .exact (.int .i64 (((gi y3.2.1 y1.1).1).1))) (by kernel_rfl) rfl rfl ?_))
      refine G_q rfl (op_eql rfl rfl ?_)
      refine G_q rfl (op_move (av := .exact (.bool (decide ((((gi y3.2.1 y1.1).1).1) = 1)))) rfl ?_)
      refine G_split (p := (((gi y3.2.1 y1.1).1).1) = 1) 41 rfl (fun hc => ?_) (fun hc => ?_)
      · replace h := ite_t h hc
        refine Gy_q rfl rfl rfl (op_fieldAddr (o := 0) (by kernel_rfl) rfl ?_)
        refine Gy_r rfl rfl rfl (op_load_box1 (a := .exact (.int .i64 (((gi y3.2.1 y3.1).1).1))) (by kernel_rfl) rfl rfl ?_)
        refine Gy_q rfl rfl rfl (op_eql rfl rfl ?_)
        refine G_q rfl (op_pick_t rfl (av := .exact (.bool (decide ((((gi y3.2.1 y3.1).1).1) = 1)))) rfl ?_)
        refine G_q rfl (op_assign (av := .exact (.bool (decide ((((gi y3.2.1 y3.1).1).1) = 1)))) rfl ?_)
        refine G_nil ?_
        refine kI_normal ⟨_, h, ?_⟩
        refine Sub.trans (SubU.to SubU.f1) ?_
        refine Sub.trans (SubU.to SubU.f2) ?_
        refine Sub.trans (SubU.to SubU.f4) ?_
        refine Sub.trans (SubU.to SubU.f4) ?_
        exact Sub.of_le (AF.le_put (AV.le_eq rfl) (AF.le_put (AV.le_eq rfl) (AF.le_put (AV.le_eq rfl) (AF.le_put (AV.le_eq rfl) (AF.le_put (AV.le_eq rfl) (AF.le_put (AV.le_eq rfl) (AF.le_top _)))))))
      · replace h := ite_f h hc
        refine G_n rfl rfl ?_
        refine G_n rfl rfl ?_
        refine G_n rfl rfl ?_
        refine G_q rfl (op_pick_f rfl (av := .exact (.bool false)) rfl ?_)
        refine G_q rfl (op_assign (av := .exact (.bool false)) rfl ?_)
        refine G_nil ?_
        refine kI_normal ⟨_, h, ?_⟩
        refine Sub.trans (SubU.to SubU.f1) ?_
        refine Sub.trans (SubU.to SubU.f2) ?_
        refine Sub.trans (SubU.to SubU.f4) ?_
        refine Sub.trans (SubU.to SubU.f4) ?_
        exact Sub.of_le (AF.le_put (AV.le_eq rfl) (AF.le_put (AV.le_eq rfl) (AF.le_put (AV.le_eq rfl) (AF.le_put (AV.le_eq rfl) (AF.le_put (AV.le_eq rfl) (AF.le_put (AV.le_eq rfl) (AF.le_top _)))))))
    · refine k_cond_b (c := x37_j20) rfl (fun hc => ?_) (fun hc => ?_)
      · replace h := ite_t h hc
        refine k_join2_0 h (fun (x1_j21 : Int) (x2_j21 : Int) => (AF.put (AF.put (AF.put AF0 (some 0) (pA w0 0)) (some 1) (.exact (.int .i64 x1_j21))) (some 2) (.exact (.int .i64 x2_j21)))) (fun (x1_j21 : Int) (x2_j21 : Int) => [vecT Tryd.prog 77 5 c_cspcheckref6_shared q4v0 y3.2.1, mapV (fun _ => True) (fun k : Int => .int .i64 k) (fun x : Int => .exact (.int .i64 x)) q4z1 y3.2.2, boxI 80 w0 [.exact q4v0, .exact q4z1]]) (fun k21 h => ?_) (fun x1_j21 x2_j21 h => ?_)
        · refine k_seq ?_
          refine k_reg .free hmixP (by kernel_rfl) ?_
          refine G_q rfl (op_fieldAddr (o := 1) (by kernel_rfl) rfl ?_)
          refine G_r rfl (opR_f3 (op_load_box1 (a := .exact (.int .i64 (((gi y3.2.1 y1.1).1).2.1))) (by kernel_rfl) rfl rfl ?_))
          refine G_q rfl (op_fieldAddr (o := 1) (by kernel_rfl) rfl ?_)
          refine G_r rfl (opR_f4 (op_load_box1 (a := .exact (.int .i64 (((gi y3.2.1 y3.1).1).2.1))) (by kernel_rfl) rfl rfl ?_))
          refine G_q rfl (op_gtr rfl rfl ?_)
          refine G_nil ?_
          refine kC_normal ?_
          refine k_cond_d (p := (((gi y3.2.1 y3.1).1).2.1) < (((gi y3.2.1 y1.1).1).2.1)) rfl (fun hc => ?_) (fun hc => ?_)
          · replace h := ite_t h hc
            refine k_reg .free hmixP (by kernel_rfl) ?_
            refine G_q rfl (op_move (av := .exact (.int .i64 y3.1)) rfl ?_)
            refine G_q rfl (op_move (av := .exact (.int .i64 y1.1)) rfl ?_)
            refine G_q rfl (op_assign (av := .exact (.int .i64 y3.1)) rfl ?_)
            refine G_q rfl (op_assign (av := .exact (.int .i64 y1.1)) rfl ?_)
            refine G_nil ?_
            refine kI_normal ⟨_, _, h, ?_⟩
            refine Sub.trans (SubU.to SubU.f3) ?_
            refine Sub.trans (SubU.to SubU.drop) ?_
            refine Sub.trans (SubU.to SubU.f3) ?_
            refine Sub.trans (SubU.to SubU.drop) ?_
            exact Sub.of_le (AF.le_put (AV.le_eq rfl) (AF.le_put (AV.le_eq rfl) (AF.le_put (AV.le_eq rfl) (AF.le_top _))))
          · replace h := ite_f h hc
            refine k_skip ?_
            refine kI_normal ⟨_, _, h, ?_⟩
            refine Sub.trans (SubU.to SubU.f3) ?_
            refine Sub.trans (SubU.to SubU.drop) ?_
            refine Sub.trans (SubU.to SubU.f3) ?_
            refine Sub.trans (SubU.to SubU.drop) ?_
            exact Sub.of_le (AF.le_put (AV.le_eq rfl) (AF.le_put (AV.le_eq rfl) (AF.le_put (AV.le_eq rfl) (AF.le_top _))))
        · refine k_seq ?_
          refine k_reg .free hmixP (by kernel_rfl) ?_
          refine G_q rfl (op_move (av := pA w0 0) rfl ?_)
          refine G_q rfl (op_nilCheck rfl ?_)
          refine G_q rfl (op_fieldAddr (o := 0) (by kernel_rfl) rfl ?_)
          refine G_r rfl (opR_f2 (op_load_box1 (a := .exact q4v0) (by kernel_rfl) rfl rfl ?_))
          refine G_q rfl (op_move (av := .exact (.int .i64 x2_j21)) rfl ?_)
          refine G_q rfl (op_move (av := .exact (.int .i64 x1_j21)) rfl ?_)
          obtain ⟨n22, h⟩ := need_some h
          refine G_r rfl (op_index_vec (by kernel_rfl) rfl rfl n22.1 n22.2 ?_)
          refine G_q rfl (op_field_eptr (o := 4) (by kernel_rfl) rfl ?_)
          refine G_l rfl (op_store_vec (i := x2_j21) (o := 4) (z := ((gi y3.2.1 x2_j21).1, (gi y3.2.1 x2_j21).2.1, x1_j21)) (c' := [.exact (.int .i64 x1_j21)]) (by kernel_rfl) len_c_cspcheckref6_shared rfl n22.1 n22.2 rfl CellsOf.int (LEs.cons (AV.le_eq rfl) LEs.nil) (OneC.int OneC.nil) (by kernel_rfl) (Nat.le_of_ble_eq_true rfl) rfl ?_)
          refine G_nil ?_
          refine kC_normal ?_
          refine k_seq ?_
          refine k_reg .free hmixP (by kernel_rfl) ?_
          refine G_q rfl (op_assign (av := .exact (.int .i64 0)) rfl ?_)
          refine G_nil ?_
          refine kC_normal ?_
          refine k_ret ?_
          refine kB_ret ?_
          refine kC_ret ?_
          obtain rfl := Option.some.inj h
          refine kP_any (endN (af' := (AF.put AF0 (some 6) (.exact (.int .i64 0)))) (σ' := [boxI 80 w0 [.exact q4v0, .exact q4z1], vecT Tryd.prog 77 5 c_cspcheckref6_shared q4v0 (List.set y3.2.1 (Int.toNat x2_j21) ((gi y3.2.1 x2_j21).1, (gi y3.2.1 x2_j21).2.1, x1_j21)), mapV (fun _ => True) (fun k : Int => .int .i64 k) (fun x : Int => .exact (.int .i64 x)) q4z1 y3.2.2]) _ rfl ?_ ⟨q4v0, q4z1, rfl, rfl⟩)
          refine Sub.trans (SubU.to SubU.f1) ?_
          refine Sub.trans (SubU.to SubU.f1) ?_
          refine Sub.trans (SubU.to SubU.f2) ?_
          exact Sub.of_le (AF.le_put (AV.le_eq rfl) (AF.le_top _))
      · replace h := ite_f h hc
        refine k_join1_0 h (fun (x61_j23 : Bool) => (AF.put (AF.put (AF.put (AF.put (AF.put (AF.put AF0 (some 0) (pA w0 0)) (some 1) (.exact (.int .i64 y1.1))) (some 2) (.exact (.int .i64 y3.1))) (some 7) (pA b7 0)) (some 8) (pA b8 0)) (some 61) (.exact (.bool x61_j23)))) (fun (x61_j23 : Bool) => [vecT Tryd.prog 77 5 c_cspcheckref6_shared q4v0 y3.2.1, mapV (fun _ => True) (fun k : Int => .int .i64 k) (fun x : Int => .exact (.int .i64 x)) q4z1 y3.2.2, boxI 80 w0 [.exact q4v0, .exact q4z1], boxI 41 b7 [.exact (.int .i64 (((gi y3.2.1 y1.1).1).1)), .exact (.int .i64 (((gi y3.2.1 y1.1).1).2.1)), .exact (.int .i64 (((gi y3.2.1 y1.1).1).2.2))], boxI 41 b8 [.exact (.int .i64 (((gi y3.2.1 y3.1).1).1)), .exact (.int .i64 (((gi y3.2.1 y3.1).1).2.1)), .exact (.int .i64 (((gi y3.2.1 y3.1).1).2.2))]]) (fun k23 h => ?_) (fun x61_j23 h => ?_)
        · refine k_reg .free hmixP (by kernel_rfl) ?_
          refine G_q rfl (op_fieldAddr (o := 0) (by kernel_rfl) rfl ?_)
          refine G_r rfl (opR_f3 (op_load_box1 (a := .exact (.int .i64 (((gi y3.2.1 y1.1).1).1))) (by kernel_rfl) rfl rfl ?_))
          refine G_q rfl (op_eql rfl rfl ?_)
          refine G_q rfl (op_move (av := .exact (.bool (decide ((((gi y3.2.1 y1.1).1).1) = 1)))) rfl ?_)
          refine G_split (p := (((gi y3.2.1 y1.1).1).1) = 1) 65 rfl (fun hc => ?_) (fun hc => ?_)
          · replace h := ite_t h hc
            refine G_n rfl rfl ?_
            refine G_n rfl rfl ?_
            refine G_n rfl rfl ?_
            refine G_q rfl (op_pick_t rfl (av := .exact (.bool true)) rfl ?_)
            refine G_q rfl (op_assign (av := .exact (.bool true)) rfl ?_)
            refine G_nil ?_
            refine kI_normal ⟨_, h, ?_⟩
            exact Sub.of_le (AF.le_put (AV.le_eq rfl) (AF.le_put (AV.le_eq rfl) (AF.le_put (AV.le_eq rfl) (AF.le_put (AV.le_eq rfl) (AF.le_put (AV.le_eq rfl) (AF.le_put (AV.le_eq rfl) (AF.le_top _)))))))
          · replace h := ite_f h hc
            refine Gy_q rfl rfl rfl (op_fieldAddr (o := 0) (by kernel_rfl) rfl ?_)
            refine Gy_r rfl rfl rfl (opR_f4 (op_load_box1 (a := .exact (.int .i64 (((gi y3.2.1 y3.1).1).1))) (by kernel_rfl) rfl rfl ?_))
            refine Gy_q rfl rfl rfl (op_eql rfl rfl ?_)
            refine G_q rfl (op_pick_f rfl (av := .exact (.bool (decide ((((gi y3.2.1 y3.1).1).1) = 1)))) rfl ?_)
            refine G_q rfl (op_assign (av := .exact (.bool (decide ((((gi y3.2.1 y3.1).1).1) = 1)))) rfl ?_)
            refine G_nil ?_
            refine kI_normal ⟨_, h, ?_⟩
            exact Sub.of_le (AF.le_put (AV.le_eq rfl) (AF.le_put (AV.le_eq rfl) (AF.le_put (AV.le_eq rfl) (AF.le_put (AV.le_eq rfl) (AF.le_put (AV.le_eq rfl) (AF.le_put (AV.le_eq rfl) (AF.le_top _)))))))
        · refine k_cond_b (c := x61_j23) rfl (fun hc => ?_) (fun hc => ?_)
          · replace h := ite_t h hc
            refine k_join2_0 h (fun (x1_j24 : Int) (x2_j24 : Int) => (AF.put (AF.put (AF.put AF0 (some 0) (pA w0 0)) (some 1) (.exact (.int .i64 x1_j24))) (some 2) (.exact (.int .i64 x2_j24)))) (fun (x1_j24 : Int) (x2_j24 : Int) => [vecT Tryd.prog 77 5 c_cspcheckref6_shared q4v0 y3.2.1, mapV (fun _ => True) (fun k : Int => .int .i64 k) (fun x : Int => .exact (.int .i64 x)) q4z1 y3.2.2, boxI 80 w0 [.exact q4v0, .exact q4z1]]) (fun k24 h => ?_) (fun x1_j24 x2_j24 h => ?_)
            · refine k_seq ?_
              refine k_reg .free hmixP (by kernel_rfl) ?_
              refine G_q rfl (op_fieldAddr (o := 0) (by kernel_rfl) rfl ?_)
              refine G_r rfl (opR_f4 (op_load_box1 (a := .exact (.int .i64 (((gi y3.2.1 y3.1).1).1))) (by kernel_rfl) rfl rfl ?_))
              refine G_q rfl (op_eql rfl rfl ?_)
              refine G_nil ?_
              refine kC_normal ?_
              refine k_cond_d (p := (((gi y3.2.1 y3.1).1).1) = 1) rfl (fun hc => ?_) (fun hc => ?_)
              · replace h := ite_t h hc
                refine k_reg .free hmixP (by kernel_rfl) ?_
                refine G_q rfl (op_move (av := .exact (.int .i64 y3.1)) rfl ?_)
                refine G_q rfl (op_move (av := .exact (.int .i64 y1.1)) rfl ?_)
                refine G_q rfl (op_assign (av := .exact (.int .i64 y3.1)) rfl ?_)
                refine G_q rfl (op_assign (av := .exact (.int .i64 y1.1)) rfl ?_)
                refine G_nil ?_
                refine kI_normal ⟨_, _, h, ?_⟩
                refine Sub.trans (SubU.to SubU.f3) ?_
                refine Sub.trans (SubU.to SubU.drop) ?_
                refine Sub.trans (SubU.to SubU.f3) ?_
                refine Sub.trans (SubU.to SubU.drop) ?_
                exact Sub.of_le (AF.le_put (AV.le_eq rfl) (AF.le_put (AV.le_eq rfl) (AF.le_put (AV.le_eq rfl) (AF.le_top _))))
              · replace h := ite_f h hc
                refine k_skip ?_
                refine kI_normal ⟨_, _, h, ?_⟩
                refine Sub.trans (SubU.to SubU.f3) ?_
                refine Sub.trans (SubU.to SubU.drop) ?_
                refine Sub.trans (SubU.to SubU.f3) ?_
                refine Sub.trans (SubU.to SubU.drop) ?_
                exact Sub.of_le (AF.le_put (AV.le_eq rfl) (AF.le_put (AV.le_eq rfl) (AF.le_put (AV.le_eq rfl) (AF.le_top _))))
            · refine k_seq ?_
              refine k_seq ?_
              refine k_reg .free hmixP (by kernel_rfl) ?_
              refine G_q rfl (op_move (av := pA w0 0) rfl ?_)
              refine G_q rfl (op_move (av := .exact (.int .i64 x2_j24)) rfl ?_)
              refine G_q rfl (op_move (av := .exact (.int .i64 x1_j24)) rfl ?_)
              refine G_q rfl (op_move (av := pA w0 0) rfl ?_)
              refine G_q rfl (op_nilCheck rfl ?_)
              refine G_q rfl (op_fieldAddr (o := 0) (by kernel_rfl) rfl ?_)
              refine G_r rfl (opR_f2 (op_load_box1 (a := .exact q4v0) (by kernel_rfl) rfl rfl ?_))
              refine G_r rfl (op_len_vec (by kernel_rfl) rfl ?_)
              obtain ⟨n25, h⟩ := need_some h
              refine G_l rfl (op_make (enc := c_bool) (zr := (false : Bool)) (by kernel_rfl) rfl rfl n25.1 n25.2 len_c_bool Tryd.zeroValue4 (fun _ _ => (Fit.ex Fit.nil0)) (fun v26 => ?_))
              obtain ⟨y27, hy27, h⟩ := bnd1_some h
              refine G_l rfl (opB_f2 (opB_f2 (opB_f3 (op_fun_4_2_4 (m_ref6_solver_contains_ok _ _ _ _ _ hy27) Tryd.func103 (by kernel_rfl) (LEs.cons (AV.le_eq rfl) (LEs.cons (AV.le_eq rfl) (LEs.cons (AV.le_eq rfl) (LEs.cons (AV.le_eq rfl) LEs.nil)))) (fun q28v0 q28z1 => ?_)))))
              refine G_nil ?_
              refine kC_normal ?_
              refine k_cond_b (c := y27.1) rfl (fun hc => ?_) (fun hc => ?_)
              · replace h := ite_t h hc
                refine k_seq ?_
                refine k_reg .free hmixP (by kernel_rfl) ?_
                refine G_q rfl (op_assign (av := .exact (.int .i64 8)) rfl ?_)
                refine G_nil ?_
                refine kC_normal ?_
                refine k_ret ?_
                refine kC_ret ?_
                refine kB_ret ?_
                refine kC_ret ?_
                obtain rfl := Option.some.inj h
                refine kP_any (endN (af' := (AF.put AF0 (some 6) (.exact (.int .i64 8)))) (σ' := [boxI 80 w0 [.exact q28v0, .exact q28z1], vecT Tryd.prog 77 5 c_cspcheckref6_shared q28v0 y27.2.1.1, mapV (fun _ => True) (fun k : Int => .int .i64 k) (fun x : Int => .exact (.int .i64 x)) q28z1 y27.2.1.2]) _ rfl ?_ ⟨q28v0, q28z1, rfl, rfl⟩)
                refine Sub.trans (SubU.to SubU.f3) ?_
                refine Sub.trans (SubU.to SubU.drop) ?_
                exact Sub.of_le (AF.le_put (AV.le_eq rfl) (AF.le_top _))
              · replace h := ite_f h hc
                refine k_skip ?_
                refine kC_normal ?_
                refine k_seq ?_
                refine k_reg .free hmixP (by kernel_rfl) ?_
                refine G_q rfl (op_move (av := pA w0 0) rfl ?_)
                refine G_q rfl (op_nilCheck rfl ?_)
                refine G_q rfl (op_fieldAddr (o := 0) (by kernel_rfl) rfl ?_)
                refine G_r rfl (op_load_box1 (a := .exact q28v0) (by kernel_rfl) rfl rfl ?_)
                refine G_q rfl (op_move (av := .exact (.int .i64 x1_j24)) rfl ?_)
                refine G_q rfl (op_move (av := .exact (.int .i64 x2_j24)) rfl ?_)
                obtain ⟨n29, h⟩ := need_some h
                refine G_r rfl (opR_f1 (op_index_vec (by kernel_rfl) rfl rfl n29.1 n29.2 ?_))
                refine G_q rfl (op_field_eptr (o := 4) (by kernel_rfl) rfl ?_)
                refine G_l rfl (opB_f1 (op_store_vec (i := x1_j24) (o := 4) (z := ((gi y27.2.1.1 x1_j24).1, (gi y27.2.1.1 x1_j24).2.1, x2_j24)) (c' := [.exact (.int .i64 x2_j24)]) (by kernel_rfl) len_c_cspcheckref6_shared rfl n29.1 n29.2 rfl CellsOf.int (LEs.cons (AV.le_eq rfl) LEs.nil) (OneC.int OneC.nil) (by kernel_rfl) (Nat.le_of_ble_eq_true rfl) rfl ?_))
                refine G_nil ?_
                refine kC_normal ?_
                refine k_seq ?_
                refine k_reg .free hmixP (by kernel_rfl) ?_
                refine G_q rfl (op_assign (av := .exact (.int .i64 0)) rfl ?_)
                refine G_nil ?_
                refine kC_normal ?_
                refine k_ret ?_
                refine kB_ret ?_
                refine kC_ret ?_
                obtain rfl := Option.some.inj h
                refine kP_any (endN (af' := (AF.put AF0 (some 6) (.exact (.int .i64 0)))) (σ' := [boxI 80 w0 [.exact q28v0, .exact q28z1], vecT Tryd.prog 77 5 c_cspcheckref6_shared q28v0 (List.set y27.2.1.1 (Int.toNat x1_j24) ((gi y27.2.1.1 x1_j24).1, (gi y27.2.1.1 x1_j24).2.1, x2_j24)), mapV (fun _ => True) (fun k : Int => .int .i64 k) (fun x : Int => .exact (.int .i64 x)) q28z1 y27.2.1.2]) _ rfl ?_ ⟨q28v0, q28z1, rfl, rfl⟩)
                refine Sub.trans (SubU.to SubU.f3) ?_
                refine Sub.trans (SubU.to SubU.drop) ?_
                refine Sub.trans (SubU.to SubU.f2) ?_
                refine Sub.trans (SubU.to SubU.f1) ?_
                refine Sub.trans (SubU.to SubU.f2) ?_
                exact Sub.of_le (AF.le_put (AV.le_eq rfl) (AF.le_top _))
          · replace h := ite_f h hc
            refine k_seq ?_
            refine k_reg .free hmixP (by kernel_rfl) ?_
            refine G_r rfl (opR_f3 (op_load_boxN (m := 3) (c' := c_api_TypeNode (((gi y3.2.1 y1.1).1).1, ((gi y3.2.1 y1.1).1).2.1, ((gi y3.2.1 y1.1).1).2.2)) (by kernel_rfl) rfl rfl rfl ?_))
            refine G_r rfl (opR_f4 (op_load_boxN (m := 3) (c' := c_api_TypeNode (((gi y3.2.1 y3.1).1).1, ((gi y3.2.1 y3.1).1).2.1, ((gi y3.2.1 y3.1).1).2.2)) (by kernel_rfl) rfl rfl rfl ?_))
            refine G_q rfl (op_neqA (a := (((gi y3.2.1 y1.1).1).1, ((gi y3.2.1 y1.1).1).2.1, ((gi y3.2.1 y1.1).1).2.2)) (b := (((gi y3.2.1 y3.1).1).1, ((gi y3.2.1 y3.1).1).2.1, ((gi y3.2.1 y3.1).1).2.2)) (by kernel_rfl) (eq_c_api_TypeNode _ _) rfl rfl ?_)
            refine G_q rfl (op_assign (av := .exact (.bool (decide (¬ (((gi y3.2.1 y1.1).1).1, ((gi y3.2.1 y1.1).1).2.1, ((gi y3.2.1 y1.1).1).2.2) = (((gi y3.2.1 y3.1).1).1, ((gi y3.2.1 y3.1).1).2.1, ((gi y3.2.1 y3.1).1).2.2))))) rfl ?_)
            refine G_nil ?_
            refine kC_normal ?_
            refine k_cond_d (p := ¬ (((gi y3.2.1 y1.1).1).1, ((gi y3.2.1 y1.1).1).2.1, ((gi y3.2.1 y1.1).1).2.2) = (((gi y3.2.1 y3.1).1).1, ((gi y3.2.1 y3.1).1).2.1, ((gi y3.2.1 y3.1).1).2.2)) rfl (fun hc => ?_) (fun hc => ?_)
            · replace h := ite_t h hc
              refine k_seq ?_
              refine k_reg .free hmixP (by kernel_rfl) ?_
              refine G_q rfl (op_assign (av := .exact (.int .i64 6)) rfl ?_)
              refine G_nil ?_
              refine kC_normal ?_
              refine k_ret ?_
              refine kB_ret ?_
              refine kC_ret ?_
              obtain rfl := Option.some.inj h
              refine kP_any (endN (af' := (AF.put AF0 (some 6) (.exact (.int .i64 6)))) (σ' := [boxI 80 w0 [.exact q4v0, .exact q4z1], vecT Tryd.prog 77 5 c_cspcheckref6_shared q4v0 y3.2.1, mapV (fun _ => True) (fun k : Int => .int .i64 k) (fun x : Int => .exact (.int .i64 x)) q4z1 y3.2.2]) _ rfl ?_ ⟨q4v0, q4z1, rfl, rfl⟩)
              refine Sub.trans (SubU.to SubU.f3) ?_
              refine Sub.trans (SubU.to SubU.drop) ?_
              refine Sub.trans (SubU.to SubU.f3) ?_
              refine Sub.trans (SubU.to SubU.drop) ?_
              refine Sub.trans (SubU.to SubU.f1) ?_
              refine Sub.trans (SubU.to SubU.f1) ?_
              refine Sub.trans (SubU.to SubU.f2) ?_
              exact Sub.of_le (AF.le_put (AV.le_eq rfl) (AF.le_top _))
            · replace h := ite_f h hc
              refine k_skip ?_
              refine kB_normal ?_
              refine kC_normal ?_
              refine k_join2_2 h (fun (x0_0_j30 : List ((Int × Int × Int) × (List Int) × Int)) (x0_1_j30 : List (Int × Int)) (v0_0_j30 : Value) (b0_1_j30 : Value) => (AF.put (AF.put (AF.put AF0 (some 0) (pA w0 0)) (some 1) (.exact (.int .i64 y1.1))) (some 2) (.exact (.int .i64 y3.1)))) (fun (x0_0_j30 : List ((Int × Int × Int) × (List Int) × Int)) (x0_1_j30 : List (Int × Int)) (v0_0_j30 : Value) (b0_1_j30 : Value) => [vecT Tryd.prog 77 5 c_cspcheckref6_shared v0_0_j30 x0_0_j30, mapV (fun _ => True) (fun k : Int => .int .i64 k) (fun x : Int => .exact (.int .i64 x)) b0_1_j30 x0_1_j30, boxI 80 w0 [.exact v0_0_j30, .exact b0_1_j30]]) (fun k30 h => ?_) (fun x0_0_j30 x0_1_j30 v0_0_j30 b0_1_j30 h => ?_)
              · refine k_seq ?_
                refine k_reg .free hmixP (by kernel_rfl) ?_
                refine G_q rfl (op_assign (av := .exact (.int .i64 0)) rfl ?_)
                refine G_nil ?_
                refine kC_normal ?_
                refine k_block ?_
                refine k_loop3_2 (m_ref6_solver_same_L2 self_ref6_solver_same y1 y3 k30) (m_ref6_solver_same_B2 self_ref6_solver_same y1 y3 k30) (fun _ _ _ => rfl) (fun m _ _ _ => rfl) h (fun (x0_0_l2 : List ((Int × Int × Int) × (List Int) × Int)) (x0_1_l2 : List (Int × Int)) (x9_l2 : Int) (v0_0_l2 : Value) (b0_1_l2 : Value) => (AF.put (AF.put (AF.put (AF.put AF0 (some 0) (pA w0 0)) (some 1) (.exact (.int .i64 y1.1))) (some 2) (.exact (.int .i64 y3.1))) (some 9) (.exact (.int .i64 x9_l2)))) (fun (x0_0_l2 : List ((Int × Int × Int) × (List Int) × Int)) (x0_1_l2 : List (Int × Int)) (x9_l2 : Int) (v0_0_l2 : Value) (b0_1_l2 : Value) => [vecT Tryd.prog 77 5 c_cspcheckref6_shared v0_0_l2 x0_0_l2, mapV (fun _ => True) (fun k : Int => .int .i64 k) (fun x : Int => .exact (.int .i64 x)) b0_1_l2 x0_1_l2, boxI 80 w0 [.exact v0_0_l2, .exact b0_1_l2]]) q4v0 q4z1 ?_ (fun rec2 x0_0_l2 x0_1_l2 x9_l2 v0_0_l2 b0_1_l2 h => ?_)
                · refine Sub.trans (SubU.to SubU.f3) ?_
                  refine Sub.trans (SubU.to SubU.drop) ?_
                  refine Sub.trans (SubU.to SubU.f3) ?_
                  refine Sub.trans (SubU.to SubU.drop) ?_
                  exact Sub.of_le (AF.le_put (AV.le_eq rfl) (AF.le_put (AV.le_eq rfl) (AF.le_put (AV.le_eq rfl) (AF.le_put (AV.le_eq rfl) (AF.le_top _)))))
                · unfold m_ref6_solver_same_B2 at h
                  refine k_seq ?_
                  refine k_seq ?_
                  refine k_reg .free hmixP (by kernel_rfl) ?_
                  refine G_q rfl (op_move (av := .exact (.int .i64 x9_l2)) rfl ?_)
                  refine G_q rfl (op_move (av := pA w0 0) rfl ?_)
                  refine G_q rfl (op_nilCheck rfl ?_)
                  refine G_q rfl (op_fieldAddr (o := 0) (by kernel_rfl) rfl ?_)
                  refine G_r rfl (opR_f2 (op_load_box1 (a := .exact v0_0_l2) (by kernel_rfl) rfl rfl ?_))
                  refine G_q rfl (op_move (av := .exact (.int .i64 y1.1)) rfl ?_)
                  obtain ⟨n67, h⟩ := need_some h
                  refine G_r rfl (op_index_vec (by kernel_rfl) rfl rfl n67.1 n67.2 ?_)
                  refine G_q rfl (op_field_eptr (o := 3) (by kernel_rfl) rfl ?_)
                  refine G_r rfl (op_load_vec1 (i := y1.1) (o := 3) (a := .row 1 c_int ((gi x0_0_l2 y1.1).2.1)) (by kernel_rfl) len_c_cspcheckref6_shared rfl n67.1 n67.2 rfl ?_)
                  refine G_q rfl (op_len_row (by kernel_rfl) rfl ?_)
                  refine G_q rfl (op_lss rfl rfl ?_)
                  refine G_nil ?_
                  refine kC_normal ?_
                  refine k_cond_d (p := x9_l2 < (List.length ((gi x0_0_l2 y1.1).2.1) : Int)) rfl (fun hc => ?_) (fun hc => ?_)
                  · replace h := ite_t h hc
                    refine k_skip ?_
                    refine kC_normal ?_
                    refine k_seq ?_
                    refine k_block ?_
                    refine k_seq ?_
                    refine k_plan [] [(0, 0), (0, 1), (0, 2), (0, 3), (0, 5), (0, 9), (0, 12), (0, 13), (0, 14), (0, 16), (0, 20), (1, 4), (1, 6), (0, 7), (1, 8), (0, 10), (0, 11), (1, 15), (1, 17), (0, 18), (1, 19), (0, 21), (0, 22), (2, 23), (0, 24)] hmixP (by kernel_rfl) ?_
                    refine P_q no34_0 rfl (op_move (av := pA w0 0) rfl ?_)
                    refine P_q no34_0 rfl (op_move (av := pA w0 0) rfl ?_)
                    refine P_q no34_0 rfl (op_nilCheck rfl ?_)
                    refine P_q no34_0 rfl (op_fieldAddr (o := 0) (by kernel_rfl) rfl ?_)
                    refine P_q no34_0 rfl (op_move (av := .exact (.int .i64 y1.1)) rfl ?_)
                    refine P_q no34_0 rfl (op_move (av := .exact (.int .i64 x9_l2)) rfl ?_)
                    refine P_q no34_0 rfl (op_move (av := pA w0 0) rfl ?_)
                    refine P_q no34_0 rfl (op_nilCheck rfl ?_)
                    refine P_q no34_0 rfl (op_fieldAddr (o := 0) (by kernel_rfl) rfl ?_)
                    refine P_q no34_0 rfl (op_move (av := .exact (.int .i64 y3.1)) rfl ?_)
                    refine P_q no34_0 rfl (op_move (av := .exact (.int .i64 x9_l2)) rfl ?_)
                    refine P_r rfl (opR_f2 (op_load_box1 (a := .exact v0_0_l2) (by kernel_rfl) rfl rfl ?_))
                    obtain ⟨n68, h⟩ := need_some h
                    refine P_r rfl (op_index_vec (by kernel_rfl) rfl rfl n68.1 n68.2 ?_)
                    refine P_q no34_0 rfl (op_field_eptr (o := 3) (by kernel_rfl) rfl ?_)
                    refine P_r rfl (op_load_vec1 (i := y1.1) (o := 3) (a := .row 1 c_int ((gi x0_0_l2 y1.1).2.1)) (by kernel_rfl) len_c_cspcheckref6_shared rfl n68.1 n68.2 rfl ?_)
                    obtain ⟨n69, h⟩ := need_some h
                    refine P_q no34_0 rfl (op_index_row (by kernel_rfl) rfl rfl n69.1 n69.2 ?_)
                    refine P_q no34_0 rfl (op_load1p (a := .exact (.int .i64 (gi ((gi x0_0_l2 y1.1).2.1) x9_l2))) (by kernel_rfl) rfl rfl ?_)
                    refine P_r rfl (opR_f2 (op_load_box1 (a := .exact v0_0_l2) (by kernel_rfl) rfl rfl ?_))
                    obtain ⟨n70, h⟩ := need_some h
                    refine P_r rfl (op_index_vec (by kernel_rfl) rfl rfl n70.1 n70.2 ?_)
                    refine P_q no34_0 rfl (op_field_eptr (o := 3) (by kernel_rfl) rfl ?_)
                    refine P_r rfl (op_load_vec1 (i := y3.1) (o := 3) (a := .row 1 c_int ((gi x0_0_l2 y3.1).2.1)) (by kernel_rfl) len_c_cspcheckref6_shared rfl n70.1 n70.2 rfl ?_)
                    obtain ⟨n71, h⟩ := need_some h
                    refine P_q no34_0 rfl (op_index_row (by kernel_rfl) rfl rfl n71.1 n71.2 ?_)
                    refine P_q no34_0 rfl (op_load1p (a := .exact (.int .i64 (gi ((gi x0_0_l2 y3.1).2.1) x9_l2))) (by kernel_rfl) rfl rfl ?_)
                    obtain ⟨y72, hy72, h⟩ := bnd1_some h
                    refine P_l rfl (opB_f1 (opB_f1 (opB_f2 (op_fun_3_2_3 (hself_ref6_solver_same _ _ _ _ hy72) Tryd.func78 (by kernel_rfl) (LEs.cons (AV.le_eq rfl) (LEs.cons (AV.le_eq rfl) (LEs.cons (AV.le_eq rfl) LEs.nil))) (fun q73v0 q73z1 => ?_)))))
                    refine P_q no34_0 rfl (op_assign (av := .exact (.int .i64 y72.1)) rfl ?_)
                    refine P_nil ?_
                    refine kC_normal ?_
                    refine k_seq ?_
                    refine k_reg .free hmixP (by kernel_rfl) ?_
                    refine G_q rfl (op_move (av := .exact (.int .i64 y72.1)) rfl ?_)
                    refine G_q rfl (op_neq rfl rfl ?_)
                    refine G_nil ?_
                    refine kC_normal ?_
                    refine k_cond_d (p := ¬ y72.1 = 0) rfl (fun hc => ?_) (fun hc => ?_)
                    · replace h := ite_t h hc
                      refine k_seq ?_
                      refine k_reg .free hmixP (by kernel_rfl) ?_
                      refine G_q rfl (op_move (av := .exact (.int .i64 y72.1)) rfl ?_)
                      refine G_q rfl (op_assign (av := .exact (.int .i64 y72.1)) rfl ?_)
                      refine G_nil ?_
                      refine kC_normal ?_
                      refine k_ret ?_
                      refine kB_ret ?_
                      refine kC_ret ?_
                      refine kI_ret ?_
                      refine kB_ret ?_
                      refine kI_ret ?_
                      obtain rfl := Option.some.inj h
                      refine kP_any (endN (af' := (AF.put AF0 (some 6) (.exact (.int .i64 y72.1)))) (σ' := [boxI 80 w0 [.exact q73v0, .exact q73z1], vecT Tryd.prog 77 5 c_cspcheckref6_shared q73v0 y72.2.1, mapV (fun _ => True) (fun k : Int => .int .i64 k) (fun x : Int => .exact (.int .i64 x)) q73z1 y72.2.2]) _ rfl ?_ ⟨q73v0, q73z1, rfl, rfl⟩)
                      exact Sub.of_le (AF.le_put (AV.le_eq rfl) (AF.le_top _))
                    · replace h := ite_f h hc
                      refine k_skip ?_
                      refine kB_normal ?_
                      refine kC_normal ?_
                      refine k_reg .free hmixP (by kernel_rfl) ?_
                      refine G_q rfl (op_move (av := .exact (.int .i64 x9_l2)) rfl ?_)
                      refine G_q rfl (op_add rfl rfl rfl ?_)
                      refine G_q rfl (op_assign (av := .exact (.int .i64 (i64 (x9_l2 + 1)))) rfl ?_)
                      refine G_nil ?_
                      refine kI_normal ⟨_, _, _, q73v0, q73z1, h, ?_⟩
                      refine Sub.trans (SubU.to SubU.f2) ?_
                      refine Sub.trans (SubU.to SubU.f2) ?_
                      exact Sub.of_le (AF.le_put (AV.le_eq rfl) (AF.le_put (AV.le_eq rfl) (AF.le_put (AV.le_eq rfl) (AF.le_put (AV.le_eq rfl) (AF.le_top _)))))
                  · replace h := ite_f h hc
                    refine k_exit ?_
                    refine kC_exit ?_
                    refine kI_exit ?_
                    refine kB_exit ?_
                    refine kI_normal ⟨_, _, v0_0_l2, b0_1_l2, h, ?_⟩
                    exact Sub.of_le (AF.le_put (AV.le_eq rfl) (AF.le_put (AV.le_eq rfl) (AF.le_put (AV.le_eq rfl) (AF.le_top _))))
              · refine k_join2_2 h (fun (x0_0_j74 : List ((Int × Int × Int) × (List Int) × Int)) (x0_1_j74 : List (Int × Int)) (v0_0_j74 : Value) (b0_1_j74 : Value) => (AF.put AF0 (some 0) (pA w0 0))) (fun (x0_0_j74 : List ((Int × Int × Int) × (List Int) × Int)) (x0_1_j74 : List (Int × Int)) (v0_0_j74 : Value) (b0_1_j74 : Value) => [vecT Tryd.prog 77 5 c_cspcheckref6_shared v0_0_j74 x0_0_j74, mapV (fun _ => True) (fun k : Int => .int .i64 k) (fun x : Int => .exact (.int .i64 x)) b0_1_j74 x0_1_j74, boxI 80 w0 [.exact v0_0_j74, .exact b0_1_j74]]) (fun k74 h => ?_) (fun x0_0_j74 x0_1_j74 v0_0_j74 b0_1_j74 h => ?_)
                · refine k_seq ?_
                  refine k_reg .free hmixP (by kernel_rfl) ?_
                  refine G_q rfl (op_move (av := pA w0 0) rfl ?_)
                  refine G_q rfl (op_move (av := .exact (.int .i64 y1.1)) rfl ?_)
                  obtain ⟨y80, hy80, h⟩ := bnd1_some h
                  refine G_l rfl (opB_f1 (opB_f1 (opB_f2 (op_fun_3_2_3 (m_ref6_solver_find_ok _ _ _ hy80) Tryd.func102 (by kernel_rfl) (LEs.cons (AV.le_eq rfl) (LEs.cons (AV.le_eq rfl) LEs.nil)) (fun q81v0 q81z1 => ?_)))))
                  refine G_q rfl (op_move (av := pA w0 0) rfl ?_)
                  refine G_q rfl (op_move (av := .exact (.int .i64 y3.1)) rfl ?_)
                  obtain ⟨y82, hy82, h⟩ := bnd1_some h
                  refine G_l rfl (opB_f2 (opB_f2 (opB_f2 (op_fun_3_2_3 (m_ref6_solver_find_ok _ _ _ hy82) Tryd.func102 (by kernel_rfl) (LEs.cons (AV.le_eq rfl) (LEs.cons (AV.le_eq rfl) LEs.nil)) (fun q83v0 q83z1 => ?_)))))
                  refine G_q rfl (op_assign (av := .exact (.int .i64 y80.1)) rfl ?_)
                  refine G_q rfl (op_assign (av := .exact (.int .i64 y82.1)) rfl ?_)
                  refine G_nil ?_
                  refine kC_normal ?_
                  refine k_seq ?_
                  refine k_reg .free hmixP (by kernel_rfl) ?_
                  refine G_q rfl (op_move (av := .exact (.int .i64 y80.1)) rfl ?_)
                  refine G_q rfl (op_move (av := .exact (.int .i64 y82.1)) rfl ?_)
                  refine G_q rfl (op_neq rfl rfl ?_)
                  refine G_nil ?_
                  refine kC_normal ?_
                  refine k_cond_d (p := ¬ y80.1 = y82.1) rfl (fun hc => ?_) (fun hc => ?_)
                  · replace h := ite_t h hc
                    refine k_reg .free hmixP (by kernel_rfl) ?_
                    refine G_q rfl (op_move (av := pA w0 0) rfl ?_)
                    refine G_q rfl (op_nilCheck rfl ?_)
                    refine G_q rfl (op_fieldAddr (o := 0) (by kernel_rfl) rfl ?_)
                    refine G_r rfl (op_load_box1 (a := .exact q83v0) (by kernel_rfl) rfl rfl ?_)
                    refine G_q rfl (op_move (av := .exact (.int .i64 y80.1)) rfl ?_)
                    refine G_q rfl (op_move (av := .exact (.int .i64 y82.1)) rfl ?_)
                    obtain ⟨n84, h⟩ := need_some h
                    refine G_r rfl (opR_f1 (op_index_vec (by kernel_rfl) rfl rfl n84.1 n84.2 ?_))
                    refine G_q rfl (op_field_eptr (o := 4) (by kernel_rfl) rfl ?_)
                    refine G_l rfl (opB_f1 (op_store_vec (i := y80.1) (o := 4) (z := ((gi y82.2.1 y80.1).1, (gi y82.2.1 y80.1).2.1, y82.1)) (c' := [.exact (.int .i64 y82.1)]) (by kernel_rfl) len_c_cspcheckref6_shared rfl n84.1 n84.2 rfl CellsOf.int (LEs.cons (AV.le_eq rfl) LEs.nil) (OneC.int OneC.nil) (by kernel_rfl) (Nat.le_of_ble_eq_true rfl) rfl ?_))
                    refine G_nil ?_
                    refine kI_normal ⟨_, _, q83v0, q83z1, h, ?_⟩
                    refine Sub.trans (SubU.to SubU.f1) ?_
                    refine Sub.trans (SubU.to SubU.f2) ?_
                    refine Sub.trans (SubU.to SubU.f2) ?_
                    exact Sub.of_le (AF.le_put (AV.le_eq rfl) (AF.le_top _))
                  · replace h := ite_f h hc
                    refine k_skip ?_
                    refine kI_normal ⟨_, _, q83v0, q83z1, h, ?_⟩
                    refine Sub.trans (SubU.to SubU.f2) ?_
                    refine Sub.trans (SubU.to SubU.f2) ?_
                    exact Sub.of_le (AF.le_put (AV.le_eq rfl) (AF.le_top _))
                · refine k_seq ?_
                  refine k_reg .free hmixP (by kernel_rfl) ?_
                  refine G_q rfl (op_assign (av := .exact (.int .i64 0)) rfl ?_)
                  refine G_nil ?_
                  refine kC_normal ?_
                  refine k_ret ?_
                  obtain rfl := Option.some.inj h
                  refine kP_any (endN (af' := (AF.put AF0 (some 6) (.exact (.int .i64 0)))) (σ' := [boxI 80 w0 [.exact v0_0_j74, .exact b0_1_j74], vecT Tryd.prog 77 5 c_cspcheckref6_shared v0_0_j74 x0_0_j74, mapV (fun _ => True) (fun k : Int => .int .i64 k) (fun x : Int => .exact (.int .i64 x)) b0_1_j74 x0_1_j74]) _ rfl ?_ ⟨v0_0_j74, b0_1_j74, rfl, rfl⟩)
                  refine Sub.trans (SubU.to SubU.f1) ?_
                  refine Sub.trans (SubU.to SubU.f1) ?_
                  refine Sub.trans (SubU.to SubU.f2) ?_
                  exact Sub.of_le (AF.le_put (AV.le_eq rfl) (AF.le_top _))
set_option maxHeartbeats 4000000 in
theorem m_ref6_solver_same_S_ok : ∀ n : Nat, (∀ ⦃w0 : Nat⦄ ⦃w0v0 : Value⦄ ⦃w0z1 : Value⦄ (a0 : (List ((Int × Int × Int) × (List Int) × Int)) × (List (Int × Int))) (a1 : Int) (a2 : Int) (r : Int × ((List ((Int × Int × Int) × (List Int) × Int)) × (List (Int × Int)))), m_ref6_solver_same_S n a0 a1 a2 = some r → Fun Tryd.prog 78 [(pA w0 0), (.exact (.int .i64 a1)), (.exact (.int .i64 a2))] [boxI 80 w0 [.exact w0v0, .exact w0z1], vecT Tryd.prog 77 5 c_cspcheckref6_shared w0v0 a0.1, mapV (fun _ => True) (fun k : Int => .int .i64 k) (fun x : Int => .exact (.int .i64 x)) w0z1 a0.2] (fun a s => ∃ zw0v0 zw0z1, a = .exact (.int .i64 r.1) ∧ s = [boxI 80 w0 [.exact zw0v0, .exact zw0z1], vecT Tryd.prog 77 5 c_cspcheckref6_shared zw0v0 r.2.1, mapV (fun _ => True) (fun k : Int => .int .i64 k) (fun x : Int => .exact (.int .i64 x)) zw0z1 r.2.2]))
  | 0 => (fun _ _ _ _ _ _ _ h => by have h' : (none : Option _) = some _ := h; cases h')
  | n + 1 => by
    have ih := m_ref6_solver_same_S_ok n
    exact fun w0 w0v0 w0z1 a0 a1 a2 r h => m_ref6_solver_same_F_ok (m_ref6_solver_same_S n) ih a0 a1 a2 r h
theorem m_ref6_solver_same_ok {w0 : Nat} {w0v0 : Value} {w0z1 : Value} (a0 : (List ((Int × Int × Int) × (List Int) × Int)) × (List (Int × Int))) (a1 : Int) (a2 : Int) (r : Int × ((List ((Int × Int × Int) × (List Int) × Int)) × (List (Int × Int)))) (h : m_ref6_solver_same a0 a1 a2 = some r) : Fun Tryd.prog 78 [(pA w0 0), (.exact (.int .i64 a1)), (.exact (.int .i64 a2))] [boxI 80 w0 [.exact w0v0, .exact w0z1], vecT Tryd.prog 77 5 c_cspcheckref6_shared w0v0 a0.1, mapV (fun _ => True) (fun k : Int => .int .i64 k) (fun x : Int => .exact (.int .i64 x)) w0z1 a0.2] (fun a s => ∃ zw0v0 zw0z1, a = .exact (.int .i64 r.1) ∧ s = [boxI 80 w0 [.exact zw0v0, .exact zw0z1], vecT Tryd.prog 77 5 c_cspcheckref6_shared zw0v0 r.2.1, mapV (fun _ => True) (fun k : Int => .int .i64 k) (fun x : Int => .exact (.int .i64 x)) zw0z1 r.2.2]) := (m_ref6_solver_same_S_ok FU) a0 a1 a2 r h
set_option maxHeartbeats 4000000 in
theorem m_ref6_solver_solve_ok {w0 : Nat} {w0v0 : Value} {w0z1 : Value} (a0 : (List ((Int × Int × Int) × (List Int) × Int)) × (List (Int × Int))) (a1 : List (Int × Int × Int)) (a2 : List (Int × Int × Int)) (r : Int × ((List ((Int × Int × Int) × (List Int) × Int)) × (List (Int × Int)))) (h : m_ref6_solver_solve a0 a1 a2 = some r) : Fun Tryd.prog 48 [(pA w0 0), (.row 3 c_api_TypeNode a1), (.row 3 c_api_TypeNode a2)] [boxI 80 w0 [.exact w0v0, .exact w0z1], vecT Tryd.prog 77 5 c_cspcheckref6_shared w0v0 a0.1, mapV (fun _ => True) (fun k : Int => .int .i64 k) (fun x : Int => .exact (.int .i64 x)) w0z1 a0.2] (fun a s => ∃ zw0v0 zw0z1, a = .exact (.int .i64 r.1) ∧ s = [boxI 80 w0 [.exact zw0v0, .exact zw0z1], vecT Tryd.prog 77 5 c_cspcheckref6_shared zw0v0 r.2.1, mapV (fun _ => True) (fun k : Int => .int .i64 k) (fun x : Int => .exact (.int .i64 x)) zw0z1 r.2.2]) := by
  unfold m_ref6_solver_solve at h
  refine fun_of_awp Tryd.func48 rfl Tryd.ntmps48 (by simp) rfl (res1 rfl) fun E hE => k_end ?_
  refine k_seq ?_
  refine k_reg .free hmixP (by kernel_rfl) ?_
  refine G_q rfl (op_assign (av := .exact (.int .i64 0)) rfl ?_)
  refine G_nil ?_
  refine kC_normal ?_
  refine k_seq ?_
  refine k_reg .free hmixP (by kernel_rfl) ?_
  refine G_q rfl (op_move (av := pA w0 0) rfl ?_)
  refine G_q rfl (op_move (av := pA w0 0) rfl ?_)
  refine G_q rfl (op_move (av := .row 3 c_api_TypeNode a1) rfl ?_)
  obtain ⟨y1, hy1, h⟩ := bnd1_some h
  refine G_l rfl (opB_f2 (opB_f2 (opB_f2 (op_fun_3_2_3 (m_ref6_solver_add_ok _ _ _ hy1) Tryd.func79 (by kernel_rfl) (LEs.cons (AV.le_eq rfl) (LEs.cons (AV.le_eq rfl) LEs.nil)) (fun q2v0 q2z1 => ?_)))))
  refine G_q rfl (op_move (av := pA w0 0) rfl ?_)
  refine G_q rfl (op_move (av := .row 3 c_api_TypeNode a2) rfl ?_)
  obtain ⟨y3, hy3, h⟩ := bnd1_some h
  refine G_l rfl (opB_f2 (opB_f2 (opB_f2 (op_fun_3_2_3 (m_ref6_solver_add_ok _ _ _ hy3) Tryd.func79 (by kernel_rfl) (LEs.cons (AV.le_eq rfl) (LEs.cons (AV.le_eq rfl) LEs.nil)) (fun q4v0 q4z1 => ?_)))))
  obtain ⟨y5, hy5, h⟩ := bnd1_some h
  refine G_l rfl (opB_f2 (opB_f2 (opB_f2 (op_fun_3_2_3 (m_ref6_solver_same_ok _ _ _ _ hy5) Tryd.func78 (by kernel_rfl) (LEs.cons (AV.le_eq rfl) (LEs.cons (AV.le_eq rfl) (LEs.cons (AV.le_eq rfl) LEs.nil))) (fun q6v0 q6z1 => ?_)))))
  refine G_q rfl (op_assign (av := .exact (.int .i64 y5.1)) rfl ?_)
  refine G_nil ?_
  refine kC_normal ?_
  refine k_ret ?_
  obtain rfl := Option.some.inj h
  refine kP_any (endN (af' := (AF.put AF0 (some 6) (.exact (.int .i64 y5.1)))) (σ' := [boxI 80 w0 [.exact q6v0, .exact q6z1], vecT Tryd.prog 77 5 c_cspcheckref6_shared q6v0 y5.2.1, mapV (fun _ => True) (fun k : Int => .int .i64 k) (fun x : Int => .exact (.int .i64 x)) q6z1 y5.2.2]) _ rfl ?_ ⟨q6v0, q6z1, rfl, rfl⟩)
  exact Sub.of_le (AF.le_put (AV.le_eq rfl) (AF.le_top _))
set_option maxHeartbeats 4000000 in
theorem m_ref6_solver_measure_F_ok {w0 : Nat} {w0v0 : Value} {w0z1 : Value} {w2 : Value} {w3 : Value} (self_ref6_solver_measure : ((List ((Int × Int × Int) × (List Int) × Int)) × (List (Int × Int))) → Int → (List Int) → (List Int) → Option (Int × Int × ((List ((Int × Int × Int) × (List Int) × Int)) × (List (Int × Int))) × (List Int) × (List Int))) (hself_ref6_solver_measure : ∀ ⦃w0 : Nat⦄ ⦃w0v0 : Value⦄ ⦃w0z1 : Value⦄ ⦃w2 : Value⦄ ⦃w3 : Value⦄ (a0 : (List ((Int × Int × Int) × (List Int) × Int)) × (List (Int × Int))) (a1 : Int) (a2 : List Int) (a3 : List Int) (r : Int × Int × ((List ((Int × Int × Int) × (List Int) × Int)) × (List (Int × Int))) × (List Int) × (List Int)), self_ref6_solver_measure a0 a1 a2 a3 = some r → Fun Tryd.prog 80 [(pA w0 0), (.exact (.int .i64 a1)), (.exact w2), (.exact w3)] [boxI 80 w0 [.exact w0v0, .exact w0z1], vecT Tryd.prog 77 5 c_cspcheckref6_shared w0v0 a0.1, mapV (fun _ => True) (fun k : Int => .int .i64 k) (fun x : Int => .exact (.int .i64 x)) w0z1 a0.2, vecT Tryd.prog 23 1 c_int w2 a2, vecT Tryd.prog 23 1 c_int w3 a3] (fun a s => ∃ zw0v0 zw0z1, a = .tup [.exact (.int .i64 r.1), .exact (.int .i64 r.2.1)] ∧ s = [boxI 80 w0 [.exact zw0v0, .exact zw0z1], vecT Tryd.prog 77 5 c_cspcheckref6_shared zw0v0 r.2.2.1.1, mapV (fun _ => True) (fun k : Int => .int .i64 k) (fun x : Int => .exact (.int .i64 x)) zw0z1 r.2.2.1.2, vecT Tryd.prog 23 1 c_int w2 r.2.2.2.1, vecT Tryd.prog 23 1 c_int w3 r.2.2.2.2])) (a0 : (List ((Int × Int × Int) × (List Int) × Int)) × (List (Int × Int))) (a1 : Int) (a2 : List Int) (a3 : List Int) (r : Int × Int × ((List ((Int × Int × Int) × (List Int) × Int)) × (List (Int × Int))) × (List Int) × (List Int)) (h : m_ref6_solver_measure_F self_ref6_solver_measure a0 a1 a2 a3 = some r) : Fun Tryd.prog 80 [(pA w0 0), (.exact (.int .i64 a1)), (.exact w2), (.exact w3)] [boxI 80 w0 [.exact w0v0, .exact w0z1], vecT Tryd.prog 77 5 c_cspcheckref6_shared w0v0 a0.1, mapV (fun _ => True) (fun k : Int => .int .i64 k) (fun x : Int => .exact (.int .i64 x)) w0z1 a0.2, vecT Tryd.prog 23 1 c_int w2 a2, vecT Tryd.prog 23 1 c_int w3 a3] (fun a s => ∃ zw0v0 zw0z1, a = .tup [.exact (.int .i64 r.1), .exact (.int .i64 r.2.1)] ∧ s = [boxI 80 w0 [.exact zw0v0, .exact zw0z1], vecT Tryd.prog 77 5 c_cspcheckref6_shared zw0v0 r.2.2.1.1, mapV (fun _ => True) (fun k : Int => .int .i64 k) (fun x : Int => .exact (.int .i64 x)) zw0z1 r.2.2.1.2, vecT Tryd.prog 23 1 c_int w2 r.2.2.2.1, vecT Tryd.prog 23 1 c_int w3 r.2.2.2.2]) := by
  unfold m_ref6_solver_measure_F at h
  refine fun_of_awp Tryd.func80 rfl Tryd.ntmps80 (by simp) rfl (res2 rfl) fun E hE => k_end ?_
  refine k_seq ?_
  refine k_reg .free hmixP (by kernel_rfl) ?_
  refine G_q rfl (op_assign (av := .exact (.int .i64 0)) rfl ?_)
  refine G_q rfl (op_assign (av := .exact (.int .i64 0)) rfl ?_)
  refine G_nil ?_
  refine kC_normal ?_
  refine k_seq ?_
  refine k_reg .free hmixP (by kernel_rfl) ?_
  refine G_q rfl (op_move (av := pA w0 0) rfl ?_)
  refine G_q rfl (op_move (av := .exact (.int .i64 a1)) rfl ?_)
  obtain ⟨y1, hy1, h⟩ := bnd1_some h
  refine G_l rfl (opB_f2 (opB_f2 (opB_f2 (op_fun_3_2_3 (m_ref6_solver_find_ok _ _ _ hy1) Tryd.func102 (by kernel_rfl) (LEs.cons (AV.le_eq rfl) (LEs.cons (AV.le_eq rfl) LEs.nil)) (fun q2v0 q2z1 => ?_)))))
  refine G_q rfl (op_assign (av := .exact (.int .i64 y1.1)) rfl ?_)
  refine G_nil ?_
  refine kC_normal ?_
  refine k_seq ?_
  refine k_seq ?_
  refine k_reg .free hmixP (by kernel_rfl) ?_
  refine G_q rfl (op_move (av := .exact w2) rfl ?_)
  refine G_q rfl (op_move (av := .exact (.int .i64 y1.1)) rfl ?_)
  obtain ⟨n3, h⟩ := need_some h
  refine G_r rfl (opR_f3 (op_index_vec (by kernel_rfl) rfl rfl n3.1 n3.2 ?_))
  refine G_r rfl (opR_f3 (op_load_vec1 (i := y1.1) (o := 0) (a := .exact (.int .i64 (gi a2 y1.1))) (by kernel_rfl) len_c_int rfl n3.1 n3.2 rfl ?_))
  refine G_q rfl (op_gtr rfl rfl ?_)
  refine G_nil ?_
  refine kC_normal ?_
  refine k_cond_d (p := 0 < (gi a2 y1.1)) rfl (fun hc => ?_) (fun hc => ?_)
  · replace h := ite_t h hc
    refine k_seq ?_
    refine k_plan [] [(0, 0), (0, 1), (0, 4), (0, 5), (1, 2), (1, 3), (0, 8), (1, 6), (1, 7), (0, 9)] hmixP (by kernel_rfl) ?_
    refine P_q no34_0 rfl (op_move (av := .exact w2) rfl ?_)
    refine P_q no34_0 rfl (op_move (av := .exact (.int .i64 y1.1)) rfl ?_)
    refine P_q no34_0 rfl (op_move (av := .exact w3) rfl ?_)
    refine P_q no34_0 rfl (op_move (av := .exact (.int .i64 y1.1)) rfl ?_)
    obtain ⟨n4, h⟩ := need_some h
    refine P_r rfl (opR_f3 (op_index_vec (by kernel_rfl) rfl rfl n4.1 n4.2 ?_))
    refine P_r rfl (opR_f3 (op_load_vec1 (i := y1.1) (o := 0) (a := .exact (.int .i64 (gi a2 y1.1))) (by kernel_rfl) len_c_int rfl n4.1 n4.2 rfl ?_))
    refine P_q no34_0 rfl (op_assign (av := .exact (.int .i64 (gi a2 y1.1))) rfl ?_)
    obtain ⟨n5, h⟩ := need_some h
    refine P_r rfl (opR_f4 (op_index_vec (by kernel_rfl) rfl rfl n5.1 n5.2 ?_))
    refine P_r rfl (opR_f4 (op_load_vec1 (i := y1.1) (o := 0) (a := .exact (.int .i64 (gi a3 y1.1))) (by kernel_rfl) len_c_int rfl n5.1 n5.2 rfl ?_))
    refine P_q no34_0 rfl (op_assign (av := .exact (.int .i64 (gi a3 y1.1))) rfl ?_)
    refine P_nil ?_
    refine kC_normal ?_
    refine k_ret ?_
    refine kC_ret ?_
    obtain rfl := Option.some.inj h
    refine kP_any (endN (af' := (AF.put (AF.put AF0 (some 8) (.exact (.int .i64 (gi a2 y1.1)))) (some 9) (.exact (.int .i64 (gi a3 y1.1))))) (σ' := [boxI 80 w0 [.exact q2v0, .exact q2z1], vecT Tryd.prog 77 5 c_cspcheckref6_shared q2v0 y1.2.1, mapV (fun _ => True) (fun k : Int => .int .i64 k) (fun x : Int => .exact (.int .i64 x)) q2z1 y1.2.2, vecT Tryd.prog 23 1 c_int w2 a2, vecT Tryd.prog 23 1 c_int w3 a3]) _ rfl ?_ ⟨q2v0, q2z1, rfl, rfl⟩)
    exact Sub.of_le (AF.le_put (AV.le_eq rfl) (AF.le_put (AV.le_eq rfl) (AF.le_top _)))
  · replace h := ite_f h hc
    refine k_skip ?_
    refine kC_normal ?_
    refine k_seq ?_
    refine k_reg .free hmixP (by kernel_rfl) ?_
    refine G_q rfl (op_assign (av := .exact (.int .i64 1)) rfl ?_)
    refine G_q rfl (op_assign (av := .exact (.int .i64 1)) rfl ?_)
    refine G_nil ?_
    refine kC_normal ?_
    refine k_join6_2 h (fun (x0_0_j6 : List ((Int × Int × Int) × (List Int) × Int)) (x0_1_j6 : List (Int × Int)) (x2_j6 : List Int) (x3_j6 : List Int) (x10_j6 : Int) (x11_j6 : Int) (v0_0_j6 : Value) (b0_1_j6 : Value) => (AF.put (AF.put (AF.put (AF.put (AF.put (AF.put AF0 (some 0) (pA w0 0)) (some 1) (.exact (.int .i64 y1.1))) (some 2) (.exact w2)) (some 3) (.exact w3)) (some 10) (.exact (.int .i64 x10_j6))) (some 11) (.exact (.int .i64 x11_j6)))) (fun (x0_0_j6 : List ((Int × Int × Int) × (List Int) × Int)) (x0_1_j6 : List (Int × Int)) (x2_j6 : List Int) (x3_j6 : List Int) (x10_j6 : Int) (x11_j6 : Int) (v0_0_j6 : Value) (b0_1_j6 : Value) => [vecT Tryd.prog 77 5 c_cspcheckref6_shared v0_0_j6 x0_0_j6, mapV (fun _ => True) (fun k : Int => .int .i64 k) (fun x : Int => .exact (.int .i64 x)) b0_1_j6 x0_1_j6, boxI 80 w0 [.exact v0_0_j6, .exact b0_1_j6], vecT Tryd.prog 23 1 c_int w2 x2_j6, vecT Tryd.prog 23 1 c_int w3 x3_j6]) (fun k6 h => ?_) (fun x0_0_j6 x0_1_j6 x2_j6 x3_j6 x10_j6 x11_j6 v0_0_j6 b0_1_j6 h => ?_)
    · refine k_seq ?_
      refine k_reg .free hmixP (by kernel_rfl) ?_
      refine G_q rfl (op_assign (av := .exact (.int .i64 0)) rfl ?_)
      refine G_nil ?_
      refine kC_normal ?_
      refine k_block ?_
      refine k_loop7_2 (m_ref6_solver_measure_L2 self_ref6_solver_measure y1 k6) (m_ref6_solver_measure_B2 self_ref6_solver_measure y1 k6) (fun _ _ _ _ _ _ _ => rfl) (fun m _ _ _ _ _ _ _ => rfl) h (fun (x0_0_l2 : List ((Int × Int × Int) × (List Int) × Int)) (x0_1_l2 : List (Int × Int)) (x2_l2 : List Int) (x3_l2 : List Int) (x10_l2 : Int) (x11_l2 : Int) (x12_l2 : Int) (v0_0_l2 : Value) (b0_1_l2 : Value) => (AF.put (AF.put (AF.put (AF.put (AF.put (AF.put (AF.put AF0 (some 0) (pA w0 0)) (some 1) (.exact (.int .i64 y1.1))) (some 2) (.exact w2)) (some 3) (.exact w3)) (some 10) (.exact (.int .i64 x10_l2))) (some 11) (.exact (.int .i64 x11_l2))) (some 12) (.exact (.int .i64 x12_l2)))) (fun (x0_0_l2 : List ((Int × Int × Int) × (List Int) × Int)) (x0_1_l2 : List (Int × Int)) (x2_l2 : List Int) (x3_l2 : List Int) (x10_l2 : Int) (x11_l2 : Int) (x12_l2 : Int) (v0_0_l2 : Value) (b0_1_l2 : Value) => [vecT Tryd.prog 77 5 c_cspcheckref6_shared v0_0_l2 x0_0_l2, mapV (fun _ => True) (fun k : Int => .int .i64 k) (fun x : Int => .exact (.int .i64 x)) b0_1_l2 x0_1_l2, boxI 80 w0 [.exact v0_0_l2, .exact b0_1_l2], vecT Tryd.prog 23 1 c_int w2 x2_l2, vecT Tryd.prog 23 1 c_int w3 x3_l2]) q2v0 q2z1 ?_ (fun rec2 x0_0_l2 x0_1_l2 x2_l2 x3_l2 x10_l2 x11_l2 x12_l2 v0_0_l2 b0_1_l2 h => ?_)
      · refine Sub.trans (SubU.to SubU.f4) ?_
        refine Sub.trans (SubU.to SubU.f4) ?_
        refine Sub.trans (SubU.to SubU.f2) ?_
        refine Sub.trans (SubU.to SubU.f4) ?_
        refine Sub.trans (SubU.to SubU.f4) ?_
        exact Sub.of_le (AF.le_put (AV.le_eq rfl) (AF.le_put (AV.le_eq rfl) (AF.le_put (AV.le_eq rfl) (AF.le_put (AV.le_eq rfl) (AF.le_put (AV.le_eq rfl) (AF.le_put (AV.le_eq rfl) (AF.le_put (AV.le_eq rfl) (AF.le_top _))))))))
      · unfold m_ref6_solver_measure_B2 at h
        refine k_seq ?_
        refine k_seq ?_
        refine k_reg .free hmixP (by kernel_rfl) ?_
        refine G_q rfl (op_move (av := .exact (.int .i64 x12_l2)) rfl ?_)
        refine G_q rfl (op_move (av := pA w0 0) rfl ?_)
        refine G_q rfl (op_nilCheck rfl ?_)
        refine G_q rfl (op_fieldAddr (o := 0) (by kernel_rfl) rfl ?_)
        refine G_r rfl (opR_f2 (op_load_box1 (a := .exact v0_0_l2) (by kernel_rfl) rfl rfl ?_))
        refine G_q rfl (op_move (av := .exact (.int .i64 y1.1)) rfl ?_)
        obtain ⟨n33, h⟩ := need_some h
        refine G_r rfl (op_index_vec (by kernel_rfl) rfl rfl n33.1 n33.2 ?_)
        refine G_q rfl (op_field_eptr (o := 3) (by kernel_rfl) rfl ?_)
        refine G_r rfl (op_load_vec1 (i := y1.1) (o := 3) (a := .row 1 c_int ((gi x0_0_l2 y1.1).2.1)) (by kernel_rfl) len_c_cspcheckref6_shared rfl n33.1 n33.2 rfl ?_)
        refine G_q rfl (op_len_row (by kernel_rfl) rfl ?_)
        refine G_q rfl (op_lss rfl rfl ?_)
        refine G_nil ?_
        refine kC_normal ?_
        refine k_cond_d (p := x12_l2 < (List.length ((gi x0_0_l2 y1.1).2.1) : Int)) rfl (fun hc => ?_) (fun hc => ?_)
        · replace h := ite_t h hc
          refine k_skip ?_
          refine kC_normal ?_
          refine k_seq ?_
          refine k_block ?_
          refine k_seq ?_
          refine k_reg .free hmixP (by kernel_rfl) ?_
          refine G_q rfl (op_move (av := pA w0 0) rfl ?_)
          refine G_q rfl (op_move (av := pA w0 0) rfl ?_)
          refine G_q rfl (op_nilCheck rfl ?_)
          refine G_q rfl (op_fieldAddr (o := 0) (by kernel_rfl) rfl ?_)
          refine G_r rfl (opR_f2 (op_load_box1 (a := .exact v0_0_l2) (by kernel_rfl) rfl rfl ?_))
          refine G_q rfl (op_move (av := .exact (.int .i64 y1.1)) rfl ?_)
          obtain ⟨n34, h⟩ := need_some h
          refine G_r rfl (op_index_vec (by kernel_rfl) rfl rfl n34.1 n34.2 ?_)
          refine G_q rfl (op_field_eptr (o := 3) (by kernel_rfl) rfl ?_)
          refine G_r rfl (op_load_vec1 (i := y1.1) (o := 3) (a := .row 1 c_int ((gi x0_0_l2 y1.1).2.1)) (by kernel_rfl) len_c_cspcheckref6_shared rfl n34.1 n34.2 rfl ?_)
          refine G_q rfl (op_move (av := .exact (.int .i64 x12_l2)) rfl ?_)
          obtain ⟨n35, h⟩ := need_some h
          refine G_q rfl (op_index_row (by kernel_rfl) rfl rfl n35.1 n35.2 ?_)
          refine G_q rfl (op_load1p (a := .exact (.int .i64 (gi ((gi x0_0_l2 y1.1).2.1) x12_l2))) (by kernel_rfl) rfl rfl ?_)
          refine G_q rfl (op_move (av := .exact w2) rfl ?_)
          refine G_q rfl (op_move (av := .exact w3) rfl ?_)
          obtain ⟨y36, hy36, h⟩ := bnd1_some h
          refine G_l rfl (opB_f4 (opB_f4 (opB_f3 (opB_f3 (opB_f4 (op_fun_5_2_5 (hself_ref6_solver_measure _ _ _ _ _ hy36) Tryd.func80 (by kernel_rfl) (LEs.cons (AV.le_eq rfl) (LEs.cons (AV.le_eq rfl) (LEs.cons (AV.le_eq rfl) (LEs.cons (AV.le_eq rfl) LEs.nil)))) (fun q37v0 q37z1 => ?_)))))))
          refine G_q rfl (op_move (av := .tup [.exact (.int .i64 y36.1), .exact (.int .i64 y36.2.1)]) rfl ?_)
          refine G_q rfl (op_extract (av := .exact (.int .i64 y36.1)) rfl rfl ?_)
          refine G_q rfl (op_extract (av := .exact (.int .i64 y36.2.1)) rfl rfl ?_)
          refine G_q rfl (op_assign (av := .exact (.int .i64 y36.1)) rfl ?_)
          refine G_q rfl (op_assign (av := .exact (.int .i64 y36.2.1)) rfl ?_)
          refine G_nil ?_
          refine kC_normal ?_
          refine k_reg .free hmixP (by kernel_rfl) ?_
          refine G_q rfl (op_move (av := .exact (.int .i64 x10_l2)) rfl ?_)
          refine G_q rfl (op_move (av := .exact (.int .i64 y36.1)) rfl ?_)
          refine G_q rfl (op_add rfl rfl rfl ?_)
          refine G_q rfl (op_min rfl rfl ?_)
          refine G_q rfl (op_move (av := .exact (.int .i64 x11_l2)) rfl ?_)
          refine G_q rfl (op_move (av := .exact (.int .i64 y36.2.1)) rfl ?_)
          refine G_q rfl (op_add rfl rfl rfl ?_)
          refine G_q rfl (op_max rfl rfl ?_)
          refine G_q rfl (op_assign (av := .exact (.int .i64 (min (i64 (x10_l2 + y36.1)) 1048576))) rfl ?_)
          refine G_q rfl (op_assign (av := .exact (.int .i64 (max x11_l2 (i64 (y36.2.1 + 1))))) rfl ?_)
          refine G_nil ?_
          refine kB_normal ?_
          refine kC_normal ?_
          refine k_reg .free hmixP (by kernel_rfl) ?_
          refine G_q rfl (op_move (av := .exact (.int .i64 x12_l2)) rfl ?_)
          refine G_q rfl (op_add rfl rfl rfl ?_)
          refine G_q rfl (op_assign (av := .exact (.int .i64 (i64 (x12_l2 + 1)))) rfl ?_)
          refine G_nil ?_
          refine kI_normal ⟨_, _, _, _, _, _, _, q37v0, q37z1, h, ?_⟩
          refine Sub.trans (SubU.to SubU.f4) ?_
          refine Sub.trans (SubU.to SubU.f4) ?_
          refine Sub.trans (SubU.to SubU.f2) ?_
          refine Sub.trans (SubU.to SubU.f4) ?_
          refine Sub.trans (SubU.to SubU.f4) ?_
          exact Sub.of_le (AF.le_put (AV.le_eq rfl) (AF.le_put (AV.le_eq rfl) (AF.le_put (AV.le_eq rfl) (AF.le_put (AV.le_eq rfl) (AF.le_put (AV.le_eq rfl) (AF.le_put (AV.le_eq rfl) (AF.le_put (AV.le_eq rfl) (AF.le_top _))))))))
        · replace h := ite_f h hc
          refine k_exit ?_
          refine kC_exit ?_
          refine kI_exit ?_
          refine kB_exit ?_
          refine kI_normal ⟨_, _, _, _, _, _, v0_0_l2, b0_1_l2, h, ?_⟩
          exact Sub.of_le (AF.le_put (AV.le_eq rfl) (AF.le_put (AV.le_eq rfl) (AF.le_put (AV.le_eq rfl) (AF.le_put (AV.le_eq rfl) (AF.le_put (AV.le_eq rfl) (AF.le_put (AV.le_eq rfl) (AF.le_top _)))))))
    · refine k_seq ?_
      refine k_reg .free hmixP (by kernel_rfl) ?_
      refine G_q rfl (op_move (av := .exact w2) rfl ?_)
      refine G_q rfl (op_move (av := .exact (.int .i64 y1.1)) rfl ?_)
      refine G_q rfl (op_move (av := .exact w3) rfl ?_)
      refine G_q rfl (op_move (av := .exact (.int .i64 y1.1)) rfl ?_)
      refine G_q rfl (op_move (av := .exact (.int .i64 x10_j6)) rfl ?_)
      refine G_q rfl (op_move (av := .exact (.int .i64 x11_j6)) rfl ?_)
      obtain ⟨n38, h⟩ := need_some h
      refine G_r rfl (opR_f3 (op_index_vec (by kernel_rfl) rfl rfl n38.1 n38.2 ?_))
      refine G_l rfl (opB_f3 (op_store_vec (i := y1.1) (o := 0) (z := x10_j6) (c' := [.exact (.int .i64 x10_j6)]) (by kernel_rfl) len_c_int rfl n38.1 n38.2 rfl CellsOf.int (LEs.cons (AV.le_eq rfl) LEs.nil) (OneC.int OneC.nil) (by kernel_rfl) (Nat.le_of_ble_eq_true rfl) rfl ?_))
      obtain ⟨n39, h⟩ := need_some h
      refine G_r rfl (opR_f4 (op_index_vec (by kernel_rfl) rfl rfl n39.1 n39.2 ?_))
      refine G_l rfl (opB_f4 (op_store_vec (i := y1.1) (o := 0) (z := x11_j6) (c' := [.exact (.int .i64 x11_j6)]) (by kernel_rfl) len_c_int rfl n39.1 n39.2 rfl CellsOf.int (LEs.cons (AV.le_eq rfl) LEs.nil) (OneC.int OneC.nil) (by kernel_rfl) (Nat.le_of_ble_eq_true rfl) rfl ?_))
      refine G_nil ?_
      refine kC_normal ?_
      refine k_seq ?_
      refine k_reg .free hmixP (by kernel_rfl) ?_
      refine G_q rfl (op_move (av := .exact (.int .i64 x10_j6)) rfl ?_)
      refine G_q rfl (op_move (av := .exact (.int .i64 x11_j6)) rfl ?_)
      refine G_q rfl (op_assign (av := .exact (.int .i64 x10_j6)) rfl ?_)
      refine G_q rfl (op_assign (av := .exact (.int .i64 x11_j6)) rfl ?_)
      refine G_nil ?_
      refine kC_normal ?_
      refine k_ret ?_
      obtain rfl := Option.some.inj h
      refine kP_any (endN (af' := (AF.put (AF.put AF0 (some 8) (.exact (.int .i64 x10_j6))) (some 9) (.exact (.int .i64 x11_j6)))) (σ' := [boxI 80 w0 [.exact v0_0_j6, .exact b0_1_j6], vecT Tryd.prog 77 5 c_cspcheckref6_shared v0_0_j6 x0_0_j6, mapV (fun _ => True) (fun k : Int => .int .i64 k) (fun x : Int => .exact (.int .i64 x)) b0_1_j6 x0_1_j6, vecT Tryd.prog 23 1 c_int w2 (List.set x2_j6 (Int.toNat y1.1) x10_j6), vecT Tryd.prog 23 1 c_int w3 (List.set x3_j6 (Int.toNat y1.1) x11_j6)]) _ rfl ?_ ⟨v0_0_j6, b0_1_j6, rfl, rfl⟩)
      refine Sub.trans (SubU.to SubU.f1) ?_
      refine Sub.trans (SubU.to SubU.f3) ?_
      refine Sub.trans (SubU.to SubU.f3) ?_
      refine Sub.trans (SubU.to SubU.f4) ?_
      exact Sub.of_le (AF.le_put (AV.le_eq rfl) (AF.le_put (AV.le_eq rfl) (AF.le_top _)))
set_option maxHeartbeats 4000000 in
theorem m_ref6_solver_measure_S_ok : ∀ n : Nat, (∀ ⦃w0 : Nat⦄ ⦃w0v0 : Value⦄ ⦃w0z1 : Value⦄ ⦃w2 : Value⦄ ⦃w3 : Value⦄ (a0 : (List ((Int × Int × Int) × (List Int) × Int)) × (List (Int × Int))) (a1 : Int) (a2 : List Int) (a3 : List Int) (r : Int × Int × ((List ((Int × Int × Int) × (List Int) × Int)) × (List (Int × Int))) × (List Int) × (List Int)), m_ref6_solver_measure_S n a0 a1 a2 a3 = some r → Fun Tryd.prog 80 [(pA w0 0), (.exact (.int .i64 a1)), (.exact w2), (.exact w3)] [boxI 80 w0 [.exact w0v0, .exact w0z1], vecT Tryd.prog 77 5 c_cspcheckref6_shared w0v0 a0.1, mapV (fun _ => True) (fun k : Int => .int .i64 k) (fun x : Int => .exact (.int .i64 x)) w0z1 a0.2, vecT Tryd.prog 23 1 c_int w2 a2, vecT Tryd.prog 23 1 c_int w3 a3] (fun a s => ∃ zw0v0 zw0z1, a = .tup [.exact (.int .i64 r.1), .exact (.int .i64 r.2.1)] ∧ s = [boxI 80 w0 [.exact zw0v0, .exact zw0z1], vecT Tryd.prog 77 5 c_cspcheckref6_shared zw0v0 r.2.2.1.1, mapV (fun _ => True) (fun k : Int => .int .i64 k) (fun x : Int => .exact (.int .i64 x)) zw0z1 r.2.2.1.2, vecT Tryd.prog 23 1 c_int w2 r.2.2.2.1, vecT Tryd.prog 23 1 c_int w3 r.2.2.2.2]))
  | 0 => (fun _ _ _ _ _ _ _ _ _ _ h => by have h' : (none : Option _) = some _ := h; cases h')
  | n + 1 => by
    have ih := m_ref6_solver_measure_S_ok n
    exact fun w0 w0v0 w0z1 w2 w3 a0 a1 a2 a3 r h => m_ref6_solver_measure_F_ok (m_ref6_solver_measure_S n) ih a0 a1 a2 a3 r h
theorem m_ref6_solver_measure_ok {w0 : Nat} {w0v0 : Value} {w0z1 : Value} {w2 : Value} {w3 : Value} (a0 : (List ((Int × Int × Int) × (List Int) × Int)) × (List (Int × Int))) (a1 : Int) (a2 : List Int) (a3 : List Int) (r : Int × Int × ((List ((Int × Int × Int) × (List Int) × Int)) × (List (Int × Int))) × (List Int) × (List Int)) (h : m_ref6_solver_measure a0 a1 a2 a3 = some r) : Fun Tryd.prog 80 [(pA w0 0), (.exact (.int .i64 a1)), (.exact w2), (.exact w3)] [boxI 80 w0 [.exact w0v0, .exact w0z1], vecT Tryd.prog 77 5 c_cspcheckref6_shared w0v0 a0.1, mapV (fun _ => True) (fun k : Int => .int .i64 k) (fun x : Int => .exact (.int .i64 x)) w0z1 a0.2, vecT Tryd.prog 23 1 c_int w2 a2, vecT Tryd.prog 23 1 c_int w3 a3] (fun a s => ∃ zw0v0 zw0z1, a = .tup [.exact (.int .i64 r.1), .exact (.int .i64 r.2.1)] ∧ s = [boxI 80 w0 [.exact zw0v0, .exact zw0z1], vecT Tryd.prog 77 5 c_cspcheckref6_shared zw0v0 r.2.2.1.1, mapV (fun _ => True) (fun k : Int => .int .i64 k) (fun x : Int => .exact (.int .i64 x)) zw0z1 r.2.2.1.2, vecT Tryd.prog 23 1 c_int w2 r.2.2.2.1, vecT Tryd.prog 23 1 c_int w3 r.2.2.2.2]) := (m_ref6_solver_measure_S_ok FU) a0 a1 a2 a3 r h
set_option maxHeartbeats 4000000 in
theorem m_ref6_solver_fits_ok {w0 : Nat} {w0v0 : Value} {w0z1 : Value} (a0 : (List ((Int × Int × Int) × (List Int) × Int)) × (List (Int × Int))) (a1 : List (Int × Int × Int)) (r : Bool × ((List ((Int × Int × Int) × (List Int) × Int)) × (List (Int × Int)))) (h : m_ref6_solver_fits a0 a1 = some r) : Fun Tryd.prog 49 [(pA w0 0), (.row 3 c_api_TypeNode a1)] [boxI 80 w0 [.exact w0v0, .exact w0z1], vecT Tryd.prog 77 5 c_cspcheckref6_shared w0v0 a0.1, mapV (fun _ => True) (fun k : Int => .int .i64 k) (fun x : Int => .exact (.int .i64 x)) w0z1 a0.2] (fun a s => ∃ zw0v0 zw0z1, a = .exact (.bool r.1) ∧ s = [boxI 80 w0 [.exact zw0v0, .exact zw0z1], vecT Tryd.prog 77 5 c_cspcheckref6_shared zw0v0 r.2.1, mapV (fun _ => True) (fun k : Int => .int .i64 k) (fun x : Int => .exact (.int .i64 x)) zw0z1 r.2.2]) := by
  unfold m_ref6_solver_fits at h
  refine fun_of_awp Tryd.func49 rfl Tryd.ntmps49 (by simp) rfl (res1 rfl) fun E hE => k_end ?_
  refine k_seq ?_
  refine k_reg .free hmixP (by kernel_rfl) ?_
  refine G_q rfl (op_assign (av := .exact (.bool false)) rfl ?_)
  refine G_nil ?_
  refine kC_normal ?_
  refine k_seq ?_
  refine k_reg .free hmixP (by kernel_rfl) ?_
  refine G_q rfl (op_move (av := pA w0 0) rfl ?_)
  refine G_q rfl (op_move (av := .row 3 c_api_TypeNode a1) rfl ?_)
  obtain ⟨y1, hy1, h⟩ := bnd1_some h
  refine G_l rfl (opB_f2 (opB_f2 (opB_f2 (op_fun_3_2_3 (m_ref6_solver_add_ok _ _ _ hy1) Tryd.func79 (by kernel_rfl) (LEs.cons (AV.le_eq rfl) (LEs.cons (AV.le_eq rfl) LEs.nil)) (fun q2v0 q2z1 => ?_)))))
  refine G_q rfl (op_assign (av := .exact (.int .i64 y1.1)) rfl ?_)
  refine G_nil ?_
  refine kC_normal ?_
  refine k_seq ?_
  refine k_plan2 [boxI 80 w0 [.exact q2v0, .exact q2z1], vecT Tryd.prog 77 5 c_cspcheckref6_shared q2v0 y1.2.1] [(0, 0), (0, 1), (0, 2), (0, 3), (0, 4), (0, 8), (0, 9), (0, 10), (4, 5), (4, 6), (4, 11), (4, 12)] 7 13 [(2, 14), (0, 15), (0, 16), (0, 17), (0, 18), (0, 19)] hmixP (by kernel_rfl) ?_
  refine P_q no34_0 rfl (op_move (av := pA w0 0) rfl ?_)
  refine P_q no34_0 rfl (op_move (av := .exact (.int .i64 y1.1)) rfl ?_)
  refine P_q no34_0 rfl (op_move (av := pA w0 0) rfl ?_)
  refine P_q no34_0 rfl (op_nilCheck rfl ?_)
  refine P_q no34_0 rfl (op_fieldAddr (o := 0) (by kernel_rfl) rfl ?_)
  refine P_q no34_0 rfl (op_move (av := pA w0 0) rfl ?_)
  refine P_q no34_0 rfl (op_nilCheck rfl ?_)
  refine P_q no34_0 rfl (op_fieldAddr (o := 0) (by kernel_rfl) rfl ?_)
  refine P_r4 (Has.cons (List.Mem.head _) (Has.cons (List.Mem.tail _ (List.Mem.head _)) Has.mk0)) rfl (opI_mk (List.Mem.head _) (fun _ => op_load_box1 (a := .exact q2v0) (by kernel_rfl) rfl rfl rfl) ?_)
  refine P_r4 (Has.cons (List.Mem.head _) (Has.cons (List.Mem.tail _ (List.Mem.head _)) Has.mk0)) rfl (opI_mk (List.Mem.tail _ (List.Mem.head _)) (fun _ => op_len_vec (by kernel_rfl) rfl rfl) ?_)
  refine P_r4 (Has.cons (List.Mem.head _) (Has.cons (List.Mem.tail _ (List.Mem.head _)) Has.mk0)) rfl (opI_mk (List.Mem.head _) (fun _ => op_load_box1 (a := .exact q2v0) (by kernel_rfl) rfl rfl rfl) ?_)
  refine P_r4 (Has.cons (List.Mem.head _) (Has.cons (List.Mem.tail _ (List.Mem.head _)) Has.mk0)) rfl (opI_mk (List.Mem.tail _ (List.Mem.head _)) (fun _ => op_len_vec (by kernel_rfl) rfl rfl) ?_)
  refine P_nil ?_
  refine ⟨?_, ?_⟩
  · obtain ⟨n3, h⟩ := need_some h
    refine P_l3 rfl (op_make (enc := c_int) (zr := (0 : Int)) (by kernel_rfl) rfl rfl n3.1 n3.2 len_c_int Tryd.zeroValue3 (fun _ _ => (Fit.ex Fit.nil0)) (fun v4 => ⟨(Has.cons (List.Mem.tail _ (List.Mem.head _)) (Has.cons (List.Mem.tail _ (List.Mem.tail _ (List.Mem.head _))) Has.mk0)), ?_⟩))
    obtain ⟨n5, h⟩ := need_some h
    refine P_l3 rfl (op_make (enc := c_int) (zr := (0 : Int)) (by kernel_rfl) rfl rfl n5.1 n5.2 len_c_int Tryd.zeroValue3 (fun _ _ => (Fit.ex Fit.nil0)) (fun v6 => ⟨(Has.cons (List.Mem.tail _ (List.Mem.tail _ (List.Mem.head _))) (Has.cons (List.Mem.tail _ (List.Mem.tail _ (List.Mem.tail _ (List.Mem.head _)))) Has.mk0)), ?_⟩))
    obtain ⟨y7, hy7, h⟩ := bnd1_some h
    refine P_l rfl (opB_f1 (opB_f4 (opB_f4 (opB_f4 (op_fun_5_2_5 (m_ref6_solver_measure_ok _ _ _ _ _ hy7) Tryd.func80 (by kernel_rfl) (LEs.cons (AV.le_eq rfl) (LEs.cons (AV.le_eq rfl) (LEs.cons (AV.le_eq rfl) (LEs.cons (AV.le_eq rfl) LEs.nil)))) (fun q8v0 q8z1 => ?_))))))
    refine P_q no34_0 rfl (op_move (av := .tup [.exact (.int .i64 y7.1), .exact (.int .i64 y7.2.1)]) rfl ?_)
    refine P_q no34_0 rfl (op_extract (av := .exact (.int .i64 y7.1)) rfl rfl ?_)
    refine P_q no34_0 rfl (op_extract (av := .exact (.int .i64 y7.2.1)) rfl rfl ?_)
    refine P_q no34_0 rfl (op_assign (av := .exact (.int .i64 y7.1)) rfl ?_)
    refine P_q no34_0 rfl (op_assign (av := .exact (.int .i64 y7.2.1)) rfl ?_)
    refine P_nil ?_
    refine kC_normal ?_
    refine k_join1_0 h (fun (x4_j9 : Bool) => (AF.put (AF.put AF0 (some 0) (pA w0 0)) (some 4) (.exact (.bool x4_j9)))) (fun (x4_j9 : Bool) => [vecT Tryd.prog 77 5 c_cspcheckref6_shared q8v0 y7.2.2.1.1, mapV (fun _ => True) (fun k : Int => .int .i64 k) (fun x : Int => .exact (.int .i64 x)) q8z1 y7.2.2.1.2, boxI 80 w0 [.exact q8v0, .exact q8z1]]) (fun k9 h => ?_) (fun x4_j9 h => ?_)
    · refine k_reg .free hmixP (by kernel_rfl) ?_
      refine G_q rfl (op_move (av := .exact (.int .i64 y7.1)) rfl ?_)
      refine G_q rfl (op_leq rfl rfl ?_)
      refine G_q rfl (op_move (av := .exact (.bool (decide (y7.1 ≤ 512)))) rfl ?_)
      refine G_split (p := y7.1 ≤ 512) 31 rfl (fun hc => ?_) (fun hc => ?_)
      · replace h := ite_t h hc
        refine Gy_q rfl rfl rfl (op_move (av := .exact (.int .i64 y7.2.1)) rfl ?_)
        refine Gy_q rfl rfl rfl (op_leq rfl rfl ?_)
        refine G_q rfl (op_pick_t rfl (av := .exact (.bool (decide (y7.2.1 ≤ 64)))) rfl ?_)
        refine G_q rfl (op_assign (av := .exact (.bool (decide (y7.2.1 ≤ 64)))) rfl ?_)
        refine G_nil ?_
        refine kI_normal ⟨_, h, ?_⟩
        refine Sub.trans (SubU.to SubU.f3) ?_
        refine Sub.trans (SubU.to SubU.drop) ?_
        refine Sub.trans (SubU.to SubU.f3) ?_
        refine Sub.trans (SubU.to SubU.drop) ?_
        refine Sub.trans (SubU.to SubU.f2) ?_
        refine Sub.trans (SubU.to SubU.f2) ?_
        exact Sub.of_le (AF.le_put (AV.le_eq rfl) (AF.le_put (AV.le_eq rfl) (AF.le_top _)))
      · replace h := ite_f h hc
        refine G_n rfl rfl ?_
        refine G_n rfl rfl ?_
        refine G_q rfl (op_pick_f rfl (av := .exact (.bool false)) rfl ?_)
        refine G_q rfl (op_assign (av := .exact (.bool false)) rfl ?_)
        refine G_nil ?_
        refine kI_normal ⟨_, h, ?_⟩
        refine Sub.trans (SubU.to SubU.f3) ?_
        refine Sub.trans (SubU.to SubU.drop) ?_
        refine Sub.trans (SubU.to SubU.f3) ?_
        refine Sub.trans (SubU.to SubU.drop) ?_
        refine Sub.trans (SubU.to SubU.f2) ?_
        refine Sub.trans (SubU.to SubU.f2) ?_
        exact Sub.of_le (AF.le_put (AV.le_eq rfl) (AF.le_put (AV.le_eq rfl) (AF.le_top _)))
    · refine k_ret ?_
      obtain rfl := Option.some.inj h
      refine kP_any (endN (af' := (AF.put AF0 (some 4) (.exact (.bool x4_j9)))) (σ' := [boxI 80 w0 [.exact q8v0, .exact q8z1], vecT Tryd.prog 77 5 c_cspcheckref6_shared q8v0 y7.2.2.1.1, mapV (fun _ => True) (fun k : Int => .int .i64 k) (fun x : Int => .exact (.int .i64 x)) q8z1 y7.2.2.1.2]) _ rfl ?_ ⟨q8v0, q8z1, rfl, rfl⟩)
      refine Sub.trans (SubU.to SubU.f1) ?_
      refine Sub.trans (SubU.to SubU.f1) ?_
      refine Sub.trans (SubU.to SubU.f2) ?_
      exact Sub.of_le (AF.le_put (AV.le_eq rfl) (AF.le_top _))
  · obtain ⟨n3, h⟩ := need_some h
    refine P_l3 rfl (op_make (enc := c_int) (zr := (0 : Int)) (by kernel_rfl) rfl rfl n3.1 n3.2 len_c_int Tryd.zeroValue3 (fun _ _ => (Fit.ex Fit.nil0)) (fun v4 => ⟨(Has.cons (List.Mem.tail _ (List.Mem.head _)) (Has.cons (List.Mem.tail _ (List.Mem.tail _ (List.Mem.head _))) Has.mk0)), ?_⟩))
    obtain ⟨n5, h⟩ := need_some h
    refine P_l3 rfl (op_make (enc := c_int) (zr := (0 : Int)) (by kernel_rfl) rfl rfl n5.1 n5.2 len_c_int Tryd.zeroValue3 (fun _ _ => (Fit.ex Fit.nil0)) (fun v6 => ⟨(Has.cons (List.Mem.tail _ (List.Mem.tail _ (List.Mem.head _))) (Has.cons (List.Mem.tail _ (List.Mem.tail _ (List.Mem.tail _ (List.Mem.head _)))) Has.mk0)), ?_⟩))
    obtain ⟨y7, hy7, h⟩ := bnd1_some h
    refine P_l rfl (opB_f1 (opB_f1 (opB_f4 (opB_f4 (opB_f4 (op_fun_5_2_5 (m_ref6_solver_measure_ok _ _ _ _ _ hy7) Tryd.func80 (by kernel_rfl) (LEs.cons (AV.le_eq rfl) (LEs.cons (AV.le_eq rfl) (LEs.cons (AV.le_eq rfl) (LEs.cons (AV.le_eq rfl) LEs.nil)))) (fun q8v0 q8z1 => ?_)))))))
    refine P_q no34_0 rfl (op_move (av := .tup [.exact (.int .i64 y7.1), .exact (.int .i64 y7.2.1)]) rfl ?_)
    refine P_q no34_0 rfl (op_extract (av := .exact (.int .i64 y7.1)) rfl rfl ?_)
    refine P_q no34_0 rfl (op_extract (av := .exact (.int .i64 y7.2.1)) rfl rfl ?_)
    refine P_q no34_0 rfl (op_assign (av := .exact (.int .i64 y7.1)) rfl ?_)
    refine P_q no34_0 rfl (op_assign (av := .exact (.int .i64 y7.2.1)) rfl ?_)
    refine P_nil ?_
    refine kC_normal ?_
    refine k_join1_0 h (fun (x4_j9 : Bool) => (AF.put (AF.put AF0 (some 0) (pA w0 0)) (some 4) (.exact (.bool x4_j9)))) (fun (x4_j9 : Bool) => [vecT Tryd.prog 77 5 c_cspcheckref6_shared q8v0 y7.2.2.1.1, mapV (fun _ => True) (fun k : Int => .int .i64 k) (fun x : Int => .exact (.int .i64 x)) q8z1 y7.2.2.1.2, boxI 80 w0 [.exact q8v0, .exact q8z1]]) (fun k9 h => ?_) (fun x4_j9 h => ?_)
    · refine k_reg .free hmixP (by kernel_rfl) ?_
      refine G_q rfl (op_move (av := .exact (.int .i64 y7.1)) rfl ?_)
      refine G_q rfl (op_leq rfl rfl ?_)
      refine G_q rfl (op_move (av := .exact (.bool (decide (y7.1 ≤ 512)))) rfl ?_)
      refine G_split (p := y7.1 ≤ 512) 31 rfl (fun hc => ?_) (fun hc => ?_)
      · replace h := ite_t h hc
        refine Gy_q rfl rfl rfl (op_move (av := .exact (.int .i64 y7.2.1)) rfl ?_)
        refine Gy_q rfl rfl rfl (op_leq rfl rfl ?_)
        refine G_q rfl (op_pick_t rfl (av := .exact (.bool (decide (y7.2.1 ≤ 64)))) rfl ?_)
        refine G_q rfl (op_assign (av := .exact (.bool (decide (y7.2.1 ≤ 64)))) rfl ?_)
        refine G_nil ?_
        refine kI_normal ⟨_, h, ?_⟩
        refine Sub.trans (SubU.to SubU.f3) ?_
        refine Sub.trans (SubU.to SubU.drop) ?_
        refine Sub.trans (SubU.to SubU.f3) ?_
        refine Sub.trans (SubU.to SubU.drop) ?_
        refine Sub.trans (SubU.to SubU.f2) ?_
        refine Sub.trans (SubU.to SubU.f2) ?_
        exact Sub.of_le (AF.le_put (AV.le_eq rfl) (AF.le_put (AV.le_eq rfl) (AF.le_top _)))
      · replace h := ite_f h hc
        refine G_n rfl rfl ?_
        refine G_n rfl rfl ?_
        refine G_q rfl (op_pick_f rfl (av := .exact (.bool false)) rfl ?_)
        refine G_q rfl (op_assign (av := .exact (.bool false)) rfl ?_)
        refine G_nil ?_
        refine kI_normal ⟨_, h, ?_⟩
        refine Sub.trans (SubU.to SubU.f3) ?_
        refine Sub.trans (SubU.to SubU.drop) ?_
        refine Sub.trans (SubU.to SubU.f3) ?_
        refine Sub.trans (SubU.to SubU.drop) ?_
        refine Sub.trans (SubU.to SubU.f2) ?_
        refine Sub.trans (SubU.to SubU.f2) ?_
        exact Sub.of_le (AF.le_put (AV.le_eq rfl) (AF.le_put (AV.le_eq rfl) (AF.le_top _)))
    · refine k_ret ?_
      obtain rfl := Option.some.inj h
      refine kP_any (endN (af' := (AF.put AF0 (some 4) (.exact (.bool x4_j9)))) (σ' := [boxI 80 w0 [.exact q8v0, .exact q8z1], vecT Tryd.prog 77 5 c_cspcheckref6_shared q8v0 y7.2.2.1.1, mapV (fun _ => True) (fun k : Int => .int .i64 k) (fun x : Int => .exact (.int .i64 x)) q8z1 y7.2.2.1.2]) _ rfl ?_ ⟨q8v0, q8z1, rfl, rfl⟩)
      refine Sub.trans (SubU.to SubU.f1) ?_
      refine Sub.trans (SubU.to SubU.f1) ?_
      refine Sub.trans (SubU.to SubU.f2) ?_
      exact Sub.of_le (AF.le_put (AV.le_eq rfl) (AF.le_top _))
set_option maxHeartbeats 4000000 in
theorem m_ref6_sorted_ok (a0 : List Int) (r : (List Int)) (h : m_ref6_sorted a0 = some r) : Pure Tryd.prog 50 [(.row 1 c_int a0)] (.row 1 c_int r) := by
  unfold m_ref6_sorted at h
  refine Pure.ofFun (fun_of_awp Tryd.func50 rfl Tryd.ntmps50 (by simp) rfl (res1 rfl) fun E hE => k_end ?_)
  refine k_seq ?_
  refine k_reg .free hmixP (by kernel_rfl) ?_
  refine G_q rfl (op_assign (av := .exact (.slice none 0 0)) rfl ?_)
  refine G_nil ?_
  refine kC_normal ?_
  refine k_seq ?_
  refine k_reg .free hmixP (by kernel_rfl) ?_
  refine G_q rfl (op_move (av := .row 1 c_int a0) rfl ?_)
  obtain ⟨n1, h⟩ := need_some h
  refine G_l rfl (op_appN (enc := c_int) (by kernel_rfl) rfl rfl oc_c_int n1 (fun v2 => ?_))
  refine G_q rfl (op_assign (av := .exact v2) rfl ?_)
  refine G_nil ?_
  refine kC_normal ?_
  refine k_join1_0 h (fun (x3_j3 : List Int) => (AF.put AF0 (some 3) (.exact v2))) (fun (x3_j3 : List Int) => [vecT Tryd.prog 23 1 c_int v2 x3_j3]) (fun k3 h => ?_) (fun x3_j3 h => ?_)
  · refine k_seq ?_
    refine k_reg .free hmixP (by kernel_rfl) ?_
    refine G_q rfl (op_assign (av := .exact (.int .i64 1)) rfl ?_)
    refine G_nil ?_
    refine kC_normal ?_
    refine k_block ?_
    refine k_loop2_0 (m_ref6_sorted_L8 k3) (m_ref6_sorted_B8 k3) (fun _ _ => rfl) (fun m _ _ => rfl) h (fun (x3_l8 : List Int) (x4_l8 : Int) => (AF.put (AF.put AF0 (some 3) (.exact v2)) (some 4) (.exact (.int .i64 x4_l8)))) (fun (x3_l8 : List Int) (x4_l8 : Int) => [vecT Tryd.prog 23 1 c_int v2 x3_l8]) ?_ (fun rec8 x3_l8 x4_l8 h => ?_)
    · exact Sub.of_le (AF.le_put (AV.le_eq rfl) (AF.le_put (AV.le_eq rfl) (AF.le_top _)))
    · unfold m_ref6_sorted_B8 at h
      refine k_seq ?_
      refine k_seq ?_
      refine k_reg .free hmixP (by kernel_rfl) ?_
      refine G_q rfl (op_move (av := .exact (.int .i64 x4_l8)) rfl ?_)
      refine G_q rfl (op_move (av := .exact v2) rfl ?_)
      refine G_r rfl (op_len_vec (by kernel_rfl) rfl ?_)
      refine G_q rfl (op_lss rfl rfl ?_)
      refine G_nil ?_
      refine kC_normal ?_
      refine k_cond_d (p := x4_l8 < (List.length x3_l8 : Int)) rfl (fun hc => ?_) (fun hc => ?_)
      · replace h := ite_t h hc
        refine k_skip ?_
        refine kC_normal ?_
        refine k_join1_0 h (fun (x3_j470 : List Int) => (AF.put (AF.put AF0 (some 3) (.exact v2)) (some 4) (.exact (.int .i64 x4_l8)))) (fun (x3_j470 : List Int) => [vecT Tryd.prog 23 1 c_int v2 x3_j470]) (fun k470 h => ?_) (fun x3_j470 h => ?_)
        · refine k_block ?_
          refine k_seq ?_
          refine k_reg .free hmixP (by kernel_rfl) ?_
          refine G_q rfl (op_move (av := .exact (.int .i64 x4_l8)) rfl ?_)
          refine G_q rfl (op_assign (av := .exact (.int .i64 x4_l8)) rfl ?_)
          refine G_nil ?_
          refine kC_normal ?_
          refine k_block ?_
          refine k_loop2_0 (m_ref6_sorted_L14 k470) (m_ref6_sorted_B14 k470) (fun _ _ => rfl) (fun m _ _ => rfl) h (fun (x3_l14 : List Int) (x5_l14 : Int) => (AF.put (AF.put (AF.put AF0 (some 3) (.exact v2)) (some 4) (.exact (.int .i64 x4_l8))) (some 5) (.exact (.int .i64 x5_l14)))) (fun (x3_l14 : List Int) (x5_l14 : Int) => [vecT Tryd.prog 23 1 c_int v2 x3_l14]) ?_ (fun rec14 x3_l14 x5_l14 h => ?_)
          · exact Sub.of_le (AF.le_put (AV.le_eq rfl) (AF.le_put (AV.le_eq rfl) (AF.le_put (AV.le_eq rfl) (AF.le_top _))))
          · unfold m_ref6_sorted_B14 at h
            refine k_seq ?_
            refine k_join1_0 h (fun (x28_j553 : Bool) => (AF.put (AF.put (AF.put (AF.put AF0 (some 3) (.exact v2)) (some 4) (.exact (.int .i64 x4_l8))) (some 5) (.exact (.int .i64 x5_l14))) (some 28) (.exact (.bool x28_j553)))) (fun (x28_j553 : Bool) => [vecT Tryd.prog 23 1 c_int v2 x3_l14]) (fun k553 h => ?_) (fun x28_j553 h => ?_)
            · refine k_plan [] [(0, 0), (0, 1), (0, 2), (0, 3), (0, 4), (0, 7), (0, 8), (0, 9), (1, 5), (1, 6), (1, 10), (1, 11), (0, 12), (0, 13)] hmixP (by kernel_rfl) ?_
              refine P_q no34_0 rfl (op_move (av := .exact (.int .i64 x5_l14)) rfl ?_)
              refine P_q no34_0 rfl (op_gtr rfl rfl ?_)
              refine P_q no34_0 rfl (op_move (av := .exact (.bool (decide (0 < x5_l14)))) rfl ?_)
              refine P_split (p := 0 < x5_l14) 17 rfl (fun hc => ?_) (fun hc => ?_)
              · replace h := ite_t h hc
                refine Py_q no34_0 rfl rfl rfl (op_move (av := .exact v2) rfl ?_)
                refine Py_q no34_0 rfl rfl rfl (op_move (av := .exact (.int .i64 x5_l14)) rfl ?_)
                refine Py_q no34_0 rfl rfl rfl (op_move (av := .exact v2) rfl ?_)
                refine Py_q no34_0 rfl rfl rfl (op_move (av := .exact (.int .i64 x5_l14)) rfl ?_)
                refine Py_q no34_0 rfl rfl rfl (op_sub rfl rfl rfl ?_)
                obtain ⟨n556, h⟩ := need_some h
                refine Py_r rfl rfl rfl (op_index_vec (by kernel_rfl) rfl rfl n556.1 n556.2 ?_)
                refine Py_r rfl rfl rfl (op_load_vec1 (i := x5_l14) (o := 0) (a := .exact (.int .i64 (gi x3_l14 x5_l14))) (by kernel_rfl) len_c_int rfl n556.1 n556.2 rfl ?_)
                obtain ⟨n557, h⟩ := need_some h
                refine Py_r rfl rfl rfl (op_index_vec (by kernel_rfl) rfl rfl n557.1 n557.2 ?_)
                refine Py_r rfl rfl rfl (op_load_vec1 (i := i64 (x5_l14 - 1)) (o := 0) (a := .exact (.int .i64 (gi x3_l14 (i64 (x5_l14 - 1))))) (by kernel_rfl) len_c_int rfl n557.1 n557.2 rfl ?_)
                refine Py_q no34_0 rfl rfl rfl (op_lss rfl rfl ?_)
                refine P_q no34_0 rfl (op_pick_t rfl (av := .exact (.bool (decide ((gi x3_l14 x5_l14) < (gi x3_l14 (i64 (x5_l14 - 1))))))) rfl ?_)
                refine P_nil ?_
                refine kI_normal ⟨_, h, ?_⟩
                exact Sub.of_le (AF.le_put (AV.le_eq rfl) (AF.le_put (AV.le_eq rfl) (AF.le_put (AV.le_eq rfl) (AF.le_put (AV.le_eq rfl) (AF.le_top _)))))
              · replace h := ite_f h hc
                refine P_n no34_0 rfl rfl rfl ?_
                refine P_n no34_0 rfl rfl rfl ?_
                refine P_n no34_0 rfl rfl rfl ?_
                refine P_n no34_0 rfl rfl rfl ?_
                refine P_n no34_0 rfl rfl rfl ?_
                refine P_n no34_1 rfl rfl rfl ?_
                refine P_n no34_1 rfl rfl rfl ?_
                refine P_n no34_1 rfl rfl rfl ?_
                refine P_n no34_1 rfl rfl rfl ?_
                refine P_n no34_0 rfl rfl rfl ?_
                refine P_q no34_0 rfl (op_pick_f rfl (av := .exact (.bool false)) rfl ?_)
                refine P_nil ?_
                refine kI_normal ⟨_, h, ?_⟩
                exact Sub.of_le (AF.le_put (AV.le_eq rfl) (AF.le_put (AV.le_eq rfl) (AF.le_put (AV.le_eq rfl) (AF.le_put (AV.le_eq rfl) (AF.le_top _)))))
            · refine k_cond_b (c := x28_j553) rfl (fun hc => ?_) (fun hc => ?_)
              · replace h := ite_t h hc
                refine k_skip ?_
                refine kC_normal ?_
                refine k_seq ?_
                refine k_block ?_
                refine k_plan [] [(0, 0), (0, 1), (0, 2), (0, 3), (0, 4), (0, 5), (0, 6), (0, 7), (0, 10), (0, 11), (1, 8), (1, 9), (1, 12), (1, 13), (1, 14), (2, 15), (1, 16), (2, 17)] hmixP (by kernel_rfl) ?_
                refine P_q no34_0 rfl (op_move (av := .exact v2) rfl ?_)
                refine P_q no34_0 rfl (op_move (av := .exact (.int .i64 x5_l14)) rfl ?_)
                refine P_q no34_0 rfl (op_move (av := .exact v2) rfl ?_)
                refine P_q no34_0 rfl (op_move (av := .exact (.int .i64 x5_l14)) rfl ?_)
                refine P_q no34_0 rfl (op_sub rfl rfl rfl ?_)
                refine P_q no34_0 rfl (op_move (av := .exact v2) rfl ?_)
                refine P_q no34_0 rfl (op_move (av := .exact (.int .i64 x5_l14)) rfl ?_)
                refine P_q no34_0 rfl (op_sub rfl rfl rfl ?_)
                refine P_q no34_0 rfl (op_move (av := .exact v2) rfl ?_)
                refine P_q no34_0 rfl (op_move (av := .exact (.int .i64 x5_l14)) rfl ?_)
                obtain ⟨n558, h⟩ := need_some h
                refine P_r rfl (op_index_vec (by kernel_rfl) rfl rfl n558.1 n558.2 ?_)
                refine P_r rfl (op_load_vec1 (i := i64 (x5_l14 - 1)) (o := 0) (a := .exact (.int .i64 (gi x3_l14 (i64 (x5_l14 - 1))))) (by kernel_rfl) len_c_int rfl n558.1 n558.2 rfl ?_)
                obtain ⟨n559, h⟩ := need_some h
                refine P_r rfl (op_index_vec (by kernel_rfl) rfl rfl n559.1 n559.2 ?_)
                refine P_r rfl (op_load_vec1 (i := x5_l14) (o := 0) (a := .exact (.int .i64 (gi x3_l14 x5_l14))) (by kernel_rfl) len_c_int rfl n559.1 n559.2 rfl ?_)
                obtain ⟨n560, h⟩ := need_some h
                refine P_r rfl (op_index_vec (by kernel_rfl) rfl rfl n560.1 n560.2 ?_)
                refine P_l rfl (op_store_vec (i := x5_l14) (o := 0) (z := gi x3_l14 (i64 (x5_l14 - 1))) (c' := [.exact (.int .i64 (gi x3_l14 (i64 (x5_l14 - 1))))]) (by kernel_rfl) len_c_int rfl n560.1 n560.2 rfl CellsOf.int (LEs.cons (AV.le_eq rfl) LEs.nil) (OneC.int OneC.nil) (by kernel_rfl) (Nat.le_of_ble_eq_true rfl) rfl ?_)
                obtain ⟨n561, h⟩ := need_some h
                refine P_r rfl (op_index_vec (by kernel_rfl) rfl rfl n561.1 n561.2 ?_)
                refine P_l rfl (op_store_vec (i := i64 (x5_l14 - 1)) (o := 0) (z := gi x3_l14 x5_l14) (c' := [.exact (.int .i64 (gi x3_l14 x5_l14))]) (by kernel_rfl) len_c_int rfl n561.1 n561.2 rfl CellsOf.int (LEs.cons (AV.le_eq rfl) LEs.nil) (OneC.int OneC.nil) (by kernel_rfl) (Nat.le_of_ble_eq_true rfl) rfl ?_)
                refine P_nil ?_
                refine kB_normal ?_
                refine kC_normal ?_
                refine k_reg .free hmixP (by kernel_rfl) ?_
                refine G_q rfl (op_move (av := .exact (.int .i64 x5_l14)) rfl ?_)
                refine G_q rfl (op_sub rfl rfl rfl ?_)
                refine G_q rfl (op_assign (av := .exact (.int .i64 (i64 (x5_l14 - 1)))) rfl ?_)
                refine G_nil ?_
                refine kI_normal ⟨_, _, h, ?_⟩
                exact Sub.of_le (AF.le_put (AV.le_eq rfl) (AF.le_put (AV.le_eq rfl) (AF.le_put (AV.le_eq rfl) (AF.le_top _))))
              · replace h := ite_f h hc
                refine k_exit ?_
                refine kC_exit ?_
                refine kI_exit ?_
                refine kB_exit ?_
                refine kB_normal ?_
                refine kI_normal ⟨_, h, ?_⟩
                exact Sub.of_le (AF.le_put (AV.le_eq rfl) (AF.le_put (AV.le_eq rfl) (AF.le_top _)))
        · refine k_reg .free hmixP (by kernel_rfl) ?_
          refine G_q rfl (op_move (av := .exact (.int .i64 x4_l8)) rfl ?_)
          refine G_q rfl (op_add rfl rfl rfl ?_)
          refine G_q rfl (op_assign (av := .exact (.int .i64 (i64 (x4_l8 + 1)))) rfl ?_)
          refine G_nil ?_
          refine kI_normal ⟨_, _, h, ?_⟩
          exact Sub.of_le (AF.le_put (AV.le_eq rfl) (AF.le_put (AV.le_eq rfl) (AF.le_top _)))
      · replace h := ite_f h hc
        refine k_exit ?_
        refine kC_exit ?_
        refine kI_exit ?_
        refine kB_exit ?_
        refine kI_normal ⟨_, h, ?_⟩
        exact Sub.of_le (AF.le_put (AV.le_eq rfl) (AF.le_top _))
  · refine k_seq ?_
    refine k_reg .free hmixP (by kernel_rfl) ?_
    refine G_q rfl (op_move (av := .exact v2) rfl ?_)
    refine G_q rfl (op_assign (av := .exact v2) rfl ?_)
    refine G_nil ?_
    refine kC_normal ?_
    refine k_ret ?_
    obtain rfl := Option.some.inj h
    refine kP_any (endN (af' := (AF.put AF0 (some 2) (.row 1 c_int x3_j3))) (σ' := []) _ rfl ?_ ⟨rfl, rfl⟩)
    refine Sub.trans (SubU.to (SubU.freezeT (s := 2) rfl len_c_int)) ?_
    exact Sub.of_le (AF.le_put (AV.le_eq rfl) (AF.le_top _))
set_option maxHeartbeats 4000000 in
theorem m_ref6_solver_typ_F_ok {w0 : Nat} {w0v0 : Value} {w0z1 : Value} (self_ref6_solver_typ : ((List ((Int × Int × Int) × (List Int) × Int)) × (List (Int × Int))) → Int → Option ((List (Int × Int × Int)) × ((List ((Int × Int × Int) × (List Int) × Int)) × (List (Int × Int))))) (hself_ref6_solver_typ : ∀ ⦃w0 : Nat⦄ ⦃w0v0 : Value⦄ ⦃w0z1 : Value⦄ (a0 : (List ((Int × Int × Int) × (List Int) × Int)) × (List (Int × Int))) (a1 : Int) (r : (List (Int × Int × Int)) × ((List ((Int × Int × Int) × (List Int) × Int)) × (List (Int × Int)))), self_ref6_solver_typ a0 a1 = some r → Fun Tryd.prog 81 [(pA w0 0), (.exact (.int .i64 a1))] [boxI 80 w0 [.exact w0v0, .exact w0z1], vecT Tryd.prog 77 5 c_cspcheckref6_shared w0v0 a0.1, mapV (fun _ => True) (fun k : Int => .int .i64 k) (fun x : Int => .exact (.int .i64 x)) w0z1 a0.2] (fun a s => ∃ zw0v0 zw0z1, a = .row 3 c_api_TypeNode r.1 ∧ s = [boxI 80 w0 [.exact zw0v0, .exact zw0z1], vecT Tryd.prog 77 5 c_cspcheckref6_shared zw0v0 r.2.1, mapV (fun _ => True) (fun k : Int => .int .i64 k) (fun x : Int => .exact (.int .i64 x)) zw0z1 r.2.2])) (a0 : (List ((Int × Int × Int) × (List Int) × Int)) × (List (Int × Int))) (a1 : Int) (r : (List (Int × Int × Int)) × ((List ((Int × Int × Int) × (List Int) × Int)) × (List (Int × Int)))) (h : m_ref6_solver_typ_F self_ref6_solver_typ a0 a1 = some r) : Fun Tryd.prog 81 [(pA w0 0), (.exact (.int .i64 a1))] [boxI 80 w0 [.exact w0v0, .exact w0z1], vecT Tryd.prog 77 5 c_cspcheckref6_shared w0v0 a0.1, mapV (fun _ => True) (fun k : Int => .int .i64 k) (fun x : Int => .exact (.int .i64 x)) w0z1 a0.2] (fun a s => ∃ zw0v0 zw0z1, a = .row 3 c_api_TypeNode r.1 ∧ s = [boxI 80 w0 [.exact zw0v0, .exact zw0z1], vecT Tryd.prog 77 5 c_cspcheckref6_shared zw0v0 r.2.1, mapV (fun _ => True) (fun k : Int => .int .i64 k) (fun x : Int => .exact (.int .i64 x)) zw0z1 r.2.2]) := by
  unfold m_ref6_solver_typ_F at h
  refine fun_of_awp Tryd.func81 rfl Tryd.ntmps81 (by simp) rfl (res1 rfl) fun E hE => k_end ?_
  refine k_seq ?_
  refine k_reg .free hmixP (by kernel_rfl) ?_
  refine G_q rfl (op_assign (av := .exact (.slice none 0 0)) rfl ?_)
  refine G_nil ?_
  refine kC_normal ?_
  refine k_seq ?_
  refine k_reg .free hmixP (by kernel_rfl) ?_
  refine G_q rfl (op_move (av := pA w0 0) rfl ?_)
  refine G_q rfl (op_move (av := .exact (.int .i64 a1)) rfl ?_)
  obtain ⟨y1, hy1, h⟩ := bnd1_some h
  refine G_l rfl (opB_f2 (opB_f2 (opB_f2 (op_fun_3_2_3 (m_ref6_solver_find_ok _ _ _ hy1) Tryd.func102 (by kernel_rfl) (LEs.cons (AV.le_eq rfl) (LEs.cons (AV.le_eq rfl) LEs.nil)) (fun q2v0 q2z1 => ?_)))))
  refine G_q rfl (op_assign (av := .exact (.int .i64 y1.1)) rfl ?_)
  refine G_nil ?_
  refine kC_normal ?_
  refine k_seq ?_
  refine k_reg .free hmixP (by kernel_rfl) ?_
  refine G_q rfl (op_move (av := pA w0 0) rfl ?_)
  refine G_q rfl (op_nilCheck rfl ?_)
  refine G_q rfl (op_fieldAddr (o := 0) (by kernel_rfl) rfl ?_)
  refine G_r rfl (op_load_box1 (a := .exact q2v0) (by kernel_rfl) rfl rfl ?_)
  refine G_q rfl (op_move (av := .exact (.int .i64 y1.1)) rfl ?_)
  obtain ⟨n3, h⟩ := need_some h
  refine G_r rfl (opR_f1 (op_index_vec (by kernel_rfl) rfl rfl n3.1 n3.2 ?_))
  refine G_q rfl (op_field_eptr (o := 0) (by kernel_rfl) rfl ?_)
  refine G_r rfl (opR_f1 (op_load_vecN (i := y1.1) (o := 0) (m := 3) (c' := c_api_TypeNode ((gi y1.2.1 y1.1).1)) (by kernel_rfl) len_c_cspcheckref6_shared rfl n3.1 n3.2 rfl rfl ?_))
  refine G_l rfl (op_litI (n := 3) (enc := c_api_TypeNode) [(gi y1.2.1 y1.1).1] (by kernel_rfl) (CellsAll.cons rfl CellsOf.agg CellsAll.nil) rfl (by kernel_rfl) (LEss.cons (LEs.cons (AV.le_eq rfl) (LEs.cons (AV.le_eq rfl) (LEs.cons (AV.le_eq rfl) LEs.nil))) LEss.nil) (fun v4 => ?_))
  refine G_q rfl (op_assign (av := .exact v4) rfl ?_)
  refine G_nil ?_
  refine kC_normal ?_
  refine k_join3_3 h (fun (x0_0_j5 : List ((Int × Int × Int) × (List Int) × Int)) (x0_1_j5 : List (Int × Int)) (x5_j5 : List (Int × Int × Int)) (v0_0_j5 : Value) (b0_1_j5 : Value) (v5_j5 : Value) => (AF.put (AF.put AF0 (some 0) (pA w0 0)) (some 5) (.exact v5_j5))) (fun (x0_0_j5 : List ((Int × Int × Int) × (List Int) × Int)) (x0_1_j5 : List (Int × Int)) (x5_j5 : List (Int × Int × Int)) (v0_0_j5 : Value) (b0_1_j5 : Value) (v5_j5 : Value) => [vecT Tryd.prog 77 5 c_cspcheckref6_shared v0_0_j5 x0_0_j5, mapV (fun _ => True) (fun k : Int => .int .i64 k) (fun x : Int => .exact (.int .i64 x)) b0_1_j5 x0_1_j5, boxI 80 w0 [.exact v0_0_j5, .exact b0_1_j5], vecT Tryd.prog 22 3 c_api_TypeNode v5_j5 x5_j5]) (fun k5 h => ?_) (fun x0_0_j5 x0_1_j5 x5_j5 v0_0_j5 b0_1_j5 v5_j5 h => ?_)
  · refine k_seq ?_
    refine k_reg .free hmixP (by kernel_rfl) ?_
    refine G_q rfl (op_assign (av := .exact (.int .i64 0)) rfl ?_)
    refine G_nil ?_
    refine kC_normal ?_
    refine k_block ?_
    refine k_loop4_3 (m_ref6_solver_typ_L2 self_ref6_solver_typ y1 k5) (m_ref6_solver_typ_B2 self_ref6_solver_typ y1 k5) (fun _ _ _ _ => rfl) (fun m _ _ _ _ => rfl) h (fun (x0_0_l2 : List ((Int × Int × Int) × (List Int) × Int)) (x0_1_l2 : List (Int × Int)) (x5_l2 : List (Int × Int × Int)) (x6_l2 : Int) (v0_0_l2 : Value) (b0_1_l2 : Value) (v5_l2 : Value) => (AF.put (AF.put (AF.put (AF.put AF0 (some 0) (pA w0 0)) (some 1) (.exact (.int .i64 y1.1))) (some 5) (.exact v5_l2)) (some 6) (.exact (.int .i64 x6_l2)))) (fun (x0_0_l2 : List ((Int × Int × Int) × (List Int) × Int)) (x0_1_l2 : List (Int × Int)) (x5_l2 : List (Int × Int × Int)) (x6_l2 : Int) (v0_0_l2 : Value) (b0_1_l2 : Value) (v5_l2 : Value) => [vecT Tryd.prog 77 5 c_cspcheckref6_shared v0_0_l2 x0_0_l2, mapV (fun _ => True) (fun k : Int => .int .i64 k) (fun x : Int => .exact (.int .i64 x)) b0_1_l2 x0_1_l2, boxI 80 w0 [.exact v0_0_l2, .exact b0_1_l2], vecT Tryd.prog 22 3 c_api_TypeNode v5_l2 x5_l2]) q2v0 q2z1 v4 ?_ (fun rec2 x0_0_l2 x0_1_l2 x5_l2 x6_l2 v0_0_l2 b0_1_l2 v5_l2 h => ?_)
    · refine Sub.trans (SubU.to SubU.f1) ?_
      refine Sub.trans (SubU.to SubU.f3) ?_
      refine Sub.trans (SubU.to SubU.f3) ?_
      exact Sub.of_le (AF.le_put (AV.le_eq rfl) (AF.le_put (AV.le_eq rfl) (AF.le_put (AV.le_eq rfl) (AF.le_put (AV.le_eq rfl) (AF.le_top _)))))
    · unfold m_ref6_solver_typ_B2 at h
      refine k_seq ?_
      refine k_seq ?_
      refine k_reg .free hmixP (by kernel_rfl) ?_
      refine G_q rfl (op_move (av := .exact (.int .i64 x6_l2)) rfl ?_)
      refine G_q rfl (op_move (av := pA w0 0) rfl ?_)
      refine G_q rfl (op_nilCheck rfl ?_)
      refine G_q rfl (op_fieldAddr (o := 0) (by kernel_rfl) rfl ?_)
      refine G_r rfl (opR_f2 (op_load_box1 (a := .exact v0_0_l2) (by kernel_rfl) rfl rfl ?_))
      refine G_q rfl (op_move (av := .exact (.int .i64 y1.1)) rfl ?_)
      obtain ⟨n42, h⟩ := need_some h
      refine G_r rfl (op_index_vec (by kernel_rfl) rfl rfl n42.1 n42.2 ?_)
      refine G_q rfl (op_field_eptr (o := 3) (by kernel_rfl) rfl ?_)
      refine G_r rfl (op_load_vec1 (i := y1.1) (o := 3) (a := .row 1 c_int ((gi x0_0_l2 y1.1).2.1)) (by kernel_rfl) len_c_cspcheckref6_shared rfl n42.1 n42.2 rfl ?_)
      refine G_q rfl (op_len_row (by kernel_rfl) rfl ?_)
      refine G_q rfl (op_lss rfl rfl ?_)
      refine G_nil ?_
      refine kC_normal ?_
      refine k_cond_d (p := x6_l2 < (List.length ((gi x0_0_l2 y1.1).2.1) : Int)) rfl (fun hc => ?_) (fun hc => ?_)
      · replace h := ite_t h hc
        refine k_skip ?_
        refine kC_normal ?_
        refine k_seq ?_
        refine k_block ?_
        refine k_reg .free hmixP (by kernel_rfl) ?_
        refine G_q rfl (op_move (av := .exact v5_l2) rfl ?_)
        refine G_q rfl (op_move (av := pA w0 0) rfl ?_)
        refine G_q rfl (op_move (av := pA w0 0) rfl ?_)
        refine G_q rfl (op_nilCheck rfl ?_)
        refine G_q rfl (op_fieldAddr (o := 0) (by kernel_rfl) rfl ?_)
        refine G_r rfl (opR_f2 (op_load_box1 (a := .exact v0_0_l2) (by kernel_rfl) rfl rfl ?_))
        refine G_q rfl (op_move (av := .exact (.int .i64 y1.1)) rfl ?_)
        obtain ⟨n43, h⟩ := need_some h
        refine G_r rfl (op_index_vec (by kernel_rfl) rfl rfl n43.1 n43.2 ?_)
        refine G_q rfl (op_field_eptr (o := 3) (by kernel_rfl) rfl ?_)
        refine G_r rfl (op_load_vec1 (i := y1.1) (o := 3) (a := .row 1 c_int ((gi x0_0_l2 y1.1).2.1)) (by kernel_rfl) len_c_cspcheckref6_shared rfl n43.1 n43.2 rfl ?_)
        refine G_q rfl (op_move (av := .exact (.int .i64 x6_l2)) rfl ?_)
        obtain ⟨n44, h⟩ := need_some h
        refine G_q rfl (op_index_row (by kernel_rfl) rfl rfl n44.1 n44.2 ?_)
        refine G_q rfl (op_load1p (a := .exact (.int .i64 (gi ((gi x0_0_l2 y1.1).2.1) x6_l2))) (by kernel_rfl) rfl rfl ?_)
        obtain ⟨y45, hy45, h⟩ := bnd1_some h
        refine G_l rfl (opB_f1 (opB_f1 (opB_f2 (op_fun_3_2_3 (hself_ref6_solver_typ _ _ _ hy45) Tryd.func81 (by kernel_rfl) (LEs.cons (AV.le_eq rfl) (LEs.cons (AV.le_eq rfl) LEs.nil)) (fun q46v0 q46z1 => ?_)))))
        obtain ⟨n47, h⟩ := need_some h
        refine G_l rfl (opB_f3 (op_appT (by kernel_rfl) rfl rfl oc_c_api_TypeNode n47 (fun v48 => ?_)))
        refine G_q rfl (op_assign (av := .exact v48) rfl ?_)
        refine G_nil ?_
        refine kB_normal ?_
        refine kC_normal ?_
        refine k_reg .free hmixP (by kernel_rfl) ?_
        refine G_q rfl (op_move (av := .exact (.int .i64 x6_l2)) rfl ?_)
        refine G_q rfl (op_add rfl rfl rfl ?_)
        refine G_q rfl (op_assign (av := .exact (.int .i64 (i64 (x6_l2 + 1)))) rfl ?_)
        refine G_nil ?_
        refine kI_normal ⟨_, _, _, _, q46v0, q46z1, v48, h, ?_⟩
        refine Sub.trans (SubU.to SubU.f1) ?_
        refine Sub.trans (SubU.to SubU.f3) ?_
        refine Sub.trans (SubU.to SubU.f3) ?_
        exact Sub.of_le (AF.le_put (AV.le_eq rfl) (AF.le_put (AV.le_eq rfl) (AF.le_put (AV.le_eq rfl) (AF.le_put (AV.le_eq rfl) (AF.le_top _)))))
      · replace h := ite_f h hc
        refine k_exit ?_
        refine kC_exit ?_
        refine kI_exit ?_
        refine kB_exit ?_
        refine kI_normal ⟨_, _, _, v0_0_l2, b0_1_l2, v5_l2, h, ?_⟩
        exact Sub.of_le (AF.le_put (AV.le_eq rfl) (AF.le_put (AV.le_eq rfl) (AF.le_top _)))
  · refine k_seq ?_
    refine k_reg .free hmixP (by kernel_rfl) ?_
    refine G_q rfl (op_move (av := .exact v5_j5) rfl ?_)
    refine G_q rfl (op_assign (av := .exact v5_j5) rfl ?_)
    refine G_nil ?_
    refine kC_normal ?_
    refine k_ret ?_
    obtain rfl := Option.some.inj h
    refine kP_any (endN (af' := (AF.put AF0 (some 4) (.row 3 c_api_TypeNode x5_j5))) (σ' := [boxI 80 w0 [.exact v0_0_j5, .exact b0_1_j5], vecT Tryd.prog 77 5 c_cspcheckref6_shared v0_0_j5 x0_0_j5, mapV (fun _ => True) (fun k : Int => .int .i64 k) (fun x : Int => .exact (.int .i64 x)) b0_1_j5 x0_1_j5]) _ rfl ?_ ⟨v0_0_j5, b0_1_j5, rfl, rfl⟩)
    refine Sub.trans (SubU.to SubU.f3) ?_
    refine Sub.trans (SubU.to (SubU.freezeT (s := 4) rfl len_c_api_TypeNode)) ?_
    refine Sub.trans (SubU.to SubU.f1) ?_
    refine Sub.trans (SubU.to SubU.f1) ?_
    refine Sub.trans (SubU.to SubU.f2) ?_
    exact Sub.of_le (AF.le_put (AV.le_eq rfl) (AF.le_top _))
end Go.Proofs.YtdfdjgolijckfaaDoor
/- The functions compute their models, by program. -/
namespace Go.Proofs.YtdfdjgolijckfaaDoor
open Go.RowKit
attribute [local irreducible] AV.exact AV.top AV.row AV.ptr AV.agg AV.tup AV.eptr AV.fn AV.nilq AV.nilqn opA opB opM opR Quiet Loud Reads wpG awp den Sub SubU Pure Fun vecI vecT boxI CellsAll CellsOf OneC LEs LEss
set_option maxRecDepth 100000

set_option maxHeartbeats 4000000 in
theorem m_ref6_solver_typ_S_ok : ∀ n : Nat, (∀ ⦃w0 : Nat⦄ ⦃w0v0 : Value⦄ ⦃w0z1 : Value⦄ (a0 : (List ((Int × Int × Int) × (List Int) × Int)) × (List (Int × Int))) (a1 : Int) (r : (List (Int × Int × Int)) × ((List ((Int × Int × Int) × (List Int) × Int)) × (List (Int × Int)))), m_ref6_solver_typ_S n a0 a1 = some r → Fun Tryd.prog 81 [(pA w0 0), (.exact (.int .i64 a1))] [boxI 80 w0 [.exact w0v0, .exact w0z1], vecT Tryd.prog 77 5 c_cspcheckref6_shared w0v0 a0.1, mapV (fun _ => True) (fun k : Int => .int .i64 k) (fun x : Int => .exact (.int .i64 x)) w0z1 a0.2] (fun a s => ∃ zw0v0 zw0z1, a = .row 3 c_api_TypeNode r.1 ∧ s = [boxI 80 w0 [.exact zw0v0, .exact zw0z1], vecT Tryd.prog 77 5 c_cspcheckref6_shared zw0v0 r.2.1, mapV (fun _ => True) (fun k : Int => .int .i64 k) (fun x : Int => .exact (.int .i64 x)) zw0z1 r.2.2]))
  | 0 => (fun _ _ _ _ _ _ h => by have h' : (none : Option _) = some _ := h; cases h')
  | n + 1 => by
    have ih := m_ref6_solver_typ_S_ok n
    exact fun w0 w0v0 w0z1 a0 a1 r h => m_ref6_solver_typ_F_ok (m_ref6_solver_typ_S n) ih a0 a1 r h
theorem m_ref6_solver_typ_ok {w0 : Nat} {w0v0 : Value} {w0z1 : Value} (a0 : (List ((Int × Int × Int) × (List Int) × Int)) × (List (Int × Int))) (a1 : Int) (r : (List (Int × Int × Int)) × ((List ((Int × Int × Int) × (List Int) × Int)) × (List (Int × Int)))) (h : m_ref6_solver_typ a0 a1 = some r) : Fun Tryd.prog 81 [(pA w0 0), (.exact (.int .i64 a1))] [boxI 80 w0 [.exact w0v0, .exact w0z1], vecT Tryd.prog 77 5 c_cspcheckref6_shared w0v0 a0.1, mapV (fun _ => True) (fun k : Int => .int .i64 k) (fun x : Int => .exact (.int .i64 x)) w0z1 a0.2] (fun a s => ∃ zw0v0 zw0z1, a = .row 3 c_api_TypeNode r.1 ∧ s = [boxI 80 w0 [.exact zw0v0, .exact zw0z1], vecT Tryd.prog 77 5 c_cspcheckref6_shared zw0v0 r.2.1, mapV (fun _ => True) (fun k : Int => .int .i64 k) (fun x : Int => .exact (.int .i64 x)) zw0z1 r.2.2]) := (m_ref6_solver_typ_S_ok FU) a0 a1 r h
set_option maxHeartbeats 4000000 in
theorem m_ref6_solver_now_ok {w0 : Nat} {w0v0 : Value} {w0z1 : Value} (a0 : (List ((Int × Int × Int) × (List Int) × Int)) × (List (Int × Int))) (a1 : List (Int × Int × Int)) (r : (List (Int × Int × Int)) × ((List ((Int × Int × Int) × (List Int) × Int)) × (List (Int × Int)))) (h : m_ref6_solver_now a0 a1 = some r) : Fun Tryd.prog 51 [(pA w0 0), (.row 3 c_api_TypeNode a1)] [boxI 80 w0 [.exact w0v0, .exact w0z1], vecT Tryd.prog 77 5 c_cspcheckref6_shared w0v0 a0.1, mapV (fun _ => True) (fun k : Int => .int .i64 k) (fun x : Int => .exact (.int .i64 x)) w0z1 a0.2] (fun a s => ∃ zw0v0 zw0z1, a = .row 3 c_api_TypeNode r.1 ∧ s = [boxI 80 w0 [.exact zw0v0, .exact zw0z1], vecT Tryd.prog 77 5 c_cspcheckref6_shared zw0v0 r.2.1, mapV (fun _ => True) (fun k : Int => .int .i64 k) (fun x : Int => .exact (.int .i64 x)) zw0z1 r.2.2]) := by
  unfold m_ref6_solver_now at h
  refine fun_of_awp Tryd.func51 rfl Tryd.ntmps51 (by simp) rfl (res1 rfl) fun E hE => k_end ?_
  refine k_seq ?_
  refine k_reg .free hmixP (by kernel_rfl) ?_
  refine G_q rfl (op_assign (av := .exact (.slice none 0 0)) rfl ?_)
  refine G_nil ?_
  refine kC_normal ?_
  refine k_seq ?_
  refine k_reg .free hmixP (by kernel_rfl) ?_
  refine G_q rfl (op_move (av := pA w0 0) rfl ?_)
  refine G_q rfl (op_move (av := pA w0 0) rfl ?_)
  refine G_q rfl (op_move (av := .row 3 c_api_TypeNode a1) rfl ?_)
  obtain ⟨y1, hy1, h⟩ := bnd1_some h
  refine G_l rfl (opB_f2 (opB_f2 (opB_f2 (op_fun_3_2_3 (m_ref6_solver_add_ok _ _ _ hy1) Tryd.func79 (by kernel_rfl) (LEs.cons (AV.le_eq rfl) (LEs.cons (AV.le_eq rfl) LEs.nil)) (fun q2v0 q2z1 => ?_)))))
  obtain ⟨y3, hy3, h⟩ := bnd1_some h
  refine G_l rfl (opB_f2 (opB_f2 (opB_f2 (op_fun_3_2_3 (m_ref6_solver_typ_ok _ _ _ hy3) Tryd.func81 (by kernel_rfl) (LEs.cons (AV.le_eq rfl) (LEs.cons (AV.le_eq rfl) LEs.nil)) (fun q4v0 q4z1 => ?_)))))
  refine G_q rfl (op_assign (av := .row 3 c_api_TypeNode y3.1) rfl ?_)
  refine G_nil ?_
  refine kC_normal ?_
  refine k_ret ?_
  obtain rfl := Option.some.inj h
  refine kP_any (endN (af' := (AF.put AF0 (some 4) (.row 3 c_api_TypeNode y3.1))) (σ' := [boxI 80 w0 [.exact q4v0, .exact q4z1], vecT Tryd.prog 77 5 c_cspcheckref6_shared q4v0 y3.2.1, mapV (fun _ => True) (fun k : Int => .int .i64 k) (fun x : Int => .exact (.int .i64 x)) q4z1 y3.2.2]) _ rfl ?_ ⟨q4v0, q4z1, rfl, rfl⟩)
  exact Sub.of_le (AF.le_put (AV.le_eq rfl) (AF.le_top _))
set_option maxHeartbeats 4000000 in
theorem m_ref6_Unify_ok (a0 : List (Int × Int × Int)) (a1 : List (Int × Int × Int)) (r : (List (Int × (List (Int × Int × Int)))) × Int) (h : m_ref6_Unify a0 a1 = some r) : Pure Tryd.prog 13 [(.row 3 c_api_TypeNode a0), (.row 3 c_api_TypeNode a1)] (.tup [.row 2 c_api_Binding r.1, .exact (.int .i64 r.2)]) := by
  unfold m_ref6_Unify at h
  refine Pure.ofFun (fun_of_awp Tryd.func13 rfl Tryd.ntmps13 (by simp) rfl (res2 rfl) fun E hE => k_end ?_)
  refine k_seq ?_
  refine k_reg .free hmixP (by kernel_rfl) ?_
  refine G_q rfl (op_assign (av := .exact (.slice none 0 0)) rfl ?_)
  refine G_q rfl (op_assign (av := .exact (.int .i64 0)) rfl ?_)
  refine G_nil ?_
  refine kC_normal ?_
  refine k_seq ?_
  refine k_join1_0 h (fun (x19_j7 : Bool) => (AF.put (AF.put (AF.put AF0 (some 0) (.row 3 c_api_TypeNode a0)) (some 1) (.row 3 c_api_TypeNode a1)) (some 19) (.exact (.bool x19_j7)))) (fun (x19_j7 : Bool) => []) (fun k7 h => ?_) (fun x19_j7 h => ?_)
  · refine k_reg .free hmixP (by kernel_rfl) ?_
    refine G_q rfl (op_move (av := .row 3 c_api_TypeNode a0) rfl ?_)
    obtain ⟨y10, hy10, h⟩ := bnd1_some h
    refine G_q rfl (op_pure (m_ref6_ValidType_ok _ _ hy10) Tryd.func30 (by kernel_rfl) (LEs.cons (AV.le_eq rfl) LEs.nil) ?_)
    refine G_q rfl (op_not rfl ?_)
    refine G_q rfl (op_move (av := .exact (.bool (!y10))) rfl ?_)
    refine G_splitB (c := !y10) 15 rfl (fun hc => ?_) (fun hc => ?_)
    · replace h := ite_t h hc
      refine G_n rfl rfl ?_
      refine G_n rfl rfl ?_
      refine G_n rfl rfl ?_
      refine G_q rfl (op_pick_t rfl (av := .exact (.bool true)) rfl ?_)
      refine G_nil ?_
      refine kI_normal ⟨_, h, ?_⟩
      exact Sub.of_le (AF.le_put (AV.le_eq rfl) (AF.le_put (AV.le_eq rfl) (AF.le_put (AV.le_eq rfl) (AF.le_top _))))
    · replace h := ite_f h hc
      refine Gy_q rfl rfl rfl (op_move (av := .row 3 c_api_TypeNode a1) rfl ?_)
      obtain ⟨y11, hy11, h⟩ := bnd1_some h
      refine Gy_q rfl rfl rfl (op_pure (m_ref6_ValidType_ok _ _ hy11) Tryd.func30 (by kernel_rfl) (LEs.cons (AV.le_eq rfl) LEs.nil) ?_)
      refine Gy_q rfl rfl rfl (op_not rfl ?_)
      refine G_q rfl (op_pick_f rfl (av := .exact (.bool (!y11))) rfl ?_)
      refine G_nil ?_
      refine kI_normal ⟨_, h, ?_⟩
      exact Sub.of_le (AF.le_put (AV.le_eq rfl) (AF.le_put (AV.le_eq rfl) (AF.le_put (AV.le_eq rfl) (AF.le_top _))))
  · refine k_cond_b (c := x19_j7) rfl (fun hc => ?_) (fun hc => ?_)
    · replace h := ite_t h hc
      refine k_seq ?_
      refine k_reg .free hmixP (by kernel_rfl) ?_
      refine G_q rfl (op_assign (av := .exact (.slice none 0 0)) rfl ?_)
      refine G_q rfl (op_assign (av := .exact (.int .i64 1)) rfl ?_)
      refine G_nil ?_
      refine kC_normal ?_
      refine k_ret ?_
      refine kC_ret ?_
      obtain rfl := Option.some.inj h
      refine kP_any (endN (af' := (AF.put (AF.put AF0 (some 4) (.row 2 c_api_Binding [])) (some 5) (.exact (.int .i64 1)))) (σ' := []) _ rfl ?_ ⟨rfl, rfl⟩)
      exact Sub.of_le (AF.le_put (AV.le_eq rfl) (AF.le_put (row_nil (by decide)) (AF.le_top _)))
    · replace h := ite_f h hc
      refine k_skip ?_
      refine kC_normal ?_
      refine k_seq ?_
      refine k_reg .free hmixP (by kernel_rfl) ?_
      refine G_q rfl (op_bld (c' := [.exact (.slice none 0 0), .exact (.map none)]) CellsAll.nil rfl (LEs.cons (AV.le_eq rfl) (LEs.cons (AV.le_eq rfl) LEs.nil)) ?_)
      refine G_l rfl (op_boxI (c := [.exact (.slice none 0 0), .exact (.map none)]) rfl CellsOf.agg (LEs.cons (AV.le_eq rfl) (LEs.cons (AV.le_eq rfl) LEs.nil)) (fun b12 => ?_))
      refine G_q rfl (op_assign (av := pA b12 0) rfl ?_)
      refine G_nil ?_
      refine kC_normal ?_
      refine k_seq ?_
      refine k_seq ?_
      refine k_reg .free hmixP (by kernel_rfl) ?_
      refine G_q rfl (op_move (av := pA b12 0) rfl ?_)
      refine G_q rfl (op_move (av := .row 3 c_api_TypeNode a0) rfl ?_)
      refine G_q rfl (op_move (av := .row 3 c_api_TypeNode a1) rfl ?_)
      refine G_sub rfl (SubU.trans (SubU.nilT (P := Tryd.prog) (t := 77) (n := 5) (enc := c_cspcheckref6_shared)) (SubU.newMapV (V := (fun _ => True)) (kv := (fun k : Int => .int .i64 k)) (vv := (fun x : Int => .exact (.int .i64 x))))) ?_
      obtain ⟨y15, hy15, h⟩ := bnd1_some h
      refine G_l rfl (opB_f1 (opB_f2 (op_fun_3_2_3 (m_ref6_solver_solve_ok _ _ _ _ hy15) Tryd.func48 (by kernel_rfl) (LEs.cons (AV.le_eq rfl) (LEs.cons (AV.le_eq rfl) (LEs.cons (AV.le_eq rfl) LEs.nil))) (fun q16v0 q16z1 => ?_))))
      refine G_q rfl (op_assign (av := .exact (.int .i64 y15.1)) rfl ?_)
      refine G_nil ?_
      refine kC_normal ?_
      refine k_seq ?_
      refine k_reg .free hmixP (by kernel_rfl) ?_
      refine G_q rfl (op_move (av := .exact (.int .i64 y15.1)) rfl ?_)
      refine G_q rfl (op_neq rfl rfl ?_)
      refine G_nil ?_
      refine kC_normal ?_
      refine k_cond_d (p := ¬ y15.1 = 0) rfl (fun hc => ?_) (fun hc => ?_)
      · replace h := ite_t h hc
        refine k_seq ?_
        refine k_reg .free hmixP (by kernel_rfl) ?_
        refine G_q rfl (op_move (av := .exact (.int .i64 y15.1)) rfl ?_)
        refine G_q rfl (op_assign (av := .exact (.slice none 0 0)) rfl ?_)
        refine G_q rfl (op_assign (av := .exact (.int .i64 y15.1)) rfl ?_)
        refine G_nil ?_
        refine kC_normal ?_
        refine k_ret ?_
        refine kC_ret ?_
        obtain rfl := Option.some.inj h
        refine kP_any (endN (af' := (AF.put (AF.put AF0 (some 4) (.row 2 c_api_Binding [])) (some 5) (.exact (.int .i64 y15.1)))) (σ' := []) _ rfl ?_ ⟨rfl, rfl⟩)
        refine Sub.trans (SubU.to SubU.drop) ?_
        refine Sub.trans (SubU.to SubU.drop) ?_
        refine Sub.trans (SubU.to SubU.drop) ?_
        exact Sub.of_le (AF.le_put (AV.le_eq rfl) (AF.le_put (row_nil (by decide)) (AF.le_top _)))
      · replace h := ite_f h hc
        refine k_skip ?_
        refine kC_normal ?_
        refine k_seq ?_
        refine k_seq ?_
        refine k_reg .free hmixP (by kernel_rfl) ?_
        refine G_q rfl (op_move (av := pA b12 0) rfl ?_)
        refine G_q rfl (op_move (av := .row 3 c_api_TypeNode a0) rfl ?_)
        obtain ⟨y17, hy17, h⟩ := bnd1_some h
        refine G_l rfl (opB_f2 (opB_f2 (opB_f2 (op_fun_3_2_3 (m_ref6_solver_fits_ok _ _ _ hy17) Tryd.func49 (by kernel_rfl) (LEs.cons (AV.le_eq rfl) (LEs.cons (AV.le_eq rfl) LEs.nil)) (fun q18v0 q18z1 => ?_)))))
        refine G_q rfl (op_not rfl ?_)
        refine G_nil ?_
        refine kC_normal ?_
        refine k_cond_b (c := !y17.1) rfl (fun hc => ?_) (fun hc => ?_)
        · replace h := ite_t h hc
          refine k_seq ?_
          refine k_reg .free hmixP (by kernel_rfl) ?_
          refine G_q rfl (op_assign (av := .exact (.slice none 0 0)) rfl ?_)
          refine G_q rfl (op_assign (av := .exact (.int .i64 10)) rfl ?_)
          refine G_nil ?_
          refine kC_normal ?_
          refine k_ret ?_
          refine kC_ret ?_
          obtain rfl := Option.some.inj h
          refine kP_any (endN (af' := (AF.put (AF.put AF0 (some 4) (.row 2 c_api_Binding [])) (some 5) (.exact (.int .i64 10)))) (σ' := []) _ rfl ?_ ⟨rfl, rfl⟩)
          refine Sub.trans (SubU.to SubU.drop) ?_
          refine Sub.trans (SubU.to SubU.drop) ?_
          refine Sub.trans (SubU.to SubU.drop) ?_
          exact Sub.of_le (AF.le_put (AV.le_eq rfl) (AF.le_put (row_nil (by decide)) (AF.le_top _)))
        · replace h := ite_f h hc
          refine k_skip ?_
          refine kC_normal ?_
          refine k_seq ?_
          refine k_reg .free hmixP (by kernel_rfl) ?_
          refine G_q rfl (op_assign (av := .exact (.slice none 0 0)) rfl ?_)
          refine G_nil ?_
          refine kC_normal ?_
          refine k_seq ?_
          refine k_reg .free hmixP (by kernel_rfl) ?_
          refine G_q rfl (op_move (av := .row 3 c_api_TypeNode a0) rfl ?_)
          obtain ⟨n19, h⟩ := need_some h
          refine G_l rfl (op_appN (enc := c_api_TypeNode) (by kernel_rfl) rfl rfl oc_c_api_TypeNode n19 (fun v20 => ?_))
          refine G_q rfl (op_move (av := .row 3 c_api_TypeNode a1) rfl ?_)
          obtain ⟨n21, h⟩ := need_some h
          refine G_l rfl (op_appT (by kernel_rfl) rfl rfl oc_c_api_TypeNode n21 (fun v22 => ?_))
          refine G_sub rfl (SubU.freezeT (s := 36) rfl len_c_api_TypeNode) ?_
          obtain ⟨y23, hy23, h⟩ := bnd1_some h
          refine G_q rfl (op_pure (m_ref6_Vars_ok _ _ hy23) Tryd.func20 (by kernel_rfl) (LEs.cons (AV.le_eq rfl) LEs.nil) ?_)
          obtain ⟨y24, hy24, h⟩ := bnd1_some h
          refine G_q rfl (op_pure (m_ref6_sorted_ok _ _ hy24) Tryd.func50 (by kernel_rfl) (LEs.cons (AV.le_eq rfl) LEs.nil) ?_)
          refine G_q rfl (op_assign (av := .row 1 c_int y24) rfl ?_)
          refine G_nil ?_
          refine kC_normal ?_
          refine k_join1_1 h (fun (x8_j25 : List (Int × (List (Int × Int × Int)))) (v8_j25 : Value) => (AF.put AF0 (some 8) (.exact v8_j25))) (fun (x8_j25 : List (Int × (List (Int × Int × Int)))) (v8_j25 : Value) => [vecT Tryd.prog 24 2 c_api_Binding v8_j25 x8_j25]) (fun k25 h => ?_) (fun x8_j25 v8_j25 h => ?_)
          · refine k_seq ?_
            refine k_reg .free hmixP (by kernel_rfl) ?_
            refine G_q rfl (op_assign (av := .exact (.int .i64 0)) rfl ?_)
            refine G_nil ?_
            refine kC_normal ?_
            refine k_block ?_
            refine k_loop4_3 (m_ref6_Unify_L2 y24 k25) (m_ref6_Unify_B2 y24 k25) (fun _ _ _ _ => rfl) (fun m _ _ _ _ => rfl) h (fun (x6_0_l2 : List ((Int × Int × Int) × (List Int) × Int)) (x6_1_l2 : List (Int × Int)) (x8_l2 : List (Int × (List (Int × Int × Int)))) (x10_l2 : Int) (v6_0_l2 : Value) (b6_1_l2 : Value) (v8_l2 : Value) => (AF.put (AF.put (AF.put (AF.put AF0 (some 6) (pA b12 0)) (some 8) (.exact v8_l2)) (some 9) (.row 1 c_int y24)) (some 10) (.exact (.int .i64 x10_l2)))) (fun (x6_0_l2 : List ((Int × Int × Int) × (List Int) × Int)) (x6_1_l2 : List (Int × Int)) (x8_l2 : List (Int × (List (Int × Int × Int)))) (x10_l2 : Int) (v6_0_l2 : Value) (b6_1_l2 : Value) (v8_l2 : Value) => [vecT Tryd.prog 77 5 c_cspcheckref6_shared v6_0_l2 x6_0_l2, mapV (fun _ => True) (fun k : Int => .int .i64 k) (fun x : Int => .exact (.int .i64 x)) b6_1_l2 x6_1_l2, boxI 80 b12 [.exact v6_0_l2, .exact b6_1_l2], vecT Tryd.prog 24 2 c_api_Binding v8_l2 x8_l2]) q18v0 q18z1 (.slice none 0 0) ?_ (fun rec2 x6_0_l2 x6_1_l2 x8_l2 x10_l2 v6_0_l2 b6_1_l2 v8_l2 h => ?_)
            · refine Sub.trans (SubU.to (SubU.nilT (P := Tryd.prog) (t := 24) (n := 2) (enc := c_api_Binding))) ?_
              refine Sub.trans (SubU.to SubU.f1) ?_
              refine Sub.trans (SubU.to SubU.f3) ?_
              refine Sub.trans (SubU.to SubU.f3) ?_
              exact Sub.of_le (AF.le_put (AV.le_eq rfl) (AF.le_put (AV.le_eq rfl) (AF.le_put (AV.le_eq rfl) (AF.le_put (AV.le_eq rfl) (AF.le_top _)))))
            · unfold m_ref6_Unify_B2 at h
              refine k_seq ?_
              refine k_seq ?_
              refine k_reg .free hmixP (by kernel_rfl) ?_
              refine G_q rfl (op_move (av := .exact (.int .i64 x10_l2)) rfl ?_)
              refine G_q rfl (op_move (av := .row 1 c_int y24) rfl ?_)
              refine G_q rfl (op_len_row (by kernel_rfl) rfl ?_)
              refine G_q rfl (op_lss rfl rfl ?_)
              refine G_nil ?_
              refine kC_normal ?_
              refine k_cond_d (p := x10_l2 < (List.length y24 : Int)) rfl (fun hc => ?_) (fun hc => ?_)
              · replace h := ite_t h hc
                refine k_skip ?_
                refine kC_normal ?_
                refine k_join3_3 h (fun (x6_0_j122 : List ((Int × Int × Int) × (List Int) × Int)) (x6_1_j122 : List (Int × Int)) (x8_j122 : List (Int × (List (Int × Int × Int)))) (v6_0_j122 : Value) (b6_1_j122 : Value) (v8_j122 : Value) => (AF.put (AF.put (AF.put (AF.put AF0 (some 6) (pA b12 0)) (some 8) (.exact v8_j122)) (some 9) (.row 1 c_int y24)) (some 10) (.exact (.int .i64 x10_l2)))) (fun (x6_0_j122 : List ((Int × Int × Int) × (List Int) × Int)) (x6_1_j122 : List (Int × Int)) (x8_j122 : List (Int × (List (Int × Int × Int)))) (v6_0_j122 : Value) (b6_1_j122 : Value) (v8_j122 : Value) => [vecT Tryd.prog 77 5 c_cspcheckref6_shared v6_0_j122 x6_0_j122, mapV (fun _ => True) (fun k : Int => .int .i64 k) (fun x : Int => .exact (.int .i64 x)) b6_1_j122 x6_1_j122, boxI 80 b12 [.exact v6_0_j122, .exact b6_1_j122], vecT Tryd.prog 24 2 c_api_Binding v8_j122 x8_j122]) (fun k122 h => ?_) (fun x6_0_j122 x6_1_j122 x8_j122 v6_0_j122 b6_1_j122 v8_j122 h => ?_)
                · refine k_block ?_
                  refine k_seq ?_
                  refine k_reg .free hmixP (by kernel_rfl) ?_
                  refine G_q rfl (op_move (av := pA b12 0) rfl ?_)
                  refine G_q rfl (op_move (av := .row 1 c_int y24) rfl ?_)
                  refine G_q rfl (op_move (av := .exact (.int .i64 x10_l2)) rfl ?_)
                  obtain ⟨n132, h⟩ := need_some h
                  refine G_q rfl (op_index_row (by kernel_rfl) rfl rfl n132.1 n132.2 ?_)
                  refine G_q rfl (op_load1p (a := .exact (.int .i64 (gi y24 x10_l2))) (by kernel_rfl) rfl rfl ?_)
                  obtain ⟨y133, hy133, h⟩ := bnd1_some h
                  refine G_q rfl (op_pure (m_ref6_Make_fz _ _ _ _ hy133) Tryd.func25 (by kernel_rfl) (LEs.cons (AV.le_eq rfl) (LEs.cons (AV.le_eq rfl) (LEs.cons (row_nil (by decide)) LEs.nil))) ?_)
                  obtain ⟨y134, hy134, h⟩ := bnd1_some h
                  refine G_l rfl (opB_f1 (opB_f1 (opB_f2 (op_fun_3_2_3 (m_ref6_solver_now_ok _ _ _ hy134) Tryd.func51 (by kernel_rfl) (LEs.cons (AV.le_eq rfl) (LEs.cons (AV.le_eq rfl) LEs.nil)) (fun q135v0 q135z1 => ?_)))))
                  refine G_q rfl (op_assign (av := .row 3 c_api_TypeNode y134.1) rfl ?_)
                  refine G_nil ?_
                  refine kC_normal ?_
                  refine k_seq ?_
                  refine k_plan [] [(0, 0), (0, 1), (0, 2), (0, 3), (0, 4), (0, 5), (0, 6), (0, 7), (0, 8)] hmixP (by kernel_rfl) ?_
                  refine P_q no34_0 rfl (op_move (av := .row 3 c_api_TypeNode y134.1) rfl ?_)
                  obtain ⟨n136, h⟩ := need_some h
                  refine P_q no34_0 rfl (op_index_row (by kernel_rfl) rfl rfl n136.1 n136.2 ?_)
                  refine P_q no34_0 rfl (op_loadNp (m := 3) (c' := c_api_TypeNode (gi y134.1 0)) (by kernel_rfl) rfl rfl rfl ?_)
                  refine P_q no34_0 rfl (op_move (av := .row 1 c_int y24) rfl ?_)
                  refine P_q no34_0 rfl (op_move (av := .exact (.int .i64 x10_l2)) rfl ?_)
                  obtain ⟨n137, h⟩ := need_some h
                  refine P_q no34_0 rfl (op_index_row (by kernel_rfl) rfl rfl n137.1 n137.2 ?_)
                  refine P_q no34_0 rfl (op_load1p (a := .exact (.int .i64 (gi y24 x10_l2))) (by kernel_rfl) rfl rfl ?_)
                  refine P_q no34_0 rfl (op_bld (c' := c_api_TypeNode (1, gi y24 x10_l2, 0)) (CellsAll.cons rfl CellsOf.int (CellsAll.cons rfl CellsOf.int CellsAll.nil)) rfl (LEs.cons (AV.le_eq rfl) (LEs.cons (AV.le_eq rfl) (LEs.cons (AV.le_eq rfl) LEs.nil))) ?_)
                  refine P_q no34_0 rfl (op_neqA (a := (gi y134.1 0)) (b := (1, gi y24 x10_l2, 0)) (by kernel_rfl) (eq_c_api_TypeNode _ _) rfl rfl ?_)
                  refine P_nil ?_
                  refine kC_normal ?_
                  refine k_cond_d (p := ¬ (gi y134.1 0) = (1, gi y24 x10_l2, 0)) rfl (fun hc => ?_) (fun hc => ?_)
                  · replace h := ite_t h hc
                    refine k_reg .free hmixP (by kernel_rfl) ?_
                    refine G_q rfl (op_move (av := .exact v8_l2) rfl ?_)
                    refine G_q rfl (op_move (av := .row 1 c_int y24) rfl ?_)
                    refine G_q rfl (op_move (av := .exact (.int .i64 x10_l2)) rfl ?_)
                    obtain ⟨n138, h⟩ := need_some h
                    refine G_q rfl (op_index_row (by kernel_rfl) rfl rfl n138.1 n138.2 ?_)
                    refine G_q rfl (op_load1p (a := .exact (.int .i64 (gi y24 x10_l2))) (by kernel_rfl) rfl rfl ?_)
                    refine G_q rfl (op_move (av := .row 3 c_api_TypeNode y134.1) rfl ?_)
                    refine G_q rfl (op_bld (c' := c_api_Binding (gi y24 x10_l2, y134.1)) (CellsAll.cons rfl CellsOf.int (CellsAll.cons rfl CellsOf.row CellsAll.nil)) rfl (LEs.cons (AV.le_eq rfl) (LEs.cons (AV.le_eq rfl) LEs.nil)) ?_)
                    refine G_q rfl (op_litT (n := 2) (enc := c_api_Binding) [(gi y24 x10_l2, y134.1)] (CellsAll.cons rfl CellsOf.agg CellsAll.nil) rfl (by kernel_rfl) (LEss.cons (LEs.cons (AV.le_eq rfl) (LEs.cons (AV.le_eq rfl) LEs.nil)) LEss.nil) ?_)
                    obtain ⟨n139, h⟩ := need_some h
                    refine G_l rfl (opB_f3 (op_appT (by kernel_rfl) rfl rfl oc_c_api_Binding n139 (fun v140 => ?_)))
                    refine G_q rfl (op_assign (av := .exact v140) rfl ?_)
                    refine G_nil ?_
                    refine kB_normal ?_
                    refine kI_normal ⟨_, _, _, q135v0, q135z1, v140, h, ?_⟩
                    refine Sub.trans (SubU.to SubU.f1) ?_
                    refine Sub.trans (SubU.to SubU.f3) ?_
                    refine Sub.trans (SubU.to SubU.f3) ?_
                    exact Sub.of_le (AF.le_put (AV.le_eq rfl) (AF.le_put (AV.le_eq rfl) (AF.le_put (AV.le_eq rfl) (AF.le_put (AV.le_eq rfl) (AF.le_top _)))))
                  · replace h := ite_f h hc
                    refine k_skip ?_
                    refine kB_normal ?_
                    refine kI_normal ⟨_, _, _, q135v0, q135z1, v8_l2, h, ?_⟩
                    refine Sub.trans (SubU.to SubU.f3) ?_
                    refine Sub.trans (SubU.to SubU.f1) ?_
                    refine Sub.trans (SubU.to SubU.f3) ?_
                    refine Sub.trans (SubU.to SubU.f3) ?_
                    exact Sub.of_le (AF.le_put (AV.le_eq rfl) (AF.le_put (AV.le_eq rfl) (AF.le_put (AV.le_eq rfl) (AF.le_put (AV.le_eq rfl) (AF.le_top _)))))
                · refine k_reg .free hmixP (by kernel_rfl) ?_
                  refine G_q rfl (op_move (av := .exact (.int .i64 x10_l2)) rfl ?_)
                  refine G_q rfl (op_add rfl rfl rfl ?_)
                  refine G_q rfl (op_assign (av := .exact (.int .i64 (i64 (x10_l2 + 1)))) rfl ?_)
                  refine G_nil ?_
                  refine kI_normal ⟨_, _, _, _, v6_0_j122, b6_1_j122, v8_j122, h, ?_⟩
                  exact Sub.of_le (AF.le_put (AV.le_eq rfl) (AF.le_put (AV.le_eq rfl) (AF.le_put (AV.le_eq rfl) (AF.le_put (AV.le_eq rfl) (AF.le_top _)))))
              · replace h := ite_f h hc
                refine k_exit ?_
                refine kC_exit ?_
                refine kI_exit ?_
                refine kB_exit ?_
                refine kI_normal ⟨_, v8_l2, h, ?_⟩
                refine Sub.trans (SubU.to SubU.drop) ?_
                refine Sub.trans (SubU.to SubU.drop) ?_
                refine Sub.trans (SubU.to SubU.drop) ?_
                exact Sub.of_le (AF.le_put (AV.le_eq rfl) (AF.le_top _))
          · refine k_seq ?_
            refine k_reg .free hmixP (by kernel_rfl) ?_
            refine G_q rfl (op_move (av := .exact v8_j25) rfl ?_)
            refine G_q rfl (op_assign (av := .exact v8_j25) rfl ?_)
            refine G_q rfl (op_assign (av := .exact (.int .i64 0)) rfl ?_)
            refine G_nil ?_
            refine kC_normal ?_
            refine k_ret ?_
            obtain rfl := Option.some.inj h
            refine kP_any (endN (af' := (AF.put (AF.put AF0 (some 4) (.row 2 c_api_Binding x8_j25)) (some 5) (.exact (.int .i64 0)))) (σ' := []) _ rfl ?_ ⟨rfl, rfl⟩)
            refine Sub.trans (SubU.to (SubU.freezeT (s := 4) rfl len_c_api_Binding)) ?_
            exact Sub.of_le (AF.le_put (AV.le_eq rfl) (AF.le_put (AV.le_eq rfl) (AF.le_top _)))
set_option maxHeartbeats 4000000 in
theorem m_law7_TypesUnifyExactly_ok (a0 : List (Int × Int × Int)) (a1 : List (Int × Int × Int)) (a2 : List Int) (a3 : List Int) (r : Bool) (h : m_law7_TypesUnifyExactly a0 a1 a2 a3 = some r) : Fun Tryd.prog 3 [(.row 3 c_api_TypeNode a0), (.row 3 c_api_TypeNode a1), (.row 1 c_int a2), (.row 1 c_int a3)] [tabI] (fun a s => a = .exact (.bool r) ∧ s = [tabI]) := by
  unfold m_law7_TypesUnifyExactly at h
  refine fun_of_awp Tryd.func3 rfl Tryd.ntmps3 (by simp) rfl (res1 rfl) fun E hE => k_end ?_
  refine k_seq ?_
  refine k_reg .free hmixP (by kernel_rfl) ?_
  refine G_q rfl (op_assign (av := .exact (.bool false)) rfl ?_)
  refine G_nil ?_
  refine kC_normal ?_
  refine k_seq ?_
  refine k_reg .free hmixP (by kernel_rfl) ?_
  refine G_q rfl (op_move (av := .row 3 c_api_TypeNode a0) rfl ?_)
  refine G_q rfl (op_move (av := .row 3 c_api_TypeNode a1) rfl ?_)
  obtain ⟨y1, hy1, h⟩ := bnd1_some h
  refine G_q rfl (op_pure (m_types_Unify_ok _ _ _ hy1) Tryd.func12 (by kernel_rfl) (LEs.cons (AV.le_eq rfl) (LEs.cons (AV.le_eq rfl) LEs.nil)) ?_)
  refine G_q rfl (op_move (av := .tup [.row 2 c_api_Binding y1.1, .exact (.int .i64 y1.2)]) rfl ?_)
  refine G_q rfl (op_extract (av := .row 2 c_api_Binding y1.1) rfl rfl ?_)
  refine G_q rfl (op_extract (av := .exact (.int .i64 y1.2)) rfl rfl ?_)
  refine G_q rfl (op_assign (av := .row 2 c_api_Binding y1.1) rfl ?_)
  refine G_q rfl (op_assign (av := .exact (.int .i64 y1.2)) rfl ?_)
  refine G_nil ?_
  refine kC_normal ?_
  refine k_seq ?_
  refine k_reg .free hmixP (by kernel_rfl) ?_
  refine G_q rfl (op_move (av := .row 3 c_api_TypeNode a0) rfl ?_)
  refine G_q rfl (op_move (av := .row 3 c_api_TypeNode a1) rfl ?_)
  obtain ⟨y2, hy2, h⟩ := bnd1_some h
  refine G_q rfl (op_pure (m_ref6_Unify_ok _ _ _ hy2) Tryd.func13 (by kernel_rfl) (LEs.cons (AV.le_eq rfl) (LEs.cons (AV.le_eq rfl) LEs.nil)) ?_)
  refine G_q rfl (op_move (av := .tup [.row 2 c_api_Binding y2.1, .exact (.int .i64 y2.2)]) rfl ?_)
  refine G_q rfl (op_extract (av := .row 2 c_api_Binding y2.1) rfl rfl ?_)
  refine G_q rfl (op_extract (av := .exact (.int .i64 y2.2)) rfl rfl ?_)
  refine G_q rfl (op_assign (av := .row 2 c_api_Binding y2.1) rfl ?_)
  refine G_q rfl (op_assign (av := .exact (.int .i64 y2.2)) rfl ?_)
  refine G_nil ?_
  refine kC_normal ?_
  refine k_seq ?_
  refine k_reg .free hmixP (by kernel_rfl) ?_
  refine G_q rfl (op_move (av := .row 1 c_int a2) rfl ?_)
  obtain ⟨y3, hy3, h⟩ := bnd1_some h
  refine G_l rfl (op_fun_0_1_1 (m_gen_New_ok _ _ hy3) Tryd.func15 (by kernel_rfl) (LEs.cons (AV.le_eq rfl) LEs.nil) (fun b4 => ?_))
  obtain ⟨y5, hy5, h⟩ := bnd1_some h
  refine G_l rfl (op_fun_1_1_2 (m_law7_typ_ok _ _ _ _ hy5) Tryd.func14 (by kernel_rfl) (LEs.cons (AV.le_eq rfl) (LEs.cons (AV.le_eq rfl) (LEs.cons (AV.le_eq rfl) LEs.nil))) (fun v6 => ?_))
  refine G_q rfl (op_move (av := .row 1 c_int a3) rfl ?_)
  obtain ⟨y7, hy7, h⟩ := bnd1_some h
  refine G_l rfl (op_fun_0_1_1 (m_gen_New_ok _ _ hy7) Tryd.func15 (by kernel_rfl) (LEs.cons (AV.le_eq rfl) LEs.nil) (fun b8 => ?_))
  obtain ⟨y9, hy9, h⟩ := bnd1_some h
  refine G_l rfl (op_fun_1_1_2 (m_law7_typ_ok _ _ _ _ hy9) Tryd.func14 (by kernel_rfl) (LEs.cons (AV.le_eq rfl) (LEs.cons (AV.le_eq rfl) (LEs.cons (AV.le_eq rfl) LEs.nil))) (fun v10 => ?_))
  refine G_q rfl (op_assign (av := .exact v6) rfl ?_)
  refine G_q rfl (op_assign (av := .exact v10) rfl ?_)
  refine G_nil ?_
  refine kC_normal ?_
  refine k_seq ?_
  refine k_reg .free hmixP (by kernel_rfl) ?_
  refine G_q rfl (op_move (av := .exact v6) rfl ?_)
  refine G_q rfl (op_move (av := .exact v10) rfl ?_)
  refine G_sub rfl (SubU.trans SubU.f2 (SubU.freezeT3 (s1 := 13) (s2 := 33) (s3 := 38) rfl rfl rfl len_c_api_TypeNode)) ?_
  refine G_sub rfl (SubU.freezeT3 (s1 := 14) (s2 := 36) (s3 := 39) rfl rfl rfl len_c_api_TypeNode) ?_
  obtain ⟨y11, hy11, h⟩ := bnd1_some h
  refine G_q rfl (op_pure (m_types_Unify_ok _ _ _ hy11) Tryd.func12 (by kernel_rfl) (LEs.cons (AV.le_eq rfl) (LEs.cons (AV.le_eq rfl) LEs.nil)) ?_)
  refine G_q rfl (op_move (av := .tup [.row 2 c_api_Binding y11.1, .exact (.int .i64 y11.2)]) rfl ?_)
  refine G_q rfl (op_extract (av := .row 2 c_api_Binding y11.1) rfl rfl ?_)
  refine G_q rfl (op_extract (av := .exact (.int .i64 y11.2)) rfl rfl ?_)
  refine G_q rfl (op_assign (av := .row 2 c_api_Binding y11.1) rfl ?_)
  refine G_q rfl (op_assign (av := .exact (.int .i64 y11.2)) rfl ?_)
  refine G_nil ?_
  refine kC_normal ?_
  refine k_seq ?_
  refine k_reg .free hmixP (by kernel_rfl) ?_
  refine G_q rfl (op_move (av := .row 3 c_api_TypeNode y5.1) rfl ?_)
  refine G_q rfl (op_move (av := .row 3 c_api_TypeNode y9.1) rfl ?_)
  obtain ⟨y12, hy12, h⟩ := bnd1_some h
  refine G_q rfl (op_pure (m_ref6_Unify_ok _ _ _ hy12) Tryd.func13 (by kernel_rfl) (LEs.cons (AV.le_eq rfl) (LEs.cons (AV.le_eq rfl) LEs.nil)) ?_)
  refine G_q rfl (op_move (av := .tup [.row 2 c_api_Binding y12.1, .exact (.int .i64 y12.2)]) rfl ?_)
  refine G_q rfl (op_extract (av := .row 2 c_api_Binding y12.1) rfl rfl ?_)
  refine G_q rfl (op_extract (av := .exact (.int .i64 y12.2)) rfl rfl ?_)
  refine G_q rfl (op_assign (av := .row 2 c_api_Binding y12.1) rfl ?_)
  refine G_q rfl (op_assign (av := .exact (.int .i64 y12.2)) rfl ?_)
  refine G_nil ?_
  refine kC_normal ?_
  refine k_join1_0 h (fun (x8_j13 : Bool) => (AF.put AF0 (some 8) (.exact (.bool x8_j13)))) (fun (x8_j13 : Bool) => [tabI]) (fun k13 h => ?_) (fun x8_j13 h => ?_)
  · refine k_reg .free hmixP (by kernel_rfl) ?_
    obtain ⟨y17, hy17, h⟩ := bnd1_some h
    refine G_l rfl (opB_f2 (op_fun_1_0_1 (m_law7_awake_ok _ hy17) Tryd.func16 (by kernel_rfl) LEs.nil ?_))
    refine G_q rfl (op_move (av := .exact (.bool y17)) rfl ?_)
    refine G_splitB (c := y17) 50 rfl (fun hc => ?_) (fun hc => ?_)
    · replace h := ite_t h hc
      refine Gy_q rfl rfl rfl (op_move (av := .row 2 c_api_Binding y1.1) rfl ?_)
      refine Gy_q rfl rfl rfl (op_move (av := .row 2 c_api_Binding y2.1) rfl ?_)
      obtain ⟨y18, hy18, h⟩ := bnd1_some h
      refine Gy_q rfl rfl rfl (op_pure (m_help_SameTypes_ok _ _ _ hy18) Tryd.func17 (by kernel_rfl) (LEs.cons (AV.le_eq rfl) (LEs.cons (AV.le_eq rfl) LEs.nil)) ?_)
      refine G_q rfl (op_pick_t rfl (av := .exact (.bool y18)) rfl ?_)
      refine G_q rfl (op_move (av := .exact (.bool y18)) rfl ?_)
      refine G_splitB (c := y18) 55 rfl (fun hc => ?_) (fun hc => ?_)
      · replace h := ite_t h hc
        refine Gy_q rfl rfl rfl (op_move (av := .exact (.int .i64 y1.2)) rfl ?_)
        refine Gy_q rfl rfl rfl (op_move (av := .exact (.int .i64 y2.2)) rfl ?_)
        refine Gy_q rfl rfl rfl (op_eql rfl rfl ?_)
        refine G_q rfl (op_pick_t rfl (av := .exact (.bool (decide (y1.2 = y2.2)))) rfl ?_)
        refine G_q rfl (op_move (av := .exact (.bool (decide (y1.2 = y2.2)))) rfl ?_)
        refine G_split (p := y1.2 = y2.2) 60 rfl (fun hc => ?_) (fun hc => ?_)
        · replace h := ite_t h hc
          refine Gy_q rfl rfl rfl (op_move (av := .row 2 c_api_Binding y11.1) rfl ?_)
          refine Gy_q rfl rfl rfl (op_move (av := .row 2 c_api_Binding y12.1) rfl ?_)
          obtain ⟨y19, hy19, h⟩ := bnd1_some h
          refine Gy_q rfl rfl rfl (op_pure (m_help_SameTypes_ok _ _ _ hy19) Tryd.func17 (by kernel_rfl) (LEs.cons (AV.le_eq rfl) (LEs.cons (AV.le_eq rfl) LEs.nil)) ?_)
          refine G_q rfl (op_pick_t rfl (av := .exact (.bool y19)) rfl ?_)
          refine G_q rfl (op_move (av := .exact (.bool y19)) rfl ?_)
          refine G_splitB (c := y19) 65 rfl (fun hc => ?_) (fun hc => ?_)
          · replace h := ite_t h hc
            refine Gy_q rfl rfl rfl (op_move (av := .exact (.int .i64 y11.2)) rfl ?_)
            refine Gy_q rfl rfl rfl (op_move (av := .exact (.int .i64 y12.2)) rfl ?_)
            refine Gy_q rfl rfl rfl (op_eql rfl rfl ?_)
            refine G_q rfl (op_pick_t rfl (av := .exact (.bool (decide (y11.2 = y12.2)))) rfl ?_)
            refine G_q rfl (op_assign (av := .exact (.bool (decide (y11.2 = y12.2)))) rfl ?_)
            refine G_nil ?_
            refine kI_normal ⟨_, h, ?_⟩
            refine Sub.trans (SubU.to SubU.f1) ?_
            refine Sub.trans (SubU.to SubU.drop) ?_
            refine Sub.trans (SubU.to SubU.f1) ?_
            refine Sub.trans (SubU.to SubU.drop) ?_
            exact Sub.of_le (AF.le_put (AV.le_eq rfl) (AF.le_top _))
          · replace h := ite_f h hc
            refine G_n rfl rfl ?_
            refine G_n rfl rfl ?_
            refine G_n rfl rfl ?_
            refine G_q rfl (op_pick_f rfl (av := .exact (.bool false)) rfl ?_)
            refine G_q rfl (op_assign (av := .exact (.bool false)) rfl ?_)
            refine G_nil ?_
            refine kI_normal ⟨_, h, ?_⟩
            refine Sub.trans (SubU.to SubU.f1) ?_
            refine Sub.trans (SubU.to SubU.drop) ?_
            refine Sub.trans (SubU.to SubU.f1) ?_
            refine Sub.trans (SubU.to SubU.drop) ?_
            exact Sub.of_le (AF.le_put (AV.le_eq rfl) (AF.le_top _))
        · replace h := ite_f h hc
          refine G_n rfl rfl ?_
          refine G_n rfl rfl ?_
          refine G_n rfl rfl ?_
          refine G_q rfl (op_pick_f rfl (av := .exact (.bool false)) rfl ?_)
          refine G_q rfl (op_move (av := .exact (.bool false)) rfl ?_)
          refine G_n rfl rfl ?_
          refine G_n rfl rfl ?_
          refine G_n rfl rfl ?_
          refine G_q rfl (op_pick_f rfl (av := .exact (.bool false)) rfl ?_)
          refine G_q rfl (op_assign (av := .exact (.bool false)) rfl ?_)
          refine G_nil ?_
          refine kI_normal ⟨_, h, ?_⟩
          refine Sub.trans (SubU.to SubU.f1) ?_
          refine Sub.trans (SubU.to SubU.drop) ?_
          refine Sub.trans (SubU.to SubU.f1) ?_
          refine Sub.trans (SubU.to SubU.drop) ?_
          exact Sub.of_le (AF.le_put (AV.le_eq rfl) (AF.le_top _))
      · replace h := ite_f h hc
        refine G_n rfl rfl ?_
        refine G_n rfl rfl ?_
        refine G_n rfl rfl ?_
        refine G_q rfl (op_pick_f rfl (av := .exact (.bool false)) rfl ?_)
        refine G_q rfl (op_move (av := .exact (.bool false)) rfl ?_)
        refine G_n rfl rfl ?_
        refine G_n rfl rfl ?_
        refine G_n rfl rfl ?_
        refine G_q rfl (op_pick_f rfl (av := .exact (.bool false)) rfl ?_)
        refine G_q rfl (op_move (av := .exact (.bool false)) rfl ?_)
        refine G_n rfl rfl ?_
        refine G_n rfl rfl ?_
        refine G_n rfl rfl ?_
        refine G_q rfl (op_pick_f rfl (av := .exact (.bool false)) rfl ?_)
        refine G_q rfl (op_assign (av := .exact (.bool false)) rfl ?_)
        refine G_nil ?_
        refine kI_normal ⟨_, h, ?_⟩
        refine Sub.trans (SubU.to SubU.f1) ?_
        refine Sub.trans (SubU.to SubU.drop) ?_
        refine Sub.trans (SubU.to SubU.f1) ?_
        refine Sub.trans (SubU.to SubU.drop) ?_
        exact Sub.of_le (AF.le_put (AV.le_eq rfl) (AF.le_top _))
    · replace h := ite_f h hc
      refine G_n rfl rfl ?_
      refine G_n rfl rfl ?_
      refine G_n rfl rfl ?_
      refine G_q rfl (op_pick_f rfl (av := .exact (.bool false)) rfl ?_)
      refine G_q rfl (op_move (av := .exact (.bool false)) rfl ?_)
      refine G_n rfl rfl ?_
      refine G_n rfl rfl ?_
      refine G_n rfl rfl ?_
      refine G_q rfl (op_pick_f rfl (av := .exact (.bool false)) rfl ?_)
      refine G_q rfl (op_move (av := .exact (.bool false)) rfl ?_)
      refine G_n rfl rfl ?_
      refine G_n rfl rfl ?_
      refine G_n rfl rfl ?_
      refine G_q rfl (op_pick_f rfl (av := .exact (.bool false)) rfl ?_)
      refine G_q rfl (op_move (av := .exact (.bool false)) rfl ?_)
      refine G_n rfl rfl ?_
      refine G_n rfl rfl ?_
      refine G_n rfl rfl ?_
      refine G_q rfl (op_pick_f rfl (av := .exact (.bool false)) rfl ?_)
      refine G_q rfl (op_assign (av := .exact (.bool false)) rfl ?_)
      refine G_nil ?_
      refine kI_normal ⟨_, h, ?_⟩
      refine Sub.trans (SubU.to SubU.f1) ?_
      refine Sub.trans (SubU.to SubU.drop) ?_
      refine Sub.trans (SubU.to SubU.f1) ?_
      refine Sub.trans (SubU.to SubU.drop) ?_
      exact Sub.of_le (AF.le_put (AV.le_eq rfl) (AF.le_top _))
  · refine k_ret ?_
    obtain rfl := Option.some.inj h
    refine kP_any (endN (af' := (AF.put AF0 (some 8) (.exact (.bool x8_j13)))) (σ' := [tabI]) _ rfl ?_ ⟨rfl, rfl⟩)
    exact Sub.of_le (AF.le_put (AV.le_eq rfl) (AF.le_top _))
end Go.Proofs.YtdfdjgolijckfaaDoor
