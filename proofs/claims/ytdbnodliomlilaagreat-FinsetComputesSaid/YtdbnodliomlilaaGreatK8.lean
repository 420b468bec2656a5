/- The functions compute their models, by program. -/
import Derived.Test.YtdbnodliomlilaaGreatK7
namespace Go.Proofs.YtdbnodliomlilaaGreat
open Go.RowKit
attribute [local irreducible] AV.exact AV.top AV.row AV.ptr AV.agg AV.tup AV.eptr AV.fn AV.nilq AV.nilqn opA opB opM opR Quiet Loud Reads wpG awp den Sub SubU Pure Fun vecI vecT boxI CellsAll CellsOf OneC LEs LEss
set_option maxRecDepth 100000

set_option maxHeartbeats 4000000 in
theorem m_gen_Choices_Value_F_ok {w0 : Nat} (self_gen_Choices_Value : ((List Int) × Int) → Int → Option ((List UInt8) × ((List Int) × Int))) (hself_gen_Choices_Value : ∀ ⦃w0 : Nat⦄ (a0 : (List Int) × Int) (a1 : Int) (r : (List UInt8) × ((List Int) × Int)), self_gen_Choices_Value a0 a1 = some r → Fun Tryz.prog 10 [(pA w0 0), (.exact (.int .i64 a1))] [boxI 48 w0 [.row 1 c_int a0.1, .exact (.int .i64 a0.2)]] (fun a s => a = .exact (.string (bs r.1)) ∧ s = [boxI 48 w0 [.row 1 c_int r.2.1, .exact (.int .i64 r.2.2)]])) (a0 : (List Int) × Int) (a1 : Int) (r : (List UInt8) × ((List Int) × Int)) (h : m_gen_Choices_Value_F self_gen_Choices_Value a0 a1 = some r) : Fun Tryz.prog 10 [(pA w0 0), (.exact (.int .i64 a1))] [boxI 48 w0 [.row 1 c_int a0.1, .exact (.int .i64 a0.2)]] (fun a s => a = .exact (.string (bs r.1)) ∧ s = [boxI 48 w0 [.row 1 c_int r.2.1, .exact (.int .i64 r.2.2)]]) := by
  unfold m_gen_Choices_Value_F at h
  refine fun_of_awp Tryz.func10 rfl Tryz.ntmps10 (by simp) rfl (res1 rfl) fun E hE => k_end ?_
  refine k_seq ?_
  refine k_reg .free hmixP (by kernel_rfl) ?_
  refine G_q rfl (op_assign (av := .exact (.string (bs ([] : List UInt8)))) rfl ?_)
  refine G_nil ?_
  refine kC_normal ?_
  refine k_seq ?_
  refine k_reg .free hmixP (by kernel_rfl) ?_
  refine G_q rfl (op_move (av := pA w0 0) rfl ?_)
  obtain ⟨y1, hy1, h⟩ := bnd1_some h
  refine G_l rfl (op_fun_1_0_1 (m_gen_Choices_Next_ok _ _ _ hy1) Tryz.func13 (by kernel_rfl) (LEs.cons (AV.le_eq rfl) (LEs.cons (AV.le_eq rfl) LEs.nil)) ?_)
  refine G_q rfl (op_assign (av := .exact (.int .i64 y1.1)) rfl ?_)
  refine G_nil ?_
  refine kC_normal ?_
  refine k_join1_0 h (fun (x5_j2 : Int) => (AF.put (AF.put (AF.put AF0 (some 0) (pA w0 0)) (some 1) (.exact (.int .i64 a1))) (some 5) (.exact (.int .i64 x5_j2)))) (fun (x5_j2 : Int) => [boxI 48 w0 [.row 1 c_int y1.2.1, .exact (.int .i64 y1.2.2)]]) (fun k2 h => ?_) (fun x5_j2 h => ?_)
  · refine k_seq ?_
    refine k_reg .free hmixP (by kernel_rfl) ?_
    refine G_q rfl (op_move (av := .exact (.int .i64 a1)) rfl ?_)
    refine G_q rfl (op_leq rfl rfl ?_)
    refine G_nil ?_
    refine kC_normal ?_
    refine k_cond_d (p := a1 ≤ 1) rfl (fun hc => ?_) (fun hc => ?_)
    · replace h := ite_t h hc
      refine k_reg .free hmixP (by kernel_rfl) ?_
      refine G_q rfl (op_move (av := .exact (.int .i64 y1.1)) rfl ?_)
      refine G_q rfl (op_rem rfl rfl (by decide) rfl ?_)
      refine G_q rfl (op_assign (av := .exact (.int .i64 (Int.tmod y1.1 3))) rfl ?_)
      refine G_nil ?_
      refine kI_normal ⟨_, h, ?_⟩
      exact Sub.of_le (AF.le_put (AV.le_eq rfl) (AF.le_put (AV.le_eq rfl) (AF.le_put (AV.le_eq rfl) (AF.le_top _))))
    · replace h := ite_f h hc
      refine k_skip ?_
      refine kI_normal ⟨_, h, ?_⟩
      exact Sub.of_le (AF.le_put (AV.le_eq rfl) (AF.le_put (AV.le_eq rfl) (AF.le_put (AV.le_eq rfl) (AF.le_top _))))
  · refine k_join0_0 h ((AF.put AF0 (some 0) (pA w0 0))) ([boxI 48 w0 [.row 1 c_int y1.2.1, .exact (.int .i64 y1.2.2)]]) (fun k3 h => ?_) (fun  h => ?_)
    · refine k_seq ?_
      refine k_reg .free hmixP (by kernel_rfl) ?_
      refine G_q rfl (op_move (av := .exact (.int .i64 x5_j2)) rfl ?_)
      refine G_nil ?_
      refine kC_normal ?_
      refine k_block ?_
      refine k_seq ?_
      refine k_reg .free hmixP (by kernel_rfl) ?_
      refine G_q rfl (op_eql rfl rfl ?_)
      refine G_q rfl (op_assign (av := .exact (.bool (decide (x5_j2 = 1)))) rfl ?_)
      refine G_nil ?_
      refine kC_normal ?_
      refine k_cond_d (p := x5_j2 = 1) rfl (fun hc => ?_) (fun hc => ?_)
      · replace h := ite_t h hc
        refine k_seq ?_
        refine k_reg .free hmixP (by kernel_rfl) ?_
        refine G_q rfl (op_move (av := pA w0 0) rfl ?_)
        obtain ⟨y45, hy45, h⟩ := bnd1_some h
        refine G_l rfl (op_fun_1_0_1 (m_gen_Choices_Next_ok _ _ _ hy45) Tryz.func13 (by kernel_rfl) (LEs.cons (AV.le_eq rfl) (LEs.cons (AV.le_eq rfl) LEs.nil)) ?_)
        refine G_q rfl (op_eql rfl rfl ?_)
        obtain ⟨y46, hy46, h⟩ := bnd1_some h
        refine G_q rfl (op_pure (m_ref9_Bool_ok _ _ hy46) Tryz.func37 (by kernel_rfl) (LEs.cons (AV.le_eq rfl) LEs.nil) ?_)
        refine G_q rfl (op_assign (av := .exact (.string (bs y46))) rfl ?_)
        refine G_nil ?_
        refine kC_normal ?_
        refine k_ret ?_
        refine kB_ret ?_
        refine kI_ret ?_
        obtain rfl := Option.some.inj h
        refine kP_any (endN (af' := (AF.put AF0 (some 4) (.exact (.string (bs y46))))) (σ' := [boxI 48 w0 [.row 1 c_int y45.2.1, .exact (.int .i64 y45.2.2)]]) _ rfl ?_ ⟨rfl, rfl⟩)
        exact Sub.of_le (AF.le_put (AV.le_eq rfl) (AF.le_top _))
      · replace h := ite_f h hc
        refine k_seq ?_
        refine k_reg .free hmixP (by kernel_rfl) ?_
        refine G_q rfl (op_eql rfl rfl ?_)
        refine G_q rfl (op_assign (av := .exact (.bool (decide (x5_j2 = 2)))) rfl ?_)
        refine G_nil ?_
        refine kC_normal ?_
        refine k_cond_d (p := x5_j2 = 2) rfl (fun hc => ?_) (fun hc => ?_)
        · replace h := ite_t h hc
          refine k_seq ?_
          refine k_reg .free hmixP (by kernel_rfl) ?_
          refine G_q rfl (op_move (av := pA w0 0) rfl ?_)
          obtain ⟨y47, hy47, h⟩ := bnd1_some h
          refine G_l rfl (op_fun_1_0_1 (m_gen_Choices_Next_ok _ _ _ hy47) Tryz.func13 (by kernel_rfl) (LEs.cons (AV.le_eq rfl) (LEs.cons (AV.le_eq rfl) LEs.nil)) ?_)
          obtain ⟨y48, hy48, h⟩ := bnd1_some h
          refine G_q rfl (op_pure (m_ref9_Name_ok _ _ hy48) Tryz.func38 (by kernel_rfl) (LEs.cons (AV.le_eq rfl) LEs.nil) ?_)
          refine G_q rfl (op_assign (av := .exact (.string (bs y48))) rfl ?_)
          refine G_nil ?_
          refine kC_normal ?_
          refine k_ret ?_
          refine kB_ret ?_
          refine kI_ret ?_
          obtain rfl := Option.some.inj h
          refine kP_any (endN (af' := (AF.put AF0 (some 4) (.exact (.string (bs y48))))) (σ' := [boxI 48 w0 [.row 1 c_int y47.2.1, .exact (.int .i64 y47.2.2)]]) _ rfl ?_ ⟨rfl, rfl⟩)
          exact Sub.of_le (AF.le_put (AV.le_eq rfl) (AF.le_top _))
        · replace h := ite_f h hc
          refine k_seq ?_
          refine k_reg .free hmixP (by kernel_rfl) ?_
          refine G_q rfl (op_eql rfl rfl ?_)
          refine G_q rfl (op_assign (av := .exact (.bool (decide (x5_j2 = 3)))) rfl ?_)
          refine G_nil ?_
          refine kC_normal ?_
          refine k_cond_d (p := x5_j2 = 3) rfl (fun hc => ?_) (fun hc => ?_)
          · replace h := ite_t h hc
            refine k_seq ?_
            refine k_reg .free hmixP (by kernel_rfl) ?_
            refine G_q rfl (op_move (av := pA w0 0) rfl ?_)
            refine G_q rfl (op_move (av := .exact (.int .i64 a1)) rfl ?_)
            refine G_q rfl (op_sub rfl rfl rfl ?_)
            obtain ⟨y49, hy49, h⟩ := bnd1_some h
            refine G_l rfl (op_fun_1_0_1 (hself_gen_Choices_Value _ _ _ hy49) Tryz.func10 (by kernel_rfl) (LEs.cons (AV.le_eq rfl) (LEs.cons (AV.le_eq rfl) LEs.nil)) ?_)
            refine G_q rfl (op_move (av := pA w0 0) rfl ?_)
            refine G_q rfl (op_move (av := .exact (.int .i64 a1)) rfl ?_)
            refine G_q rfl (op_sub rfl rfl rfl ?_)
            obtain ⟨y50, hy50, h⟩ := bnd1_some h
            refine G_l rfl (op_fun_1_0_1 (hself_gen_Choices_Value _ _ _ hy50) Tryz.func10 (by kernel_rfl) (LEs.cons (AV.le_eq rfl) (LEs.cons (AV.le_eq rfl) LEs.nil)) ?_)
            refine G_q rfl (op_litT (n := 1) (enc := c_api_Value) [y49.1, y50.1] (CellsAll.cons rfl CellsOf.str (CellsAll.cons rfl CellsOf.str CellsAll.nil)) rfl (by kernel_rfl) (LEss.cons (LEs.cons (AV.le_eq rfl) LEs.nil) (LEss.cons (LEs.cons (AV.le_eq rfl) LEs.nil) LEss.nil)) ?_)
            obtain ⟨y51, hy51, h⟩ := bnd1_some h
            refine G_q rfl (op_pure (m_ref9_Make_ok _ _ _ hy51) Tryz.func39 (by kernel_rfl) (LEs.cons (AV.le_eq rfl) (LEs.cons (AV.le_eq rfl) LEs.nil)) ?_)
            refine G_q rfl (op_assign (av := .exact (.string (bs y51))) rfl ?_)
            refine G_nil ?_
            refine kC_normal ?_
            refine k_ret ?_
            refine kB_ret ?_
            refine kI_ret ?_
            obtain rfl := Option.some.inj h
            refine kP_any (endN (af' := (AF.put AF0 (some 4) (.exact (.string (bs y51))))) (σ' := [boxI 48 w0 [.row 1 c_int y50.2.1, .exact (.int .i64 y50.2.2)]]) _ rfl ?_ ⟨rfl, rfl⟩)
            exact Sub.of_le (AF.le_put (AV.le_eq rfl) (AF.le_top _))
          · replace h := ite_f h hc
            refine k_seq ?_
            refine k_reg .free hmixP (by kernel_rfl) ?_
            refine G_q rfl (op_eql rfl rfl ?_)
            refine G_q rfl (op_assign (av := .exact (.bool (decide (x5_j2 = 4)))) rfl ?_)
            refine G_nil ?_
            refine kC_normal ?_
            refine k_cond_d (p := x5_j2 = 4) rfl (fun hc => ?_) (fun hc => ?_)
            · replace h := ite_t h hc
              refine k_seq ?_
              refine k_reg .free hmixP (by kernel_rfl) ?_
              refine G_q rfl (op_move (av := pA w0 0) rfl ?_)
              refine G_q rfl (op_move (av := .exact (.int .i64 a1)) rfl ?_)
              refine G_q rfl (op_sub rfl rfl rfl ?_)
              obtain ⟨y52, hy52, h⟩ := bnd1_some h
              refine G_l rfl (op_fun_1_0_1 (m_gen_Choices_Values_ok self_gen_Choices_Value hself_gen_Choices_Value _ _ _ _ hy52) Tryz.func40 (by kernel_rfl) (LEs.cons (AV.le_eq rfl) (LEs.cons (AV.le_eq rfl) (LEs.cons (AV.le_eq rfl) LEs.nil))) ?_)
              obtain ⟨y53, hy53, h⟩ := bnd1_some h
              refine G_q rfl (op_pure (m_ref9_Make_ok _ _ _ hy53) Tryz.func39 (by kernel_rfl) (LEs.cons (AV.le_eq rfl) (LEs.cons (AV.le_eq rfl) LEs.nil)) ?_)
              refine G_q rfl (op_assign (av := .exact (.string (bs y53))) rfl ?_)
              refine G_nil ?_
              refine kC_normal ?_
              refine k_ret ?_
              refine kB_ret ?_
              refine kI_ret ?_
              obtain rfl := Option.some.inj h
              refine kP_any (endN (af' := (AF.put AF0 (some 4) (.exact (.string (bs y53))))) (σ' := [boxI 48 w0 [.row 1 c_int y52.2.1, .exact (.int .i64 y52.2.2)]]) _ rfl ?_ ⟨rfl, rfl⟩)
              exact Sub.of_le (AF.le_put (AV.le_eq rfl) (AF.le_top _))
            · replace h := ite_f h hc
              refine k_seq ?_
              refine k_reg .free hmixP (by kernel_rfl) ?_
              refine G_q rfl (op_eql rfl rfl ?_)
              refine G_q rfl (op_assign (av := .exact (.bool (decide (x5_j2 = 5)))) rfl ?_)
              refine G_nil ?_
              refine kC_normal ?_
              refine k_cond_d (p := x5_j2 = 5) rfl (fun hc => ?_) (fun hc => ?_)
              · replace h := ite_t h hc
                refine k_seq ?_
                refine k_reg .free hmixP (by kernel_rfl) ?_
                refine G_q rfl (op_move (av := pA w0 0) rfl ?_)
                refine G_q rfl (op_move (av := .exact (.int .i64 a1)) rfl ?_)
                refine G_q rfl (op_sub rfl rfl rfl ?_)
                obtain ⟨y54, hy54, h⟩ := bnd1_some h
                refine G_l rfl (op_fun_1_0_1 (m_gen_Choices_Values_ok self_gen_Choices_Value hself_gen_Choices_Value _ _ _ _ hy54) Tryz.func40 (by kernel_rfl) (LEs.cons (AV.le_eq rfl) (LEs.cons (AV.le_eq rfl) (LEs.cons (AV.le_eq rfl) LEs.nil))) ?_)
                obtain ⟨y55, hy55, h⟩ := bnd1_some h
                refine G_q rfl (op_pure (m_ref9_Set_ok _ _ hy55) Tryz.func24 (by kernel_rfl) (LEs.cons (AV.le_eq rfl) LEs.nil) ?_)
                refine G_q rfl (op_assign (av := .exact (.string (bs y55))) rfl ?_)
                refine G_nil ?_
                refine kC_normal ?_
                refine k_ret ?_
                refine kB_ret ?_
                refine kI_ret ?_
                obtain rfl := Option.some.inj h
                refine kP_any (endN (af' := (AF.put AF0 (some 4) (.exact (.string (bs y55))))) (σ' := [boxI 48 w0 [.row 1 c_int y54.2.1, .exact (.int .i64 y54.2.2)]]) _ rfl ?_ ⟨rfl, rfl⟩)
                exact Sub.of_le (AF.le_put (AV.le_eq rfl) (AF.le_top _))
              · replace h := ite_f h hc
                refine k_seq ?_
                refine k_reg .free hmixP (by kernel_rfl) ?_
                refine G_q rfl (op_eql rfl rfl ?_)
                refine G_q rfl (op_assign (av := .exact (.bool (decide (x5_j2 = 6)))) rfl ?_)
                refine G_nil ?_
                refine kC_normal ?_
                refine k_cond_d (p := x5_j2 = 6) rfl (fun hc => ?_) (fun hc => ?_)
                · replace h := ite_t h hc
                  refine k_seq ?_
                  refine k_reg .free hmixP (by kernel_rfl) ?_
                  refine G_q rfl (op_move (av := pA w0 0) rfl ?_)
                  obtain ⟨y56, hy56, h⟩ := bnd1_some h
                  refine G_l rfl (op_fun_1_0_1 (m_gen_Choices_Next_ok _ _ _ hy56) Tryz.func13 (by kernel_rfl) (LEs.cons (AV.le_eq rfl) (LEs.cons (AV.le_eq rfl) LEs.nil)) ?_)
                  refine G_q rfl (op_move (av := pA w0 0) rfl ?_)
                  refine G_q rfl (op_move (av := .exact (.int .i64 a1)) rfl ?_)
                  refine G_q rfl (op_sub rfl rfl rfl ?_)
                  obtain ⟨y57, hy57, h⟩ := bnd1_some h
                  refine G_l rfl (op_fun_1_0_1 (m_gen_Choices_Values_ok self_gen_Choices_Value hself_gen_Choices_Value _ _ _ _ hy57) Tryz.func40 (by kernel_rfl) (LEs.cons (AV.le_eq rfl) (LEs.cons (AV.le_eq rfl) (LEs.cons (AV.le_eq rfl) LEs.nil))) ?_)
                  obtain ⟨y58, hy58, h⟩ := bnd1_some h
                  refine G_q rfl (op_pure (m_ref9_Dot_ok _ _ _ hy58) Tryz.func41 (by kernel_rfl) (LEs.cons (AV.le_eq rfl) (LEs.cons (AV.le_eq rfl) LEs.nil)) ?_)
                  refine G_q rfl (op_assign (av := .exact (.string (bs y58))) rfl ?_)
                  refine G_nil ?_
                  refine kC_normal ?_
                  refine k_ret ?_
                  refine kB_ret ?_
                  refine kI_ret ?_
                  obtain rfl := Option.some.inj h
                  refine kP_any (endN (af' := (AF.put AF0 (some 4) (.exact (.string (bs y58))))) (σ' := [boxI 48 w0 [.row 1 c_int y57.2.1, .exact (.int .i64 y57.2.2)]]) _ rfl ?_ ⟨rfl, rfl⟩)
                  exact Sub.of_le (AF.le_put (AV.le_eq rfl) (AF.le_top _))
                · replace h := ite_f h hc
                  refine k_seq ?_
                  refine k_reg .free hmixP (by kernel_rfl) ?_
                  refine G_q rfl (op_eql rfl rfl ?_)
                  refine G_q rfl (op_assign (av := .exact (.bool (decide (x5_j2 = 7)))) rfl ?_)
                  refine G_nil ?_
                  refine kC_normal ?_
                  refine k_cond_d (p := x5_j2 = 7) rfl (fun hc => ?_) (fun hc => ?_)
                  · replace h := ite_t h hc
                    refine k_seq ?_
                    refine k_reg .free hmixP (by kernel_rfl) ?_
                    refine G_q rfl (op_move (av := pA w0 0) rfl ?_)
                    refine G_q rfl (op_move (av := .exact (.int .i64 a1)) rfl ?_)
                    refine G_q rfl (op_sub rfl rfl rfl ?_)
                    obtain ⟨y59, hy59, h⟩ := bnd1_some h
                    refine G_l rfl (op_fun_1_0_1 (m_gen_Choices_Values_ok self_gen_Choices_Value hself_gen_Choices_Value _ _ _ _ hy59) Tryz.func40 (by kernel_rfl) (LEs.cons (AV.le_eq rfl) (LEs.cons (AV.le_eq rfl) (LEs.cons (AV.le_eq rfl) LEs.nil))) ?_)
                    obtain ⟨y60, hy60, h⟩ := bnd1_some h
                    refine G_q rfl (op_pure (m_ref9_Sort_ok _ _ hy60) Tryz.func42 (by kernel_rfl) (LEs.cons (AV.le_eq rfl) LEs.nil) ?_)
                    refine G_q rfl (op_assign (av := .row 1 c_api_Value y60) rfl ?_)
                    refine G_nil ?_
                    refine kC_normal ?_
                    refine k_seq ?_
                    refine k_reg .free hmixP (by kernel_rfl) ?_
                    refine G_q rfl (op_assign (av := .exact (.slice none 0 0)) rfl ?_)
                    refine G_nil ?_
                    refine kC_normal ?_
                    refine k_join3_1 h (fun (x0_0_j61 : List Int) (x0_1_j61 : Int) (x7_j61 : List (List UInt8)) (v7_j61 : Value) => (AF.put (AF.put (AF.put AF0 (some 0) (pA w0 0)) (some 6) (.row 1 c_api_Value y60)) (some 7) (.exact v7_j61))) (fun (x0_0_j61 : List Int) (x0_1_j61 : Int) (x7_j61 : List (List UInt8)) (v7_j61 : Value) => [boxI 48 w0 [.row 1 c_int x0_0_j61, .exact (.int .i64 x0_1_j61)], vecT Tryz.prog 33 1 c_api_Value v7_j61 x7_j61]) (fun k61 h => ?_) (fun x0_0_j61 x0_1_j61 x7_j61 v7_j61 h => ?_)
                    · refine k_seq ?_
                      refine k_reg .free hmixP (by kernel_rfl) ?_
                      refine G_q rfl (op_assign (av := .exact (.int .i64 0)) rfl ?_)
                      refine G_nil ?_
                      refine kC_normal ?_
                      refine k_block ?_
                      refine k_loop4_1 (m_gen_Choices_Value_L4 self_gen_Choices_Value a1 y60 k61) (m_gen_Choices_Value_B4 self_gen_Choices_Value a1 y60 k61) (fun _ _ _ _ => rfl) (fun m _ _ _ _ => rfl) h (fun (x0_0_l4 : List Int) (x0_1_l4 : Int) (x7_l4 : List (List UInt8)) (x8_l4 : Int) (v7_l4 : Value) => (AF.put (AF.put (AF.put (AF.put (AF.put AF0 (some 0) (pA w0 0)) (some 1) (.exact (.int .i64 a1))) (some 6) (.row 1 c_api_Value y60)) (some 7) (.exact v7_l4)) (some 8) (.exact (.int .i64 x8_l4)))) (fun (x0_0_l4 : List Int) (x0_1_l4 : Int) (x7_l4 : List (List UInt8)) (x8_l4 : Int) (v7_l4 : Value) => [boxI 48 w0 [.row 1 c_int x0_0_l4, .exact (.int .i64 x0_1_l4)], vecT Tryz.prog 33 1 c_api_Value v7_l4 x7_l4]) (.slice none 0 0) ?_ (fun rec4 x0_0_l4 x0_1_l4 x7_l4 x8_l4 v7_l4 h => ?_)
                      · refine Sub.trans (SubU.to (SubU.nilT (P := Tryz.prog) (t := 33) (n := 1) (enc := c_api_Value))) ?_
                        refine Sub.trans (SubU.to SubU.f1) ?_
                        exact Sub.of_le (AF.le_put (AV.le_eq rfl) (AF.le_put (AV.le_eq rfl) (AF.le_put (AV.le_eq rfl) (AF.le_put (AV.le_eq rfl) (AF.le_put (AV.le_eq rfl) (AF.le_top _))))))
                      · unfold m_gen_Choices_Value_B4 at h
                        refine k_seq ?_
                        refine k_seq ?_
                        refine k_reg .free hmixP (by kernel_rfl) ?_
                        refine G_q rfl (op_move (av := .exact (.int .i64 x8_l4)) rfl ?_)
                        refine G_q rfl (op_move (av := .row 1 c_api_Value y60) rfl ?_)
                        refine G_q rfl (op_len_row (by kernel_rfl) rfl ?_)
                        refine G_q rfl (op_lss rfl rfl ?_)
                        refine G_nil ?_
                        refine kC_normal ?_
                        refine k_cond_d (p := x8_l4 < (List.length y60 : Int)) rfl (fun hc => ?_) (fun hc => ?_)
                        · replace h := ite_t h hc
                          refine k_skip ?_
                          refine kC_normal ?_
                          refine k_seq ?_
                          refine k_block ?_
                          refine k_reg .free hmixP (by kernel_rfl) ?_
                          refine G_q rfl (op_move (av := .exact v7_l4) rfl ?_)
                          refine G_q rfl (op_move (av := pA w0 0) rfl ?_)
                          refine G_q rfl (op_move (av := .exact (.int .i64 a1)) rfl ?_)
                          refine G_q rfl (op_sub rfl rfl rfl ?_)
                          obtain ⟨y78, hy78, h⟩ := bnd1_some h
                          refine G_l rfl (op_fun_1_0_1 (hself_gen_Choices_Value _ _ _ hy78) Tryz.func10 (by kernel_rfl) (LEs.cons (AV.le_eq rfl) (LEs.cons (AV.le_eq rfl) LEs.nil)) ?_)
                          refine G_q rfl (op_litT (n := 1) (enc := c_api_Value) [y78.1] (CellsAll.cons rfl CellsOf.str CellsAll.nil) rfl (by kernel_rfl) (LEss.cons (LEs.cons (AV.le_eq rfl) LEs.nil) LEss.nil) ?_)
                          obtain ⟨n79, h⟩ := need_some h
                          refine G_l rfl (opB_f1 (op_appT (by kernel_rfl) rfl rfl oc_c_api_Value n79 (fun v80 => ?_)))
                          refine G_q rfl (op_assign (av := .exact v80) rfl ?_)
                          refine G_nil ?_
                          refine kB_normal ?_
                          refine kC_normal ?_
                          refine k_reg .free hmixP (by kernel_rfl) ?_
                          refine G_q rfl (op_move (av := .exact (.int .i64 x8_l4)) rfl ?_)
                          refine G_q rfl (op_add rfl rfl rfl ?_)
                          refine G_q rfl (op_assign (av := .exact (.int .i64 (i64 (x8_l4 + 1)))) rfl ?_)
                          refine G_nil ?_
                          refine kI_normal ⟨_, _, _, _, v80, h, ?_⟩
                          refine Sub.trans (SubU.to SubU.f1) ?_
                          exact Sub.of_le (AF.le_put (AV.le_eq rfl) (AF.le_put (AV.le_eq rfl) (AF.le_put (AV.le_eq rfl) (AF.le_put (AV.le_eq rfl) (AF.le_put (AV.le_eq rfl) (AF.le_top _))))))
                        · replace h := ite_f h hc
                          refine k_exit ?_
                          refine kC_exit ?_
                          refine kI_exit ?_
                          refine kB_exit ?_
                          refine kI_normal ⟨_, _, _, v7_l4, h, ?_⟩
                          exact Sub.of_le (AF.le_put (AV.le_eq rfl) (AF.le_put (AV.le_eq rfl) (AF.le_put (AV.le_eq rfl) (AF.le_top _))))
                    · refine k_seq ?_
                      refine k_reg .free hmixP (by kernel_rfl) ?_
                      refine G_q rfl (op_move (av := .row 1 c_api_Value y60) rfl ?_)
                      refine G_q rfl (op_move (av := .exact v7_j61) rfl ?_)
                      refine G_sub rfl (SubU.trans SubU.f1 (SubU.freezeT2 (s1 := 7) (s2 := 83) rfl rfl len_c_api_Value)) ?_
                      obtain ⟨y81, hy81, h⟩ := bnd1_some h
                      refine G_q rfl (op_pure (m_ref9_Map_ok _ _ _ hy81) Tryz.func23 (by kernel_rfl) (LEs.cons (AV.le_eq rfl) (LEs.cons (AV.le_eq rfl) LEs.nil)) ?_)
                      refine G_q rfl (op_assign (av := .exact (.string (bs y81))) rfl ?_)
                      refine G_nil ?_
                      refine kC_normal ?_
                      refine k_ret ?_
                      refine kB_ret ?_
                      refine kI_ret ?_
                      obtain rfl := Option.some.inj h
                      refine kP_any (endN (af' := (AF.put AF0 (some 4) (.exact (.string (bs y81))))) (σ' := [boxI 48 w0 [.row 1 c_int x0_0_j61, .exact (.int .i64 x0_1_j61)]]) _ rfl ?_ ⟨rfl, rfl⟩)
                      exact Sub.of_le (AF.le_put (AV.le_eq rfl) (AF.le_top _))
                  · replace h := ite_f h hc
                    refine k_seq ?_
                    refine k_reg .free hmixP (by kernel_rfl) ?_
                    refine G_q rfl (op_eql rfl rfl ?_)
                    refine G_q rfl (op_assign (av := .exact (.bool (decide (x5_j2 = 8)))) rfl ?_)
                    refine G_nil ?_
                    refine kC_normal ?_
                    refine k_cond_d (p := x5_j2 = 8) rfl (fun hc => ?_) (fun hc => ?_)
                    · replace h := ite_t h hc
                      refine k_seq ?_
                      refine k_reg .free hmixP (by kernel_rfl) ?_
                      refine G_q rfl (op_move (av := pA w0 0) rfl ?_)
                      obtain ⟨y82, hy82, h⟩ := bnd1_some h
                      refine G_l rfl (op_fun_1_0_1 (m_gen_Choices_Next_ok _ _ _ hy82) Tryz.func13 (by kernel_rfl) (LEs.cons (AV.le_eq rfl) (LEs.cons (AV.le_eq rfl) LEs.nil)) ?_)
                      refine G_q rfl (op_move (av := pA w0 0) rfl ?_)
                      refine G_q rfl (op_move (av := .exact (.int .i64 a1)) rfl ?_)
                      refine G_q rfl (op_sub rfl rfl rfl ?_)
                      obtain ⟨y83, hy83, h⟩ := bnd1_some h
                      refine G_l rfl (op_fun_1_0_1 (m_gen_Choices_Values_ok self_gen_Choices_Value hself_gen_Choices_Value _ _ _ _ hy83) Tryz.func40 (by kernel_rfl) (LEs.cons (AV.le_eq rfl) (LEs.cons (AV.le_eq rfl) (LEs.cons (AV.le_eq rfl) LEs.nil))) ?_)
                      obtain ⟨y84, hy84, h⟩ := bnd1_some h
                      refine G_q rfl (op_pure (m_ref9_Numbered_ok _ _ _ _ hy84) Tryz.func43 (by kernel_rfl) (LEs.cons (AV.le_eq rfl) (LEs.cons (AV.le_eq rfl) (LEs.cons (AV.le_eq rfl) LEs.nil))) ?_)
                      refine G_q rfl (op_assign (av := .exact (.string (bs y84))) rfl ?_)
                      refine G_nil ?_
                      refine kC_normal ?_
                      refine k_ret ?_
                      refine kB_ret ?_
                      refine kI_ret ?_
                      obtain rfl := Option.some.inj h
                      refine kP_any (endN (af' := (AF.put AF0 (some 4) (.exact (.string (bs y84))))) (σ' := [boxI 48 w0 [.row 1 c_int y83.2.1, .exact (.int .i64 y83.2.2)]]) _ rfl ?_ ⟨rfl, rfl⟩)
                      exact Sub.of_le (AF.le_put (AV.le_eq rfl) (AF.le_top _))
                    · replace h := ite_f h hc
                      refine k_skip ?_
                      refine kB_normal ?_
                      refine kI_normal ⟨h, ?_⟩
                      exact Sub.of_le (AF.le_put (AV.le_eq rfl) (AF.le_top _))
    · refine k_seq ?_
      refine k_reg .free hmixP (by kernel_rfl) ?_
      refine G_q rfl (op_move (av := pA w0 0) rfl ?_)
      obtain ⟨y85, hy85, h⟩ := bnd1_some h
      refine G_l rfl (op_fun_1_0_1 (m_gen_Choices_Number_ok _ _ hy85) Tryz.func44 (by kernel_rfl) (LEs.cons (AV.le_eq rfl) LEs.nil) ?_)
      obtain ⟨y86, hy86, h⟩ := bnd1_some h
      refine G_q rfl (op_pure (m_ref9_Int_ok _ _ hy86) Tryz.func14 (by kernel_rfl) (LEs.cons (AV.le_eq rfl) LEs.nil) ?_)
      refine G_q rfl (op_assign (av := .exact (.string (bs y86))) rfl ?_)
      refine G_nil ?_
      refine kC_normal ?_
      refine k_ret ?_
      obtain rfl := Option.some.inj h
      refine kP_any (endN (af' := (AF.put AF0 (some 4) (.exact (.string (bs y86))))) (σ' := [boxI 48 w0 [.row 1 c_int y85.2.1, .exact (.int .i64 y85.2.2)]]) _ rfl ?_ ⟨rfl, rfl⟩)
      exact Sub.of_le (AF.le_put (AV.le_eq rfl) (AF.le_top _))
set_option maxHeartbeats 4000000 in
theorem m_gen_Choices_Value_S_ok : ∀ n : Nat, (∀ ⦃w0 : Nat⦄ (a0 : (List Int) × Int) (a1 : Int) (r : (List UInt8) × ((List Int) × Int)), m_gen_Choices_Value_S n a0 a1 = some r → Fun Tryz.prog 10 [(pA w0 0), (.exact (.int .i64 a1))] [boxI 48 w0 [.row 1 c_int a0.1, .exact (.int .i64 a0.2)]] (fun a s => a = .exact (.string (bs r.1)) ∧ s = [boxI 48 w0 [.row 1 c_int r.2.1, .exact (.int .i64 r.2.2)]]))
  | 0 => (fun _ _ _ _ h => by have h' : (none : Option _) = some _ := h; cases h')
  | n + 1 => by
    have ih := m_gen_Choices_Value_S_ok n
    exact fun w0 a0 a1 r h => m_gen_Choices_Value_F_ok (m_gen_Choices_Value_S n) ih a0 a1 r h
theorem m_gen_Choices_Value_ok {w0 : Nat} (a0 : (List Int) × Int) (a1 : Int) (r : (List UInt8) × ((List Int) × Int)) (h : m_gen_Choices_Value a0 a1 = some r) : Fun Tryz.prog 10 [(pA w0 0), (.exact (.int .i64 a1))] [boxI 48 w0 [.row 1 c_int a0.1, .exact (.int .i64 a0.2)]] (fun a s => a = .exact (.string (bs r.1)) ∧ s = [boxI 48 w0 [.row 1 c_int r.2.1, .exact (.int .i64 r.2.2)]]) := (m_gen_Choices_Value_S_ok FU) a0 a1 r h
set_option maxHeartbeats 4000000 in
theorem m_finset_BigUnion_ok (a0 : List UInt8) (r : (List UInt8) × Int) (h : m_finset_BigUnion a0 = some r) : Pure Tryz.prog 45 [(.exact (.string (bs a0)))] (.tup [.exact (.string (bs r.1)), .exact (.int .i64 r.2)]) := by
  unfold m_finset_BigUnion at h
  refine Pure.ofFun (fun_of_awp Tryz.func45 rfl Tryz.ntmps45 (by simp) rfl (res2 rfl) fun E hE => k_end ?_)
  refine k_seq ?_
  refine k_reg .free hmixP (by kernel_rfl) ?_
  refine G_q rfl (op_assign (av := .exact (.string (bs ([] : List UInt8)))) rfl ?_)
  refine G_q rfl (op_assign (av := .exact (.int .i64 0)) rfl ?_)
  refine G_nil ?_
  refine kC_normal ?_
  refine k_seq ?_
  refine k_reg .free hmixP (by kernel_rfl) ?_
  refine G_q rfl (op_move (av := .exact (.string (bs a0))) rfl ?_)
  obtain ⟨y1, hy1, h⟩ := bnd1_some h
  refine G_q rfl (op_pure (m_finset_sets_ok _ _ hy1) Tryz.func68 (by kernel_rfl) (LEs.cons (AV.le_eq rfl) LEs.nil) ?_)
  refine G_q rfl (op_move (av := .tup [.row 1 c_L_api_Value y1.1, .exact (.int .i64 y1.2)]) rfl ?_)
  refine G_q rfl (op_extract (av := .row 1 c_L_api_Value y1.1) rfl rfl ?_)
  refine G_q rfl (op_extract (av := .exact (.int .i64 y1.2)) rfl rfl ?_)
  refine G_q rfl (op_assign (av := .row 1 c_L_api_Value y1.1) rfl ?_)
  refine G_q rfl (op_assign (av := .exact (.int .i64 y1.2)) rfl ?_)
  refine G_nil ?_
  refine kC_normal ?_
  refine k_seq ?_
  refine k_seq ?_
  refine k_reg .free hmixP (by kernel_rfl) ?_
  refine G_q rfl (op_move (av := .exact (.int .i64 y1.2)) rfl ?_)
  refine G_q rfl (op_neq rfl rfl ?_)
  refine G_nil ?_
  refine kC_normal ?_
  refine k_cond_d (p := ¬ y1.2 = 0) rfl (fun hc => ?_) (fun hc => ?_)
  · replace h := ite_t h hc
    refine k_seq ?_
    refine k_reg .free hmixP (by kernel_rfl) ?_
    refine G_q rfl (op_move (av := .exact (.int .i64 y1.2)) rfl ?_)
    refine G_q rfl (op_assign (av := .exact (.string (bs ([] : List UInt8)))) rfl ?_)
    refine G_q rfl (op_assign (av := .exact (.int .i64 y1.2)) rfl ?_)
    refine G_nil ?_
    refine kC_normal ?_
    refine k_ret ?_
    refine kC_ret ?_
    obtain rfl := Option.some.inj h
    refine kP_any (endN (af' := (AF.put (AF.put AF0 (some 2) (.exact (.string (bs ([] : List UInt8))))) (some 3) (.exact (.int .i64 y1.2)))) (σ' := []) _ rfl ?_ ⟨rfl, rfl⟩)
    exact Sub.of_le (AF.le_put (AV.le_eq rfl) (AF.le_put (AV.le_eq rfl) (AF.le_top _)))
  · replace h := ite_f h hc
    refine k_skip ?_
    refine kC_normal ?_
    refine k_seq ?_
    refine k_reg .free hmixP (by kernel_rfl) ?_
    refine G_q rfl (op_assign (av := .exact (.slice none 0 0)) rfl ?_)
    refine G_nil ?_
    refine kC_normal ?_
    refine k_join1_0 h (fun (x6_j2 : List (List UInt8)) => (AF.put AF0 (some 6) (.row 1 c_api_Value x6_j2))) (fun (x6_j2 : List (List UInt8)) => []) (fun k2 h => ?_) (fun x6_j2 h => ?_)
    · refine k_seq ?_
      refine k_reg .free hmixP (by kernel_rfl) ?_
      refine G_q rfl (op_move (av := .row 1 c_L_api_Value y1.1) rfl ?_)
      refine G_q rfl (op_len_row (by kernel_rfl) rfl ?_)
      refine G_q rfl (op_move (av := .exact (.int .i64 0)) rfl ?_)
      refine G_nil ?_
      refine kC_normal ?_
      refine k_block ?_
      refine k_loop2_0 (m_finset_BigUnion_L2 y1 k2) (m_finset_BigUnion_B2 y1 k2) (fun _ _ => rfl) (fun m _ _ => rfl) h (fun (x6_l2 : List (List UInt8)) (x19_l2 : Int) => (AF.put (AF.put (AF.put (AF.put AF0 (some 6) (.row 1 c_api_Value x6_l2)) (some 17) (.row 1 c_L_api_Value y1.1)) (some 18) (.exact (.int .i64 (List.length y1.1 : Int)))) (some 19) (.exact (.int .i64 x19_l2)))) (fun (x6_l2 : List (List UInt8)) (x19_l2 : Int) => []) ?_ (fun rec2 x6_l2 x19_l2 h => ?_)
      · exact Sub.of_le (AF.le_put (AV.le_eq rfl) (AF.le_put (AV.le_eq rfl) (AF.le_put (AV.le_eq rfl) (AF.le_put (row_nil (by decide)) (AF.le_top _)))))
      · unfold m_finset_BigUnion_B2 at h
        refine k_seq ?_
        refine k_reg .free hmixP (by kernel_rfl) ?_
        refine G_q rfl (op_lss rfl rfl ?_)
        refine G_nil ?_
        refine kC_normal ?_
        refine k_seq ?_
        refine k_cond_d (p := x19_l2 < (List.length y1.1 : Int)) rfl (fun hc => ?_) (fun hc => ?_)
        · replace h := ite_t h hc
          refine k_skip ?_
          refine kC_normal ?_
          refine k_seq ?_
          refine k_block ?_
          refine k_seq ?_
          refine k_reg .free hmixP (by kernel_rfl) ?_
          obtain ⟨n14, h⟩ := need_some h
          refine G_q rfl (op_index_row (by kernel_rfl) rfl rfl n14.1 n14.2 ?_)
          refine G_q rfl (op_load1p (a := .row 1 c_api_Value (gi y1.1 x19_l2)) (by kernel_rfl) rfl rfl ?_)
          refine G_q rfl (op_assign (av := .row 1 c_api_Value (gi y1.1 x19_l2)) rfl ?_)
          refine G_nil ?_
          refine kC_normal ?_
          refine k_reg .free hmixP (by kernel_rfl) ?_
          refine G_q rfl (op_move (av := .row 1 c_api_Value x6_l2) rfl ?_)
          refine G_q rfl (op_move (av := .row 1 c_api_Value (gi y1.1 x19_l2)) rfl ?_)
          obtain ⟨y15, hy15, h⟩ := bnd1_some h
          refine G_q rfl (op_pure (m_finset_merge_ok _ _ _ _ hy15) Tryz.func69 (by kernel_rfl) (LEs.cons (AV.le_eq rfl) (LEs.cons (AV.le_eq rfl) (LEs.cons ((fn_le Tryz.func73 (by kernel_rfl) (fun i r h => m_finset_either_ok i.1 i.2 r h))) LEs.nil))) ?_)
          refine G_q rfl (op_assign (av := .row 1 c_api_Value y15) rfl ?_)
          refine G_nil ?_
          refine kB_normal ?_
          refine kC_normal ?_
          refine k_reg .free hmixP (by kernel_rfl) ?_
          refine G_q rfl (op_add rfl rfl rfl ?_)
          refine G_q rfl (op_move (av := .exact (.int .i64 (i64 (x19_l2 + 1)))) rfl ?_)
          refine G_nil ?_
          refine kI_normal ⟨_, _, h, ?_⟩
          exact Sub.of_le (AF.le_put (AV.le_eq rfl) (AF.le_put (AV.le_eq rfl) (AF.le_put (AV.le_eq rfl) (AF.le_put (AV.le_eq rfl) (AF.le_top _)))))
        · replace h := ite_f h hc
          refine k_exit ?_
          refine kC_exit ?_
          refine kI_exit ?_
          refine kB_exit ?_
          refine kI_normal ⟨_, h, ?_⟩
          exact Sub.of_le (AF.le_put (AV.le_eq rfl) (AF.le_top _))
    · refine k_seq ?_
      refine k_reg .free hmixP (by kernel_rfl) ?_
      refine G_q rfl (op_move (av := .row 1 c_api_Value x6_j2) rfl ?_)
      obtain ⟨y16, hy16, h⟩ := bnd1_some h
      refine G_q rfl (op_pure (m_finset_set_ok _ _ hy16) Tryz.func65 (by kernel_rfl) (LEs.cons (AV.le_eq rfl) LEs.nil) ?_)
      refine G_q rfl (op_extract (av := .exact (.string (bs y16.1))) rfl rfl ?_)
      refine G_q rfl (op_extract (av := .exact (.int .i64 y16.2)) rfl rfl ?_)
      refine G_q rfl (op_assign (av := .exact (.string (bs y16.1))) rfl ?_)
      refine G_q rfl (op_assign (av := .exact (.int .i64 y16.2)) rfl ?_)
      refine G_nil ?_
      refine kC_normal ?_
      refine k_ret ?_
      obtain rfl := Option.some.inj h
      refine kP_any (endN (af' := (AF.put (AF.put AF0 (some 2) (.exact (.string (bs y16.1)))) (some 3) (.exact (.int .i64 y16.2)))) (σ' := []) _ rfl ?_ ⟨rfl, rfl⟩)
      exact Sub.of_le (AF.le_put (AV.le_eq rfl) (AF.le_put (AV.le_eq rfl) (AF.le_top _)))
set_option maxHeartbeats 4000000 in
theorem m_ref9_BigUnion_ok (a0 : List UInt8) (r : (List UInt8) × Int) (h : m_ref9_BigUnion a0 = some r) : Pure Tryz.prog 46 [(.exact (.string (bs a0)))] (.tup [.exact (.string (bs r.1)), .exact (.int .i64 r.2)]) := by
  unfold m_ref9_BigUnion at h
  refine Pure.ofFun (fun_of_awp Tryz.func46 rfl Tryz.ntmps46 (by simp) rfl (res2 rfl) fun E hE => k_end ?_)
  refine k_seq ?_
  refine k_reg .free hmixP (by kernel_rfl) ?_
  refine G_q rfl (op_assign (av := .exact (.string (bs ([] : List UInt8)))) rfl ?_)
  refine G_q rfl (op_assign (av := .exact (.int .i64 0)) rfl ?_)
  refine G_nil ?_
  refine kC_normal ?_
  refine k_seq ?_
  refine k_join1_0 h (fun (x16_j9 : Bool) => (AF.put (AF.put AF0 (some 0) (.exact (.string (bs a0)))) (some 16) (.exact (.bool x16_j9)))) (fun (x16_j9 : Bool) => []) (fun k9 h => ?_) (fun x16_j9 h => ?_)
  · refine k_reg .free hmixP (by kernel_rfl) ?_
    refine G_q rfl (op_move (av := .exact (.string (bs a0))) rfl ?_)
    refine G_q rfl (op_litT (n := 1) (enc := c_api_Value) [a0] (CellsAll.cons rfl CellsOf.str CellsAll.nil) rfl (by kernel_rfl) (LEss.cons (LEs.cons (AV.le_eq rfl) LEs.nil) LEss.nil) ?_)
    obtain ⟨y13, hy13, h⟩ := bnd1_some h
    refine G_q rfl (op_pure (m_ref9_sets_ok _ _ hy13) Tryz.func74 (by kernel_rfl) (LEs.cons (AV.le_eq rfl) LEs.nil) ?_)
    refine G_q rfl (op_not rfl ?_)
    refine G_q rfl (op_move (av := .exact (.bool (!y13))) rfl ?_)
    refine G_splitB (c := !y13) 11 rfl (fun hc => ?_) (fun hc => ?_)
    · replace h := ite_t h hc
      refine G_n rfl rfl ?_
      refine G_n rfl rfl ?_
      refine G_n rfl rfl ?_
      refine G_n rfl rfl ?_
      refine G_q rfl (op_pick_t rfl (av := .exact (.bool true)) rfl ?_)
      refine G_nil ?_
      refine kI_normal ⟨_, h, ?_⟩
      exact Sub.of_le (AF.le_put (AV.le_eq rfl) (AF.le_put (AV.le_eq rfl) (AF.le_top _)))
    · replace h := ite_f h hc
      refine Gy_q rfl rfl rfl (op_move (av := .exact (.string (bs a0))) rfl ?_)
      obtain ⟨y14, hy14, h⟩ := bnd1_some h
      refine Gy_q rfl rfl rfl (op_pure (m_ref9_Parts_fz _ _ hy14) Tryz.func28 (by kernel_rfl) (LEs.cons (AV.le_eq rfl) LEs.nil) ?_)
      obtain ⟨y15, hy15, h⟩ := bnd1_some h
      refine Gy_q rfl rfl rfl (op_pure (m_ref9_sets_ok _ _ hy15) Tryz.func74 (by kernel_rfl) (LEs.cons (AV.le_eq rfl) LEs.nil) ?_)
      refine Gy_q rfl rfl rfl (op_not rfl ?_)
      refine G_q rfl (op_pick_f rfl (av := .exact (.bool (!y15))) rfl ?_)
      refine G_nil ?_
      refine kI_normal ⟨_, h, ?_⟩
      exact Sub.of_le (AF.le_put (AV.le_eq rfl) (AF.le_put (AV.le_eq rfl) (AF.le_top _)))
  · refine k_cond_b (c := x16_j9) rfl (fun hc => ?_) (fun hc => ?_)
    · replace h := ite_t h hc
      refine k_seq ?_
      refine k_reg .free hmixP (by kernel_rfl) ?_
      refine G_q rfl (op_assign (av := .exact (.string (bs ([] : List UInt8)))) rfl ?_)
      refine G_q rfl (op_assign (av := .exact (.int .i64 6)) rfl ?_)
      refine G_nil ?_
      refine kC_normal ?_
      refine k_ret ?_
      refine kC_ret ?_
      obtain rfl := Option.some.inj h
      refine kP_any (endN (af' := (AF.put (AF.put AF0 (some 2) (.exact (.string (bs ([] : List UInt8))))) (some 3) (.exact (.int .i64 6)))) (σ' := []) _ rfl ?_ ⟨rfl, rfl⟩)
      exact Sub.of_le (AF.le_put (AV.le_eq rfl) (AF.le_put (AV.le_eq rfl) (AF.le_top _)))
    · replace h := ite_f h hc
      refine k_skip ?_
      refine kC_normal ?_
      refine k_seq ?_
      refine k_reg .free hmixP (by kernel_rfl) ?_
      refine G_q rfl (op_assign (av := .exact (.slice none 0 0)) rfl ?_)
      refine G_nil ?_
      refine kC_normal ?_
      refine k_seq ?_
      refine k_reg .free hmixP (by kernel_rfl) ?_
      refine G_q rfl (op_move (av := .exact (.string (bs a0))) rfl ?_)
      obtain ⟨y16, hy16, h⟩ := bnd1_some h
      refine G_q rfl (op_pure (m_ref9_Parts_fz _ _ hy16) Tryz.func28 (by kernel_rfl) (LEs.cons (AV.le_eq rfl) LEs.nil) ?_)
      refine G_q rfl (op_assign (av := .row 1 c_api_Value y16) rfl ?_)
      refine G_nil ?_
      refine kC_normal ?_
      refine k_join1_1 h (fun (x4_j17 : List (List UInt8)) (v4_j17 : Value) => (AF.put AF0 (some 4) (.exact v4_j17))) (fun (x4_j17 : List (List UInt8)) (v4_j17 : Value) => [vecT Tryz.prog 33 1 c_api_Value v4_j17 x4_j17]) (fun k17 h => ?_) (fun x4_j17 v4_j17 h => ?_)
      · refine k_seq ?_
        refine k_reg .free hmixP (by kernel_rfl) ?_
        refine G_q rfl (op_assign (av := .exact (.int .i64 0)) rfl ?_)
        refine G_nil ?_
        refine kC_normal ?_
        refine k_block ?_
        refine k_loop2_1 (m_ref9_BigUnion_L2 y16 k17) (m_ref9_BigUnion_B2 y16 k17) (fun _ _ => rfl) (fun m _ _ => rfl) h (fun (x4_l2 : List (List UInt8)) (x6_l2 : Int) (v4_l2 : Value) => (AF.put (AF.put (AF.put AF0 (some 4) (.exact v4_l2)) (some 5) (.row 1 c_api_Value y16)) (some 6) (.exact (.int .i64 x6_l2)))) (fun (x4_l2 : List (List UInt8)) (x6_l2 : Int) (v4_l2 : Value) => [vecT Tryz.prog 33 1 c_api_Value v4_l2 x4_l2]) (.slice none 0 0) ?_ (fun rec2 x4_l2 x6_l2 v4_l2 h => ?_)
        · refine Sub.trans (SubU.to (SubU.nilT (P := Tryz.prog) (t := 33) (n := 1) (enc := c_api_Value))) ?_
          exact Sub.of_le (AF.le_put (AV.le_eq rfl) (AF.le_put (AV.le_eq rfl) (AF.le_put (AV.le_eq rfl) (AF.le_top _))))
        · unfold m_ref9_BigUnion_B2 at h
          refine k_seq ?_
          refine k_seq ?_
          refine k_reg .free hmixP (by kernel_rfl) ?_
          refine G_q rfl (op_move (av := .exact (.int .i64 x6_l2)) rfl ?_)
          refine G_q rfl (op_move (av := .row 1 c_api_Value y16) rfl ?_)
          refine G_q rfl (op_len_row (by kernel_rfl) rfl ?_)
          refine G_q rfl (op_lss rfl rfl ?_)
          refine G_nil ?_
          refine kC_normal ?_
          refine k_cond_d (p := x6_l2 < (List.length y16 : Int)) rfl (fun hc => ?_) (fun hc => ?_)
          · replace h := ite_t h hc
            refine k_skip ?_
            refine kC_normal ?_
            refine k_seq ?_
            refine k_block ?_
            refine k_reg .free hmixP (by kernel_rfl) ?_
            refine G_q rfl (op_move (av := .exact v4_l2) rfl ?_)
            refine G_q rfl (op_move (av := .row 1 c_api_Value y16) rfl ?_)
            refine G_q rfl (op_move (av := .exact (.int .i64 x6_l2)) rfl ?_)
            obtain ⟨n39, h⟩ := need_some h
            refine G_q rfl (op_index_row (by kernel_rfl) rfl rfl n39.1 n39.2 ?_)
            refine G_q rfl (op_load1p (a := .exact (.string (bs (gi y16 x6_l2)))) (by kernel_rfl) rfl rfl ?_)
            obtain ⟨y40, hy40, h⟩ := bnd1_some h
            refine G_q rfl (op_pure (m_ref9_Parts_fz _ _ hy40) Tryz.func28 (by kernel_rfl) (LEs.cons (AV.le_eq rfl) LEs.nil) ?_)
            obtain ⟨n41, h⟩ := need_some h
            refine G_l rfl (op_appT (by kernel_rfl) rfl rfl oc_c_api_Value n41 (fun v42 => ?_))
            refine G_q rfl (op_assign (av := .exact v42) rfl ?_)
            refine G_nil ?_
            refine kB_normal ?_
            refine kC_normal ?_
            refine k_reg .free hmixP (by kernel_rfl) ?_
            refine G_q rfl (op_move (av := .exact (.int .i64 x6_l2)) rfl ?_)
            refine G_q rfl (op_add rfl rfl rfl ?_)
            refine G_q rfl (op_assign (av := .exact (.int .i64 (i64 (x6_l2 + 1)))) rfl ?_)
            refine G_nil ?_
            refine kI_normal ⟨_, _, v42, h, ?_⟩
            exact Sub.of_le (AF.le_put (AV.le_eq rfl) (AF.le_put (AV.le_eq rfl) (AF.le_put (AV.le_eq rfl) (AF.le_top _))))
          · replace h := ite_f h hc
            refine k_exit ?_
            refine kC_exit ?_
            refine kI_exit ?_
            refine kB_exit ?_
            refine kI_normal ⟨_, v4_l2, h, ?_⟩
            exact Sub.of_le (AF.le_put (AV.le_eq rfl) (AF.le_top _))
      · refine k_seq ?_
        refine k_reg .free hmixP (by kernel_rfl) ?_
        refine G_q rfl (op_move (av := .exact v4_j17) rfl ?_)
        refine G_sub rfl (SubU.freezeT2 (s1 := 4) (s2 := 32) rfl rfl len_c_api_Value) ?_
        obtain ⟨y43, hy43, h⟩ := bnd1_some h
        refine G_q rfl (op_pure (m_ref9_bounded_ok _ _ hy43) Tryz.func75 (by kernel_rfl) (LEs.cons (AV.le_eq rfl) LEs.nil) ?_)
        refine G_q rfl (op_extract (av := .exact (.string (bs y43.1))) rfl rfl ?_)
        refine G_q rfl (op_extract (av := .exact (.int .i64 y43.2)) rfl rfl ?_)
        refine G_q rfl (op_assign (av := .exact (.string (bs y43.1))) rfl ?_)
        refine G_q rfl (op_assign (av := .exact (.int .i64 y43.2)) rfl ?_)
        refine G_nil ?_
        refine kC_normal ?_
        refine k_ret ?_
        obtain rfl := Option.some.inj h
        refine kP_any (endN (af' := (AF.put (AF.put AF0 (some 2) (.exact (.string (bs y43.1)))) (some 3) (.exact (.int .i64 y43.2)))) (σ' := []) _ rfl ?_ ⟨rfl, rfl⟩)
        exact Sub.of_le (AF.le_put (AV.le_eq rfl) (AF.le_put (AV.le_eq rfl) (AF.le_top _)))
set_option maxHeartbeats 4000000 in
theorem m_ref9_BigInter_ok (a0 : List UInt8) (r : (List UInt8) × Int) (h : m_ref9_BigInter a0 = some r) : Pure Tryz.prog 47 [(.exact (.string (bs a0)))] (.tup [.exact (.string (bs r.1)), .exact (.int .i64 r.2)]) := by
  unfold m_ref9_BigInter at h
  refine Pure.ofFun (fun_of_awp Tryz.func47 rfl Tryz.ntmps47 (by simp) rfl (res2 rfl) fun E hE => k_end ?_)
  refine k_seq ?_
  refine k_reg .free hmixP (by kernel_rfl) ?_
  refine G_q rfl (op_assign (av := .exact (.string (bs ([] : List UInt8)))) rfl ?_)
  refine G_q rfl (op_assign (av := .exact (.int .i64 0)) rfl ?_)
  refine G_nil ?_
  refine kC_normal ?_
  refine k_seq ?_
  refine k_join1_0 h (fun (x19_j9 : Bool) => (AF.put (AF.put AF0 (some 0) (.exact (.string (bs a0)))) (some 19) (.exact (.bool x19_j9)))) (fun (x19_j9 : Bool) => []) (fun k9 h => ?_) (fun x19_j9 h => ?_)
  · refine k_reg .free hmixP (by kernel_rfl) ?_
    refine G_q rfl (op_move (av := .exact (.string (bs a0))) rfl ?_)
    refine G_q rfl (op_litT (n := 1) (enc := c_api_Value) [a0] (CellsAll.cons rfl CellsOf.str CellsAll.nil) rfl (by kernel_rfl) (LEss.cons (LEs.cons (AV.le_eq rfl) LEs.nil) LEss.nil) ?_)
    obtain ⟨y13, hy13, h⟩ := bnd1_some h
    refine G_q rfl (op_pure (m_ref9_sets_ok _ _ hy13) Tryz.func74 (by kernel_rfl) (LEs.cons (AV.le_eq rfl) LEs.nil) ?_)
    refine G_q rfl (op_not rfl ?_)
    refine G_q rfl (op_move (av := .exact (.bool (!y13))) rfl ?_)
    refine G_splitB (c := !y13) 14 rfl (fun hc => ?_) (fun hc => ?_)
    · replace h := ite_t h hc
      refine G_n rfl rfl ?_
      refine G_n rfl rfl ?_
      refine G_n rfl rfl ?_
      refine G_n rfl rfl ?_
      refine G_q rfl (op_pick_t rfl (av := .exact (.bool true)) rfl ?_)
      refine G_nil ?_
      refine kI_normal ⟨_, h, ?_⟩
      exact Sub.of_le (AF.le_put (AV.le_eq rfl) (AF.le_put (AV.le_eq rfl) (AF.le_top _)))
    · replace h := ite_f h hc
      refine Gy_q rfl rfl rfl (op_move (av := .exact (.string (bs a0))) rfl ?_)
      obtain ⟨y14, hy14, h⟩ := bnd1_some h
      refine Gy_q rfl rfl rfl (op_pure (m_ref9_Parts_fz _ _ hy14) Tryz.func28 (by kernel_rfl) (LEs.cons (AV.le_eq rfl) LEs.nil) ?_)
      obtain ⟨y15, hy15, h⟩ := bnd1_some h
      refine Gy_q rfl rfl rfl (op_pure (m_ref9_sets_ok _ _ hy15) Tryz.func74 (by kernel_rfl) (LEs.cons (AV.le_eq rfl) LEs.nil) ?_)
      refine Gy_q rfl rfl rfl (op_not rfl ?_)
      refine G_q rfl (op_pick_f rfl (av := .exact (.bool (!y15))) rfl ?_)
      refine G_nil ?_
      refine kI_normal ⟨_, h, ?_⟩
      exact Sub.of_le (AF.le_put (AV.le_eq rfl) (AF.le_put (AV.le_eq rfl) (AF.le_top _)))
  · refine k_cond_b (c := x19_j9) rfl (fun hc => ?_) (fun hc => ?_)
    · replace h := ite_t h hc
      refine k_seq ?_
      refine k_reg .free hmixP (by kernel_rfl) ?_
      refine G_q rfl (op_assign (av := .exact (.string (bs ([] : List UInt8)))) rfl ?_)
      refine G_q rfl (op_assign (av := .exact (.int .i64 6)) rfl ?_)
      refine G_nil ?_
      refine kC_normal ?_
      refine k_ret ?_
      refine kC_ret ?_
      obtain rfl := Option.some.inj h
      refine kP_any (endN (af' := (AF.put (AF.put AF0 (some 2) (.exact (.string (bs ([] : List UInt8))))) (some 3) (.exact (.int .i64 6)))) (σ' := []) _ rfl ?_ ⟨rfl, rfl⟩)
      exact Sub.of_le (AF.le_put (AV.le_eq rfl) (AF.le_put (AV.le_eq rfl) (AF.le_top _)))
    · replace h := ite_f h hc
      refine k_skip ?_
      refine kC_normal ?_
      refine k_seq ?_
      refine k_reg .free hmixP (by kernel_rfl) ?_
      refine G_q rfl (op_move (av := .exact (.string (bs a0))) rfl ?_)
      obtain ⟨y16, hy16, h⟩ := bnd1_some h
      refine G_q rfl (op_pure (m_ref9_Parts_fz _ _ hy16) Tryz.func28 (by kernel_rfl) (LEs.cons (AV.le_eq rfl) LEs.nil) ?_)
      refine G_q rfl (op_assign (av := .row 1 c_api_Value y16) rfl ?_)
      refine G_nil ?_
      refine kC_normal ?_
      refine k_seq ?_
      refine k_seq ?_
      refine k_reg .free hmixP (by kernel_rfl) ?_
      refine G_q rfl (op_move (av := .row 1 c_api_Value y16) rfl ?_)
      refine G_q rfl (op_len_row (by kernel_rfl) rfl ?_)
      refine G_q rfl (op_eql rfl rfl ?_)
      refine G_nil ?_
      refine kC_normal ?_
      refine k_cond_d (p := (List.length y16 : Int) = 0) rfl (fun hc => ?_) (fun hc => ?_)
      · replace h := ite_t h hc
        refine k_seq ?_
        refine k_reg .free hmixP (by kernel_rfl) ?_
        refine G_q rfl (op_assign (av := .exact (.string (bs ([] : List UInt8)))) rfl ?_)
        refine G_q rfl (op_assign (av := .exact (.int .i64 12)) rfl ?_)
        refine G_nil ?_
        refine kC_normal ?_
        refine k_ret ?_
        refine kC_ret ?_
        obtain rfl := Option.some.inj h
        refine kP_any (endN (af' := (AF.put (AF.put AF0 (some 2) (.exact (.string (bs ([] : List UInt8))))) (some 3) (.exact (.int .i64 12)))) (σ' := []) _ rfl ?_ ⟨rfl, rfl⟩)
        exact Sub.of_le (AF.le_put (AV.le_eq rfl) (AF.le_put (AV.le_eq rfl) (AF.le_top _)))
      · replace h := ite_f h hc
        refine k_skip ?_
        refine kC_normal ?_
        refine k_seq ?_
        refine k_reg .free hmixP (by kernel_rfl) ?_
        refine G_q rfl (op_assign (av := .exact (.slice none 0 0)) rfl ?_)
        refine G_nil ?_
        refine kC_normal ?_
        refine k_seq ?_
        refine k_reg .free hmixP (by kernel_rfl) ?_
        refine G_q rfl (op_move (av := .row 1 c_api_Value y16) rfl ?_)
        obtain ⟨n17, h⟩ := need_some h
        refine G_q rfl (op_index_row (by kernel_rfl) rfl rfl n17.1 n17.2 ?_)
        refine G_q rfl (op_load1p (a := .exact (.string (bs (gi y16 0)))) (by kernel_rfl) rfl rfl ?_)
        obtain ⟨y18, hy18, h⟩ := bnd1_some h
        refine G_q rfl (op_pure (m_ref9_Parts_fz _ _ hy18) Tryz.func28 (by kernel_rfl) (LEs.cons (AV.le_eq rfl) LEs.nil) ?_)
        refine G_q rfl (op_assign (av := .row 1 c_api_Value y18) rfl ?_)
        refine G_nil ?_
        refine kC_normal ?_
        refine k_join1_1 h (fun (x5_j19 : List (List UInt8)) (v5_j19 : Value) => (AF.put AF0 (some 5) (.exact v5_j19))) (fun (x5_j19 : List (List UInt8)) (v5_j19 : Value) => [vecT Tryz.prog 33 1 c_api_Value v5_j19 x5_j19]) (fun k19 h => ?_) (fun x5_j19 v5_j19 h => ?_)
        · refine k_seq ?_
          refine k_reg .free hmixP (by kernel_rfl) ?_
          refine G_q rfl (op_assign (av := .exact (.int .i64 0)) rfl ?_)
          refine G_nil ?_
          refine kC_normal ?_
          refine k_block ?_
          refine k_loop2_1 (m_ref9_BigInter_L14 y16 y18 k19) (m_ref9_BigInter_B14 y16 y18 k19) (fun _ _ => rfl) (fun m _ _ => rfl) h (fun (x5_l14 : List (List UInt8)) (x7_l14 : Int) (v5_l14 : Value) => (AF.put (AF.put (AF.put (AF.put AF0 (some 4) (.row 1 c_api_Value y16)) (some 5) (.exact v5_l14)) (some 6) (.row 1 c_api_Value y18)) (some 7) (.exact (.int .i64 x7_l14)))) (fun (x5_l14 : List (List UInt8)) (x7_l14 : Int) (v5_l14 : Value) => [vecT Tryz.prog 33 1 c_api_Value v5_l14 x5_l14]) (.slice none 0 0) ?_ (fun rec14 x5_l14 x7_l14 v5_l14 h => ?_)
          · refine Sub.trans (SubU.to (SubU.nilT (P := Tryz.prog) (t := 33) (n := 1) (enc := c_api_Value))) ?_
            exact Sub.of_le (AF.le_put (AV.le_eq rfl) (AF.le_put (AV.le_eq rfl) (AF.le_put (AV.le_eq rfl) (AF.le_put (AV.le_eq rfl) (AF.le_top _)))))
          · unfold m_ref9_BigInter_B14 at h
            refine k_seq ?_
            refine k_seq ?_
            refine k_reg .free hmixP (by kernel_rfl) ?_
            refine G_q rfl (op_move (av := .exact (.int .i64 x7_l14)) rfl ?_)
            refine G_q rfl (op_move (av := .row 1 c_api_Value y18) rfl ?_)
            refine G_q rfl (op_len_row (by kernel_rfl) rfl ?_)
            refine G_q rfl (op_lss rfl rfl ?_)
            refine G_nil ?_
            refine kC_normal ?_
            refine k_cond_d (p := x7_l14 < (List.length y18 : Int)) rfl (fun hc => ?_) (fun hc => ?_)
            · replace h := ite_t h hc
              refine k_skip ?_
              refine kC_normal ?_
              refine k_join1_1 h (fun (x5_j626 : List (List UInt8)) (v5_j626 : Value) => (AF.put (AF.put (AF.put (AF.put AF0 (some 4) (.row 1 c_api_Value y16)) (some 5) (.exact v5_j626)) (some 6) (.row 1 c_api_Value y18)) (some 7) (.exact (.int .i64 x7_l14)))) (fun (x5_j626 : List (List UInt8)) (v5_j626 : Value) => [vecT Tryz.prog 33 1 c_api_Value v5_j626 x5_j626]) (fun k626 h => ?_) (fun x5_j626 v5_j626 h => ?_)
              · refine k_block ?_
                refine k_seq ?_
                refine k_reg .free hmixP (by kernel_rfl) ?_
                refine G_q rfl (op_assign (av := .exact (.bool true)) rfl ?_)
                refine G_nil ?_
                refine kC_normal ?_
                refine k_join1_0 h (fun (x8_j687 : Bool) => (AF.put (AF.put (AF.put (AF.put (AF.put AF0 (some 4) (.row 1 c_api_Value y16)) (some 5) (.exact v5_l14)) (some 6) (.row 1 c_api_Value y18)) (some 7) (.exact (.int .i64 x7_l14))) (some 8) (.exact (.bool x8_j687)))) (fun (x8_j687 : Bool) => [vecT Tryz.prog 33 1 c_api_Value v5_l14 x5_l14]) (fun k687 h => ?_) (fun x8_j687 h => ?_)
                · refine k_seq ?_
                  refine k_reg .free hmixP (by kernel_rfl) ?_
                  refine G_q rfl (op_assign (av := .exact (.int .i64 1)) rfl ?_)
                  refine G_nil ?_
                  refine kC_normal ?_
                  refine k_block ?_
                  refine k_loop2_0 (m_ref9_BigInter_L26 y16 y18 x7_l14 k687) (m_ref9_BigInter_B26 y16 y18 x7_l14 k687) (fun _ _ => rfl) (fun m _ _ => rfl) h (fun (x8_l26 : Bool) (x9_l26 : Int) => (AF.put (AF.put (AF.put (AF.put (AF.put (AF.put AF0 (some 4) (.row 1 c_api_Value y16)) (some 5) (.exact v5_l14)) (some 6) (.row 1 c_api_Value y18)) (some 7) (.exact (.int .i64 x7_l14))) (some 8) (.exact (.bool x8_l26))) (some 9) (.exact (.int .i64 x9_l26)))) (fun (x8_l26 : Bool) (x9_l26 : Int) => [vecT Tryz.prog 33 1 c_api_Value v5_l14 x5_l14]) ?_ (fun rec26 x8_l26 x9_l26 h => ?_)
                  · exact Sub.of_le (AF.le_put (AV.le_eq rfl) (AF.le_put (AV.le_eq rfl) (AF.le_put (AV.le_eq rfl) (AF.le_put (AV.le_eq rfl) (AF.le_put (AV.le_eq rfl) (AF.le_put (AV.le_eq rfl) (AF.le_top _)))))))
                  · unfold m_ref9_BigInter_B26 at h
                    refine k_seq ?_
                    refine k_seq ?_
                    refine k_reg .free hmixP (by kernel_rfl) ?_
                    refine G_q rfl (op_move (av := .exact (.int .i64 x9_l26)) rfl ?_)
                    refine G_q rfl (op_move (av := .row 1 c_api_Value y16) rfl ?_)
                    refine G_q rfl (op_len_row (by kernel_rfl) rfl ?_)
                    refine G_q rfl (op_lss rfl rfl ?_)
                    refine G_nil ?_
                    refine kC_normal ?_
                    refine k_cond_d (p := x9_l26 < (List.length y16 : Int)) rfl (fun hc => ?_) (fun hc => ?_)
                    · replace h := ite_t h hc
                      refine k_skip ?_
                      refine kC_normal ?_
                      refine k_join1_0 h (fun (x8_j734 : Bool) => (AF.put (AF.put (AF.put (AF.put (AF.put (AF.put AF0 (some 4) (.row 1 c_api_Value y16)) (some 5) (.exact v5_l14)) (some 6) (.row 1 c_api_Value y18)) (some 7) (.exact (.int .i64 x7_l14))) (some 8) (.exact (.bool x8_j734))) (some 9) (.exact (.int .i64 x9_l26)))) (fun (x8_j734 : Bool) => [vecT Tryz.prog 33 1 c_api_Value v5_l14 x5_l14]) (fun k734 h => ?_) (fun x8_j734 h => ?_)
                      · refine k_block ?_
                        refine k_plan [] [(0, 0), (0, 1), (0, 2), (0, 3), (0, 4), (0, 5), (0, 6), (0, 7), (0, 8), (0, 9), (0, 10), (0, 11), (0, 12), (0, 13)] hmixP (by kernel_rfl) ?_
                        refine P_q no34_0 rfl (op_move (av := .exact (.bool x8_l26)) rfl ?_)
                        refine P_q no34_0 rfl (op_move (av := .exact (.bool x8_l26)) rfl ?_)
                        refine P_splitB (c := x8_l26) 42 rfl (fun hc => ?_) (fun hc => ?_)
                        · replace h := ite_t h hc
                          refine Py_q no34_0 rfl rfl rfl (op_move (av := .row 1 c_api_Value y16) rfl ?_)
                          refine Py_q no34_0 rfl rfl rfl (op_move (av := .exact (.int .i64 x9_l26)) rfl ?_)
                          obtain ⟨n739, h⟩ := need_some h
                          refine Py_q no34_0 rfl rfl rfl (op_index_row (by kernel_rfl) rfl rfl n739.1 n739.2 ?_)
                          refine Py_q no34_0 rfl rfl rfl (op_load1p (a := .exact (.string (bs (gi y16 x9_l26)))) (by kernel_rfl) rfl rfl ?_)
                          obtain ⟨y740, hy740, h⟩ := bnd1_some h
                          refine Py_q no34_0 rfl rfl rfl (op_pure (m_ref9_Parts_fz _ _ hy740) Tryz.func28 (by kernel_rfl) (LEs.cons (AV.le_eq rfl) LEs.nil) ?_)
                          refine Py_q no34_0 rfl rfl rfl (op_move (av := .row 1 c_api_Value y18) rfl ?_)
                          refine Py_q no34_0 rfl rfl rfl (op_move (av := .exact (.int .i64 x7_l14)) rfl ?_)
                          obtain ⟨n741, h⟩ := need_some h
                          refine Py_q no34_0 rfl rfl rfl (op_index_row (by kernel_rfl) rfl rfl n741.1 n741.2 ?_)
                          refine Py_q no34_0 rfl rfl rfl (op_load1p (a := .exact (.string (bs (gi y18 x7_l14)))) (by kernel_rfl) rfl rfl ?_)
                          obtain ⟨y742, hy742, h⟩ := bnd1_some h
                          refine Py_q no34_0 rfl rfl rfl (op_pure (m_ref9_has_ok _ _ _ hy742) Tryz.func78 (by kernel_rfl) (LEs.cons (AV.le_eq rfl) (LEs.cons (AV.le_eq rfl) LEs.nil)) ?_)
                          refine P_q no34_0 rfl (op_pick_t rfl (av := .exact (.bool y742)) rfl ?_)
                          refine P_q no34_0 rfl (op_assign (av := .exact (.bool y742)) rfl ?_)
                          refine P_nil ?_
                          refine kB_normal ?_
                          refine kI_normal ⟨_, h, ?_⟩
                          exact Sub.of_le (AF.le_put (AV.le_eq rfl) (AF.le_put (AV.le_eq rfl) (AF.le_put (AV.le_eq rfl) (AF.le_put (AV.le_eq rfl) (AF.le_put (AV.le_eq rfl) (AF.le_put (AV.le_eq rfl) (AF.le_top _)))))))
                        · replace h := ite_f h hc
                          refine P_n no34_0 rfl rfl rfl ?_
                          refine P_n no34_0 rfl rfl rfl ?_
                          refine P_n no34_0 rfl rfl rfl ?_
                          refine P_n no34_0 rfl rfl rfl ?_
                          refine P_n no34_0 rfl rfl rfl ?_
                          refine P_n no34_0 rfl rfl rfl ?_
                          refine P_n no34_0 rfl rfl rfl ?_
                          refine P_n no34_0 rfl rfl rfl ?_
                          refine P_n no34_0 rfl rfl rfl ?_
                          refine P_n no34_0 rfl rfl rfl ?_
                          refine P_q no34_0 rfl (op_pick_f rfl (av := .exact (.bool false)) rfl ?_)
                          refine P_q no34_0 rfl (op_assign (av := .exact (.bool false)) rfl ?_)
                          refine P_nil ?_
                          refine kB_normal ?_
                          refine kI_normal ⟨_, h, ?_⟩
                          exact Sub.of_le (AF.le_put (AV.le_eq rfl) (AF.le_put (AV.le_eq rfl) (AF.le_put (AV.le_eq rfl) (AF.le_put (AV.le_eq rfl) (AF.le_put (AV.le_eq rfl) (AF.le_put (AV.le_eq rfl) (AF.le_top _)))))))
                      · refine k_reg .free hmixP (by kernel_rfl) ?_
                        refine G_q rfl (op_move (av := .exact (.int .i64 x9_l26)) rfl ?_)
                        refine G_q rfl (op_add rfl rfl rfl ?_)
                        refine G_q rfl (op_assign (av := .exact (.int .i64 (i64 (x9_l26 + 1)))) rfl ?_)
                        refine G_nil ?_
                        refine kI_normal ⟨_, _, h, ?_⟩
                        exact Sub.of_le (AF.le_put (AV.le_eq rfl) (AF.le_put (AV.le_eq rfl) (AF.le_put (AV.le_eq rfl) (AF.le_put (AV.le_eq rfl) (AF.le_put (AV.le_eq rfl) (AF.le_put (AV.le_eq rfl) (AF.le_top _)))))))
                    · replace h := ite_f h hc
                      refine k_exit ?_
                      refine kC_exit ?_
                      refine kI_exit ?_
                      refine kB_exit ?_
                      refine kI_normal ⟨_, h, ?_⟩
                      exact Sub.of_le (AF.le_put (AV.le_eq rfl) (AF.le_put (AV.le_eq rfl) (AF.le_put (AV.le_eq rfl) (AF.le_put (AV.le_eq rfl) (AF.le_put (AV.le_eq rfl) (AF.le_top _))))))
                · refine k_seq ?_
                  refine k_reg .free hmixP (by kernel_rfl) ?_
                  refine G_q rfl (op_move (av := .exact (.bool x8_j687)) rfl ?_)
                  refine G_nil ?_
                  refine kC_normal ?_
                  refine k_cond_b (c := x8_j687) rfl (fun hc => ?_) (fun hc => ?_)
                  · replace h := ite_t h hc
                    refine k_reg .free hmixP (by kernel_rfl) ?_
                    refine G_q rfl (op_move (av := .exact v5_l14) rfl ?_)
                    refine G_q rfl (op_move (av := .row 1 c_api_Value y18) rfl ?_)
                    refine G_q rfl (op_move (av := .exact (.int .i64 x7_l14)) rfl ?_)
                    obtain ⟨n743, h⟩ := need_some h
                    refine G_q rfl (op_index_row (by kernel_rfl) rfl rfl n743.1 n743.2 ?_)
                    refine G_q rfl (op_load1p (a := .exact (.string (bs (gi y18 x7_l14)))) (by kernel_rfl) rfl rfl ?_)
                    refine G_q rfl (op_litT (n := 1) (enc := c_api_Value) [gi y18 x7_l14] (CellsAll.cons rfl CellsOf.str CellsAll.nil) rfl (by kernel_rfl) (LEss.cons (LEs.cons (AV.le_eq rfl) LEs.nil) LEss.nil) ?_)
                    obtain ⟨n744, h⟩ := need_some h
                    refine G_l rfl (op_appT (by kernel_rfl) rfl rfl oc_c_api_Value n744 (fun v745 => ?_))
                    refine G_q rfl (op_assign (av := .exact v745) rfl ?_)
                    refine G_nil ?_
                    refine kB_normal ?_
                    refine kI_normal ⟨_, v745, h, ?_⟩
                    exact Sub.of_le (AF.le_put (AV.le_eq rfl) (AF.le_put (AV.le_eq rfl) (AF.le_put (AV.le_eq rfl) (AF.le_put (AV.le_eq rfl) (AF.le_top _)))))
                  · replace h := ite_f h hc
                    refine k_skip ?_
                    refine kB_normal ?_
                    refine kI_normal ⟨_, v5_l14, h, ?_⟩
                    exact Sub.of_le (AF.le_put (AV.le_eq rfl) (AF.le_put (AV.le_eq rfl) (AF.le_put (AV.le_eq rfl) (AF.le_put (AV.le_eq rfl) (AF.le_top _)))))
              · refine k_reg .free hmixP (by kernel_rfl) ?_
                refine G_q rfl (op_move (av := .exact (.int .i64 x7_l14)) rfl ?_)
                refine G_q rfl (op_add rfl rfl rfl ?_)
                refine G_q rfl (op_assign (av := .exact (.int .i64 (i64 (x7_l14 + 1)))) rfl ?_)
                refine G_nil ?_
                refine kI_normal ⟨_, _, v5_j626, h, ?_⟩
                exact Sub.of_le (AF.le_put (AV.le_eq rfl) (AF.le_put (AV.le_eq rfl) (AF.le_put (AV.le_eq rfl) (AF.le_put (AV.le_eq rfl) (AF.le_top _)))))
            · replace h := ite_f h hc
              refine k_exit ?_
              refine kC_exit ?_
              refine kI_exit ?_
              refine kB_exit ?_
              refine kI_normal ⟨_, v5_l14, h, ?_⟩
              exact Sub.of_le (AF.le_put (AV.le_eq rfl) (AF.le_top _))
        · refine k_seq ?_
          refine k_reg .free hmixP (by kernel_rfl) ?_
          refine G_q rfl (op_move (av := .exact v5_j19) rfl ?_)
          refine G_sub rfl (SubU.freezeT2 (s1 := 5) (s2 := 62) rfl rfl len_c_api_Value) ?_
          obtain ⟨y746, hy746, h⟩ := bnd1_some h
          refine G_q rfl (op_pure (m_ref9_bounded_ok _ _ hy746) Tryz.func75 (by kernel_rfl) (LEs.cons (AV.le_eq rfl) LEs.nil) ?_)
          refine G_q rfl (op_extract (av := .exact (.string (bs y746.1))) rfl rfl ?_)
          refine G_q rfl (op_extract (av := .exact (.int .i64 y746.2)) rfl rfl ?_)
          refine G_q rfl (op_assign (av := .exact (.string (bs y746.1))) rfl ?_)
          refine G_q rfl (op_assign (av := .exact (.int .i64 y746.2)) rfl ?_)
          refine G_nil ?_
          refine kC_normal ?_
          refine k_ret ?_
          obtain rfl := Option.some.inj h
          refine kP_any (endN (af' := (AF.put (AF.put AF0 (some 2) (.exact (.string (bs y746.1)))) (some 3) (.exact (.int .i64 y746.2)))) (σ' := []) _ rfl ?_ ⟨rfl, rfl⟩)
          exact Sub.of_le (AF.le_put (AV.le_eq rfl) (AF.le_put (AV.le_eq rfl) (AF.le_top _)))
set_option maxHeartbeats 4000000 in
theorem m_ref9_Subsets_ok (a0 : List UInt8) (r : (List UInt8) × Int) (h : m_ref9_Subsets a0 = some r) : Pure Tryz.prog 48 [(.exact (.string (bs a0)))] (.tup [.exact (.string (bs r.1)), .exact (.int .i64 r.2)]) := by
  unfold m_ref9_Subsets at h
  refine Pure.ofFun (fun_of_awp Tryz.func48 rfl Tryz.ntmps48 (by simp) rfl (res2 rfl) fun E hE => k_end ?_)
  refine k_seq ?_
  refine k_reg .free hmixP (by kernel_rfl) ?_
  refine G_q rfl (op_assign (av := .exact (.string (bs ([] : List UInt8)))) rfl ?_)
  refine G_q rfl (op_assign (av := .exact (.int .i64 0)) rfl ?_)
  refine G_nil ?_
  refine kC_normal ?_
  refine k_seq ?_
  refine k_seq ?_
  refine k_reg .free hmixP (by kernel_rfl) ?_
  refine G_q rfl (op_move (av := .exact (.string (bs a0))) rfl ?_)
  refine G_q rfl (op_litT (n := 1) (enc := c_api_Value) [a0] (CellsAll.cons rfl CellsOf.str CellsAll.nil) rfl (by kernel_rfl) (LEss.cons (LEs.cons (AV.le_eq rfl) LEs.nil) LEss.nil) ?_)
  obtain ⟨y1, hy1, h⟩ := bnd1_some h
  refine G_q rfl (op_pure (m_ref9_sets_ok _ _ hy1) Tryz.func74 (by kernel_rfl) (LEs.cons (AV.le_eq rfl) LEs.nil) ?_)
  refine G_q rfl (op_not rfl ?_)
  refine G_nil ?_
  refine kC_normal ?_
  refine k_cond_b (c := !y1) rfl (fun hc => ?_) (fun hc => ?_)
  · replace h := ite_t h hc
    refine k_seq ?_
    refine k_reg .free hmixP (by kernel_rfl) ?_
    refine G_q rfl (op_assign (av := .exact (.string (bs ([] : List UInt8)))) rfl ?_)
    refine G_q rfl (op_assign (av := .exact (.int .i64 6)) rfl ?_)
    refine G_nil ?_
    refine kC_normal ?_
    refine k_ret ?_
    refine kC_ret ?_
    obtain rfl := Option.some.inj h
    refine kP_any (endN (af' := (AF.put (AF.put AF0 (some 2) (.exact (.string (bs ([] : List UInt8))))) (some 3) (.exact (.int .i64 6)))) (σ' := []) _ rfl ?_ ⟨rfl, rfl⟩)
    exact Sub.of_le (AF.le_put (AV.le_eq rfl) (AF.le_put (AV.le_eq rfl) (AF.le_top _)))
  · replace h := ite_f h hc
    refine k_skip ?_
    refine kC_normal ?_
    refine k_seq ?_
    refine k_reg .free hmixP (by kernel_rfl) ?_
    refine G_q rfl (op_move (av := .exact (.string (bs a0))) rfl ?_)
    obtain ⟨y2, hy2, h⟩ := bnd1_some h
    refine G_q rfl (op_pure (m_ref9_Parts_fz _ _ hy2) Tryz.func28 (by kernel_rfl) (LEs.cons (AV.le_eq rfl) LEs.nil) ?_)
    refine G_q rfl (op_assign (av := .row 1 c_api_Value y2) rfl ?_)
    refine G_nil ?_
    refine kC_normal ?_
    refine k_seq ?_
    refine k_seq ?_
    refine k_reg .free hmixP (by kernel_rfl) ?_
    refine G_q rfl (op_move (av := .row 1 c_api_Value y2) rfl ?_)
    refine G_q rfl (op_len_row (by kernel_rfl) rfl ?_)
    refine G_q rfl (op_gtr rfl rfl ?_)
    refine G_nil ?_
    refine kC_normal ?_
    refine k_cond_d (p := 12 < (List.length y2 : Int)) rfl (fun hc => ?_) (fun hc => ?_)
    · replace h := ite_t h hc
      refine k_seq ?_
      refine k_reg .free hmixP (by kernel_rfl) ?_
      refine G_q rfl (op_assign (av := .exact (.string (bs ([] : List UInt8)))) rfl ?_)
      refine G_q rfl (op_assign (av := .exact (.int .i64 9)) rfl ?_)
      refine G_nil ?_
      refine kC_normal ?_
      refine k_ret ?_
      refine kC_ret ?_
      obtain rfl := Option.some.inj h
      refine kP_any (endN (af' := (AF.put (AF.put AF0 (some 2) (.exact (.string (bs ([] : List UInt8))))) (some 3) (.exact (.int .i64 9)))) (σ' := []) _ rfl ?_ ⟨rfl, rfl⟩)
      exact Sub.of_le (AF.le_put (AV.le_eq rfl) (AF.le_put (AV.le_eq rfl) (AF.le_top _)))
    · replace h := ite_f h hc
      refine k_skip ?_
      refine kC_normal ?_
      refine k_seq ?_
      refine k_reg .free hmixP (by kernel_rfl) ?_
      refine G_q rfl (op_assign (av := .exact (.slice none 0 0)) rfl ?_)
      refine G_nil ?_
      refine kC_normal ?_
      refine k_join1_1 h (fun (x5_j3 : List (List UInt8)) (v5_j3 : Value) => (AF.put AF0 (some 5) (.exact v5_j3))) (fun (x5_j3 : List (List UInt8)) (v5_j3 : Value) => [vecT Tryz.prog 33 1 c_api_Value v5_j3 x5_j3]) (fun k3 h => ?_) (fun x5_j3 v5_j3 h => ?_)
      · refine k_seq ?_
        refine k_reg .free hmixP (by kernel_rfl) ?_
        refine G_q rfl (op_assign (av := .exact (.int .i64 0)) rfl ?_)
        refine G_nil ?_
        refine kC_normal ?_
        refine k_block ?_
        refine k_loop2_1 (m_ref9_Subsets_L14 y2 k3) (m_ref9_Subsets_B14 y2 k3) (fun _ _ => rfl) (fun m _ _ => rfl) h (fun (x5_l14 : List (List UInt8)) (x6_l14 : Int) (v5_l14 : Value) => (AF.put (AF.put (AF.put AF0 (some 4) (.row 1 c_api_Value y2)) (some 5) (.exact v5_l14)) (some 6) (.exact (.int .i64 x6_l14)))) (fun (x5_l14 : List (List UInt8)) (x6_l14 : Int) (v5_l14 : Value) => [vecT Tryz.prog 33 1 c_api_Value v5_l14 x5_l14]) (.slice none 0 0) ?_ (fun rec14 x5_l14 x6_l14 v5_l14 h => ?_)
        · refine Sub.trans (SubU.to (SubU.nilT (P := Tryz.prog) (t := 33) (n := 1) (enc := c_api_Value))) ?_
          exact Sub.of_le (AF.le_put (AV.le_eq rfl) (AF.le_put (AV.le_eq rfl) (AF.le_put (AV.le_eq rfl) (AF.le_top _))))
        · unfold m_ref9_Subsets_B14 at h
          refine k_seq ?_
          refine k_seq ?_
          refine k_reg .free hmixP (by kernel_rfl) ?_
          refine G_q rfl (op_move (av := .exact (.int .i64 x6_l14)) rfl ?_)
          refine G_q rfl (op_move (av := .row 1 c_api_Value y2) rfl ?_)
          refine G_q rfl (op_len_row (by kernel_rfl) rfl ?_)
          refine G_q rfl (op_convInt (k := .u64) (by kernel_rfl) rfl rfl ?_)
          obtain ⟨n615, h⟩ := need_some h
          refine G_q rfl (op_shl rfl rfl n615 rfl ?_)
          refine G_q rfl (op_lss rfl rfl ?_)
          refine G_nil ?_
          refine kC_normal ?_
          refine k_cond_d (p := x6_l14 < (i64 (1 * 2 ^ min (Int.toNat (IntKind.u64.wrap ((List.length y2 : Int)))) IntKind.i64.bits))) rfl (fun hc => ?_) (fun hc => ?_)
          · replace h := ite_t h hc
            refine k_skip ?_
            refine kC_normal ?_
            refine k_join1_1 h (fun (x5_j616 : List (List UInt8)) (v5_j616 : Value) => (AF.put (AF.put (AF.put AF0 (some 4) (.row 1 c_api_Value y2)) (some 5) (.exact v5_j616)) (some 6) (.exact (.int .i64 x6_l14)))) (fun (x5_j616 : List (List UInt8)) (v5_j616 : Value) => [vecT Tryz.prog 33 1 c_api_Value v5_j616 x5_j616]) (fun k616 h => ?_) (fun x5_j616 v5_j616 h => ?_)
            · refine k_block ?_
              refine k_seq ?_
              refine k_reg .free hmixP (by kernel_rfl) ?_
              refine G_q rfl (op_assign (av := .exact (.slice none 0 0)) rfl ?_)
              refine G_nil ?_
              refine kC_normal ?_
              refine k_join1_1 h (fun (x7_j677 : List (List UInt8)) (v7_j677 : Value) => (AF.put (AF.put (AF.put (AF.put AF0 (some 4) (.row 1 c_api_Value y2)) (some 5) (.exact v5_l14)) (some 6) (.exact (.int .i64 x6_l14))) (some 7) (.exact v7_j677))) (fun (x7_j677 : List (List UInt8)) (v7_j677 : Value) => [vecT Tryz.prog 33 1 c_api_Value v5_l14 x5_l14, vecT Tryz.prog 33 1 c_api_Value v7_j677 x7_j677]) (fun k677 h => ?_) (fun x7_j677 v7_j677 h => ?_)
              · refine k_seq ?_
                refine k_reg .free hmixP (by kernel_rfl) ?_
                refine G_q rfl (op_assign (av := .exact (.int .i64 0)) rfl ?_)
                refine G_nil ?_
                refine kC_normal ?_
                refine k_block ?_
                refine k_loop2_1 (m_ref9_Subsets_L26 y2 x6_l14 k677) (m_ref9_Subsets_B26 y2 x6_l14 k677) (fun _ _ => rfl) (fun m _ _ => rfl) h (fun (x7_l26 : List (List UInt8)) (x8_l26 : Int) (v7_l26 : Value) => (AF.put (AF.put (AF.put (AF.put (AF.put AF0 (some 4) (.row 1 c_api_Value y2)) (some 5) (.exact v5_l14)) (some 6) (.exact (.int .i64 x6_l14))) (some 7) (.exact v7_l26)) (some 8) (.exact (.int .i64 x8_l26)))) (fun (x7_l26 : List (List UInt8)) (x8_l26 : Int) (v7_l26 : Value) => [vecT Tryz.prog 33 1 c_api_Value v5_l14 x5_l14, vecT Tryz.prog 33 1 c_api_Value v7_l26 x7_l26]) (.slice none 0 0) ?_ (fun rec26 x7_l26 x8_l26 v7_l26 h => ?_)
                · refine Sub.trans (SubU.to (SubU.nilT (P := Tryz.prog) (t := 33) (n := 1) (enc := c_api_Value))) ?_
                  refine Sub.trans (SubU.to SubU.f1) ?_
                  exact Sub.of_le (AF.le_put (AV.le_eq rfl) (AF.le_put (AV.le_eq rfl) (AF.le_put (AV.le_eq rfl) (AF.le_put (AV.le_eq rfl) (AF.le_put (AV.le_eq rfl) (AF.le_top _))))))
                · unfold m_ref9_Subsets_B26 at h
                  refine k_seq ?_
                  refine k_seq ?_
                  refine k_reg .free hmixP (by kernel_rfl) ?_
                  refine G_q rfl (op_move (av := .exact (.int .i64 x8_l26)) rfl ?_)
                  refine G_q rfl (op_move (av := .row 1 c_api_Value y2) rfl ?_)
                  refine G_q rfl (op_len_row (by kernel_rfl) rfl ?_)
                  refine G_q rfl (op_lss rfl rfl ?_)
                  refine G_nil ?_
                  refine kC_normal ?_
                  refine k_cond_d (p := x8_l26 < (List.length y2 : Int)) rfl (fun hc => ?_) (fun hc => ?_)
                  · replace h := ite_t h hc
                    refine k_skip ?_
                    refine kC_normal ?_
                    refine k_join1_1 h (fun (x7_j724 : List (List UInt8)) (v7_j724 : Value) => (AF.put (AF.put (AF.put (AF.put (AF.put AF0 (some 4) (.row 1 c_api_Value y2)) (some 5) (.exact v5_l14)) (some 6) (.exact (.int .i64 x6_l14))) (some 7) (.exact v7_j724)) (some 8) (.exact (.int .i64 x8_l26)))) (fun (x7_j724 : List (List UInt8)) (v7_j724 : Value) => [vecT Tryz.prog 33 1 c_api_Value v5_l14 x5_l14, vecT Tryz.prog 33 1 c_api_Value v7_j724 x7_j724]) (fun k724 h => ?_) (fun x7_j724 v7_j724 h => ?_)
                    · refine k_block ?_
                      refine k_seq ?_
                      refine k_reg .free hmixP (by kernel_rfl) ?_
                      refine G_q rfl (op_move (av := .exact (.int .i64 x6_l14)) rfl ?_)
                      refine G_q rfl (op_move (av := .exact (.int .i64 x8_l26)) rfl ?_)
                      refine G_q rfl (op_convInt (k := .u64) (by kernel_rfl) rfl rfl ?_)
                      obtain ⟨n729, h⟩ := need_some h
                      refine G_q rfl (op_shr rfl rfl n729 rfl ?_)
                      refine G_q rfl (op_and rfl rfl rfl ?_)
                      refine G_q rfl (op_eql rfl rfl ?_)
                      refine G_nil ?_
                      refine kC_normal ?_
                      refine k_cond_d (p := (bAnd .i64 (Int.fdiv x6_l14 (2 ^ min (Int.toNat (IntKind.u64.wrap (x8_l26))) IntKind.i64.bits)) 1) = 1) rfl (fun hc => ?_) (fun hc => ?_)
                      · replace h := ite_t h hc
                        refine k_reg .free hmixP (by kernel_rfl) ?_
                        refine G_q rfl (op_move (av := .exact v7_l26) rfl ?_)
                        refine G_q rfl (op_move (av := .row 1 c_api_Value y2) rfl ?_)
                        refine G_q rfl (op_move (av := .exact (.int .i64 x8_l26)) rfl ?_)
                        obtain ⟨n730, h⟩ := need_some h
                        refine G_q rfl (op_index_row (by kernel_rfl) rfl rfl n730.1 n730.2 ?_)
                        refine G_q rfl (op_load1p (a := .exact (.string (bs (gi y2 x8_l26)))) (by kernel_rfl) rfl rfl ?_)
                        refine G_q rfl (op_litT (n := 1) (enc := c_api_Value) [gi y2 x8_l26] (CellsAll.cons rfl CellsOf.str CellsAll.nil) rfl (by kernel_rfl) (LEss.cons (LEs.cons (AV.le_eq rfl) LEs.nil) LEss.nil) ?_)
                        obtain ⟨n731, h⟩ := need_some h
                        refine G_l rfl (opB_f1 (op_appT (by kernel_rfl) rfl rfl oc_c_api_Value n731 (fun v732 => ?_)))
                        refine G_q rfl (op_assign (av := .exact v732) rfl ?_)
                        refine G_nil ?_
                        refine kB_normal ?_
                        refine kI_normal ⟨_, v732, h, ?_⟩
                        refine Sub.trans (SubU.to SubU.f1) ?_
                        exact Sub.of_le (AF.le_put (AV.le_eq rfl) (AF.le_put (AV.le_eq rfl) (AF.le_put (AV.le_eq rfl) (AF.le_put (AV.le_eq rfl) (AF.le_put (AV.le_eq rfl) (AF.le_top _))))))
                      · replace h := ite_f h hc
                        refine k_skip ?_
                        refine kB_normal ?_
                        refine kI_normal ⟨_, v7_l26, h, ?_⟩
                        exact Sub.of_le (AF.le_put (AV.le_eq rfl) (AF.le_put (AV.le_eq rfl) (AF.le_put (AV.le_eq rfl) (AF.le_put (AV.le_eq rfl) (AF.le_put (AV.le_eq rfl) (AF.le_top _))))))
                    · refine k_reg .free hmixP (by kernel_rfl) ?_
                      refine G_q rfl (op_move (av := .exact (.int .i64 x8_l26)) rfl ?_)
                      refine G_q rfl (op_add rfl rfl rfl ?_)
                      refine G_q rfl (op_assign (av := .exact (.int .i64 (i64 (x8_l26 + 1)))) rfl ?_)
                      refine G_nil ?_
                      refine kI_normal ⟨_, _, v7_j724, h, ?_⟩
                      exact Sub.of_le (AF.le_put (AV.le_eq rfl) (AF.le_put (AV.le_eq rfl) (AF.le_put (AV.le_eq rfl) (AF.le_put (AV.le_eq rfl) (AF.le_put (AV.le_eq rfl) (AF.le_top _))))))
                  · replace h := ite_f h hc
                    refine k_exit ?_
                    refine kC_exit ?_
                    refine kI_exit ?_
                    refine kB_exit ?_
                    refine kI_normal ⟨_, v7_l26, h, ?_⟩
                    exact Sub.of_le (AF.le_put (AV.le_eq rfl) (AF.le_put (AV.le_eq rfl) (AF.le_put (AV.le_eq rfl) (AF.le_put (AV.le_eq rfl) (AF.le_top _)))))
              · refine k_reg .free hmixP (by kernel_rfl) ?_
                refine G_q rfl (op_move (av := .exact v5_l14) rfl ?_)
                refine G_q rfl (op_move (av := .exact v7_j677) rfl ?_)
                refine G_sub rfl (SubU.trans SubU.f1 (SubU.freezeT2 (s1 := 7) (s2 := 46) rfl rfl len_c_api_Value)) ?_
                obtain ⟨y733, hy733, h⟩ := bnd1_some h
                refine G_q rfl (op_pure (m_ref9_Set_ok _ _ hy733) Tryz.func24 (by kernel_rfl) (LEs.cons (AV.le_eq rfl) LEs.nil) ?_)
                refine G_q rfl (op_litT (n := 1) (enc := c_api_Value) [y733] (CellsAll.cons rfl CellsOf.str CellsAll.nil) rfl (by kernel_rfl) (LEss.cons (LEs.cons (AV.le_eq rfl) LEs.nil) LEss.nil) ?_)
                obtain ⟨n734, h⟩ := need_some h
                refine G_l rfl (op_appT (by kernel_rfl) rfl rfl oc_c_api_Value n734 (fun v735 => ?_))
                refine G_q rfl (op_assign (av := .exact v735) rfl ?_)
                refine G_nil ?_
                refine kB_normal ?_
                refine kI_normal ⟨_, v735, h, ?_⟩
                exact Sub.of_le (AF.le_put (AV.le_eq rfl) (AF.le_put (AV.le_eq rfl) (AF.le_put (AV.le_eq rfl) (AF.le_top _))))
            · refine k_reg .free hmixP (by kernel_rfl) ?_
              refine G_q rfl (op_move (av := .exact (.int .i64 x6_l14)) rfl ?_)
              refine G_q rfl (op_add rfl rfl rfl ?_)
              refine G_q rfl (op_assign (av := .exact (.int .i64 (i64 (x6_l14 + 1)))) rfl ?_)
              refine G_nil ?_
              refine kI_normal ⟨_, _, v5_j616, h, ?_⟩
              exact Sub.of_le (AF.le_put (AV.le_eq rfl) (AF.le_put (AV.le_eq rfl) (AF.le_put (AV.le_eq rfl) (AF.le_top _))))
          · replace h := ite_f h hc
            refine k_exit ?_
            refine kC_exit ?_
            refine kI_exit ?_
            refine kB_exit ?_
            refine kI_normal ⟨_, v5_l14, h, ?_⟩
            exact Sub.of_le (AF.le_put (AV.le_eq rfl) (AF.le_top _))
      · refine k_seq ?_
        refine k_reg .free hmixP (by kernel_rfl) ?_
        refine G_q rfl (op_move (av := .exact v5_j3) rfl ?_)
        refine G_sub rfl (SubU.freezeT2 (s1 := 5) (s2 := 50) rfl rfl len_c_api_Value) ?_
        obtain ⟨y736, hy736, h⟩ := bnd1_some h
        refine G_q rfl (op_pure (m_ref9_bounded_ok _ _ hy736) Tryz.func75 (by kernel_rfl) (LEs.cons (AV.le_eq rfl) LEs.nil) ?_)
        refine G_q rfl (op_extract (av := .exact (.string (bs y736.1))) rfl rfl ?_)
        refine G_q rfl (op_extract (av := .exact (.int .i64 y736.2)) rfl rfl ?_)
        refine G_q rfl (op_assign (av := .exact (.string (bs y736.1))) rfl ?_)
        refine G_q rfl (op_assign (av := .exact (.int .i64 y736.2)) rfl ?_)
        refine G_nil ?_
        refine kC_normal ?_
        refine k_ret ?_
        obtain rfl := Option.some.inj h
        refine kP_any (endN (af' := (AF.put (AF.put AF0 (some 2) (.exact (.string (bs y736.1)))) (some 3) (.exact (.int .i64 y736.2)))) (σ' := []) _ rfl ?_ ⟨rfl, rfl⟩)
        exact Sub.of_le (AF.le_put (AV.le_eq rfl) (AF.le_put (AV.le_eq rfl) (AF.le_top _)))
set_option maxHeartbeats 4000000 in
theorem m_finset_pairs_ok (a0 : List UInt8) (r : (List (List UInt8)) × (List (List UInt8)) × Int) (h : m_finset_pairs a0 = some r) : Pure Tryz.prog 53 [(.exact (.string (bs a0)))] (.tup [.row 1 c_api_Value r.1, .row 1 c_api_Value r.2.1, .exact (.int .i64 r.2.2)]) := by
  unfold m_finset_pairs at h
  refine Pure.ofFun (fun_of_awp Tryz.func53 rfl Tryz.ntmps53 (by simp) rfl (res3 rfl) fun E hE => k_end ?_)
  refine k_seq ?_
  refine k_reg .free hmixP (by kernel_rfl) ?_
  refine G_q rfl (op_assign (av := .exact (.slice none 0 0)) rfl ?_)
  refine G_q rfl (op_assign (av := .exact (.slice none 0 0)) rfl ?_)
  refine G_q rfl (op_assign (av := .exact (.int .i64 0)) rfl ?_)
  refine G_nil ?_
  refine kC_normal ?_
  refine k_seq ?_
  refine k_seq ?_
  refine k_reg .free hmixP (by kernel_rfl) ?_
  refine G_q rfl (op_move (av := .exact (.string (bs a0))) rfl ?_)
  obtain ⟨y1, hy1, h⟩ := bnd1_some h
  refine G_q rfl (op_pure (m_value_Kind_ok _ _ hy1) Tryz.func81 (by kernel_rfl) (LEs.cons (AV.le_eq rfl) LEs.nil) ?_)
  refine G_q rfl (op_neq rfl rfl ?_)
  refine G_nil ?_
  refine kC_normal ?_
  refine k_cond_d (p := ¬ y1 = 6) rfl (fun hc => ?_) (fun hc => ?_)
  · replace h := ite_t h hc
    refine k_seq ?_
    refine k_reg .free hmixP (by kernel_rfl) ?_
    refine G_q rfl (op_assign (av := .exact (.slice none 0 0)) rfl ?_)
    refine G_q rfl (op_assign (av := .exact (.slice none 0 0)) rfl ?_)
    refine G_q rfl (op_assign (av := .exact (.int .i64 6)) rfl ?_)
    refine G_nil ?_
    refine kC_normal ?_
    refine k_ret ?_
    refine kC_ret ?_
    obtain rfl := Option.some.inj h
    refine kP_any (endN (af' := (AF.put (AF.put (AF.put AF0 (some 2) (.row 1 c_api_Value [])) (some 3) (.row 1 c_api_Value [])) (some 4) (.exact (.int .i64 6)))) (σ' := []) _ rfl ?_ ⟨rfl, rfl⟩)
    exact Sub.of_le (AF.le_put (AV.le_eq rfl) (AF.le_put (row_nil (by decide)) (AF.le_put (row_nil (by decide)) (AF.le_top _))))
  · replace h := ite_f h hc
    refine k_skip ?_
    refine kC_normal ?_
    refine k_seq ?_
    refine k_reg .free hmixP (by kernel_rfl) ?_
    refine G_q rfl (op_move (av := .exact (.string (bs a0))) rfl ?_)
    obtain ⟨y2, hy2, h⟩ := bnd1_some h
    refine G_q rfl (op_pure (m_value_Parts_ok _ _ hy2) Tryz.func82 (by kernel_rfl) (LEs.cons (AV.le_eq rfl) LEs.nil) ?_)
    refine G_q rfl (op_assign (av := .row 1 c_api_Value y2) rfl ?_)
    refine G_nil ?_
    refine kC_normal ?_
    refine k_join2_2 h (fun (x2_j3 : List (List UInt8)) (x3_j3 : List (List UInt8)) (v2_j3 : Value) (v3_j3 : Value) => (AF.put (AF.put AF0 (some 2) (.exact v2_j3)) (some 3) (.exact v3_j3))) (fun (x2_j3 : List (List UInt8)) (x3_j3 : List (List UInt8)) (v2_j3 : Value) (v3_j3 : Value) => [vecT Tryz.prog 33 1 c_api_Value v2_j3 x2_j3, vecT Tryz.prog 33 1 c_api_Value v3_j3 x3_j3]) (fun k3 h => ?_) (fun x2_j3 x3_j3 v2_j3 v3_j3 h => ?_)
    · refine k_seq ?_
      refine k_reg .free hmixP (by kernel_rfl) ?_
      refine G_q rfl (op_assign (av := .exact (.int .i64 0)) rfl ?_)
      refine G_nil ?_
      refine kC_normal ?_
      refine k_block ?_
      refine k_loop3_2 (m_finset_pairs_L2 y2 k3) (m_finset_pairs_B2 y2 k3) (fun _ _ _ => rfl) (fun m _ _ _ => rfl) h (fun (x2_l2 : List (List UInt8)) (x3_l2 : List (List UInt8)) (x6_l2 : Int) (v2_l2 : Value) (v3_l2 : Value) => (AF.put (AF.put (AF.put (AF.put AF0 (some 2) (.exact v2_l2)) (some 3) (.exact v3_l2)) (some 5) (.row 1 c_api_Value y2)) (some 6) (.exact (.int .i64 x6_l2)))) (fun (x2_l2 : List (List UInt8)) (x3_l2 : List (List UInt8)) (x6_l2 : Int) (v2_l2 : Value) (v3_l2 : Value) => [vecT Tryz.prog 33 1 c_api_Value v2_l2 x2_l2, vecT Tryz.prog 33 1 c_api_Value v3_l2 x3_l2]) (.slice none 0 0) (.slice none 0 0) ?_ (fun rec2 x2_l2 x3_l2 x6_l2 v2_l2 v3_l2 h => ?_)
      · refine Sub.trans (SubU.to (SubU.nilT (P := Tryz.prog) (t := 33) (n := 1) (enc := c_api_Value))) ?_
        refine Sub.trans (SubU.to (SubU.nilT (P := Tryz.prog) (t := 33) (n := 1) (enc := c_api_Value))) ?_
        refine Sub.trans (SubU.to SubU.f1) ?_
        exact Sub.of_le (AF.le_put (AV.le_eq rfl) (AF.le_put (AV.le_eq rfl) (AF.le_put (AV.le_eq rfl) (AF.le_put (AV.le_eq rfl) (AF.le_top _)))))
      · unfold m_finset_pairs_B2 at h
        refine k_seq ?_
        refine k_seq ?_
        refine k_reg .free hmixP (by kernel_rfl) ?_
        refine G_q rfl (op_move (av := .exact (.int .i64 x6_l2)) rfl ?_)
        refine G_q rfl (op_move (av := .row 1 c_api_Value y2) rfl ?_)
        refine G_q rfl (op_len_row (by kernel_rfl) rfl ?_)
        refine G_q rfl (op_lss rfl rfl ?_)
        refine G_nil ?_
        refine kC_normal ?_
        refine k_cond_d (p := x6_l2 < (List.length y2 : Int)) rfl (fun hc => ?_) (fun hc => ?_)
        · replace h := ite_t h hc
          refine k_skip ?_
          refine kC_normal ?_
          refine k_seq ?_
          refine k_block ?_
          refine k_seq ?_
          refine k_reg .free hmixP (by kernel_rfl) ?_
          refine G_q rfl (op_move (av := .exact v2_l2) rfl ?_)
          refine G_q rfl (op_move (av := .row 1 c_api_Value y2) rfl ?_)
          refine G_q rfl (op_move (av := .exact (.int .i64 x6_l2)) rfl ?_)
          obtain ⟨n35, h⟩ := need_some h
          refine G_q rfl (op_index_row (by kernel_rfl) rfl rfl n35.1 n35.2 ?_)
          refine G_q rfl (op_load1p (a := .exact (.string (bs (gi y2 x6_l2)))) (by kernel_rfl) rfl rfl ?_)
          refine G_q rfl (op_litT (n := 1) (enc := c_api_Value) [gi y2 x6_l2] (CellsAll.cons rfl CellsOf.str CellsAll.nil) rfl (by kernel_rfl) (LEss.cons (LEs.cons (AV.le_eq rfl) LEs.nil) LEss.nil) ?_)
          obtain ⟨n36, h⟩ := need_some h
          refine G_l rfl (op_appT (by kernel_rfl) rfl rfl oc_c_api_Value n36 (fun v37 => ?_))
          refine G_q rfl (op_assign (av := .exact v37) rfl ?_)
          refine G_nil ?_
          refine kC_normal ?_
          refine k_reg .free hmixP (by kernel_rfl) ?_
          refine G_q rfl (op_move (av := .exact v3_l2) rfl ?_)
          refine G_q rfl (op_move (av := .row 1 c_api_Value y2) rfl ?_)
          refine G_q rfl (op_move (av := .exact (.int .i64 x6_l2)) rfl ?_)
          refine G_q rfl (op_add rfl rfl rfl ?_)
          obtain ⟨n38, h⟩ := need_some h
          refine G_q rfl (op_index_row (by kernel_rfl) rfl rfl n38.1 n38.2 ?_)
          refine G_q rfl (op_load1p (a := .exact (.string (bs (gi y2 (i64 (x6_l2 + 1)))))) (by kernel_rfl) rfl rfl ?_)
          refine G_q rfl (op_litT (n := 1) (enc := c_api_Value) [gi y2 (i64 (x6_l2 + 1))] (CellsAll.cons rfl CellsOf.str CellsAll.nil) rfl (by kernel_rfl) (LEss.cons (LEs.cons (AV.le_eq rfl) LEs.nil) LEss.nil) ?_)
          obtain ⟨n39, h⟩ := need_some h
          refine G_l rfl (opB_f1 (op_appT (by kernel_rfl) rfl rfl oc_c_api_Value n39 (fun v40 => ?_)))
          refine G_q rfl (op_assign (av := .exact v40) rfl ?_)
          refine G_nil ?_
          refine kB_normal ?_
          refine kC_normal ?_
          refine k_reg .free hmixP (by kernel_rfl) ?_
          refine G_q rfl (op_move (av := .exact (.int .i64 x6_l2)) rfl ?_)
          refine G_q rfl (op_add rfl rfl rfl ?_)
          refine G_q rfl (op_assign (av := .exact (.int .i64 (i64 (x6_l2 + 2)))) rfl ?_)
          refine G_nil ?_
          refine kI_normal ⟨_, _, _, v37, v40, h, ?_⟩
          refine Sub.trans (SubU.to SubU.f1) ?_
          exact Sub.of_le (AF.le_put (AV.le_eq rfl) (AF.le_put (AV.le_eq rfl) (AF.le_put (AV.le_eq rfl) (AF.le_put (AV.le_eq rfl) (AF.le_top _)))))
        · replace h := ite_f h hc
          refine k_exit ?_
          refine kC_exit ?_
          refine kI_exit ?_
          refine kB_exit ?_
          refine kI_normal ⟨_, _, v2_l2, v3_l2, h, ?_⟩
          exact Sub.of_le (AF.le_put (AV.le_eq rfl) (AF.le_put (AV.le_eq rfl) (AF.le_top _)))
    · refine k_seq ?_
      refine k_reg .free hmixP (by kernel_rfl) ?_
      refine G_q rfl (op_move (av := .exact v2_j3) rfl ?_)
      refine G_q rfl (op_move (av := .exact v3_j3) rfl ?_)
      refine G_q rfl (op_assign (av := .exact v2_j3) rfl ?_)
      refine G_q rfl (op_assign (av := .exact v3_j3) rfl ?_)
      refine G_q rfl (op_assign (av := .exact (.int .i64 0)) rfl ?_)
      refine G_nil ?_
      refine kC_normal ?_
      refine k_ret ?_
      obtain rfl := Option.some.inj h
      refine kP_any (endN (af' := (AF.put (AF.put (AF.put AF0 (some 2) (.row 1 c_api_Value x2_j3)) (some 3) (.row 1 c_api_Value x3_j3)) (some 4) (.exact (.int .i64 0)))) (σ' := []) _ rfl ?_ ⟨rfl, rfl⟩)
      refine Sub.trans (SubU.to (SubU.freezeT (s := 2) rfl len_c_api_Value)) ?_
      refine Sub.trans (SubU.to (SubU.freezeT (s := 3) rfl len_c_api_Value)) ?_
      exact Sub.of_le (AF.le_put (AV.le_eq rfl) (AF.le_put (AV.le_eq rfl) (AF.le_put (AV.le_eq rfl) (AF.le_top _))))
set_option maxHeartbeats 4000000 in
theorem m_finset_Keys_ok (a0 : List UInt8) (r : (List UInt8) × Int) (h : m_finset_Keys a0 = some r) : Pure Tryz.prog 49 [(.exact (.string (bs a0)))] (.tup [.exact (.string (bs r.1)), .exact (.int .i64 r.2)]) := by
  unfold m_finset_Keys at h
  refine Pure.ofFun (fun_of_awp Tryz.func49 rfl Tryz.ntmps49 (by simp) rfl (res2 rfl) fun E hE => k_end ?_)
  refine k_seq ?_
  refine k_reg .free hmixP (by kernel_rfl) ?_
  refine G_q rfl (op_assign (av := .exact (.string (bs ([] : List UInt8)))) rfl ?_)
  refine G_q rfl (op_assign (av := .exact (.int .i64 0)) rfl ?_)
  refine G_nil ?_
  refine kC_normal ?_
  refine k_seq ?_
  refine k_reg .free hmixP (by kernel_rfl) ?_
  refine G_q rfl (op_move (av := .exact (.string (bs a0))) rfl ?_)
  obtain ⟨y1, hy1, h⟩ := bnd1_some h
  refine G_q rfl (op_pure (m_finset_pairs_ok _ _ hy1) Tryz.func53 (by kernel_rfl) (LEs.cons (AV.le_eq rfl) LEs.nil) ?_)
  refine G_q rfl (op_move (av := .tup [.row 1 c_api_Value y1.1, .row 1 c_api_Value y1.2.1, .exact (.int .i64 y1.2.2)]) rfl ?_)
  refine G_q rfl (op_extract (av := .row 1 c_api_Value y1.1) rfl rfl ?_)
  refine G_q rfl (op_extract (av := .row 1 c_api_Value y1.2.1) rfl rfl ?_)
  refine G_q rfl (op_extract (av := .exact (.int .i64 y1.2.2)) rfl rfl ?_)
  refine G_q rfl (op_assign (av := .row 1 c_api_Value y1.1) rfl ?_)
  refine G_q rfl (op_assign (av := .row 1 c_api_Value y1.2.1) rfl ?_)
  refine G_q rfl (op_assign (av := .exact (.int .i64 y1.2.2)) rfl ?_)
  refine G_nil ?_
  refine kC_normal ?_
  refine k_seq ?_
  refine k_seq ?_
  refine k_reg .free hmixP (by kernel_rfl) ?_
  refine G_q rfl (op_move (av := .exact (.int .i64 y1.2.2)) rfl ?_)
  refine G_q rfl (op_neq rfl rfl ?_)
  refine G_nil ?_
  refine kC_normal ?_
  refine k_cond_d (p := ¬ y1.2.2 = 0) rfl (fun hc => ?_) (fun hc => ?_)
  · replace h := ite_t h hc
    refine k_seq ?_
    refine k_reg .free hmixP (by kernel_rfl) ?_
    refine G_q rfl (op_move (av := .exact (.int .i64 y1.2.2)) rfl ?_)
    refine G_q rfl (op_assign (av := .exact (.string (bs ([] : List UInt8)))) rfl ?_)
    refine G_q rfl (op_assign (av := .exact (.int .i64 y1.2.2)) rfl ?_)
    refine G_nil ?_
    refine kC_normal ?_
    refine k_ret ?_
    refine kC_ret ?_
    obtain rfl := Option.some.inj h
    refine kP_any (endN (af' := (AF.put (AF.put AF0 (some 2) (.exact (.string (bs ([] : List UInt8))))) (some 3) (.exact (.int .i64 y1.2.2)))) (σ' := []) _ rfl ?_ ⟨rfl, rfl⟩)
    exact Sub.of_le (AF.le_put (AV.le_eq rfl) (AF.le_put (AV.le_eq rfl) (AF.le_top _)))
  · replace h := ite_f h hc
    refine k_skip ?_
    refine kC_normal ?_
    refine k_seq ?_
    refine k_reg .free hmixP (by kernel_rfl) ?_
    refine G_q rfl (op_move (av := .row 1 c_api_Value y1.1) rfl ?_)
    obtain ⟨y2, hy2, h⟩ := bnd1_some h
    refine G_q rfl (op_pure (m_finset_set_ok _ _ hy2) Tryz.func65 (by kernel_rfl) (LEs.cons (AV.le_eq rfl) LEs.nil) ?_)
    refine G_q rfl (op_extract (av := .exact (.string (bs y2.1))) rfl rfl ?_)
    refine G_q rfl (op_extract (av := .exact (.int .i64 y2.2)) rfl rfl ?_)
    refine G_q rfl (op_assign (av := .exact (.string (bs y2.1))) rfl ?_)
    refine G_q rfl (op_assign (av := .exact (.int .i64 y2.2)) rfl ?_)
    refine G_nil ?_
    refine kC_normal ?_
    refine k_ret ?_
    obtain rfl := Option.some.inj h
    refine kP_any (endN (af' := (AF.put (AF.put AF0 (some 2) (.exact (.string (bs y2.1)))) (some 3) (.exact (.int .i64 y2.2)))) (σ' := []) _ rfl ?_ ⟨rfl, rfl⟩)
    exact Sub.of_le (AF.le_put (AV.le_eq rfl) (AF.le_put (AV.le_eq rfl) (AF.le_top _)))
set_option maxHeartbeats 4000000 in
theorem m_ref9_keyed_ok (a0 : List UInt8) (r : (List (List UInt8)) × (List (List UInt8))) (h : m_ref9_keyed a0 = some r) : Pure Tryz.prog 58 [(.exact (.string (bs a0)))] (.tup [.row 1 c_api_Value r.1, .row 1 c_api_Value r.2]) := by
  unfold m_ref9_keyed at h
  refine Pure.ofFun (fun_of_awp Tryz.func58 rfl Tryz.ntmps58 (by simp) rfl (res2 rfl) fun E hE => k_end ?_)
  refine k_seq ?_
  refine k_reg .free hmixP (by kernel_rfl) ?_
  refine G_q rfl (op_assign (av := .exact (.slice none 0 0)) rfl ?_)
  refine G_q rfl (op_assign (av := .exact (.slice none 0 0)) rfl ?_)
  refine G_nil ?_
  refine kC_normal ?_
  refine k_seq ?_
  refine k_reg .free hmixP (by kernel_rfl) ?_
  refine G_q rfl (op_move (av := .exact (.string (bs a0))) rfl ?_)
  obtain ⟨y1, hy1, h⟩ := bnd1_some h
  refine G_q rfl (op_pure (m_ref9_Parts_fz _ _ hy1) Tryz.func28 (by kernel_rfl) (LEs.cons (AV.le_eq rfl) LEs.nil) ?_)
  refine G_q rfl (op_assign (av := .row 1 c_api_Value y1) rfl ?_)
  refine G_nil ?_
  refine kC_normal ?_
  refine k_join2_2 h (fun (x2_j2 : List (List UInt8)) (x3_j2 : List (List UInt8)) (v2_j2 : Value) (v3_j2 : Value) => (AF.put (AF.put AF0 (some 2) (.exact v2_j2)) (some 3) (.exact v3_j2))) (fun (x2_j2 : List (List UInt8)) (x3_j2 : List (List UInt8)) (v2_j2 : Value) (v3_j2 : Value) => [vecT Tryz.prog 33 1 c_api_Value v2_j2 x2_j2, vecT Tryz.prog 33 1 c_api_Value v3_j2 x3_j2]) (fun k2 h => ?_) (fun x2_j2 x3_j2 v2_j2 v3_j2 h => ?_)
  · refine k_seq ?_
    refine k_reg .free hmixP (by kernel_rfl) ?_
    refine G_q rfl (op_assign (av := .exact (.int .i64 0)) rfl ?_)
    refine G_nil ?_
    refine kC_normal ?_
    refine k_block ?_
    refine k_loop3_2 (m_ref9_keyed_L2 y1 k2) (m_ref9_keyed_B2 y1 k2) (fun _ _ _ => rfl) (fun m _ _ _ => rfl) h (fun (x2_l2 : List (List UInt8)) (x3_l2 : List (List UInt8)) (x5_l2 : Int) (v2_l2 : Value) (v3_l2 : Value) => (AF.put (AF.put (AF.put (AF.put AF0 (some 2) (.exact v2_l2)) (some 3) (.exact v3_l2)) (some 4) (.row 1 c_api_Value y1)) (some 5) (.exact (.int .i64 x5_l2)))) (fun (x2_l2 : List (List UInt8)) (x3_l2 : List (List UInt8)) (x5_l2 : Int) (v2_l2 : Value) (v3_l2 : Value) => [vecT Tryz.prog 33 1 c_api_Value v2_l2 x2_l2, vecT Tryz.prog 33 1 c_api_Value v3_l2 x3_l2]) (.slice none 0 0) (.slice none 0 0) ?_ (fun rec2 x2_l2 x3_l2 x5_l2 v2_l2 v3_l2 h => ?_)
    · refine Sub.trans (SubU.to (SubU.nilT (P := Tryz.prog) (t := 33) (n := 1) (enc := c_api_Value))) ?_
      refine Sub.trans (SubU.to (SubU.nilT (P := Tryz.prog) (t := 33) (n := 1) (enc := c_api_Value))) ?_
      refine Sub.trans (SubU.to SubU.f1) ?_
      exact Sub.of_le (AF.le_put (AV.le_eq rfl) (AF.le_put (AV.le_eq rfl) (AF.le_put (AV.le_eq rfl) (AF.le_put (AV.le_eq rfl) (AF.le_top _)))))
    · unfold m_ref9_keyed_B2 at h
      refine k_seq ?_
      refine k_seq ?_
      refine k_reg .free hmixP (by kernel_rfl) ?_
      refine G_q rfl (op_move (av := .exact (.int .i64 x5_l2)) rfl ?_)
      refine G_q rfl (op_move (av := .row 1 c_api_Value y1) rfl ?_)
      refine G_q rfl (op_len_row (by kernel_rfl) rfl ?_)
      refine G_q rfl (op_lss rfl rfl ?_)
      refine G_nil ?_
      refine kC_normal ?_
      refine k_cond_d (p := x5_l2 < (List.length y1 : Int)) rfl (fun hc => ?_) (fun hc => ?_)
      · replace h := ite_t h hc
        refine k_skip ?_
        refine kC_normal ?_
        refine k_seq ?_
        refine k_block ?_
        refine k_plan [] [(0, 0), (0, 1), (0, 2), (0, 3), (0, 4), (0, 5), (0, 7), (0, 8), (0, 9), (0, 10), (0, 11), (0, 12), (0, 13), (2, 6), (2, 14), (0, 15), (0, 16)] hmixP (by kernel_rfl) ?_
        refine P_q no34_0 rfl (op_move (av := .exact v2_l2) rfl ?_)
        refine P_q no34_0 rfl (op_move (av := .row 1 c_api_Value y1) rfl ?_)
        refine P_q no34_0 rfl (op_move (av := .exact (.int .i64 x5_l2)) rfl ?_)
        obtain ⟨n34, h⟩ := need_some h
        refine P_q no34_0 rfl (op_index_row (by kernel_rfl) rfl rfl n34.1 n34.2 ?_)
        refine P_q no34_0 rfl (op_load1p (a := .exact (.string (bs (gi y1 x5_l2)))) (by kernel_rfl) rfl rfl ?_)
        refine P_q no34_0 rfl (op_litT (n := 1) (enc := c_api_Value) [gi y1 x5_l2] (CellsAll.cons rfl CellsOf.str CellsAll.nil) rfl (by kernel_rfl) (LEss.cons (LEs.cons (AV.le_eq rfl) LEs.nil) LEss.nil) ?_)
        refine P_q no34_0 rfl (op_move (av := .exact v3_l2) rfl ?_)
        refine P_q no34_0 rfl (op_move (av := .row 1 c_api_Value y1) rfl ?_)
        refine P_q no34_0 rfl (op_move (av := .exact (.int .i64 x5_l2)) rfl ?_)
        refine P_q no34_0 rfl (op_add rfl rfl rfl ?_)
        obtain ⟨n35, h⟩ := need_some h
        refine P_q no34_0 rfl (op_index_row (by kernel_rfl) rfl rfl n35.1 n35.2 ?_)
        refine P_q no34_0 rfl (op_load1p (a := .exact (.string (bs (gi y1 (i64 (x5_l2 + 1)))))) (by kernel_rfl) rfl rfl ?_)
        refine P_q no34_0 rfl (op_litT (n := 1) (enc := c_api_Value) [gi y1 (i64 (x5_l2 + 1))] (CellsAll.cons rfl CellsOf.str CellsAll.nil) rfl (by kernel_rfl) (LEss.cons (LEs.cons (AV.le_eq rfl) LEs.nil) LEss.nil) ?_)
        obtain ⟨n36, h⟩ := need_some h
        refine P_l rfl (op_appT (by kernel_rfl) rfl rfl oc_c_api_Value n36 (fun v37 => ?_))
        obtain ⟨n38, h⟩ := need_some h
        refine P_l rfl (opB_f1 (op_appT (by kernel_rfl) rfl rfl oc_c_api_Value n38 (fun v39 => ?_)))
        refine P_q no34_0 rfl (op_assign (av := .exact v37) rfl ?_)
        refine P_q no34_0 rfl (op_assign (av := .exact v39) rfl ?_)
        refine P_nil ?_
        refine kB_normal ?_
        refine kC_normal ?_
        refine k_reg .free hmixP (by kernel_rfl) ?_
        refine G_q rfl (op_move (av := .exact (.int .i64 x5_l2)) rfl ?_)
        refine G_q rfl (op_add rfl rfl rfl ?_)
        refine G_q rfl (op_assign (av := .exact (.int .i64 (i64 (x5_l2 + 2)))) rfl ?_)
        refine G_nil ?_
        refine kI_normal ⟨_, _, _, v37, v39, h, ?_⟩
        refine Sub.trans (SubU.to SubU.f1) ?_
        exact Sub.of_le (AF.le_put (AV.le_eq rfl) (AF.le_put (AV.le_eq rfl) (AF.le_put (AV.le_eq rfl) (AF.le_put (AV.le_eq rfl) (AF.le_top _)))))
      · replace h := ite_f h hc
        refine k_exit ?_
        refine kC_exit ?_
        refine kI_exit ?_
        refine kB_exit ?_
        refine kI_normal ⟨_, _, v2_l2, v3_l2, h, ?_⟩
        exact Sub.of_le (AF.le_put (AV.le_eq rfl) (AF.le_put (AV.le_eq rfl) (AF.le_top _)))
  · refine k_seq ?_
    refine k_reg .free hmixP (by kernel_rfl) ?_
    refine G_q rfl (op_move (av := .exact v2_j2) rfl ?_)
    refine G_q rfl (op_move (av := .exact v3_j2) rfl ?_)
    refine G_q rfl (op_assign (av := .exact v2_j2) rfl ?_)
    refine G_q rfl (op_assign (av := .exact v3_j2) rfl ?_)
    refine G_nil ?_
    refine kC_normal ?_
    refine k_ret ?_
    obtain rfl := Option.some.inj h
    refine kP_any (endN (af' := (AF.put (AF.put AF0 (some 2) (.row 1 c_api_Value x2_j2)) (some 3) (.row 1 c_api_Value x3_j2))) (σ' := []) _ rfl ?_ ⟨rfl, rfl⟩)
    refine Sub.trans (SubU.to (SubU.freezeT (s := 2) rfl len_c_api_Value)) ?_
    refine Sub.trans (SubU.to (SubU.freezeT (s := 3) rfl len_c_api_Value)) ?_
    exact Sub.of_le (AF.le_put (AV.le_eq rfl) (AF.le_put (AV.le_eq rfl) (AF.le_top _)))
set_option maxHeartbeats 4000000 in
theorem m_ref9_Keys_ok (a0 : List UInt8) (r : (List UInt8) × Int) (h : m_ref9_Keys a0 = some r) : Pure Tryz.prog 50 [(.exact (.string (bs a0)))] (.tup [.exact (.string (bs r.1)), .exact (.int .i64 r.2)]) := by
  unfold m_ref9_Keys at h
  refine Pure.ofFun (fun_of_awp Tryz.func50 rfl Tryz.ntmps50 (by simp) rfl (res2 rfl) fun E hE => k_end ?_)
  refine k_seq ?_
  refine k_reg .free hmixP (by kernel_rfl) ?_
  refine G_q rfl (op_assign (av := .exact (.string (bs ([] : List UInt8)))) rfl ?_)
  refine G_q rfl (op_assign (av := .exact (.int .i64 0)) rfl ?_)
  refine G_nil ?_
  refine kC_normal ?_
  refine k_seq ?_
  refine k_seq ?_
  refine k_reg .free hmixP (by kernel_rfl) ?_
  refine G_q rfl (op_move (av := .exact (.string (bs a0))) rfl ?_)
  obtain ⟨y1, hy1, h⟩ := bnd1_some h
  refine G_q rfl (op_pure (m_ref9_Kind_ok _ _ hy1) Tryz.func56 (by kernel_rfl) (LEs.cons (AV.le_eq rfl) LEs.nil) ?_)
  refine G_q rfl (op_neq rfl rfl ?_)
  refine G_nil ?_
  refine kC_normal ?_
  refine k_cond_d (p := ¬ y1 = 6) rfl (fun hc => ?_) (fun hc => ?_)
  · replace h := ite_t h hc
    refine k_seq ?_
    refine k_reg .free hmixP (by kernel_rfl) ?_
    refine G_q rfl (op_assign (av := .exact (.string (bs ([] : List UInt8)))) rfl ?_)
    refine G_q rfl (op_assign (av := .exact (.int .i64 6)) rfl ?_)
    refine G_nil ?_
    refine kC_normal ?_
    refine k_ret ?_
    refine kC_ret ?_
    obtain rfl := Option.some.inj h
    refine kP_any (endN (af' := (AF.put (AF.put AF0 (some 2) (.exact (.string (bs ([] : List UInt8))))) (some 3) (.exact (.int .i64 6)))) (σ' := []) _ rfl ?_ ⟨rfl, rfl⟩)
    exact Sub.of_le (AF.le_put (AV.le_eq rfl) (AF.le_put (AV.le_eq rfl) (AF.le_top _)))
  · replace h := ite_f h hc
    refine k_skip ?_
    refine kC_normal ?_
    refine k_seq ?_
    refine k_reg .free hmixP (by kernel_rfl) ?_
    refine G_q rfl (op_move (av := .exact (.string (bs a0))) rfl ?_)
    obtain ⟨y2, hy2, h⟩ := bnd1_some h
    refine G_q rfl (op_pure (m_ref9_keyed_ok _ _ hy2) Tryz.func58 (by kernel_rfl) (LEs.cons (AV.le_eq rfl) LEs.nil) ?_)
    refine G_q rfl (op_move (av := .tup [.row 1 c_api_Value y2.1, .row 1 c_api_Value y2.2]) rfl ?_)
    refine G_q rfl (op_extract (av := .row 1 c_api_Value y2.1) rfl rfl ?_)
    refine G_q rfl (op_extract (av := .row 1 c_api_Value y2.2) rfl rfl ?_)
    refine G_q rfl (op_assign (av := .row 1 c_api_Value y2.1) rfl ?_)
    refine G_q rfl (op_assign (av := .row 1 c_api_Value y2.2) rfl ?_)
    refine G_nil ?_
    refine kC_normal ?_
    refine k_seq ?_
    refine k_reg .free hmixP (by kernel_rfl) ?_
    refine G_q rfl (op_move (av := .row 1 c_api_Value y2.1) rfl ?_)
    obtain ⟨y3, hy3, h⟩ := bnd1_some h
    refine G_q rfl (op_pure (m_ref9_bounded_ok _ _ hy3) Tryz.func75 (by kernel_rfl) (LEs.cons (AV.le_eq rfl) LEs.nil) ?_)
    refine G_q rfl (op_extract (av := .exact (.string (bs y3.1))) rfl rfl ?_)
    refine G_q rfl (op_extract (av := .exact (.int .i64 y3.2)) rfl rfl ?_)
    refine G_q rfl (op_assign (av := .exact (.string (bs y3.1))) rfl ?_)
    refine G_q rfl (op_assign (av := .exact (.int .i64 y3.2)) rfl ?_)
    refine G_nil ?_
    refine kC_normal ?_
    refine k_ret ?_
    obtain rfl := Option.some.inj h
    refine kP_any (endN (af' := (AF.put (AF.put AF0 (some 2) (.exact (.string (bs y3.1)))) (some 3) (.exact (.int .i64 y3.2)))) (σ' := []) _ rfl ?_ ⟨rfl, rfl⟩)
    exact Sub.of_le (AF.le_put (AV.le_eq rfl) (AF.le_put (AV.le_eq rfl) (AF.le_top _)))
set_option maxHeartbeats 4000000 in
theorem m_law10_unary_ok (a0 : List UInt8) (r : Bool) (h : m_law10_unary a0 = some r) : Pure Tryz.prog 11 [(.exact (.string (bs a0)))] (.exact (.bool r)) := by
  unfold m_law10_unary at h
  refine Pure.ofFun (fun_of_awp Tryz.func11 rfl Tryz.ntmps11 (by simp) rfl (res1 rfl) fun E hE => k_end ?_)
  refine k_seq ?_
  refine k_reg .free hmixP (by kernel_rfl) ?_
  refine G_q rfl (op_assign (av := .exact (.bool false)) rfl ?_)
  refine G_nil ?_
  refine kC_normal ?_
  refine k_seq ?_
  refine k_reg .free hmixP (by kernel_rfl) ?_
  refine G_q rfl (op_move (av := .exact (.string (bs a0))) rfl ?_)
  obtain ⟨y1, hy1, h⟩ := bnd1_some h
  refine G_q rfl (op_pure (m_finset_BigUnion_ok _ _ hy1) Tryz.func45 (by kernel_rfl) (LEs.cons (AV.le_eq rfl) LEs.nil) ?_)
  refine G_q rfl (op_move (av := .tup [.exact (.string (bs y1.1)), .exact (.int .i64 y1.2)]) rfl ?_)
  refine G_q rfl (op_extract (av := .exact (.string (bs y1.1))) rfl rfl ?_)
  refine G_q rfl (op_extract (av := .exact (.int .i64 y1.2)) rfl rfl ?_)
  refine G_q rfl (op_assign (av := .exact (.string (bs y1.1))) rfl ?_)
  refine G_q rfl (op_assign (av := .exact (.int .i64 y1.2)) rfl ?_)
  refine G_nil ?_
  refine kC_normal ?_
  refine k_seq ?_
  refine k_reg .free hmixP (by kernel_rfl) ?_
  refine G_q rfl (op_move (av := .exact (.string (bs a0))) rfl ?_)
  obtain ⟨y2, hy2, h⟩ := bnd1_some h
  refine G_q rfl (op_pure (m_ref9_BigUnion_ok _ _ hy2) Tryz.func46 (by kernel_rfl) (LEs.cons (AV.le_eq rfl) LEs.nil) ?_)
  refine G_q rfl (op_move (av := .tup [.exact (.string (bs y2.1)), .exact (.int .i64 y2.2)]) rfl ?_)
  refine G_q rfl (op_extract (av := .exact (.string (bs y2.1))) rfl rfl ?_)
  refine G_q rfl (op_extract (av := .exact (.int .i64 y2.2)) rfl rfl ?_)
  refine G_q rfl (op_assign (av := .exact (.string (bs y2.1))) rfl ?_)
  refine G_q rfl (op_assign (av := .exact (.int .i64 y2.2)) rfl ?_)
  refine G_nil ?_
  refine kC_normal ?_
  refine k_seq ?_
  refine k_reg .free hmixP (by kernel_rfl) ?_
  refine G_q rfl (op_move (av := .exact (.string (bs a0))) rfl ?_)
  obtain ⟨y3, hy3, h⟩ := bnd1_some h
  refine G_q rfl (op_pure (m_finset_BigInter_ok _ _ hy3) Tryz.func27 (by kernel_rfl) (LEs.cons (AV.le_eq rfl) LEs.nil) ?_)
  refine G_q rfl (op_move (av := .tup [.exact (.string (bs y3.1)), .exact (.int .i64 y3.2)]) rfl ?_)
  refine G_q rfl (op_extract (av := .exact (.string (bs y3.1))) rfl rfl ?_)
  refine G_q rfl (op_extract (av := .exact (.int .i64 y3.2)) rfl rfl ?_)
  refine G_q rfl (op_assign (av := .exact (.string (bs y3.1))) rfl ?_)
  refine G_q rfl (op_assign (av := .exact (.int .i64 y3.2)) rfl ?_)
  refine G_nil ?_
  refine kC_normal ?_
  refine k_seq ?_
  refine k_reg .free hmixP (by kernel_rfl) ?_
  refine G_q rfl (op_move (av := .exact (.string (bs a0))) rfl ?_)
  obtain ⟨y4, hy4, h⟩ := bnd1_some h
  refine G_q rfl (op_pure (m_ref9_BigInter_ok _ _ hy4) Tryz.func47 (by kernel_rfl) (LEs.cons (AV.le_eq rfl) LEs.nil) ?_)
  refine G_q rfl (op_move (av := .tup [.exact (.string (bs y4.1)), .exact (.int .i64 y4.2)]) rfl ?_)
  refine G_q rfl (op_extract (av := .exact (.string (bs y4.1))) rfl rfl ?_)
  refine G_q rfl (op_extract (av := .exact (.int .i64 y4.2)) rfl rfl ?_)
  refine G_q rfl (op_assign (av := .exact (.string (bs y4.1))) rfl ?_)
  refine G_q rfl (op_assign (av := .exact (.int .i64 y4.2)) rfl ?_)
  refine G_nil ?_
  refine kC_normal ?_
  refine k_seq ?_
  refine k_reg .free hmixP (by kernel_rfl) ?_
  refine G_q rfl (op_move (av := .exact (.string (bs a0))) rfl ?_)
  obtain ⟨y5, hy5, h⟩ := bnd1_some h
  refine G_q rfl (op_pure (m_finset_Subsets_ok _ _ hy5) Tryz.func26 (by kernel_rfl) (LEs.cons (AV.le_eq rfl) LEs.nil) ?_)
  refine G_q rfl (op_move (av := .tup [.exact (.string (bs y5.1)), .exact (.int .i64 y5.2)]) rfl ?_)
  refine G_q rfl (op_extract (av := .exact (.string (bs y5.1))) rfl rfl ?_)
  refine G_q rfl (op_extract (av := .exact (.int .i64 y5.2)) rfl rfl ?_)
  refine G_q rfl (op_assign (av := .exact (.string (bs y5.1))) rfl ?_)
  refine G_q rfl (op_assign (av := .exact (.int .i64 y5.2)) rfl ?_)
  refine G_nil ?_
  refine kC_normal ?_
  refine k_seq ?_
  refine k_reg .free hmixP (by kernel_rfl) ?_
  refine G_q rfl (op_move (av := .exact (.string (bs a0))) rfl ?_)
  obtain ⟨y6, hy6, h⟩ := bnd1_some h
  refine G_q rfl (op_pure (m_ref9_Subsets_ok _ _ hy6) Tryz.func48 (by kernel_rfl) (LEs.cons (AV.le_eq rfl) LEs.nil) ?_)
  refine G_q rfl (op_move (av := .tup [.exact (.string (bs y6.1)), .exact (.int .i64 y6.2)]) rfl ?_)
  refine G_q rfl (op_extract (av := .exact (.string (bs y6.1))) rfl rfl ?_)
  refine G_q rfl (op_extract (av := .exact (.int .i64 y6.2)) rfl rfl ?_)
  refine G_q rfl (op_assign (av := .exact (.string (bs y6.1))) rfl ?_)
  refine G_q rfl (op_assign (av := .exact (.int .i64 y6.2)) rfl ?_)
  refine G_nil ?_
  refine kC_normal ?_
  refine k_seq ?_
  refine k_reg .free hmixP (by kernel_rfl) ?_
  refine G_q rfl (op_move (av := .exact (.string (bs a0))) rfl ?_)
  obtain ⟨y7, hy7, h⟩ := bnd1_some h
  refine G_q rfl (op_pure (m_finset_Keys_ok _ _ hy7) Tryz.func49 (by kernel_rfl) (LEs.cons (AV.le_eq rfl) LEs.nil) ?_)
  refine G_q rfl (op_move (av := .tup [.exact (.string (bs y7.1)), .exact (.int .i64 y7.2)]) rfl ?_)
  refine G_q rfl (op_extract (av := .exact (.string (bs y7.1))) rfl rfl ?_)
  refine G_q rfl (op_extract (av := .exact (.int .i64 y7.2)) rfl rfl ?_)
  refine G_q rfl (op_assign (av := .exact (.string (bs y7.1))) rfl ?_)
  refine G_q rfl (op_assign (av := .exact (.int .i64 y7.2)) rfl ?_)
  refine G_nil ?_
  refine kC_normal ?_
  refine k_seq ?_
  refine k_reg .free hmixP (by kernel_rfl) ?_
  refine G_q rfl (op_move (av := .exact (.string (bs a0))) rfl ?_)
  obtain ⟨y8, hy8, h⟩ := bnd1_some h
  refine G_q rfl (op_pure (m_ref9_Keys_ok _ _ hy8) Tryz.func50 (by kernel_rfl) (LEs.cons (AV.le_eq rfl) LEs.nil) ?_)
  refine G_q rfl (op_move (av := .tup [.exact (.string (bs y8.1)), .exact (.int .i64 y8.2)]) rfl ?_)
  refine G_q rfl (op_extract (av := .exact (.string (bs y8.1))) rfl rfl ?_)
  refine G_q rfl (op_extract (av := .exact (.int .i64 y8.2)) rfl rfl ?_)
  refine G_q rfl (op_assign (av := .exact (.string (bs y8.1))) rfl ?_)
  refine G_q rfl (op_assign (av := .exact (.int .i64 y8.2)) rfl ?_)
  refine G_nil ?_
  refine kC_normal ?_
  refine k_join1_0 h (fun (x2_j9 : Bool) => (AF.put AF0 (some 2) (.exact (.bool x2_j9)))) (fun (x2_j9 : Bool) => []) (fun k9 h => ?_) (fun x2_j9 h => ?_)
  · refine k_reg .free hmixP (by kernel_rfl) ?_
    refine G_q rfl (op_move (av := .exact (.string (bs y1.1))) rfl ?_)
    refine G_q rfl (op_move (av := .exact (.string (bs y2.1))) rfl ?_)
    refine G_q rfl (op_eqlS rfl rfl ?_)
    refine G_q rfl (op_move (av := .exact (.bool (decide (y1.1 = y2.1)))) rfl ?_)
    refine G_split (p := y1.1 = y2.1) 62 rfl (fun hc => ?_) (fun hc => ?_)
    · replace h := ite_t h hc
      refine Gy_q rfl rfl rfl (op_move (av := .exact (.int .i64 y1.2)) rfl ?_)
      refine Gy_q rfl rfl rfl (op_move (av := .exact (.int .i64 y2.2)) rfl ?_)
      refine Gy_q rfl rfl rfl (op_eql rfl rfl ?_)
      refine G_q rfl (op_pick_t rfl (av := .exact (.bool (decide (y1.2 = y2.2)))) rfl ?_)
      refine G_q rfl (op_move (av := .exact (.bool (decide (y1.2 = y2.2)))) rfl ?_)
      refine G_split (p := y1.2 = y2.2) 67 rfl (fun hc => ?_) (fun hc => ?_)
      · replace h := ite_t h hc
        refine Gy_q rfl rfl rfl (op_move (av := .exact (.string (bs y3.1))) rfl ?_)
        refine Gy_q rfl rfl rfl (op_move (av := .exact (.string (bs y4.1))) rfl ?_)
        refine Gy_q rfl rfl rfl (op_eqlS rfl rfl ?_)
        refine G_q rfl (op_pick_t rfl (av := .exact (.bool (decide (y3.1 = y4.1)))) rfl ?_)
        refine G_q rfl (op_move (av := .exact (.bool (decide (y3.1 = y4.1)))) rfl ?_)
        refine G_split (p := y3.1 = y4.1) 72 rfl (fun hc => ?_) (fun hc => ?_)
        · replace h := ite_t h hc
          refine Gy_q rfl rfl rfl (op_move (av := .exact (.int .i64 y3.2)) rfl ?_)
          refine Gy_q rfl rfl rfl (op_move (av := .exact (.int .i64 y4.2)) rfl ?_)
          refine Gy_q rfl rfl rfl (op_eql rfl rfl ?_)
          refine G_q rfl (op_pick_t rfl (av := .exact (.bool (decide (y3.2 = y4.2)))) rfl ?_)
          refine G_q rfl (op_move (av := .exact (.bool (decide (y3.2 = y4.2)))) rfl ?_)
          refine G_split (p := y3.2 = y4.2) 77 rfl (fun hc => ?_) (fun hc => ?_)
          · replace h := ite_t h hc
            refine Gy_q rfl rfl rfl (op_move (av := .exact (.string (bs y5.1))) rfl ?_)
            refine Gy_q rfl rfl rfl (op_move (av := .exact (.string (bs y6.1))) rfl ?_)
            refine Gy_q rfl rfl rfl (op_eqlS rfl rfl ?_)
            refine G_q rfl (op_pick_t rfl (av := .exact (.bool (decide (y5.1 = y6.1)))) rfl ?_)
            refine G_q rfl (op_move (av := .exact (.bool (decide (y5.1 = y6.1)))) rfl ?_)
            refine G_split (p := y5.1 = y6.1) 82 rfl (fun hc => ?_) (fun hc => ?_)
            · replace h := ite_t h hc
              refine Gy_q rfl rfl rfl (op_move (av := .exact (.int .i64 y5.2)) rfl ?_)
              refine Gy_q rfl rfl rfl (op_move (av := .exact (.int .i64 y6.2)) rfl ?_)
              refine Gy_q rfl rfl rfl (op_eql rfl rfl ?_)
              refine G_q rfl (op_pick_t rfl (av := .exact (.bool (decide (y5.2 = y6.2)))) rfl ?_)
              refine G_q rfl (op_move (av := .exact (.bool (decide (y5.2 = y6.2)))) rfl ?_)
              refine G_split (p := y5.2 = y6.2) 87 rfl (fun hc => ?_) (fun hc => ?_)
              · replace h := ite_t h hc
                refine Gy_q rfl rfl rfl (op_move (av := .exact (.string (bs y7.1))) rfl ?_)
                refine Gy_q rfl rfl rfl (op_move (av := .exact (.string (bs y8.1))) rfl ?_)
                refine Gy_q rfl rfl rfl (op_eqlS rfl rfl ?_)
                refine G_q rfl (op_pick_t rfl (av := .exact (.bool (decide (y7.1 = y8.1)))) rfl ?_)
                refine G_q rfl (op_move (av := .exact (.bool (decide (y7.1 = y8.1)))) rfl ?_)
                refine G_split (p := y7.1 = y8.1) 92 rfl (fun hc => ?_) (fun hc => ?_)
                · replace h := ite_t h hc
                  refine Gy_q rfl rfl rfl (op_move (av := .exact (.int .i64 y7.2)) rfl ?_)
                  refine Gy_q rfl rfl rfl (op_move (av := .exact (.int .i64 y8.2)) rfl ?_)
                  refine Gy_q rfl rfl rfl (op_eql rfl rfl ?_)
                  refine G_q rfl (op_pick_t rfl (av := .exact (.bool (decide (y7.2 = y8.2)))) rfl ?_)
                  refine G_q rfl (op_assign (av := .exact (.bool (decide (y7.2 = y8.2)))) rfl ?_)
                  refine G_nil ?_
                  refine kI_normal ⟨_, h, ?_⟩
                  exact Sub.of_le (AF.le_put (AV.le_eq rfl) (AF.le_top _))
                · replace h := ite_f h hc
                  refine G_n rfl rfl ?_
                  refine G_n rfl rfl ?_
                  refine G_n rfl rfl ?_
                  refine G_q rfl (op_pick_f rfl (av := .exact (.bool false)) rfl ?_)
                  refine G_q rfl (op_assign (av := .exact (.bool false)) rfl ?_)
                  refine G_nil ?_
                  refine kI_normal ⟨_, h, ?_⟩
                  exact Sub.of_le (AF.le_put (AV.le_eq rfl) (AF.le_top _))
              · replace h := ite_f h hc
                refine G_n rfl rfl ?_
                refine G_n rfl rfl ?_
                refine G_n rfl rfl ?_
                refine G_q rfl (op_pick_f rfl (av := .exact (.bool false)) rfl ?_)
                refine G_q rfl (op_move (av := .exact (.bool false)) rfl ?_)
                refine G_n rfl rfl ?_
                refine G_n rfl rfl ?_
                refine G_n rfl rfl ?_
                refine G_q rfl (op_pick_f rfl (av := .exact (.bool false)) rfl ?_)
                refine G_q rfl (op_assign (av := .exact (.bool false)) rfl ?_)
                refine G_nil ?_
                refine kI_normal ⟨_, h, ?_⟩
                exact Sub.of_le (AF.le_put (AV.le_eq rfl) (AF.le_top _))
            · replace h := ite_f h hc
              refine G_n rfl rfl ?_
              refine G_n rfl rfl ?_
              refine G_n rfl rfl ?_
              refine G_q rfl (op_pick_f rfl (av := .exact (.bool false)) rfl ?_)
              refine G_q rfl (op_move (av := .exact (.bool false)) rfl ?_)
              refine G_n rfl rfl ?_
              refine G_n rfl rfl ?_
              refine G_n rfl rfl ?_
              refine G_q rfl (op_pick_f rfl (av := .exact (.bool false)) rfl ?_)
              refine G_q rfl (op_move (av := .exact (.bool false)) rfl ?_)
              refine G_n rfl rfl ?_
              refine G_n rfl rfl ?_
              refine G_n rfl rfl ?_
              refine G_q rfl (op_pick_f rfl (av := .exact (.bool false)) rfl ?_)
              refine G_q rfl (op_assign (av := .exact (.bool false)) rfl ?_)
              refine G_nil ?_
              refine kI_normal ⟨_, h, ?_⟩
              exact Sub.of_le (AF.le_put (AV.le_eq rfl) (AF.le_top _))
          · replace h := ite_f h hc
            refine G_n rfl rfl ?_
            refine G_n rfl rfl ?_
            refine G_n rfl rfl ?_
            refine G_q rfl (op_pick_f rfl (av := .exact (.bool false)) rfl ?_)
            refine G_q rfl (op_move (av := .exact (.bool false)) rfl ?_)
            refine G_n rfl rfl ?_
            refine G_n rfl rfl ?_
            refine G_n rfl rfl ?_
            refine G_q rfl (op_pick_f rfl (av := .exact (.bool false)) rfl ?_)
            refine G_q rfl (op_move (av := .exact (.bool false)) rfl ?_)
            refine G_n rfl rfl ?_
            refine G_n rfl rfl ?_
            refine G_n rfl rfl ?_
            refine G_q rfl (op_pick_f rfl (av := .exact (.bool false)) rfl ?_)
            refine G_q rfl (op_move (av := .exact (.bool false)) rfl ?_)
            refine G_n rfl rfl ?_
            refine G_n rfl rfl ?_
            refine G_n rfl rfl ?_
            refine G_q rfl (op_pick_f rfl (av := .exact (.bool false)) rfl ?_)
            refine G_q rfl (op_assign (av := .exact (.bool false)) rfl ?_)
            refine G_nil ?_
            refine kI_normal ⟨_, h, ?_⟩
            exact Sub.of_le (AF.le_put (AV.le_eq rfl) (AF.le_top _))
        · replace h := ite_f h hc
          refine G_n rfl rfl ?_
          refine G_n rfl rfl ?_
          refine G_n rfl rfl ?_
          refine G_q rfl (op_pick_f rfl (av := .exact (.bool false)) rfl ?_)
          refine G_q rfl (op_move (av := .exact (.bool false)) rfl ?_)
          refine G_n rfl rfl ?_
          refine G_n rfl rfl ?_
          refine G_n rfl rfl ?_
          refine G_q rfl (op_pick_f rfl (av := .exact (.bool false)) rfl ?_)
          refine G_q rfl (op_move (av := .exact (.bool false)) rfl ?_)
          refine G_n rfl rfl ?_
          refine G_n rfl rfl ?_
          refine G_n rfl rfl ?_
          refine G_q rfl (op_pick_f rfl (av := .exact (.bool false)) rfl ?_)
          refine G_q rfl (op_move (av := .exact (.bool false)) rfl ?_)
          refine G_n rfl rfl ?_
          refine G_n rfl rfl ?_
          refine G_n rfl rfl ?_
          refine G_q rfl (op_pick_f rfl (av := .exact (.bool false)) rfl ?_)
          refine G_q rfl (op_move (av := .exact (.bool false)) rfl ?_)
          refine G_n rfl rfl ?_
          refine G_n rfl rfl ?_
          refine G_n rfl rfl ?_
          refine G_q rfl (op_pick_f rfl (av := .exact (.bool false)) rfl ?_)
          refine G_q rfl (op_assign (av := .exact (.bool false)) rfl ?_)
          refine G_nil ?_
          refine kI_normal ⟨_, h, ?_⟩
          exact Sub.of_le (AF.le_put (AV.le_eq rfl) (AF.le_top _))
      · replace h := ite_f h hc
        refine G_n rfl rfl ?_
        refine G_n rfl rfl ?_
        refine G_n rfl rfl ?_
        refine G_q rfl (op_pick_f rfl (av := .exact (.bool false)) rfl ?_)
        refine G_q rfl (op_move (av := .exact (.bool false)) rfl ?_)
        refine G_n rfl rfl ?_
        refine G_n rfl rfl ?_
        refine G_n rfl rfl ?_
        refine G_q rfl (op_pick_f rfl (av := .exact (.bool false)) rfl ?_)
        refine G_q rfl (op_move (av := .exact (.bool false)) rfl ?_)
        refine G_n rfl rfl ?_
        refine G_n rfl rfl ?_
        refine G_n rfl rfl ?_
        refine G_q rfl (op_pick_f rfl (av := .exact (.bool false)) rfl ?_)
        refine G_q rfl (op_move (av := .exact (.bool false)) rfl ?_)
        refine G_n rfl rfl ?_
        refine G_n rfl rfl ?_
        refine G_n rfl rfl ?_
        refine G_q rfl (op_pick_f rfl (av := .exact (.bool false)) rfl ?_)
        refine G_q rfl (op_move (av := .exact (.bool false)) rfl ?_)
        refine G_n rfl rfl ?_
        refine G_n rfl rfl ?_
        refine G_n rfl rfl ?_
        refine G_q rfl (op_pick_f rfl (av := .exact (.bool false)) rfl ?_)
        refine G_q rfl (op_move (av := .exact (.bool false)) rfl ?_)
        refine G_n rfl rfl ?_
        refine G_n rfl rfl ?_
        refine G_n rfl rfl ?_
        refine G_q rfl (op_pick_f rfl (av := .exact (.bool false)) rfl ?_)
        refine G_q rfl (op_assign (av := .exact (.bool false)) rfl ?_)
        refine G_nil ?_
        refine kI_normal ⟨_, h, ?_⟩
        exact Sub.of_le (AF.le_put (AV.le_eq rfl) (AF.le_top _))
    · replace h := ite_f h hc
      refine G_n rfl rfl ?_
      refine G_n rfl rfl ?_
      refine G_n rfl rfl ?_
      refine G_q rfl (op_pick_f rfl (av := .exact (.bool false)) rfl ?_)
      refine G_q rfl (op_move (av := .exact (.bool false)) rfl ?_)
      refine G_n rfl rfl ?_
      refine G_n rfl rfl ?_
      refine G_n rfl rfl ?_
      refine G_q rfl (op_pick_f rfl (av := .exact (.bool false)) rfl ?_)
      refine G_q rfl (op_move (av := .exact (.bool false)) rfl ?_)
      refine G_n rfl rfl ?_
      refine G_n rfl rfl ?_
      refine G_n rfl rfl ?_
      refine G_q rfl (op_pick_f rfl (av := .exact (.bool false)) rfl ?_)
      refine G_q rfl (op_move (av := .exact (.bool false)) rfl ?_)
      refine G_n rfl rfl ?_
      refine G_n rfl rfl ?_
      refine G_n rfl rfl ?_
      refine G_q rfl (op_pick_f rfl (av := .exact (.bool false)) rfl ?_)
      refine G_q rfl (op_move (av := .exact (.bool false)) rfl ?_)
      refine G_n rfl rfl ?_
      refine G_n rfl rfl ?_
      refine G_n rfl rfl ?_
      refine G_q rfl (op_pick_f rfl (av := .exact (.bool false)) rfl ?_)
      refine G_q rfl (op_move (av := .exact (.bool false)) rfl ?_)
      refine G_n rfl rfl ?_
      refine G_n rfl rfl ?_
      refine G_n rfl rfl ?_
      refine G_q rfl (op_pick_f rfl (av := .exact (.bool false)) rfl ?_)
      refine G_q rfl (op_move (av := .exact (.bool false)) rfl ?_)
      refine G_n rfl rfl ?_
      refine G_n rfl rfl ?_
      refine G_n rfl rfl ?_
      refine G_q rfl (op_pick_f rfl (av := .exact (.bool false)) rfl ?_)
      refine G_q rfl (op_assign (av := .exact (.bool false)) rfl ?_)
      refine G_nil ?_
      refine kI_normal ⟨_, h, ?_⟩
      exact Sub.of_le (AF.le_put (AV.le_eq rfl) (AF.le_top _))
  · refine k_ret ?_
    obtain rfl := Option.some.inj h
    refine kP_any (endN (af' := (AF.put AF0 (some 2) (.exact (.bool x2_j9)))) (σ' := []) _ rfl ?_ ⟨rfl, rfl⟩)
    exact Sub.of_le (AF.le_put (AV.le_eq rfl) (AF.le_top _))
set_option maxHeartbeats 4000000 in
theorem m_law10_sets_ok {w0 : Nat} (a0 : (List Int) × Int) (r : (List UInt8) × ((List Int) × Int)) (h : m_law10_sets a0 = some r) : Fun Tryz.prog 12 [(pA w0 0)] [boxI 48 w0 [.row 1 c_int a0.1, .exact (.int .i64 a0.2)]] (fun a s => a = .exact (.string (bs r.1)) ∧ s = [boxI 48 w0 [.row 1 c_int r.2.1, .exact (.int .i64 r.2.2)]]) := by
  unfold m_law10_sets at h
  refine fun_of_awp Tryz.func12 rfl Tryz.ntmps12 (by simp) rfl (res1 rfl) fun E hE => k_end ?_
  refine k_seq ?_
  refine k_reg .free hmixP (by kernel_rfl) ?_
  refine G_q rfl (op_assign (av := .exact (.string (bs ([] : List UInt8)))) rfl ?_)
  refine G_nil ?_
  refine kC_normal ?_
  refine k_seq ?_
  refine k_reg .free hmixP (by kernel_rfl) ?_
  refine G_q rfl (op_assign (av := .exact (.slice none 0 0)) rfl ?_)
  refine G_nil ?_
  refine kC_normal ?_
  refine k_join3_1 h (fun (x0_0_j1 : List Int) (x0_1_j1 : Int) (x3_j1 : List (List UInt8)) (v3_j1 : Value) => (AF.put (AF.put AF0 (some 0) (pA w0 0)) (some 3) (.exact v3_j1))) (fun (x0_0_j1 : List Int) (x0_1_j1 : Int) (x3_j1 : List (List UInt8)) (v3_j1 : Value) => [boxI 48 w0 [.row 1 c_int x0_0_j1, .exact (.int .i64 x0_1_j1)], vecT Tryz.prog 33 1 c_api_Value v3_j1 x3_j1]) (fun k1 h => ?_) (fun x0_0_j1 x0_1_j1 x3_j1 v3_j1 h => ?_)
  · refine k_seq ?_
    refine k_reg .free hmixP (by kernel_rfl) ?_
    refine G_q rfl (op_move (av := pA w0 0) rfl ?_)
    obtain ⟨y13, hy13, h⟩ := bnd1_some h
    refine G_l rfl (op_fun_1_0_1 (m_gen_Choices_Next_ok _ _ _ hy13) Tryz.func13 (by kernel_rfl) (LEs.cons (AV.le_eq rfl) (LEs.cons (AV.le_eq rfl) LEs.nil)) ?_)
    refine G_q rfl (op_assign (av := .exact (.int .i64 y13.1)) rfl ?_)
    refine G_nil ?_
    refine kC_normal ?_
    refine k_block ?_
    refine k_loop4_1 (m_law10_sets_L2 k1) (m_law10_sets_B2 k1) (fun _ _ _ _ => rfl) (fun m _ _ _ _ => rfl) h (fun (x0_0_l2 : List Int) (x0_1_l2 : Int) (x3_l2 : List (List UInt8)) (x4_l2 : Int) (v3_l2 : Value) => (AF.put (AF.put (AF.put AF0 (some 0) (pA w0 0)) (some 3) (.exact v3_l2)) (some 4) (.exact (.int .i64 x4_l2)))) (fun (x0_0_l2 : List Int) (x0_1_l2 : Int) (x3_l2 : List (List UInt8)) (x4_l2 : Int) (v3_l2 : Value) => [boxI 48 w0 [.row 1 c_int x0_0_l2, .exact (.int .i64 x0_1_l2)], vecT Tryz.prog 33 1 c_api_Value v3_l2 x3_l2]) (.slice none 0 0) ?_ (fun rec2 x0_0_l2 x0_1_l2 x3_l2 x4_l2 v3_l2 h => ?_)
    · refine Sub.trans (SubU.to (SubU.nilT (P := Tryz.prog) (t := 33) (n := 1) (enc := c_api_Value))) ?_
      refine Sub.trans (SubU.to SubU.f1) ?_
      exact Sub.of_le (AF.le_put (AV.le_eq rfl) (AF.le_put (AV.le_eq rfl) (AF.le_put (AV.le_eq rfl) (AF.le_top _))))
    · unfold m_law10_sets_B2 at h
      refine k_seq ?_
      refine k_seq ?_
      refine k_reg .free hmixP (by kernel_rfl) ?_
      refine G_q rfl (op_move (av := .exact (.int .i64 x4_l2)) rfl ?_)
      refine G_q rfl (op_gtr rfl rfl ?_)
      refine G_nil ?_
      refine kC_normal ?_
      refine k_cond_d (p := 0 < x4_l2) rfl (fun hc => ?_) (fun hc => ?_)
      · replace h := ite_t h hc
        refine k_skip ?_
        refine kC_normal ?_
        refine k_seq ?_
        refine k_block ?_
        refine k_reg .free hmixP (by kernel_rfl) ?_
        refine G_q rfl (op_move (av := .exact v3_l2) rfl ?_)
        refine G_q rfl (op_move (av := pA w0 0) rfl ?_)
        obtain ⟨y20, hy20, h⟩ := bnd1_some h
        refine G_l rfl (op_fun_1_0_1 (m_gen_Choices_Ints_ok _ _ hy20) Tryz.func7 (by kernel_rfl) (LEs.cons (AV.le_eq rfl) LEs.nil) ?_)
        refine G_q rfl (op_litT (n := 1) (enc := c_api_Value) [y20.1] (CellsAll.cons rfl CellsOf.str CellsAll.nil) rfl (by kernel_rfl) (LEss.cons (LEs.cons (AV.le_eq rfl) LEs.nil) LEss.nil) ?_)
        obtain ⟨n21, h⟩ := need_some h
        refine G_l rfl (opB_f1 (op_appT (by kernel_rfl) rfl rfl oc_c_api_Value n21 (fun v22 => ?_)))
        refine G_q rfl (op_assign (av := .exact v22) rfl ?_)
        refine G_nil ?_
        refine kB_normal ?_
        refine kC_normal ?_
        refine k_reg .free hmixP (by kernel_rfl) ?_
        refine G_q rfl (op_move (av := .exact (.int .i64 x4_l2)) rfl ?_)
        refine G_q rfl (op_sub rfl rfl rfl ?_)
        refine G_q rfl (op_assign (av := .exact (.int .i64 (i64 (x4_l2 - 1)))) rfl ?_)
        refine G_nil ?_
        refine kI_normal ⟨_, _, _, _, v22, h, ?_⟩
        refine Sub.trans (SubU.to SubU.f1) ?_
        exact Sub.of_le (AF.le_put (AV.le_eq rfl) (AF.le_put (AV.le_eq rfl) (AF.le_put (AV.le_eq rfl) (AF.le_top _))))
      · replace h := ite_f h hc
        refine k_exit ?_
        refine kC_exit ?_
        refine kI_exit ?_
        refine kB_exit ?_
        refine kI_normal ⟨_, _, _, v3_l2, h, ?_⟩
        exact Sub.of_le (AF.le_put (AV.le_eq rfl) (AF.le_put (AV.le_eq rfl) (AF.le_top _)))
  · refine k_seq ?_
    refine k_reg .free hmixP (by kernel_rfl) ?_
    refine G_q rfl (op_move (av := .exact v3_j1) rfl ?_)
    refine G_sub rfl (SubU.trans SubU.f1 (SubU.freezeT2 (s1 := 3) (s2 := 16) rfl rfl len_c_api_Value)) ?_
    obtain ⟨y23, hy23, h⟩ := bnd1_some h
    refine G_q rfl (op_pure (m_ref9_Set_ok _ _ hy23) Tryz.func24 (by kernel_rfl) (LEs.cons (AV.le_eq rfl) LEs.nil) ?_)
    refine G_q rfl (op_assign (av := .exact (.string (bs y23))) rfl ?_)
    refine G_nil ?_
    refine kC_normal ?_
    refine k_ret ?_
    obtain rfl := Option.some.inj h
    refine kP_any (endN (af' := (AF.put AF0 (some 2) (.exact (.string (bs y23))))) (σ' := [boxI 48 w0 [.row 1 c_int x0_0_j1, .exact (.int .i64 x0_1_j1)]]) _ rfl ?_ ⟨rfl, rfl⟩)
    exact Sub.of_le (AF.le_put (AV.le_eq rfl) (AF.le_top _))
end Go.Proofs.YtdbnodliomlilaaGreat
/- The functions compute their models, by program. -/
namespace Go.Proofs.YtdbnodliomlilaaGreat
open Go.RowKit
attribute [local irreducible] AV.exact AV.top AV.row AV.ptr AV.agg AV.tup AV.eptr AV.fn AV.nilq AV.nilqn opA opB opM opR Quiet Loud Reads wpG awp den Sub SubU Pure Fun vecI vecT boxI CellsAll CellsOf OneC LEs LEss
set_option maxRecDepth 100000

set_option maxHeartbeats 4000000 in
theorem m_law10_FinsetComputes_ok (a0 : List UInt8) (a1 : List UInt8) (a2 : List Int) (r : Bool) (h : m_law10_FinsetComputes a0 a1 a2 = some r) : Pure Tryz.prog 3 [(.exact (.string (bs a0))), (.exact (.string (bs a1))), (.row 1 c_int a2)] (.exact (.bool r)) := by
  unfold m_law10_FinsetComputes at h
  refine Pure.ofFun (fun_of_awp Tryz.func3 rfl Tryz.ntmps3 (by simp) rfl (res1 rfl) fun E hE => k_end ?_)
  refine k_seq ?_
  refine k_reg .free hmixP (by kernel_rfl) ?_
  refine G_q rfl (op_assign (av := .exact (.bool false)) rfl ?_)
  refine G_nil ?_
  refine kC_normal ?_
  refine k_seq ?_
  refine k_reg .free hmixP (by kernel_rfl) ?_
  refine G_q rfl (op_move (av := .row 1 c_int a2) rfl ?_)
  obtain ⟨y1, hy1, h⟩ := bnd1_some h
  refine G_l rfl (op_fun_0_1_1 (m_gen_New_ok _ _ hy1) Tryz.func6 (by kernel_rfl) (LEs.cons (AV.le_eq rfl) LEs.nil) (fun b2 => ?_))
  refine G_q rfl (op_assign (av := pA b2 0) rfl ?_)
  refine G_nil ?_
  refine kC_normal ?_
  refine k_seq ?_
  refine k_reg .free hmixP (by kernel_rfl) ?_
  refine G_q rfl (op_move (av := pA b2 0) rfl ?_)
  obtain ⟨y3, hy3, h⟩ := bnd1_some h
  refine G_l rfl (op_fun_1_0_1 (m_gen_Choices_Ints_ok _ _ hy3) Tryz.func7 (by kernel_rfl) (LEs.cons (AV.le_eq rfl) LEs.nil) ?_)
  refine G_q rfl (op_move (av := pA b2 0) rfl ?_)
  obtain ⟨y4, hy4, h⟩ := bnd1_some h
  refine G_l rfl (op_fun_1_0_1 (m_gen_Choices_Ints_ok _ _ hy4) Tryz.func7 (by kernel_rfl) (LEs.cons (AV.le_eq rfl) LEs.nil) ?_)
  refine G_q rfl (op_assign (av := .exact (.string (bs y3.1))) rfl ?_)
  refine G_q rfl (op_assign (av := .exact (.string (bs y4.1))) rfl ?_)
  refine G_nil ?_
  refine kC_normal ?_
  refine k_join1_0 h (fun (x6_j5 : Bool) => (AF.put AF0 (some 6) (.exact (.bool x6_j5)))) (fun (x6_j5 : Bool) => []) (fun k5 h => ?_) (fun x6_j5 h => ?_)
  · refine k_reg .free hmixP (by kernel_rfl) ?_
    obtain ⟨y18, hy18, h⟩ := bnd1_some h
    refine G_q rfl (op_pure (m_law10_awake_ok _ hy18) Tryz.func8 (by kernel_rfl) LEs.nil ?_)
    refine G_q rfl (op_move (av := .exact (.bool y18)) rfl ?_)
    refine G_splitB (c := y18) 17 rfl (fun hc => ?_) (fun hc => ?_)
    · replace h := ite_t h hc
      refine Gy_q rfl rfl rfl (op_move (av := .exact (.string (bs a0))) rfl ?_)
      refine Gy_q rfl rfl rfl (op_move (av := .exact (.string (bs a1))) rfl ?_)
      obtain ⟨y19, hy19, h⟩ := bnd1_some h
      refine Gy_q rfl rfl rfl (op_pure (m_law10_binary_ok _ _ _ hy19) Tryz.func9 (by kernel_rfl) (LEs.cons (AV.le_eq rfl) (LEs.cons (AV.le_eq rfl) LEs.nil)) ?_)
      refine G_q rfl (op_pick_t rfl (av := .exact (.bool y19)) rfl ?_)
      refine G_q rfl (op_move (av := .exact (.bool y19)) rfl ?_)
      refine G_splitB (c := y19) 22 rfl (fun hc => ?_) (fun hc => ?_)
      · replace h := ite_t h hc
        refine Gy_q rfl rfl rfl (op_move (av := .exact (.string (bs y3.1))) rfl ?_)
        refine Gy_q rfl rfl rfl (op_move (av := .exact (.string (bs y4.1))) rfl ?_)
        obtain ⟨y20, hy20, h⟩ := bnd1_some h
        refine Gy_q rfl rfl rfl (op_pure (m_law10_binary_ok _ _ _ hy20) Tryz.func9 (by kernel_rfl) (LEs.cons (AV.le_eq rfl) (LEs.cons (AV.le_eq rfl) LEs.nil)) ?_)
        refine G_q rfl (op_pick_t rfl (av := .exact (.bool y20)) rfl ?_)
        refine G_q rfl (op_move (av := .exact (.bool y20)) rfl ?_)
        refine G_splitB (c := y20) 27 rfl (fun hc => ?_) (fun hc => ?_)
        · replace h := ite_t h hc
          refine Gy_q rfl rfl rfl (op_move (av := .exact (.string (bs y3.1))) rfl ?_)
          refine Gy_q rfl rfl rfl (op_move (av := .exact (.string (bs a0))) rfl ?_)
          obtain ⟨y21, hy21, h⟩ := bnd1_some h
          refine Gy_q rfl rfl rfl (op_pure (m_law10_binary_ok _ _ _ hy21) Tryz.func9 (by kernel_rfl) (LEs.cons (AV.le_eq rfl) (LEs.cons (AV.le_eq rfl) LEs.nil)) ?_)
          refine G_q rfl (op_pick_t rfl (av := .exact (.bool y21)) rfl ?_)
          refine G_q rfl (op_move (av := .exact (.bool y21)) rfl ?_)
          refine G_splitB (c := y21) 32 rfl (fun hc => ?_) (fun hc => ?_)
          · replace h := ite_t h hc
            refine Gy_q rfl rfl rfl (op_move (av := pA b2 0) rfl ?_)
            obtain ⟨y22, hy22, h⟩ := bnd1_some h
            refine Gy_l rfl rfl rfl (op_fun_1_0_1 (m_gen_Choices_Value_ok _ _ _ hy22) Tryz.func10 (by kernel_rfl) (LEs.cons (AV.le_eq rfl) (LEs.cons (AV.le_eq rfl) LEs.nil)) ?_)
            refine Gy_q rfl rfl rfl (op_move (av := .exact (.string (bs y4.1))) rfl ?_)
            obtain ⟨y23, hy23, h⟩ := bnd1_some h
            refine Gy_q rfl rfl rfl (op_pure (m_law10_binary_ok _ _ _ hy23) Tryz.func9 (by kernel_rfl) (LEs.cons (AV.le_eq rfl) (LEs.cons (AV.le_eq rfl) LEs.nil)) ?_)
            refine G_q rfl (op_pick_t rfl (av := .exact (.bool y23)) rfl ?_)
            refine G_q rfl (op_move (av := .exact (.bool y23)) rfl ?_)
            refine G_splitB (c := y23) 38 rfl (fun hc => ?_) (fun hc => ?_)
            · replace h := ite_t h hc
              refine Gy_q rfl rfl rfl (op_move (av := .exact (.string (bs a0))) rfl ?_)
              obtain ⟨y24, hy24, h⟩ := bnd1_some h
              refine Gy_q rfl rfl rfl (op_pure (m_law10_unary_ok _ _ hy24) Tryz.func11 (by kernel_rfl) (LEs.cons (AV.le_eq rfl) LEs.nil) ?_)
              refine G_q rfl (op_pick_t rfl (av := .exact (.bool y24)) rfl ?_)
              refine G_q rfl (op_move (av := .exact (.bool y24)) rfl ?_)
              refine G_splitB (c := y24) 42 rfl (fun hc => ?_) (fun hc => ?_)
              · replace h := ite_t h hc
                refine Gy_q rfl rfl rfl (op_move (av := .exact (.string (bs y3.1))) rfl ?_)
                obtain ⟨y25, hy25, h⟩ := bnd1_some h
                refine Gy_q rfl rfl rfl (op_pure (m_law10_unary_ok _ _ hy25) Tryz.func11 (by kernel_rfl) (LEs.cons (AV.le_eq rfl) LEs.nil) ?_)
                refine G_q rfl (op_pick_t rfl (av := .exact (.bool y25)) rfl ?_)
                refine G_q rfl (op_move (av := .exact (.bool y25)) rfl ?_)
                refine G_splitB (c := y25) 46 rfl (fun hc => ?_) (fun hc => ?_)
                · replace h := ite_t h hc
                  refine Gy_q rfl rfl rfl (op_move (av := pA b2 0) rfl ?_)
                  obtain ⟨y26, hy26, h⟩ := bnd1_some h
                  refine Gy_l rfl rfl rfl (op_fun_1_0_1 (m_law10_sets_ok _ _ hy26) Tryz.func12 (by kernel_rfl) (LEs.cons (AV.le_eq rfl) LEs.nil) ?_)
                  obtain ⟨y27, hy27, h⟩ := bnd1_some h
                  refine Gy_q rfl rfl rfl (op_pure (m_law10_unary_ok _ _ hy27) Tryz.func11 (by kernel_rfl) (LEs.cons (AV.le_eq rfl) LEs.nil) ?_)
                  refine G_q rfl (op_pick_t rfl (av := .exact (.bool y27)) rfl ?_)
                  refine G_q rfl (op_move (av := .exact (.bool y27)) rfl ?_)
                  refine G_splitB (c := y27) 51 rfl (fun hc => ?_) (fun hc => ?_)
                  · replace h := ite_t h hc
                    refine Gy_q rfl rfl rfl (op_move (av := pA b2 0) rfl ?_)
                    obtain ⟨y28, hy28, h⟩ := bnd1_some h
                    refine Gy_l rfl rfl rfl (op_fun_1_0_1 (m_gen_Choices_Value_ok _ _ _ hy28) Tryz.func10 (by kernel_rfl) (LEs.cons (AV.le_eq rfl) (LEs.cons (AV.le_eq rfl) LEs.nil)) ?_)
                    obtain ⟨y29, hy29, h⟩ := bnd1_some h
                    refine Gy_q rfl rfl rfl (op_pure (m_law10_unary_ok _ _ hy29) Tryz.func11 (by kernel_rfl) (LEs.cons (AV.le_eq rfl) LEs.nil) ?_)
                    refine G_q rfl (op_pick_t rfl (av := .exact (.bool y29)) rfl ?_)
                    refine G_q rfl (op_assign (av := .exact (.bool y29)) rfl ?_)
                    refine G_nil ?_
                    refine kI_normal ⟨_, h, ?_⟩
                    refine Sub.trans (SubU.to SubU.drop) ?_
                    exact Sub.of_le (AF.le_put (AV.le_eq rfl) (AF.le_top _))
                  · replace h := ite_f h hc
                    refine G_n rfl rfl ?_
                    refine G_n rfl rfl ?_
                    refine G_n rfl rfl ?_
                    refine G_q rfl (op_pick_f rfl (av := .exact (.bool false)) rfl ?_)
                    refine G_q rfl (op_assign (av := .exact (.bool false)) rfl ?_)
                    refine G_nil ?_
                    refine kI_normal ⟨_, h, ?_⟩
                    refine Sub.trans (SubU.to SubU.drop) ?_
                    exact Sub.of_le (AF.le_put (AV.le_eq rfl) (AF.le_top _))
                · replace h := ite_f h hc
                  refine G_n rfl rfl ?_
                  refine G_n rfl rfl ?_
                  refine G_n rfl rfl ?_
                  refine G_q rfl (op_pick_f rfl (av := .exact (.bool false)) rfl ?_)
                  refine G_q rfl (op_move (av := .exact (.bool false)) rfl ?_)
                  refine G_n rfl rfl ?_
                  refine G_n rfl rfl ?_
                  refine G_n rfl rfl ?_
                  refine G_q rfl (op_pick_f rfl (av := .exact (.bool false)) rfl ?_)
                  refine G_q rfl (op_assign (av := .exact (.bool false)) rfl ?_)
                  refine G_nil ?_
                  refine kI_normal ⟨_, h, ?_⟩
                  refine Sub.trans (SubU.to SubU.drop) ?_
                  exact Sub.of_le (AF.le_put (AV.le_eq rfl) (AF.le_top _))
              · replace h := ite_f h hc
                refine G_n rfl rfl ?_
                refine G_n rfl rfl ?_
                refine G_q rfl (op_pick_f rfl (av := .exact (.bool false)) rfl ?_)
                refine G_q rfl (op_move (av := .exact (.bool false)) rfl ?_)
                refine G_n rfl rfl ?_
                refine G_n rfl rfl ?_
                refine G_n rfl rfl ?_
                refine G_q rfl (op_pick_f rfl (av := .exact (.bool false)) rfl ?_)
                refine G_q rfl (op_move (av := .exact (.bool false)) rfl ?_)
                refine G_n rfl rfl ?_
                refine G_n rfl rfl ?_
                refine G_n rfl rfl ?_
                refine G_q rfl (op_pick_f rfl (av := .exact (.bool false)) rfl ?_)
                refine G_q rfl (op_assign (av := .exact (.bool false)) rfl ?_)
                refine G_nil ?_
                refine kI_normal ⟨_, h, ?_⟩
                refine Sub.trans (SubU.to SubU.drop) ?_
                exact Sub.of_le (AF.le_put (AV.le_eq rfl) (AF.le_top _))
            · replace h := ite_f h hc
              refine G_n rfl rfl ?_
              refine G_n rfl rfl ?_
              refine G_q rfl (op_pick_f rfl (av := .exact (.bool false)) rfl ?_)
              refine G_q rfl (op_move (av := .exact (.bool false)) rfl ?_)
              refine G_n rfl rfl ?_
              refine G_n rfl rfl ?_
              refine G_q rfl (op_pick_f rfl (av := .exact (.bool false)) rfl ?_)
              refine G_q rfl (op_move (av := .exact (.bool false)) rfl ?_)
              refine G_n rfl rfl ?_
              refine G_n rfl rfl ?_
              refine G_n rfl rfl ?_
              refine G_q rfl (op_pick_f rfl (av := .exact (.bool false)) rfl ?_)
              refine G_q rfl (op_move (av := .exact (.bool false)) rfl ?_)
              refine G_n rfl rfl ?_
              refine G_n rfl rfl ?_
              refine G_n rfl rfl ?_
              refine G_q rfl (op_pick_f rfl (av := .exact (.bool false)) rfl ?_)
              refine G_q rfl (op_assign (av := .exact (.bool false)) rfl ?_)
              refine G_nil ?_
              refine kI_normal ⟨_, h, ?_⟩
              refine Sub.trans (SubU.to SubU.drop) ?_
              exact Sub.of_le (AF.le_put (AV.le_eq rfl) (AF.le_top _))
          · replace h := ite_f h hc
            refine G_n rfl rfl ?_
            refine G_n rfl rfl ?_
            refine G_n rfl rfl ?_
            refine G_n rfl rfl ?_
            refine G_q rfl (op_pick_f rfl (av := .exact (.bool false)) rfl ?_)
            refine G_q rfl (op_move (av := .exact (.bool false)) rfl ?_)
            refine G_n rfl rfl ?_
            refine G_n rfl rfl ?_
            refine G_q rfl (op_pick_f rfl (av := .exact (.bool false)) rfl ?_)
            refine G_q rfl (op_move (av := .exact (.bool false)) rfl ?_)
            refine G_n rfl rfl ?_
            refine G_n rfl rfl ?_
            refine G_q rfl (op_pick_f rfl (av := .exact (.bool false)) rfl ?_)
            refine G_q rfl (op_move (av := .exact (.bool false)) rfl ?_)
            refine G_n rfl rfl ?_
            refine G_n rfl rfl ?_
            refine G_n rfl rfl ?_
            refine G_q rfl (op_pick_f rfl (av := .exact (.bool false)) rfl ?_)
            refine G_q rfl (op_move (av := .exact (.bool false)) rfl ?_)
            refine G_n rfl rfl ?_
            refine G_n rfl rfl ?_
            refine G_n rfl rfl ?_
            refine G_q rfl (op_pick_f rfl (av := .exact (.bool false)) rfl ?_)
            refine G_q rfl (op_assign (av := .exact (.bool false)) rfl ?_)
            refine G_nil ?_
            refine kI_normal ⟨_, h, ?_⟩
            refine Sub.trans (SubU.to SubU.drop) ?_
            exact Sub.of_le (AF.le_put (AV.le_eq rfl) (AF.le_top _))
        · replace h := ite_f h hc
          refine G_n rfl rfl ?_
          refine G_n rfl rfl ?_
          refine G_n rfl rfl ?_
          refine G_q rfl (op_pick_f rfl (av := .exact (.bool false)) rfl ?_)
          refine G_q rfl (op_move (av := .exact (.bool false)) rfl ?_)
          refine G_n rfl rfl ?_
          refine G_n rfl rfl ?_
          refine G_n rfl rfl ?_
          refine G_n rfl rfl ?_
          refine G_q rfl (op_pick_f rfl (av := .exact (.bool false)) rfl ?_)
          refine G_q rfl (op_move (av := .exact (.bool false)) rfl ?_)
          refine G_n rfl rfl ?_
          refine G_n rfl rfl ?_
          refine G_q rfl (op_pick_f rfl (av := .exact (.bool false)) rfl ?_)
          refine G_q rfl (op_move (av := .exact (.bool false)) rfl ?_)
          refine G_n rfl rfl ?_
          refine G_n rfl rfl ?_
          refine G_q rfl (op_pick_f rfl (av := .exact (.bool false)) rfl ?_)
          refine G_q rfl (op_move (av := .exact (.bool false)) rfl ?_)
          refine G_n rfl rfl ?_
          refine G_n rfl rfl ?_
          refine G_n rfl rfl ?_
          refine G_q rfl (op_pick_f rfl (av := .exact (.bool false)) rfl ?_)
          refine G_q rfl (op_move (av := .exact (.bool false)) rfl ?_)
          refine G_n rfl rfl ?_
          refine G_n rfl rfl ?_
          refine G_n rfl rfl ?_
          refine G_q rfl (op_pick_f rfl (av := .exact (.bool false)) rfl ?_)
          refine G_q rfl (op_assign (av := .exact (.bool false)) rfl ?_)
          refine G_nil ?_
          refine kI_normal ⟨_, h, ?_⟩
          refine Sub.trans (SubU.to SubU.drop) ?_
          exact Sub.of_le (AF.le_put (AV.le_eq rfl) (AF.le_top _))
      · replace h := ite_f h hc
        refine G_n rfl rfl ?_
        refine G_n rfl rfl ?_
        refine G_n rfl rfl ?_
        refine G_q rfl (op_pick_f rfl (av := .exact (.bool false)) rfl ?_)
        refine G_q rfl (op_move (av := .exact (.bool false)) rfl ?_)
        refine G_n rfl rfl ?_
        refine G_n rfl rfl ?_
        refine G_n rfl rfl ?_
        refine G_q rfl (op_pick_f rfl (av := .exact (.bool false)) rfl ?_)
        refine G_q rfl (op_move (av := .exact (.bool false)) rfl ?_)
        refine G_n rfl rfl ?_
        refine G_n rfl rfl ?_
        refine G_n rfl rfl ?_
        refine G_n rfl rfl ?_
        refine G_q rfl (op_pick_f rfl (av := .exact (.bool false)) rfl ?_)
        refine G_q rfl (op_move (av := .exact (.bool false)) rfl ?_)
        refine G_n rfl rfl ?_
        refine G_n rfl rfl ?_
        refine G_q rfl (op_pick_f rfl (av := .exact (.bool false)) rfl ?_)
        refine G_q rfl (op_move (av := .exact (.bool false)) rfl ?_)
        refine G_n rfl rfl ?_
        refine G_n rfl rfl ?_
        refine G_q rfl (op_pick_f rfl (av := .exact (.bool false)) rfl ?_)
        refine G_q rfl (op_move (av := .exact (.bool false)) rfl ?_)
        refine G_n rfl rfl ?_
        refine G_n rfl rfl ?_
        refine G_n rfl rfl ?_
        refine G_q rfl (op_pick_f rfl (av := .exact (.bool false)) rfl ?_)
        refine G_q rfl (op_move (av := .exact (.bool false)) rfl ?_)
        refine G_n rfl rfl ?_
        refine G_n rfl rfl ?_
        refine G_n rfl rfl ?_
        refine G_q rfl (op_pick_f rfl (av := .exact (.bool false)) rfl ?_)
        refine G_q rfl (op_assign (av := .exact (.bool false)) rfl ?_)
        refine G_nil ?_
        refine kI_normal ⟨_, h, ?_⟩
        refine Sub.trans (SubU.to SubU.drop) ?_
        exact Sub.of_le (AF.le_put (AV.le_eq rfl) (AF.le_top _))
    · replace h := ite_f h hc
      refine G_n rfl rfl ?_
      refine G_n rfl rfl ?_
      refine G_n rfl rfl ?_
      refine G_q rfl (op_pick_f rfl (av := .exact (.bool false)) rfl ?_)
      refine G_q rfl (op_move (av := .exact (.bool false)) rfl ?_)
      refine G_n rfl rfl ?_
      refine G_n rfl rfl ?_
      refine G_n rfl rfl ?_
      refine G_q rfl (op_pick_f rfl (av := .exact (.bool false)) rfl ?_)
      refine G_q rfl (op_move (av := .exact (.bool false)) rfl ?_)
      refine G_n rfl rfl ?_
      refine G_n rfl rfl ?_
      refine G_n rfl rfl ?_
      refine G_q rfl (op_pick_f rfl (av := .exact (.bool false)) rfl ?_)
      refine G_q rfl (op_move (av := .exact (.bool false)) rfl ?_)
      refine G_n rfl rfl ?_
      refine G_n rfl rfl ?_
      refine G_n rfl rfl ?_
      refine G_n rfl rfl ?_
      refine G_q rfl (op_pick_f rfl (av := .exact (.bool false)) rfl ?_)
      refine G_q rfl (op_move (av := .exact (.bool false)) rfl ?_)
      refine G_n rfl rfl ?_
      refine G_n rfl rfl ?_
      refine G_q rfl (op_pick_f rfl (av := .exact (.bool false)) rfl ?_)
      refine G_q rfl (op_move (av := .exact (.bool false)) rfl ?_)
      refine G_n rfl rfl ?_
      refine G_n rfl rfl ?_
      refine G_q rfl (op_pick_f rfl (av := .exact (.bool false)) rfl ?_)
      refine G_q rfl (op_move (av := .exact (.bool false)) rfl ?_)
      refine G_n rfl rfl ?_
      refine G_n rfl rfl ?_
      refine G_n rfl rfl ?_
      refine G_q rfl (op_pick_f rfl (av := .exact (.bool false)) rfl ?_)
      refine G_q rfl (op_move (av := .exact (.bool false)) rfl ?_)
      refine G_n rfl rfl ?_
      refine G_n rfl rfl ?_
      refine G_n rfl rfl ?_
      refine G_q rfl (op_pick_f rfl (av := .exact (.bool false)) rfl ?_)
      refine G_q rfl (op_assign (av := .exact (.bool false)) rfl ?_)
      refine G_nil ?_
      refine kI_normal ⟨_, h, ?_⟩
      refine Sub.trans (SubU.to SubU.drop) ?_
      exact Sub.of_le (AF.le_put (AV.le_eq rfl) (AF.le_top _))
  · refine k_ret ?_
    obtain rfl := Option.some.inj h
    refine kP_any (endN (af' := (AF.put AF0 (some 6) (.exact (.bool x6_j5)))) (σ' := []) _ rfl ?_ ⟨rfl, rfl⟩)
    exact Sub.of_le (AF.le_put (AV.le_eq rfl) (AF.le_top _))
end Go.Proofs.YtdbnodliomlilaaGreat
