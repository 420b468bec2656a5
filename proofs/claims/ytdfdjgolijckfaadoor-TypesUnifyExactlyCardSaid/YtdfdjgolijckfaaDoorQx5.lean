/- The functions compute their models, by program. -/
import Derived.Test.YtdfdjgolijckfaaDoorQx4
namespace Go.Proofs.YtdfdjgolijckfaaDoor
open Go.RowKit
attribute [local irreducible] AV.exact AV.top AV.row AV.ptr AV.agg AV.tup AV.eptr AV.fn AV.nilq AV.nilqn opA opB opM opR Quiet Loud Reads wpG awp den Sub SubU Pure Fun vecI vecT boxI CellsAll CellsOf OneC LEs LEss
set_option maxRecDepth 100000

set_option maxHeartbeats 4000000 in
theorem m_terms_Unifier_Unify_F_ok {w0 : Nat} {bs : List Nat} (self_terms_Unifier_Unify : (List ((Int × Int) × Bool)) → Int → Int → (List (Int × Int × (List Int) × Int)) → Option (Int × (List ((Int × Int) × Bool)) × (List (Int × Int × (List Int) × Int)))) (hself_terms_Unifier_Unify : ∀ ⦃w0 : Nat⦄ ⦃bs : List Nat⦄ (a0 : List ((Int × Int) × Bool)) (a1 : Int) (a2 : Int) (a3 : List (Int × Int × (List Int) × Int)) (r : Int × (List ((Int × Int) × Bool)) × (List (Int × Int × (List Int) × Int))), self_terms_Unifier_Unify a0 a1 a2 a3 = some r → Fun Tryd.prog 41 [(.exact (.map (some w0))), (refA bs a1), (refA bs a2)] [mapI (refOk2 bs) (refV2 bs) (fun x : Bool => .exact (.bool x)) w0 a0, hpI 72 (c_terms_Term bs) bs a3] (fun a s => a = .exact (.int .i64 r.1) ∧ s = [mapI (refOk2 bs) (refV2 bs) (fun x : Bool => .exact (.bool x)) w0 r.2.1, hpI 72 (c_terms_Term bs) bs r.2.2])) (a0 : List ((Int × Int) × Bool)) (a1 : Int) (a2 : Int) (a3 : List (Int × Int × (List Int) × Int)) (r : Int × (List ((Int × Int) × Bool)) × (List (Int × Int × (List Int) × Int))) (h : m_terms_Unifier_Unify_F self_terms_Unifier_Unify a0 a1 a2 a3 = some r) : Fun Tryd.prog 41 [(.exact (.map (some w0))), (refA bs a1), (refA bs a2)] [mapI (refOk2 bs) (refV2 bs) (fun x : Bool => .exact (.bool x)) w0 a0, hpI 72 (c_terms_Term bs) bs a3] (fun a s => a = .exact (.int .i64 r.1) ∧ s = [mapI (refOk2 bs) (refV2 bs) (fun x : Bool => .exact (.bool x)) w0 r.2.1, hpI 72 (c_terms_Term bs) bs r.2.2]) := by
  unfold m_terms_Unifier_Unify_F at h
  refine fun_nd (List.Mem.tail _ (List.Mem.head _)) (fun hnd => ?_)
  refine fun_of_awp Tryd.func41 rfl Tryd.ntmps41 (by simp) rfl (res1 rfl) fun E hE => k_end ?_
  refine k_seq ?_
  refine k_reg .free hmixP (by kernel_rfl) ?_
  refine G_q rfl (op_assign (av := .exact (.int .i64 0)) rfl ?_)
  refine G_nil ?_
  refine kC_normal ?_
  refine k_seq ?_
  refine k_reg .free hmixP (by kernel_rfl) ?_
  refine G_q rfl (op_move (av := refA bs a1) rfl ?_)
  obtain ⟨y1, hy1, h⟩ := bnd1_some h
  refine G_l rfl (opB_f1 (op_fun_1_0_1 (m_terms_Term_Find_ok _ _ _ hy1) Tryd.func73 (by kernel_rfl) (LEs.cons (AV.le_eq rfl) LEs.nil) ?_))
  refine G_q rfl (op_move (av := refA bs a2) rfl ?_)
  obtain ⟨y2, hy2, h⟩ := bnd1_some h
  refine G_l rfl (op_fun_1_0_1 (m_terms_Term_Find_ok _ _ _ hy2) Tryd.func73 (by kernel_rfl) (LEs.cons (AV.le_eq rfl) LEs.nil) ?_)
  refine G_q rfl (op_assign (av := refA bs y1.1) rfl ?_)
  refine G_q rfl (op_assign (av := refA bs y2.1) rfl ?_)
  refine G_nil ?_
  refine kC_normal ?_
  refine k_seq ?_
  refine k_join1_0 h (fun (x22_j7 : Bool) => (AF.put (AF.put (AF.put (AF.put AF0 (some 0) (.exact (.map (some w0)))) (some 1) (refA bs y1.1)) (some 2) (refA bs y2.1)) (some 22) (.exact (.bool x22_j7)))) (fun (x22_j7 : Bool) => [hpI 72 (c_terms_Term bs) bs y2.2, mapI (refOk2 bs) (refV2 bs) (fun x : Bool => .exact (.bool x)) w0 a0]) (fun k7 h => ?_) (fun x22_j7 h => ?_)
  · refine k_reg .free hmixP (by kernel_rfl) ?_
    refine G_q rfl (op_move (av := refA bs y1.1) rfl ?_)
    refine G_q rfl (op_move (av := refA bs y2.1) rfl ?_)
    refine G_r rfl (op_eq_refH (by kernel_rfl) (by kernel_rfl) rfl rfl ?_)
    refine G_q rfl (op_move (av := .exact (.bool (decide (y1.1 = y2.1)))) rfl ?_)
    refine G_split (p := y1.1 = y2.1) 16 rfl (fun hc => ?_) (fun hc => ?_)
    · replace h := ite_t h hc
      refine G_n rfl rfl ?_
      refine G_n rfl rfl ?_
      refine G_n rfl rfl ?_
      refine G_n rfl rfl ?_
      refine G_n rfl rfl ?_
      refine G_q rfl (op_pick_t rfl (av := .exact (.bool true)) rfl ?_)
      refine G_nil ?_
      refine kI_normal ⟨_, h, ?_⟩
      exact Sub.of_le (AF.le_put (AV.le_eq rfl) (AF.le_put (AV.le_eq rfl) (AF.le_put (AV.le_eq rfl) (AF.le_put (AV.le_eq rfl) (AF.le_top _)))))
    · replace h := ite_f h hc
      refine Gy_q rfl rfl rfl (op_move (av := .exact (.map (some w0))) rfl ?_)
      refine Gy_q rfl rfl rfl (op_move (av := refA bs y1.1) rfl ?_)
      refine Gy_q rfl rfl rfl (op_move (av := refA bs y2.1) rfl ?_)
      refine Gy_q rfl rfl rfl (op_bld (c' := (c_A2_P_terms_Term bs) (y1.1, y2.1)) (CellsAll.cons rfl CellsOf.ref (CellsAll.cons rfl CellsOf.ref CellsAll.nil)) rfl (LEs.cons (AV.le_eq rfl) (LEs.cons (AV.le_eq rfl) LEs.nil)) ?_)
      obtain ⟨n9, h⟩ := need_some h
      refine Gy_r rfl rfl rfl (op_mlook (z := (false : Bool)) (List.Mem.tail _ (List.Mem.head _)) (keyOk_ref2 Tryd.underlying107 (by kernel_rfl) (by kernel_rfl) (by kernel_rfl) hnd) (fun _ _ hg => hp_W (List.Mem.head _) hg) Tryd.underlying67 (fun _ w => ⟨_, Tryd.zeroValue4 w, zp_exact⟩) rfl (keyAV_ref2 (k := (y1.1, y2.1)) rfl n9.1 n9.2) ?_)
      refine G_q rfl (op_pick_f rfl (av := .exact (.bool (Option.getD (lookL a0 (y1.1, y2.1)) false))) rfl ?_)
      refine G_nil ?_
      refine kI_normal ⟨_, h, ?_⟩
      exact Sub.of_le (AF.le_put (AV.le_eq rfl) (AF.le_put (AV.le_eq rfl) (AF.le_put (AV.le_eq rfl) (AF.le_put (AV.le_eq rfl) (AF.le_top _)))))
  · refine k_cond_b (c := x22_j7) rfl (fun hc => ?_) (fun hc => ?_)
    · replace h := ite_t h hc
      refine k_seq ?_
      refine k_reg .free hmixP (by kernel_rfl) ?_
      refine G_q rfl (op_assign (av := .exact (.int .i64 0)) rfl ?_)
      refine G_nil ?_
      refine kC_normal ?_
      refine k_ret ?_
      refine kC_ret ?_
      obtain rfl := Option.some.inj h
      refine kP_any (endN (af' := (AF.put AF0 (some 6) (.exact (.int .i64 0)))) (σ' := [mapI (refOk2 bs) (refV2 bs) (fun x : Bool => .exact (.bool x)) w0 a0, hpI 72 (c_terms_Term bs) bs y2.2]) _ rfl ?_ ⟨rfl, rfl⟩)
      refine Sub.trans (SubU.to SubU.f1) ?_
      exact Sub.of_le (AF.le_put (AV.le_eq rfl) (AF.le_top _))
    · replace h := ite_f h hc
      refine k_skip ?_
      refine kC_normal ?_
      refine k_seq ?_
      refine k_join1_0 h (fun (x34_j22 : Bool) => (AF.put (AF.put (AF.put (AF.put AF0 (some 0) (.exact (.map (some w0)))) (some 1) (refA bs y1.1)) (some 2) (refA bs y2.1)) (some 34) (.exact (.bool x34_j22)))) (fun (x34_j22 : Bool) => [hpI 72 (c_terms_Term bs) bs y2.2, mapI (refOk2 bs) (refV2 bs) (fun x : Bool => .exact (.bool x)) w0 a0]) (fun k22 h => ?_) (fun x34_j22 h => ?_)
      · refine k_reg .free hmixP (by kernel_rfl) ?_
        refine G_q rfl (op_move (av := refA bs y1.1) rfl ?_)
        obtain ⟨n25, h⟩ := need_some h
        refine G_q rfl (op_nilC_ref rfl n25 ?_)
        refine G_q rfl (op_field_hpt (o := 0) (by kernel_rfl) rfl ?_)
        refine G_r rfl (op_load_hptH (i := y1.1) (o := 0) (a := .exact (.int .i64 ((gi y2.2 y1.1).1))) (by kernel_rfl) rfl rfl ?_)
        refine G_q rfl (op_eql rfl rfl ?_)
        refine G_q rfl (op_move (av := .exact (.bool (decide (((gi y2.2 y1.1).1) = 1)))) rfl ?_)
        refine G_split (p := ((gi y2.2 y1.1).1) = 1) 28 rfl (fun hc => ?_) (fun hc => ?_)
        · replace h := ite_t h hc
          refine Gy_q rfl rfl rfl (op_move (av := refA bs y2.1) rfl ?_)
          obtain ⟨n26, h⟩ := need_some h
          refine Gy_q rfl rfl rfl (op_nilC_ref rfl n26 ?_)
          refine Gy_q rfl rfl rfl (op_field_hpt (o := 0) (by kernel_rfl) rfl ?_)
          refine Gy_r rfl rfl rfl (op_load_hptH (i := y2.1) (o := 0) (a := .exact (.int .i64 ((gi y2.2 y2.1).1))) (by kernel_rfl) rfl rfl ?_)
          refine Gy_q rfl rfl rfl (op_eql rfl rfl ?_)
          refine G_q rfl (op_pick_t rfl (av := .exact (.bool (decide (((gi y2.2 y2.1).1) = 1)))) rfl ?_)
          refine G_nil ?_
          refine kI_normal ⟨_, h, ?_⟩
          exact Sub.of_le (AF.le_put (AV.le_eq rfl) (AF.le_put (AV.le_eq rfl) (AF.le_put (AV.le_eq rfl) (AF.le_put (AV.le_eq rfl) (AF.le_top _)))))
        · replace h := ite_f h hc
          refine G_n rfl rfl ?_
          refine G_n rfl rfl ?_
          refine G_n rfl rfl ?_
          refine G_n rfl rfl ?_
          refine G_n rfl rfl ?_
          refine G_q rfl (op_pick_f rfl (av := .exact (.bool false)) rfl ?_)
          refine G_nil ?_
          refine kI_normal ⟨_, h, ?_⟩
          exact Sub.of_le (AF.le_put (AV.le_eq rfl) (AF.le_put (AV.le_eq rfl) (AF.le_put (AV.le_eq rfl) (AF.le_put (AV.le_eq rfl) (AF.le_top _)))))
      · refine k_cond_b (c := x34_j22) rfl (fun hc => ?_) (fun hc => ?_)
        · replace h := ite_t h hc
          refine k_join2_0 h (fun (x1_j27 : Int) (x2_j27 : Int) => (AF.put (AF.put (AF.put AF0 (some 0) (.exact (.map (some w0)))) (some 1) (refA bs x1_j27)) (some 2) (refA bs x2_j27))) (fun (x1_j27 : Int) (x2_j27 : Int) => [hpI 72 (c_terms_Term bs) bs y2.2, mapI (refOk2 bs) (refV2 bs) (fun x : Bool => .exact (.bool x)) w0 a0]) (fun k27 h => ?_) (fun x1_j27 x2_j27 h => ?_)
          · refine k_seq ?_
            refine k_plan [] [(0, 0), (0, 1), (0, 2), (0, 4), (0, 5), (0, 6), (1, 3), (1, 7), (0, 8)] hmixP (by kernel_rfl) ?_
            refine P_q no34_0 rfl (op_move (av := refA bs y1.1) rfl ?_)
            obtain ⟨n30, h⟩ := need_some h
            refine P_q no34_0 rfl (op_nilC_ref rfl n30 ?_)
            refine P_q no34_0 rfl (op_field_hpt (o := 1) (by kernel_rfl) rfl ?_)
            refine P_q no34_0 rfl (op_move (av := refA bs y2.1) rfl ?_)
            obtain ⟨n31, h⟩ := need_some h
            refine P_q no34_0 rfl (op_nilC_ref rfl n31 ?_)
            refine P_q no34_0 rfl (op_field_hpt (o := 1) (by kernel_rfl) rfl ?_)
            refine P_r rfl (op_load_hptH (i := y1.1) (o := 1) (a := .exact (.int .i64 ((gi y2.2 y1.1).2.1))) (by kernel_rfl) rfl rfl ?_)
            refine P_r rfl (op_load_hptH (i := y2.1) (o := 1) (a := .exact (.int .i64 ((gi y2.2 y2.1).2.1))) (by kernel_rfl) rfl rfl ?_)
            refine P_q no34_0 rfl (op_lss rfl rfl ?_)
            refine P_nil ?_
            refine kC_normal ?_
            refine k_cond_d (p := ((gi y2.2 y1.1).2.1) < ((gi y2.2 y2.1).2.1)) rfl (fun hc => ?_) (fun hc => ?_)
            · replace h := ite_t h hc
              refine k_reg .free hmixP (by kernel_rfl) ?_
              refine G_q rfl (op_move (av := refA bs y2.1) rfl ?_)
              refine G_q rfl (op_move (av := refA bs y1.1) rfl ?_)
              refine G_q rfl (op_assign (av := refA bs y2.1) rfl ?_)
              refine G_q rfl (op_assign (av := refA bs y1.1) rfl ?_)
              refine G_nil ?_
              refine kI_normal ⟨_, _, h, ?_⟩
              exact Sub.of_le (AF.le_put (AV.le_eq rfl) (AF.le_put (AV.le_eq rfl) (AF.le_put (AV.le_eq rfl) (AF.le_top _))))
            · replace h := ite_f h hc
              refine k_skip ?_
              refine kI_normal ⟨_, _, h, ?_⟩
              exact Sub.of_le (AF.le_put (AV.le_eq rfl) (AF.le_put (AV.le_eq rfl) (AF.le_put (AV.le_eq rfl) (AF.le_top _))))
          · refine k_seq ?_
            refine k_reg .free hmixP (by kernel_rfl) ?_
            refine G_q rfl (op_move (av := refA bs x1_j27) rfl ?_)
            refine G_q rfl (op_move (av := refA bs x2_j27) rfl ?_)
            obtain ⟨n32, h⟩ := need_some h
            refine G_q rfl (op_nilC_ref rfl n32 ?_)
            refine G_q rfl (op_field_hpt (o := 3) (by kernel_rfl) rfl ?_)
            refine G_l rfl (op_store_hpt (i := x1_j27) (o := 3) (z := ((gi y2.2 x1_j27).1, (gi y2.2 x1_j27).2.1, (gi y2.2 x1_j27).2.2.1, x2_j27)) (c' := [refA bs x2_j27]) rfl rfl CellsOf.ref (LEs.cons (AV.le_eq rfl) LEs.nil) (OneC.ref OneC.nil) (by kernel_rfl) (Nat.le_of_ble_eq_true rfl) rfl ?_)
            refine G_nil ?_
            refine kC_normal ?_
            refine k_seq ?_
            refine k_reg .free hmixP (by kernel_rfl) ?_
            refine G_q rfl (op_assign (av := .exact (.int .i64 0)) rfl ?_)
            refine G_nil ?_
            refine kC_normal ?_
            refine k_ret ?_
            refine kC_ret ?_
            obtain rfl := Option.some.inj h
            refine kP_any (endN (af' := (AF.put AF0 (some 6) (.exact (.int .i64 0)))) (σ' := [mapI (refOk2 bs) (refV2 bs) (fun x : Bool => .exact (.bool x)) w0 a0, hpI 72 (c_terms_Term bs) bs (List.set y2.2 (Int.toNat x1_j27) ((gi y2.2 x1_j27).1, (gi y2.2 x1_j27).2.1, (gi y2.2 x1_j27).2.2.1, x2_j27))]) _ rfl ?_ ⟨rfl, rfl⟩)
            refine Sub.trans (SubU.to SubU.f1) ?_
            exact Sub.of_le (AF.le_put (AV.le_eq rfl) (AF.le_top _))
        · replace h := ite_f h hc
          refine k_skip ?_
          refine kC_normal ?_
          refine k_join2_0 h (fun (x1_j33 : Int) (x2_j33 : Int) => (AF.put (AF.put (AF.put AF0 (some 0) (.exact (.map (some w0)))) (some 1) (refA bs x1_j33)) (some 2) (refA bs x2_j33))) (fun (x1_j33 : Int) (x2_j33 : Int) => [hpI 72 (c_terms_Term bs) bs y2.2, mapI (refOk2 bs) (refV2 bs) (fun x : Bool => .exact (.bool x)) w0 a0]) (fun k33 h => ?_) (fun x1_j33 x2_j33 h => ?_)
          · refine k_seq ?_
            refine k_reg .free hmixP (by kernel_rfl) ?_
            refine G_q rfl (op_move (av := refA bs y2.1) rfl ?_)
            obtain ⟨n35, h⟩ := need_some h
            refine G_q rfl (op_nilC_ref rfl n35 ?_)
            refine G_q rfl (op_field_hpt (o := 0) (by kernel_rfl) rfl ?_)
            refine G_r rfl (op_load_hptH (i := y2.1) (o := 0) (a := .exact (.int .i64 ((gi y2.2 y2.1).1))) (by kernel_rfl) rfl rfl ?_)
            refine G_q rfl (op_eql rfl rfl ?_)
            refine G_nil ?_
            refine kC_normal ?_
            refine k_cond_d (p := ((gi y2.2 y2.1).1) = 1) rfl (fun hc => ?_) (fun hc => ?_)
            · replace h := ite_t h hc
              refine k_reg .free hmixP (by kernel_rfl) ?_
              refine G_q rfl (op_move (av := refA bs y2.1) rfl ?_)
              refine G_q rfl (op_move (av := refA bs y1.1) rfl ?_)
              refine G_q rfl (op_assign (av := refA bs y2.1) rfl ?_)
              refine G_q rfl (op_assign (av := refA bs y1.1) rfl ?_)
              refine G_nil ?_
              refine kI_normal ⟨_, _, h, ?_⟩
              exact Sub.of_le (AF.le_put (AV.le_eq rfl) (AF.le_put (AV.le_eq rfl) (AF.le_put (AV.le_eq rfl) (AF.le_top _))))
            · replace h := ite_f h hc
              refine k_skip ?_
              refine kI_normal ⟨_, _, h, ?_⟩
              exact Sub.of_le (AF.le_put (AV.le_eq rfl) (AF.le_put (AV.le_eq rfl) (AF.le_put (AV.le_eq rfl) (AF.le_top _))))
          · refine k_seq ?_
            refine k_seq ?_
            refine k_reg .free hmixP (by kernel_rfl) ?_
            refine G_q rfl (op_move (av := refA bs x1_j33) rfl ?_)
            obtain ⟨n36, h⟩ := need_some h
            refine G_q rfl (op_nilC_ref rfl n36 ?_)
            refine G_q rfl (op_field_hpt (o := 0) (by kernel_rfl) rfl ?_)
            refine G_r rfl (op_load_hptH (i := x1_j33) (o := 0) (a := .exact (.int .i64 ((gi y2.2 x1_j33).1))) (by kernel_rfl) rfl rfl ?_)
            refine G_q rfl (op_eql rfl rfl ?_)
            refine G_nil ?_
            refine kC_normal ?_
            refine k_cond_d (p := ((gi y2.2 x1_j33).1) = 1) rfl (fun hc => ?_) (fun hc => ?_)
            · replace h := ite_t h hc
              refine k_seq ?_
              refine k_seq ?_
              refine k_reg .free hmixP (by kernel_rfl) ?_
              refine G_q rfl (op_move (av := refA bs x1_j33) rfl ?_)
              refine G_q rfl (op_move (av := refA bs x2_j33) rfl ?_)
              refine G_l rfl (op_mnew (V := (refOk bs)) (kv := (refV bs)) (vv := (fun x : Bool => .exact (.bool x))) (fun b37 => ?_))
              obtain ⟨y38, hy38, h⟩ := bnd1_some h
              refine G_l rfl (opB_f1 (opB_f1 (op_fun_2_0_2 (m_occ_ok _ _ _ _ _ hy38) Tryd.func74 (by kernel_rfl) (LEs.cons (AV.le_eq rfl) (LEs.cons (AV.le_eq rfl) (LEs.cons (AV.le_eq rfl) LEs.nil))) ?_)))
              refine G_nil ?_
              refine kC_normal ?_
              refine k_cond_b (c := y38.1) rfl (fun hc => ?_) (fun hc => ?_)
              · replace h := ite_t h hc
                refine k_seq ?_
                refine k_reg .free hmixP (by kernel_rfl) ?_
                refine G_q rfl (op_assign (av := .exact (.int .i64 8)) rfl ?_)
                refine G_nil ?_
                refine kC_normal ?_
                refine k_ret ?_
                refine kC_ret ?_
                refine kC_ret ?_
                obtain rfl := Option.some.inj h
                refine kP_any (endN (af' := (AF.put AF0 (some 6) (.exact (.int .i64 8)))) (σ' := [mapI (refOk2 bs) (refV2 bs) (fun x : Bool => .exact (.bool x)) w0 a0, hpI 72 (c_terms_Term bs) bs y38.2.2]) _ rfl ?_ ⟨rfl, rfl⟩)
                refine Sub.trans (SubU.to SubU.drop) ?_
                refine Sub.trans (SubU.to SubU.f1) ?_
                exact Sub.of_le (AF.le_put (AV.le_eq rfl) (AF.le_top _))
              · replace h := ite_f h hc
                refine k_skip ?_
                refine kC_normal ?_
                refine k_seq ?_
                refine k_reg .free hmixP (by kernel_rfl) ?_
                refine G_q rfl (op_move (av := refA bs x1_j33) rfl ?_)
                refine G_q rfl (op_move (av := refA bs x2_j33) rfl ?_)
                obtain ⟨n39, h⟩ := need_some h
                refine G_q rfl (op_nilC_ref rfl n39 ?_)
                refine G_q rfl (op_field_hpt (o := 3) (by kernel_rfl) rfl ?_)
                refine G_l rfl (opB_f1 (op_store_hpt (i := x1_j33) (o := 3) (z := ((gi y38.2.2 x1_j33).1, (gi y38.2.2 x1_j33).2.1, (gi y38.2.2 x1_j33).2.2.1, x2_j33)) (c' := [refA bs x2_j33]) rfl rfl CellsOf.ref (LEs.cons (AV.le_eq rfl) LEs.nil) (OneC.ref OneC.nil) (by kernel_rfl) (Nat.le_of_ble_eq_true rfl) rfl ?_))
                refine G_nil ?_
                refine kC_normal ?_
                refine k_seq ?_
                refine k_reg .free hmixP (by kernel_rfl) ?_
                refine G_q rfl (op_assign (av := .exact (.int .i64 0)) rfl ?_)
                refine G_nil ?_
                refine kC_normal ?_
                refine k_ret ?_
                refine kC_ret ?_
                obtain rfl := Option.some.inj h
                refine kP_any (endN (af' := (AF.put AF0 (some 6) (.exact (.int .i64 0)))) (σ' := [mapI (refOk2 bs) (refV2 bs) (fun x : Bool => .exact (.bool x)) w0 a0, hpI 72 (c_terms_Term bs) bs (List.set y38.2.2 (Int.toNat x1_j33) ((gi y38.2.2 x1_j33).1, (gi y38.2.2 x1_j33).2.1, (gi y38.2.2 x1_j33).2.2.1, x2_j33))]) _ rfl ?_ ⟨rfl, rfl⟩)
                refine Sub.trans (SubU.to SubU.f1) ?_
                refine Sub.trans (SubU.to SubU.drop) ?_
                refine Sub.trans (SubU.to SubU.f1) ?_
                exact Sub.of_le (AF.le_put (AV.le_eq rfl) (AF.le_top _))
            · replace h := ite_f h hc
              refine k_skip ?_
              refine kC_normal ?_
              refine k_seq ?_
              refine k_join1_0 h (fun (x102_j54 : Bool) => (AF.put (AF.put (AF.put (AF.put AF0 (some 0) (.exact (.map (some w0)))) (some 1) (refA bs x1_j33)) (some 2) (refA bs x2_j33)) (some 102) (.exact (.bool x102_j54)))) (fun (x102_j54 : Bool) => [hpI 72 (c_terms_Term bs) bs y2.2, mapI (refOk2 bs) (refV2 bs) (fun x : Bool => .exact (.bool x)) w0 a0]) (fun k54 h => ?_) (fun x102_j54 h => ?_)
              · refine k_plan [] [(0, 0), (0, 1), (0, 2), (0, 4), (0, 5), (0, 6), (1, 3), (1, 7), (0, 8), (0, 9), (0, 10), (0, 11), (0, 12), (0, 14), (0, 15), (0, 16), (1, 13), (1, 17), (0, 18), (0, 19), (0, 20), (0, 21), (0, 22), (0, 23), (0, 26), (0, 27), (0, 28), (1, 24), (0, 25), (1, 29), (0, 30), (0, 31), (0, 32)] hmixP (by kernel_rfl) ?_
                refine P_q no34_0 rfl (op_move (av := refA bs x1_j33) rfl ?_)
                obtain ⟨n61, h⟩ := need_some h
                refine P_q no34_0 rfl (op_nilC_ref rfl n61 ?_)
                refine P_q no34_0 rfl (op_field_hpt (o := 0) (by kernel_rfl) rfl ?_)
                refine P_q no34_0 rfl (op_move (av := refA bs x2_j33) rfl ?_)
                obtain ⟨n62, h⟩ := need_some h
                refine P_q no34_0 rfl (op_nilC_ref rfl n62 ?_)
                refine P_q no34_0 rfl (op_field_hpt (o := 0) (by kernel_rfl) rfl ?_)
                refine P_r rfl (op_load_hptH (i := x1_j33) (o := 0) (a := .exact (.int .i64 ((gi y2.2 x1_j33).1))) (by kernel_rfl) rfl rfl ?_)
                refine P_r rfl (op_load_hptH (i := x2_j33) (o := 0) (a := .exact (.int .i64 ((gi y2.2 x2_j33).1))) (by kernel_rfl) rfl rfl ?_)
                refine P_q no34_0 rfl (op_neq rfl rfl ?_)
                refine P_q no34_0 rfl (op_move (av := .exact (.bool (decide (¬ ((gi y2.2 x1_j33).1) = ((gi y2.2 x2_j33).1))))) rfl ?_)
                refine P_split (p := ¬ ((gi y2.2 x1_j33).1) = ((gi y2.2 x2_j33).1)) 79 rfl (fun hc => ?_) (fun hc => ?_)
                · replace h := ite_t h hc
                  refine P_n no34_0 rfl rfl rfl ?_
                  refine P_n no34_0 rfl rfl rfl ?_
                  refine P_n no34_0 rfl rfl rfl ?_
                  refine P_n no34_0 rfl rfl rfl ?_
                  refine P_n no34_0 rfl rfl rfl ?_
                  refine P_n no34_0 rfl rfl rfl ?_
                  refine P_n no34_1 rfl rfl rfl ?_
                  refine P_n no34_1 rfl rfl rfl ?_
                  refine P_n no34_0 rfl rfl rfl ?_
                  refine P_q no34_0 rfl (op_pick_t rfl (av := .exact (.bool true)) rfl ?_)
                  refine P_q no34_0 rfl (op_move (av := .exact (.bool true)) rfl ?_)
                  refine P_n no34_0 rfl rfl rfl ?_
                  refine P_n no34_0 rfl rfl rfl ?_
                  refine P_n no34_0 rfl rfl rfl ?_
                  refine P_n no34_0 rfl rfl rfl ?_
                  refine P_n no34_0 rfl rfl rfl ?_
                  refine P_n no34_0 rfl rfl rfl ?_
                  refine P_n no34_1 rfl rfl rfl ?_
                  refine P_n no34_0 rfl rfl rfl ?_
                  refine P_n no34_1 rfl rfl rfl ?_
                  refine P_n no34_0 rfl rfl rfl ?_
                  refine P_n no34_0 rfl rfl rfl ?_
                  refine P_q no34_0 rfl (op_pick_t rfl (av := .exact (.bool true)) rfl ?_)
                  refine P_nil ?_
                  refine kI_normal ⟨_, h, ?_⟩
                  exact Sub.of_le (AF.le_put (AV.le_eq rfl) (AF.le_put (AV.le_eq rfl) (AF.le_put (AV.le_eq rfl) (AF.le_put (AV.le_eq rfl) (AF.le_top _)))))
                · replace h := ite_f h hc
                  refine Py_q no34_0 rfl rfl rfl (op_move (av := refA bs x1_j33) rfl ?_)
                  obtain ⟨n63, h⟩ := need_some h
                  refine Py_q no34_0 rfl rfl rfl (op_nilC_ref rfl n63 ?_)
                  refine Py_q no34_0 rfl rfl rfl (op_field_hpt (o := 1) (by kernel_rfl) rfl ?_)
                  refine Py_q no34_0 rfl rfl rfl (op_move (av := refA bs x2_j33) rfl ?_)
                  obtain ⟨n64, h⟩ := need_some h
                  refine Py_q no34_0 rfl rfl rfl (op_nilC_ref rfl n64 ?_)
                  refine Py_q no34_0 rfl rfl rfl (op_field_hpt (o := 1) (by kernel_rfl) rfl ?_)
                  refine Py_r rfl rfl rfl (op_load_hptH (i := x1_j33) (o := 1) (a := .exact (.int .i64 ((gi y2.2 x1_j33).2.1))) (by kernel_rfl) rfl rfl ?_)
                  refine Py_r rfl rfl rfl (op_load_hptH (i := x2_j33) (o := 1) (a := .exact (.int .i64 ((gi y2.2 x2_j33).2.1))) (by kernel_rfl) rfl rfl ?_)
                  refine Py_q no34_0 rfl rfl rfl (op_neq rfl rfl ?_)
                  refine P_q no34_0 rfl (op_pick_f rfl (av := .exact (.bool (decide (¬ ((gi y2.2 x1_j33).2.1) = ((gi y2.2 x2_j33).2.1))))) rfl ?_)
                  refine P_q no34_0 rfl (op_move (av := .exact (.bool (decide (¬ ((gi y2.2 x1_j33).2.1) = ((gi y2.2 x2_j33).2.1))))) rfl ?_)
                  refine P_split (p := ¬ ((gi y2.2 x1_j33).2.1) = ((gi y2.2 x2_j33).2.1)) 90 rfl (fun hc => ?_) (fun hc => ?_)
                  · replace h := ite_t h hc
                    refine P_n no34_0 rfl rfl rfl ?_
                    refine P_n no34_0 rfl rfl rfl ?_
                    refine P_n no34_0 rfl rfl rfl ?_
                    refine P_n no34_0 rfl rfl rfl ?_
                    refine P_n no34_0 rfl rfl rfl ?_
                    refine P_n no34_0 rfl rfl rfl ?_
                    refine P_n no34_1 rfl rfl rfl ?_
                    refine P_n no34_0 rfl rfl rfl ?_
                    refine P_n no34_1 rfl rfl rfl ?_
                    refine P_n no34_0 rfl rfl rfl ?_
                    refine P_n no34_0 rfl rfl rfl ?_
                    refine P_q no34_0 rfl (op_pick_t rfl (av := .exact (.bool true)) rfl ?_)
                    refine P_nil ?_
                    refine kI_normal ⟨_, h, ?_⟩
                    exact Sub.of_le (AF.le_put (AV.le_eq rfl) (AF.le_put (AV.le_eq rfl) (AF.le_put (AV.le_eq rfl) (AF.le_put (AV.le_eq rfl) (AF.le_top _)))))
                  · replace h := ite_f h hc
                    refine Py_q no34_0 rfl rfl rfl (op_move (av := refA bs x1_j33) rfl ?_)
                    obtain ⟨n65, h⟩ := need_some h
                    refine Py_q no34_0 rfl rfl rfl (op_nilC_ref rfl n65 ?_)
                    refine Py_q no34_0 rfl rfl rfl (op_field_hpt (o := 2) (by kernel_rfl) rfl ?_)
                    refine Py_q no34_0 rfl rfl rfl (op_move (av := refA bs x2_j33) rfl ?_)
                    obtain ⟨n66, h⟩ := need_some h
                    refine Py_q no34_0 rfl rfl rfl (op_nilC_ref rfl n66 ?_)
                    refine Py_q no34_0 rfl rfl rfl (op_field_hpt (o := 2) (by kernel_rfl) rfl ?_)
                    refine Py_r rfl rfl rfl (op_load_hptH (i := x1_j33) (o := 2) (a := .row 1 (c_P_terms_Term bs) ((gi y2.2 x1_j33).2.2.1)) (by kernel_rfl) rfl rfl ?_)
                    refine Py_q no34_0 rfl rfl rfl (op_len_row (by kernel_rfl) rfl ?_)
                    refine Py_r rfl rfl rfl (op_load_hptH (i := x2_j33) (o := 2) (a := .row 1 (c_P_terms_Term bs) ((gi y2.2 x2_j33).2.2.1)) (by kernel_rfl) rfl rfl ?_)
                    refine Py_q no34_0 rfl rfl rfl (op_len_row (by kernel_rfl) rfl ?_)
                    refine Py_q no34_0 rfl rfl rfl (op_neq rfl rfl ?_)
                    refine P_q no34_0 rfl (op_pick_f rfl (av := .exact (.bool (decide (¬ (List.length ((gi y2.2 x1_j33).2.2.1) : Int) = (List.length ((gi y2.2 x2_j33).2.2.1) : Int))))) rfl ?_)
                    refine P_nil ?_
                    refine kI_normal ⟨_, h, ?_⟩
                    exact Sub.of_le (AF.le_put (AV.le_eq rfl) (AF.le_put (AV.le_eq rfl) (AF.le_put (AV.le_eq rfl) (AF.le_put (AV.le_eq rfl) (AF.le_top _)))))
              · refine k_cond_b (c := x102_j54) rfl (fun hc => ?_) (fun hc => ?_)
                · replace h := ite_t h hc
                  refine k_seq ?_
                  refine k_reg .free hmixP (by kernel_rfl) ?_
                  refine G_q rfl (op_assign (av := .exact (.int .i64 6)) rfl ?_)
                  refine G_nil ?_
                  refine kC_normal ?_
                  refine k_ret ?_
                  refine kC_ret ?_
                  obtain rfl := Option.some.inj h
                  refine kP_any (endN (af' := (AF.put AF0 (some 6) (.exact (.int .i64 6)))) (σ' := [mapI (refOk2 bs) (refV2 bs) (fun x : Bool => .exact (.bool x)) w0 a0, hpI 72 (c_terms_Term bs) bs y2.2]) _ rfl ?_ ⟨rfl, rfl⟩)
                  refine Sub.trans (SubU.to SubU.f1) ?_
                  exact Sub.of_le (AF.le_put (AV.le_eq rfl) (AF.le_top _))
                · replace h := ite_f h hc
                  refine k_skip ?_
                  refine kC_normal ?_
                  refine k_join2_0 h (fun (xH_j67 : List (Int × Int × (List Int) × Int)) (x0_j67 : List ((Int × Int) × Bool)) => (AF.put (AF.put (AF.put AF0 (some 0) (.exact (.map (some w0)))) (some 1) (refA bs x1_j33)) (some 2) (refA bs x2_j33))) (fun (xH_j67 : List (Int × Int × (List Int) × Int)) (x0_j67 : List ((Int × Int) × Bool)) => [hpI 72 (c_terms_Term bs) bs xH_j67, mapI (refOk2 bs) (refV2 bs) (fun x : Bool => .exact (.bool x)) w0 x0_j67]) (fun k67 h => ?_) (fun xH_j67 x0_j67 h => ?_)
                  · refine k_seq ?_
                    refine k_reg .free hmixP (by kernel_rfl) ?_
                    refine G_q rfl (op_move (av := refA bs x1_j33) rfl ?_)
                    obtain ⟨n85, h⟩ := need_some h
                    refine G_q rfl (op_nilC_ref rfl n85 ?_)
                    refine G_q rfl (op_field_hpt (o := 2) (by kernel_rfl) rfl ?_)
                    refine G_r rfl (op_load_hptH (i := x1_j33) (o := 2) (a := .row 1 (c_P_terms_Term bs) ((gi y2.2 x1_j33).2.2.1)) (by kernel_rfl) rfl rfl ?_)
                    refine G_q rfl (op_len_row (by kernel_rfl) rfl ?_)
                    refine G_q rfl (op_move (av := .exact (.int .i64 0)) rfl ?_)
                    refine G_nil ?_
                    refine kC_normal ?_
                    refine k_block ?_
                    refine k_loop3_0 (m_terms_Unifier_Unify_L2 self_terms_Unifier_Unify y2 x1_j33 x2_j33 k67) (m_terms_Unifier_Unify_B2 self_terms_Unifier_Unify y2 x1_j33 x2_j33 k67) (fun _ _ _ => rfl) (fun m _ _ _ => rfl) h (fun (xH_l2 : List (Int × Int × (List Int) × Int)) (x0_l2 : List ((Int × Int) × Bool)) (x108_l2 : Int) => (AF.put (AF.put (AF.put (AF.put (AF.put AF0 (some 0) (.exact (.map (some w0)))) (some 1) (refA bs x1_j33)) (some 2) (refA bs x2_j33)) (some 107) (.exact (.int .i64 (List.length ((gi y2.2 x1_j33).2.2.1) : Int)))) (some 108) (.exact (.int .i64 x108_l2)))) (fun (xH_l2 : List (Int × Int × (List Int) × Int)) (x0_l2 : List ((Int × Int) × Bool)) (x108_l2 : Int) => [hpI 72 (c_terms_Term bs) bs xH_l2, mapI (refOk2 bs) (refV2 bs) (fun x : Bool => .exact (.bool x)) w0 x0_l2]) ?_ (fun rec2 xH_l2 x0_l2 x108_l2 h => ?_)
                    · exact Sub.of_le (AF.le_put (AV.le_eq rfl) (AF.le_put (AV.le_eq rfl) (AF.le_put (AV.le_eq rfl) (AF.le_put (AV.le_eq rfl) (AF.le_put (AV.le_eq rfl) (AF.le_top _))))))
                    · unfold m_terms_Unifier_Unify_B2 at h
                      refine k_seq ?_
                      refine k_reg .free hmixP (by kernel_rfl) ?_
                      refine G_q rfl (op_lss rfl rfl ?_)
                      refine G_nil ?_
                      refine kC_normal ?_
                      refine k_seq ?_
                      refine k_cond_d (p := x108_l2 < (List.length ((gi y2.2 x1_j33).2.2.1) : Int)) rfl (fun hc => ?_) (fun hc => ?_)
                      · replace h := ite_t h hc
                        refine k_skip ?_
                        refine kC_normal ?_
                        refine k_seq ?_
                        refine k_block ?_
                        refine k_seq ?_
                        refine k_reg .free hmixP (by kernel_rfl) ?_
                        refine G_q rfl (op_move (av := .exact (.int .i64 x108_l2)) rfl ?_)
                        refine G_q rfl (op_assign (av := .exact (.int .i64 x108_l2)) rfl ?_)
                        refine G_nil ?_
                        refine kC_normal ?_
                        refine k_seq ?_
                        refine k_plan [] [(0, 0), (0, 1), (0, 2), (0, 3), (0, 5), (0, 8), (0, 9), (0, 10), (0, 12), (1, 4), (0, 6), (0, 7), (1, 11), (0, 13), (0, 14), (2, 15), (0, 16)] hmixP (by kernel_rfl) ?_
                        refine P_q no34_0 rfl (op_move (av := .exact (.map (some w0))) rfl ?_)
                        refine P_q no34_0 rfl (op_move (av := refA bs x1_j33) rfl ?_)
                        obtain ⟨n96, h⟩ := need_some h
                        refine P_q no34_0 rfl (op_nilC_ref rfl n96 ?_)
                        refine P_q no34_0 rfl (op_field_hpt (o := 2) (by kernel_rfl) rfl ?_)
                        refine P_q no34_0 rfl (op_move (av := .exact (.int .i64 x108_l2)) rfl ?_)
                        refine P_q no34_0 rfl (op_move (av := refA bs x2_j33) rfl ?_)
                        obtain ⟨n97, h⟩ := need_some h
                        refine P_q no34_0 rfl (op_nilC_ref rfl n97 ?_)
                        refine P_q no34_0 rfl (op_field_hpt (o := 2) (by kernel_rfl) rfl ?_)
                        refine P_q no34_0 rfl (op_move (av := .exact (.int .i64 x108_l2)) rfl ?_)
                        refine P_r rfl (op_load_hptH (i := x1_j33) (o := 2) (a := .row 1 (c_P_terms_Term bs) ((gi xH_l2 x1_j33).2.2.1)) (by kernel_rfl) rfl rfl ?_)
                        obtain ⟨n98, h⟩ := need_some h
                        refine P_q no34_0 rfl (op_index_row (by kernel_rfl) rfl rfl n98.1 n98.2 ?_)
                        refine P_q no34_0 rfl (op_load1p (a := refA bs (gi ((gi xH_l2 x1_j33).2.2.1) x108_l2)) (by kernel_rfl) rfl rfl ?_)
                        refine P_r rfl (op_load_hptH (i := x2_j33) (o := 2) (a := .row 1 (c_P_terms_Term bs) ((gi xH_l2 x2_j33).2.2.1)) (by kernel_rfl) rfl rfl ?_)
                        obtain ⟨n99, h⟩ := need_some h
                        refine P_q no34_0 rfl (op_index_row (by kernel_rfl) rfl rfl n99.1 n99.2 ?_)
                        refine P_q no34_0 rfl (op_load1p (a := refA bs (gi ((gi xH_l2 x2_j33).2.2.1) x108_l2)) (by kernel_rfl) rfl rfl ?_)
                        obtain ⟨y100, hy100, h⟩ := bnd1_some h
                        refine P_l rfl (opB_f1 (op_fun_2_0_2 (hself_terms_Unifier_Unify _ _ _ _ _ hy100) Tryd.func41 (by kernel_rfl) (LEs.cons (AV.le_eq rfl) (LEs.cons (AV.le_eq rfl) (LEs.cons (AV.le_eq rfl) LEs.nil))) ?_))
                        refine P_q no34_0 rfl (op_assign (av := .exact (.int .i64 y100.1)) rfl ?_)
                        refine P_nil ?_
                        refine kC_normal ?_
                        refine k_seq ?_
                        refine k_reg .free hmixP (by kernel_rfl) ?_
                        refine G_q rfl (op_move (av := .exact (.int .i64 y100.1)) rfl ?_)
                        refine G_q rfl (op_neq rfl rfl ?_)
                        refine G_nil ?_
                        refine kC_normal ?_
                        refine k_cond_d (p := ¬ y100.1 = 0) rfl (fun hc => ?_) (fun hc => ?_)
                        · replace h := ite_t h hc
                          refine k_seq ?_
                          refine k_reg .free hmixP (by kernel_rfl) ?_
                          refine G_q rfl (op_move (av := .exact (.int .i64 y100.1)) rfl ?_)
                          refine G_q rfl (op_assign (av := .exact (.int .i64 y100.1)) rfl ?_)
                          refine G_nil ?_
                          refine kC_normal ?_
                          refine k_ret ?_
                          refine kB_ret ?_
                          refine kC_ret ?_
                          refine kI_ret ?_
                          refine kB_ret ?_
                          refine kI_ret ?_
                          obtain rfl := Option.some.inj h
                          refine kP_any (endN (af' := (AF.put AF0 (some 6) (.exact (.int .i64 y100.1)))) (σ' := [mapI (refOk2 bs) (refV2 bs) (fun x : Bool => .exact (.bool x)) w0 y100.2.1, hpI 72 (c_terms_Term bs) bs y100.2.2]) _ rfl ?_ ⟨rfl, rfl⟩)
                          exact Sub.of_le (AF.le_put (AV.le_eq rfl) (AF.le_top _))
                        · replace h := ite_f h hc
                          refine k_skip ?_
                          refine kB_normal ?_
                          refine kC_normal ?_
                          refine k_reg .free hmixP (by kernel_rfl) ?_
                          refine G_q rfl (op_add rfl rfl rfl ?_)
                          refine G_q rfl (op_move (av := .exact (.int .i64 (i64 (x108_l2 + 1)))) rfl ?_)
                          refine G_nil ?_
                          refine kI_normal ⟨_, _, _, h, ?_⟩
                          refine Sub.trans (SubU.to SubU.f1) ?_
                          exact Sub.of_le (AF.le_put (AV.le_eq rfl) (AF.le_put (AV.le_eq rfl) (AF.le_put (AV.le_eq rfl) (AF.le_put (AV.le_eq rfl) (AF.le_put (AV.le_eq rfl) (AF.le_top _))))))
                      · replace h := ite_f h hc
                        refine k_exit ?_
                        refine kC_exit ?_
                        refine kI_exit ?_
                        refine kB_exit ?_
                        refine kI_normal ⟨_, _, h, ?_⟩
                        exact Sub.of_le (AF.le_put (AV.le_eq rfl) (AF.le_put (AV.le_eq rfl) (AF.le_put (AV.le_eq rfl) (AF.le_top _))))
                  · refine k_seq ?_
                    refine k_reg .free hmixP (by kernel_rfl) ?_
                    refine G_q rfl (op_move (av := .exact (.map (some w0))) rfl ?_)
                    refine G_q rfl (op_move (av := refA bs x1_j33) rfl ?_)
                    refine G_q rfl (op_move (av := refA bs x2_j33) rfl ?_)
                    refine G_q rfl (op_bld (c' := (c_A2_P_terms_Term bs) (x1_j33, x2_j33)) (CellsAll.cons rfl CellsOf.ref (CellsAll.cons rfl CellsOf.ref CellsAll.nil)) rfl (LEs.cons (AV.le_eq rfl) (LEs.cons (AV.le_eq rfl) LEs.nil)) ?_)
                    obtain ⟨n101, h⟩ := need_some h
                    refine G_l rfl (opB_f1 (op_mput (z := true) (keyOk_ref2 Tryd.underlying107 (by kernel_rfl) (by kernel_rfl) (by kernel_rfl) hnd) (fun _ _ hg => hp_W (List.Mem.tail _ (List.Mem.head _)) hg) Tryd.underlying67 rfl (keyAV_ref2 (k := (x1_j33, x2_j33)) rfl n101.1 n101.2) (AV.le_eq rfl) ?_))
                    refine G_nil ?_
                    refine kC_normal ?_
                    refine k_seq ?_
                    refine k_reg .free hmixP (by kernel_rfl) ?_
                    refine G_q rfl (op_assign (av := .exact (.int .i64 0)) rfl ?_)
                    refine G_nil ?_
                    refine kC_normal ?_
                    refine k_ret ?_
                    obtain rfl := Option.some.inj h
                    refine kP_any (endN (af' := (AF.put AF0 (some 6) (.exact (.int .i64 0)))) (σ' := [mapI (refOk2 bs) (refV2 bs) (fun x : Bool => .exact (.bool x)) w0 (putL x0_j67 (x1_j33, x2_j33) true), hpI 72 (c_terms_Term bs) bs xH_j67]) _ rfl ?_ ⟨rfl, rfl⟩)
                    exact Sub.of_le (AF.le_put (AV.le_eq rfl) (AF.le_top _))
set_option maxHeartbeats 4000000 in
theorem m_terms_Unifier_Unify_S_ok : ∀ n : Nat, (∀ ⦃w0 : Nat⦄ ⦃bs : List Nat⦄ (a0 : List ((Int × Int) × Bool)) (a1 : Int) (a2 : Int) (a3 : List (Int × Int × (List Int) × Int)) (r : Int × (List ((Int × Int) × Bool)) × (List (Int × Int × (List Int) × Int))), m_terms_Unifier_Unify_S n a0 a1 a2 a3 = some r → Fun Tryd.prog 41 [(.exact (.map (some w0))), (refA bs a1), (refA bs a2)] [mapI (refOk2 bs) (refV2 bs) (fun x : Bool => .exact (.bool x)) w0 a0, hpI 72 (c_terms_Term bs) bs a3] (fun a s => a = .exact (.int .i64 r.1) ∧ s = [mapI (refOk2 bs) (refV2 bs) (fun x : Bool => .exact (.bool x)) w0 r.2.1, hpI 72 (c_terms_Term bs) bs r.2.2]))
  | 0 => (fun _ _ _ _ _ _ _ h => by have h' : (none : Option _) = some _ := h; cases h')
  | n + 1 => by
    have ih := m_terms_Unifier_Unify_S_ok n
    exact fun w0 bs a0 a1 a2 a3 r h => m_terms_Unifier_Unify_F_ok (m_terms_Unifier_Unify_S n) ih a0 a1 a2 a3 r h
theorem m_terms_Unifier_Unify_ok {w0 : Nat} {bs : List Nat} (a0 : List ((Int × Int) × Bool)) (a1 : Int) (a2 : Int) (a3 : List (Int × Int × (List Int) × Int)) (r : Int × (List ((Int × Int) × Bool)) × (List (Int × Int × (List Int) × Int))) (h : m_terms_Unifier_Unify a0 a1 a2 a3 = some r) : Fun Tryd.prog 41 [(.exact (.map (some w0))), (refA bs a1), (refA bs a2)] [mapI (refOk2 bs) (refV2 bs) (fun x : Bool => .exact (.bool x)) w0 a0, hpI 72 (c_terms_Term bs) bs a3] (fun a s => a = .exact (.int .i64 r.1) ∧ s = [mapI (refOk2 bs) (refV2 bs) (fun x : Bool => .exact (.bool x)) w0 r.2.1, hpI 72 (c_terms_Term bs) bs r.2.2]) := (m_terms_Unifier_Unify_S_ok FU) a0 a1 a2 a3 r h
set_option maxHeartbeats 4000000 in
theorem m_terms_Measure_F_ok {w1 : Nat} {bs : List Nat} (self_terms_Measure : Int → (List (Int × (Int × Int))) → (List (Int × Int × (List Int) × Int)) → Option ((Int × Int) × (List (Int × (Int × Int))) × (List (Int × Int × (List Int) × Int)))) (hself_terms_Measure : ∀ ⦃w1 : Nat⦄ ⦃bs : List Nat⦄ (a0 : Int) (a1 : List (Int × (Int × Int))) (a2 : List (Int × Int × (List Int) × Int)) (r : (Int × Int) × (List (Int × (Int × Int))) × (List (Int × Int × (List Int) × Int))), self_terms_Measure a0 a1 a2 = some r → Fun Tryd.prog 75 [(refA bs a0), (.exact (.map (some w1)))] [mapI (refOk bs) (refV bs) (fun x : Int × Int => .agg (c_terms_Extent x)) w1 a1, hpI 72 (c_terms_Term bs) bs a2] (fun a s => a = .agg (c_terms_Extent r.1) ∧ s = [mapI (refOk bs) (refV bs) (fun x : Int × Int => .agg (c_terms_Extent x)) w1 r.2.1, hpI 72 (c_terms_Term bs) bs r.2.2])) (a0 : Int) (a1 : List (Int × (Int × Int))) (a2 : List (Int × Int × (List Int) × Int)) (r : (Int × Int) × (List (Int × (Int × Int))) × (List (Int × Int × (List Int) × Int))) (h : m_terms_Measure_F self_terms_Measure a0 a1 a2 = some r) : Fun Tryd.prog 75 [(refA bs a0), (.exact (.map (some w1)))] [mapI (refOk bs) (refV bs) (fun x : Int × Int => .agg (c_terms_Extent x)) w1 a1, hpI 72 (c_terms_Term bs) bs a2] (fun a s => a = .agg (c_terms_Extent r.1) ∧ s = [mapI (refOk bs) (refV bs) (fun x : Int × Int => .agg (c_terms_Extent x)) w1 r.2.1, hpI 72 (c_terms_Term bs) bs r.2.2]) := by
  unfold m_terms_Measure_F at h
  refine fun_nd (List.Mem.tail _ (List.Mem.head _)) (fun hnd => ?_)
  refine fun_of_awp_cell (sz := 2) Tryd.func75 rfl Tryd.ntmps75 (by simp) rfl (by kernel_rfl) fun E hE => k_end ?_
  refine k_seq ?_
  refine k_reg .free hmixP (by kernel_rfl) ?_
  refine G_l rfl (op_alloc (c := [.exact (.int .i64 ((0, 0).1)), .exact (.int .i64 ((0, 0).2))]) rfl (LEs.cons (AV.le_eq rfl) (LEs.cons (AV.le_eq rfl) LEs.nil)) (fun b1 => ?_))
  refine G_nil ?_
  refine kC_normal ?_
  refine k_seq ?_
  refine k_reg .free hmixP (by kernel_rfl) ?_
  refine G_q rfl (op_move (av := refA bs a0) rfl ?_)
  obtain ⟨y2, hy2, h⟩ := bnd1_some h
  refine G_l rfl (opB_f2 (op_fun_1_0_1 (m_terms_Term_Find_ok _ _ _ hy2) Tryd.func73 (by kernel_rfl) (LEs.cons (AV.le_eq rfl) LEs.nil) ?_))
  refine G_q rfl (op_assign (av := refA bs y2.1) rfl ?_)
  refine G_nil ?_
  refine kC_normal ?_
  refine k_seq ?_
  refine k_seq ?_
  refine k_reg .free hmixP (by kernel_rfl) ?_
  refine G_q rfl (op_move (av := .exact (.map (some w1))) rfl ?_)
  refine G_q rfl (op_move (av := refA bs y2.1) rfl ?_)
  obtain ⟨n3, h⟩ := need_some h
  refine G_r rfl (op_mlook2 (z := ((0, 0) : Int × Int)) (List.Mem.tail _ (List.Mem.tail _ (List.Mem.head _))) (keyOk_ref (by kernel_rfl) hnd) (fun _ _ hg => hp_W (List.Mem.head _) hg) Tryd.underlying113 (fun _ w => ⟨_, Tryd.zeroValue111 w, (zp_agg (Fit.ex (Fit.ex Fit.nil0)))⟩) rfl (keyAV_ref rfl n3) ?_)
  refine G_q rfl (op_move (av := .tup [.agg (c_terms_Extent (Option.getD (lookL a1 y2.1) (0, 0))), .exact (.bool (Option.isSome (lookL a1 y2.1)))]) rfl ?_)
  refine G_q rfl (op_extract (av := .agg (c_terms_Extent (Option.getD (lookL a1 y2.1) (0, 0)))) rfl rfl ?_)
  refine G_q rfl (op_extract (av := .exact (.bool (Option.isSome (lookL a1 y2.1)))) rfl rfl ?_)
  refine G_l rfl (op_alloc (c := [.exact (.int .i64 ((0, 0).1)), .exact (.int .i64 ((0, 0).2))]) rfl (LEs.cons (AV.le_eq rfl) (LEs.cons (AV.le_eq rfl) LEs.nil)) (fun b4 => ?_))
  refine G_l rfl (op_store_box (c' := [.exact (.int .i64 ((Option.getD (lookL a1 y2.1) (0, 0)).1)), .exact (.int .i64 ((Option.getD (lookL a1 y2.1) (0, 0)).2))]) (c3 := [.exact (.int .i64 ((Option.getD (lookL a1 y2.1) (0, 0)).1)), .exact (.int .i64 ((Option.getD (lookL a1 y2.1) (0, 0)).2))]) rfl rfl CellsOf.agg (LEs.cons (AV.le_eq rfl) (LEs.cons (AV.le_eq rfl) LEs.nil)) (oc_c_terms_Extent _) (by kernel_rfl) (Nat.le_of_ble_eq_true rfl) rfl ?_)
  refine G_q rfl (op_assign (av := .exact (.bool (Option.isSome (lookL a1 y2.1)))) rfl ?_)
  refine G_nil ?_
  refine kC_normal ?_
  refine k_seq ?_
  refine k_reg .free hmixP (by kernel_rfl) ?_
  refine G_q rfl (op_move (av := .exact (.bool (Option.isSome (lookL a1 y2.1)))) rfl ?_)
  refine G_nil ?_
  refine kC_normal ?_
  refine k_cond_b (c := (Option.isSome (lookL a1 y2.1))) rfl (fun hc => ?_) (fun hc => ?_)
  · replace h := ite_t h hc
    refine k_seq ?_
    refine k_reg .free hmixP (by kernel_rfl) ?_
    refine G_r rfl (op_load_boxN (m := 2) (c' := c_terms_Extent ((Option.getD (lookL a1 y2.1) (0, 0)).1, (Option.getD (lookL a1 y2.1) (0, 0)).2)) (by kernel_rfl) rfl rfl rfl ?_)
    refine G_l rfl (opB_f2 (op_store_box (c' := [.exact (.int .i64 (((Option.getD (lookL a1 y2.1) (0, 0)).1, (Option.getD (lookL a1 y2.1) (0, 0)).2).1)), .exact (.int .i64 (((Option.getD (lookL a1 y2.1) (0, 0)).1, (Option.getD (lookL a1 y2.1) (0, 0)).2).2))]) (c3 := [.exact (.int .i64 (((Option.getD (lookL a1 y2.1) (0, 0)).1, (Option.getD (lookL a1 y2.1) (0, 0)).2).1)), .exact (.int .i64 (((Option.getD (lookL a1 y2.1) (0, 0)).1, (Option.getD (lookL a1 y2.1) (0, 0)).2).2))]) rfl rfl CellsOf.agg (LEs.cons (AV.le_eq rfl) (LEs.cons (AV.le_eq rfl) LEs.nil)) (oc_c_terms_Extent _) (by kernel_rfl) (Nat.le_of_ble_eq_true rfl) rfl ?_))
    refine G_nil ?_
    refine kC_normal ?_
    refine k_ret ?_
    refine kC_ret ?_
    obtain rfl := Option.some.inj h
    refine kP_any (endC (af' := (AF.put AF0 (some 4) (.ptr (c_terms_Extent (((Option.getD (lookL a1 y2.1) (0, 0)).1, (Option.getD (lookL a1 y2.1) (0, 0)).2).1, ((Option.getD (lookL a1 y2.1) (0, 0)).1, (Option.getD (lookL a1 y2.1) (0, 0)).2).2))))) (σ' := [mapI (refOk bs) (refV bs) (fun x : Int × Int => .agg (c_terms_Extent x)) w1 a1, hpI 72 (c_terms_Term bs) bs y2.2]) (c := c_terms_Extent (((Option.getD (lookL a1 y2.1) (0, 0)).1, (Option.getD (lookL a1 y2.1) (0, 0)).2).1, ((Option.getD (lookL a1 y2.1) (0, 0)).1, (Option.getD (lookL a1 y2.1) (0, 0)).2).2)) ?_ rfl rfl ⟨rfl, rfl⟩)
    refine Sub.trans (SubU.to (SubU.freezeBox (s := 4) rfl)) ?_
    refine Sub.trans (SubU.to SubU.drop) ?_
    refine Sub.trans (SubU.to SubU.f1) ?_
    exact Sub.of_le (AF.le_put (AV.le_eq rfl) (AF.le_top _))
  · replace h := ite_f h hc
    refine k_skip ?_
    refine kC_normal ?_
    refine k_seq ?_
    refine k_reg .free hmixP (by kernel_rfl) ?_
    refine G_q rfl (op_bld (c' := c_terms_Extent (1, 0)) (CellsAll.cons rfl CellsOf.int (CellsAll.cons rfl CellsOf.int CellsAll.nil)) rfl (LEs.cons (AV.le_eq rfl) (LEs.cons (AV.le_eq rfl) LEs.nil)) ?_)
    refine G_l rfl (op_alloc (c := [.exact (.int .i64 ((0, 0).1)), .exact (.int .i64 ((0, 0).2))]) rfl (LEs.cons (AV.le_eq rfl) (LEs.cons (AV.le_eq rfl) LEs.nil)) (fun b5 => ?_))
    refine G_l rfl (op_store_box (c' := [.exact (.int .i64 ((1, 0).1)), .exact (.int .i64 ((1, 0).2))]) (c3 := [.exact (.int .i64 ((1, 0).1)), .exact (.int .i64 ((1, 0).2))]) rfl rfl CellsOf.agg (LEs.cons (AV.le_eq rfl) (LEs.cons (AV.le_eq rfl) LEs.nil)) (oc_c_terms_Extent _) (by kernel_rfl) (Nat.le_of_ble_eq_true rfl) rfl ?_)
    refine G_nil ?_
    refine kC_normal ?_
    refine k_join4_0 h (fun (xH_j6 : List (Int × Int × (List Int) × Int)) (x1_j6 : List (Int × (Int × Int))) (x7_0_j6 : Int) (x7_1_j6 : Int) => (AF.put (AF.put (AF.put (AF.put AF0 (some 0) (refA bs y2.1)) (some 1) (.exact (.map (some w1)))) (some 4) (pA b1 0)) (some 7) (pA b5 0))) (fun (xH_j6 : List (Int × Int × (List Int) × Int)) (x1_j6 : List (Int × (Int × Int))) (x7_0_j6 : Int) (x7_1_j6 : Int) => [hpI 72 (c_terms_Term bs) bs xH_j6, mapI (refOk bs) (refV bs) (fun x : Int × Int => .agg (c_terms_Extent x)) w1 x1_j6, boxI 111 b1 [.exact (.int .i64 ((0, 0).1)), .exact (.int .i64 ((0, 0).2))], boxI 111 b5 [.exact (.int .i64 x7_0_j6), .exact (.int .i64 x7_1_j6)]]) (fun k6 h => ?_) (fun xH_j6 x1_j6 x7_0_j6 x7_1_j6 h => ?_)
    · refine k_seq ?_
      refine k_reg .free hmixP (by kernel_rfl) ?_
      refine G_q rfl (op_move (av := refA bs y2.1) rfl ?_)
      obtain ⟨n18, h⟩ := need_some h
      refine G_q rfl (op_nilC_ref rfl n18 ?_)
      refine G_q rfl (op_field_hpt (o := 2) (by kernel_rfl) rfl ?_)
      refine G_r rfl (opR_f2 (op_load_hptH (i := y2.1) (o := 2) (a := .row 1 (c_P_terms_Term bs) ((gi y2.2 y2.1).2.2.1)) (by kernel_rfl) rfl rfl ?_))
      refine G_q rfl (op_len_row (by kernel_rfl) rfl ?_)
      refine G_q rfl (op_move (av := .exact (.int .i64 0)) rfl ?_)
      refine G_nil ?_
      refine kC_normal ?_
      refine k_block ?_
      refine k_loop5_0 (m_terms_Measure_L2 self_terms_Measure y2 k6) (m_terms_Measure_B2 self_terms_Measure y2 k6) (fun _ _ _ _ _ => rfl) (fun m _ _ _ _ _ => rfl) h (fun (xH_l2 : List (Int × Int × (List Int) × Int)) (x1_l2 : List (Int × (Int × Int))) (x7_0_l2 : Int) (x7_1_l2 : Int) (x27_l2 : Int) => (AF.put (AF.put (AF.put (AF.put (AF.put (AF.put (AF.put AF0 (some 0) (refA bs y2.1)) (some 1) (.exact (.map (some w1)))) (some 4) (pA b1 0)) (some 7) (pA b5 0)) (some 25) (.row 1 (c_P_terms_Term bs) ((gi y2.2 y2.1).2.2.1))) (some 26) (.exact (.int .i64 (List.length ((gi y2.2 y2.1).2.2.1) : Int)))) (some 27) (.exact (.int .i64 x27_l2)))) (fun (xH_l2 : List (Int × Int × (List Int) × Int)) (x1_l2 : List (Int × (Int × Int))) (x7_0_l2 : Int) (x7_1_l2 : Int) (x27_l2 : Int) => [hpI 72 (c_terms_Term bs) bs xH_l2, mapI (refOk bs) (refV bs) (fun x : Int × Int => .agg (c_terms_Extent x)) w1 x1_l2, boxI 111 b1 [.exact (.int .i64 ((0, 0).1)), .exact (.int .i64 ((0, 0).2))], boxI 111 b5 [.exact (.int .i64 x7_0_l2), .exact (.int .i64 x7_1_l2)]]) ?_ (fun rec2 xH_l2 x1_l2 x7_0_l2 x7_1_l2 x27_l2 h => ?_)
      · refine Sub.trans (SubU.to SubU.f1) ?_
        refine Sub.trans (SubU.to SubU.drop) ?_
        refine Sub.trans (SubU.to SubU.f2) ?_
        refine Sub.trans (SubU.to SubU.f3) ?_
        refine Sub.trans (SubU.to SubU.f3) ?_
        exact Sub.of_le (AF.le_put (AV.le_eq rfl) (AF.le_put (AV.le_eq rfl) (AF.le_put (AV.le_eq rfl) (AF.le_put (AV.le_eq rfl) (AF.le_put (AV.le_eq rfl) (AF.le_put (AV.le_eq rfl) (AF.le_put (AV.le_eq rfl) (AF.le_top _))))))))
      · unfold m_terms_Measure_B2 at h
        refine k_seq ?_
        refine k_reg .free hmixP (by kernel_rfl) ?_
        refine G_q rfl (op_lss rfl rfl ?_)
        refine G_nil ?_
        refine kC_normal ?_
        refine k_seq ?_
        refine k_cond_d (p := x27_l2 < (List.length ((gi y2.2 y2.1).2.2.1) : Int)) rfl (fun hc => ?_) (fun hc => ?_)
        · replace h := ite_t h hc
          refine k_skip ?_
          refine kC_normal ?_
          refine k_seq ?_
          refine k_block ?_
          refine k_seq ?_
          refine k_reg .free hmixP (by kernel_rfl) ?_
          obtain ⟨n25, h⟩ := need_some h
          refine G_q rfl (op_index_row (by kernel_rfl) rfl rfl n25.1 n25.2 ?_)
          refine G_q rfl (op_load1p (a := refA bs (gi ((gi y2.2 y2.1).2.2.1) x27_l2)) (by kernel_rfl) rfl rfl ?_)
          refine G_q rfl (op_assign (av := refA bs (gi ((gi y2.2 y2.1).2.2.1) x27_l2)) rfl ?_)
          refine G_nil ?_
          refine kC_normal ?_
          refine k_seq ?_
          refine k_reg .free hmixP (by kernel_rfl) ?_
          refine G_q rfl (op_move (av := refA bs (gi ((gi y2.2 y2.1).2.2.1) x27_l2)) rfl ?_)
          refine G_q rfl (op_move (av := .exact (.map (some w1))) rfl ?_)
          obtain ⟨y26, hy26, h⟩ := bnd1_some h
          refine G_l rfl (opB_f1 (op_fun_2_0_2 (hself_terms_Measure _ _ _ _ hy26) Tryd.func75 (by kernel_rfl) (LEs.cons (AV.le_eq rfl) (LEs.cons (AV.le_eq rfl) LEs.nil)) ?_))
          refine G_l rfl (op_alloc (c := [.exact (.int .i64 ((0, 0).1)), .exact (.int .i64 ((0, 0).2))]) rfl (LEs.cons (AV.le_eq rfl) (LEs.cons (AV.le_eq rfl) LEs.nil)) (fun b27 => ?_))
          refine G_l rfl (op_store_box (c' := [.exact (.int .i64 y26.1.1), .exact (.int .i64 y26.1.2)]) (c3 := [.exact (.int .i64 y26.1.1), .exact (.int .i64 y26.1.2)]) rfl rfl CellsOf.agg (LEs.cons (AV.le_eq rfl) (LEs.cons (AV.le_eq rfl) LEs.nil)) (oc_c_terms_Extent _) (by kernel_rfl) (Nat.le_of_ble_eq_true rfl) rfl ?_)
          refine G_nil ?_
          refine kC_normal ?_
          refine k_seq ?_
          refine k_reg .free hmixP (by kernel_rfl) ?_
          refine G_q rfl (op_fieldAddr (o := 0) (by kernel_rfl) rfl ?_)
          refine G_r rfl (opR_f4 (op_load_box1 (a := .exact (.int .i64 x7_0_l2)) (by kernel_rfl) rfl rfl ?_))
          refine G_q rfl (op_fieldAddr (o := 0) (by kernel_rfl) rfl ?_)
          refine G_r rfl (op_load_box1 (a := .exact (.int .i64 y26.1.1)) (by kernel_rfl) rfl rfl ?_)
          refine G_q rfl (op_add rfl rfl rfl ?_)
          refine G_q rfl (op_min rfl rfl ?_)
          refine G_q rfl (op_fieldAddr (o := 0) (by kernel_rfl) rfl ?_)
          refine G_l rfl (opB_f4 (op_store_box (c' := [.exact (.int .i64 (min (i64 (x7_0_l2 + y26.1.1)) 513))]) (c3 := [.exact (.int .i64 (min (i64 (x7_0_l2 + y26.1.1)) 513)), .exact (.int .i64 x7_1_l2)]) rfl rfl CellsOf.int (LEs.cons (AV.le_eq rfl) LEs.nil) (OneC.int OneC.nil) (by kernel_rfl) (Nat.le_of_ble_eq_true rfl) rfl ?_))
          refine G_nil ?_
          refine kC_normal ?_
          refine k_reg .free hmixP (by kernel_rfl) ?_
          refine G_q rfl (op_fieldAddr (o := 1) (by kernel_rfl) rfl ?_)
          refine G_r rfl (op_load_box1 (a := .exact (.int .i64 x7_1_l2)) (by kernel_rfl) rfl rfl ?_)
          refine G_q rfl (op_fieldAddr (o := 1) (by kernel_rfl) rfl ?_)
          refine G_r rfl (opR_f1 (op_load_box1 (a := .exact (.int .i64 y26.1.2)) (by kernel_rfl) rfl rfl ?_))
          refine G_q rfl (op_max rfl rfl ?_)
          refine G_q rfl (op_fieldAddr (o := 1) (by kernel_rfl) rfl ?_)
          refine G_l rfl (op_store_box (c' := [.exact (.int .i64 (max x7_1_l2 y26.1.2))]) (c3 := [.exact (.int .i64 (min (i64 (x7_0_l2 + y26.1.1)) 513)), .exact (.int .i64 (max x7_1_l2 y26.1.2))]) rfl rfl CellsOf.int (LEs.cons (AV.le_eq rfl) LEs.nil) (OneC.int OneC.nil) (by kernel_rfl) (Nat.le_of_ble_eq_true rfl) rfl ?_)
          refine G_nil ?_
          refine kB_normal ?_
          refine kC_normal ?_
          refine k_reg .free hmixP (by kernel_rfl) ?_
          refine G_q rfl (op_add rfl rfl rfl ?_)
          refine G_q rfl (op_move (av := .exact (.int .i64 (i64 (x27_l2 + 1)))) rfl ?_)
          refine G_nil ?_
          refine kI_normal ⟨_, _, _, _, _, h, ?_⟩
          refine Sub.trans (SubU.to SubU.f1) ?_
          refine Sub.trans (SubU.to SubU.drop) ?_
          refine Sub.trans (SubU.to SubU.f3) ?_
          refine Sub.trans (SubU.to SubU.f2) ?_
          refine Sub.trans (SubU.to SubU.f3) ?_
          exact Sub.of_le (AF.le_put (AV.le_eq rfl) (AF.le_put (AV.le_eq rfl) (AF.le_put (AV.le_eq rfl) (AF.le_put (AV.le_eq rfl) (AF.le_put (AV.le_eq rfl) (AF.le_put (AV.le_eq rfl) (AF.le_put (AV.le_eq rfl) (AF.le_top _))))))))
        · replace h := ite_f h hc
          refine k_exit ?_
          refine kC_exit ?_
          refine kI_exit ?_
          refine kB_exit ?_
          refine kI_normal ⟨_, _, _, _, h, ?_⟩
          exact Sub.of_le (AF.le_put (AV.le_eq rfl) (AF.le_put (AV.le_eq rfl) (AF.le_put (AV.le_eq rfl) (AF.le_put (AV.le_eq rfl) (AF.le_top _)))))
    · refine k_seq ?_
      refine k_reg .free hmixP (by kernel_rfl) ?_
      refine G_q rfl (op_fieldAddr (o := 1) (by kernel_rfl) rfl ?_)
      refine G_r rfl (opR_f3 (op_load_box1 (a := .exact (.int .i64 x7_1_j6)) (by kernel_rfl) rfl rfl ?_))
      refine G_q rfl (op_add rfl rfl rfl ?_)
      refine G_q rfl (op_fieldAddr (o := 1) (by kernel_rfl) rfl ?_)
      refine G_l rfl (opB_f3 (op_store_box (c' := [.exact (.int .i64 (i64 (x7_1_j6 + 1)))]) (c3 := [.exact (.int .i64 x7_0_j6), .exact (.int .i64 (i64 (x7_1_j6 + 1)))]) rfl rfl CellsOf.int (LEs.cons (AV.le_eq rfl) LEs.nil) (OneC.int OneC.nil) (by kernel_rfl) (Nat.le_of_ble_eq_true rfl) rfl ?_))
      refine G_nil ?_
      refine kC_normal ?_
      refine k_seq ?_
      refine k_reg .free hmixP (by kernel_rfl) ?_
      refine G_q rfl (op_move (av := .exact (.map (some w1))) rfl ?_)
      refine G_q rfl (op_move (av := refA bs y2.1) rfl ?_)
      refine G_r rfl (op_load_boxN (m := 2) (c' := c_terms_Extent (x7_0_j6, i64 (x7_1_j6 + 1))) (by kernel_rfl) rfl rfl rfl ?_)
      obtain ⟨n28, h⟩ := need_some h
      refine G_l rfl (opB_f2 (op_mput (z := (x7_0_j6, i64 (x7_1_j6 + 1))) (keyOk_ref (by kernel_rfl) hnd) (fun _ _ hg => hp_W (List.Mem.tail _ (List.Mem.tail _ (List.Mem.head _))) hg) Tryd.underlying113 rfl (keyAV_ref rfl n28) (AV.le_eq rfl) ?_))
      refine G_nil ?_
      refine kC_normal ?_
      refine k_seq ?_
      refine k_reg .free hmixP (by kernel_rfl) ?_
      refine G_r rfl (opR_f1 (op_load_boxN (m := 2) (c' := c_terms_Extent (x7_0_j6, i64 (x7_1_j6 + 1))) (by kernel_rfl) rfl rfl rfl ?_))
      refine G_l rfl (opB_f3 (op_store_box (c' := [.exact (.int .i64 ((x7_0_j6, i64 (x7_1_j6 + 1)).1)), .exact (.int .i64 ((x7_0_j6, i64 (x7_1_j6 + 1)).2))]) (c3 := [.exact (.int .i64 ((x7_0_j6, i64 (x7_1_j6 + 1)).1)), .exact (.int .i64 ((x7_0_j6, i64 (x7_1_j6 + 1)).2))]) rfl rfl CellsOf.agg (LEs.cons (AV.le_eq rfl) (LEs.cons (AV.le_eq rfl) LEs.nil)) (oc_c_terms_Extent _) (by kernel_rfl) (Nat.le_of_ble_eq_true rfl) rfl ?_))
      refine G_nil ?_
      refine kC_normal ?_
      refine k_ret ?_
      obtain rfl := Option.some.inj h
      refine kP_any (endC (af' := (AF.put AF0 (some 4) (.ptr (c_terms_Extent ((x7_0_j6, i64 (x7_1_j6 + 1)).1, (x7_0_j6, i64 (x7_1_j6 + 1)).2))))) (σ' := [mapI (refOk bs) (refV bs) (fun x : Int × Int => .agg (c_terms_Extent x)) w1 (putL x1_j6 y2.1 (x7_0_j6, i64 (x7_1_j6 + 1))), hpI 72 (c_terms_Term bs) bs xH_j6]) (c := c_terms_Extent ((x7_0_j6, i64 (x7_1_j6 + 1)).1, (x7_0_j6, i64 (x7_1_j6 + 1)).2)) ?_ rfl rfl ⟨rfl, rfl⟩)
      refine Sub.trans (SubU.to (SubU.freezeBox (s := 4) rfl)) ?_
      refine Sub.trans (SubU.to SubU.f1) ?_
      refine Sub.trans (SubU.to SubU.drop) ?_
      exact Sub.of_le (AF.le_put (AV.le_eq rfl) (AF.le_top _))
set_option maxHeartbeats 4000000 in
theorem m_terms_Measure_S_ok : ∀ n : Nat, (∀ ⦃w1 : Nat⦄ ⦃bs : List Nat⦄ (a0 : Int) (a1 : List (Int × (Int × Int))) (a2 : List (Int × Int × (List Int) × Int)) (r : (Int × Int) × (List (Int × (Int × Int))) × (List (Int × Int × (List Int) × Int))), m_terms_Measure_S n a0 a1 a2 = some r → Fun Tryd.prog 75 [(refA bs a0), (.exact (.map (some w1)))] [mapI (refOk bs) (refV bs) (fun x : Int × Int => .agg (c_terms_Extent x)) w1 a1, hpI 72 (c_terms_Term bs) bs a2] (fun a s => a = .agg (c_terms_Extent r.1) ∧ s = [mapI (refOk bs) (refV bs) (fun x : Int × Int => .agg (c_terms_Extent x)) w1 r.2.1, hpI 72 (c_terms_Term bs) bs r.2.2]))
  | 0 => (fun _ _ _ _ _ _ h => by have h' : (none : Option _) = some _ := h; cases h')
  | n + 1 => by
    have ih := m_terms_Measure_S_ok n
    exact fun w1 bs a0 a1 a2 r h => m_terms_Measure_F_ok (m_terms_Measure_S n) ih a0 a1 a2 r h
theorem m_terms_Measure_ok {w1 : Nat} {bs : List Nat} (a0 : Int) (a1 : List (Int × (Int × Int))) (a2 : List (Int × Int × (List Int) × Int)) (r : (Int × Int) × (List (Int × (Int × Int))) × (List (Int × Int × (List Int) × Int))) (h : m_terms_Measure a0 a1 a2 = some r) : Fun Tryd.prog 75 [(refA bs a0), (.exact (.map (some w1)))] [mapI (refOk bs) (refV bs) (fun x : Int × Int => .agg (c_terms_Extent x)) w1 a1, hpI 72 (c_terms_Term bs) bs a2] (fun a s => a = .agg (c_terms_Extent r.1) ∧ s = [mapI (refOk bs) (refV bs) (fun x : Int × Int => .agg (c_terms_Extent x)) w1 r.2.1, hpI 72 (c_terms_Term bs) bs r.2.2]) := (m_terms_Measure_S_ok FU) a0 a1 a2 r h
set_option maxHeartbeats 4000000 in
theorem m_terms_Fits_ok {bs : List Nat} (a0 : Int) (a1 : List (Int × Int × (List Int) × Int)) (r : Bool × (List (Int × Int × (List Int) × Int))) (h : m_terms_Fits a0 a1 = some r) : Fun Tryd.prog 42 [(refA bs a0)] [hpI 72 (c_terms_Term bs) bs a1] (fun a s => a = .exact (.bool r.1) ∧ s = [hpI 72 (c_terms_Term bs) bs r.2]) := by
  unfold m_terms_Fits at h
  refine fun_nd (List.Mem.head _) (fun hnd => ?_)
  refine fun_of_awp Tryd.func42 rfl Tryd.ntmps42 (by simp) rfl (res1 rfl) fun E hE => k_end ?_
  refine k_seq ?_
  refine k_reg .free hmixP (by kernel_rfl) ?_
  refine G_q rfl (op_assign (av := .exact (.bool false)) rfl ?_)
  refine G_nil ?_
  refine kC_normal ?_
  refine k_seq ?_
  refine k_reg .free hmixP (by kernel_rfl) ?_
  refine G_q rfl (op_move (av := refA bs a0) rfl ?_)
  refine G_l rfl (op_mnew (V := (refOk bs)) (kv := (refV bs)) (vv := (fun x : Int × Int => .agg (c_terms_Extent x))) (fun b1 => ?_))
  obtain ⟨y2, hy2, h⟩ := bnd1_some h
  refine G_l rfl (opB_f1 (opB_f1 (op_fun_2_0_2 (m_terms_Measure_ok _ _ _ _ hy2) Tryd.func75 (by kernel_rfl) (LEs.cons (AV.le_eq rfl) (LEs.cons (AV.le_eq rfl) LEs.nil)) ?_)))
  refine G_l rfl (op_alloc (c := [.exact (.int .i64 ((0, 0).1)), .exact (.int .i64 ((0, 0).2))]) rfl (LEs.cons (AV.le_eq rfl) (LEs.cons (AV.le_eq rfl) LEs.nil)) (fun b3 => ?_))
  refine G_l rfl (op_store_box (c' := [.exact (.int .i64 y2.1.1), .exact (.int .i64 y2.1.2)]) (c3 := [.exact (.int .i64 y2.1.1), .exact (.int .i64 y2.1.2)]) rfl rfl CellsOf.agg (LEs.cons (AV.le_eq rfl) (LEs.cons (AV.le_eq rfl) LEs.nil)) (oc_c_terms_Extent _) (by kernel_rfl) (Nat.le_of_ble_eq_true rfl) rfl ?_)
  refine G_nil ?_
  refine kC_normal ?_
  refine k_join1_0 h (fun (x2_j4 : Bool) => (AF.put AF0 (some 2) (.exact (.bool x2_j4)))) (fun (x2_j4 : Bool) => [hpI 72 (c_terms_Term bs) bs y2.2.2]) (fun k4 h => ?_) (fun x2_j4 h => ?_)
  · refine k_reg .free hmixP (by kernel_rfl) ?_
    refine G_q rfl (op_fieldAddr (o := 0) (by kernel_rfl) rfl ?_)
    refine G_r rfl (op_load_box1 (a := .exact (.int .i64 y2.1.1)) (by kernel_rfl) rfl rfl ?_)
    refine G_q rfl (op_leq rfl rfl ?_)
    refine G_q rfl (op_move (av := .exact (.bool (decide (y2.1.1 ≤ 512)))) rfl ?_)
    refine G_split (p := y2.1.1 ≤ 512) 10 rfl (fun hc => ?_) (fun hc => ?_)
    · replace h := ite_t h hc
      refine Gy_q rfl rfl rfl (op_fieldAddr (o := 1) (by kernel_rfl) rfl ?_)
      refine Gy_r rfl rfl rfl (op_load_box1 (a := .exact (.int .i64 y2.1.2)) (by kernel_rfl) rfl rfl ?_)
      refine Gy_q rfl rfl rfl (op_leq rfl rfl ?_)
      refine G_q rfl (op_pick_t rfl (av := .exact (.bool (decide (y2.1.2 ≤ 64)))) rfl ?_)
      refine G_q rfl (op_assign (av := .exact (.bool (decide (y2.1.2 ≤ 64)))) rfl ?_)
      refine G_nil ?_
      refine kI_normal ⟨_, h, ?_⟩
      refine Sub.trans (SubU.to SubU.drop) ?_
      refine Sub.trans (SubU.to SubU.drop) ?_
      exact Sub.of_le (AF.le_put (AV.le_eq rfl) (AF.le_top _))
    · replace h := ite_f h hc
      refine G_n rfl rfl ?_
      refine G_n rfl rfl ?_
      refine G_n rfl rfl ?_
      refine G_q rfl (op_pick_f rfl (av := .exact (.bool false)) rfl ?_)
      refine G_q rfl (op_assign (av := .exact (.bool false)) rfl ?_)
      refine G_nil ?_
      refine kI_normal ⟨_, h, ?_⟩
      refine Sub.trans (SubU.to SubU.drop) ?_
      refine Sub.trans (SubU.to SubU.drop) ?_
      exact Sub.of_le (AF.le_put (AV.le_eq rfl) (AF.le_top _))
  · refine k_ret ?_
    obtain rfl := Option.some.inj h
    refine kP_any (endN (af' := (AF.put AF0 (some 2) (.exact (.bool x2_j4)))) (σ' := [hpI 72 (c_terms_Term bs) bs y2.2.2]) _ rfl ?_ ⟨rfl, rfl⟩)
    exact Sub.of_le (AF.le_put (AV.le_eq rfl) (AF.le_top _))
set_option maxHeartbeats 4000000 in
theorem m_terms_Term_Write_F_ok {w1 : Value} {bs : List Nat} (self_terms_Term_Write : Int → (List (Int × Int × Int)) → (List (Int × Int × (List Int) × Int)) → Option ((List (Int × Int × Int)) × (List (Int × Int × (List Int) × Int)))) (hself_terms_Term_Write : ∀ ⦃w1 : Value⦄ ⦃bs : List Nat⦄ (a0 : Int) (a1 : List (Int × Int × Int)) (a2 : List (Int × Int × (List Int) × Int)) (r : (List (Int × Int × Int)) × (List (Int × Int × (List Int) × Int))), self_terms_Term_Write a0 a1 a2 = some r → Fun Tryd.prog 44 [(refA bs a0), (.exact w1)] [vecT Tryd.prog 22 3 c_api_TypeNode w1 a1, hpI 72 (c_terms_Term bs) bs a2] (fun a s => ∃ z0, a = .exact z0 ∧ s = [vecT Tryd.prog 22 3 c_api_TypeNode z0 r.1, hpI 72 (c_terms_Term bs) bs r.2])) (a0 : Int) (a1 : List (Int × Int × Int)) (a2 : List (Int × Int × (List Int) × Int)) (r : (List (Int × Int × Int)) × (List (Int × Int × (List Int) × Int))) (h : m_terms_Term_Write_F self_terms_Term_Write a0 a1 a2 = some r) : Fun Tryd.prog 44 [(refA bs a0), (.exact w1)] [vecT Tryd.prog 22 3 c_api_TypeNode w1 a1, hpI 72 (c_terms_Term bs) bs a2] (fun a s => ∃ z0, a = .exact z0 ∧ s = [vecT Tryd.prog 22 3 c_api_TypeNode z0 r.1, hpI 72 (c_terms_Term bs) bs r.2]) := by
  unfold m_terms_Term_Write_F at h
  refine fun_nd (List.Mem.tail _ (List.Mem.head _)) (fun hnd => ?_)
  refine fun_of_awp Tryd.func44 rfl Tryd.ntmps44 (by simp) rfl (res1 rfl) fun E hE => k_end ?_
  refine k_seq ?_
  refine k_reg .free hmixP (by kernel_rfl) ?_
  refine G_q rfl (op_assign (av := .exact (.slice none 0 0)) rfl ?_)
  refine G_nil ?_
  refine kC_normal ?_
  refine k_seq ?_
  refine k_reg .free hmixP (by kernel_rfl) ?_
  refine G_q rfl (op_move (av := refA bs a0) rfl ?_)
  obtain ⟨y1, hy1, h⟩ := bnd1_some h
  refine G_l rfl (opB_f1 (op_fun_1_0_1 (m_terms_Term_Find_ok _ _ _ hy1) Tryd.func73 (by kernel_rfl) (LEs.cons (AV.le_eq rfl) LEs.nil) ?_))
  refine G_q rfl (op_assign (av := refA bs y1.1) rfl ?_)
  refine G_nil ?_
  refine kC_normal ?_
  refine k_seq ?_
  refine k_plan [] [(0, 0), (0, 1), (0, 2), (0, 3), (0, 5), (0, 6), (0, 7), (0, 9), (0, 10), (0, 11), (1, 4), (1, 8), (1, 12), (0, 13), (0, 14), (0, 15), (2, 16), (0, 17)] hmixP (by kernel_rfl) ?_
  refine P_q no34_0 rfl (op_move (av := .exact w1) rfl ?_)
  refine P_q no34_0 rfl (op_move (av := refA bs y1.1) rfl ?_)
  obtain ⟨n2, h⟩ := need_some h
  refine P_q no34_0 rfl (op_nilC_ref rfl n2 ?_)
  refine P_q no34_0 rfl (op_field_hpt (o := 0) (by kernel_rfl) rfl ?_)
  refine P_q no34_0 rfl (op_move (av := refA bs y1.1) rfl ?_)
  obtain ⟨n3, h⟩ := need_some h
  refine P_q no34_0 rfl (op_nilC_ref rfl n3 ?_)
  refine P_q no34_0 rfl (op_field_hpt (o := 1) (by kernel_rfl) rfl ?_)
  refine P_q no34_0 rfl (op_move (av := refA bs y1.1) rfl ?_)
  obtain ⟨n4, h⟩ := need_some h
  refine P_q no34_0 rfl (op_nilC_ref rfl n4 ?_)
  refine P_q no34_0 rfl (op_field_hpt (o := 2) (by kernel_rfl) rfl ?_)
  refine P_r rfl (op_load_hptH (i := y1.1) (o := 0) (a := .exact (.int .i64 ((gi y1.2 y1.1).1))) (by kernel_rfl) rfl rfl ?_)
  refine P_r rfl (op_load_hptH (i := y1.1) (o := 1) (a := .exact (.int .i64 ((gi y1.2 y1.1).2.1))) (by kernel_rfl) rfl rfl ?_)
  refine P_r rfl (op_load_hptH (i := y1.1) (o := 2) (a := .row 1 (c_P_terms_Term bs) ((gi y1.2 y1.1).2.2.1)) (by kernel_rfl) rfl rfl ?_)
  refine P_q no34_0 rfl (op_len_row (by kernel_rfl) rfl ?_)
  refine P_q no34_0 rfl (op_bld (c' := c_api_TypeNode ((gi y1.2 y1.1).1, (gi y1.2 y1.1).2.1, (List.length ((gi y1.2 y1.1).2.2.1) : Int))) (CellsAll.cons rfl CellsOf.int (CellsAll.cons rfl CellsOf.int (CellsAll.cons rfl CellsOf.int CellsAll.nil))) rfl (LEs.cons (AV.le_eq rfl) (LEs.cons (AV.le_eq rfl) (LEs.cons (AV.le_eq rfl) LEs.nil))) ?_)
  refine P_q no34_0 rfl (op_litT (n := 3) (enc := c_api_TypeNode) [((gi y1.2 y1.1).1, (gi y1.2 y1.1).2.1, (List.length ((gi y1.2 y1.1).2.2.1) : Int))] (CellsAll.cons rfl CellsOf.agg CellsAll.nil) rfl (by kernel_rfl) (LEss.cons (LEs.cons (AV.le_eq rfl) (LEs.cons (AV.le_eq rfl) (LEs.cons (AV.le_eq rfl) LEs.nil))) LEss.nil) ?_)
  obtain ⟨n5, h⟩ := need_some h
  refine P_l rfl (opB_f1 (op_appT (by kernel_rfl) rfl rfl oc_c_api_TypeNode n5 (fun v6 => ?_)))
  refine P_q no34_0 rfl (op_assign (av := .exact v6) rfl ?_)
  refine P_nil ?_
  refine kC_normal ?_
  refine k_join2_1 h (fun (xH_j7 : List (Int × Int × (List Int) × Int)) (x1_j7 : List (Int × Int × Int)) (v1_j7 : Value) => (AF.put AF0 (some 1) (.exact v1_j7))) (fun (xH_j7 : List (Int × Int × (List Int) × Int)) (x1_j7 : List (Int × Int × Int)) (v1_j7 : Value) => [hpI 72 (c_terms_Term bs) bs xH_j7, vecT Tryd.prog 22 3 c_api_TypeNode v1_j7 x1_j7]) (fun k7 h => ?_) (fun xH_j7 x1_j7 v1_j7 h => ?_)
  · refine k_seq ?_
    refine k_reg .free hmixP (by kernel_rfl) ?_
    refine G_q rfl (op_move (av := refA bs y1.1) rfl ?_)
    obtain ⟨n19, h⟩ := need_some h
    refine G_q rfl (op_nilC_ref rfl n19 ?_)
    refine G_q rfl (op_field_hpt (o := 2) (by kernel_rfl) rfl ?_)
    refine G_r rfl (opR_f1 (op_load_hptH (i := y1.1) (o := 2) (a := .row 1 (c_P_terms_Term bs) ((gi y1.2 y1.1).2.2.1)) (by kernel_rfl) rfl rfl ?_))
    refine G_q rfl (op_len_row (by kernel_rfl) rfl ?_)
    refine G_q rfl (op_move (av := .exact (.int .i64 0)) rfl ?_)
    refine G_nil ?_
    refine kC_normal ?_
    refine k_block ?_
    refine k_loop3_1 (m_terms_Term_Write_L2 self_terms_Term_Write y1 k7) (m_terms_Term_Write_B2 self_terms_Term_Write y1 k7) (fun _ _ _ => rfl) (fun m _ _ _ => rfl) h (fun (xH_l2 : List (Int × Int × (List Int) × Int)) (x1_l2 : List (Int × Int × Int)) (x31_l2 : Int) (v1_l2 : Value) => (AF.put (AF.put (AF.put (AF.put AF0 (some 1) (.exact v1_l2)) (some 29) (.row 1 (c_P_terms_Term bs) ((gi y1.2 y1.1).2.2.1))) (some 30) (.exact (.int .i64 (List.length ((gi y1.2 y1.1).2.2.1) : Int)))) (some 31) (.exact (.int .i64 x31_l2)))) (fun (xH_l2 : List (Int × Int × (List Int) × Int)) (x1_l2 : List (Int × Int × Int)) (x31_l2 : Int) (v1_l2 : Value) => [hpI 72 (c_terms_Term bs) bs xH_l2, vecT Tryd.prog 22 3 c_api_TypeNode v1_l2 x1_l2]) v6 ?_ (fun rec2 xH_l2 x1_l2 x31_l2 v1_l2 h => ?_)
    · refine Sub.trans (SubU.to SubU.f1) ?_
      exact Sub.of_le (AF.le_put (AV.le_eq rfl) (AF.le_put (AV.le_eq rfl) (AF.le_put (AV.le_eq rfl) (AF.le_put (AV.le_eq rfl) (AF.le_top _)))))
    · unfold m_terms_Term_Write_B2 at h
      refine k_seq ?_
      refine k_reg .free hmixP (by kernel_rfl) ?_
      refine G_q rfl (op_lss rfl rfl ?_)
      refine G_nil ?_
      refine kC_normal ?_
      refine k_seq ?_
      refine k_cond_d (p := x31_l2 < (List.length ((gi y1.2 y1.1).2.2.1) : Int)) rfl (fun hc => ?_) (fun hc => ?_)
      · replace h := ite_t h hc
        refine k_skip ?_
        refine kC_normal ?_
        refine k_seq ?_
        refine k_block ?_
        refine k_seq ?_
        refine k_reg .free hmixP (by kernel_rfl) ?_
        obtain ⟨n26, h⟩ := need_some h
        refine G_q rfl (op_index_row (by kernel_rfl) rfl rfl n26.1 n26.2 ?_)
        refine G_q rfl (op_load1p (a := refA bs (gi ((gi y1.2 y1.1).2.2.1) x31_l2)) (by kernel_rfl) rfl rfl ?_)
        refine G_q rfl (op_assign (av := refA bs (gi ((gi y1.2 y1.1).2.2.1) x31_l2)) rfl ?_)
        refine G_nil ?_
        refine kC_normal ?_
        refine k_reg .free hmixP (by kernel_rfl) ?_
        refine G_q rfl (op_move (av := refA bs (gi ((gi y1.2 y1.1).2.2.1) x31_l2)) rfl ?_)
        refine G_q rfl (op_move (av := .exact v1_l2) rfl ?_)
        obtain ⟨y27, hy27, h⟩ := bnd1_some h
        refine G_l rfl (opB_f1 (op_fun_2_1_2 (hself_terms_Term_Write _ _ _ _ hy27) Tryd.func44 (by kernel_rfl) (LEs.cons (AV.le_eq rfl) (LEs.cons (AV.le_eq rfl) LEs.nil)) (fun v28 => ?_)))
        refine G_q rfl (op_assign (av := .exact v28) rfl ?_)
        refine G_nil ?_
        refine kB_normal ?_
        refine kC_normal ?_
        refine k_reg .free hmixP (by kernel_rfl) ?_
        refine G_q rfl (op_add rfl rfl rfl ?_)
        refine G_q rfl (op_move (av := .exact (.int .i64 (i64 (x31_l2 + 1)))) rfl ?_)
        refine G_nil ?_
        refine kI_normal ⟨_, _, _, v28, h, ?_⟩
        refine Sub.trans (SubU.to SubU.f1) ?_
        exact Sub.of_le (AF.le_put (AV.le_eq rfl) (AF.le_put (AV.le_eq rfl) (AF.le_put (AV.le_eq rfl) (AF.le_put (AV.le_eq rfl) (AF.le_top _)))))
      · replace h := ite_f h hc
        refine k_exit ?_
        refine kC_exit ?_
        refine kI_exit ?_
        refine kB_exit ?_
        refine kI_normal ⟨_, _, v1_l2, h, ?_⟩
        exact Sub.of_le (AF.le_put (AV.le_eq rfl) (AF.le_top _))
  · refine k_seq ?_
    refine k_reg .free hmixP (by kernel_rfl) ?_
    refine G_q rfl (op_move (av := .exact v1_j7) rfl ?_)
    refine G_q rfl (op_assign (av := .exact v1_j7) rfl ?_)
    refine G_nil ?_
    refine kC_normal ?_
    refine k_ret ?_
    obtain rfl := Option.some.inj h
    refine kP_any (endN (af' := (AF.put AF0 (some 4) (.exact v1_j7))) (σ' := [vecT Tryd.prog 22 3 c_api_TypeNode v1_j7 x1_j7, hpI 72 (c_terms_Term bs) bs xH_j7]) _ rfl ?_ ⟨v1_j7, rfl, rfl⟩)
    refine Sub.trans (SubU.to SubU.f1) ?_
    exact Sub.of_le (AF.le_put (AV.le_eq rfl) (AF.le_top _))
set_option maxHeartbeats 4000000 in
theorem m_terms_Term_Write_S_ok : ∀ n : Nat, (∀ ⦃w1 : Value⦄ ⦃bs : List Nat⦄ (a0 : Int) (a1 : List (Int × Int × Int)) (a2 : List (Int × Int × (List Int) × Int)) (r : (List (Int × Int × Int)) × (List (Int × Int × (List Int) × Int))), m_terms_Term_Write_S n a0 a1 a2 = some r → Fun Tryd.prog 44 [(refA bs a0), (.exact w1)] [vecT Tryd.prog 22 3 c_api_TypeNode w1 a1, hpI 72 (c_terms_Term bs) bs a2] (fun a s => ∃ z0, a = .exact z0 ∧ s = [vecT Tryd.prog 22 3 c_api_TypeNode z0 r.1, hpI 72 (c_terms_Term bs) bs r.2]))
  | 0 => (fun _ _ _ _ _ _ h => by have h' : (none : Option _) = some _ := h; cases h')
  | n + 1 => by
    have ih := m_terms_Term_Write_S_ok n
    exact fun w1 bs a0 a1 a2 r h => m_terms_Term_Write_F_ok (m_terms_Term_Write_S n) ih a0 a1 a2 r h
theorem m_terms_Term_Write_ok {w1 : Value} {bs : List Nat} (a0 : Int) (a1 : List (Int × Int × Int)) (a2 : List (Int × Int × (List Int) × Int)) (r : (List (Int × Int × Int)) × (List (Int × Int × (List Int) × Int))) (h : m_terms_Term_Write a0 a1 a2 = some r) : Fun Tryd.prog 44 [(refA bs a0), (.exact w1)] [vecT Tryd.prog 22 3 c_api_TypeNode w1 a1, hpI 72 (c_terms_Term bs) bs a2] (fun a s => ∃ z0, a = .exact z0 ∧ s = [vecT Tryd.prog 22 3 c_api_TypeNode z0 r.1, hpI 72 (c_terms_Term bs) bs r.2]) := (m_terms_Term_Write_S_ok FU) a0 a1 a2 r h
set_option maxHeartbeats 4000000 in
theorem m_slices_Clip_L_api_TypeNode_api_TypeNode_ok (a0 : List (Int × Int × Int)) (r : (List (Int × Int × Int))) (h : m_slices_Clip_L_api_TypeNode_api_TypeNode a0 = some r) : Pure Tryd.prog 43 [(.row 3 c_api_TypeNode a0)] (.row 3 c_api_TypeNode r) := by
  unfold m_slices_Clip_L_api_TypeNode_api_TypeNode at h
  refine Pure.ofFun (fun_of_awp Tryd.func43 rfl Tryd.ntmps43 (by simp) rfl (res1 rfl) fun E hE => k_end ?_)
  refine k_seq ?_
  refine k_reg .free hmixP (by kernel_rfl) ?_
  refine G_q rfl (op_assign (av := .exact (.slice none 0 0)) rfl ?_)
  refine G_nil ?_
  refine kC_normal ?_
  refine k_seq ?_
  refine k_reg .free hmixP (by kernel_rfl) ?_
  refine G_q rfl (op_move (av := .row 3 c_api_TypeNode a0) rfl ?_)
  refine G_q rfl (op_move (av := .row 3 c_api_TypeNode a0) rfl ?_)
  refine G_q rfl (op_len_row (by kernel_rfl) rfl ?_)
  refine G_q rfl (op_move (av := .row 3 c_api_TypeNode a0) rfl ?_)
  refine G_q rfl (op_len_row (by kernel_rfl) rfl ?_)
  obtain ⟨n1, h⟩ := need_some h
  refine G_q rfl (op_slice_row3 (by kernel_rfl) rfl bnd_none rfl rfl (Int.le_refl 0) n1 (Int.le_refl _) (Int.le_refl _) ?_)
  refine G_q rfl (op_assign (av := .row 3 c_api_TypeNode (List.take (Int.toNat (List.length a0 : Int)) a0)) rfl ?_)
  refine G_nil ?_
  refine kC_normal ?_
  refine k_ret ?_
  obtain rfl := Option.some.inj h
  refine kP_any (endN (af' := (AF.put AF0 (some 2) (.row 3 c_api_TypeNode (List.take (Int.toNat (List.length a0 : Int)) a0)))) (σ' := []) _ rfl ?_ ⟨rfl, rfl⟩)
  exact Sub.of_le (AF.le_put (AV.le_eq rfl) (AF.le_top _))
set_option maxHeartbeats 4000000 in
theorem m_slices_Clip_L_api_Binding_api_Binding_ok (a0 : List (Int × (List (Int × Int × Int)))) (r : (List (Int × (List (Int × Int × Int))))) (h : m_slices_Clip_L_api_Binding_api_Binding a0 = some r) : Pure Tryd.prog 47 [(.row 2 c_api_Binding a0)] (.row 2 c_api_Binding r) := by
  unfold m_slices_Clip_L_api_Binding_api_Binding at h
  refine Pure.ofFun (fun_of_awp Tryd.func47 rfl Tryd.ntmps47 (by simp) rfl (res1 rfl) fun E hE => k_end ?_)
  refine k_seq ?_
  refine k_reg .free hmixP (by kernel_rfl) ?_
  refine G_q rfl (op_assign (av := .exact (.slice none 0 0)) rfl ?_)
  refine G_nil ?_
  refine kC_normal ?_
  refine k_seq ?_
  refine k_reg .free hmixP (by kernel_rfl) ?_
  refine G_q rfl (op_move (av := .row 2 c_api_Binding a0) rfl ?_)
  refine G_q rfl (op_move (av := .row 2 c_api_Binding a0) rfl ?_)
  refine G_q rfl (op_len_row (by kernel_rfl) rfl ?_)
  refine G_q rfl (op_move (av := .row 2 c_api_Binding a0) rfl ?_)
  refine G_q rfl (op_len_row (by kernel_rfl) rfl ?_)
  obtain ⟨n1, h⟩ := need_some h
  refine G_q rfl (op_slice_row3 (by kernel_rfl) rfl bnd_none rfl rfl (Int.le_refl 0) n1 (Int.le_refl _) (Int.le_refl _) ?_)
  refine G_q rfl (op_assign (av := .row 2 c_api_Binding (List.take (Int.toNat (List.length a0 : Int)) a0)) rfl ?_)
  refine G_nil ?_
  refine kC_normal ?_
  refine k_ret ?_
  obtain rfl := Option.some.inj h
  refine kP_any (endN (af' := (AF.put AF0 (some 2) (.row 2 c_api_Binding (List.take (Int.toNat (List.length a0 : Int)) a0)))) (σ' := []) _ rfl ?_ ⟨rfl, rfl⟩)
  exact Sub.of_le (AF.le_put (AV.le_eq rfl) (AF.le_top _))
set_option maxHeartbeats 4000000 in
theorem m_types_Unify_ok (a0 : List (Int × Int × Int)) (a1 : List (Int × Int × Int)) (r : (List (Int × (List (Int × Int × Int)))) × Int) (h : m_types_Unify a0 a1 = some r) : Pure Tryd.prog 12 [(.row 3 c_api_TypeNode a0), (.row 3 c_api_TypeNode a1)] (.tup [.row 2 c_api_Binding r.1, .exact (.int .i64 r.2)]) := by
  unfold m_types_Unify at h
  refine Pure.ofFun (fun_of_awp Tryd.func12 rfl Tryd.ntmps12 (by simp) rfl (res2 rfl) fun E hE => k_end ?_)
  refine k_seq ?_
  refine k_reg .free hmixP (by kernel_rfl) ?_
  refine G_q rfl (op_assign (av := .exact (.slice none 0 0)) rfl ?_)
  refine G_q rfl (op_assign (av := .exact (.int .i64 0)) rfl ?_)
  refine G_nil ?_
  refine kC_normal ?_
  refine k_seq ?_
  refine k_join1_0 h (fun (x22_j7 : Bool) => (AF.put (AF.put (AF.put AF0 (some 0) (.row 3 c_api_TypeNode a0)) (some 1) (.row 3 c_api_TypeNode a1)) (some 22) (.exact (.bool x22_j7)))) (fun (x22_j7 : Bool) => []) (fun k7 h => ?_) (fun x22_j7 h => ?_)
  · refine k_reg .free hmixP (by kernel_rfl) ?_
    refine G_q rfl (op_move (av := .row 3 c_api_TypeNode a0) rfl ?_)
    obtain ⟨y10, hy10, h⟩ := bnd1_some h
    refine G_q rfl (op_pure (m_types_Valid_ok _ _ hy10) Tryd.func29 (by kernel_rfl) (LEs.cons (AV.le_eq rfl) LEs.nil) ?_)
    refine G_q rfl (op_not rfl ?_)
    refine G_q rfl (op_move (av := .exact (.bool (!y10))) rfl ?_)
    refine G_splitB (c := !y10) 18 rfl (fun hc => ?_) (fun hc => ?_)
    · replace h := ite_t h hc
      refine G_n rfl rfl ?_
      refine G_n rfl rfl ?_
      refine G_n rfl rfl ?_
      refine G_q rfl (op_pick_t rfl (av := .exact (.bool true)) rfl ?_)
      refine G_nil ?_
      refine kI_normal ⟨_, h, ?_⟩
      exact Sub.of_le (AF.le_put (AV.le_eq rfl) (AF.le_put (AV.le_eq rfl) (AF.le_put (AV.le_eq rfl) (AF.le_top _))))
    · replace h := ite_f h hc
      refine Gy_q rfl rfl rfl (op_move (av := .row 3 c_api_TypeNode a1) rfl ?_)
      obtain ⟨y11, hy11, h⟩ := bnd1_some h
      refine Gy_q rfl rfl rfl (op_pure (m_types_Valid_ok _ _ hy11) Tryd.func29 (by kernel_rfl) (LEs.cons (AV.le_eq rfl) LEs.nil) ?_)
      refine Gy_q rfl rfl rfl (op_not rfl ?_)
      refine G_q rfl (op_pick_f rfl (av := .exact (.bool (!y11))) rfl ?_)
      refine G_nil ?_
      refine kI_normal ⟨_, h, ?_⟩
      exact Sub.of_le (AF.le_put (AV.le_eq rfl) (AF.le_put (AV.le_eq rfl) (AF.le_put (AV.le_eq rfl) (AF.le_top _))))
  · refine k_cond_b (c := x22_j7) rfl (fun hc => ?_) (fun hc => ?_)
    · replace h := ite_t h hc
      refine k_seq ?_
      refine k_reg .free hmixP (by kernel_rfl) ?_
      refine G_q rfl (op_assign (av := .exact (.slice none 0 0)) rfl ?_)
      refine G_q rfl (op_assign (av := .exact (.int .i64 1)) rfl ?_)
      refine G_nil ?_
      refine kC_normal ?_
      refine k_ret ?_
      refine kC_ret ?_
      obtain rfl := Option.some.inj h
      refine kP_any (endN (af' := (AF.put (AF.put AF0 (some 4) (.row 2 c_api_Binding [])) (some 5) (.exact (.int .i64 1)))) (σ' := []) _ rfl ?_ ⟨rfl, rfl⟩)
      exact Sub.of_le (AF.le_put (AV.le_eq rfl) (AF.le_put (row_nil (by decide)) (AF.le_top _)))
    · replace h := ite_f h hc
      refine k_skip ?_
      refine kC_normal ?_
      refine k_seq ?_
      refine k_reg .free hmixP (by kernel_rfl) ?_
      obtain ⟨bs, hbs⟩ : ∃ x : List Nat, x = [] := ⟨_, rfl⟩
      refine G_sub rfl (SubU.newHeap (t := 72) (enc := (c_terms_Term bs)) hbs) ?_
      refine G_l rfl (op_mnew (V := (fun _ => True)) (kv := (fun k : Int => .int .i64 k)) (vv := (fun x : Int => refA bs x)) (fun b12 => ?_))
      refine G_q rfl (op_assign (av := .exact (.map (some b12))) rfl ?_)
      refine G_nil ?_
      refine kC_normal ?_
      refine k_seq ?_
      refine k_reg .free hmixP (by kernel_rfl) ?_
      refine G_q rfl (op_move (av := .exact (.map (some b12))) rfl ?_)
      refine G_q rfl (op_move (av := .row 3 c_api_TypeNode a0) rfl ?_)
      obtain ⟨y13, hy13, h⟩ := bnd1_some h
      refine G_l rfl (opB_f1 (opB_f1 (op_fun_2_1_3 (m_terms_Reader_Read_ok _ _ _ _ hy13) Tryd.func40 (by kernel_rfl) (LEs.cons (AV.le_eq rfl) (LEs.cons (AV.le_eq rfl) LEs.nil)) (fun bs => ?_))))
      refine G_sub rfl (SubU.useExt (af' := (AF.put (AF.put (AF.put (AF.put (AF.put (AF.put (AF.put (AF.put AF0 (some 0) (.row 3 c_api_TypeNode a0)) (some 1) (.row 3 c_api_TypeNode a1)) (some 6) (.exact (.map (some b12)))) (some 22) (.exact (.bool x22_j7))) (some 23) (.exact (.map (some b12)))) (some 25) (.exact (.map (some b12)))) (some 26) (.row 3 c_api_TypeNode a0)) (some 27) (.tup [refA bs y13.1, .row 3 c_api_TypeNode y13.2.1]))) (List.Mem.tail _ (List.Mem.tail _ (List.Mem.head _))) (fun hx => SubU.trans SubU.f2 (SubU.trans SubU.drop (SubU.of_le (AF.le_put (AV.le_eq rfl) (AF.le_put (AV.le_eq rfl) (AF.le_put (AV.le_eq rfl) (AF.le_put (AV.le_eq rfl) (AF.le_put (AV.le_eq rfl) (AF.le_put (AV.le_eq rfl) (AF.le_put (AV.le_eq rfl) (AF.le_put (AV.le_eq rfl) (AF.le_top _))))))))))))) ?_
      refine G_q rfl (op_move (av := .tup [refA bs y13.1, .row 3 c_api_TypeNode y13.2.1]) rfl ?_)
      refine G_q rfl (op_extract (av := refA bs y13.1) rfl rfl ?_)
      refine G_q rfl (op_extract (av := .row 3 c_api_TypeNode y13.2.1) rfl rfl ?_)
      refine G_q rfl (op_assign (av := refA bs y13.1) rfl ?_)
      refine G_q rfl (op_assign (av := .row 3 c_api_TypeNode y13.2.1) rfl ?_)
      refine G_nil ?_
      refine kC_normal ?_
      refine k_seq ?_
      refine k_reg .free hmixP (by kernel_rfl) ?_
      refine G_q rfl (op_move (av := .exact (.map (some b12))) rfl ?_)
      refine G_q rfl (op_move (av := .row 3 c_api_TypeNode a1) rfl ?_)
      obtain ⟨y14, hy14, h⟩ := bnd1_some h
      refine G_l rfl (opB_f1 (opB_f1 (op_fun_2_1_3 (m_terms_Reader_Read_ok _ _ _ _ hy14) Tryd.func40 (by kernel_rfl) (LEs.cons (AV.le_eq rfl) (LEs.cons (AV.le_eq rfl) LEs.nil)) (fun bs => ?_))))
      refine G_sub rfl (SubU.useExt (af' := (AF.put (AF.put (AF.put (AF.put (AF.put (AF.put (AF.put (AF.put (AF.put (AF.put (AF.put (AF.put (AF.put (AF.put AF0 (some 0) (.row 3 c_api_TypeNode a0)) (some 1) (.row 3 c_api_TypeNode a1)) (some 6) (.exact (.map (some b12)))) (some 7) (refA bs y13.1)) (some 8) (.row 3 c_api_TypeNode y13.2.1)) (some 22) (.exact (.bool x22_j7))) (some 23) (.exact (.map (some b12)))) (some 25) (.exact (.map (some b12)))) (some 26) (.row 3 c_api_TypeNode a0)) (some 28) (refA bs y13.1)) (some 29) (.row 3 c_api_TypeNode y13.2.1)) (some 31) (.exact (.map (some b12)))) (some 32) (.row 3 c_api_TypeNode a1)) (some 33) (.tup [refA bs y14.1, .row 3 c_api_TypeNode y14.2.1]))) (List.Mem.tail _ (List.Mem.tail _ (List.Mem.head _))) (fun hx => SubU.trans SubU.f2 (SubU.trans SubU.drop (SubU.of_le (AF.le_put (AV.le_eq rfl) (AF.le_put (AV.le_eq rfl) (AF.le_put (AV.le_eq rfl) (AF.le_put (AV.le_eq rfl) (AF.le_put (refA_ext hx) (AF.le_put (AV.le_eq rfl) (AF.le_put (AV.le_eq rfl) (AF.le_put (AV.le_eq rfl) (AF.le_put (AV.le_eq rfl) (AF.le_put (AV.le_eq rfl) (AF.le_put (refA_ext hx) (AF.le_put (AV.le_eq rfl) (AF.le_put (AV.le_eq rfl) (AF.le_put (AV.le_eq rfl) (AF.le_top _))))))))))))))))))) ?_
      refine G_q rfl (op_move (av := .tup [refA bs y14.1, .row 3 c_api_TypeNode y14.2.1]) rfl ?_)
      refine G_q rfl (op_extract (av := refA bs y14.1) rfl rfl ?_)
      refine G_q rfl (op_extract (av := .row 3 c_api_TypeNode y14.2.1) rfl rfl ?_)
      refine G_q rfl (op_assign (av := refA bs y14.1) rfl ?_)
      refine G_q rfl (op_assign (av := .row 3 c_api_TypeNode y14.2.1) rfl ?_)
      refine G_nil ?_
      refine kC_normal ?_
      refine k_seq ?_
      refine k_seq ?_
      refine k_reg .free hmixP (by kernel_rfl) ?_
      refine G_l rfl (op_mnew (V := (refOk2 bs)) (kv := (refV2 bs)) (vv := (fun x : Bool => .exact (.bool x))) (fun b15 => ?_))
      refine G_q rfl (op_move (av := refA bs y13.1) rfl ?_)
      refine G_q rfl (op_move (av := refA bs y14.1) rfl ?_)
      obtain ⟨y16, hy16, h⟩ := bnd1_some h
      refine G_l rfl (opB_f2 (opB_f1 (op_fun_2_0_2 (m_terms_Unifier_Unify_ok _ _ _ _ _ hy16) Tryd.func41 (by kernel_rfl) (LEs.cons (AV.le_eq rfl) (LEs.cons (AV.le_eq rfl) (LEs.cons (AV.le_eq rfl) LEs.nil))) ?_)))
      refine G_q rfl (op_assign (av := .exact (.int .i64 y16.1)) rfl ?_)
      refine G_nil ?_
      refine kC_normal ?_
      refine k_seq ?_
      refine k_reg .free hmixP (by kernel_rfl) ?_
      refine G_q rfl (op_move (av := .exact (.int .i64 y16.1)) rfl ?_)
      refine G_q rfl (op_neq rfl rfl ?_)
      refine G_nil ?_
      refine kC_normal ?_
      refine k_cond_d (p := ¬ y16.1 = 0) rfl (fun hc => ?_) (fun hc => ?_)
      · replace h := ite_t h hc
        refine k_seq ?_
        refine k_reg .free hmixP (by kernel_rfl) ?_
        refine G_q rfl (op_move (av := .exact (.int .i64 y16.1)) rfl ?_)
        refine G_q rfl (op_assign (av := .exact (.slice none 0 0)) rfl ?_)
        refine G_q rfl (op_assign (av := .exact (.int .i64 y16.1)) rfl ?_)
        refine G_nil ?_
        refine kC_normal ?_
        refine k_ret ?_
        refine kC_ret ?_
        obtain rfl := Option.some.inj h
        refine kP_any (endN (af' := (AF.put (AF.put AF0 (some 4) (.row 2 c_api_Binding [])) (some 5) (.exact (.int .i64 y16.1)))) (σ' := []) _ rfl ?_ ⟨rfl, rfl⟩)
        refine Sub.trans (SubU.to SubU.drop) ?_
        refine Sub.trans (SubU.to SubU.drop) ?_
        refine Sub.trans (SubU.to SubU.drop) ?_
        exact Sub.of_le (AF.le_put (AV.le_eq rfl) (AF.le_put (row_nil (by decide)) (AF.le_top _)))
      · replace h := ite_f h hc
        refine k_skip ?_
        refine kC_normal ?_
        refine k_seq ?_
        refine k_seq ?_
        refine k_reg .free hmixP (by kernel_rfl) ?_
        refine G_q rfl (op_move (av := refA bs y13.1) rfl ?_)
        obtain ⟨y17, hy17, h⟩ := bnd1_some h
        refine G_l rfl (opB_f1 (op_fun_1_0_1 (m_terms_Fits_ok _ _ _ hy17) Tryd.func42 (by kernel_rfl) (LEs.cons (AV.le_eq rfl) LEs.nil) ?_))
        refine G_q rfl (op_not rfl ?_)
        refine G_nil ?_
        refine kC_normal ?_
        refine k_cond_b (c := !y17.1) rfl (fun hc => ?_) (fun hc => ?_)
        · replace h := ite_t h hc
          refine k_seq ?_
          refine k_reg .free hmixP (by kernel_rfl) ?_
          refine G_q rfl (op_assign (av := .exact (.slice none 0 0)) rfl ?_)
          refine G_q rfl (op_assign (av := .exact (.int .i64 10)) rfl ?_)
          refine G_nil ?_
          refine kC_normal ?_
          refine k_ret ?_
          refine kC_ret ?_
          obtain rfl := Option.some.inj h
          refine kP_any (endN (af' := (AF.put (AF.put AF0 (some 4) (.row 2 c_api_Binding [])) (some 5) (.exact (.int .i64 10)))) (σ' := []) _ rfl ?_ ⟨rfl, rfl⟩)
          refine Sub.trans (SubU.to SubU.drop) ?_
          refine Sub.trans (SubU.to SubU.drop) ?_
          refine Sub.trans (SubU.to SubU.drop) ?_
          exact Sub.of_le (AF.le_put (AV.le_eq rfl) (AF.le_put (row_nil (by decide)) (AF.le_top _)))
        · replace h := ite_f h hc
          refine k_skip ?_
          refine kC_normal ?_
          refine k_seq ?_
          refine k_reg .free hmixP (by kernel_rfl) ?_
          refine G_q rfl (op_assign (av := .exact (.slice none 0 0)) rfl ?_)
          refine G_nil ?_
          refine kC_normal ?_
          refine k_join2_1 h (fun (xH_j18 : List (Int × Int × (List Int) × Int)) (x12_j18 : List (Int × (List (Int × Int × Int)))) (v12_j18 : Value) => (AF.put AF0 (some 12) (.exact v12_j18))) (fun (xH_j18 : List (Int × Int × (List Int) × Int)) (x12_j18 : List (Int × (List (Int × Int × Int)))) (v12_j18 : Value) => [hpI 72 (c_terms_Term bs) bs xH_j18, vecT Tryd.prog 24 2 c_api_Binding v12_j18 x12_j18]) (fun k18 h => ?_) (fun xH_j18 x12_j18 v12_j18 h => ?_)
          · refine k_seq ?_
            refine k_reg .free hmixP (by kernel_rfl) ?_
            refine G_q rfl (op_move (av := .exact (.map (some b12))) rfl ?_)
            refine G_l rfl (opB_f2 (op_mrange Tryd.underlying62 rfl (fun r45 => ?_)))
            refine G_nil ?_
            refine kC_normal ?_
            refine k_block ?_
            refine k_range1_1 (V := (fun _ => True)) (kv := (fun k : Int => .int .i64 k)) (vv := (fun x : Int => refA bs x)) (b := b12) (r := r45) h (fun (s_l2 : (List (Int × Int × (List Int) × Int)) × (List (Int × (List (Int × Int × Int))))) (v12_l2 : Value) => (AF.put (AF.put AF0 (some 12) (.exact v12_l2)) (some 47) (pA r45 0))) (fun (s_l2 : (List (Int × Int × (List Int) × Int)) × (List (Int × (List (Int × Int × Int))))) (v12_l2 : Value) => [hpI 72 (c_terms_Term bs) bs s_l2.1, vecT Tryd.prog 24 2 c_api_Binding v12_l2 s_l2.2]) (.slice none 0 0) ?_ (fun s_l2 v12_l2 left cur Q hK hB => ?_)
            · refine Sub.trans (SubU.to SubU.f2) ?_
              refine Sub.trans (SubU.to SubU.drop) ?_
              refine Sub.trans (SubU.to (SubU.nilT (P := Tryd.prog) (t := 24) (n := 2) (enc := c_api_Binding))) ?_
              refine Sub.trans (SubU.to SubU.f2) ?_
              refine Sub.trans (SubU.to SubU.f2) ?_
              exact Sub.of_le (AF.le_put (AV.le_eq rfl) (AF.le_put (AV.le_eq rfl) (AF.le_top _)))
            · obtain ⟨xH_l2, x12_l2⟩ := s_l2
              refine k_seq ?_
              refine k_reg .free hmixP (by kernel_rfl) ?_
              refine G_l rfl (op_mnext rfl (fun hl => ?_) (fun A62 y62 B62 hl => ?_))
              · replace h := hK hl
                refine G_q rfl (op_extract (av := .exact (.bool false)) rfl rfl ?_)
                refine G_nil ?_
                refine kC_normal ?_
                refine k_seq ?_
                refine k_cond_f rfl ?_
                refine k_exit ?_
                refine kC_exit ?_
                refine kI_exit ?_
                refine kB_exit ?_
                refine kI_normal ⟨_, _, v12_l2, h, ?_⟩
                refine Sub.trans (SubU.to SubU.drop) ?_
                exact Sub.of_le (AF.le_put (AV.le_eq rfl) (AF.le_top _))
              · obtain ⟨x', h, hj⟩ := hB A62 y62 B62 hl
                unfold m_types_Unify_R2 at h
                refine G_q rfl (op_extract (av := .exact (.bool true)) rfl rfl ?_)
                refine G_nil ?_
                refine kC_normal ?_
                refine k_seq ?_
                refine k_cond_t rfl ?_
                refine k_skip ?_
                refine kC_normal ?_
                refine k_block ?_
                refine k_seq ?_
                refine k_reg .free hmixP (by kernel_rfl) ?_
                refine G_r rfl (op_mentry rfl ?_)
                refine G_q rfl (op_extract (av := .exact (.int .i64 y62.1)) rfl rfl ?_)
                refine G_q rfl (op_extract (av := refA bs y62.2) rfl rfl ?_)
                refine G_q rfl (op_assign (av := .exact (.int .i64 y62.1)) rfl ?_)
                refine G_q rfl (op_assign (av := refA bs y62.2) rfl ?_)
                refine G_nil ?_
                refine kC_normal ?_
                refine k_seq ?_
                refine k_reg .free hmixP (by kernel_rfl) ?_
                refine G_q rfl (op_move (av := refA bs y62.2) rfl ?_)
                obtain ⟨n63, h⟩ := need_some h
                refine G_q rfl (op_nilC_ref rfl n63 ?_)
                refine G_q rfl (op_field_hpt (o := 3) (by kernel_rfl) rfl ?_)
                refine G_r rfl (opR_f1 (op_load_hptH (i := y62.2) (o := 3) (a := refA bs ((gi xH_l2 y62.2).2.2.2)) (by kernel_rfl) rfl rfl ?_))
                refine G_q rfl (op_neqnil_ref (t := 72) (by kernel_rfl) (by kernel_rfl) rfl rfl ?_)
                refine G_nil ?_
                refine kC_normal ?_
                refine k_cond_d (p := ¬ ((gi xH_l2 y62.2).2.2.2) = -1) rfl (fun hc => ?_) (fun hc => ?_)
                · replace h := ite_t h hc
                  refine k_reg .free hmixP (by kernel_rfl) ?_
                  refine G_q rfl (op_move (av := .exact v12_l2) rfl ?_)
                  refine G_q rfl (op_move (av := .exact (.int .i64 y62.1)) rfl ?_)
                  refine G_q rfl (op_move (av := refA bs y62.2) rfl ?_)
                  refine G_sub rfl (SubU.nilT (P := Tryd.prog) (t := 22) (n := 3) (enc := c_api_TypeNode)) ?_
                  obtain ⟨y65, hy65, h⟩ := bnd1_some h
                  refine G_l rfl (opB_f2 (opB_f1 (op_fun_2_1_2 (m_terms_Term_Write_ok _ _ _ _ hy65) Tryd.func44 (by kernel_rfl) (LEs.cons (AV.le_eq rfl) (LEs.cons (AV.le_eq rfl) LEs.nil)) (fun v66 => ?_))))
                  refine G_sub rfl (SubU.freezeT (s := 61) rfl len_c_api_TypeNode) ?_
                  obtain ⟨y67, hy67, h⟩ := bnd1_some h
                  refine G_q rfl (op_pure (m_slices_Clip_L_api_TypeNode_api_TypeNode_ok _ _ hy67) Tryd.func43 (by kernel_rfl) (LEs.cons (AV.le_eq rfl) LEs.nil) ?_)
                  refine G_q rfl (op_bld (c' := c_api_Binding (y62.1, y67)) (CellsAll.cons rfl CellsOf.int (CellsAll.cons rfl CellsOf.row CellsAll.nil)) rfl (LEs.cons (AV.le_eq rfl) (LEs.cons (AV.le_eq rfl) LEs.nil)) ?_)
                  refine G_q rfl (op_litT (n := 2) (enc := c_api_Binding) [(y62.1, y67)] (CellsAll.cons rfl CellsOf.agg CellsAll.nil) rfl (by kernel_rfl) (LEss.cons (LEs.cons (AV.le_eq rfl) (LEs.cons (AV.le_eq rfl) LEs.nil)) LEss.nil) ?_)
                  obtain ⟨n68, h⟩ := need_some h
                  refine G_l rfl (opB_f2 (op_appT (by kernel_rfl) rfl rfl oc_c_api_Binding n68 (fun v69 => ?_)))
                  refine G_q rfl (op_assign (av := .exact v69) rfl ?_)
                  refine G_nil ?_
                  refine kB_normal ?_
                  obtain rfl := Option.some.inj h
                  refine hj _ _ v69 ?_
                  refine Sub.trans (SubU.to SubU.f1) ?_
                  refine Sub.trans (SubU.to SubU.f2) ?_
                  exact Sub.of_le (AF.le_put (AV.le_eq rfl) (AF.le_put (AV.le_eq rfl) (AF.le_top _)))
                · replace h := ite_f h hc
                  refine k_skip ?_
                  refine kB_normal ?_
                  obtain rfl := Option.some.inj h
                  refine hj _ _ v12_l2 ?_
                  exact Sub.of_le (AF.le_put (AV.le_eq rfl) (AF.le_put (AV.le_eq rfl) (AF.le_top _)))
          · refine k_seq ?_
            refine k_reg .free hmixP (by kernel_rfl) ?_
            refine G_q rfl (op_move (av := .exact v12_j18) rfl ?_)
            obtain ⟨y70, hy70, h⟩ := bnd1_some h
            refine G_l rfl (opB_f1 (op_fun_1_0_1 (m_sort_api_Binding_types_Unify_1_ok _ _ hy70) Tryd.func45 (by kernel_rfl) (LEs.cons (AV.le_eq rfl) (LEs.cons (AV.le_eq rfl) LEs.nil)) ?_))
            refine G_nil ?_
            refine kC_normal ?_
            refine k_seq ?_
            refine k_reg .free hmixP (by kernel_rfl) ?_
            refine G_q rfl (op_move (av := .exact v12_j18) rfl ?_)
            refine G_sub rfl (SubU.freezeT3 (s1 := 12) (s2 := 66) (s3 := 68) rfl rfl rfl len_c_api_Binding) ?_
            obtain ⟨y71, hy71, h⟩ := bnd1_some h
            refine G_q rfl (op_pure (m_slices_Clip_L_api_Binding_api_Binding_ok _ _ hy71) Tryd.func47 (by kernel_rfl) (LEs.cons (AV.le_eq rfl) LEs.nil) ?_)
            refine G_q rfl (op_assign (av := .row 2 c_api_Binding y71) rfl ?_)
            refine G_q rfl (op_assign (av := .exact (.int .i64 0)) rfl ?_)
            refine G_nil ?_
            refine kC_normal ?_
            refine k_ret ?_
            obtain rfl := Option.some.inj h
            refine kP_any (endN (af' := (AF.put (AF.put AF0 (some 4) (.row 2 c_api_Binding y71)) (some 5) (.exact (.int .i64 0)))) (σ' := []) _ rfl ?_ ⟨rfl, rfl⟩)
            refine Sub.trans (SubU.to SubU.drop) ?_
            exact Sub.of_le (AF.le_put (AV.le_eq rfl) (AF.le_put (AV.le_eq rfl) (AF.le_top _)))
end Go.Proofs.YtdfdjgolijckfaaDoor
/- The functions compute their models, by program. -/
namespace Go.Proofs.YtdfdjgolijckfaaDoor
open Go.RowKit
attribute [local irreducible] AV.exact AV.top AV.row AV.ptr AV.agg AV.tup AV.eptr AV.fn AV.nilq AV.nilqn opA opB opM opR Quiet Loud Reads wpG awp den Sub SubU Pure Fun vecI vecT boxI CellsAll CellsOf OneC LEs LEss
set_option maxRecDepth 100000

set_option maxHeartbeats 4000000 in
theorem m_internal_strconv_Itoa_ok (a0 : Int) (r : (List UInt8)) (h : m_internal_strconv_Itoa a0 = some r) : Fun Tryd.prog 112 [(.exact (.int .i64 a0))] [tabI] (fun a s => a = .exact (.string (bs r)) ∧ s = [tabI]) := by
  unfold m_internal_strconv_Itoa at h
  refine fun_of_awp Tryd.func112 rfl Tryd.ntmps112 (by simp) rfl (res1 rfl) fun E hE => k_end ?_
  refine k_seq ?_
  refine k_reg .free hmixP (by kernel_rfl) ?_
  refine G_q rfl (op_assign (av := .exact (.string (bs ([] : List UInt8)))) rfl ?_)
  refine G_nil ?_
  refine kC_normal ?_
  refine k_seq ?_
  refine k_reg .free hmixP (by kernel_rfl) ?_
  refine G_q rfl (op_move (av := .exact (.int .i64 a0)) rfl ?_)
  obtain ⟨y1, hy1, h⟩ := bnd1_some h
  refine G_l rfl (op_fun_1_0_1 (m_itoa_ok _ _ _ hy1) Tryd.func126 (by kernel_rfl) (LEs.cons (AV.le_eq rfl) (LEs.cons (AV.le_eq rfl) LEs.nil)) ?_)
  refine G_q rfl (op_assign (av := .exact (.string (bs y1))) rfl ?_)
  refine G_nil ?_
  refine kC_normal ?_
  refine k_ret ?_
  obtain rfl := Option.some.inj h
  refine kP_any (endN (af' := (AF.put AF0 (some 2) (.exact (.string (bs y1))))) (σ' := [tabI]) _ rfl ?_ ⟨rfl, rfl⟩)
  exact Sub.of_le (AF.le_put (AV.le_eq rfl) (AF.le_top _))
set_option maxHeartbeats 4000000 in
theorem m_strconv_Itoa_ok (a0 : Int) (r : (List UInt8)) (h : m_strconv_Itoa a0 = some r) : Fun Tryd.prog 85 [(.exact (.int .i64 a0))] [tabI] (fun a s => a = .exact (.string (bs r)) ∧ s = [tabI]) := by
  unfold m_strconv_Itoa at h
  refine fun_of_awp Tryd.func85 rfl Tryd.ntmps85 (by simp) rfl (res1 rfl) fun E hE => k_end ?_
  refine k_seq ?_
  refine k_reg .free hmixP (by kernel_rfl) ?_
  refine G_q rfl (op_assign (av := .exact (.string (bs ([] : List UInt8)))) rfl ?_)
  refine G_nil ?_
  refine kC_normal ?_
  refine k_seq ?_
  refine k_reg .free hmixP (by kernel_rfl) ?_
  refine G_q rfl (op_move (av := .exact (.int .i64 a0)) rfl ?_)
  obtain ⟨y1, hy1, h⟩ := bnd1_some h
  refine G_l rfl (op_fun_1_0_1 (m_internal_strconv_Itoa_ok _ _ hy1) Tryd.func112 (by kernel_rfl) (LEs.cons (AV.le_eq rfl) LEs.nil) ?_)
  refine G_q rfl (op_assign (av := .exact (.string (bs y1))) rfl ?_)
  refine G_nil ?_
  refine kC_normal ?_
  refine k_ret ?_
  obtain rfl := Option.some.inj h
  refine kP_any (endN (af' := (AF.put AF0 (some 2) (.exact (.string (bs y1))))) (σ' := [tabI]) _ rfl ?_ ⟨rfl, rfl⟩)
  exact Sub.of_le (AF.le_put (AV.le_eq rfl) (AF.le_top _))
set_option maxHeartbeats 4000000 in
theorem m_types_text_F_ok (self_types_text : (List (Int × Int × Int)) → (List (List UInt8)) → Option ((List UInt8) × (List (Int × Int × Int)))) (hself_types_text : ∀ (a0 : List (Int × Int × Int)) (a1 : List (List UInt8)) (r : (List UInt8) × (List (Int × Int × Int))), self_types_text a0 a1 = some r → Fun Tryd.prog 68 [(.row 3 c_api_TypeNode a0), (.row 1 c_string a1)] [tabI] (fun a s => a = .tup [.exact (.string (bs r.1)), .row 3 c_api_TypeNode r.2] ∧ s = [tabI])) (a0 : List (Int × Int × Int)) (a1 : List (List UInt8)) (r : (List UInt8) × (List (Int × Int × Int))) (h : m_types_text_F self_types_text a0 a1 = some r) : Fun Tryd.prog 68 [(.row 3 c_api_TypeNode a0), (.row 1 c_string a1)] [tabI] (fun a s => a = .tup [.exact (.string (bs r.1)), .row 3 c_api_TypeNode r.2] ∧ s = [tabI]) := by
  unfold m_types_text_F at h
  refine fun_of_awp Tryd.func68 rfl Tryd.ntmps68 (by simp) rfl (res2 rfl) fun E hE => k_end ?_
  refine k_seq ?_
  refine k_reg .free hmixP (by kernel_rfl) ?_
  refine G_q rfl (op_assign (av := .exact (.string (bs ([] : List UInt8)))) rfl ?_)
  refine G_q rfl (op_assign (av := .exact (.slice none 0 0)) rfl ?_)
  refine G_nil ?_
  refine kC_normal ?_
  refine k_seq ?_
  refine k_reg .free hmixP (by kernel_rfl) ?_
  refine G_q rfl (op_move (av := .row 3 c_api_TypeNode a0) rfl ?_)
  obtain ⟨n1, h⟩ := need_some h
  refine G_q rfl (op_index_row (by kernel_rfl) rfl rfl n1.1 n1.2 ?_)
  refine G_q rfl (op_loadNp (m := 3) (c' := c_api_TypeNode (gi a0 0)) (by kernel_rfl) rfl rfl rfl ?_)
  refine G_l rfl (op_alloc (c := [.exact (.int .i64 ((0, 0, 0).1)), .exact (.int .i64 ((0, 0, 0).2.1)), .exact (.int .i64 ((0, 0, 0).2.2))]) rfl (LEs.cons (AV.le_eq rfl) (LEs.cons (AV.le_eq rfl) (LEs.cons (AV.le_eq rfl) LEs.nil))) (fun b2 => ?_))
  refine G_l rfl (op_store_box (c' := [.exact (.int .i64 ((gi a0 0).1)), .exact (.int .i64 ((gi a0 0).2.1)), .exact (.int .i64 ((gi a0 0).2.2))]) (c3 := [.exact (.int .i64 ((gi a0 0).1)), .exact (.int .i64 ((gi a0 0).2.1)), .exact (.int .i64 ((gi a0 0).2.2))]) rfl rfl CellsOf.agg (LEs.cons (AV.le_eq rfl) (LEs.cons (AV.le_eq rfl) (LEs.cons (AV.le_eq rfl) LEs.nil))) (oc_c_api_TypeNode _) (by kernel_rfl) (Nat.le_of_ble_eq_true rfl) rfl ?_)
  refine G_nil ?_
  refine kC_normal ?_
  refine k_seq ?_
  refine k_reg .free hmixP (by kernel_rfl) ?_
  refine G_q rfl (op_move (av := .row 3 c_api_TypeNode a0) rfl ?_)
  obtain ⟨n3, h⟩ := need_some h
  refine G_q rfl (op_slice_rowd (by kernel_rfl) rfl (bnd_some rfl) bnd_none (by decide) n3 (Int.le_refl _) ?_)
  refine G_q rfl (op_assign (av := .row 3 c_api_TypeNode (List.drop (Int.toNat 1) a0)) rfl ?_)
  refine G_nil ?_
  refine kC_normal ?_
  refine k_seq ?_
  refine k_reg .free hmixP (by kernel_rfl) ?_
  refine G_q rfl (op_assign (av := .exact (.slice none 0 0)) rfl ?_)
  refine G_nil ?_
  refine kC_normal ?_
  refine k_join2_1 h (fun (x0_j4 : List (Int × Int × Int)) (x7_j4 : List (List UInt8)) (v7_j4 : Value) => (AF.put (AF.put (AF.put (AF.put AF0 (some 0) (.row 3 c_api_TypeNode x0_j4)) (some 1) (.row 1 c_string a1)) (some 6) (pA b2 0)) (some 7) (.exact v7_j4))) (fun (x0_j4 : List (Int × Int × Int)) (x7_j4 : List (List UInt8)) (v7_j4 : Value) => [tabI, boxI 41 b2 [.exact (.int .i64 ((gi a0 0).1)), .exact (.int .i64 ((gi a0 0).2.1)), .exact (.int .i64 ((gi a0 0).2.2))], vecT Tryd.prog 54 1 c_string v7_j4 x7_j4]) (fun k4 h => ?_) (fun x0_j4 x7_j4 v7_j4 h => ?_)
  · refine k_seq ?_
    refine k_reg .free hmixP (by kernel_rfl) ?_
    refine G_q rfl (op_fieldAddr (o := 2) (by kernel_rfl) rfl ?_)
    refine G_r rfl (op_load_box1 (a := .exact (.int .i64 ((gi a0 0).2.2))) (by kernel_rfl) rfl rfl ?_)
    refine G_q rfl (op_move (av := .exact (.int .i64 0)) rfl ?_)
    refine G_nil ?_
    refine kC_normal ?_
    refine k_block ?_
    refine k_loop3_1 (m_types_text_L2 self_types_text a0 a1 k4) (m_types_text_B2 self_types_text a0 a1 k4) (fun _ _ _ => rfl) (fun m _ _ _ => rfl) h (fun (x0_l2 : List (Int × Int × Int)) (x7_l2 : List (List UInt8)) (x17_l2 : Int) (v7_l2 : Value) => (AF.put (AF.put (AF.put (AF.put (AF.put (AF.put AF0 (some 0) (.row 3 c_api_TypeNode x0_l2)) (some 1) (.row 1 c_string a1)) (some 6) (pA b2 0)) (some 7) (.exact v7_l2)) (some 16) (.exact (.int .i64 ((gi a0 0).2.2)))) (some 17) (.exact (.int .i64 x17_l2)))) (fun (x0_l2 : List (Int × Int × Int)) (x7_l2 : List (List UInt8)) (x17_l2 : Int) (v7_l2 : Value) => [tabI, boxI 41 b2 [.exact (.int .i64 ((gi a0 0).1)), .exact (.int .i64 ((gi a0 0).2.1)), .exact (.int .i64 ((gi a0 0).2.2))], vecT Tryd.prog 54 1 c_string v7_l2 x7_l2]) (.slice none 0 0) ?_ (fun rec2 x0_l2 x7_l2 x17_l2 v7_l2 h => ?_)
    · refine Sub.trans (SubU.to (SubU.nilT (P := Tryd.prog) (t := 54) (n := 1) (enc := c_string))) ?_
      refine Sub.trans (SubU.to SubU.f1) ?_
      refine Sub.trans (SubU.to SubU.f2) ?_
      exact Sub.of_le (AF.le_put (AV.le_eq rfl) (AF.le_put (AV.le_eq rfl) (AF.le_put (AV.le_eq rfl) (AF.le_put (AV.le_eq rfl) (AF.le_put (AV.le_eq rfl) (AF.le_put (AV.le_eq rfl) (AF.le_top _)))))))
    · unfold m_types_text_B2 at h
      refine k_seq ?_
      refine k_reg .free hmixP (by kernel_rfl) ?_
      refine G_q rfl (op_lss rfl rfl ?_)
      refine G_nil ?_
      refine kC_normal ?_
      refine k_seq ?_
      refine k_cond_d (p := x17_l2 < ((gi a0 0).2.2)) rfl (fun hc => ?_) (fun hc => ?_)
      · replace h := ite_t h hc
        refine k_skip ?_
        refine kC_normal ?_
        refine k_seq ?_
        refine k_block ?_
        refine k_seq ?_
        refine k_reg .free hmixP (by kernel_rfl) ?_
        refine G_q rfl (op_assign (av := .exact (.string (bs ([] : List UInt8)))) rfl ?_)
        refine G_nil ?_
        refine kC_normal ?_
        refine k_seq ?_
        refine k_reg .free hmixP (by kernel_rfl) ?_
        refine G_q rfl (op_move (av := .row 3 c_api_TypeNode x0_l2) rfl ?_)
        refine G_q rfl (op_move (av := .row 1 c_string a1) rfl ?_)
        obtain ⟨y21, hy21, h⟩ := bnd1_some h
        refine G_l rfl (op_fun_1_0_1 (hself_types_text _ _ _ hy21) Tryd.func68 (by kernel_rfl) (LEs.cons (AV.le_eq rfl) (LEs.cons (AV.le_eq rfl) LEs.nil)) ?_)
        refine G_q rfl (op_move (av := .tup [.exact (.string (bs y21.1)), .row 3 c_api_TypeNode y21.2]) rfl ?_)
        refine G_q rfl (op_extract (av := .exact (.string (bs y21.1))) rfl rfl ?_)
        refine G_q rfl (op_extract (av := .row 3 c_api_TypeNode y21.2) rfl rfl ?_)
        refine G_q rfl (op_assign (av := .exact (.string (bs y21.1))) rfl ?_)
        refine G_q rfl (op_assign (av := .row 3 c_api_TypeNode y21.2) rfl ?_)
        refine G_nil ?_
        refine kC_normal ?_
        refine k_reg .free hmixP (by kernel_rfl) ?_
        refine G_q rfl (op_move (av := .exact v7_l2) rfl ?_)
        refine G_q rfl (op_move (av := .exact (.string (bs y21.1))) rfl ?_)
        refine G_q rfl (op_litT (n := 1) (enc := c_string) [y21.1] (CellsAll.cons rfl CellsOf.str CellsAll.nil) rfl (by kernel_rfl) (LEss.cons (LEs.cons (AV.le_eq rfl) LEs.nil) LEss.nil) ?_)
        obtain ⟨n22, h⟩ := need_some h
        refine G_l rfl (opB_f2 (op_appT (by kernel_rfl) rfl rfl oc_c_string n22 (fun v23 => ?_)))
        refine G_q rfl (op_assign (av := .exact v23) rfl ?_)
        refine G_nil ?_
        refine kB_normal ?_
        refine kC_normal ?_
        refine k_reg .free hmixP (by kernel_rfl) ?_
        refine G_q rfl (op_add rfl rfl rfl ?_)
        refine G_q rfl (op_move (av := .exact (.int .i64 (i64 (x17_l2 + 1)))) rfl ?_)
        refine G_nil ?_
        refine kI_normal ⟨_, _, _, v23, h, ?_⟩
        refine Sub.trans (SubU.to SubU.f2) ?_
        refine Sub.trans (SubU.to SubU.f2) ?_
        exact Sub.of_le (AF.le_put (AV.le_eq rfl) (AF.le_put (AV.le_eq rfl) (AF.le_put (AV.le_eq rfl) (AF.le_put (AV.le_eq rfl) (AF.le_put (AV.le_eq rfl) (AF.le_put (AV.le_eq rfl) (AF.le_top _)))))))
      · replace h := ite_f h hc
        refine k_exit ?_
        refine kC_exit ?_
        refine kI_exit ?_
        refine kB_exit ?_
        refine kI_normal ⟨_, _, v7_l2, h, ?_⟩
        exact Sub.of_le (AF.le_put (AV.le_eq rfl) (AF.le_put (AV.le_eq rfl) (AF.le_put (AV.le_eq rfl) (AF.le_put (AV.le_eq rfl) (AF.le_top _)))))
  · refine k_seq ?_
    refine k_seq ?_
    refine k_reg .free hmixP (by kernel_rfl) ?_
    refine G_q rfl (op_fieldAddr (o := 0) (by kernel_rfl) rfl ?_)
    refine G_r rfl (opR_f1 (op_load_box1 (a := .exact (.int .i64 ((gi a0 0).1))) (by kernel_rfl) rfl rfl ?_))
    refine G_nil ?_
    refine kC_normal ?_
    refine k_block ?_
    refine k_seq ?_
    refine k_reg .free hmixP (by kernel_rfl) ?_
    refine G_q rfl (op_eql rfl rfl ?_)
    refine G_q rfl (op_assign (av := .exact (.bool (decide (((gi a0 0).1) = 1)))) rfl ?_)
    refine G_nil ?_
    refine kC_normal ?_
    refine k_cond_d (p := ((gi a0 0).1) = 1) rfl (fun hc => ?_) (fun hc => ?_)
    · replace h := ite_t h hc
      refine k_seq ?_
      refine k_reg .free hmixP (by kernel_rfl) ?_
      refine G_q rfl (op_fieldAddr (o := 1) (by kernel_rfl) rfl ?_)
      refine G_r rfl (opR_f1 (op_load_box1 (a := .exact (.int .i64 ((gi a0 0).2.1))) (by kernel_rfl) rfl rfl ?_))
      obtain ⟨y24, hy24, h⟩ := bnd1_some h
      refine G_l rfl (op_fun_1_0_1 (m_strconv_Itoa_ok _ _ hy24) Tryd.func85 (by kernel_rfl) (LEs.cons (AV.le_eq rfl) LEs.nil) ?_)
      obtain ⟨n25, h⟩ := need_some h
      refine G_q rfl (op_addS n25 rfl rfl ?_)
      refine G_q rfl (op_move (av := .row 3 c_api_TypeNode x0_j4) rfl ?_)
      refine G_q rfl (op_assign (av := .exact (.string (bs ([116] ++ y24)))) rfl ?_)
      refine G_q rfl (op_assign (av := .row 3 c_api_TypeNode x0_j4) rfl ?_)
      refine G_nil ?_
      refine kC_normal ?_
      refine k_ret ?_
      refine kB_ret ?_
      refine kC_ret ?_
      obtain rfl := Option.some.inj h
      refine kP_any (endN (af' := (AF.put (AF.put AF0 (some 4) (.exact (.string (bs ([116] ++ y24))))) (some 5) (.row 3 c_api_TypeNode x0_j4))) (σ' := [tabI]) _ rfl ?_ ⟨rfl, rfl⟩)
      refine Sub.trans (SubU.to SubU.f1) ?_
      refine Sub.trans (SubU.to SubU.drop) ?_
      refine Sub.trans (SubU.to SubU.f1) ?_
      refine Sub.trans (SubU.to SubU.drop) ?_
      exact Sub.of_le (AF.le_put (AV.le_eq rfl) (AF.le_put (AV.le_eq rfl) (AF.le_top _)))
    · replace h := ite_f h hc
      refine k_seq ?_
      refine k_reg .free hmixP (by kernel_rfl) ?_
      refine G_q rfl (op_eql rfl rfl ?_)
      refine G_q rfl (op_assign (av := .exact (.bool (decide (((gi a0 0).1) = 2)))) rfl ?_)
      refine G_nil ?_
      refine kC_normal ?_
      refine k_cond_d (p := ((gi a0 0).1) = 2) rfl (fun hc => ?_) (fun hc => ?_)
      · replace h := ite_t h hc
        refine k_seq ?_
        refine k_reg .free hmixP (by kernel_rfl) ?_
        refine G_q rfl (op_move (av := .row 3 c_api_TypeNode x0_j4) rfl ?_)
        refine G_q rfl (op_assign (av := .exact (.string (bs [73, 110, 116]))) rfl ?_)
        refine G_q rfl (op_assign (av := .row 3 c_api_TypeNode x0_j4) rfl ?_)
        refine G_nil ?_
        refine kC_normal ?_
        refine k_ret ?_
        refine kB_ret ?_
        refine kC_ret ?_
        obtain rfl := Option.some.inj h
        refine kP_any (endN (af' := (AF.put (AF.put AF0 (some 4) (.exact (.string (bs [73, 110, 116])))) (some 5) (.row 3 c_api_TypeNode x0_j4))) (σ' := [tabI]) _ rfl ?_ ⟨rfl, rfl⟩)
        refine Sub.trans (SubU.to SubU.f1) ?_
        refine Sub.trans (SubU.to SubU.drop) ?_
        refine Sub.trans (SubU.to SubU.f1) ?_
        refine Sub.trans (SubU.to SubU.drop) ?_
        exact Sub.of_le (AF.le_put (AV.le_eq rfl) (AF.le_put (AV.le_eq rfl) (AF.le_top _)))
      · replace h := ite_f h hc
        refine k_seq ?_
        refine k_reg .free hmixP (by kernel_rfl) ?_
        refine G_q rfl (op_eql rfl rfl ?_)
        refine G_q rfl (op_assign (av := .exact (.bool (decide (((gi a0 0).1) = 3)))) rfl ?_)
        refine G_nil ?_
        refine kC_normal ?_
        refine k_cond_d (p := ((gi a0 0).1) = 3) rfl (fun hc => ?_) (fun hc => ?_)
        · replace h := ite_t h hc
          refine k_seq ?_
          refine k_reg .free hmixP (by kernel_rfl) ?_
          refine G_q rfl (op_move (av := .row 3 c_api_TypeNode x0_j4) rfl ?_)
          refine G_q rfl (op_assign (av := .exact (.string (bs [66, 111, 111, 108]))) rfl ?_)
          refine G_q rfl (op_assign (av := .row 3 c_api_TypeNode x0_j4) rfl ?_)
          refine G_nil ?_
          refine kC_normal ?_
          refine k_ret ?_
          refine kB_ret ?_
          refine kC_ret ?_
          obtain rfl := Option.some.inj h
          refine kP_any (endN (af' := (AF.put (AF.put AF0 (some 4) (.exact (.string (bs [66, 111, 111, 108])))) (some 5) (.row 3 c_api_TypeNode x0_j4))) (σ' := [tabI]) _ rfl ?_ ⟨rfl, rfl⟩)
          refine Sub.trans (SubU.to SubU.f1) ?_
          refine Sub.trans (SubU.to SubU.drop) ?_
          refine Sub.trans (SubU.to SubU.f1) ?_
          refine Sub.trans (SubU.to SubU.drop) ?_
          exact Sub.of_le (AF.le_put (AV.le_eq rfl) (AF.le_put (AV.le_eq rfl) (AF.le_top _)))
        · replace h := ite_f h hc
          refine k_seq ?_
          refine k_reg .free hmixP (by kernel_rfl) ?_
          refine G_q rfl (op_eql rfl rfl ?_)
          refine G_q rfl (op_assign (av := .exact (.bool (decide (((gi a0 0).1) = 4)))) rfl ?_)
          refine G_nil ?_
          refine kC_normal ?_
          refine k_cond_d (p := ((gi a0 0).1) = 4) rfl (fun hc => ?_) (fun hc => ?_)
          · replace h := ite_t h hc
            refine k_seq ?_
            refine k_reg .free hmixP (by kernel_rfl) ?_
            refine G_q rfl (op_move (av := .row 3 c_api_TypeNode x0_j4) rfl ?_)
            refine G_q rfl (op_assign (av := .exact (.string (bs [69, 118, 101, 110, 116]))) rfl ?_)
            refine G_q rfl (op_assign (av := .row 3 c_api_TypeNode x0_j4) rfl ?_)
            refine G_nil ?_
            refine kC_normal ?_
            refine k_ret ?_
            refine kB_ret ?_
            refine kC_ret ?_
            obtain rfl := Option.some.inj h
            refine kP_any (endN (af' := (AF.put (AF.put AF0 (some 4) (.exact (.string (bs [69, 118, 101, 110, 116])))) (some 5) (.row 3 c_api_TypeNode x0_j4))) (σ' := [tabI]) _ rfl ?_ ⟨rfl, rfl⟩)
            refine Sub.trans (SubU.to SubU.f1) ?_
            refine Sub.trans (SubU.to SubU.drop) ?_
            refine Sub.trans (SubU.to SubU.f1) ?_
            refine Sub.trans (SubU.to SubU.drop) ?_
            exact Sub.of_le (AF.le_put (AV.le_eq rfl) (AF.le_put (AV.le_eq rfl) (AF.le_top _)))
          · replace h := ite_f h hc
            refine k_seq ?_
            refine k_reg .free hmixP (by kernel_rfl) ?_
            refine G_q rfl (op_eql rfl rfl ?_)
            refine G_q rfl (op_assign (av := .exact (.bool (decide (((gi a0 0).1) = 5)))) rfl ?_)
            refine G_nil ?_
            refine kC_normal ?_
            refine k_cond_d (p := ((gi a0 0).1) = 5) rfl (fun hc => ?_) (fun hc => ?_)
            · replace h := ite_t h hc
              refine k_seq ?_
              refine k_reg .free hmixP (by kernel_rfl) ?_
              refine G_q rfl (op_move (av := .row 3 c_api_TypeNode x0_j4) rfl ?_)
              refine G_q rfl (op_assign (av := .exact (.string (bs [80, 114, 111, 99]))) rfl ?_)
              refine G_q rfl (op_assign (av := .row 3 c_api_TypeNode x0_j4) rfl ?_)
              refine G_nil ?_
              refine kC_normal ?_
              refine k_ret ?_
              refine kB_ret ?_
              refine kC_ret ?_
              obtain rfl := Option.some.inj h
              refine kP_any (endN (af' := (AF.put (AF.put AF0 (some 4) (.exact (.string (bs [80, 114, 111, 99])))) (some 5) (.row 3 c_api_TypeNode x0_j4))) (σ' := [tabI]) _ rfl ?_ ⟨rfl, rfl⟩)
              refine Sub.trans (SubU.to SubU.f1) ?_
              refine Sub.trans (SubU.to SubU.drop) ?_
              refine Sub.trans (SubU.to SubU.f1) ?_
              refine Sub.trans (SubU.to SubU.drop) ?_
              exact Sub.of_le (AF.le_put (AV.le_eq rfl) (AF.le_put (AV.le_eq rfl) (AF.le_top _)))
            · replace h := ite_f h hc
              refine k_seq ?_
              refine k_reg .free hmixP (by kernel_rfl) ?_
              refine G_q rfl (op_eql rfl rfl ?_)
              refine G_q rfl (op_assign (av := .exact (.bool (decide (((gi a0 0).1) = 6)))) rfl ?_)
              refine G_nil ?_
              refine kC_normal ?_
              refine k_cond_d (p := ((gi a0 0).1) = 6) rfl (fun hc => ?_) (fun hc => ?_)
              · replace h := ite_t h hc
                refine k_seq ?_
                refine k_seq ?_
                refine k_reg .free hmixP (by kernel_rfl) ?_
                refine G_q rfl (op_fieldAddr (o := 1) (by kernel_rfl) rfl ?_)
                refine G_r rfl (opR_f1 (op_load_box1 (a := .exact (.int .i64 ((gi a0 0).2.1))) (by kernel_rfl) rfl rfl ?_))
                refine G_q rfl (op_move (av := .row 1 c_string a1) rfl ?_)
                refine G_q rfl (op_len_row (by kernel_rfl) rfl ?_)
                refine G_q rfl (op_lss rfl rfl ?_)
                refine G_nil ?_
                refine kC_normal ?_
                refine k_cond_d (p := ((gi a0 0).2.1) < (List.length a1 : Int)) rfl (fun hc => ?_) (fun hc => ?_)
                · replace h := ite_t h hc
                  refine k_seq ?_
                  refine k_reg .free hmixP (by kernel_rfl) ?_
                  refine G_q rfl (op_move (av := .row 1 c_string a1) rfl ?_)
                  refine G_q rfl (op_fieldAddr (o := 1) (by kernel_rfl) rfl ?_)
                  refine G_r rfl (opR_f1 (op_load_box1 (a := .exact (.int .i64 ((gi a0 0).2.1))) (by kernel_rfl) rfl rfl ?_))
                  obtain ⟨n26, h⟩ := need_some h
                  refine G_q rfl (op_index_row (by kernel_rfl) rfl rfl n26.1 n26.2 ?_)
                  refine G_q rfl (op_load1p (a := .exact (.string (bs (gi a1 ((gi a0 0).2.1))))) (by kernel_rfl) rfl rfl ?_)
                  refine G_q rfl (op_move (av := .row 3 c_api_TypeNode x0_j4) rfl ?_)
                  refine G_q rfl (op_assign (av := .exact (.string (bs (gi a1 ((gi a0 0).2.1))))) rfl ?_)
                  refine G_q rfl (op_assign (av := .row 3 c_api_TypeNode x0_j4) rfl ?_)
                  refine G_nil ?_
                  refine kC_normal ?_
                  refine k_ret ?_
                  refine kC_ret ?_
                  refine kB_ret ?_
                  refine kC_ret ?_
                  obtain rfl := Option.some.inj h
                  refine kP_any (endN (af' := (AF.put (AF.put AF0 (some 4) (.exact (.string (bs (gi a1 ((gi a0 0).2.1)))))) (some 5) (.row 3 c_api_TypeNode x0_j4))) (σ' := [tabI]) _ rfl ?_ ⟨rfl, rfl⟩)
                  refine Sub.trans (SubU.to SubU.f1) ?_
                  refine Sub.trans (SubU.to SubU.drop) ?_
                  refine Sub.trans (SubU.to SubU.f1) ?_
                  refine Sub.trans (SubU.to SubU.drop) ?_
                  exact Sub.of_le (AF.le_put (AV.le_eq rfl) (AF.le_put (AV.le_eq rfl) (AF.le_top _)))
                · replace h := ite_f h hc
                  refine k_skip ?_
                  refine kC_normal ?_
                  refine k_seq ?_
                  refine k_reg .free hmixP (by kernel_rfl) ?_
                  refine G_q rfl (op_fieldAddr (o := 1) (by kernel_rfl) rfl ?_)
                  refine G_r rfl (opR_f1 (op_load_box1 (a := .exact (.int .i64 ((gi a0 0).2.1))) (by kernel_rfl) rfl rfl ?_))
                  obtain ⟨y27, hy27, h⟩ := bnd1_some h
                  refine G_l rfl (op_fun_1_0_1 (m_strconv_Itoa_ok _ _ hy27) Tryd.func85 (by kernel_rfl) (LEs.cons (AV.le_eq rfl) LEs.nil) ?_)
                  obtain ⟨n28, h⟩ := need_some h
                  refine G_q rfl (op_addS n28 rfl rfl ?_)
                  refine G_q rfl (op_move (av := .row 3 c_api_TypeNode x0_j4) rfl ?_)
                  refine G_q rfl (op_assign (av := .exact (.string (bs ([68] ++ y27)))) rfl ?_)
                  refine G_q rfl (op_assign (av := .row 3 c_api_TypeNode x0_j4) rfl ?_)
                  refine G_nil ?_
                  refine kC_normal ?_
                  refine k_ret ?_
                  refine kB_ret ?_
                  refine kC_ret ?_
                  obtain rfl := Option.some.inj h
                  refine kP_any (endN (af' := (AF.put (AF.put AF0 (some 4) (.exact (.string (bs ([68] ++ y27))))) (some 5) (.row 3 c_api_TypeNode x0_j4))) (σ' := [tabI]) _ rfl ?_ ⟨rfl, rfl⟩)
                  refine Sub.trans (SubU.to SubU.f1) ?_
                  refine Sub.trans (SubU.to SubU.drop) ?_
                  refine Sub.trans (SubU.to SubU.f1) ?_
                  refine Sub.trans (SubU.to SubU.drop) ?_
                  exact Sub.of_le (AF.le_put (AV.le_eq rfl) (AF.le_put (AV.le_eq rfl) (AF.le_top _)))
              · replace h := ite_f h hc
                refine k_seq ?_
                refine k_reg .free hmixP (by kernel_rfl) ?_
                refine G_q rfl (op_eql rfl rfl ?_)
                refine G_q rfl (op_assign (av := .exact (.bool (decide (((gi a0 0).1) = 7)))) rfl ?_)
                refine G_nil ?_
                refine kC_normal ?_
                refine k_cond_d (p := ((gi a0 0).1) = 7) rfl (fun hc => ?_) (fun hc => ?_)
                · replace h := ite_t h hc
                  refine k_seq ?_
                  refine k_reg .free hmixP (by kernel_rfl) ?_
                  refine G_q rfl (op_move (av := .exact v7_j4) rfl ?_)
                  obtain ⟨n29, h⟩ := need_some h
                  refine G_r rfl (opR_f2 (op_index_vec (by kernel_rfl) rfl rfl n29.1 n29.2 ?_))
                  refine G_r rfl (opR_f2 (op_load_vec1 (i := 0) (o := 0) (a := .exact (.string (bs (gi x7_j4 0)))) (by kernel_rfl) len_c_string rfl n29.1 n29.2 rfl ?_))
                  obtain ⟨n30, h⟩ := need_some h
                  refine G_q rfl (op_addS n30 rfl rfl ?_)
                  obtain ⟨n31, h⟩ := need_some h
                  refine G_q rfl (op_addS n31 rfl rfl ?_)
                  refine G_q rfl (op_move (av := .row 3 c_api_TypeNode x0_j4) rfl ?_)
                  refine G_q rfl (op_assign (av := .exact (.string (bs (([60] ++ (gi x7_j4 0)) ++ [62])))) rfl ?_)
                  refine G_q rfl (op_assign (av := .row 3 c_api_TypeNode x0_j4) rfl ?_)
                  refine G_nil ?_
                  refine kC_normal ?_
                  refine k_ret ?_
                  refine kB_ret ?_
                  refine kC_ret ?_
                  obtain rfl := Option.some.inj h
                  refine kP_any (endN (af' := (AF.put (AF.put AF0 (some 4) (.exact (.string (bs (([60] ++ (gi x7_j4 0)) ++ [62]))))) (some 5) (.row 3 c_api_TypeNode x0_j4))) (σ' := [tabI]) _ rfl ?_ ⟨rfl, rfl⟩)
                  refine Sub.trans (SubU.to SubU.f1) ?_
                  refine Sub.trans (SubU.to SubU.drop) ?_
                  refine Sub.trans (SubU.to SubU.f1) ?_
                  refine Sub.trans (SubU.to SubU.drop) ?_
                  exact Sub.of_le (AF.le_put (AV.le_eq rfl) (AF.le_put (AV.le_eq rfl) (AF.le_top _)))
                · replace h := ite_f h hc
                  refine k_seq ?_
                  refine k_reg .free hmixP (by kernel_rfl) ?_
                  refine G_q rfl (op_eql rfl rfl ?_)
                  refine G_q rfl (op_assign (av := .exact (.bool (decide (((gi a0 0).1) = 8)))) rfl ?_)
                  refine G_nil ?_
                  refine kC_normal ?_
                  refine k_cond_d (p := ((gi a0 0).1) = 8) rfl (fun hc => ?_) (fun hc => ?_)
                  · replace h := ite_t h hc
                    refine k_seq ?_
                    refine k_reg .free hmixP (by kernel_rfl) ?_
                    refine G_q rfl (op_move (av := .exact v7_j4) rfl ?_)
                    obtain ⟨n32, h⟩ := need_some h
                    refine G_r rfl (opR_f2 (op_index_vec (by kernel_rfl) rfl rfl n32.1 n32.2 ?_))
                    refine G_r rfl (opR_f2 (op_load_vec1 (i := 0) (o := 0) (a := .exact (.string (bs (gi x7_j4 0)))) (by kernel_rfl) len_c_string rfl n32.1 n32.2 rfl ?_))
                    obtain ⟨n33, h⟩ := need_some h
                    refine G_q rfl (op_addS n33 rfl rfl ?_)
                    obtain ⟨n34, h⟩ := need_some h
                    refine G_q rfl (op_addS n34 rfl rfl ?_)
                    refine G_q rfl (op_move (av := .row 3 c_api_TypeNode x0_j4) rfl ?_)
                    refine G_q rfl (op_assign (av := .exact (.string (bs (([123] ++ (gi x7_j4 0)) ++ [125])))) rfl ?_)
                    refine G_q rfl (op_assign (av := .row 3 c_api_TypeNode x0_j4) rfl ?_)
                    refine G_nil ?_
                    refine kC_normal ?_
                    refine k_ret ?_
                    refine kB_ret ?_
                    refine kC_ret ?_
                    obtain rfl := Option.some.inj h
                    refine kP_any (endN (af' := (AF.put (AF.put AF0 (some 4) (.exact (.string (bs (([123] ++ (gi x7_j4 0)) ++ [125]))))) (some 5) (.row 3 c_api_TypeNode x0_j4))) (σ' := [tabI]) _ rfl ?_ ⟨rfl, rfl⟩)
                    refine Sub.trans (SubU.to SubU.f1) ?_
                    refine Sub.trans (SubU.to SubU.drop) ?_
                    refine Sub.trans (SubU.to SubU.f1) ?_
                    refine Sub.trans (SubU.to SubU.drop) ?_
                    exact Sub.of_le (AF.le_put (AV.le_eq rfl) (AF.le_put (AV.le_eq rfl) (AF.le_top _)))
                  · replace h := ite_f h hc
                    refine k_seq ?_
                    refine k_reg .free hmixP (by kernel_rfl) ?_
                    refine G_q rfl (op_eql rfl rfl ?_)
                    refine G_q rfl (op_assign (av := .exact (.bool (decide (((gi a0 0).1) = 9)))) rfl ?_)
                    refine G_nil ?_
                    refine kC_normal ?_
                    refine k_cond_d (p := ((gi a0 0).1) = 9) rfl (fun hc => ?_) (fun hc => ?_)
                    · replace h := ite_t h hc
                      refine k_seq ?_
                      refine k_plan [] [(0, 0), (0, 5), (0, 10), (1, 1), (1, 2), (0, 3), (0, 4), (1, 6), (1, 7), (0, 8), (0, 9), (0, 11), (0, 12)] hmixP (by kernel_rfl) ?_
                      refine P_q no34_0 rfl (op_move (av := .exact v7_j4) rfl ?_)
                      refine P_q no34_0 rfl (op_move (av := .exact v7_j4) rfl ?_)
                      refine P_q no34_0 rfl (op_move (av := .row 3 c_api_TypeNode x0_j4) rfl ?_)
                      obtain ⟨n35, h⟩ := need_some h
                      refine P_r rfl (opR_f2 (op_index_vec (by kernel_rfl) rfl rfl n35.1 n35.2 ?_))
                      refine P_r rfl (opR_f2 (op_load_vec1 (i := 0) (o := 0) (a := .exact (.string (bs (gi x7_j4 0)))) (by kernel_rfl) len_c_string rfl n35.1 n35.2 rfl ?_))
                      obtain ⟨n36, h⟩ := need_some h
                      refine P_q no34_0 rfl (op_addS n36 rfl rfl ?_)
                      obtain ⟨n37, h⟩ := need_some h
                      refine P_q no34_0 rfl (op_addS n37 rfl rfl ?_)
                      obtain ⟨n38, h⟩ := need_some h
                      refine P_r rfl (opR_f2 (op_index_vec (by kernel_rfl) rfl rfl n38.1 n38.2 ?_))
                      refine P_r rfl (opR_f2 (op_load_vec1 (i := 1) (o := 0) (a := .exact (.string (bs (gi x7_j4 1)))) (by kernel_rfl) len_c_string rfl n38.1 n38.2 rfl ?_))
                      obtain ⟨n39, h⟩ := need_some h
                      refine P_q no34_0 rfl (op_addS n39 rfl rfl ?_)
                      obtain ⟨n40, h⟩ := need_some h
                      refine P_q no34_0 rfl (op_addS n40 rfl rfl ?_)
                      refine P_q no34_0 rfl (op_assign (av := .exact (.string (bs (((([40, 124] ++ (gi x7_j4 0)) ++ [32, 61, 62, 32]) ++ (gi x7_j4 1)) ++ [124, 41])))) rfl ?_)
                      refine P_q no34_0 rfl (op_assign (av := .row 3 c_api_TypeNode x0_j4) rfl ?_)
                      refine P_nil ?_
                      refine kC_normal ?_
                      refine k_ret ?_
                      refine kB_ret ?_
                      refine kC_ret ?_
                      obtain rfl := Option.some.inj h
                      refine kP_any (endN (af' := (AF.put (AF.put AF0 (some 4) (.exact (.string (bs (((([40, 124] ++ (gi x7_j4 0)) ++ [32, 61, 62, 32]) ++ (gi x7_j4 1)) ++ [124, 41]))))) (some 5) (.row 3 c_api_TypeNode x0_j4))) (σ' := [tabI]) _ rfl ?_ ⟨rfl, rfl⟩)
                      refine Sub.trans (SubU.to SubU.f1) ?_
                      refine Sub.trans (SubU.to SubU.drop) ?_
                      refine Sub.trans (SubU.to SubU.f1) ?_
                      refine Sub.trans (SubU.to SubU.drop) ?_
                      exact Sub.of_le (AF.le_put (AV.le_eq rfl) (AF.le_put (AV.le_eq rfl) (AF.le_top _)))
                    · replace h := ite_f h hc
                      refine k_seq ?_
                      refine k_reg .free hmixP (by kernel_rfl) ?_
                      refine G_q rfl (op_eql rfl rfl ?_)
                      refine G_q rfl (op_assign (av := .exact (.bool (decide (((gi a0 0).1) = 11)))) rfl ?_)
                      refine G_nil ?_
                      refine kC_normal ?_
                      refine k_cond_d (p := ((gi a0 0).1) = 11) rfl (fun hc => ?_) (fun hc => ?_)
                      · replace h := ite_t h hc
                        refine k_seq ?_
                        refine k_reg .free hmixP (by kernel_rfl) ?_
                        refine G_q rfl (op_move (av := .exact v7_j4) rfl ?_)
                        refine G_r rfl (opR_f2 (op_len_vec (by kernel_rfl) rfl ?_))
                        refine G_q rfl (op_sub rfl rfl rfl ?_)
                        refine G_q rfl (op_assign (av := .exact (.int .i64 (i64 ((List.length x7_j4 : Int) - 1)))) rfl ?_)
                        refine G_nil ?_
                        refine kC_normal ?_
                        refine k_seq ?_
                        refine awp_sub (SubU.to (SubU.trans SubU.f2 (SubU.freezeT2 (s1 := 7) (s2 := 100) rfl rfl len_c_string))) ?_
                        refine k_plan [] [(0, 0), (0, 1), (0, 2), (0, 3), (0, 4), (0, 5), (0, 6), (0, 7), (0, 8), (0, 9), (0, 10), (0, 11), (0, 12), (0, 13)] hmixP (by kernel_rfl) ?_
                        refine P_q no34_0 rfl (op_move (av := .row 1 c_string x7_j4) rfl ?_)
                        refine P_q no34_0 rfl (op_move (av := .exact (.int .i64 (i64 ((List.length x7_j4 : Int) - 1)))) rfl ?_)
                        obtain ⟨n41, h⟩ := need_some h
                        refine P_q no34_0 rfl (op_slice_rowt (by kernel_rfl) rfl bnd_none (bnd_some rfl) (Int.le_refl 0) n41.1 n41.2 ?_)
                        obtain ⟨y42, hy42, h⟩ := bnd1_some h
                        refine P_q no34_0 rfl (op_pure (m_join_ok _ _ _ hy42) Tryd.func86 (by kernel_rfl) (LEs.cons (AV.le_eq rfl) (LEs.cons (AV.le_eq rfl) LEs.nil)) ?_)
                        obtain ⟨n43, h⟩ := need_some h
                        refine P_q no34_0 rfl (op_addS n43 rfl rfl ?_)
                        obtain ⟨n44, h⟩ := need_some h
                        refine P_q no34_0 rfl (op_addS n44 rfl rfl ?_)
                        refine P_q no34_0 rfl (op_move (av := .row 1 c_string x7_j4) rfl ?_)
                        refine P_q no34_0 rfl (op_move (av := .exact (.int .i64 (i64 ((List.length x7_j4 : Int) - 1)))) rfl ?_)
                        obtain ⟨n45, h⟩ := need_some h
                        refine P_q no34_0 rfl (op_index_row (by kernel_rfl) rfl rfl n45.1 n45.2 ?_)
                        refine P_q no34_0 rfl (op_load1p (a := .exact (.string (bs (gi x7_j4 (i64 ((List.length x7_j4 : Int) - 1)))))) (by kernel_rfl) rfl rfl ?_)
                        obtain ⟨n46, h⟩ := need_some h
                        refine P_q no34_0 rfl (op_addS n46 rfl rfl ?_)
                        refine P_q no34_0 rfl (op_move (av := .row 3 c_api_TypeNode x0_j4) rfl ?_)
                        refine P_q no34_0 rfl (op_assign (av := .exact (.string (bs ((([40] ++ y42) ++ [41, 32, 45, 62, 32]) ++ (gi x7_j4 (i64 ((List.length x7_j4 : Int) - 1))))))) rfl ?_)
                        refine P_q no34_0 rfl (op_assign (av := .row 3 c_api_TypeNode x0_j4) rfl ?_)
                        refine P_nil ?_
                        refine kC_normal ?_
                        refine k_ret ?_
                        refine kB_ret ?_
                        refine kC_ret ?_
                        obtain rfl := Option.some.inj h
                        refine kP_any (endN (af' := (AF.put (AF.put AF0 (some 4) (.exact (.string (bs ((([40] ++ y42) ++ [41, 32, 45, 62, 32]) ++ (gi x7_j4 (i64 ((List.length x7_j4 : Int) - 1)))))))) (some 5) (.row 3 c_api_TypeNode x0_j4))) (σ' := [tabI]) _ rfl ?_ ⟨rfl, rfl⟩)
                        refine Sub.trans (SubU.to SubU.f1) ?_
                        refine Sub.trans (SubU.to SubU.drop) ?_
                        exact Sub.of_le (AF.le_put (AV.le_eq rfl) (AF.le_put (AV.le_eq rfl) (AF.le_top _)))
                      · replace h := ite_f h hc
                        refine k_seq ?_
                        refine k_reg .free hmixP (by kernel_rfl) ?_
                        refine G_q rfl (op_eql rfl rfl ?_)
                        refine G_q rfl (op_assign (av := .exact (.bool (decide (((gi a0 0).1) = 12)))) rfl ?_)
                        refine G_nil ?_
                        refine kC_normal ?_
                        refine k_cond_d (p := ((gi a0 0).1) = 12) rfl (fun hc => ?_) (fun hc => ?_)
                        · replace h := ite_t h hc
                          refine k_seq ?_
                          refine k_plan [] [(0, 0), (0, 5), (0, 10), (1, 1), (1, 2), (0, 3), (0, 4), (1, 6), (1, 7), (0, 8), (0, 9), (0, 11), (0, 12)] hmixP (by kernel_rfl) ?_
                          refine P_q no34_0 rfl (op_move (av := .exact v7_j4) rfl ?_)
                          refine P_q no34_0 rfl (op_move (av := .exact v7_j4) rfl ?_)
                          refine P_q no34_0 rfl (op_move (av := .row 3 c_api_TypeNode x0_j4) rfl ?_)
                          obtain ⟨n47, h⟩ := need_some h
                          refine P_r rfl (opR_f2 (op_index_vec (by kernel_rfl) rfl rfl n47.1 n47.2 ?_))
                          refine P_r rfl (opR_f2 (op_load_vec1 (i := 0) (o := 0) (a := .exact (.string (bs (gi x7_j4 0)))) (by kernel_rfl) len_c_string rfl n47.1 n47.2 rfl ?_))
                          obtain ⟨n48, h⟩ := need_some h
                          refine P_q no34_0 rfl (op_addS n48 rfl rfl ?_)
                          obtain ⟨n49, h⟩ := need_some h
                          refine P_q no34_0 rfl (op_addS n49 rfl rfl ?_)
                          obtain ⟨n50, h⟩ := need_some h
                          refine P_r rfl (opR_f2 (op_index_vec (by kernel_rfl) rfl rfl n50.1 n50.2 ?_))
                          refine P_r rfl (opR_f2 (op_load_vec1 (i := 1) (o := 0) (a := .exact (.string (bs (gi x7_j4 1)))) (by kernel_rfl) len_c_string rfl n50.1 n50.2 rfl ?_))
                          obtain ⟨n51, h⟩ := need_some h
                          refine P_q no34_0 rfl (op_addS n51 rfl rfl ?_)
                          obtain ⟨n52, h⟩ := need_some h
                          refine P_q no34_0 rfl (op_addS n52 rfl rfl ?_)
                          refine P_q no34_0 rfl (op_assign (av := .exact (.string (bs (((([40] ++ (gi x7_j4 0)) ++ [46]) ++ (gi x7_j4 1)) ++ [41])))) rfl ?_)
                          refine P_q no34_0 rfl (op_assign (av := .row 3 c_api_TypeNode x0_j4) rfl ?_)
                          refine P_nil ?_
                          refine kC_normal ?_
                          refine k_ret ?_
                          refine kB_ret ?_
                          refine kC_ret ?_
                          obtain rfl := Option.some.inj h
                          refine kP_any (endN (af' := (AF.put (AF.put AF0 (some 4) (.exact (.string (bs (((([40] ++ (gi x7_j4 0)) ++ [46]) ++ (gi x7_j4 1)) ++ [41]))))) (some 5) (.row 3 c_api_TypeNode x0_j4))) (σ' := [tabI]) _ rfl ?_ ⟨rfl, rfl⟩)
                          refine Sub.trans (SubU.to SubU.f1) ?_
                          refine Sub.trans (SubU.to SubU.drop) ?_
                          refine Sub.trans (SubU.to SubU.f1) ?_
                          refine Sub.trans (SubU.to SubU.drop) ?_
                          exact Sub.of_le (AF.le_put (AV.le_eq rfl) (AF.le_put (AV.le_eq rfl) (AF.le_top _)))
                        · replace h := ite_f h hc
                          refine k_seq ?_
                          refine k_reg .free hmixP (by kernel_rfl) ?_
                          refine G_q rfl (op_eql rfl rfl ?_)
                          refine G_q rfl (op_assign (av := .exact (.bool (decide (((gi a0 0).1) = 13)))) rfl ?_)
                          refine G_nil ?_
                          refine kC_normal ?_
                          refine k_cond_d (p := ((gi a0 0).1) = 13) rfl (fun hc => ?_) (fun hc => ?_)
                          · replace h := ite_t h hc
                            refine k_seq ?_
                            refine k_plan [] [(0, 0), (0, 5), (0, 10), (1, 1), (1, 2), (0, 3), (0, 4), (1, 6), (1, 7), (0, 8), (0, 9), (0, 11), (0, 12)] hmixP (by kernel_rfl) ?_
                            refine P_q no34_0 rfl (op_move (av := .exact v7_j4) rfl ?_)
                            refine P_q no34_0 rfl (op_move (av := .exact v7_j4) rfl ?_)
                            refine P_q no34_0 rfl (op_move (av := .row 3 c_api_TypeNode x0_j4) rfl ?_)
                            obtain ⟨n53, h⟩ := need_some h
                            refine P_r rfl (opR_f2 (op_index_vec (by kernel_rfl) rfl rfl n53.1 n53.2 ?_))
                            refine P_r rfl (opR_f2 (op_load_vec1 (i := 0) (o := 0) (a := .exact (.string (bs (gi x7_j4 0)))) (by kernel_rfl) len_c_string rfl n53.1 n53.2 rfl ?_))
                            obtain ⟨n54, h⟩ := need_some h
                            refine P_q no34_0 rfl (op_addS n54 rfl rfl ?_)
                            obtain ⟨n55, h⟩ := need_some h
                            refine P_q no34_0 rfl (op_addS n55 rfl rfl ?_)
                            obtain ⟨n56, h⟩ := need_some h
                            refine P_r rfl (opR_f2 (op_index_vec (by kernel_rfl) rfl rfl n56.1 n56.2 ?_))
                            refine P_r rfl (opR_f2 (op_load_vec1 (i := 1) (o := 0) (a := .exact (.string (bs (gi x7_j4 1)))) (by kernel_rfl) len_c_string rfl n56.1 n56.2 rfl ?_))
                            obtain ⟨n57, h⟩ := need_some h
                            refine P_q no34_0 rfl (op_addS n57 rfl rfl ?_)
                            obtain ⟨n58, h⟩ := need_some h
                            refine P_q no34_0 rfl (op_addS n58 rfl rfl ?_)
                            refine P_q no34_0 rfl (op_assign (av := .exact (.string (bs (((([40] ++ (gi x7_j4 0)) ++ [32, 61, 62, 32]) ++ (gi x7_j4 1)) ++ [41])))) rfl ?_)
                            refine P_q no34_0 rfl (op_assign (av := .row 3 c_api_TypeNode x0_j4) rfl ?_)
                            refine P_nil ?_
                            refine kC_normal ?_
                            refine k_ret ?_
                            refine kB_ret ?_
                            refine kC_ret ?_
                            obtain rfl := Option.some.inj h
                            refine kP_any (endN (af' := (AF.put (AF.put AF0 (some 4) (.exact (.string (bs (((([40] ++ (gi x7_j4 0)) ++ [32, 61, 62, 32]) ++ (gi x7_j4 1)) ++ [41]))))) (some 5) (.row 3 c_api_TypeNode x0_j4))) (σ' := [tabI]) _ rfl ?_ ⟨rfl, rfl⟩)
                            refine Sub.trans (SubU.to SubU.f1) ?_
                            refine Sub.trans (SubU.to SubU.drop) ?_
                            refine Sub.trans (SubU.to SubU.f1) ?_
                            refine Sub.trans (SubU.to SubU.drop) ?_
                            exact Sub.of_le (AF.le_put (AV.le_eq rfl) (AF.le_put (AV.le_eq rfl) (AF.le_top _)))
                          · replace h := ite_f h hc
                            refine k_skip ?_
                            refine kB_normal ?_
                            refine kC_normal ?_
                            refine k_seq ?_
                            refine k_reg .free hmixP (by kernel_rfl) ?_
                            refine G_q rfl (op_move (av := .exact v7_j4) rfl ?_)
                            refine G_sub rfl (SubU.trans SubU.f2 (SubU.freezeT2 (s1 := 7) (s2 := 141) rfl rfl len_c_string)) ?_
                            obtain ⟨y59, hy59, h⟩ := bnd1_some h
                            refine G_q rfl (op_pure (m_join_ok _ _ _ hy59) Tryd.func86 (by kernel_rfl) (LEs.cons (AV.le_eq rfl) (LEs.cons (AV.le_eq rfl) LEs.nil)) ?_)
                            obtain ⟨n60, h⟩ := need_some h
                            refine G_q rfl (op_addS n60 rfl rfl ?_)
                            obtain ⟨n61, h⟩ := need_some h
                            refine G_q rfl (op_addS n61 rfl rfl ?_)
                            refine G_q rfl (op_move (av := .row 3 c_api_TypeNode x0_j4) rfl ?_)
                            refine G_q rfl (op_assign (av := .exact (.string (bs (([40] ++ y59) ++ [41])))) rfl ?_)
                            refine G_q rfl (op_assign (av := .row 3 c_api_TypeNode x0_j4) rfl ?_)
                            refine G_nil ?_
                            refine kC_normal ?_
                            refine k_ret ?_
                            obtain rfl := Option.some.inj h
                            refine kP_any (endN (af' := (AF.put (AF.put AF0 (some 4) (.exact (.string (bs (([40] ++ y59) ++ [41]))))) (some 5) (.row 3 c_api_TypeNode x0_j4))) (σ' := [tabI]) _ rfl ?_ ⟨rfl, rfl⟩)
                            refine Sub.trans (SubU.to SubU.f1) ?_
                            refine Sub.trans (SubU.to SubU.drop) ?_
                            exact Sub.of_le (AF.le_put (AV.le_eq rfl) (AF.le_put (AV.le_eq rfl) (AF.le_top _)))
set_option maxHeartbeats 4000000 in
theorem m_types_text_S_ok : ∀ n : Nat, (∀ (a0 : List (Int × Int × Int)) (a1 : List (List UInt8)) (r : (List UInt8) × (List (Int × Int × Int))), m_types_text_S n a0 a1 = some r → Fun Tryd.prog 68 [(.row 3 c_api_TypeNode a0), (.row 1 c_string a1)] [tabI] (fun a s => a = .tup [.exact (.string (bs r.1)), .row 3 c_api_TypeNode r.2] ∧ s = [tabI]))
  | 0 => (fun _ _ _ h => by have h' : (none : Option _) = some _ := h; cases h')
  | n + 1 => by
    have ih := m_types_text_S_ok n
    exact fun a0 a1 r h => m_types_text_F_ok (m_types_text_S n) ih a0 a1 r h
theorem m_types_text_ok (a0 : List (Int × Int × Int)) (a1 : List (List UInt8)) (r : (List UInt8) × (List (Int × Int × Int))) (h : m_types_text a0 a1 = some r) : Fun Tryd.prog 68 [(.row 3 c_api_TypeNode a0), (.row 1 c_string a1)] [tabI] (fun a s => a = .tup [.exact (.string (bs r.1)), .row 3 c_api_TypeNode r.2] ∧ s = [tabI]) := (m_types_text_S_ok FU) a0 a1 r h
set_option maxHeartbeats 4000000 in
theorem m_types_Format_ok (a0 : List (Int × Int × Int)) (a1 : List (List UInt8)) (r : (List UInt8)) (h : m_types_Format a0 a1 = some r) : Fun Tryd.prog 36 [(.row 3 c_api_TypeNode a0), (.row 1 c_string a1)] [tabI] (fun a s => a = .exact (.string (bs r)) ∧ s = [tabI]) := by
  unfold m_types_Format at h
  refine fun_of_awp Tryd.func36 rfl Tryd.ntmps36 (by simp) rfl (res1 rfl) fun E hE => k_end ?_
  refine k_seq ?_
  refine k_reg .free hmixP (by kernel_rfl) ?_
  refine G_q rfl (op_assign (av := .exact (.string (bs ([] : List UInt8)))) rfl ?_)
  refine G_nil ?_
  refine kC_normal ?_
  refine k_seq ?_
  refine k_seq ?_
  refine k_reg .free hmixP (by kernel_rfl) ?_
  refine G_q rfl (op_move (av := .row 3 c_api_TypeNode a0) rfl ?_)
  obtain ⟨y1, hy1, h⟩ := bnd1_some h
  refine G_q rfl (op_pure (m_types_Valid_ok _ _ hy1) Tryd.func29 (by kernel_rfl) (LEs.cons (AV.le_eq rfl) LEs.nil) ?_)
  refine G_q rfl (op_not rfl ?_)
  refine G_nil ?_
  refine kC_normal ?_
  refine k_cond_b (c := !y1) rfl (fun hc => ?_) (fun hc => ?_)
  · replace h := ite_t h hc
    refine k_seq ?_
    refine k_reg .free hmixP (by kernel_rfl) ?_
    refine G_q rfl (op_assign (av := .exact (.string (bs ([] : List UInt8)))) rfl ?_)
    refine G_nil ?_
    refine kC_normal ?_
    refine k_ret ?_
    refine kC_ret ?_
    obtain rfl := Option.some.inj h
    refine kP_any (endN (af' := (AF.put AF0 (some 4) (.exact (.string (bs ([] : List UInt8)))))) (σ' := [tabI]) _ rfl ?_ ⟨rfl, rfl⟩)
    exact Sub.of_le (AF.le_put (AV.le_eq rfl) (AF.le_top _))
  · replace h := ite_f h hc
    refine k_skip ?_
    refine kC_normal ?_
    refine k_seq ?_
    refine k_reg .free hmixP (by kernel_rfl) ?_
    refine G_q rfl (op_move (av := .row 3 c_api_TypeNode a0) rfl ?_)
    refine G_q rfl (op_move (av := .row 1 c_string a1) rfl ?_)
    obtain ⟨y2, hy2, h⟩ := bnd1_some h
    refine G_l rfl (op_fun_1_0_1 (m_types_text_ok _ _ _ hy2) Tryd.func68 (by kernel_rfl) (LEs.cons (AV.le_eq rfl) (LEs.cons (AV.le_eq rfl) LEs.nil)) ?_)
    refine G_q rfl (op_move (av := .tup [.exact (.string (bs y2.1)), .row 3 c_api_TypeNode y2.2]) rfl ?_)
    refine G_q rfl (op_extract (av := .exact (.string (bs y2.1))) rfl rfl ?_)
    refine G_q rfl (op_extract (av := .row 3 c_api_TypeNode y2.2) rfl rfl ?_)
    refine G_q rfl (op_assign (av := .exact (.string (bs y2.1))) rfl ?_)
    refine G_q rfl (op_assign (av := .row 3 c_api_TypeNode y2.2) rfl ?_)
    refine G_nil ?_
    refine kC_normal ?_
    refine k_seq ?_
    refine k_reg .free hmixP (by kernel_rfl) ?_
    refine G_q rfl (op_move (av := .exact (.string (bs y2.1))) rfl ?_)
    refine G_q rfl (op_assign (av := .exact (.string (bs y2.1))) rfl ?_)
    refine G_nil ?_
    refine kC_normal ?_
    refine k_ret ?_
    obtain rfl := Option.some.inj h
    refine kP_any (endN (af' := (AF.put AF0 (some 4) (.exact (.string (bs y2.1))))) (σ' := [tabI]) _ rfl ?_ ⟨rfl, rfl⟩)
    exact Sub.of_le (AF.le_put (AV.le_eq rfl) (AF.le_top _))
set_option maxHeartbeats 4000000 in
theorem m_law7_awake_ok  (r : Bool) (h : m_law7_awake = some r) : Fun Tryd.prog 16 [] [tabI] (fun a s => a = .exact (.bool r) ∧ s = [tabI]) := by
  unfold m_law7_awake at h
  refine fun_of_awp Tryd.func16 rfl Tryd.ntmps16 (by simp) rfl (res1 rfl) fun E hE => k_end ?_
  refine k_seq ?_
  refine k_reg .free hmixP (by kernel_rfl) ?_
  refine G_q rfl (op_assign (av := .exact (.bool false)) rfl ?_)
  refine G_nil ?_
  refine kC_normal ?_
  refine k_seq ?_
  refine k_reg .free hmixP (by kernel_rfl) ?_
  obtain ⟨y1, hy1, h⟩ := bnd1_some h
  refine G_q rfl (op_pure (m_ref6_Make_fz _ _ _ _ hy1) Tryd.func25 (by kernel_rfl) (LEs.cons (AV.le_eq rfl) (LEs.cons (AV.le_eq rfl) (LEs.cons (row_nil (by decide)) LEs.nil))) ?_)
  refine G_q rfl (op_assign (av := .row 3 c_api_TypeNode y1) rfl ?_)
  refine G_nil ?_
  refine kC_normal ?_
  refine k_seq ?_
  refine k_reg .free hmixP (by kernel_rfl) ?_
  refine G_q rfl (op_move (av := .row 3 c_api_TypeNode y1) rfl ?_)
  obtain ⟨y2, hy2, h⟩ := bnd1_some h
  refine G_q rfl (op_pure (m_ref6_Make_fz _ _ _ _ hy2) Tryd.func25 (by kernel_rfl) (LEs.cons (AV.le_eq rfl) (LEs.cons (AV.le_eq rfl) (LEs.cons (row_nil (by decide)) LEs.nil))) ?_)
  obtain ⟨y3, hy3, h⟩ := bnd1_some h
  refine G_q rfl (op_pure (m_types_Unify_ok _ _ _ hy3) Tryd.func12 (by kernel_rfl) (LEs.cons (AV.le_eq rfl) (LEs.cons (AV.le_eq rfl) LEs.nil)) ?_)
  refine G_q rfl (op_move (av := .tup [.row 2 c_api_Binding y3.1, .exact (.int .i64 y3.2)]) rfl ?_)
  refine G_q rfl (op_extract (av := .row 2 c_api_Binding y3.1) rfl rfl ?_)
  refine G_q rfl (op_extract (av := .exact (.int .i64 y3.2)) rfl rfl ?_)
  refine G_q rfl (op_assign (av := .row 2 c_api_Binding y3.1) rfl ?_)
  refine G_q rfl (op_assign (av := .exact (.int .i64 y3.2)) rfl ?_)
  refine G_nil ?_
  refine kC_normal ?_
  refine k_seq ?_
  refine k_reg .free hmixP (by kernel_rfl) ?_
  refine G_q rfl (op_move (av := .row 3 c_api_TypeNode y1) rfl ?_)
  refine G_q rfl (op_move (av := .row 3 c_api_TypeNode y1) rfl ?_)
  refine G_q rfl (op_litT (n := 1) (enc := c_L_api_TypeNode) [y1] (CellsAll.cons rfl CellsOf.row CellsAll.nil) rfl (by kernel_rfl) (LEss.cons (LEs.cons (AV.le_eq rfl) LEs.nil) LEss.nil) ?_)
  obtain ⟨y4, hy4, h⟩ := bnd1_some h
  refine G_q rfl (op_pure (m_ref6_Make_fz _ _ _ _ hy4) Tryd.func25 (by kernel_rfl) (LEs.cons (AV.le_eq rfl) (LEs.cons (AV.le_eq rfl) (LEs.cons (AV.le_eq rfl) LEs.nil))) ?_)
  obtain ⟨y5, hy5, h⟩ := bnd1_some h
  refine G_q rfl (op_pure (m_types_Unify_ok _ _ _ hy5) Tryd.func12 (by kernel_rfl) (LEs.cons (AV.le_eq rfl) (LEs.cons (AV.le_eq rfl) LEs.nil)) ?_)
  refine G_q rfl (op_move (av := .tup [.row 2 c_api_Binding y5.1, .exact (.int .i64 y5.2)]) rfl ?_)
  refine G_q rfl (op_extract (av := .row 2 c_api_Binding y5.1) rfl rfl ?_)
  refine G_q rfl (op_extract (av := .exact (.int .i64 y5.2)) rfl rfl ?_)
  refine G_q rfl (op_assign (av := .row 2 c_api_Binding y5.1) rfl ?_)
  refine G_q rfl (op_assign (av := .exact (.int .i64 y5.2)) rfl ?_)
  refine G_nil ?_
  refine kC_normal ?_
  refine k_join1_0 h (fun (x0_j6 : Bool) => (AF.put AF0 (some 0) (.exact (.bool x0_j6)))) (fun (x0_j6 : Bool) => [tabI]) (fun k6 h => ?_) (fun x0_j6 h => ?_)
  · refine k_reg .free hmixP (by kernel_rfl) ?_
    refine G_q rfl (op_move (av := .row 3 c_api_TypeNode y1) rfl ?_)
    obtain ⟨y10, hy10, h⟩ := bnd1_some h
    refine G_q rfl (op_pure (m_types_Valid_ok _ _ hy10) Tryd.func29 (by kernel_rfl) (LEs.cons (AV.le_eq rfl) LEs.nil) ?_)
    refine G_q rfl (op_move (av := .exact (.bool y10)) rfl ?_)
    refine G_splitB (c := y10) 23 rfl (fun hc => ?_) (fun hc => ?_)
    · replace h := ite_t h hc
      refine Gy_q rfl rfl rfl (op_move (av := .exact (.int .i64 y3.2)) rfl ?_)
      refine Gy_q rfl rfl rfl (op_eql rfl rfl ?_)
      refine G_q rfl (op_pick_t rfl (av := .exact (.bool (decide (y3.2 = 0)))) rfl ?_)
      refine G_q rfl (op_move (av := .exact (.bool (decide (y3.2 = 0)))) rfl ?_)
      refine G_split (p := y3.2 = 0) 27 rfl (fun hc => ?_) (fun hc => ?_)
      · replace h := ite_t h hc
        refine Gy_q rfl rfl rfl (op_move (av := .row 2 c_api_Binding y3.1) rfl ?_)
        refine Gy_q rfl rfl rfl (op_len_row (by kernel_rfl) rfl ?_)
        refine Gy_q rfl rfl rfl (op_eql rfl rfl ?_)
        refine G_q rfl (op_pick_t rfl (av := .exact (.bool (decide ((List.length y3.1 : Int) = 1)))) rfl ?_)
        refine G_q rfl (op_move (av := .exact (.bool (decide ((List.length y3.1 : Int) = 1)))) rfl ?_)
        refine G_split (p := (List.length y3.1 : Int) = 1) 32 rfl (fun hc => ?_) (fun hc => ?_)
        · replace h := ite_t h hc
          refine Gy_q rfl rfl rfl (op_move (av := .row 2 c_api_Binding y3.1) rfl ?_)
          obtain ⟨n11, h⟩ := need_some h
          refine Gy_q rfl rfl rfl (op_index_row (by kernel_rfl) rfl rfl n11.1 n11.2 ?_)
          refine Gy_q rfl rfl rfl (op_fieldAddr_ptr (o := 0) (c' := (List.drop 0 (c_api_Binding (gi y3.1 0)))) (by kernel_rfl) rfl rfl ?_)
          refine Gy_q rfl rfl rfl (op_load1p (a := .exact (.int .i64 ((gi y3.1 0).1))) (by kernel_rfl) rfl rfl ?_)
          refine Gy_q rfl rfl rfl (op_eql rfl rfl ?_)
          refine G_q rfl (op_pick_t rfl (av := .exact (.bool (decide (((gi y3.1 0).1) = 0)))) rfl ?_)
          refine G_q rfl (op_move (av := .exact (.bool (decide (((gi y3.1 0).1) = 0)))) rfl ?_)
          refine G_split (p := ((gi y3.1 0).1) = 0) 39 rfl (fun hc => ?_) (fun hc => ?_)
          · replace h := ite_t h hc
            refine Gy_q rfl rfl rfl (op_move (av := .exact (.int .i64 y5.2)) rfl ?_)
            refine Gy_q rfl rfl rfl (op_eql rfl rfl ?_)
            refine G_q rfl (op_pick_t rfl (av := .exact (.bool (decide (y5.2 = 8)))) rfl ?_)
            refine G_q rfl (op_move (av := .exact (.bool (decide (y5.2 = 8)))) rfl ?_)
            refine G_split (p := y5.2 = 8) 43 rfl (fun hc => ?_) (fun hc => ?_)
            · replace h := ite_t h hc
              refine Gy_q rfl rfl rfl (op_move (av := .row 3 c_api_TypeNode y1) rfl ?_)
              obtain ⟨y12, hy12, h⟩ := bnd1_some h
              refine Gy_l rfl rfl rfl (op_fun_1_0_1 (m_types_Format_ok _ _ _ hy12) Tryd.func36 (by kernel_rfl) (LEs.cons (AV.le_eq rfl) (LEs.cons (row_nil (by decide)) LEs.nil)) ?_)
              refine Gy_q rfl rfl rfl (op_eqlS rfl rfl ?_)
              refine G_q rfl (op_pick_t rfl (av := .exact (.bool (decide (y12 = [116, 48])))) rfl ?_)
              refine G_q rfl (op_assign (av := .exact (.bool (decide (y12 = [116, 48])))) rfl ?_)
              refine G_nil ?_
              refine kI_normal ⟨_, h, ?_⟩
              exact Sub.of_le (AF.le_put (AV.le_eq rfl) (AF.le_top _))
            · replace h := ite_f h hc
              refine G_n rfl rfl ?_
              refine G_n rfl rfl ?_
              refine G_n rfl rfl ?_
              refine G_q rfl (op_pick_f rfl (av := .exact (.bool false)) rfl ?_)
              refine G_q rfl (op_assign (av := .exact (.bool false)) rfl ?_)
              refine G_nil ?_
              refine kI_normal ⟨_, h, ?_⟩
              exact Sub.of_le (AF.le_put (AV.le_eq rfl) (AF.le_top _))
          · replace h := ite_f h hc
            refine G_n rfl rfl ?_
            refine G_n rfl rfl ?_
            refine G_q rfl (op_pick_f rfl (av := .exact (.bool false)) rfl ?_)
            refine G_q rfl (op_move (av := .exact (.bool false)) rfl ?_)
            refine G_n rfl rfl ?_
            refine G_n rfl rfl ?_
            refine G_n rfl rfl ?_
            refine G_q rfl (op_pick_f rfl (av := .exact (.bool false)) rfl ?_)
            refine G_q rfl (op_assign (av := .exact (.bool false)) rfl ?_)
            refine G_nil ?_
            refine kI_normal ⟨_, h, ?_⟩
            exact Sub.of_le (AF.le_put (AV.le_eq rfl) (AF.le_top _))
        · replace h := ite_f h hc
          refine G_n rfl rfl ?_
          refine G_n rfl rfl ?_
          refine G_n rfl rfl ?_
          refine G_n rfl rfl ?_
          refine G_n rfl rfl ?_
          refine G_q rfl (op_pick_f rfl (av := .exact (.bool false)) rfl ?_)
          refine G_q rfl (op_move (av := .exact (.bool false)) rfl ?_)
          refine G_n rfl rfl ?_
          refine G_n rfl rfl ?_
          refine G_q rfl (op_pick_f rfl (av := .exact (.bool false)) rfl ?_)
          refine G_q rfl (op_move (av := .exact (.bool false)) rfl ?_)
          refine G_n rfl rfl ?_
          refine G_n rfl rfl ?_
          refine G_n rfl rfl ?_
          refine G_q rfl (op_pick_f rfl (av := .exact (.bool false)) rfl ?_)
          refine G_q rfl (op_assign (av := .exact (.bool false)) rfl ?_)
          refine G_nil ?_
          refine kI_normal ⟨_, h, ?_⟩
          exact Sub.of_le (AF.le_put (AV.le_eq rfl) (AF.le_top _))
      · replace h := ite_f h hc
        refine G_n rfl rfl ?_
        refine G_n rfl rfl ?_
        refine G_n rfl rfl ?_
        refine G_q rfl (op_pick_f rfl (av := .exact (.bool false)) rfl ?_)
        refine G_q rfl (op_move (av := .exact (.bool false)) rfl ?_)
        refine G_n rfl rfl ?_
        refine G_n rfl rfl ?_
        refine G_n rfl rfl ?_
        refine G_n rfl rfl ?_
        refine G_n rfl rfl ?_
        refine G_q rfl (op_pick_f rfl (av := .exact (.bool false)) rfl ?_)
        refine G_q rfl (op_move (av := .exact (.bool false)) rfl ?_)
        refine G_n rfl rfl ?_
        refine G_n rfl rfl ?_
        refine G_q rfl (op_pick_f rfl (av := .exact (.bool false)) rfl ?_)
        refine G_q rfl (op_move (av := .exact (.bool false)) rfl ?_)
        refine G_n rfl rfl ?_
        refine G_n rfl rfl ?_
        refine G_n rfl rfl ?_
        refine G_q rfl (op_pick_f rfl (av := .exact (.bool false)) rfl ?_)
        refine G_q rfl (op_assign (av := .exact (.bool false)) rfl ?_)
        refine G_nil ?_
        refine kI_normal ⟨_, h, ?_⟩
        exact Sub.of_le (AF.le_put (AV.le_eq rfl) (AF.le_top _))
    · replace h := ite_f h hc
      refine G_n rfl rfl ?_
      refine G_n rfl rfl ?_
      refine G_q rfl (op_pick_f rfl (av := .exact (.bool false)) rfl ?_)
      refine G_q rfl (op_move (av := .exact (.bool false)) rfl ?_)
      refine G_n rfl rfl ?_
      refine G_n rfl rfl ?_
      refine G_n rfl rfl ?_
      refine G_q rfl (op_pick_f rfl (av := .exact (.bool false)) rfl ?_)
      refine G_q rfl (op_move (av := .exact (.bool false)) rfl ?_)
      refine G_n rfl rfl ?_
      refine G_n rfl rfl ?_
      refine G_n rfl rfl ?_
      refine G_n rfl rfl ?_
      refine G_n rfl rfl ?_
      refine G_q rfl (op_pick_f rfl (av := .exact (.bool false)) rfl ?_)
      refine G_q rfl (op_move (av := .exact (.bool false)) rfl ?_)
      refine G_n rfl rfl ?_
      refine G_n rfl rfl ?_
      refine G_q rfl (op_pick_f rfl (av := .exact (.bool false)) rfl ?_)
      refine G_q rfl (op_move (av := .exact (.bool false)) rfl ?_)
      refine G_n rfl rfl ?_
      refine G_n rfl rfl ?_
      refine G_n rfl rfl ?_
      refine G_q rfl (op_pick_f rfl (av := .exact (.bool false)) rfl ?_)
      refine G_q rfl (op_assign (av := .exact (.bool false)) rfl ?_)
      refine G_nil ?_
      refine kI_normal ⟨_, h, ?_⟩
      exact Sub.of_le (AF.le_put (AV.le_eq rfl) (AF.le_top _))
  · refine k_ret ?_
    obtain rfl := Option.some.inj h
    refine kP_any (endN (af' := (AF.put AF0 (some 0) (.exact (.bool x0_j6)))) (σ' := [tabI]) _ rfl ?_ ⟨rfl, rfl⟩)
    exact Sub.of_le (AF.le_put (AV.le_eq rfl) (AF.le_top _))
end Go.Proofs.YtdfdjgolijckfaaDoor
/- The functions compute their models, by program. -/
namespace Go.Proofs.YtdfdjgolijckfaaDoor
open Go.RowKit
attribute [local irreducible] AV.exact AV.top AV.row AV.ptr AV.agg AV.tup AV.eptr AV.fn AV.nilq AV.nilqn opA opB opM opR Quiet Loud Reads wpG awp den Sub SubU Pure Fun vecI vecT boxI CellsAll CellsOf OneC LEs LEss
set_option maxRecDepth 100000

set_option maxHeartbeats 4000000 in
theorem m_help_Equal_api_TypeNode_ok (a0 : List (Int × Int × Int)) (a1 : List (Int × Int × Int)) (r : Bool) (h : m_help_Equal_api_TypeNode a0 a1 = some r) : Pure Tryd.prog 21 [(.row 3 c_api_TypeNode a0), (.row 3 c_api_TypeNode a1)] (.exact (.bool r)) := by
  unfold m_help_Equal_api_TypeNode at h
  refine Pure.ofFun (fun_of_awp Tryd.func21 rfl Tryd.ntmps21 (by simp) rfl (res1 rfl) fun E hE => k_end ?_)
  refine k_seq ?_
  refine k_reg .free hmixP (by kernel_rfl) ?_
  refine G_q rfl (op_assign (av := .exact (.bool false)) rfl ?_)
  refine G_nil ?_
  refine kC_normal ?_
  refine k_seq ?_
  refine k_seq ?_
  refine k_reg .free hmixP (by kernel_rfl) ?_
  refine G_q rfl (op_move (av := .row 3 c_api_TypeNode a0) rfl ?_)
  refine G_q rfl (op_len_row (by kernel_rfl) rfl ?_)
  refine G_q rfl (op_move (av := .row 3 c_api_TypeNode a1) rfl ?_)
  refine G_q rfl (op_len_row (by kernel_rfl) rfl ?_)
  refine G_q rfl (op_neq rfl rfl ?_)
  refine G_nil ?_
  refine kC_normal ?_
  refine k_cond_d (p := ¬ (List.length a0 : Int) = (List.length a1 : Int)) rfl (fun hc => ?_) (fun hc => ?_)
  · replace h := ite_t h hc
    refine k_seq ?_
    refine k_reg .free hmixP (by kernel_rfl) ?_
    refine G_q rfl (op_assign (av := .exact (.bool false)) rfl ?_)
    refine G_nil ?_
    refine kC_normal ?_
    refine k_ret ?_
    refine kC_ret ?_
    obtain rfl := Option.some.inj h
    refine kP_any (endN (af' := (AF.put AF0 (some 4) (.exact (.bool false)))) (σ' := []) _ rfl ?_ ⟨rfl, rfl⟩)
    exact Sub.of_le (AF.le_put (AV.le_eq rfl) (AF.le_top _))
  · replace h := ite_f h hc
    refine k_skip ?_
    refine kC_normal ?_
    refine k_join0_0 h (AF0) ([]) (fun k1 h => ?_) (fun  h => ?_)
    · refine k_seq ?_
      refine k_reg .free hmixP (by kernel_rfl) ?_
      refine G_q rfl (op_assign (av := .exact (.int .i64 0)) rfl ?_)
      refine G_nil ?_
      refine kC_normal ?_
      refine k_block ?_
      refine k_loop1_0 (m_help_Equal_api_TypeNode_L2 a0 a1 k1) (m_help_Equal_api_TypeNode_B2 a0 a1 k1) (fun _ => rfl) (fun m _ => rfl) h (fun (x5_l2 : Int) => (AF.put (AF.put (AF.put AF0 (some 0) (.row 3 c_api_TypeNode a0)) (some 1) (.row 3 c_api_TypeNode a1)) (some 5) (.exact (.int .i64 x5_l2)))) (fun (x5_l2 : Int) => []) ?_ (fun rec2 x5_l2 h => ?_)
      · exact Sub.of_le (AF.le_put (AV.le_eq rfl) (AF.le_put (AV.le_eq rfl) (AF.le_put (AV.le_eq rfl) (AF.le_top _))))
      · unfold m_help_Equal_api_TypeNode_B2 at h
        refine k_seq ?_
        refine k_seq ?_
        refine k_reg .free hmixP (by kernel_rfl) ?_
        refine G_q rfl (op_move (av := .exact (.int .i64 x5_l2)) rfl ?_)
        refine G_q rfl (op_move (av := .row 3 c_api_TypeNode a0) rfl ?_)
        refine G_q rfl (op_len_row (by kernel_rfl) rfl ?_)
        refine G_q rfl (op_lss rfl rfl ?_)
        refine G_nil ?_
        refine kC_normal ?_
        refine k_cond_d (p := x5_l2 < (List.length a0 : Int)) rfl (fun hc => ?_) (fun hc => ?_)
        · replace h := ite_t h hc
          refine k_skip ?_
          refine kC_normal ?_
          refine k_seq ?_
          refine k_block ?_
          refine k_seq ?_
          refine k_plan [] [(0, 0), (0, 1), (0, 2), (0, 3), (0, 4), (0, 5), (0, 6), (0, 7), (0, 8)] hmixP (by kernel_rfl) ?_
          refine P_q no34_0 rfl (op_move (av := .row 3 c_api_TypeNode a0) rfl ?_)
          refine P_q no34_0 rfl (op_move (av := .exact (.int .i64 x5_l2)) rfl ?_)
          obtain ⟨n13, h⟩ := need_some h
          refine P_q no34_0 rfl (op_index_row (by kernel_rfl) rfl rfl n13.1 n13.2 ?_)
          refine P_q no34_0 rfl (op_loadNp (m := 3) (c' := c_api_TypeNode (gi a0 x5_l2)) (by kernel_rfl) rfl rfl rfl ?_)
          refine P_q no34_0 rfl (op_move (av := .row 3 c_api_TypeNode a1) rfl ?_)
          refine P_q no34_0 rfl (op_move (av := .exact (.int .i64 x5_l2)) rfl ?_)
          obtain ⟨n14, h⟩ := need_some h
          refine P_q no34_0 rfl (op_index_row (by kernel_rfl) rfl rfl n14.1 n14.2 ?_)
          refine P_q no34_0 rfl (op_loadNp (m := 3) (c' := c_api_TypeNode (gi a1 x5_l2)) (by kernel_rfl) rfl rfl rfl ?_)
          refine P_q no34_0 rfl (op_neqA (a := (gi a0 x5_l2)) (b := (gi a1 x5_l2)) (by kernel_rfl) (eq_c_api_TypeNode _ _) rfl rfl ?_)
          refine P_nil ?_
          refine kC_normal ?_
          refine k_cond_d (p := ¬ (gi a0 x5_l2) = (gi a1 x5_l2)) rfl (fun hc => ?_) (fun hc => ?_)
          · replace h := ite_t h hc
            refine k_seq ?_
            refine k_reg .free hmixP (by kernel_rfl) ?_
            refine G_q rfl (op_assign (av := .exact (.bool false)) rfl ?_)
            refine G_nil ?_
            refine kC_normal ?_
            refine k_ret ?_
            refine kB_ret ?_
            refine kC_ret ?_
            refine kI_ret ?_
            refine kB_ret ?_
            refine kI_ret ?_
            obtain rfl := Option.some.inj h
            refine kP_any (endN (af' := (AF.put AF0 (some 4) (.exact (.bool false)))) (σ' := []) _ rfl ?_ ⟨rfl, rfl⟩)
            exact Sub.of_le (AF.le_put (AV.le_eq rfl) (AF.le_top _))
          · replace h := ite_f h hc
            refine k_skip ?_
            refine kB_normal ?_
            refine kC_normal ?_
            refine k_reg .free hmixP (by kernel_rfl) ?_
            refine G_q rfl (op_move (av := .exact (.int .i64 x5_l2)) rfl ?_)
            refine G_q rfl (op_add rfl rfl rfl ?_)
            refine G_q rfl (op_assign (av := .exact (.int .i64 (i64 (x5_l2 + 1)))) rfl ?_)
            refine G_nil ?_
            refine kI_normal ⟨_, h, ?_⟩
            exact Sub.of_le (AF.le_put (AV.le_eq rfl) (AF.le_put (AV.le_eq rfl) (AF.le_put (AV.le_eq rfl) (AF.le_top _))))
        · replace h := ite_f h hc
          refine k_exit ?_
          refine kC_exit ?_
          refine kI_exit ?_
          refine kB_exit ?_
          refine kI_normal ⟨h, ?_⟩
          exact Sub.of_le (AF.le_top _)
    · refine k_seq ?_
      refine k_reg .free hmixP (by kernel_rfl) ?_
      refine G_q rfl (op_assign (av := .exact (.bool true)) rfl ?_)
      refine G_nil ?_
      refine kC_normal ?_
      refine k_ret ?_
      obtain rfl := Option.some.inj h
      refine kP_any (endN (af' := (AF.put AF0 (some 4) (.exact (.bool true)))) (σ' := []) _ rfl ?_ ⟨rfl, rfl⟩)
      exact Sub.of_le (AF.le_put (AV.le_eq rfl) (AF.le_top _))
set_option maxHeartbeats 4000000 in
theorem m_ref6_end_ok (a0 : List (Int × Int × Int)) (a1 : Int) (r : Int) (h : m_ref6_end a0 a1 = some r) : Pure Tryd.prog 116 [(.row 3 c_api_TypeNode a0), (.exact (.int .i64 a1))] (.exact (.int .i64 r)) := by
  unfold m_ref6_end at h
  refine Pure.ofFun (fun_of_awp Tryd.func116 rfl Tryd.ntmps116 (by simp) rfl (res1 rfl) fun E hE => k_end ?_)
  refine k_seq ?_
  refine k_reg .free hmixP (by kernel_rfl) ?_
  refine G_q rfl (op_assign (av := .exact (.int .i64 0)) rfl ?_)
  refine G_nil ?_
  refine kC_normal ?_
  refine k_join1_0 h (fun (x1_j1 : Int) => (AF.put AF0 (some 1) (.exact (.int .i64 x1_j1)))) (fun (x1_j1 : Int) => []) (fun k1 h => ?_) (fun x1_j1 h => ?_)
  · refine k_seq ?_
    refine k_reg .free hmixP (by kernel_rfl) ?_
    refine G_q rfl (op_assign (av := .exact (.int .i64 1)) rfl ?_)
    refine G_nil ?_
    refine kC_normal ?_
    refine k_block ?_
    refine k_loop2_0 (m_ref6_end_L2 a0 k1) (m_ref6_end_B2 a0 k1) (fun _ _ => rfl) (fun m _ _ => rfl) h (fun (x1_l2 : Int) (x5_l2 : Int) => (AF.put (AF.put (AF.put AF0 (some 0) (.row 3 c_api_TypeNode a0)) (some 1) (.exact (.int .i64 x1_l2))) (some 5) (.exact (.int .i64 x5_l2)))) (fun (x1_l2 : Int) (x5_l2 : Int) => []) ?_ (fun rec2 x1_l2 x5_l2 h => ?_)
    · exact Sub.of_le (AF.le_put (AV.le_eq rfl) (AF.le_put (AV.le_eq rfl) (AF.le_put (AV.le_eq rfl) (AF.le_top _))))
    · unfold m_ref6_end_B2 at h
      refine k_seq ?_
      refine k_seq ?_
      refine k_reg .free hmixP (by kernel_rfl) ?_
      refine G_q rfl (op_move (av := .exact (.int .i64 x5_l2)) rfl ?_)
      refine G_q rfl (op_gtr rfl rfl ?_)
      refine G_nil ?_
      refine kC_normal ?_
      refine k_cond_d (p := 0 < x5_l2) rfl (fun hc => ?_) (fun hc => ?_)
      · replace h := ite_t h hc
        refine k_skip ?_
        refine kC_normal ?_
        refine k_seq ?_
        refine k_block ?_
        refine k_reg .free hmixP (by kernel_rfl) ?_
        refine G_q rfl (op_move (av := .exact (.int .i64 x5_l2)) rfl ?_)
        refine G_q rfl (op_move (av := .row 3 c_api_TypeNode a0) rfl ?_)
        refine G_q rfl (op_move (av := .exact (.int .i64 x1_l2)) rfl ?_)
        obtain ⟨n8, h⟩ := need_some h
        refine G_q rfl (op_index_row (by kernel_rfl) rfl rfl n8.1 n8.2 ?_)
        refine G_q rfl (op_fieldAddr_ptr (o := 2) (c' := (List.drop 2 (c_api_TypeNode (gi a0 x1_l2)))) (by kernel_rfl) rfl rfl ?_)
        refine G_q rfl (op_load1p (a := .exact (.int .i64 ((gi a0 x1_l2).2.2))) (by kernel_rfl) rfl rfl ?_)
        refine G_q rfl (op_sub rfl rfl rfl ?_)
        refine G_q rfl (op_add rfl rfl rfl ?_)
        refine G_q rfl (op_assign (av := .exact (.int .i64 (i64 (x5_l2 + (i64 (((gi a0 x1_l2).2.2) - 1)))))) rfl ?_)
        refine G_nil ?_
        refine kB_normal ?_
        refine kC_normal ?_
        refine k_reg .free hmixP (by kernel_rfl) ?_
        refine G_q rfl (op_move (av := .exact (.int .i64 x1_l2)) rfl ?_)
        refine G_q rfl (op_add rfl rfl rfl ?_)
        refine G_q rfl (op_assign (av := .exact (.int .i64 (i64 (x1_l2 + 1)))) rfl ?_)
        refine G_nil ?_
        refine kI_normal ⟨_, _, h, ?_⟩
        exact Sub.of_le (AF.le_put (AV.le_eq rfl) (AF.le_put (AV.le_eq rfl) (AF.le_put (AV.le_eq rfl) (AF.le_top _))))
      · replace h := ite_f h hc
        refine k_exit ?_
        refine kC_exit ?_
        refine kI_exit ?_
        refine kB_exit ?_
        refine kI_normal ⟨_, h, ?_⟩
        exact Sub.of_le (AF.le_put (AV.le_eq rfl) (AF.le_top _))
  · refine k_seq ?_
    refine k_reg .free hmixP (by kernel_rfl) ?_
    refine G_q rfl (op_move (av := .exact (.int .i64 x1_j1)) rfl ?_)
    refine G_q rfl (op_assign (av := .exact (.int .i64 x1_j1)) rfl ?_)
    refine G_nil ?_
    refine kC_normal ?_
    refine k_ret ?_
    obtain rfl := Option.some.inj h
    refine kP_any (endN (af' := (AF.put AF0 (some 4) (.exact (.int .i64 x1_j1)))) (σ' := []) _ rfl ?_ ⟨rfl, rfl⟩)
    exact Sub.of_le (AF.le_put (AV.le_eq rfl) (AF.le_top _))
set_option maxHeartbeats 4000000 in
theorem m_ref6_parts_ok (a0 : List (Int × Int × Int)) (r : (List (List (Int × Int × Int)))) (h : m_ref6_parts a0 = some r) : Pure Tryd.prog 87 [(.row 3 c_api_TypeNode a0)] (.row 1 c_L_api_TypeNode r) := by
  unfold m_ref6_parts at h
  refine Pure.ofFun (fun_of_awp Tryd.func87 rfl Tryd.ntmps87 (by simp) rfl (res1 rfl) fun E hE => k_end ?_)
  refine k_seq ?_
  refine k_reg .free hmixP (by kernel_rfl) ?_
  refine G_q rfl (op_assign (av := .exact (.slice none 0 0)) rfl ?_)
  refine G_nil ?_
  refine kC_normal ?_
  refine k_seq ?_
  refine k_reg .free hmixP (by kernel_rfl) ?_
  refine G_q rfl (op_assign (av := .exact (.slice none 0 0)) rfl ?_)
  refine G_nil ?_
  refine kC_normal ?_
  refine k_seq ?_
  refine k_reg .free hmixP (by kernel_rfl) ?_
  refine G_q rfl (op_assign (av := .exact (.int .i64 1)) rfl ?_)
  refine G_nil ?_
  refine kC_normal ?_
  refine k_join1_1 h (fun (x3_j1 : List (List (Int × Int × Int))) (v3_j1 : Value) => (AF.put AF0 (some 3) (.exact v3_j1))) (fun (x3_j1 : List (List (Int × Int × Int))) (v3_j1 : Value) => [vecT Tryd.prog 91 1 c_L_api_TypeNode v3_j1 x3_j1]) (fun k1 h => ?_) (fun x3_j1 v3_j1 h => ?_)
  · refine k_seq ?_
    refine k_reg .free hmixP (by kernel_rfl) ?_
    refine G_q rfl (op_assign (av := .exact (.int .i64 0)) rfl ?_)
    refine G_nil ?_
    refine kC_normal ?_
    refine k_block ?_
    refine k_loop3_1 (m_ref6_parts_L2 a0 k1) (m_ref6_parts_B2 a0 k1) (fun _ _ _ => rfl) (fun m _ _ _ => rfl) h (fun (x3_l2 : List (List (Int × Int × Int))) (x4_l2 : Int) (x5_l2 : Int) (v3_l2 : Value) => (AF.put (AF.put (AF.put (AF.put AF0 (some 0) (.row 3 c_api_TypeNode a0)) (some 3) (.exact v3_l2)) (some 4) (.exact (.int .i64 x4_l2))) (some 5) (.exact (.int .i64 x5_l2)))) (fun (x3_l2 : List (List (Int × Int × Int))) (x4_l2 : Int) (x5_l2 : Int) (v3_l2 : Value) => [vecT Tryd.prog 91 1 c_L_api_TypeNode v3_l2 x3_l2]) (.slice none 0 0) ?_ (fun rec2 x3_l2 x4_l2 x5_l2 v3_l2 h => ?_)
    · refine Sub.trans (SubU.to (SubU.nilT (P := Tryd.prog) (t := 91) (n := 1) (enc := c_L_api_TypeNode))) ?_
      exact Sub.of_le (AF.le_put (AV.le_eq rfl) (AF.le_put (AV.le_eq rfl) (AF.le_put (AV.le_eq rfl) (AF.le_put (AV.le_eq rfl) (AF.le_top _)))))
    · unfold m_ref6_parts_B2 at h
      refine k_seq ?_
      refine k_seq ?_
      refine k_reg .free hmixP (by kernel_rfl) ?_
      refine G_q rfl (op_move (av := .exact (.int .i64 x5_l2)) rfl ?_)
      refine G_q rfl (op_move (av := .row 3 c_api_TypeNode a0) rfl ?_)
      obtain ⟨n28, h⟩ := need_some h
      refine G_q rfl (op_index_row (by kernel_rfl) rfl rfl n28.1 n28.2 ?_)
      refine G_q rfl (op_fieldAddr_ptr (o := 2) (c' := (List.drop 2 (c_api_TypeNode (gi a0 0)))) (by kernel_rfl) rfl rfl ?_)
      refine G_q rfl (op_load1p (a := .exact (.int .i64 ((gi a0 0).2.2))) (by kernel_rfl) rfl rfl ?_)
      refine G_q rfl (op_lss rfl rfl ?_)
      refine G_nil ?_
      refine kC_normal ?_
      refine k_cond_d (p := x5_l2 < ((gi a0 0).2.2)) rfl (fun hc => ?_) (fun hc => ?_)
      · replace h := ite_t h hc
        refine k_skip ?_
        refine kC_normal ?_
        refine k_seq ?_
        refine k_block ?_
        refine k_seq ?_
        refine k_reg .free hmixP (by kernel_rfl) ?_
        refine G_q rfl (op_move (av := .row 3 c_api_TypeNode a0) rfl ?_)
        refine G_q rfl (op_move (av := .exact (.int .i64 x4_l2)) rfl ?_)
        obtain ⟨y29, hy29, h⟩ := bnd1_some h
        refine G_q rfl (op_pure (m_ref6_end_ok _ _ _ hy29) Tryd.func116 (by kernel_rfl) (LEs.cons (AV.le_eq rfl) (LEs.cons (AV.le_eq rfl) LEs.nil)) ?_)
        refine G_q rfl (op_assign (av := .exact (.int .i64 y29)) rfl ?_)
        refine G_nil ?_
        refine kC_normal ?_
        refine k_seq ?_
        refine k_reg .free hmixP (by kernel_rfl) ?_
        refine G_q rfl (op_move (av := .exact v3_l2) rfl ?_)
        refine G_q rfl (op_move (av := .row 3 c_api_TypeNode a0) rfl ?_)
        refine G_q rfl (op_move (av := .exact (.int .i64 x4_l2)) rfl ?_)
        refine G_q rfl (op_move (av := .exact (.int .i64 y29)) rfl ?_)
        obtain ⟨n30, h⟩ := need_some h
        refine G_q rfl (op_slice_row (by kernel_rfl) rfl (bnd_some rfl) (bnd_some rfl) n30.1 n30.2.1 n30.2.2 ?_)
        refine G_q rfl (op_litT (n := 1) (enc := c_L_api_TypeNode) [List.take (Int.toNat y29 - Int.toNat x4_l2) (List.drop (Int.toNat x4_l2) a0)] (CellsAll.cons rfl CellsOf.row CellsAll.nil) rfl (by kernel_rfl) (LEss.cons (LEs.cons (AV.le_eq rfl) LEs.nil) LEss.nil) ?_)
        obtain ⟨n31, h⟩ := need_some h
        refine G_l rfl (op_appT (by kernel_rfl) rfl rfl oc_c_L_api_TypeNode n31 (fun v32 => ?_))
        refine G_q rfl (op_assign (av := .exact v32) rfl ?_)
        refine G_nil ?_
        refine kC_normal ?_
        refine k_reg .free hmixP (by kernel_rfl) ?_
        refine G_q rfl (op_move (av := .exact (.int .i64 y29)) rfl ?_)
        refine G_q rfl (op_assign (av := .exact (.int .i64 y29)) rfl ?_)
        refine G_nil ?_
        refine kB_normal ?_
        refine kC_normal ?_
        refine k_reg .free hmixP (by kernel_rfl) ?_
        refine G_q rfl (op_move (av := .exact (.int .i64 x5_l2)) rfl ?_)
        refine G_q rfl (op_add rfl rfl rfl ?_)
        refine G_q rfl (op_assign (av := .exact (.int .i64 (i64 (x5_l2 + 1)))) rfl ?_)
        refine G_nil ?_
        refine kI_normal ⟨_, _, _, v32, h, ?_⟩
        exact Sub.of_le (AF.le_put (AV.le_eq rfl) (AF.le_put (AV.le_eq rfl) (AF.le_put (AV.le_eq rfl) (AF.le_put (AV.le_eq rfl) (AF.le_top _)))))
      · replace h := ite_f h hc
        refine k_exit ?_
        refine kC_exit ?_
        refine kI_exit ?_
        refine kB_exit ?_
        refine kI_normal ⟨_, v3_l2, h, ?_⟩
        exact Sub.of_le (AF.le_put (AV.le_eq rfl) (AF.le_top _))
  · refine k_seq ?_
    refine k_reg .free hmixP (by kernel_rfl) ?_
    refine G_q rfl (op_move (av := .exact v3_j1) rfl ?_)
    refine G_q rfl (op_assign (av := .exact v3_j1) rfl ?_)
    refine G_nil ?_
    refine kC_normal ?_
    refine k_ret ?_
    obtain rfl := Option.some.inj h
    refine kP_any (endN (af' := (AF.put AF0 (some 2) (.row 1 c_L_api_TypeNode x3_j1))) (σ' := []) _ rfl ?_ ⟨rfl, rfl⟩)
    refine Sub.trans (SubU.to (SubU.freezeT (s := 2) rfl len_c_L_api_TypeNode)) ?_
    exact Sub.of_le (AF.le_put (AV.le_eq rfl) (AF.le_top _))
end Go.Proofs.YtdfdjgolijckfaaDoor
/- The functions compute their models, by program. -/
namespace Go.Proofs.YtdfdjgolijckfaaDoor
open Go.RowKit
attribute [local irreducible] AV.exact AV.top AV.row AV.ptr AV.agg AV.tup AV.eptr AV.fn AV.nilq AV.nilqn opA opB opM opR Quiet Loud Reads wpG awp den Sub SubU Pure Fun vecI vecT boxI CellsAll CellsOf OneC LEs LEss
set_option maxRecDepth 100000

set_option maxHeartbeats 4000000 in
theorem m_help_SameTypes_ok (a0 : List (Int × (List (Int × Int × Int)))) (a1 : List (Int × (List (Int × Int × Int)))) (r : Bool) (h : m_help_SameTypes a0 a1 = some r) : Pure Tryd.prog 17 [(.row 2 c_api_Binding a0), (.row 2 c_api_Binding a1)] (.exact (.bool r)) := by
  unfold m_help_SameTypes at h
  refine Pure.ofFun (fun_of_awp Tryd.func17 rfl Tryd.ntmps17 (by simp) rfl (res1 rfl) fun E hE => k_end ?_)
  refine k_seq ?_
  refine k_reg .free hmixP (by kernel_rfl) ?_
  refine G_q rfl (op_assign (av := .exact (.bool false)) rfl ?_)
  refine G_nil ?_
  refine kC_normal ?_
  refine k_seq ?_
  refine k_seq ?_
  refine k_reg .free hmixP (by kernel_rfl) ?_
  refine G_q rfl (op_move (av := .row 2 c_api_Binding a0) rfl ?_)
  refine G_q rfl (op_len_row (by kernel_rfl) rfl ?_)
  refine G_q rfl (op_move (av := .row 2 c_api_Binding a1) rfl ?_)
  refine G_q rfl (op_len_row (by kernel_rfl) rfl ?_)
  refine G_q rfl (op_neq rfl rfl ?_)
  refine G_nil ?_
  refine kC_normal ?_
  refine k_cond_d (p := ¬ (List.length a0 : Int) = (List.length a1 : Int)) rfl (fun hc => ?_) (fun hc => ?_)
  · replace h := ite_t h hc
    refine k_seq ?_
    refine k_reg .free hmixP (by kernel_rfl) ?_
    refine G_q rfl (op_assign (av := .exact (.bool false)) rfl ?_)
    refine G_nil ?_
    refine kC_normal ?_
    refine k_ret ?_
    refine kC_ret ?_
    obtain rfl := Option.some.inj h
    refine kP_any (endN (af' := (AF.put AF0 (some 4) (.exact (.bool false)))) (σ' := []) _ rfl ?_ ⟨rfl, rfl⟩)
    exact Sub.of_le (AF.le_put (AV.le_eq rfl) (AF.le_top _))
  · replace h := ite_f h hc
    refine k_skip ?_
    refine kC_normal ?_
    refine k_join0_0 h (AF0) ([]) (fun k1 h => ?_) (fun  h => ?_)
    · refine k_seq ?_
      refine k_reg .free hmixP (by kernel_rfl) ?_
      refine G_q rfl (op_assign (av := .exact (.int .i64 0)) rfl ?_)
      refine G_nil ?_
      refine kC_normal ?_
      refine k_block ?_
      refine k_loop1_0 (m_help_SameTypes_L2 a0 a1 k1) (m_help_SameTypes_B2 a0 a1 k1) (fun _ => rfl) (fun m _ => rfl) h (fun (x5_l2 : Int) => (AF.put (AF.put (AF.put AF0 (some 0) (.row 2 c_api_Binding a0)) (some 1) (.row 2 c_api_Binding a1)) (some 5) (.exact (.int .i64 x5_l2)))) (fun (x5_l2 : Int) => []) ?_ (fun rec2 x5_l2 h => ?_)
      · exact Sub.of_le (AF.le_put (AV.le_eq rfl) (AF.le_put (AV.le_eq rfl) (AF.le_put (AV.le_eq rfl) (AF.le_top _))))
      · unfold m_help_SameTypes_B2 at h
        refine k_seq ?_
        refine k_seq ?_
        refine k_reg .free hmixP (by kernel_rfl) ?_
        refine G_q rfl (op_move (av := .exact (.int .i64 x5_l2)) rfl ?_)
        refine G_q rfl (op_move (av := .row 2 c_api_Binding a0) rfl ?_)
        refine G_q rfl (op_len_row (by kernel_rfl) rfl ?_)
        refine G_q rfl (op_lss rfl rfl ?_)
        refine G_nil ?_
        refine kC_normal ?_
        refine k_cond_d (p := x5_l2 < (List.length a0 : Int)) rfl (fun hc => ?_) (fun hc => ?_)
        · replace h := ite_t h hc
          refine k_skip ?_
          refine kC_normal ?_
          refine k_seq ?_
          refine k_block ?_
          refine k_join1_0 h (fun (x41_j130 : Bool) => (AF.put (AF.put (AF.put (AF.put AF0 (some 0) (.row 2 c_api_Binding a0)) (some 1) (.row 2 c_api_Binding a1)) (some 5) (.exact (.int .i64 x5_l2))) (some 41) (.exact (.bool x41_j130)))) (fun (x41_j130 : Bool) => []) (fun k130 h => ?_) (fun x41_j130 h => ?_)
          · refine k_plan [] [(0, 0), (0, 1), (0, 2), (0, 3), (0, 4), (0, 5), (0, 6), (0, 7), (0, 8), (0, 9), (0, 10), (0, 11), (0, 12), (0, 13), (0, 14), (0, 15), (0, 16), (0, 17), (0, 18), (0, 19), (0, 20), (0, 21), (0, 22), (0, 23), (0, 24)] hmixP (by kernel_rfl) ?_
            refine P_q no34_0 rfl (op_move (av := .row 2 c_api_Binding a0) rfl ?_)
            refine P_q no34_0 rfl (op_move (av := .exact (.int .i64 x5_l2)) rfl ?_)
            obtain ⟨n136, h⟩ := need_some h
            refine P_q no34_0 rfl (op_index_row (by kernel_rfl) rfl rfl n136.1 n136.2 ?_)
            refine P_q no34_0 rfl (op_fieldAddr_ptr (o := 0) (c' := (List.drop 0 (c_api_Binding (gi a0 x5_l2)))) (by kernel_rfl) rfl rfl ?_)
            refine P_q no34_0 rfl (op_load1p (a := .exact (.int .i64 ((gi a0 x5_l2).1))) (by kernel_rfl) rfl rfl ?_)
            refine P_q no34_0 rfl (op_move (av := .row 2 c_api_Binding a1) rfl ?_)
            refine P_q no34_0 rfl (op_move (av := .exact (.int .i64 x5_l2)) rfl ?_)
            obtain ⟨n137, h⟩ := need_some h
            refine P_q no34_0 rfl (op_index_row (by kernel_rfl) rfl rfl n137.1 n137.2 ?_)
            refine P_q no34_0 rfl (op_fieldAddr_ptr (o := 0) (c' := (List.drop 0 (c_api_Binding (gi a1 x5_l2)))) (by kernel_rfl) rfl rfl ?_)
            refine P_q no34_0 rfl (op_load1p (a := .exact (.int .i64 ((gi a1 x5_l2).1))) (by kernel_rfl) rfl rfl ?_)
            refine P_q no34_0 rfl (op_neq rfl rfl ?_)
            refine P_q no34_0 rfl (op_move (av := .exact (.bool (decide (¬ ((gi a0 x5_l2).1) = ((gi a1 x5_l2).1))))) rfl ?_)
            refine P_split (p := ¬ ((gi a0 x5_l2).1) = ((gi a1 x5_l2).1)) 28 rfl (fun hc => ?_) (fun hc => ?_)
            · replace h := ite_t h hc
              refine P_n no34_0 rfl rfl rfl ?_
              refine P_n no34_0 rfl rfl rfl ?_
              refine P_n no34_0 rfl rfl rfl ?_
              refine P_n no34_0 rfl rfl rfl ?_
              refine P_n no34_0 rfl rfl rfl ?_
              refine P_n no34_0 rfl rfl rfl ?_
              refine P_n no34_0 rfl rfl rfl ?_
              refine P_n no34_0 rfl rfl rfl ?_
              refine P_n no34_0 rfl rfl rfl ?_
              refine P_n no34_0 rfl rfl rfl ?_
              refine P_n no34_0 rfl rfl rfl ?_
              refine P_n no34_0 rfl rfl rfl ?_
              refine P_q no34_0 rfl (op_pick_t rfl (av := .exact (.bool true)) rfl ?_)
              refine P_nil ?_
              refine kI_normal ⟨_, h, ?_⟩
              exact Sub.of_le (AF.le_put (AV.le_eq rfl) (AF.le_put (AV.le_eq rfl) (AF.le_put (AV.le_eq rfl) (AF.le_put (AV.le_eq rfl) (AF.le_top _)))))
            · replace h := ite_f h hc
              refine Py_q no34_0 rfl rfl rfl (op_move (av := .row 2 c_api_Binding a0) rfl ?_)
              refine Py_q no34_0 rfl rfl rfl (op_move (av := .exact (.int .i64 x5_l2)) rfl ?_)
              obtain ⟨n138, h⟩ := need_some h
              refine Py_q no34_0 rfl rfl rfl (op_index_row (by kernel_rfl) rfl rfl n138.1 n138.2 ?_)
              refine Py_q no34_0 rfl rfl rfl (op_fieldAddr_ptr (o := 1) (c' := (List.drop 1 (c_api_Binding (gi a0 x5_l2)))) (by kernel_rfl) rfl rfl ?_)
              refine Py_q no34_0 rfl rfl rfl (op_load1p (a := .row 3 c_api_TypeNode ((gi a0 x5_l2).2)) (by kernel_rfl) rfl rfl ?_)
              refine Py_q no34_0 rfl rfl rfl (op_move (av := .row 2 c_api_Binding a1) rfl ?_)
              refine Py_q no34_0 rfl rfl rfl (op_move (av := .exact (.int .i64 x5_l2)) rfl ?_)
              obtain ⟨n139, h⟩ := need_some h
              refine Py_q no34_0 rfl rfl rfl (op_index_row (by kernel_rfl) rfl rfl n139.1 n139.2 ?_)
              refine Py_q no34_0 rfl rfl rfl (op_fieldAddr_ptr (o := 1) (c' := (List.drop 1 (c_api_Binding (gi a1 x5_l2)))) (by kernel_rfl) rfl rfl ?_)
              refine Py_q no34_0 rfl rfl rfl (op_load1p (a := .row 3 c_api_TypeNode ((gi a1 x5_l2).2)) (by kernel_rfl) rfl rfl ?_)
              obtain ⟨y140, hy140, h⟩ := bnd1_some h
              refine Py_q no34_0 rfl rfl rfl (op_pure (m_help_Equal_api_TypeNode_ok _ _ _ hy140) Tryd.func21 (by kernel_rfl) (LEs.cons (AV.le_eq rfl) (LEs.cons (AV.le_eq rfl) LEs.nil)) ?_)
              refine Py_q no34_0 rfl rfl rfl (op_not rfl ?_)
              refine P_q no34_0 rfl (op_pick_f rfl (av := .exact (.bool (!y140))) rfl ?_)
              refine P_nil ?_
              refine kI_normal ⟨_, h, ?_⟩
              exact Sub.of_le (AF.le_put (AV.le_eq rfl) (AF.le_put (AV.le_eq rfl) (AF.le_put (AV.le_eq rfl) (AF.le_put (AV.le_eq rfl) (AF.le_top _)))))
          · refine k_cond_b (c := x41_j130) rfl (fun hc => ?_) (fun hc => ?_)
            · replace h := ite_t h hc
              refine k_seq ?_
              refine k_reg .free hmixP (by kernel_rfl) ?_
              refine G_q rfl (op_assign (av := .exact (.bool false)) rfl ?_)
              refine G_nil ?_
              refine kC_normal ?_
              refine k_ret ?_
              refine kB_ret ?_
              refine kC_ret ?_
              refine kI_ret ?_
              refine kB_ret ?_
              refine kI_ret ?_
              obtain rfl := Option.some.inj h
              refine kP_any (endN (af' := (AF.put AF0 (some 4) (.exact (.bool false)))) (σ' := []) _ rfl ?_ ⟨rfl, rfl⟩)
              exact Sub.of_le (AF.le_put (AV.le_eq rfl) (AF.le_top _))
            · replace h := ite_f h hc
              refine k_skip ?_
              refine kB_normal ?_
              refine kC_normal ?_
              refine k_reg .free hmixP (by kernel_rfl) ?_
              refine G_q rfl (op_move (av := .exact (.int .i64 x5_l2)) rfl ?_)
              refine G_q rfl (op_add rfl rfl rfl ?_)
              refine G_q rfl (op_assign (av := .exact (.int .i64 (i64 (x5_l2 + 1)))) rfl ?_)
              refine G_nil ?_
              refine kI_normal ⟨_, h, ?_⟩
              exact Sub.of_le (AF.le_put (AV.le_eq rfl) (AF.le_put (AV.le_eq rfl) (AF.le_put (AV.le_eq rfl) (AF.le_top _))))
        · replace h := ite_f h hc
          refine k_exit ?_
          refine kC_exit ?_
          refine kI_exit ?_
          refine kB_exit ?_
          refine kI_normal ⟨h, ?_⟩
          exact Sub.of_le (AF.le_top _)
    · refine k_seq ?_
      refine k_reg .free hmixP (by kernel_rfl) ?_
      refine G_q rfl (op_assign (av := .exact (.bool true)) rfl ?_)
      refine G_nil ?_
      refine kC_normal ?_
      refine k_ret ?_
      obtain rfl := Option.some.inj h
      refine kP_any (endN (af' := (AF.put AF0 (some 4) (.exact (.bool true)))) (σ' := []) _ rfl ?_ ⟨rfl, rfl⟩)
      exact Sub.of_le (AF.le_put (AV.le_eq rfl) (AF.le_top _))
set_option maxHeartbeats 4000000 in
theorem m_ref6_has_ok (a0 : List Int) (a1 : Int) (r : Bool) (h : m_ref6_has a0 a1 = some r) : Pure Tryd.prog 53 [(.row 1 c_int a0), (.exact (.int .i64 a1))] (.exact (.bool r)) := by
  unfold m_ref6_has at h
  refine Pure.ofFun (fun_of_awp Tryd.func53 rfl Tryd.ntmps53 (by simp) rfl (res1 rfl) fun E hE => k_end ?_)
  refine k_seq ?_
  refine k_reg .free hmixP (by kernel_rfl) ?_
  refine G_q rfl (op_assign (av := .exact (.bool false)) rfl ?_)
  refine G_nil ?_
  refine kC_normal ?_
  refine k_join0_0 h (AF0) ([]) (fun k1 h => ?_) (fun  h => ?_)
  · refine k_seq ?_
    refine k_reg .free hmixP (by kernel_rfl) ?_
    refine G_q rfl (op_assign (av := .exact (.int .i64 0)) rfl ?_)
    refine G_nil ?_
    refine kC_normal ?_
    refine k_block ?_
    refine k_loop1_0 (m_ref6_has_L2 a0 a1 k1) (m_ref6_has_B2 a0 a1 k1) (fun _ => rfl) (fun m _ => rfl) h (fun (x5_l2 : Int) => (AF.put (AF.put (AF.put AF0 (some 0) (.row 1 c_int a0)) (some 1) (.exact (.int .i64 a1))) (some 5) (.exact (.int .i64 x5_l2)))) (fun (x5_l2 : Int) => []) ?_ (fun rec2 x5_l2 h => ?_)
    · exact Sub.of_le (AF.le_put (AV.le_eq rfl) (AF.le_put (AV.le_eq rfl) (AF.le_put (AV.le_eq rfl) (AF.le_top _))))
    · unfold m_ref6_has_B2 at h
      refine k_seq ?_
      refine k_seq ?_
      refine k_reg .free hmixP (by kernel_rfl) ?_
      refine G_q rfl (op_move (av := .exact (.int .i64 x5_l2)) rfl ?_)
      refine G_q rfl (op_move (av := .row 1 c_int a0) rfl ?_)
      refine G_q rfl (op_len_row (by kernel_rfl) rfl ?_)
      refine G_q rfl (op_lss rfl rfl ?_)
      refine G_nil ?_
      refine kC_normal ?_
      refine k_cond_d (p := x5_l2 < (List.length a0 : Int)) rfl (fun hc => ?_) (fun hc => ?_)
      · replace h := ite_t h hc
        refine k_skip ?_
        refine kC_normal ?_
        refine k_seq ?_
        refine k_block ?_
        refine k_seq ?_
        refine k_reg .free hmixP (by kernel_rfl) ?_
        refine G_q rfl (op_move (av := .row 1 c_int a0) rfl ?_)
        refine G_q rfl (op_move (av := .exact (.int .i64 x5_l2)) rfl ?_)
        obtain ⟨n8, h⟩ := need_some h
        refine G_q rfl (op_index_row (by kernel_rfl) rfl rfl n8.1 n8.2 ?_)
        refine G_q rfl (op_load1p (a := .exact (.int .i64 (gi a0 x5_l2))) (by kernel_rfl) rfl rfl ?_)
        refine G_q rfl (op_move (av := .exact (.int .i64 a1)) rfl ?_)
        refine G_q rfl (op_eql rfl rfl ?_)
        refine G_nil ?_
        refine kC_normal ?_
        refine k_cond_d (p := (gi a0 x5_l2) = a1) rfl (fun hc => ?_) (fun hc => ?_)
        · replace h := ite_t h hc
          refine k_seq ?_
          refine k_reg .free hmixP (by kernel_rfl) ?_
          refine G_q rfl (op_assign (av := .exact (.bool true)) rfl ?_)
          refine G_nil ?_
          refine kC_normal ?_
          refine k_ret ?_
          refine kB_ret ?_
          refine kC_ret ?_
          refine kI_ret ?_
          refine kB_ret ?_
          refine kI_ret ?_
          obtain rfl := Option.some.inj h
          refine kP_any (endN (af' := (AF.put AF0 (some 4) (.exact (.bool true)))) (σ' := []) _ rfl ?_ ⟨rfl, rfl⟩)
          exact Sub.of_le (AF.le_put (AV.le_eq rfl) (AF.le_top _))
        · replace h := ite_f h hc
          refine k_skip ?_
          refine kB_normal ?_
          refine kC_normal ?_
          refine k_reg .free hmixP (by kernel_rfl) ?_
          refine G_q rfl (op_move (av := .exact (.int .i64 x5_l2)) rfl ?_)
          refine G_q rfl (op_add rfl rfl rfl ?_)
          refine G_q rfl (op_assign (av := .exact (.int .i64 (i64 (x5_l2 + 1)))) rfl ?_)
          refine G_nil ?_
          refine kI_normal ⟨_, h, ?_⟩
          exact Sub.of_le (AF.le_put (AV.le_eq rfl) (AF.le_put (AV.le_eq rfl) (AF.le_put (AV.le_eq rfl) (AF.le_top _))))
      · replace h := ite_f h hc
        refine k_exit ?_
        refine kC_exit ?_
        refine kI_exit ?_
        refine kB_exit ?_
        refine kI_normal ⟨h, ?_⟩
        exact Sub.of_le (AF.le_top _)
  · refine k_seq ?_
    refine k_reg .free hmixP (by kernel_rfl) ?_
    refine G_q rfl (op_assign (av := .exact (.bool false)) rfl ?_)
    refine G_nil ?_
    refine kC_normal ?_
    refine k_ret ?_
    obtain rfl := Option.some.inj h
    refine kP_any (endN (af' := (AF.put AF0 (some 4) (.exact (.bool false)))) (σ' := []) _ rfl ?_ ⟨rfl, rfl⟩)
    exact Sub.of_le (AF.le_put (AV.le_eq rfl) (AF.le_top _))
set_option maxHeartbeats 4000000 in
theorem m_ref6_Vars_ok (a0 : List (Int × Int × Int)) (r : (List Int)) (h : m_ref6_Vars a0 = some r) : Pure Tryd.prog 20 [(.row 3 c_api_TypeNode a0)] (.row 1 c_int r) := by
  unfold m_ref6_Vars at h
  refine Pure.ofFun (fun_of_awp Tryd.func20 rfl Tryd.ntmps20 (by simp) rfl (res1 rfl) fun E hE => k_end ?_)
  refine k_seq ?_
  refine k_reg .free hmixP (by kernel_rfl) ?_
  refine G_q rfl (op_assign (av := .exact (.slice none 0 0)) rfl ?_)
  refine G_nil ?_
  refine kC_normal ?_
  refine k_seq ?_
  refine k_reg .free hmixP (by kernel_rfl) ?_
  refine G_q rfl (op_assign (av := .exact (.slice none 0 0)) rfl ?_)
  refine G_nil ?_
  refine kC_normal ?_
  refine k_join1_1 h (fun (x3_j1 : List Int) (v3_j1 : Value) => (AF.put AF0 (some 3) (.exact v3_j1))) (fun (x3_j1 : List Int) (v3_j1 : Value) => [vecT Tryd.prog 23 1 c_int v3_j1 x3_j1]) (fun k1 h => ?_) (fun x3_j1 v3_j1 h => ?_)
  · refine k_seq ?_
    refine k_reg .free hmixP (by kernel_rfl) ?_
    refine G_q rfl (op_assign (av := .exact (.int .i64 0)) rfl ?_)
    refine G_nil ?_
    refine kC_normal ?_
    refine k_block ?_
    refine k_loop2_1 (m_ref6_Vars_L2 a0 k1) (m_ref6_Vars_B2 a0 k1) (fun _ _ => rfl) (fun m _ _ => rfl) h (fun (x3_l2 : List Int) (x4_l2 : Int) (v3_l2 : Value) => (AF.put (AF.put (AF.put AF0 (some 0) (.row 3 c_api_TypeNode a0)) (some 3) (.exact v3_l2)) (some 4) (.exact (.int .i64 x4_l2)))) (fun (x3_l2 : List Int) (x4_l2 : Int) (v3_l2 : Value) => [vecT Tryd.prog 23 1 c_int v3_l2 x3_l2]) (.slice none 0 0) ?_ (fun rec2 x3_l2 x4_l2 v3_l2 h => ?_)
    · refine Sub.trans (SubU.to (SubU.nilT (P := Tryd.prog) (t := 23) (n := 1) (enc := c_int))) ?_
      exact Sub.of_le (AF.le_put (AV.le_eq rfl) (AF.le_put (AV.le_eq rfl) (AF.le_put (AV.le_eq rfl) (AF.le_top _))))
    · unfold m_ref6_Vars_B2 at h
      refine k_seq ?_
      refine k_seq ?_
      refine k_reg .free hmixP (by kernel_rfl) ?_
      refine G_q rfl (op_move (av := .exact (.int .i64 x4_l2)) rfl ?_)
      refine G_q rfl (op_move (av := .row 3 c_api_TypeNode a0) rfl ?_)
      refine G_q rfl (op_len_row (by kernel_rfl) rfl ?_)
      refine G_q rfl (op_lss rfl rfl ?_)
      refine G_nil ?_
      refine kC_normal ?_
      refine k_cond_d (p := x4_l2 < (List.length a0 : Int)) rfl (fun hc => ?_) (fun hc => ?_)
      · replace h := ite_t h hc
        refine k_skip ?_
        refine kC_normal ?_
        refine k_join1_1 h (fun (x3_j108 : List Int) (v3_j108 : Value) => (AF.put (AF.put (AF.put AF0 (some 0) (.row 3 c_api_TypeNode a0)) (some 3) (.exact v3_j108)) (some 4) (.exact (.int .i64 x4_l2)))) (fun (x3_j108 : List Int) (v3_j108 : Value) => [vecT Tryd.prog 23 1 c_int v3_j108 x3_j108]) (fun k108 h => ?_) (fun x3_j108 v3_j108 h => ?_)
        · refine k_block ?_
          refine k_join1_0 h (fun (x26_j119 : Bool) => (AF.put (AF.put (AF.put (AF.put AF0 (some 0) (.row 3 c_api_TypeNode a0)) (some 3) (.exact v3_l2)) (some 4) (.exact (.int .i64 x4_l2))) (some 26) (.exact (.bool x26_j119)))) (fun (x26_j119 : Bool) => [vecT Tryd.prog 23 1 c_int v3_l2 x3_l2]) (fun k119 h => ?_) (fun x26_j119 h => ?_)
          · refine k_reg .free hmixP (by kernel_rfl) ?_
            refine G_q rfl (op_move (av := .row 3 c_api_TypeNode a0) rfl ?_)
            refine G_q rfl (op_move (av := .exact (.int .i64 x4_l2)) rfl ?_)
            obtain ⟨n123, h⟩ := need_some h
            refine G_q rfl (op_index_row (by kernel_rfl) rfl rfl n123.1 n123.2 ?_)
            refine G_q rfl (op_fieldAddr_ptr (o := 0) (c' := (List.drop 0 (c_api_TypeNode (gi a0 x4_l2)))) (by kernel_rfl) rfl rfl ?_)
            refine G_q rfl (op_load1p (a := .exact (.int .i64 ((gi a0 x4_l2).1))) (by kernel_rfl) rfl rfl ?_)
            refine G_q rfl (op_eql rfl rfl ?_)
            refine G_q rfl (op_move (av := .exact (.bool (decide (((gi a0 x4_l2).1) = 1)))) rfl ?_)
            refine G_split (p := ((gi a0 x4_l2).1) = 1) 17 rfl (fun hc => ?_) (fun hc => ?_)
            · replace h := ite_t h hc
              refine Gy_q rfl rfl rfl (op_move (av := .exact v3_l2) rfl ?_)
              refine Gy_q rfl rfl rfl (op_move (av := .row 3 c_api_TypeNode a0) rfl ?_)
              refine Gy_q rfl rfl rfl (op_move (av := .exact (.int .i64 x4_l2)) rfl ?_)
              obtain ⟨n124, h⟩ := need_some h
              refine Gy_q rfl rfl rfl (op_index_row (by kernel_rfl) rfl rfl n124.1 n124.2 ?_)
              refine Gy_q rfl rfl rfl (op_fieldAddr_ptr (o := 1) (c' := (List.drop 1 (c_api_TypeNode (gi a0 x4_l2)))) (by kernel_rfl) rfl rfl ?_)
              refine Gy_q rfl rfl rfl (op_load1p (a := .exact (.int .i64 ((gi a0 x4_l2).2.1))) (by kernel_rfl) rfl rfl ?_)
              obtain ⟨y125, hy125, h⟩ := bnd1_some h
              refine Gy_r rfl rfl rfl (op_borrow (m_ref6_has_ok _ _ _ hy125) Tryd.func53 (by kernel_rfl) MI.exact (Bors.cons (Bor.vec (List.Mem.head _) len_c_int) (Bors.cons (Bor.le (AV.le_eq rfl)) Bors.nil)) ?_)
              refine Gy_q rfl rfl rfl (op_not rfl ?_)
              refine G_q rfl (op_pick_t rfl (av := .exact (.bool (!y125))) rfl ?_)
              refine G_nil ?_
              refine kI_normal ⟨_, h, ?_⟩
              exact Sub.of_le (AF.le_put (AV.le_eq rfl) (AF.le_put (AV.le_eq rfl) (AF.le_put (AV.le_eq rfl) (AF.le_put (AV.le_eq rfl) (AF.le_top _)))))
            · replace h := ite_f h hc
              refine G_n rfl rfl ?_
              refine G_n rfl rfl ?_
              refine G_n rfl rfl ?_
              refine G_n rfl rfl ?_
              refine G_n rfl rfl ?_
              refine G_n rfl rfl ?_
              refine G_n rfl rfl ?_
              refine G_n rfl rfl ?_
              refine G_q rfl (op_pick_f rfl (av := .exact (.bool false)) rfl ?_)
              refine G_nil ?_
              refine kI_normal ⟨_, h, ?_⟩
              exact Sub.of_le (AF.le_put (AV.le_eq rfl) (AF.le_put (AV.le_eq rfl) (AF.le_put (AV.le_eq rfl) (AF.le_put (AV.le_eq rfl) (AF.le_top _)))))
          · refine k_cond_b (c := x26_j119) rfl (fun hc => ?_) (fun hc => ?_)
            · replace h := ite_t h hc
              refine k_reg .free hmixP (by kernel_rfl) ?_
              refine G_q rfl (op_move (av := .exact v3_l2) rfl ?_)
              refine G_q rfl (op_move (av := .row 3 c_api_TypeNode a0) rfl ?_)
              refine G_q rfl (op_move (av := .exact (.int .i64 x4_l2)) rfl ?_)
              obtain ⟨n126, h⟩ := need_some h
              refine G_q rfl (op_index_row (by kernel_rfl) rfl rfl n126.1 n126.2 ?_)
              refine G_q rfl (op_fieldAddr_ptr (o := 1) (c' := (List.drop 1 (c_api_TypeNode (gi a0 x4_l2)))) (by kernel_rfl) rfl rfl ?_)
              refine G_q rfl (op_load1p (a := .exact (.int .i64 ((gi a0 x4_l2).2.1))) (by kernel_rfl) rfl rfl ?_)
              refine G_q rfl (op_litT (n := 1) (enc := c_int) [(gi a0 x4_l2).2.1] (CellsAll.cons rfl CellsOf.int CellsAll.nil) rfl (by kernel_rfl) (LEss.cons (LEs.cons (AV.le_eq rfl) LEs.nil) LEss.nil) ?_)
              obtain ⟨n127, h⟩ := need_some h
              refine G_l rfl (op_appT (by kernel_rfl) rfl rfl oc_c_int n127 (fun v128 => ?_))
              refine G_q rfl (op_assign (av := .exact v128) rfl ?_)
              refine G_nil ?_
              refine kB_normal ?_
              refine kI_normal ⟨_, v128, h, ?_⟩
              exact Sub.of_le (AF.le_put (AV.le_eq rfl) (AF.le_put (AV.le_eq rfl) (AF.le_put (AV.le_eq rfl) (AF.le_top _))))
            · replace h := ite_f h hc
              refine k_skip ?_
              refine kB_normal ?_
              refine kI_normal ⟨_, v3_l2, h, ?_⟩
              exact Sub.of_le (AF.le_put (AV.le_eq rfl) (AF.le_put (AV.le_eq rfl) (AF.le_put (AV.le_eq rfl) (AF.le_top _))))
        · refine k_reg .free hmixP (by kernel_rfl) ?_
          refine G_q rfl (op_move (av := .exact (.int .i64 x4_l2)) rfl ?_)
          refine G_q rfl (op_add rfl rfl rfl ?_)
          refine G_q rfl (op_assign (av := .exact (.int .i64 (i64 (x4_l2 + 1)))) rfl ?_)
          refine G_nil ?_
          refine kI_normal ⟨_, _, v3_j108, h, ?_⟩
          exact Sub.of_le (AF.le_put (AV.le_eq rfl) (AF.le_put (AV.le_eq rfl) (AF.le_put (AV.le_eq rfl) (AF.le_top _))))
      · replace h := ite_f h hc
        refine k_exit ?_
        refine kC_exit ?_
        refine kI_exit ?_
        refine kB_exit ?_
        refine kI_normal ⟨_, v3_l2, h, ?_⟩
        exact Sub.of_le (AF.le_put (AV.le_eq rfl) (AF.le_top _))
  · refine k_seq ?_
    refine k_reg .free hmixP (by kernel_rfl) ?_
    refine G_q rfl (op_move (av := .exact v3_j1) rfl ?_)
    refine G_q rfl (op_assign (av := .exact v3_j1) rfl ?_)
    refine G_nil ?_
    refine kC_normal ?_
    refine k_ret ?_
    obtain rfl := Option.some.inj h
    refine kP_any (endN (af' := (AF.put AF0 (some 2) (.row 1 c_int x3_j1))) (σ' := []) _ rfl ?_ ⟨rfl, rfl⟩)
    refine Sub.trans (SubU.to (SubU.freezeT (s := 2) rfl len_c_int)) ?_
    exact Sub.of_le (AF.le_put (AV.le_eq rfl) (AF.le_top _))
end Go.Proofs.YtdfdjgolijckfaaDoor
/- The functions compute their models, by program. -/
namespace Go.Proofs.YtdfdjgolijckfaaDoor
open Go.RowKit
attribute [local irreducible] AV.exact AV.top AV.row AV.ptr AV.agg AV.tup AV.eptr AV.fn AV.nilq AV.nilqn opA opB opM opR Quiet Loud Reads wpG awp den Sub SubU Pure Fun vecI vecT boxI CellsAll CellsOf OneC LEs LEss
set_option maxRecDepth 100000

set_option maxHeartbeats 4000000 in
theorem m_ref6_solver_add_F_ok {w0 : Nat} {w0v0 : Value} {w0z1 : Value} (self_ref6_solver_add : ((List ((Int × Int × Int) × (List Int) × Int)) × (List (Int × Int))) → (List (Int × Int × Int)) → Option (Int × ((List ((Int × Int × Int) × (List Int) × Int)) × (List (Int × Int))))) (hself_ref6_solver_add : ∀ ⦃w0 : Nat⦄ ⦃w0v0 : Value⦄ ⦃w0z1 : Value⦄ (a0 : (List ((Int × Int × Int) × (List Int) × Int)) × (List (Int × Int))) (a1 : List (Int × Int × Int)) (r : Int × ((List ((Int × Int × Int) × (List Int) × Int)) × (List (Int × Int)))), self_ref6_solver_add a0 a1 = some r → Fun Tryd.prog 79 [(pA w0 0), (.row 3 c_api_TypeNode a1)] [boxI 80 w0 [.exact w0v0, .exact w0z1], vecT Tryd.prog 77 5 c_cspcheckref6_shared w0v0 a0.1, mapV (fun _ => True) (fun k : Int => .int .i64 k) (fun x : Int => .exact (.int .i64 x)) w0z1 a0.2] (fun a s => ∃ zw0v0 zw0z1, a = .exact (.int .i64 r.1) ∧ s = [boxI 80 w0 [.exact zw0v0, .exact zw0z1], vecT Tryd.prog 77 5 c_cspcheckref6_shared zw0v0 r.2.1, mapV (fun _ => True) (fun k : Int => .int .i64 k) (fun x : Int => .exact (.int .i64 x)) zw0z1 r.2.2])) (a0 : (List ((Int × Int × Int) × (List Int) × Int)) × (List (Int × Int))) (a1 : List (Int × Int × Int)) (r : Int × ((List ((Int × Int × Int) × (List Int) × Int)) × (List (Int × Int)))) (h : m_ref6_solver_add_F self_ref6_solver_add a0 a1 = some r) : Fun Tryd.prog 79 [(pA w0 0), (.row 3 c_api_TypeNode a1)] [boxI 80 w0 [.exact w0v0, .exact w0z1], vecT Tryd.prog 77 5 c_cspcheckref6_shared w0v0 a0.1, mapV (fun _ => True) (fun k : Int => .int .i64 k) (fun x : Int => .exact (.int .i64 x)) w0z1 a0.2] (fun a s => ∃ zw0v0 zw0z1, a = .exact (.int .i64 r.1) ∧ s = [boxI 80 w0 [.exact zw0v0, .exact zw0z1], vecT Tryd.prog 77 5 c_cspcheckref6_shared zw0v0 r.2.1, mapV (fun _ => True) (fun k : Int => .int .i64 k) (fun x : Int => .exact (.int .i64 x)) zw0z1 r.2.2]) := by
  unfold m_ref6_solver_add_F at h
  refine fun_of_awp Tryd.func79 rfl Tryd.ntmps79 (by simp) rfl (res1 rfl) fun E hE => k_end ?_
  refine k_seq ?_
  refine k_reg .free hmixP (by kernel_rfl) ?_
  refine G_q rfl (op_assign (av := .exact (.int .i64 0)) rfl ?_)
  refine G_nil ?_
  refine kC_normal ?_
  refine k_join0_0 h ((AF.put (AF.put AF0 (some 0) (pA w0 0)) (some 1) (.row 3 c_api_TypeNode a1))) ([vecT Tryd.prog 77 5 c_cspcheckref6_shared w0v0 a0.1, mapV (fun _ => True) (fun k : Int => .int .i64 k) (fun x : Int => .exact (.int .i64 x)) w0z1 a0.2, boxI 80 w0 [.exact w0v0, .exact w0z1]]) (fun k1 h => ?_) (fun  h => ?_)
  · refine k_seq ?_
    refine k_reg .free hmixP (by kernel_rfl) ?_
    refine G_q rfl (op_move (av := .row 3 c_api_TypeNode a1) rfl ?_)
    obtain ⟨n4, h⟩ := need_some h
    refine G_q rfl (op_index_row (by kernel_rfl) rfl rfl n4.1 n4.2 ?_)
    refine G_q rfl (op_fieldAddr_ptr (o := 0) (c' := (List.drop 0 (c_api_TypeNode (gi a1 0)))) (by kernel_rfl) rfl rfl ?_)
    refine G_q rfl (op_load1p (a := .exact (.int .i64 ((gi a1 0).1))) (by kernel_rfl) rfl rfl ?_)
    refine G_q rfl (op_eql rfl rfl ?_)
    refine G_nil ?_
    refine kC_normal ?_
    refine k_cond_d (p := ((gi a1 0).1) = 1) rfl (fun hc => ?_) (fun hc => ?_)
    · replace h := ite_t h hc
      refine k_seq ?_
      refine k_plan [] [(0, 0), (0, 1), (0, 2), (0, 4), (0, 5), (0, 6), (0, 7), (1, 3), (1, 8), (0, 9), (0, 10), (0, 11), (0, 12), (0, 13)] hmixP (by kernel_rfl) ?_
      refine P_q no34_0 rfl (op_move (av := pA w0 0) rfl ?_)
      refine P_q no34_0 rfl (op_nilCheck rfl ?_)
      refine P_q no34_0 rfl (op_fieldAddr (o := 1) (by kernel_rfl) rfl ?_)
      refine P_q no34_0 rfl (op_move (av := .row 3 c_api_TypeNode a1) rfl ?_)
      obtain ⟨n5, h⟩ := need_some h
      refine P_q no34_0 rfl (op_index_row (by kernel_rfl) rfl rfl n5.1 n5.2 ?_)
      refine P_q no34_0 rfl (op_fieldAddr_ptr (o := 1) (c' := (List.drop 1 (c_api_TypeNode (gi a1 0)))) (by kernel_rfl) rfl rfl ?_)
      refine P_q no34_0 rfl (op_load1p (a := .exact (.int .i64 ((gi a1 0).2.1))) (by kernel_rfl) rfl rfl ?_)
      refine P_r rfl (op_load_box1 (a := .exact w0z1) (by kernel_rfl) rfl rfl ?_)
      refine P_r rfl (op_mlook2V (z := (0 : Int)) (List.Mem.tail _ (List.Mem.tail _ (List.Mem.head _))) (keyOk_int Tryd.underlying3) (fun _ _ _ => trivial) Tryd.underlying78 (fun _ w => ⟨_, Tryd.zeroValue3 w, zp_exact⟩) rfl (keyAV_int rfl) ?_)
      refine P_q no34_0 rfl (op_move (av := .tup [.exact (.int .i64 (Option.getD (lookL a0.2 ((gi a1 0).2.1)) 0)), .exact (.bool (Option.isSome (lookL a0.2 ((gi a1 0).2.1))))]) rfl ?_)
      refine P_q no34_0 rfl (op_extract (av := .exact (.int .i64 (Option.getD (lookL a0.2 ((gi a1 0).2.1)) 0))) rfl rfl ?_)
      refine P_q no34_0 rfl (op_extract (av := .exact (.bool (Option.isSome (lookL a0.2 ((gi a1 0).2.1))))) rfl rfl ?_)
      refine P_q no34_0 rfl (op_assign (av := .exact (.int .i64 (Option.getD (lookL a0.2 ((gi a1 0).2.1)) 0))) rfl ?_)
      refine P_q no34_0 rfl (op_assign (av := .exact (.bool (Option.isSome (lookL a0.2 ((gi a1 0).2.1))))) rfl ?_)
      refine P_nil ?_
      refine kC_normal ?_
      refine k_seq ?_
      refine k_reg .free hmixP (by kernel_rfl) ?_
      refine G_q rfl (op_move (av := .exact (.bool (Option.isSome (lookL a0.2 ((gi a1 0).2.1))))) rfl ?_)
      refine G_nil ?_
      refine kC_normal ?_
      refine k_cond_b (c := (Option.isSome (lookL a0.2 ((gi a1 0).2.1)))) rfl (fun hc => ?_) (fun hc => ?_)
      · replace h := ite_t h hc
        refine k_seq ?_
        refine k_reg .free hmixP (by kernel_rfl) ?_
        refine G_q rfl (op_move (av := .exact (.int .i64 (Option.getD (lookL a0.2 ((gi a1 0).2.1)) 0))) rfl ?_)
        refine G_q rfl (op_assign (av := .exact (.int .i64 (Option.getD (lookL a0.2 ((gi a1 0).2.1)) 0))) rfl ?_)
        refine G_nil ?_
        refine kC_normal ?_
        refine k_ret ?_
        refine kI_ret ?_
        obtain rfl := Option.some.inj h
        refine kP_any (endN (af' := (AF.put AF0 (some 4) (.exact (.int .i64 (Option.getD (lookL a0.2 ((gi a1 0).2.1)) 0))))) (σ' := [boxI 80 w0 [.exact w0v0, .exact w0z1], vecT Tryd.prog 77 5 c_cspcheckref6_shared w0v0 a0.1, mapV (fun _ => True) (fun k : Int => .int .i64 k) (fun x : Int => .exact (.int .i64 x)) w0z1 a0.2]) _ rfl ?_ ⟨w0v0, w0z1, rfl, rfl⟩)
        exact Sub.of_le (AF.le_put (AV.le_eq rfl) (AF.le_top _))
      · replace h := ite_f h hc
        refine k_skip ?_
        refine kI_normal ⟨h, ?_⟩
        refine Sub.trans (SubU.to SubU.f2) ?_
        refine Sub.trans (SubU.to SubU.f2) ?_
        exact Sub.of_le (AF.le_put (AV.le_eq rfl) (AF.le_put (AV.le_eq rfl) (AF.le_top _)))
    · replace h := ite_f h hc
      refine k_skip ?_
      refine kI_normal ⟨h, ?_⟩
      refine Sub.trans (SubU.to SubU.f2) ?_
      refine Sub.trans (SubU.to SubU.f2) ?_
      exact Sub.of_le (AF.le_put (AV.le_eq rfl) (AF.le_put (AV.le_eq rfl) (AF.le_top _)))
  · refine k_seq ?_
    refine k_reg .free hmixP (by kernel_rfl) ?_
    refine G_q rfl (op_assign (av := .exact (.slice none 0 0)) rfl ?_)
    refine G_nil ?_
    refine kC_normal ?_
    refine k_seq ?_
    refine k_reg .free hmixP (by kernel_rfl) ?_
    refine G_q rfl (op_move (av := .row 3 c_api_TypeNode a1) rfl ?_)
    obtain ⟨y6, hy6, h⟩ := bnd1_some h
    refine G_q rfl (op_pure (m_ref6_parts_ok _ _ hy6) Tryd.func87 (by kernel_rfl) (LEs.cons (AV.le_eq rfl) LEs.nil) ?_)
    refine G_q rfl (op_assign (av := .row 1 c_L_api_TypeNode y6) rfl ?_)
    refine G_nil ?_
    refine kC_normal ?_
    refine k_join3_3 h (fun (x0_0_j7 : List ((Int × Int × Int) × (List Int) × Int)) (x0_1_j7 : List (Int × Int)) (x7_j7 : List Int) (v0_0_j7 : Value) (b0_1_j7 : Value) (v7_j7 : Value) => (AF.put (AF.put (AF.put AF0 (some 0) (pA w0 0)) (some 1) (.row 3 c_api_TypeNode a1)) (some 7) (.exact v7_j7))) (fun (x0_0_j7 : List ((Int × Int × Int) × (List Int) × Int)) (x0_1_j7 : List (Int × Int)) (x7_j7 : List Int) (v0_0_j7 : Value) (b0_1_j7 : Value) (v7_j7 : Value) => [vecT Tryd.prog 77 5 c_cspcheckref6_shared v0_0_j7 x0_0_j7, mapV (fun _ => True) (fun k : Int => .int .i64 k) (fun x : Int => .exact (.int .i64 x)) b0_1_j7 x0_1_j7, boxI 80 w0 [.exact v0_0_j7, .exact b0_1_j7], vecT Tryd.prog 23 1 c_int v7_j7 x7_j7]) (fun k7 h => ?_) (fun x0_0_j7 x0_1_j7 x7_j7 v0_0_j7 b0_1_j7 v7_j7 h => ?_)
    · refine k_seq ?_
      refine k_reg .free hmixP (by kernel_rfl) ?_
      refine G_q rfl (op_assign (av := .exact (.int .i64 0)) rfl ?_)
      refine G_nil ?_
      refine kC_normal ?_
      refine k_block ?_
      refine k_loop4_3 (m_ref6_solver_add_L2 self_ref6_solver_add y6 k7) (m_ref6_solver_add_B2 self_ref6_solver_add y6 k7) (fun _ _ _ _ => rfl) (fun m _ _ _ _ => rfl) h (fun (x0_0_l2 : List ((Int × Int × Int) × (List Int) × Int)) (x0_1_l2 : List (Int × Int)) (x7_l2 : List Int) (x9_l2 : Int) (v0_0_l2 : Value) (b0_1_l2 : Value) (v7_l2 : Value) => (AF.put (AF.put (AF.put (AF.put (AF.put AF0 (some 0) (pA w0 0)) (some 1) (.row 3 c_api_TypeNode a1)) (some 7) (.exact v7_l2)) (some 8) (.row 1 c_L_api_TypeNode y6)) (some 9) (.exact (.int .i64 x9_l2)))) (fun (x0_0_l2 : List ((Int × Int × Int) × (List Int) × Int)) (x0_1_l2 : List (Int × Int)) (x7_l2 : List Int) (x9_l2 : Int) (v0_0_l2 : Value) (b0_1_l2 : Value) (v7_l2 : Value) => [vecT Tryd.prog 77 5 c_cspcheckref6_shared v0_0_l2 x0_0_l2, mapV (fun _ => True) (fun k : Int => .int .i64 k) (fun x : Int => .exact (.int .i64 x)) b0_1_l2 x0_1_l2, boxI 80 w0 [.exact v0_0_l2, .exact b0_1_l2], vecT Tryd.prog 23 1 c_int v7_l2 x7_l2]) w0v0 w0z1 (.slice none 0 0) ?_ (fun rec2 x0_0_l2 x0_1_l2 x7_l2 x9_l2 v0_0_l2 b0_1_l2 v7_l2 h => ?_)
      · refine Sub.trans (SubU.to (SubU.nilT (P := Tryd.prog) (t := 23) (n := 1) (enc := c_int))) ?_
        refine Sub.trans (SubU.to SubU.f3) ?_
        refine Sub.trans (SubU.to SubU.f3) ?_
        refine Sub.trans (SubU.to SubU.f3) ?_
        exact Sub.of_le (AF.le_put (AV.le_eq rfl) (AF.le_put (AV.le_eq rfl) (AF.le_put (AV.le_eq rfl) (AF.le_put (AV.le_eq rfl) (AF.le_put (AV.le_eq rfl) (AF.le_top _))))))
      · unfold m_ref6_solver_add_B2 at h
        refine k_seq ?_
        refine k_seq ?_
        refine k_reg .free hmixP (by kernel_rfl) ?_
        refine G_q rfl (op_move (av := .exact (.int .i64 x9_l2)) rfl ?_)
        refine G_q rfl (op_move (av := .row 1 c_L_api_TypeNode y6) rfl ?_)
        refine G_q rfl (op_len_row (by kernel_rfl) rfl ?_)
        refine G_q rfl (op_lss rfl rfl ?_)
        refine G_nil ?_
        refine kC_normal ?_
        refine k_cond_d (p := x9_l2 < (List.length y6 : Int)) rfl (fun hc => ?_) (fun hc => ?_)
        · replace h := ite_t h hc
          refine k_skip ?_
          refine kC_normal ?_
          refine k_seq ?_
          refine k_block ?_
          refine k_reg .free hmixP (by kernel_rfl) ?_
          refine G_q rfl (op_move (av := .exact v7_l2) rfl ?_)
          refine G_q rfl (op_move (av := pA w0 0) rfl ?_)
          refine G_q rfl (op_move (av := .row 1 c_L_api_TypeNode y6) rfl ?_)
          refine G_q rfl (op_move (av := .exact (.int .i64 x9_l2)) rfl ?_)
          obtain ⟨n34, h⟩ := need_some h
          refine G_q rfl (op_index_row (by kernel_rfl) rfl rfl n34.1 n34.2 ?_)
          refine G_q rfl (op_load1p (a := .row 3 c_api_TypeNode (gi y6 x9_l2)) (by kernel_rfl) rfl rfl ?_)
          obtain ⟨y35, hy35, h⟩ := bnd1_some h
          refine G_l rfl (opB_f1 (opB_f1 (opB_f2 (op_fun_3_2_3 (hself_ref6_solver_add _ _ _ hy35) Tryd.func79 (by kernel_rfl) (LEs.cons (AV.le_eq rfl) (LEs.cons (AV.le_eq rfl) LEs.nil)) (fun q36v0 q36z1 => ?_)))))
          refine G_q rfl (op_litT (n := 1) (enc := c_int) [y35.1] (CellsAll.cons rfl CellsOf.int CellsAll.nil) rfl (by kernel_rfl) (LEss.cons (LEs.cons (AV.le_eq rfl) LEs.nil) LEss.nil) ?_)
          obtain ⟨n37, h⟩ := need_some h
          refine G_l rfl (opB_f3 (op_appT (by kernel_rfl) rfl rfl oc_c_int n37 (fun v38 => ?_)))
          refine G_q rfl (op_assign (av := .exact v38) rfl ?_)
          refine G_nil ?_
          refine kB_normal ?_
          refine kC_normal ?_
          refine k_reg .free hmixP (by kernel_rfl) ?_
          refine G_q rfl (op_move (av := .exact (.int .i64 x9_l2)) rfl ?_)
          refine G_q rfl (op_add rfl rfl rfl ?_)
          refine G_q rfl (op_assign (av := .exact (.int .i64 (i64 (x9_l2 + 1)))) rfl ?_)
          refine G_nil ?_
          refine kI_normal ⟨_, _, _, _, q36v0, q36z1, v38, h, ?_⟩
          refine Sub.trans (SubU.to SubU.f1) ?_
          refine Sub.trans (SubU.to SubU.f3) ?_
          refine Sub.trans (SubU.to SubU.f3) ?_
          exact Sub.of_le (AF.le_put (AV.le_eq rfl) (AF.le_put (AV.le_eq rfl) (AF.le_put (AV.le_eq rfl) (AF.le_put (AV.le_eq rfl) (AF.le_put (AV.le_eq rfl) (AF.le_top _))))))
        · replace h := ite_f h hc
          refine k_exit ?_
          refine kC_exit ?_
          refine kI_exit ?_
          refine kB_exit ?_
          refine kI_normal ⟨_, _, _, v0_0_l2, b0_1_l2, v7_l2, h, ?_⟩
          exact Sub.of_le (AF.le_put (AV.le_eq rfl) (AF.le_put (AV.le_eq rfl) (AF.le_put (AV.le_eq rfl) (AF.le_top _))))
    · refine k_seq ?_
      refine awp_sub (SubU.to (SubU.trans SubU.f3 (SubU.freezeT (s := 7) rfl len_c_int))) ?_
      refine k_plan [] [(0, 0), (0, 1), (0, 2), (0, 3), (0, 5), (0, 6), (0, 7), (0, 8), (0, 9), (0, 10), (1, 4), (2, 11), (0, 12), (0, 13), (2, 14)] hmixP (by kernel_rfl) ?_
      refine P_q no34_0 rfl (op_move (av := pA w0 0) rfl ?_)
      refine P_q no34_0 rfl (op_move (av := pA w0 0) rfl ?_)
      refine P_q no34_0 rfl (op_nilCheck rfl ?_)
      refine P_q no34_0 rfl (op_fieldAddr (o := 0) (by kernel_rfl) rfl ?_)
      refine P_q no34_0 rfl (op_move (av := .row 3 c_api_TypeNode a1) rfl ?_)
      obtain ⟨n40, h⟩ := need_some h
      refine P_q no34_0 rfl (op_index_row (by kernel_rfl) rfl rfl n40.1 n40.2 ?_)
      refine P_q no34_0 rfl (op_loadNp (m := 3) (c' := c_api_TypeNode (gi a1 0)) (by kernel_rfl) rfl rfl rfl ?_)
      refine P_q no34_0 rfl (op_move (av := .row 1 c_int x7_j7) rfl ?_)
      refine P_q no34_0 rfl (op_bld (c' := c_cspcheckref6_shared (gi a1 0, x7_j7, (-1))) (CellsAll.cons rfl CellsOf.agg (CellsAll.cons rfl CellsOf.row (CellsAll.cons rfl CellsOf.int CellsAll.nil))) rfl (LEs.cons (AV.le_eq rfl) (LEs.cons (AV.le_eq rfl) (LEs.cons (AV.le_eq rfl) (LEs.cons (AV.le_eq rfl) (LEs.cons (AV.le_eq rfl) LEs.nil))))) ?_)
      refine P_q no34_0 rfl (op_litT (n := 5) (enc := c_cspcheckref6_shared) [(gi a1 0, x7_j7, (-1))] (CellsAll.cons rfl CellsOf.agg CellsAll.nil) rfl (by kernel_rfl) (LEss.cons (LEs.cons (AV.le_eq rfl) (LEs.cons (AV.le_eq rfl) (LEs.cons (AV.le_eq rfl) (LEs.cons (AV.le_eq rfl) (LEs.cons (AV.le_eq rfl) LEs.nil))))) LEss.nil) ?_)
      refine P_r rfl (opR_f2 (op_load_box1 (a := .exact v0_0_j7) (by kernel_rfl) rfl rfl ?_))
      obtain ⟨n41, h⟩ := need_some h
      refine P_l rfl (op_appT (by kernel_rfl) rfl rfl oc_c_cspcheckref6_shared n41 (fun v42 => ?_))
      refine P_q no34_0 rfl (op_nilCheck rfl ?_)
      refine P_q no34_0 rfl (op_fieldAddr (o := 0) (by kernel_rfl) rfl ?_)
      refine P_l rfl (opB_sl (List.Mem.head _) (fun hsl => (opB_f2 (op_store_box (c' := [.exact v42]) (c3 := [.exact v42, .exact b0_1_j7]) rfl rfl (CellsOf.sl hsl) (LEs.cons (AV.le_eq rfl) LEs.nil) (OneC.sl hsl OneC.nil) (by kernel_rfl) (Nat.le_of_ble_eq_true rfl) rfl ?_))))
      refine P_nil ?_
      refine kC_normal ?_
      refine k_join1_1 h (fun (x0_1_j43 : List (Int × Int)) (b0_1_j43 : Value) => (AF.put AF0 (some 0) (pA w0 0))) (fun (x0_1_j43 : List (Int × Int)) (b0_1_j43 : Value) => [vecT Tryd.prog 77 5 c_cspcheckref6_shared v42 (x0_0_j7 ++ [(gi a1 0, x7_j7, (-1))]), mapV (fun _ => True) (fun k : Int => .int .i64 k) (fun x : Int => .exact (.int .i64 x)) b0_1_j43 x0_1_j43, boxI 80 w0 [.exact v42, .exact b0_1_j43]]) (fun k43 h => ?_) (fun x0_1_j43 b0_1_j43 h => ?_)
      · refine k_seq ?_
        refine k_reg .free hmixP (by kernel_rfl) ?_
        refine G_q rfl (op_move (av := .row 3 c_api_TypeNode a1) rfl ?_)
        obtain ⟨n51, h⟩ := need_some h
        refine G_q rfl (op_index_row (by kernel_rfl) rfl rfl n51.1 n51.2 ?_)
        refine G_q rfl (op_fieldAddr_ptr (o := 0) (c' := (List.drop 0 (c_api_TypeNode (gi a1 0)))) (by kernel_rfl) rfl rfl ?_)
        refine G_q rfl (op_load1p (a := .exact (.int .i64 ((gi a1 0).1))) (by kernel_rfl) rfl rfl ?_)
        refine G_q rfl (op_eql rfl rfl ?_)
        refine G_nil ?_
        refine kC_normal ?_
        refine k_cond_d (p := ((gi a1 0).1) = 1) rfl (fun hc => ?_) (fun hc => ?_)
        · replace h := ite_t h hc
          refine k_join1_1 h (fun (x0_1_j52 : List (Int × Int)) (b0_1_j52 : Nat) => (AF.put (AF.put AF0 (some 0) (pA w0 0)) (some 1) (.row 3 c_api_TypeNode a1))) (fun (x0_1_j52 : List (Int × Int)) (b0_1_j52 : Nat) => [vecT Tryd.prog 77 5 c_cspcheckref6_shared v42 (x0_0_j7 ++ [(gi a1 0, x7_j7, (-1))]), mapI (fun _ => True) (fun k : Int => .int .i64 k) (fun x : Int => .exact (.int .i64 x)) b0_1_j52 x0_1_j52, boxI 80 w0 [.exact v42, .exact (.map (some b0_1_j52))]]) (fun k52 h => ?_) (fun x0_1_j52 b0_1_j52 h => ?_)
          · refine k_seq ?_
            refine k_reg .free hmixP (by kernel_rfl) ?_
            refine G_q rfl (op_move (av := pA w0 0) rfl ?_)
            refine G_q rfl (op_nilCheck rfl ?_)
            refine G_q rfl (op_fieldAddr (o := 1) (by kernel_rfl) rfl ?_)
            refine G_r rfl (op_load_box1 (a := .exact b0_1_j7) (by kernel_rfl) rfl rfl ?_)
            refine G_r rfl (op_mapnil (List.Mem.tail _ (List.Mem.tail _ (List.Mem.head _))) Tryd.underlying78 (by kernel_rfl) rfl rfl ?_)
            refine G_nil ?_
            refine kC_normal ?_
            obtain ⟨h1, h⟩ := nilc_some h
            refine awp_sub (SubU.to SubU.f2) ?_
            refine k_cond_mnil rfl (fun hz hl => ?_) (fun b55 hz => ?_)
            · replace h := h1 hl
              subst hz
              refine awp_sub (SubU.to SubU.drop) ?_
              refine k_reg .free hmixP (by kernel_rfl) ?_
              refine G_q rfl (op_move (av := pA w0 0) rfl ?_)
              refine G_l rfl (op_mnew (V := (fun _ => True)) (kv := (fun k : Int => .int .i64 k)) (vv := (fun x : Int => .exact (.int .i64 x))) (fun b56 => ?_))
              refine G_q rfl (op_nilCheck rfl ?_)
              refine G_q rfl (op_fieldAddr (o := 1) (by kernel_rfl) rfl ?_)
              refine G_l rfl (opB_f1 (op_store_box (c' := [.exact (.map (some b56))]) (c3 := [.exact v42, .exact (.map (some b56))]) rfl rfl CellsOf.mapz (LEs.cons (AV.le_eq rfl) LEs.nil) (OneC.mapz OneC.nil) (by kernel_rfl) (Nat.le_of_ble_eq_true rfl) rfl ?_))
              refine G_nil ?_
              refine kI_normal ⟨_, b56, h, ?_⟩
              refine Sub.trans (SubU.to SubU.f1) ?_
              refine Sub.trans (SubU.to SubU.f2) ?_
              exact Sub.of_le (AF.le_put (AV.le_eq rfl) (AF.le_put (AV.le_eq rfl) (AF.le_top _)))
            · subst hz
              refine awp_sub (SubU.to SubU.ofMapV) ?_
              refine k_skip ?_
              refine kI_normal ⟨_, b55, h, ?_⟩
              refine Sub.trans (SubU.to SubU.f1) ?_
              refine Sub.trans (SubU.to SubU.f1) ?_
              refine Sub.trans (SubU.to SubU.f2) ?_
              exact Sub.of_le (AF.le_put (AV.le_eq rfl) (AF.le_put (AV.le_eq rfl) (AF.le_top _)))
          · refine k_plan [] [(0, 0), (0, 1), (0, 2), (0, 4), (0, 5), (0, 6), (0, 7), (0, 8), (0, 9), (0, 10), (1, 3), (1, 11), (1, 12), (0, 13), (2, 14)] hmixP (by kernel_rfl) ?_
            refine P_q no34_0 rfl (op_move (av := pA w0 0) rfl ?_)
            refine P_q no34_0 rfl (op_nilCheck rfl ?_)
            refine P_q no34_0 rfl (op_fieldAddr (o := 1) (by kernel_rfl) rfl ?_)
            refine P_q no34_0 rfl (op_move (av := .row 3 c_api_TypeNode a1) rfl ?_)
            obtain ⟨n57, h⟩ := need_some h
            refine P_q no34_0 rfl (op_index_row (by kernel_rfl) rfl rfl n57.1 n57.2 ?_)
            refine P_q no34_0 rfl (op_fieldAddr_ptr (o := 1) (c' := (List.drop 1 (c_api_TypeNode (gi a1 0)))) (by kernel_rfl) rfl rfl ?_)
            refine P_q no34_0 rfl (op_load1p (a := .exact (.int .i64 ((gi a1 0).2.1))) (by kernel_rfl) rfl rfl ?_)
            refine P_q no34_0 rfl (op_move (av := pA w0 0) rfl ?_)
            refine P_q no34_0 rfl (op_nilCheck rfl ?_)
            refine P_q no34_0 rfl (op_fieldAddr (o := 0) (by kernel_rfl) rfl ?_)
            refine P_r rfl (opR_f2 (op_load_box1 (a := .exact (.map (some b0_1_j52))) (by kernel_rfl) rfl rfl ?_))
            refine P_r rfl (opR_f2 (op_load_box1 (a := .exact v42) (by kernel_rfl) rfl rfl ?_))
            refine P_r rfl (op_len_vec (by kernel_rfl) rfl ?_)
            refine P_q no34_0 rfl (op_sub rfl rfl rfl ?_)
            refine P_l rfl (opB_f1 (op_mput (z := i64 ((List.length (x0_0_j7 ++ [(gi a1 0, x7_j7, (-1))]) : Int) - 1)) (keyOk_int Tryd.underlying3) (fun _ _ _ => trivial) Tryd.underlying78 rfl (keyAV_int rfl) (AV.le_eq rfl) ?_))
            refine P_nil ?_
            refine kI_normal ⟨_, (.map (some b0_1_j52)), h, ?_⟩
            refine Sub.trans (SubU.to SubU.toMapV) ?_
            refine Sub.trans (SubU.to SubU.f2) ?_
            refine Sub.trans (SubU.to SubU.f1) ?_
            refine Sub.trans (SubU.to SubU.f2) ?_
            exact Sub.of_le (AF.le_put (AV.le_eq rfl) (AF.le_top _))
        · replace h := ite_f h hc
          refine k_skip ?_
          refine kI_normal ⟨_, b0_1_j7, h, ?_⟩
          refine Sub.trans (SubU.to SubU.f2) ?_
          refine Sub.trans (SubU.to SubU.f2) ?_
          exact Sub.of_le (AF.le_put (AV.le_eq rfl) (AF.le_top _))
      · refine k_seq ?_
        refine k_reg .free hmixP (by kernel_rfl) ?_
        refine G_q rfl (op_move (av := pA w0 0) rfl ?_)
        refine G_q rfl (op_nilCheck rfl ?_)
        refine G_q rfl (op_fieldAddr (o := 0) (by kernel_rfl) rfl ?_)
        refine G_r rfl (opR_f2 (op_load_box1 (a := .exact v42) (by kernel_rfl) rfl rfl ?_))
        refine G_r rfl (op_len_vec (by kernel_rfl) rfl ?_)
        refine G_q rfl (op_sub rfl rfl rfl ?_)
        refine G_q rfl (op_assign (av := .exact (.int .i64 (i64 ((List.length (x0_0_j7 ++ [(gi a1 0, x7_j7, (-1))]) : Int) - 1)))) rfl ?_)
        refine G_nil ?_
        refine kC_normal ?_
        refine k_ret ?_
        obtain rfl := Option.some.inj h
        refine kP_any (endN (af' := (AF.put AF0 (some 4) (.exact (.int .i64 (i64 ((List.length (x0_0_j7 ++ [(gi a1 0, x7_j7, (-1))]) : Int) - 1)))))) (σ' := [boxI 80 w0 [.exact v42, .exact b0_1_j43], vecT Tryd.prog 77 5 c_cspcheckref6_shared v42 (x0_0_j7 ++ [(gi a1 0, x7_j7, (-1))]), mapV (fun _ => True) (fun k : Int => .int .i64 k) (fun x : Int => .exact (.int .i64 x)) b0_1_j43 x0_1_j43]) _ rfl ?_ ⟨v42, b0_1_j43, rfl, rfl⟩)
        refine Sub.trans (SubU.to SubU.f1) ?_
        refine Sub.trans (SubU.to SubU.f1) ?_
        refine Sub.trans (SubU.to SubU.f2) ?_
        exact Sub.of_le (AF.le_put (AV.le_eq rfl) (AF.le_top _))
end Go.Proofs.YtdfdjgolijckfaaDoor
