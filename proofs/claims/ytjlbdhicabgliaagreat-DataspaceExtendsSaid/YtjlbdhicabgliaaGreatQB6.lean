/- The functions compute their models, by program. -/
import Derived.Test.YtjlbdhicabgliaaGreatQB5
namespace Go.Proofs.YtjlbdhicabgliaaGreat
open Go.RowKit
attribute [local irreducible] AV.exact AV.top AV.row AV.ptr AV.agg AV.tup AV.eptr AV.fn AV.nilq AV.nilqn opA opB opM opR Quiet Loud Reads wpG awp den Sub SubU Pure Fun vecI vecT boxI CellsAll CellsOf OneC LEs LEss
set_option maxRecDepth 100000

set_option maxHeartbeats 4000000 in
theorem m_dataspace_split_ok (a0 : List UInt8) (r : Int × (List (List UInt8)) × Bool) (h : m_dataspace_split a0 = some r) : Pure Tryz.prog 36 [(.exact (.string (bs a0)))] (.tup [.exact (.int .i64 r.1), .row 1 zab r.2.1, .exact (.bool r.2.2)]) := by
 unfold m_dataspace_split at h
 refine Pure.ofFun (fun_of_awp Tryz.func36 rfl Tryz.ntmps36 (by simp) rfl (res3 rfl) fun E hE => k_end ?_)
 refine zac (kr ?_)
 refine qa (.xi 0) rfl ?_
 refine qa (.exact (.slice none 0 0)) rfl ?_
 refine qa (.xb false) rfl ?_
 refine G_nil (zaa (zac (zac (kr ?_))))
 refine qm (.xs a0) rfl ?_
 obtain ⟨y1, hy1, h⟩ := bnd1_some h
 refine G_q rfl (zaf (m_value_Kind_ok _ _ hy1) Tryz.func31 (by kernel_rfl) (LEs.cons (AV.le_eq rfl) LEs.nil) ?_)
 refine G_q rfl (op_neq rfl rfl ?_)
 refine G_nil (zaa ?_)
 refine kd (p := ¬ y1 = 7) rfl h (fun hc h => ?_) (fun hc h => ?_)
 ·refine zac (kr ?_)
  refine qa (.xi 0) rfl ?_
  refine qa (.exact (.slice none 0 0)) rfl ?_
  refine qa (.xb false) rfl ?_
  refine G_nil (zaa (k_ret (kC_ret ?_)))
  obtain rfl := Option.some.inj h
  refine ke (pt (pt (pt AF0 2 (.xi 0)) 3 (.row 1 zab [])) 4 (.xb false)) [] rfl ?_ ⟨rfl, rfl⟩
  exact so (lq rfl (AF.le_put (row_nil (by decide)) (lq rfl lt0)))
 ·refine k_skip (zaa (zac (kr ?_)))
  refine qm (.xs a0) rfl ?_
  obtain ⟨y2, hy2, h⟩ := bnd1_some h
  refine G_q rfl (zaf (m_value_Parts_ok _ _ hy2) Tryz.func39 (by kernel_rfl) (LEs.cons (AV.le_eq rfl) LEs.nil) ?_)
  refine qa (.row 1 zab y2) rfl ?_
  refine G_nil (zaa (zac ?_))
  refine k_plan [] [(0, 0), (0, 1), (0, 2), (0, 3), (0, 4), (0, 5), (0, 6), (0, 7), (0, 8)] hmixP (by kernel_rfl) ?_
  refine P_q no34_0 rfl (zag (av := .row 1 zab y2) rfl ?_)
  obtain ⟨n3, h⟩ := need_some h
  refine P_q no34_0 rfl (zaj (by kernel_rfl) rfl rfl n3.1 n3.2 ?_)
  refine P_q no34_0 rfl (op_load1p (a := .xs (gi y2 0)) (by kernel_rfl) rfl rfl ?_)
  obtain ⟨y4, hy4, h⟩ := bnd1_some h
  refine P_q no34_0 rfl (zaf (m_value_Number_ok _ _ hy4) Tryz.func79 (by kernel_rfl) (LEs.cons (AV.le_eq rfl) LEs.nil) ?_)
  refine P_q no34_0 rfl (zag (av := .row 1 zab y2) rfl ?_)
  obtain ⟨n5, h⟩ := need_some h
  refine P_q no34_0 rfl (op_slice_rowd (by kernel_rfl) rfl (bnd_some rfl) bnd_none (by decide) n5 (Int.le_refl _) ?_)
  refine P_q no34_0 rfl (op_assign (av := .xi y4) rfl ?_)
  refine P_q no34_0 rfl (op_assign (av := .row 1 zab (List.drop (Int.toNat 1) y2)) rfl ?_)
  refine P_q no34_0 rfl (op_assign (av := .xb true) rfl ?_)
  refine P_nil (zaa (k_ret ?_))
  obtain rfl := Option.some.inj h
  refine ke (pt (pt (pt AF0 2 (.xi y4)) 3 (.row 1 zab (List.drop (Int.toNat 1) y2))) 4 (.xb true)) [] rfl ?_ ⟨rfl, rfl⟩
  exact so (lq rfl (lq rfl (lq rfl lt0)))
set_option maxHeartbeats 4000000 in
theorem m_slices_Index_L_api_Value_api_Value_ok (a0 : List (List UInt8)) (a1 : List UInt8) (r : Int) (h : m_slices_Index_L_api_Value_api_Value a0 a1 = some r) : Pure Tryz.prog 81 [(.row 1 zab a0), (.exact (.string (bs a1)))] (.exact (.int .i64 r)) := by
 unfold m_slices_Index_L_api_Value_api_Value at h
 refine Pure.ofFun (fun_of_awp Tryz.func81 rfl Tryz.ntmps81 (by simp) rfl (res1 rfl) fun E hE => k_end ?_)
 refine zac (kr ?_)
 refine qa (.xi 0) rfl ?_
 refine G_nil (zaa ?_)
 refine k_join0_0 h (AF0) ([]) (fun k1 h => ?_) (fun  h => ?_)
 ·refine zac (kr ?_)
  refine qm (.row 1 zab a0) rfl ?_
  refine G_q rfl (zai (by kernel_rfl) rfl ?_)
  refine qm (.xi 0) rfl ?_
  refine G_nil (zaa (k_block ?_))
  refine k_loop1_0 (m_slices_Index_L_api_Value_api_Value_L2 a0 a1 k1) (m_slices_Index_L_api_Value_api_Value_B2 a0 a1 k1) (fun _ => rfl) (fun m _ => rfl) h (fun (x8_l2 : Int) => (pt (pt (pt (pt AF0 0 (.row 1 zab a0)) 1 (.xs a1)) 7 (.xi (List.length a0 : Int))) 8 (.xi x8_l2))) (fun (x8_l2 : Int) => []) ?_ (fun rec2 x8_l2 h => ?_)
  ·exact so (l4 rfl rfl rfl rfl lt0)
  ·unfold m_slices_Index_L_api_Value_api_Value_B2 at h
   refine zac (kr ?_)
   refine G_q rfl (op_lss rfl rfl ?_)
   refine G_nil (zaa (zac ?_))
   refine kd (p := x8_l2 < (List.length a0 : Int)) rfl h (fun hc h => ?_) (fun hc h => ?_)
   ·refine k_skip (zaa (zac (k_block (zac (kr ?_)))))
    refine qm (.xi x8_l2) rfl ?_
    refine qa (.xi x8_l2) rfl ?_
    refine G_nil (zaa (zac (kr ?_)))
    refine qm (.xs a1) rfl ?_
    refine qm (.row 1 zab a0) rfl ?_
    refine qm (.xi x8_l2) rfl ?_
    obtain ⟨n8, h⟩ := need_some h
    refine G_q rfl (zaj (by kernel_rfl) rfl rfl n8.1 n8.2 ?_)
    refine G_q rfl (op_load1p (a := .xs (gi a0 x8_l2)) (by kernel_rfl) rfl rfl ?_)
    refine G_q rfl (op_eqlS rfl rfl ?_)
    refine G_nil (zaa ?_)
    refine kd (p := a1 = (gi a0 x8_l2)) rfl h (fun hc h => ?_) (fun hc h => ?_)
    ·refine zac (kr ?_)
     refine qm (.xi x8_l2) rfl ?_
     refine qa (.xi x8_l2) rfl ?_
     refine G_nil (zaa (k_ret (kB_ret (kC_ret (kI_ret (kB_ret (kI_ret ?_)))))))
     obtain rfl := Option.some.inj h
     refine ke (pt AF0 4 (.xi x8_l2)) [] rfl ?_ ⟨rfl, rfl⟩
     exact so (lq rfl lt0)
    ·refine k_skip (kB_normal (zaa (kr ?_)))
     refine G_q rfl (op_add rfl rfl rfl ?_)
     refine qm (.xi (i64 (x8_l2 + 1))) rfl ?_
     refine G_nil ?_
     refine zad ⟨_, h, ?_⟩
     exact so (l4 rfl rfl rfl rfl lt0)
   ·refine k_exit (kC_exit (kI_exit (kB_exit ?_)))
    refine zad ⟨h, ?_⟩
    exact Sub.of_le lt0
 ·refine zac (kr ?_)
  refine qa (.xi (-1)) rfl ?_
  refine G_nil (zaa (k_ret ?_))
  obtain rfl := Option.some.inj h
  refine ke (pt AF0 4 (.xi (-1))) [] rfl ?_ ⟨rfl, rfl⟩
  exact so (lq rfl lt0)
set_option maxHeartbeats 4000000 in
theorem m_slices_Contains_L_api_Value_api_Value_ok (a0 : List (List UInt8)) (a1 : List UInt8) (r : Bool) (h : m_slices_Contains_L_api_Value_api_Value a0 a1 = some r) : Pure Tryz.prog 38 [(.row 1 zab a0), (.exact (.string (bs a1)))] (.exact (.bool r)) := by
 unfold m_slices_Contains_L_api_Value_api_Value at h
 refine Pure.ofFun (fun_of_awp Tryz.func38 rfl Tryz.ntmps38 (by simp) rfl (res1 rfl) fun E hE => k_end ?_)
 refine zac (kr ?_)
 refine qa (.xb false) rfl ?_
 refine G_nil (zaa (zac (kr ?_)))
 refine qm (.row 1 zab a0) rfl ?_
 refine qm (.xs a1) rfl ?_
 obtain ⟨y1, hy1, h⟩ := bnd1_some h
 refine G_q rfl (zaf (m_slices_Index_L_api_Value_api_Value_ok _ _ _ hy1) Tryz.func81 (by kernel_rfl) (LEs.cons (AV.le_eq rfl) (LEs.cons (AV.le_eq rfl) LEs.nil)) ?_)
 refine G_q rfl (op_geq rfl rfl ?_)
 refine qa (.xb (decide (0 ≤ y1))) rfl ?_
 refine G_nil (zaa (k_ret ?_))
 obtain rfl := Option.some.inj h
 refine ke (pt AF0 4 (.xb (decide (0 ≤ y1)))) [] rfl ?_ ⟨rfl, rfl⟩
 exact so (lq rfl lt0)
set_option maxHeartbeats 4000000 in
theorem m_dataspace_belongs_ok (a0 : List ((List UInt8) × Int × (List Int) × (List (List UInt8)))) (a1 : List UInt8) (r : Bool) (h : m_dataspace_belongs a0 a1 = some r) : Pure Tryz.prog 32 [(.row 4 zae a0), (.exact (.string (bs a1)))] (.exact (.bool r)) := by
 unfold m_dataspace_belongs at h
 refine Pure.ofFun (fun_of_awp Tryz.func32 rfl Tryz.ntmps32 (by simp) rfl (res1 rfl) fun E hE => k_end ?_)
 refine zac (kr ?_)
 refine qa (.xb false) rfl ?_
 refine G_nil (zaa (zac (kr ?_)))
 refine qm (.xs a1) rfl ?_
 obtain ⟨y1, hy1, h⟩ := bnd1_some h
 refine G_q rfl (zaf (m_dataspace_split_ok _ _ hy1) Tryz.func36 (by kernel_rfl) (LEs.cons (AV.le_eq rfl) LEs.nil) ?_)
 refine qm (.tup [.xi y1.1, .row 1 zab y1.2.1, .xb y1.2.2]) rfl ?_
 refine G_q rfl (op_extract (av := .xi y1.1) rfl rfl ?_)
 refine G_q rfl (op_extract (av := .row 1 zab y1.2.1) rfl rfl ?_)
 refine G_q rfl (op_extract (av := .xb y1.2.2) rfl rfl ?_)
 refine qa (.xi y1.1) rfl ?_
 refine qa (.row 1 zab y1.2.1) rfl ?_
 refine qa (.xb y1.2.2) rfl ?_
 refine G_nil (zaa (zac ?_))
 refine k_join1_0 h (fun (x35_j6 : Bool) => (pt (pt (pt (pt AF0 0 (.row 4 zae a0)) 5 (.xi y1.1)) 6 (.row 1 zab y1.2.1)) 35 (.xb x35_j6))) (fun (x35_j6 : Bool) => []) (fun k6 h => ?_) (fun x35_j6 h => ?_)
 ·refine kr ?_
  refine qm (.xb y1.2.2) rfl ?_
  refine G_q rfl (op_not rfl ?_)
  refine qm (.xb (!y1.2.2)) rfl ?_
  refine G_splitB (c := !y1.2.2) 19 rfl (fun hc => ?_) (fun hc => ?_)
  ·replace h := ite_t h hc
   refine G_n rfl rfl (G_n rfl rfl (G_n rfl rfl (G_n rfl rfl ?_)))
   refine G_q rfl (op_pick_t rfl (av := .xb true) rfl ?_)
   refine qm (.xb true) rfl ?_
   refine G_n rfl rfl (G_n rfl rfl (G_n rfl rfl (G_n rfl rfl (G_n rfl rfl (G_n rfl rfl (G_n rfl rfl (G_n rfl rfl (G_n rfl rfl ?_))))))))
   refine G_q rfl (op_pick_t rfl (av := .xb true) rfl ?_)
   refine G_nil ?_
   refine zad ⟨_, h, ?_⟩
   exact so (l4 rfl rfl rfl rfl lt0)
  ·replace h := ite_f h hc
   refine Gy_q rfl rfl rfl (zag (av := .xi y1.1) rfl ?_)
   refine Gy_q rfl rfl rfl (zag (av := .row 4 zae a0) rfl ?_)
   refine Gy_q rfl rfl rfl (zai (by kernel_rfl) rfl ?_)
   refine Gy_q rfl rfl rfl (op_geq rfl rfl ?_)
   refine G_q rfl (zak rfl (av := .xb (decide ((List.length a0 : Int) ≤ y1.1))) rfl ?_)
   refine qm (.xb (decide ((List.length a0 : Int) ≤ y1.1))) rfl ?_
   refine G_split (p := (List.length a0 : Int) ≤ y1.1) 25 rfl (fun hc => ?_) (fun hc => ?_)
   ·replace h := ite_t h hc
    refine G_n rfl rfl (G_n rfl rfl (G_n rfl rfl (G_n rfl rfl (G_n rfl rfl (G_n rfl rfl (G_n rfl rfl (G_n rfl rfl (G_n rfl rfl ?_))))))))
    refine G_q rfl (op_pick_t rfl (av := .xb true) rfl ?_)
    refine G_nil ?_
    refine zad ⟨_, h, ?_⟩
    exact so (l4 rfl rfl rfl rfl lt0)
   ·replace h := ite_f h hc
    refine Gy_q rfl rfl rfl (zag (av := .row 1 zab y1.2.1) rfl ?_)
    refine Gy_q rfl rfl rfl (zai (by kernel_rfl) rfl ?_)
    refine Gy_q rfl rfl rfl (zag (av := .row 4 zae a0) rfl ?_)
    refine Gy_q rfl rfl rfl (zag (av := .xi y1.1) rfl ?_)
    obtain ⟨n8, h⟩ := need_some h
    refine Gy_q rfl rfl rfl (zaj (by kernel_rfl) rfl rfl n8.1 n8.2 ?_)
    refine Gy_q rfl rfl rfl (op_fieldAddr_ptr (o := 3) (c' := (List.drop 3 (zae (gi a0 y1.1)))) (by kernel_rfl) rfl rfl ?_)
    refine Gy_q rfl rfl rfl (op_load1p (a := .row 1 zab ((gi a0 y1.1).2.2.2)) (by kernel_rfl) rfl rfl ?_)
    refine Gy_q rfl rfl rfl (zai (by kernel_rfl) rfl ?_)
    refine Gy_q rfl rfl rfl (op_gtr rfl rfl ?_)
    refine G_q rfl (zak rfl (av := .xb (decide ((List.length ((gi a0 y1.1).2.2.2) : Int) < (List.length y1.2.1 : Int)))) rfl ?_)
    refine G_nil ?_
    refine zad ⟨_, h, ?_⟩
    exact so (l4 rfl rfl rfl rfl lt0)
 ·refine kb (p := x35_j6) rfl h (fun hc h => ?_) (fun hc h => ?_)
  ·refine zac (kr ?_)
   refine qa (.xb false) rfl ?_
   refine G_nil (zaa (k_ret (kC_ret ?_)))
   obtain rfl := Option.some.inj h
   refine ke (pt AF0 4 (.xb false)) [] rfl ?_ ⟨rfl, rfl⟩
   exact so (lq rfl lt0)
  ·refine k_skip (zaa ?_)
   refine k_join0_0 h (AF0) ([]) (fun k9 h => ?_) (fun  h => ?_)
   ·refine zac (kr ?_)
    refine qm (.row 1 zab y1.2.1) rfl ?_
    refine G_q rfl (zai (by kernel_rfl) rfl ?_)
    refine qm (.xi 0) rfl ?_
    refine G_nil (zaa (k_block ?_))
    refine k_loop1_0 (m_dataspace_belongs_L2 a0 y1 k9) (m_dataspace_belongs_B2 a0 y1 k9) (fun _ => rfl) (fun m _ => rfl) h (fun (x38_l2 : Int) => (pt (pt (pt (pt (pt AF0 0 (.row 4 zae a0)) 5 (.xi y1.1)) 36 (.row 1 zab y1.2.1)) 37 (.xi (List.length y1.2.1 : Int))) 38 (.xi x38_l2))) (fun (x38_l2 : Int) => []) ?_ (fun rec2 x38_l2 h => ?_)
    ·exact so (l4 rfl rfl rfl rfl (lq rfl lt0))
    ·unfold m_dataspace_belongs_B2 at h
     refine zac (kr ?_)
     refine G_q rfl (op_lss rfl rfl ?_)
     refine G_nil (zaa (zac ?_))
     refine kd (p := x38_l2 < (List.length y1.2.1 : Int)) rfl h (fun hc h => ?_) (fun hc h => ?_)
     ·refine k_skip (zaa (zac (k_block (zac (kr ?_)))))
      refine qm (.xi x38_l2) rfl ?_
      obtain ⟨n105, h⟩ := need_some h
      refine G_q rfl (zaj (by kernel_rfl) rfl rfl n105.1 n105.2 ?_)
      refine G_q rfl (op_load1p (a := .xs (gi y1.2.1 x38_l2)) (by kernel_rfl) rfl rfl ?_)
      refine qa (.xi x38_l2) rfl ?_
      refine qa (.xs (gi y1.2.1 x38_l2)) rfl ?_
      refine G_nil (zaa (zac (kr ?_)))
      refine qm (.row 4 zae a0) rfl ?_
      refine qm (.xi y1.1) rfl ?_
      obtain ⟨n106, h⟩ := need_some h
      refine G_q rfl (zaj (by kernel_rfl) rfl rfl n106.1 n106.2 ?_)
      refine G_q rfl (op_fieldAddr_ptr (o := 3) (c' := (List.drop 3 (zae (gi a0 y1.1)))) (by kernel_rfl) rfl rfl ?_)
      refine G_q rfl (op_load1p (a := .row 1 zab ((gi a0 y1.1).2.2.2)) (by kernel_rfl) rfl rfl ?_)
      refine qm (.xi x38_l2) rfl ?_
      obtain ⟨n107, h⟩ := need_some h
      refine G_q rfl (zaj (by kernel_rfl) rfl rfl n107.1 n107.2 ?_)
      refine G_q rfl (op_load1p (a := .xs (gi ((gi a0 y1.1).2.2.2) x38_l2)) (by kernel_rfl) rfl rfl ?_)
      refine qa (.xs (gi ((gi a0 y1.1).2.2.2) x38_l2)) rfl ?_
      refine G_nil (zaa ?_)
      refine k_join1_0 h (fun (x59_j108 : Bool) => (pt (pt (pt (pt (pt (pt AF0 0 (.row 4 zae a0)) 5 (.xi y1.1)) 36 (.row 1 zab y1.2.1)) 37 (.xi (List.length y1.2.1 : Int))) 38 (.xi x38_l2)) 59 (.xb x59_j108))) (fun (x59_j108 : Bool) => []) (fun k108 h => ?_) (fun x59_j108 h => ?_)
      ·refine kr ?_
       refine qm (.xs (gi ((gi a0 y1.1).2.2.2) x38_l2)) rfl ?_
       refine G_q rfl (op_neqS rfl rfl ?_)
       refine qm (.xb (decide (¬ (gi ((gi a0 y1.1).2.2.2) x38_l2) = ([] : List UInt8)))) rfl ?_
       refine G_split (p := ¬ (gi ((gi a0 y1.1).2.2.2) x38_l2) = ([] : List UInt8)) 53 rfl (fun hc => ?_) (fun hc => ?_)
       ·replace h := ite_t h hc
        refine Gy_q rfl rfl rfl (zag (av := .xs (gi ((gi a0 y1.1).2.2.2) x38_l2)) rfl ?_)
        obtain ⟨y111, hy111, h⟩ := bnd1_some h
        refine Gy_q rfl rfl rfl (zaf (m_value_Parts_ok _ _ hy111) Tryz.func39 (by kernel_rfl) (LEs.cons (AV.le_eq rfl) LEs.nil) ?_)
        refine Gy_q rfl rfl rfl (zag (av := .xs (gi y1.2.1 x38_l2)) rfl ?_)
        obtain ⟨y112, hy112, h⟩ := bnd1_some h
        refine Gy_q rfl rfl rfl (zaf (m_slices_Contains_L_api_Value_api_Value_ok _ _ _ hy112) Tryz.func38 (by kernel_rfl) (LEs.cons (AV.le_eq rfl) (LEs.cons (AV.le_eq rfl) LEs.nil)) ?_)
        refine Gy_q rfl rfl rfl (op_not rfl ?_)
        refine G_q rfl (op_pick_t rfl (av := .xb (!y112)) rfl ?_)
        refine G_nil ?_
        refine zad ⟨_, h, ?_⟩
        exact so (l4 rfl rfl rfl rfl (lq rfl (lq rfl lt0)))
       ·replace h := ite_f h hc
        refine G_n rfl rfl (G_n rfl rfl (G_n rfl rfl (G_n rfl rfl (G_n rfl rfl ?_))))
        refine G_q rfl (zak rfl (av := .xb false) rfl ?_)
        refine G_nil ?_
        refine zad ⟨_, h, ?_⟩
        exact so (l4 rfl rfl rfl rfl (lq rfl (lq rfl lt0)))
      ·refine kb (p := x59_j108) rfl h (fun hc h => ?_) (fun hc h => ?_)
       ·refine zac (kr ?_)
        refine qa (.xb false) rfl ?_
        refine G_nil (zaa (k_ret (kB_ret (kC_ret (kI_ret (kB_ret (kI_ret ?_)))))))
        obtain rfl := Option.some.inj h
        refine ke (pt AF0 4 (.xb false)) [] rfl ?_ ⟨rfl, rfl⟩
        exact so (lq rfl lt0)
       ·refine k_skip (kB_normal (zaa (kr ?_)))
        refine G_q rfl (op_add rfl rfl rfl ?_)
        refine qm (.xi (i64 (x38_l2 + 1))) rfl ?_
        refine G_nil ?_
        refine zad ⟨_, h, ?_⟩
        exact so (l4 rfl rfl rfl rfl (lq rfl lt0))
     ·refine k_exit (kC_exit (kI_exit (kB_exit ?_)))
      refine zad ⟨h, ?_⟩
      exact Sub.of_le lt0
   ·refine zac (kr ?_)
    refine qa (.xb true) rfl ?_
    refine G_nil (zaa (k_ret ?_))
    obtain rfl := Option.some.inj h
    refine ke (pt AF0 4 (.xb true)) [] rfl ?_ ⟨rfl, rfl⟩
    exact so (lq rfl lt0)
set_option maxHeartbeats 4000000 in
theorem m_dataspace_missing_ok (a0 : List ((List UInt8) × Int × (List Int) × (List (List UInt8)))) (a1 : List UInt8) (r : (List (List UInt8))) (h : m_dataspace_missing a0 a1 = some r) : Pure Tryz.prog 35 [(.row 4 zae a0), (.exact (.string (bs a1)))] (.row 1 zab r) := by
 unfold m_dataspace_missing at h
 refine Pure.ofFun (fun_of_awp Tryz.func35 rfl Tryz.ntmps35 (by simp) rfl (res1 rfl) fun E hE => k_end ?_)
 refine zac (kr ?_)
 refine qa (.exact (.slice none 0 0)) rfl ?_
 refine G_nil (zaa (zac (kr ?_)))
 refine qm (.xs a1) rfl ?_
 obtain ⟨y1, hy1, h⟩ := bnd1_some h
 refine G_q rfl (zaf (m_dataspace_split_ok _ _ hy1) Tryz.func36 (by kernel_rfl) (LEs.cons (AV.le_eq rfl) LEs.nil) ?_)
 refine qm (.tup [.xi y1.1, .row 1 zab y1.2.1, .xb y1.2.2]) rfl ?_
 refine G_q rfl (op_extract (av := .xi y1.1) rfl rfl ?_)
 refine G_q rfl (op_extract (av := .row 1 zab y1.2.1) rfl rfl ?_)
 refine G_q rfl (op_extract (av := .xb y1.2.2) rfl rfl ?_)
 refine qa (.xi y1.1) rfl ?_
 refine qa (.row 1 zab y1.2.1) rfl ?_
 refine qa (.xb y1.2.2) rfl ?_
 refine G_nil (zaa (zac (kr ?_)))
 refine qm (.row 4 zae a0) rfl ?_
 refine qm (.xi y1.1) rfl ?_
 obtain ⟨n2, h⟩ := need_some h
 refine G_q rfl (zaj (by kernel_rfl) rfl rfl n2.1 n2.2 ?_)
 refine G_q rfl (op_fieldAddr_ptr (o := 3) (c' := (List.drop 3 (zae (gi a0 y1.1)))) (by kernel_rfl) rfl rfl ?_)
 refine G_q rfl (op_load1p (a := .row 1 zab ((gi a0 y1.1).2.2.2)) (by kernel_rfl) rfl rfl ?_)
 refine qm (.row 1 zab y1.2.1) rfl ?_
 refine G_q rfl (zai (by kernel_rfl) rfl ?_)
 obtain ⟨n3, h⟩ := need_some h
 refine G_q rfl (op_slice_rowd (by kernel_rfl) rfl (bnd_some rfl) bnd_none n3.1 n3.2 (Int.le_refl _) ?_)
 refine qa (.row 1 zab (List.drop (Int.toNat (List.length y1.2.1 : Int)) ((gi a0 y1.1).2.2.2))) rfl ?_
 refine G_nil (zaa (k_ret ?_))
 obtain rfl := Option.some.inj h
 refine ke (pt AF0 4 (.row 1 zab (List.drop (Int.toNat (List.length y1.2.1 : Int)) ((gi a0 y1.1).2.2.2)))) [] rfl ?_ ⟨rfl, rfl⟩
 exact so (lq rfl lt0)
set_option maxHeartbeats 4000000 in
theorem m_dataspace_unbounded_ok (a0 : List ((List UInt8) × Int × (List Int) × (List (List UInt8)))) (a1 : List UInt8) (r : Bool) (h : m_dataspace_unbounded a0 a1 = some r) : Pure Tryz.prog 33 [(.row 4 zae a0), (.exact (.string (bs a1)))] (.exact (.bool r)) := by
 unfold m_dataspace_unbounded at h
 refine Pure.ofFun (fun_of_awp Tryz.func33 rfl Tryz.ntmps33 (by simp) rfl (res1 rfl) fun E hE => k_end ?_)
 refine zac (kr ?_)
 refine qa (.xb false) rfl ?_
 refine G_nil (zaa (zac (kr ?_)))
 refine qm (.row 4 zae a0) rfl ?_
 refine qm (.xs a1) rfl ?_
 obtain ⟨y1, hy1, h⟩ := bnd1_some h
 refine G_q rfl (zaf (m_dataspace_missing_ok _ _ _ hy1) Tryz.func35 (by kernel_rfl) (LEs.cons (AV.le_eq rfl) (LEs.cons (AV.le_eq rfl) LEs.nil)) ?_)
 obtain ⟨y2, hy2, h⟩ := bnd1_some h
 refine G_q rfl (zaf (m_slices_Contains_L_api_Value_api_Value_ok _ _ _ hy2) Tryz.func38 (by kernel_rfl) (LEs.cons (AV.le_eq rfl) (LEs.cons (AV.le_eq rfl) LEs.nil)) ?_)
 refine qa (.xb y2) rfl ?_
 refine G_nil (zaa (k_ret ?_))
 obtain rfl := Option.some.inj h
 refine ke (pt AF0 4 (.xb y2)) [] rfl ?_ ⟨rfl, rfl⟩
 exact so (lq rfl lt0)
set_option maxHeartbeats 4000000 in
theorem m_finset_elements_ok (a0 : List (List UInt8)) (r : (List (List (List UInt8))) × Int) (h : m_finset_elements a0 = some r) : Pure Tryz.prog 75 [(.row 1 zab a0)] (.tup [.row 1 zah r.1, .exact (.int .i64 r.2)]) := by
 unfold m_finset_elements at h
 refine Pure.ofFun (fun_of_awp Tryz.func75 rfl Tryz.ntmps75 (by simp) rfl (res2 rfl) fun E hE => k_end ?_)
 refine zac (kr ?_)
 refine qa (.exact (.slice none 0 0)) rfl ?_
 refine qa (.xi 0) rfl ?_
 refine G_nil (zaa (zac (kr ?_)))
 refine qa (.exact (.slice none 0 0)) rfl ?_
 refine G_nil (zaa ?_)
 refine k_join1_1 h (fun (x4_j1 : List (List (List UInt8))) (v4_j1 : Value) => (pt AF0 4 (.exact v4_j1))) (fun (x4_j1 : List (List (List UInt8))) (v4_j1 : Value) => [vecT Tryz.prog 91 1 zah v4_j1 x4_j1]) (fun k1 h => ?_) (fun x4_j1 v4_j1 h => ?_)
 ·refine zac (kr ?_)
  refine qm (.row 1 zab a0) rfl ?_
  refine G_q rfl (zai (by kernel_rfl) rfl ?_)
  refine qm (.xi 0) rfl ?_
  refine G_nil (zaa (k_block ?_))
  refine k_loop2_1 (m_finset_elements_L2 a0 k1) (m_finset_elements_B2 a0 k1) (fun _ _ => rfl) (fun m _ _ => rfl) h (fun (x4_l2 : List (List (List UInt8))) (x9_l2 : Int) (v4_l2 : Value) => (pt (pt (pt (pt AF0 4 (.exact v4_l2)) 7 (.row 1 zab a0)) 8 (.xi (List.length a0 : Int))) 9 (.xi x9_l2))) (fun (x4_l2 : List (List (List UInt8))) (x9_l2 : Int) (v4_l2 : Value) => [vecT Tryz.prog 91 1 zah v4_l2 x4_l2]) (.slice none 0 0) ?_ (fun rec2 x4_l2 x9_l2 v4_l2 h => ?_)
  ·refine Sub.trans (SubU.to (SubU.nilT (P := Tryz.prog) (t := 91) (n := 1) (enc := zah))) ?_
   exact so (l4 rfl rfl rfl rfl lt0)
  ·unfold m_finset_elements_B2 at h
   refine zac (kr ?_)
   refine G_q rfl (op_lss rfl rfl ?_)
   refine G_nil (zaa (zac ?_))
   refine kd (p := x9_l2 < (List.length a0 : Int)) rfl h (fun hc h => ?_) (fun hc h => ?_)
   ·refine k_skip (zaa (zac (k_block (zac (kr ?_)))))
    obtain ⟨n28, h⟩ := need_some h
    refine G_q rfl (zaj (by kernel_rfl) rfl rfl n28.1 n28.2 ?_)
    refine G_q rfl (op_load1p (a := .xs (gi a0 x9_l2)) (by kernel_rfl) rfl rfl ?_)
    refine qa (.xs (gi a0 x9_l2)) rfl ?_
    refine G_nil (zaa (zac (zac (kr ?_))))
    refine qm (.xs (gi a0 x9_l2)) rfl ?_
    obtain ⟨y29, hy29, h⟩ := bnd1_some h
    refine G_q rfl (zaf (m_value_Kind_ok _ _ hy29) Tryz.func31 (by kernel_rfl) (LEs.cons (AV.le_eq rfl) LEs.nil) ?_)
    refine G_q rfl (op_neq rfl rfl ?_)
    refine G_nil (zaa ?_)
    refine kd (p := ¬ y29 = 5) rfl h (fun hc h => ?_) (fun hc h => ?_)
    ·refine zac (kr ?_)
     refine qa (.exact (.slice none 0 0)) rfl ?_
     refine qa (.xi 6) rfl ?_
     refine G_nil (zaa (k_ret (kC_ret (kB_ret (kC_ret (kI_ret (kB_ret (kI_ret ?_))))))))
     obtain rfl := Option.some.inj h
     refine ke (pt (pt AF0 2 (.row 1 zah [])) 3 (.xi 6)) [] rfl ?_ ⟨rfl, rfl⟩
     refine Sub.trans (SubU.to SubU.drop) ?_
     exact so (lq rfl (AF.le_put (row_nil (by decide)) lt0))
    ·refine k_skip (zaa (kr ?_))
     refine qm (.exact v4_l2) rfl ?_
     refine qm (.xs (gi a0 x9_l2)) rfl ?_
     obtain ⟨y30, hy30, h⟩ := bnd1_some h
     refine G_q rfl (zaf (m_value_Parts_ok _ _ hy30) Tryz.func39 (by kernel_rfl) (LEs.cons (AV.le_eq rfl) LEs.nil) ?_)
     refine G_q rfl (op_litT (n := 1) (enc := zah) [y30] (CellsAll.cons rfl CellsOf.row CellsAll.nil) rfl (by kernel_rfl) (LEss.cons (LEs.cons (AV.le_eq rfl) LEs.nil) LEss.nil) ?_)
     obtain ⟨n31, h⟩ := need_some h
     refine G_l rfl (op_appT (by kernel_rfl) rfl rfl oc_c_L_api_Value n31 (fun v32 => ?_))
     refine qa (.exact v32) rfl ?_
     refine G_nil (kB_normal (zaa (kr ?_)))
     refine G_q rfl (op_add rfl rfl rfl ?_)
     refine qm (.xi (i64 (x9_l2 + 1))) rfl ?_
     refine G_nil ?_
     refine zad ⟨_, _, v32, h, ?_⟩
     exact so (l4 rfl rfl rfl rfl lt0)
   ·refine k_exit (kC_exit (kI_exit (kB_exit ?_)))
    refine zad ⟨_, v4_l2, h, ?_⟩
    exact so (lq rfl lt0)
 ·refine zac (kr ?_)
  refine qm (.exact v4_j1) rfl ?_
  refine qa (.exact v4_j1) rfl ?_
  refine qa (.xi 0) rfl ?_
  refine G_nil (zaa (k_ret ?_))
  obtain rfl := Option.some.inj h
  refine ke (pt (pt AF0 2 (.row 1 zah x4_j1)) 3 (.xi 0)) [] rfl ?_ ⟨rfl, rfl⟩
  refine Sub.trans (SubU.to (SubU.freezeT (s := 2) rfl len_c_L_api_Value)) ?_
  exact so (lq rfl (lq rfl lt0))
set_option maxHeartbeats 4000000 in
theorem m_finset_count_ok (a0 : List (List (List UInt8))) (r : Int) (h : m_finset_count a0 = some r) : Pure Tryz.prog 76 [(.row 1 zah a0)] (.exact (.int .i64 r)) := by
 unfold m_finset_count at h
 refine Pure.ofFun (fun_of_awp Tryz.func76 rfl Tryz.ntmps76 (by simp) rfl (res1 rfl) fun E hE => k_end ?_)
 refine zac (kr ?_)
 refine qa (.xi 0) rfl ?_
 refine G_nil (zaa (zac (kr ?_)))
 refine qa (.xi 1) rfl ?_
 refine G_nil (zaa ?_)
 refine k_join1_0 h (fun (x3_j1 : Int) => (pt AF0 3 (.xi x3_j1))) (fun (x3_j1 : Int) => []) (fun k1 h => ?_) (fun x3_j1 h => ?_)
 ·refine zac (kr ?_)
  refine qm (.row 1 zah a0) rfl ?_
  refine G_q rfl (zai (by kernel_rfl) rfl ?_)
  refine qm (.xi 0) rfl ?_
  refine G_nil (zaa (k_block ?_))
  refine k_loop2_0 (m_finset_count_L2 a0 k1) (m_finset_count_B2 a0 k1) (fun _ _ => rfl) (fun m _ _ => rfl) h (fun (x3_l2 : Int) (x8_l2 : Int) => (pt (pt (pt (pt AF0 3 (.xi x3_l2)) 6 (.row 1 zah a0)) 7 (.xi (List.length a0 : Int))) 8 (.xi x8_l2))) (fun (x3_l2 : Int) (x8_l2 : Int) => []) ?_ (fun rec2 x3_l2 x8_l2 h => ?_)
  ·exact so (l4 rfl rfl rfl rfl lt0)
  ·unfold m_finset_count_B2 at h
   refine zac (kr ?_)
   refine G_q rfl (op_lss rfl rfl ?_)
   refine G_nil (zaa (zac ?_))
   refine kd (p := x8_l2 < (List.length a0 : Int)) rfl h (fun hc h => ?_) (fun hc h => ?_)
   ·refine k_skip (zaa (zac (k_block (zac (kr ?_)))))
    obtain ⟨n8, h⟩ := need_some h
    refine G_q rfl (zaj (by kernel_rfl) rfl rfl n8.1 n8.2 ?_)
    refine G_q rfl (op_load1p (a := .row 1 zab (gi a0 x8_l2)) (by kernel_rfl) rfl rfl ?_)
    refine qa (.row 1 zab (gi a0 x8_l2)) rfl ?_
    refine G_nil (zaa (zac (kr ?_)))
    refine qm (.xi x3_l2) rfl ?_
    refine qm (.row 1 zab (gi a0 x8_l2)) rfl ?_
    refine G_q rfl (zai (by kernel_rfl) rfl ?_)
    refine G_q rfl (op_mul rfl rfl rfl ?_)
    refine G_q rfl (op_min rfl rfl ?_)
    refine qa (.xi (min (i64 (x3_l2 * (List.length (gi a0 x8_l2) : Int))) 4097)) rfl ?_
    refine G_nil (zaa (zac (kr ?_)))
    refine qm (.row 1 zab (gi a0 x8_l2)) rfl ?_
    refine G_q rfl (zai (by kernel_rfl) rfl ?_)
    refine G_q rfl (op_eql rfl rfl ?_)
    refine G_nil (zaa ?_)
    refine kd (p := (List.length (gi a0 x8_l2) : Int) = 0) rfl h (fun hc h => ?_) (fun hc h => ?_)
    ·refine zac (kr ?_)
     refine qa (.xi 0) rfl ?_
     refine G_nil (zaa (k_ret (kB_ret (kC_ret (kI_ret (kB_ret (kI_ret ?_)))))))
     obtain rfl := Option.some.inj h
     refine ke (pt AF0 2 (.xi 0)) [] rfl ?_ ⟨rfl, rfl⟩
     exact so (lq rfl lt0)
    ·refine k_skip (kB_normal (zaa (kr ?_)))
     refine G_q rfl (op_add rfl rfl rfl ?_)
     refine qm (.xi (i64 (x8_l2 + 1))) rfl ?_
     refine G_nil ?_
     refine zad ⟨_, _, h, ?_⟩
     exact so (l4 rfl rfl rfl rfl lt0)
   ·refine k_exit (kC_exit (kI_exit (kB_exit ?_)))
    refine zad ⟨_, h, ?_⟩
    exact so (lq rfl lt0)
 ·refine zac (kr ?_)
  refine qm (.xi x3_j1) rfl ?_
  refine qa (.xi x3_j1) rfl ?_
  refine G_nil (zaa (k_ret ?_))
  obtain rfl := Option.some.inj h
  refine ke (pt AF0 2 (.xi x3_j1)) [] rfl ?_ ⟨rfl, rfl⟩
  exact so (lq rfl lt0)
set_option maxHeartbeats 4000000 in
theorem m_value_append16_ok {w0 : Value} (a0 : List UInt8) (a1 : Int) (r : (List UInt8)) (h : m_value_append16 a0 a1 = some r) : Fun Tryz.prog 109 [(.exact w0), (.exact (.int .u16 a1))] [vecT Tryz.prog 55 1 c_uint8 w0 a0] (fun a s => ∃ z0, a = .exact z0 ∧ s = [vecT Tryz.prog 55 1 c_uint8 z0 r]) := by
 unfold m_value_append16 at h
 refine fun_of_awp Tryz.func109 rfl Tryz.ntmps109 (by simp) rfl (res1 rfl) fun E hE => k_end ?_
 refine zac (kr ?_)
 refine qa (.exact (.slice none 0 0)) rfl ?_
 refine G_nil (zaa (zac (kr ?_)))
 refine qm (.exact w0) rfl ?_
 refine qm (.exact (.int .u16 a1)) rfl ?_
 refine G_q rfl (op_shr rfl rfl (by decide) rfl ?_)
 refine G_q rfl (op_convInt (k := .u8) (r := (UInt8.toNat (u8i (Int.fdiv a1 (2 ^ min (Int.toNat 8) IntKind.u16.bits))) : Int)) (by kernel_rfl) rfl (u8i_eq _) ?_)
 refine qm (.exact (.int .u16 a1)) rfl ?_
 refine G_q rfl (op_convInt (k := .u8) (r := (UInt8.toNat (u8i a1) : Int)) (by kernel_rfl) rfl (u8i_eq _) ?_)
 refine G_q rfl (op_litT (n := 1) (enc := c_uint8) [u8i (Int.fdiv a1 (2 ^ min (Int.toNat 8) IntKind.u16.bits)), u8i a1] (CellsAll.cons rfl CellsOf.int (CellsAll.cons rfl CellsOf.int CellsAll.nil)) rfl (by kernel_rfl) (LEss.cons (LEs.cons (AV.le_eq rfl) LEs.nil) (LEss.cons (LEs.cons (AV.le_eq rfl) LEs.nil) LEss.nil)) ?_)
 obtain ⟨n1, h⟩ := need_some h
 refine G_l rfl (op_appT (by kernel_rfl) rfl rfl oc_c_uint8 n1 (fun v2 => ?_))
 refine qa (.exact v2) rfl ?_
 refine G_nil (zaa (k_ret ?_))
 obtain rfl := Option.some.inj h
 refine ke (pt AF0 4 (.exact v2)) [vecT Tryz.prog 55 1 c_uint8 v2 (a0 ++ [u8i (Int.fdiv a1 (2 ^ min (Int.toNat 8) IntKind.u16.bits)), u8i a1])] rfl ?_ ⟨v2, rfl, rfl⟩
 exact so (lq rfl lt0)
set_option maxHeartbeats 4000000 in
theorem m_slices_IndexFunc_L_api_Value_api_Value_ok (a0 : List (List UInt8)) (a1 : (List UInt8) → Option Bool) (r : Int) (h : m_slices_IndexFunc_L_api_Value_api_Value a0 a1 = some r) : Pure Tryz.prog 92 [(.row 1 zab a0), (.fn Tryz.prog (fun (i : (List UInt8)) => [.exact (.string (bs i))]) (fun (i : (List UInt8)) => a1 i) (fun (r : Bool) => .exact (.bool r)))] (.exact (.int .i64 r)) := by
 unfold m_slices_IndexFunc_L_api_Value_api_Value at h
 refine Pure.ofFun (fun_of_awp Tryz.func92 rfl Tryz.ntmps92 (by simp) rfl (res1 rfl) fun E hE => k_end ?_)
 refine zac (kr ?_)
 refine qa (.xi 0) rfl ?_
 refine G_nil (zaa ?_)
 refine k_join0_0 h (AF0) ([]) (fun k1 h => ?_) (fun  h => ?_)
 ·refine zac (kr ?_)
  refine qm (.row 1 zab a0) rfl ?_
  refine G_q rfl (zai (by kernel_rfl) rfl ?_)
  refine qm (.xi 0) rfl ?_
  refine G_nil (zaa (k_block ?_))
  refine k_loop1_0 (m_slices_IndexFunc_L_api_Value_api_Value_L2 a0 a1 k1) (m_slices_IndexFunc_L_api_Value_api_Value_B2 a0 a1 k1) (fun _ => rfl) (fun m _ => rfl) h (fun (x8_l2 : Int) => (pt (pt (pt (pt AF0 0 (.row 1 zab a0)) 1 (.fn Tryz.prog (fun (i : (List UInt8)) => [.xs i]) (fun (i : (List UInt8)) => a1 i) (fun (r : Bool) => .xb r))) 7 (.xi (List.length a0 : Int))) 8 (.xi x8_l2))) (fun (x8_l2 : Int) => []) ?_ (fun rec2 x8_l2 h => ?_)
  ·exact so (l4 rfl rfl rfl rfl lt0)
  ·unfold m_slices_IndexFunc_L_api_Value_api_Value_B2 at h
   refine zac (kr ?_)
   refine G_q rfl (op_lss rfl rfl ?_)
   refine G_nil (zaa (zac ?_))
   refine kd (p := x8_l2 < (List.length a0 : Int)) rfl h (fun hc h => ?_) (fun hc h => ?_)
   ·refine k_skip (zaa (zac (k_block (zac (kr ?_)))))
    refine qm (.xi x8_l2) rfl ?_
    refine qa (.xi x8_l2) rfl ?_
    refine G_nil (zaa (zac (kr ?_)))
    refine qm (.fn Tryz.prog (fun (i : (List UInt8)) => [.xs i]) (fun (i : (List UInt8)) => a1 i) (fun (r : Bool) => .xb r)) rfl ?_
    refine qm (.row 1 zab a0) rfl ?_
    refine qm (.xi x8_l2) rfl ?_
    obtain ⟨n13, h⟩ := need_some h
    refine G_q rfl (zaj (by kernel_rfl) rfl rfl n13.1 n13.2 ?_)
    refine G_q rfl (op_load1p (a := .xs (gi a0 x8_l2)) (by kernel_rfl) rfl rfl ?_)
    obtain ⟨y14, hy14, h⟩ := bnd1_some h
    refine G_q rfl (op_callfn (gi a0 x8_l2) rfl hy14 (LEs.cons (AV.le_eq rfl) LEs.nil) ?_)
    refine G_nil (zaa ?_)
    refine kb (p := y14) rfl h (fun hc h => ?_) (fun hc h => ?_)
    ·refine zac (kr ?_)
     refine qm (.xi x8_l2) rfl ?_
     refine qa (.xi x8_l2) rfl ?_
     refine G_nil (zaa (k_ret (kB_ret (kC_ret (kI_ret (kB_ret (kI_ret ?_)))))))
     obtain rfl := Option.some.inj h
     refine ke (pt AF0 4 (.xi x8_l2)) [] rfl ?_ ⟨rfl, rfl⟩
     exact so (lq rfl lt0)
    ·refine k_skip (kB_normal (zaa (kr ?_)))
     refine G_q rfl (op_add rfl rfl rfl ?_)
     refine qm (.xi (i64 (x8_l2 + 1))) rfl ?_
     refine G_nil ?_
     refine zad ⟨_, h, ?_⟩
     exact so (l4 rfl rfl rfl rfl lt0)
   ·refine k_exit (kC_exit (kI_exit (kB_exit ?_)))
    refine zad ⟨h, ?_⟩
    exact Sub.of_le lt0
 ·refine zac (kr ?_)
  refine qa (.xi (-1)) rfl ?_
  refine G_nil (zaa (k_ret ?_))
  obtain rfl := Option.some.inj h
  refine ke (pt AF0 4 (.xi (-1))) [] rfl ?_ ⟨rfl, rfl⟩
  exact so (lq rfl lt0)
set_option maxHeartbeats 4000000 in
theorem m_slices_ContainsFunc_L_api_Value_api_Value_ok (a0 : List (List UInt8)) (a1 : (List UInt8) → Option Bool) (r : Bool) (h : m_slices_ContainsFunc_L_api_Value_api_Value a0 a1 = some r) : Pure Tryz.prog 47 [(.row 1 zab a0), (.fn Tryz.prog (fun (i : (List UInt8)) => [.exact (.string (bs i))]) (fun (i : (List UInt8)) => a1 i) (fun (r : Bool) => .exact (.bool r)))] (.exact (.bool r)) := by
 unfold m_slices_ContainsFunc_L_api_Value_api_Value at h
 refine Pure.ofFun (fun_of_awp Tryz.func47 rfl Tryz.ntmps47 (by simp) rfl (res1 rfl) fun E hE => k_end ?_)
 refine zac (kr ?_)
 refine qa (.xb false) rfl ?_
 refine G_nil (zaa (zac (kr ?_)))
 refine qm (.row 1 zab a0) rfl ?_
 refine qm (.fn Tryz.prog (fun (i : (List UInt8)) => [.xs i]) (fun (i : (List UInt8)) => a1 i) (fun (r : Bool) => .xb r)) rfl ?_
 obtain ⟨y1, hy1, h⟩ := bnd1_some h
 refine G_q rfl (zaf (m_slices_IndexFunc_L_api_Value_api_Value_ok _ _ _ hy1) Tryz.func92 (by kernel_rfl) (LEs.cons (AV.le_eq rfl) (LEs.cons (AV.le_eq rfl) LEs.nil)) ?_)
 refine G_q rfl (op_geq rfl rfl ?_)
 refine qa (.xb (decide (0 ≤ y1))) rfl ?_
 refine G_nil (zaa (k_ret ?_))
 obtain rfl := Option.some.inj h
 refine ke (pt AF0 4 (.xb (decide (0 ≤ y1)))) [] rfl ?_ ⟨rfl, rfl⟩
 exact so (lq rfl lt0)
set_option maxHeartbeats 4000000 in
theorem m_value_compound_1_ok (a0 : List UInt8) (r : Bool) (h : m_value_compound_1 a0 = some r) : Pure Tryz.prog 110 [(.exact (.string (bs a0)))] (.exact (.bool r)) := by
 unfold m_value_compound_1 at h
 refine Pure.ofFun (fun_of_awp Tryz.func110 rfl Tryz.ntmps110 (by simp) rfl (res1 rfl) fun E hE => k_end ?_)
 refine zac (kr ?_)
 refine qa (.xb false) rfl ?_
 refine G_nil (zaa (zac (kr ?_)))
 refine qm (.xs a0) rfl ?_
 obtain ⟨y1, hy1, h⟩ := bnd1_some h
 refine G_q rfl (zaf (m_value_Valid_ok _ _ hy1) Tryz.func37 (by kernel_rfl) (LEs.cons (AV.le_eq rfl) LEs.nil) ?_)
 refine G_q rfl (op_not rfl ?_)
 refine qa (.xb (!y1)) rfl ?_
 refine G_nil (zaa (k_ret ?_))
 obtain rfl := Option.some.inj h
 refine ke (pt AF0 2 (.xb (!y1))) [] rfl ?_ ⟨rfl, rfl⟩
 exact so (lq rfl lt0)
end Go.Proofs.YtjlbdhicabgliaaGreat
/- The functions compute their models, by program. -/
namespace Go.Proofs.YtjlbdhicabgliaaGreat
open Go.RowKit
attribute [local irreducible] AV.exact AV.top AV.row AV.ptr AV.agg AV.tup AV.eptr AV.fn AV.nilq AV.nilqn opA opB opM opR Quiet Loud Reads wpG awp den Sub SubU Pure Fun vecI vecT boxI CellsAll CellsOf OneC LEs LEss
set_option maxRecDepth 100000

set_option maxHeartbeats 4000000 in
theorem m_value_checked_ok (a0 : List UInt8) (r : (List UInt8)) (h : m_value_checked a0 = some r) : Pure Tryz.prog 111 [(.row 1 c_uint8 a0)] (.exact (.string (bs r))) := by
 unfold m_value_checked at h
 refine Pure.ofFun (fun_of_awp Tryz.func111 rfl Tryz.ntmps111 (by simp) rfl (res1 rfl) fun E hE => k_end ?_)
 refine zac (kr ?_)
 refine qa (.xs ([] : List UInt8)) rfl ?_
 refine G_nil (zaa (zac (zac (kr ?_))))
 refine qm (.row 1 c_uint8 a0) rfl ?_
 refine G_q rfl (op_bytesS rfl (by kernel_rfl) rfl ?_)
 obtain ⟨y1, hy1, h⟩ := bnd1_some h
 refine G_q rfl (zaf (m_value_Valid_ok _ _ hy1) Tryz.func37 (by kernel_rfl) (LEs.cons (AV.le_eq rfl) LEs.nil) ?_)
 refine G_q rfl (op_not rfl ?_)
 refine G_nil (zaa ?_)
 refine kb (p := !y1) rfl h (fun hc h => ?_) (fun hc h => ?_)
 ·refine zac (kr ?_)
  refine qa (.xs ([] : List UInt8)) rfl ?_
  refine G_nil (zaa (k_ret (kC_ret ?_)))
  obtain rfl := Option.some.inj h
  refine ke (pt AF0 2 (.xs ([] : List UInt8))) [] rfl ?_ ⟨rfl, rfl⟩
  exact so (lq rfl lt0)
 ·refine k_skip (zaa (zac (kr ?_)))
  refine qm (.row 1 c_uint8 a0) rfl ?_
  refine G_q rfl (op_bytesS rfl (by kernel_rfl) rfl ?_)
  refine qa (.xs a0) rfl ?_
  refine G_nil (zaa (k_ret ?_))
  obtain rfl := Option.some.inj h
  refine ke (pt AF0 2 (.xs a0)) [] rfl ?_ ⟨rfl, rfl⟩
  exact so (lq rfl lt0)
set_option maxHeartbeats 4000000 in
theorem m_value_compound_ok (a0 : Int) (a1 : List (List UInt8)) (r : (List UInt8)) (h : m_value_compound a0 a1 = some r) : Pure Tryz.prog 84 [(.exact (.int .i64 a0)), (.row 1 zab a1)] (.exact (.string (bs r))) := by
 unfold m_value_compound at h
 refine Pure.ofFun (fun_of_awp Tryz.func84 rfl Tryz.ntmps84 (by simp) rfl (res1 rfl) fun E hE => k_end ?_)
 refine zac (kr ?_)
 refine qa (.xs ([] : List UInt8)) rfl ?_
 refine G_nil (zaa (zac (zac (kr ?_))))
 refine qm (.row 1 zab a1) rfl ?_
 refine G_q rfl (zai (by kernel_rfl) rfl ?_)
 refine G_q rfl (op_gtr rfl rfl ?_)
 refine G_nil (zaa ?_)
 refine kd (p := 65535 < (List.length a1 : Int)) rfl h (fun hc h => ?_) (fun hc h => ?_)
 ·refine zac (kr ?_)
  refine qa (.xs ([] : List UInt8)) rfl ?_
  refine G_nil (zaa (k_ret (kC_ret ?_)))
  obtain rfl := Option.some.inj h
  refine ke (pt AF0 4 (.xs ([] : List UInt8))) [] rfl ?_ ⟨rfl, rfl⟩
  exact so (lq rfl lt0)
 ·refine k_skip (zaa (zac (kr ?_)))
  refine qm (.xi a0) rfl ?_
  refine G_q rfl (op_convInt (k := .u8) (r := (UInt8.toNat (u8i a0) : Int)) (by kernel_rfl) rfl (u8i_eq _) ?_)
  refine G_l rfl (op_litI (n := 1) (enc := c_uint8) [u8i a0] (by kernel_rfl) (CellsAll.cons rfl CellsOf.int CellsAll.nil) rfl (by kernel_rfl) (LEss.cons (LEs.cons (AV.le_eq rfl) LEs.nil) LEss.nil) (fun v1 => ?_))
  refine qm (.row 1 zab a1) rfl ?_
  refine G_q rfl (zai (by kernel_rfl) rfl ?_)
  refine G_q rfl (op_convInt (k := .u16) (by kernel_rfl) rfl rfl ?_)
  obtain ⟨y2, hy2, h⟩ := bnd1_some h
  refine G_l rfl (op_fun_1_1_1 (m_value_append16_ok _ _ _ hy2) Tryz.func109 (by kernel_rfl) (LEs.cons (AV.le_eq rfl) (LEs.cons (AV.le_eq rfl) LEs.nil)) (fun v3 => ?_))
  refine qa (.exact v3) rfl ?_
  refine G_nil (zaa ?_)
  refine k_join1_1 h (fun (x5_j4 : List UInt8) (v5_j4 : Value) => (pt (pt AF0 1 (.row 1 zab a1)) 5 (.exact v5_j4))) (fun (x5_j4 : List UInt8) (v5_j4 : Value) => [vecT Tryz.prog 55 1 c_uint8 v5_j4 x5_j4]) (fun k4 h => ?_) (fun x5_j4 v5_j4 h => ?_)
  ·refine zac (kr ?_)
   refine qm (.row 1 zab a1) rfl ?_
   refine G_q rfl (zai (by kernel_rfl) rfl ?_)
   refine qm (.xi 0) rfl ?_
   refine G_nil (zaa (k_block ?_))
   refine k_loop2_1 (m_value_compound_L2 a1 k4) (m_value_compound_B2 a1 k4) (fun _ _ => rfl) (fun m _ _ => rfl) h (fun (x5_l2 : List UInt8) (x20_l2 : Int) (v5_l2 : Value) => (pt (pt (pt (pt (pt AF0 1 (.row 1 zab a1)) 5 (.exact v5_l2)) 18 (.row 1 zab a1)) 19 (.xi (List.length a1 : Int))) 20 (.xi x20_l2))) (fun (x5_l2 : List UInt8) (x20_l2 : Int) (v5_l2 : Value) => [vecT Tryz.prog 55 1 c_uint8 v5_l2 x5_l2]) v3 ?_ (fun rec2 x5_l2 x20_l2 v5_l2 h => ?_)
   ·exact so (l4 rfl rfl rfl rfl (lq rfl lt0))
   ·unfold m_value_compound_B2 at h
    refine zac (kr ?_)
    refine G_q rfl (op_lss rfl rfl ?_)
    refine G_nil (zaa (zac ?_))
    refine kd (p := x20_l2 < (List.length a1 : Int)) rfl h (fun hc h => ?_) (fun hc h => ?_)
    ·refine k_skip (zaa (zac (k_block (zac (kr ?_)))))
     obtain ⟨n78, h⟩ := need_some h
     refine G_q rfl (zaj (by kernel_rfl) rfl rfl n78.1 n78.2 ?_)
     refine G_q rfl (op_load1p (a := .xs (gi a1 x20_l2)) (by kernel_rfl) rfl rfl ?_)
     refine qa (.xs (gi a1 x20_l2)) rfl ?_
     refine G_nil (zaa (zac ?_))
     refine k_join1_0 h (fun (x33_j81 : Bool) => (pt (pt (pt (pt (pt (pt (pt AF0 1 (.row 1 zab a1)) 5 (.exact v5_l2)) 7 (.xs (gi a1 x20_l2))) 18 (.row 1 zab a1)) 19 (.xi (List.length a1 : Int))) 20 (.xi x20_l2)) 33 (.xb x33_j81))) (fun (x33_j81 : Bool) => [vecT Tryz.prog 55 1 c_uint8 v5_l2 x5_l2]) (fun k81 h => ?_) (fun x33_j81 h => ?_)
     ·refine kr ?_
      refine qm (.xs (gi a1 x20_l2)) rfl ?_
      refine G_q rfl (op_eqlS rfl rfl ?_)
      refine qm (.xb (decide ((gi a1 x20_l2) = ([] : List UInt8)))) rfl ?_
      refine G_split (p := (gi a1 x20_l2) = ([] : List UInt8)) 26 rfl (fun hc => ?_) (fun hc => ?_)
      ·replace h := ite_t h hc
       refine G_n rfl rfl (G_n rfl rfl (G_n rfl rfl (G_n rfl rfl (G_n rfl rfl (G_n rfl rfl ?_)))))
       refine G_q rfl (op_pick_t rfl (av := .xb true) rfl ?_)
       refine G_nil ?_
       refine zad ⟨_, h, ?_⟩
       exact so (l4 rfl rfl rfl rfl (lq rfl (lq rfl (lq rfl lt0))))
      ·replace h := ite_f h hc
       refine Gy_q rfl rfl rfl (zag (av := .exact v5_l2) rfl ?_)
       refine Gy_r rfl rfl rfl (op_len_vec (by kernel_rfl) rfl ?_)
       refine Gy_q rfl rfl rfl (zag (av := .xs (gi a1 x20_l2)) rfl ?_)
       refine Gy_q rfl rfl rfl (op_lenS (by kernel_rfl) rfl ?_)
       refine Gy_q rfl rfl rfl (op_add rfl rfl rfl ?_)
       refine Gy_q rfl rfl rfl (op_gtr rfl rfl ?_)
       refine G_q rfl (zak rfl (av := .xb (decide (131072 < (i64 ((List.length x5_l2 : Int) + (List.length (gi a1 x20_l2) : Int)))))) rfl ?_)
       refine G_nil ?_
       refine zad ⟨_, h, ?_⟩
       exact so (l4 rfl rfl rfl rfl (lq rfl (lq rfl (lq rfl lt0))))
     ·refine kb (p := x33_j81) rfl h (fun hc h => ?_) (fun hc h => ?_)
      ·refine zac (kr ?_)
       refine qa (.xs ([] : List UInt8)) rfl ?_
       refine G_nil (zaa (k_ret (kC_ret (kB_ret (kC_ret (kI_ret (kB_ret (kI_ret ?_))))))))
       obtain rfl := Option.some.inj h
       refine ke (pt AF0 4 (.xs ([] : List UInt8))) [] rfl ?_ ⟨rfl, rfl⟩
       refine Sub.trans (SubU.to SubU.drop) ?_
       exact so (lq rfl lt0)
      ·refine k_skip (zaa (kr ?_))
       refine qm (.exact v5_l2) rfl ?_
       refine qm (.xs (gi a1 x20_l2)) rfl ?_
       obtain ⟨n82, h⟩ := need_some h
       refine G_l rfl (op_appTS (fun _ => rfl) (by kernel_rfl) (by kernel_rfl) (by kernel_rfl) (by kernel_rfl) rfl rfl n82 (fun v83 => ?_))
       refine qa (.exact v83) rfl ?_
       refine G_nil (kB_normal (zaa (kr ?_)))
       refine G_q rfl (op_add rfl rfl rfl ?_)
       refine qm (.xi (i64 (x20_l2 + 1))) rfl ?_
       refine G_nil ?_
       refine zad ⟨_, _, v83, h, ?_⟩
       exact so (l4 rfl rfl rfl rfl (lq rfl lt0))
    ·refine k_exit (kC_exit (kI_exit (kB_exit ?_)))
     refine zad ⟨_, v5_l2, h, ?_⟩
     exact so (lq rfl (lq rfl lt0))
  ·refine zac (zac (kr ?_))
   refine qm (.row 1 zab a1) rfl ?_
   obtain ⟨y84, hy84, h⟩ := bnd1_some h
   refine G_q rfl (zaf (m_slices_ContainsFunc_L_api_Value_api_Value_ok _ _ _ hy84) Tryz.func47 (by kernel_rfl) (LEs.cons (AV.le_eq rfl) (LEs.cons ((fn_le Tryz.func110 (by kernel_rfl) (fun i r h => m_value_compound_1_ok i r h))) LEs.nil)) ?_)
   refine G_q rfl (op_not rfl ?_)
   refine G_nil (zaa ?_)
   refine kb (p := !y84) rfl h (fun hc h => ?_) (fun hc h => ?_)
   ·refine zac (kr ?_)
    refine qm (.exact v5_j4) rfl ?_
    refine G_sub rfl (SubU.freezeT2 (s1 := 5) (s2 := 41) rfl rfl len_c_uint8) ?_
    obtain ⟨y85, hy85, h⟩ := bnd1_some h
    refine G_q rfl (zaf (m_value_checked_ok _ _ hy85) Tryz.func111 (by kernel_rfl) (LEs.cons (AV.le_eq rfl) LEs.nil) ?_)
    refine qa (.xs y85) rfl ?_
    refine G_nil (zaa (k_ret (kC_ret ?_)))
    obtain rfl := Option.some.inj h
    refine ke (pt AF0 4 (.xs y85)) [] rfl ?_ ⟨rfl, rfl⟩
    exact so (lq rfl lt0)
   ·refine k_skip (zaa (zac (kr ?_)))
    refine qa (.xs ([] : List UInt8)) rfl ?_
    refine G_nil (zaa (k_ret ?_))
    obtain rfl := Option.some.inj h
    refine ke (pt AF0 4 (.xs ([] : List UInt8))) [] rfl ?_ ⟨rfl, rfl⟩
    refine Sub.trans (SubU.to SubU.drop) ?_
    exact so (lq rfl lt0)
set_option maxHeartbeats 4000000 in
theorem m_value_Seq_ok (a0 : List (List UInt8)) (r : (List UInt8)) (h : m_value_Seq a0 = some r) : Pure Tryz.prog 77 [(.row 1 zab a0)] (.exact (.string (bs r))) := by
 unfold m_value_Seq at h
 refine Pure.ofFun (fun_of_awp Tryz.func77 rfl Tryz.ntmps77 (by simp) rfl (res1 rfl) fun E hE => k_end ?_)
 refine zac (kr ?_)
 refine qa (.xs ([] : List UInt8)) rfl ?_
 refine G_nil (zaa (zac (kr ?_)))
 refine qm (.row 1 zab a0) rfl ?_
 obtain ⟨y1, hy1, h⟩ := bnd1_some h
 refine G_q rfl (zaf (m_value_compound_ok _ _ _ hy1) Tryz.func84 (by kernel_rfl) (LEs.cons (AV.le_eq rfl) (LEs.cons (AV.le_eq rfl) LEs.nil)) ?_)
 refine qa (.xs y1) rfl ?_
 refine G_nil (zaa (k_ret ?_))
 obtain rfl := Option.some.inj h
 refine ke (pt AF0 2 (.xs y1)) [] rfl ?_ ⟨rfl, rfl⟩
 exact so (lq rfl lt0)
set_option maxHeartbeats 4000000 in
theorem m_slices_Clone_L_api_Value_api_Value_ok (a0 : List (List UInt8)) (r : (List (List UInt8))) (h : m_slices_Clone_L_api_Value_api_Value a0 = some r) : Fun Tryz.prog 41 [(.row 1 zab a0)] [] (fun a s => ∃ z0, a = .exact z0 ∧ s = [vecT Tryz.prog 23 1 zab z0 r]) := by
 unfold m_slices_Clone_L_api_Value_api_Value at h
 refine fun_of_awp Tryz.func41 rfl Tryz.ntmps41 (by simp) rfl (res1 rfl) fun E hE => k_end ?_
 refine zac (kr ?_)
 refine qa (.exact (.slice none 0 0)) rfl ?_
 refine G_nil (zaa (zac (zac (kr ?_))))
 refine qm (.row 1 zab a0) rfl ?_
 refine G_q rfl (op_eqnil_row (by kernel_rfl) rfl ?_)
 refine G_nil (zaa ?_)
 obtain ⟨h1, h⟩ := nilc_some h
 refine k_cond_u (p := a0 = []) rfl (fun hc => ?_) ?_
 ·replace h := h1 hc
  refine zac (kr ?_)
  refine qa (.exact (.slice none 0 0)) rfl ?_
  refine G_nil (zaa (k_ret (kC_ret ?_)))
  obtain rfl := Option.some.inj h
  refine ke (pt AF0 2 (.exact (.slice none 0 0))) [vecT Tryz.prog 23 1 zab (.slice none 0 0) []] rfl ?_ ⟨(.slice none 0 0), rfl, rfl⟩
  refine Sub.trans (SubU.to (SubU.nilT (P := Tryz.prog) (t := 23) (n := 1) (enc := zab))) ?_
  exact so (lq rfl lt0)
 ·refine k_skip (zaa (zac (kr ?_)))
  refine G_l rfl (op_lit0I (enc := zab) (n := 1) (by kernel_rfl) (fun v1 => ?_))
  refine qm (.row 1 zab a0) rfl ?_
  obtain ⟨n2, h⟩ := need_some h
  refine G_l rfl (op_appT (by kernel_rfl) rfl rfl oc_c_api_Value n2 (fun v3 => ?_))
  refine qa (.exact v3) rfl ?_
  refine G_nil (zaa (k_ret ?_))
  obtain rfl := Option.some.inj h
  refine ke (pt AF0 2 (.exact v3)) [vecT Tryz.prog 23 1 zab v3 (([] : List (List UInt8)) ++ a0)] rfl ?_ ⟨v3, rfl, rfl⟩
  exact so (lq rfl lt0)
set_option maxHeartbeats 4000000 in
theorem m_value_Compare_ok (a0 : List UInt8) (a1 : List UInt8) (r : Int) (h : m_value_Compare a0 a1 = some r) : Pure Tryz.prog 114 [(.exact (.string (bs a0))), (.exact (.string (bs a1)))] (.exact (.int .i64 r)) := by
 unfold m_value_Compare at h
 refine Pure.ofFun (fun_of_awp Tryz.func114 rfl Tryz.ntmps114 (by simp) rfl (res1 rfl) fun E hE => k_end ?_)
 refine zac (kr ?_)
 refine qa (.xi 0) rfl ?_
 refine G_nil (zaa (zac (zac (kr ?_))))
 refine qm (.xs a0) rfl ?_
 obtain ⟨y6, hy6, h⟩ := bnd1_some h
 refine G_q rfl (zaf (m_value_Valid_ok _ _ hy6) Tryz.func37 (by kernel_rfl) (LEs.cons (AV.le_eq rfl) LEs.nil) ?_)
 refine qm (.xs a1) rfl ?_
 obtain ⟨y7, hy7, h⟩ := bnd1_some h
 refine G_q rfl (zaf (m_value_Valid_ok _ _ hy7) Tryz.func37 (by kernel_rfl) (LEs.cons (AV.le_eq rfl) LEs.nil) ?_)
 refine qa (.xb y6) rfl ?_
 refine qa (.xb y7) rfl ?_
 refine G_nil (zaa (k_block ?_))
 refine k_join1_0 h (fun (x11_j8 : Bool) => (pt (pt (pt (pt (pt AF0 0 (.xs a0)) 1 (.xs a1)) 5 (.xb y6)) 6 (.xb y7)) 11 (.xb x11_j8))) (fun (x11_j8 : Bool) => []) (fun k8 h => ?_) (fun x11_j8 h => ?_)
 ·refine kr ?_
  refine qm (.xb y6) rfl ?_
  refine qm (.xb y6) rfl ?_
  refine G_splitB (c := y6) 13 rfl (fun hc => ?_) (fun hc => ?_)
  ·replace h := ite_t h hc
   refine Gy_q rfl rfl rfl (zag (av := .xb y7) rfl ?_)
   refine G_q rfl (op_pick_t rfl (av := .xb y7) rfl ?_)
   refine qa (.xb y7) rfl ?_
   refine G_nil ?_
   refine zad ⟨_, h, ?_⟩
   exact so (l4 rfl rfl rfl rfl (lq rfl lt0))
  ·replace h := ite_f h hc
   refine G_n rfl rfl ?_
   refine G_q rfl (zak rfl (av := .xb false) rfl ?_)
   refine qa (.xb false) rfl ?_
   refine G_nil ?_
   refine zad ⟨_, h, ?_⟩
   exact so (l4 rfl rfl rfl rfl (lq rfl lt0))
 ·refine kb (p := x11_j8) rfl h (fun hc h => ?_) (fun hc h => ?_)
  ·refine zac (kr ?_)
   refine qm (.xs a0) rfl ?_
   refine qm (.xs a1) rfl ?_
   obtain ⟨y9, hy9, h⟩ := bnd1_some h
   refine G_q rfl (zaf (m_value_compare_ok _ _ _ hy9) Tryz.func124 (by kernel_rfl) (LEs.cons (AV.le_eq rfl) (LEs.cons (AV.le_eq rfl) LEs.nil)) ?_)
   refine qa (.xi y9) rfl ?_
   refine G_nil (zaa (k_ret (kB_ret (kC_ret ?_))))
   obtain rfl := Option.some.inj h
   refine ke (pt AF0 4 (.xi y9)) [] rfl ?_ ⟨rfl, rfl⟩
   exact so (lq rfl lt0)
  ·refine zac (kr ?_)
   refine qm (.xb y6) rfl ?_
   refine qa (.xb y6) rfl ?_
   refine G_nil (zaa ?_)
   refine kb (p := y6) rfl h (fun hc h => ?_) (fun hc h => ?_)
   ·refine zac (kr ?_)
    refine qa (.xi 1) rfl ?_
    refine G_nil (zaa (k_ret (kB_ret (kC_ret ?_))))
    obtain rfl := Option.some.inj h
    refine ke (pt AF0 4 (.xi 1)) [] rfl ?_ ⟨rfl, rfl⟩
    exact so (lq rfl lt0)
   ·refine zac (kr ?_)
    refine qm (.xb y7) rfl ?_
    refine qa (.xb y7) rfl ?_
    refine G_nil (zaa ?_)
    refine kb (p := y7) rfl h (fun hc h => ?_) (fun hc h => ?_)
    ·refine zac (kr ?_)
     refine qa (.xi (-1)) rfl ?_
     refine G_nil (zaa (k_ret (kB_ret (kC_ret ?_))))
     obtain rfl := Option.some.inj h
     refine ke (pt AF0 4 (.xi (-1))) [] rfl ?_ ⟨rfl, rfl⟩
     exact so (lq rfl lt0)
    ·refine k_skip (kB_normal (zaa (zac (kr ?_))))
     refine qm (.xs a0) rfl ?_
     refine qm (.xs a1) rfl ?_
     obtain ⟨y10, hy10, h⟩ := bnd1_some h
     refine G_q rfl (zaf (m_cmp_Compare_api_Value_ok _ _ _ hy10) Tryz.func125 (by kernel_rfl) (LEs.cons (AV.le_eq rfl) (LEs.cons (AV.le_eq rfl) LEs.nil)) ?_)
     refine qa (.xi y10) rfl ?_
     refine G_nil (zaa (k_ret ?_))
     obtain rfl := Option.some.inj h
     refine ke (pt AF0 4 (.xi y10)) [] rfl ?_ ⟨rfl, rfl⟩
     exact so (lq rfl lt0)
set_option maxHeartbeats 4000000 in
theorem m_slices_Compact_L_api_Value_api_Value_ok {w0 : Value} (a0 : List (List UInt8)) (r : (List (List UInt8))) (h : m_slices_Compact_L_api_Value_api_Value a0 = some r) : Fun Tryz.prog 115 [(.exact w0)] [vecT Tryz.prog 23 1 zab w0 a0] (fun a s => ∃ z0, a = .exact z0 ∧ s = [vecT Tryz.prog 23 1 zab z0 r]) := by
 unfold m_slices_Compact_L_api_Value_api_Value at h
 refine fun_of_awp Tryz.func115 rfl Tryz.ntmps115 (by simp) rfl (res1 rfl) fun E hE => k_end ?_
 refine zac (kr ?_)
 refine qa (.exact (.slice none 0 0)) rfl ?_
 refine G_nil (zaa (zac (zac (kr ?_))))
 refine qm (.exact w0) rfl ?_
 refine G_r rfl (op_len_vec (by kernel_rfl) rfl ?_)
 refine G_q rfl (op_lss rfl rfl ?_)
 refine G_nil (zaa ?_)
 refine kd (p := (List.length a0 : Int) < 2) rfl h (fun hc h => ?_) (fun hc h => ?_)
 ·refine zac (kr ?_)
  refine qm (.exact w0) rfl ?_
  refine qa (.exact w0) rfl ?_
  refine G_nil (zaa (k_ret (kC_ret ?_)))
  obtain rfl := Option.some.inj h
  refine ke (pt AF0 2 (.exact w0)) [vecT Tryz.prog 23 1 zab w0 a0] rfl ?_ ⟨w0, rfl, rfl⟩
  exact so (lq rfl lt0)
 ·refine k_skip (zaa ?_)
  refine k_join0_0 h ((pt AF0 0 (.exact w0))) ([vecT Tryz.prog 23 1 zab w0 a0]) (fun k1 h => ?_) (fun  h => ?_)
  ·refine zac (kr ?_)
   refine qa (.xi 1) rfl ?_
   refine G_nil (zaa (k_block ?_))
   refine k_loop1_0 (m_slices_Compact_L_api_Value_api_Value_L14 a0 k1) (m_slices_Compact_L_api_Value_api_Value_B14 a0 k1) (fun _ => rfl) (fun m _ => rfl) h (fun (x3_l14 : Int) => (pt (pt AF0 0 (.exact w0)) 3 (.xi x3_l14))) (fun (x3_l14 : Int) => [vecT Tryz.prog 23 1 zab w0 a0]) ?_ (fun rec14 x3_l14 h => ?_)
   ·exact so (lq rfl (lq rfl lt0))
   ·unfold m_slices_Compact_L_api_Value_api_Value_B14 at h
    refine zac (zac (kr ?_))
    refine qm (.xi x3_l14) rfl ?_
    refine qm (.exact w0) rfl ?_
    refine G_r rfl (op_len_vec (by kernel_rfl) rfl ?_)
    refine G_q rfl (op_lss rfl rfl ?_)
    refine G_nil (zaa ?_)
    refine kd (p := x3_l14 < (List.length a0 : Int)) rfl h (fun hc h => ?_) (fun hc h => ?_)
    ·refine k_skip (zaa ?_)
     refine k_join0_0 h ((pt (pt AF0 0 (.exact w0)) 3 (.xi x3_l14))) ([vecT Tryz.prog 23 1 zab w0 a0]) (fun k638 h => ?_) (fun  h => ?_)
     ·refine k_block (zac ?_)
      refine k_plan [] [(0, 0), (0, 1), (0, 4), (0, 5), (0, 6), (1, 2), (1, 3), (1, 7), (1, 8), (0, 9)] hmixP (by kernel_rfl) ?_
      refine P_q no34_0 rfl (zag (av := .exact w0) rfl ?_)
      refine P_q no34_0 rfl (zag (av := .xi x3_l14) rfl ?_)
      refine P_q no34_0 rfl (zag (av := .exact w0) rfl ?_)
      refine P_q no34_0 rfl (zag (av := .xi x3_l14) rfl ?_)
      refine P_q no34_0 rfl (op_sub rfl rfl rfl ?_)
      obtain ⟨n702, h⟩ := need_some h
      refine P_r rfl (op_index_vec (by kernel_rfl) rfl rfl n702.1 n702.2 ?_)
      refine P_r rfl (op_load_vec1 (i := x3_l14) (o := 0) (a := .xs (gi a0 x3_l14)) (by kernel_rfl) len_c_api_Value rfl n702.1 n702.2 rfl ?_)
      obtain ⟨n703, h⟩ := need_some h
      refine P_r rfl (op_index_vec (by kernel_rfl) rfl rfl n703.1 n703.2 ?_)
      refine P_r rfl (op_load_vec1 (i := i64 (x3_l14 - 1)) (o := 0) (a := .xs (gi a0 (i64 (x3_l14 - 1)))) (by kernel_rfl) len_c_api_Value rfl n703.1 n703.2 rfl ?_)
      refine P_q no34_0 rfl (op_eqlS rfl rfl ?_)
      refine P_nil (zaa ?_)
      refine kd (p := (gi a0 x3_l14) = (gi a0 (i64 (x3_l14 - 1)))) rfl h (fun hc h => ?_) (fun hc h => ?_)
      ·refine zac (kr ?_)
       refine qm (.exact w0) rfl ?_
       refine qm (.xi x3_l14) rfl ?_
       obtain ⟨n704, h⟩ := need_some h
       refine G_r rfl (op_slice_vec (by kernel_rfl) rfl (bnd_some rfl) bnd_none n704.1 n704.2.1 n704.2.2 ?_)
       refine qa (.vsub w0 1 (Int.toNat x3_l14) (Int.toNat (List.length a0 : Int) - Int.toNat x3_l14)) rfl ?_
       refine G_nil (zaa ?_)
       refine k_join2_0 h (fun (x0_j705 : List (List UInt8)) (x3_j705 : Int) => (pt (pt AF0 0 (.exact w0)) 3 (.xi x3_j705))) (fun (x0_j705 : List (List UInt8)) (x3_j705 : Int) => [vecT Tryz.prog 23 1 zab w0 x0_j705]) (fun k705 h => ?_) (fun x0_j705 x3_j705 h => ?_)
       ·refine zac (kr ?_)
        refine qa (.xi 1) rfl ?_
        refine G_nil (zaa (k_block ?_))
        refine k_loop3_0 (m_slices_Compact_L_api_Value_api_Value_L26 a0 x3_l14 k705) (m_slices_Compact_L_api_Value_api_Value_B26 a0 x3_l14 k705) (fun _ _ _ => rfl) (fun m _ _ _ => rfl) h (fun (x0_l26 : List (List UInt8)) (x3_l26 : Int) (x5_l26 : Int) => (pt (pt (pt (pt AF0 0 (.exact w0)) 3 (.xi x3_l26)) 4 (.vsub w0 1 (Int.toNat x3_l14) (Int.toNat (List.length a0 : Int) - Int.toNat x3_l14))) 5 (.xi x5_l26))) (fun (x0_l26 : List (List UInt8)) (x3_l26 : Int) (x5_l26 : Int) => [vecT Tryz.prog 23 1 zab w0 x0_l26]) ?_ (fun rec26 x0_l26 x3_l26 x5_l26 h => ?_)
        ·exact so (l4 rfl rfl rfl rfl lt0)
        ·unfold m_slices_Compact_L_api_Value_api_Value_B26 at h
         refine zac (zac (kr ?_))
         refine qm (.xi x5_l26) rfl ?_
         refine qm (.vsub w0 1 (Int.toNat x3_l14) (Int.toNat (List.length a0 : Int) - Int.toNat x3_l14)) rfl ?_
         refine G_q rfl (op_len_vsub (by kernel_rfl) rfl ?_)
         refine G_q rfl (op_lss rfl rfl ?_)
         refine G_nil (zaa ?_)
         refine kd (p := x5_l26 < ((Int.toNat (List.length a0 : Int) - Int.toNat x3_l14 : Nat) : Int)) rfl h (fun hc h => ?_) (fun hc h => ?_)
         ·refine k_skip (zaa ?_)
          refine k_join2_0 h (fun (x0_j752 : List (List UInt8)) (x3_j752 : Int) => (pt (pt (pt (pt AF0 0 (.exact w0)) 3 (.xi x3_j752)) 4 (.vsub w0 1 (Int.toNat x3_l14) (Int.toNat (List.length a0 : Int) - Int.toNat x3_l14))) 5 (.xi x5_l26))) (fun (x0_j752 : List (List UInt8)) (x3_j752 : Int) => [vecT Tryz.prog 23 1 zab w0 x0_j752]) (fun k752 h => ?_) (fun x0_j752 x3_j752 h => ?_)
          ·refine k_block (zac ?_)
           refine k_plan [] [(0, 0), (0, 1), (0, 4), (0, 5), (0, 6), (1, 2), (1, 3), (1, 7), (1, 8), (0, 9)] hmixP (by kernel_rfl) ?_
           refine P_q no34_0 rfl (zag (av := .vsub w0 1 (Int.toNat x3_l14) (Int.toNat (List.length a0 : Int) - Int.toNat x3_l14)) rfl ?_)
           refine P_q no34_0 rfl (zag (av := .xi x5_l26) rfl ?_)
           refine P_q no34_0 rfl (zag (av := .vsub w0 1 (Int.toNat x3_l14) (Int.toNat (List.length a0 : Int) - Int.toNat x3_l14)) rfl ?_)
           refine P_q no34_0 rfl (zag (av := .xi x5_l26) rfl ?_)
           refine P_q no34_0 rfl (op_sub rfl rfl rfl ?_)
           obtain ⟨n757, h⟩ := need_some h
           refine P_r rfl (op_index_vsub (j := (x3_l14 + x5_l26)) (by kernel_rfl) rfl rfl n757.2.1 (by have hh := n757; try simp only [i64] at *; omega) (by have hh := n757; try simp only [i64] at *; omega) (by have hh := n757; try simp only [i64] at *; omega) ?_)
           refine P_r rfl (op_load_vec1 (i := (x3_l14 + x5_l26)) (o := 0) (a := .xs (gi x0_l26 (x3_l14 + x5_l26))) (by kernel_rfl) len_c_api_Value rfl n757.2.2.2.1 n757.2.2.2.2 rfl ?_)
           obtain ⟨n758, h⟩ := need_some h
           refine P_r rfl (op_index_vsub (j := (x3_l14 + (i64 (x5_l26 - 1)))) (by kernel_rfl) rfl rfl n758.2.1 (by have hh := n758; try simp only [i64] at *; omega) (by have hh := n758; try simp only [i64] at *; omega) (by have hh := n758; try simp only [i64] at *; omega) ?_)
           refine P_r rfl (op_load_vec1 (i := (x3_l14 + (i64 (x5_l26 - 1)))) (o := 0) (a := .xs (gi x0_l26 (x3_l14 + (i64 (x5_l26 - 1))))) (by kernel_rfl) len_c_api_Value rfl n758.2.2.2.1 n758.2.2.2.2 rfl ?_)
           refine P_q no34_0 rfl (op_neqS rfl rfl ?_)
           refine P_nil (zaa ?_)
           refine kd (p := ¬ (gi x0_l26 (x3_l14 + x5_l26)) = (gi x0_l26 (x3_l14 + (i64 (x5_l26 - 1))))) rfl h (fun hc h => ?_) (fun hc h => ?_)
           ·refine zac (kr ?_)
            refine qm (.exact w0) rfl ?_
            refine qm (.xi x3_l26) rfl ?_
            refine qm (.vsub w0 1 (Int.toNat x3_l14) (Int.toNat (List.length a0 : Int) - Int.toNat x3_l14)) rfl ?_
            refine qm (.xi x5_l26) rfl ?_
            obtain ⟨n759, h⟩ := need_some h
            refine G_r rfl (op_index_vsub (j := (x3_l14 + x5_l26)) (by kernel_rfl) rfl rfl n759.2.1 (by have hh := n759; try simp only [i64] at *; omega) (by have hh := n759; try simp only [i64] at *; omega) (by have hh := n759; try simp only [i64] at *; omega) ?_)
            refine G_r rfl (op_load_vec1 (i := (x3_l14 + x5_l26)) (o := 0) (a := .xs (gi x0_l26 (x3_l14 + x5_l26))) (by kernel_rfl) len_c_api_Value rfl n759.2.2.2.1 n759.2.2.2.2 rfl ?_)
            obtain ⟨n760, h⟩ := need_some h
            refine G_r rfl (op_index_vec (by kernel_rfl) rfl rfl n760.1 n760.2 ?_)
            refine G_l rfl (op_store_vec (i := x3_l26) (o := 0) (z := gi x0_l26 (x3_l14 + x5_l26)) (c' := [.xs (gi x0_l26 (x3_l14 + x5_l26))]) (by kernel_rfl) len_c_api_Value rfl n760.1 n760.2 rfl CellsOf.str (LEs.cons (AV.le_eq rfl) LEs.nil) (OneC.str OneC.nil) (by kernel_rfl) (Nat.le_of_ble_eq_true rfl) rfl ?_)
            refine G_nil (zaa (kr ?_))
            refine qm (.xi x3_l26) rfl ?_
            refine G_q rfl (op_add rfl rfl rfl ?_)
            refine qa (.xi (i64 (x3_l26 + 1))) rfl ?_
            refine G_nil (kB_normal ?_)
            refine zad ⟨_, _, h, ?_⟩
            exact so (l4 rfl rfl rfl rfl lt0)
           ·refine k_skip (kB_normal ?_)
            refine zad ⟨_, _, h, ?_⟩
            exact so (l4 rfl rfl rfl rfl lt0)
          ·refine kr ?_
           refine qm (.xi x5_l26) rfl ?_
           refine G_q rfl (op_add rfl rfl rfl ?_)
           refine qa (.xi (i64 (x5_l26 + 1))) rfl ?_
           refine G_nil ?_
           refine zad ⟨_, _, _, h, ?_⟩
           exact so (l4 rfl rfl rfl rfl lt0)
         ·refine k_exit (kC_exit (kI_exit (kB_exit ?_)))
          refine zad ⟨_, _, h, ?_⟩
          exact so (lq rfl (lq rfl lt0))
       ·refine zac (kr ?_)
        refine qm (.exact w0) rfl ?_
        refine qm (.xi x3_j705) rfl ?_
        obtain ⟨n761, h⟩ := need_some h
        refine G_r rfl (op_slice_vec (by kernel_rfl) rfl (bnd_some rfl) bnd_none n761.1 n761.2.1 n761.2.2 ?_)
        refine G_l rfl (op_clear (zr := []) (by kernel_rfl) len_c_api_Value oc_c_api_Value rfl (by have := n761; omega) Tryz.zeroValue26 (fun _ _ => (Fit.ex Fit.nil0)) ?_)
        refine G_nil (zaa (zac (kr ?_)))
        refine qm (.exact w0) rfl ?_
        refine qm (.xi x3_j705) rfl ?_
        obtain ⟨n762, h⟩ := need_some h
        refine G_l rfl (op_trunc (by kernel_rfl) len_c_api_Value rfl (bnd_some rfl) n762.1 n762.2 (fun v763 => ?_))
        refine qa (.exact v763) rfl ?_
        refine G_nil (zaa (k_ret (kB_ret (kI_ret (kI_ret (kB_ret (kI_ret ?_)))))))
        obtain rfl := Option.some.inj h
        refine ke (pt AF0 2 (.exact v763)) [vecT Tryz.prog 23 1 zab v763 (List.take (Int.toNat x3_j705) (List.take (Int.toNat x3_j705) x0_j705 ++ List.replicate (Int.toNat (List.length x0_j705 : Int) - Int.toNat x3_j705) ([] : List UInt8) ++ List.drop (Int.toNat x3_j705 + (Int.toNat (List.length x0_j705 : Int) - Int.toNat x3_j705)) x0_j705))] rfl ?_ ⟨v763, rfl, rfl⟩
        exact so (lq rfl lt0)
      ·refine k_skip (kB_normal ?_)
       refine zad ⟨h, ?_⟩
       exact so (lq rfl (lq rfl lt0))
     ·refine kr ?_
      refine qm (.xi x3_l14) rfl ?_
      refine G_q rfl (op_add rfl rfl rfl ?_)
      refine qa (.xi (i64 (x3_l14 + 1))) rfl ?_
      refine G_nil ?_
      refine zad ⟨_, h, ?_⟩
      exact so (lq rfl (lq rfl lt0))
    ·refine k_exit (kC_exit (kI_exit (kB_exit ?_)))
     refine zad ⟨h, ?_⟩
     exact so (lq rfl lt0)
  ·refine zac (kr ?_)
   refine qm (.exact w0) rfl ?_
   refine qa (.exact w0) rfl ?_
   refine G_nil (zaa (k_ret ?_))
   obtain rfl := Option.some.inj h
   refine ke (pt AF0 2 (.exact w0)) [vecT Tryz.prog 23 1 zab w0 a0] rfl ?_ ⟨w0, rfl, rfl⟩
   exact so (lq rfl lt0)
set_option maxHeartbeats 4000000 in
theorem m_value_Sort_ok (a0 : List (List UInt8)) (r : (List (List UInt8))) (h : m_value_Sort a0 = some r) : Fun Tryz.prog 89 [(.row 1 zab a0)] [] (fun a s => ∃ z0, a = .exact z0 ∧ s = [vecO Tryz.prog 23 1 zab z0 r]) := by
 unfold m_value_Sort at h
 refine fun_of_awp Tryz.func89 rfl Tryz.ntmps89 (by simp) rfl (res1 rfl) fun E hE => k_end ?_
 refine zac (kr ?_)
 refine qa (.exact (.slice none 0 0)) rfl ?_
 refine G_nil (zaa (zac (kr ?_)))
 refine qm (.row 1 zab a0) rfl ?_
 obtain ⟨y1, hy1, h⟩ := bnd1_some h
 refine G_l rfl (op_fun_0_1_1 (m_slices_Clone_L_api_Value_api_Value_ok _ _ hy1) Tryz.func41 (by kernel_rfl) (LEs.cons (AV.le_eq rfl) LEs.nil) (fun v2 => ?_))
 refine qa (.exact v2) rfl ?_
 refine G_nil (zaa (zac (kr ?_)))
 refine qm (.exact v2) rfl ?_
 obtain ⟨y3, hy3, h⟩ := bnd1_some h
 refine G_l rfl (op_fun_1_0_1 (m_sort_api_Value_ok m_value_Compare_ok _ _ hy3) Tryz.func113 (by kernel_rfl) (LEs.cons (AV.le_eq rfl) (LEs.cons (AV.le_eq rfl) LEs.nil)) ?_)
 refine G_nil (zaa (zac (kr ?_)))
 refine qm (.exact v2) rfl ?_
 obtain ⟨y4, hy4, h⟩ := bnd1_some h
 refine G_l rfl (op_fun_1_1_1 (m_slices_Compact_L_api_Value_api_Value_ok _ _ hy4) Tryz.func115 (by kernel_rfl) (LEs.cons (AV.le_eq rfl) LEs.nil) (fun v5 => ?_))
 obtain ⟨y6, hy6, h⟩ := bnd1_some h
 refine G_l rfl (op_fun_1_1_1 (m_slices_Clip_L_api_Value_api_Value_ok _ _ hy6) Tryz.func43 (by kernel_rfl) (LEs.cons (AV.le_eq rfl) LEs.nil) (fun v7 => ?_))
 refine qa (.exact v7) rfl ?_
 refine G_nil (zaa (k_ret ?_))
 obtain rfl := Option.some.inj h
 refine ke (pt AF0 2 (.exact v7)) [vecO Tryz.prog 23 1 zab v7 y6] rfl ?_ ⟨v7, rfl, rfl⟩
 exact so (lq rfl lt0)
theorem m_value_Sort_fz (a0 : List (List UInt8)) (r : (List (List UInt8))) (h : m_value_Sort a0 = some r) : Pure Tryz.prog 89 [(.row 1 zab a0)] (.row 1 zab r) := Pure.ofOwnO len_c_api_Value (m_value_Sort_ok a0 r h)
set_option maxHeartbeats 4000000 in
theorem m_value_Set_ok (a0 : List (List UInt8)) (r : (List UInt8)) (h : m_value_Set a0 = some r) : Pure Tryz.prog 105 [(.row 1 zab a0)] (.exact (.string (bs r))) := by
 unfold m_value_Set at h
 refine Pure.ofFun (fun_of_awp Tryz.func105 rfl Tryz.ntmps105 (by simp) rfl (res1 rfl) fun E hE => k_end ?_)
 refine zac (kr ?_)
 refine qa (.xs ([] : List UInt8)) rfl ?_
 refine G_nil (zaa (zac (kr ?_)))
 refine qm (.row 1 zab a0) rfl ?_
 obtain ⟨y1, hy1, h⟩ := bnd1_some h
 refine G_q rfl (zaf (m_value_Sort_fz _ _ hy1) Tryz.func89 (by kernel_rfl) (LEs.cons (AV.le_eq rfl) LEs.nil) ?_)
 obtain ⟨y2, hy2, h⟩ := bnd1_some h
 refine G_q rfl (zaf (m_value_compound_ok _ _ _ hy2) Tryz.func84 (by kernel_rfl) (LEs.cons (AV.le_eq rfl) (LEs.cons (AV.le_eq rfl) LEs.nil)) ?_)
 refine qa (.xs y2) rfl ?_
 refine G_nil (zaa (k_ret ?_))
 obtain rfl := Option.some.inj h
 refine ke (pt AF0 2 (.xs y2)) [] rfl ?_ ⟨rfl, rfl⟩
 exact so (lq rfl lt0)
set_option maxHeartbeats 4000000 in
theorem m_finset_sized_ok (a0 : Int) (a1 : List UInt8) (r : (List UInt8) × Int) (h : m_finset_sized a0 a1 = some r) : Pure Tryz.prog 104 [(.exact (.int .i64 a0)), (.exact (.string (bs a1)))] (.tup [.exact (.string (bs r.1)), .exact (.int .i64 r.2)]) := by
 unfold m_finset_sized at h
 refine Pure.ofFun (fun_of_awp Tryz.func104 rfl Tryz.ntmps104 (by simp) rfl (res2 rfl) fun E hE => k_end ?_)
 refine zac (kr ?_)
 refine qa (.xs ([] : List UInt8)) rfl ?_
 refine qa (.xi 0) rfl ?_
 refine G_nil (zaa (zac ?_))
 refine k_join1_0 h (fun (x11_j3 : Bool) => (pt (pt AF0 1 (.xs a1)) 11 (.xb x11_j3))) (fun (x11_j3 : Bool) => []) (fun k3 h => ?_) (fun x11_j3 h => ?_)
 ·refine kr ?_
  refine qm (.xi a0) rfl ?_
  refine G_q rfl (op_gtr rfl rfl ?_)
  refine qm (.xb (decide (4096 < a0))) rfl ?_
  refine G_split (p := 4096 < a0) 8 rfl (fun hc => ?_) (fun hc => ?_)
  ·replace h := ite_t h hc
   refine G_n rfl rfl (G_n rfl rfl ?_)
   refine G_q rfl (op_pick_t rfl (av := .xb true) rfl ?_)
   refine G_nil ?_
   refine zad ⟨_, h, ?_⟩
   exact so (lq rfl (lq rfl lt0))
  ·replace h := ite_f h hc
   refine Gy_q rfl rfl rfl (zag (av := .xs a1) rfl ?_)
   refine Gy_q rfl rfl rfl (op_eqlS rfl rfl ?_)
   refine G_q rfl (zak rfl (av := .xb (decide (a1 = ([] : List UInt8)))) rfl ?_)
   refine G_nil ?_
   refine zad ⟨_, h, ?_⟩
   exact so (lq rfl (lq rfl lt0))
 ·refine kb (p := x11_j3) rfl h (fun hc h => ?_) (fun hc h => ?_)
  ·refine zac (kr ?_)
   refine qa (.xs ([] : List UInt8)) rfl ?_
   refine qa (.xi 9) rfl ?_
   refine G_nil (zaa (k_ret (kC_ret ?_)))
   obtain rfl := Option.some.inj h
   refine ke (pt (pt AF0 4 (.xs ([] : List UInt8))) 5 (.xi 9)) [] rfl ?_ ⟨rfl, rfl⟩
   exact so (lq rfl (lq rfl lt0))
  ·refine k_skip (zaa (zac (kr ?_)))
   refine qm (.xs a1) rfl ?_
   refine qa (.xs a1) rfl ?_
   refine qa (.xi 0) rfl ?_
   refine G_nil (zaa (k_ret ?_))
   obtain rfl := Option.some.inj h
   refine ke (pt (pt AF0 4 (.xs a1)) 5 (.xi 0)) [] rfl ?_ ⟨rfl, rfl⟩
   exact so (lq rfl (lq rfl lt0))
set_option maxHeartbeats 4000000 in
theorem m_finset_set_ok (a0 : List (List UInt8)) (r : (List UInt8) × Int) (h : m_finset_set a0 = some r) : Pure Tryz.prog 78 [(.row 1 zab a0)] (.tup [.exact (.string (bs r.1)), .exact (.int .i64 r.2)]) := by
 unfold m_finset_set at h
 refine Pure.ofFun (fun_of_awp Tryz.func78 rfl Tryz.ntmps78 (by simp) rfl (res2 rfl) fun E hE => k_end ?_)
 refine zac (kr ?_)
 refine qa (.xs ([] : List UInt8)) rfl ?_
 refine qa (.xi 0) rfl ?_
 refine G_nil (zaa (zac (zac (kr ?_))))
 refine qm (.row 1 zab a0) rfl ?_
 refine G_q rfl (zai (by kernel_rfl) rfl ?_)
 refine G_q rfl (op_gtr rfl rfl ?_)
 refine G_nil (zaa ?_)
 refine kd (p := 4096 < (List.length a0 : Int)) rfl h (fun hc h => ?_) (fun hc h => ?_)
 ·refine zac (kr ?_)
  refine qa (.xs ([] : List UInt8)) rfl ?_
  refine qa (.xi 9) rfl ?_
  refine G_nil (zaa (k_ret (kC_ret ?_)))
  obtain rfl := Option.some.inj h
  refine ke (pt (pt AF0 2 (.xs ([] : List UInt8))) 3 (.xi 9)) [] rfl ?_ ⟨rfl, rfl⟩
  exact so (lq rfl (lq rfl lt0))
 ·refine k_skip (zaa (zac (kr ?_)))
  refine qm (.row 1 zab a0) rfl ?_
  refine G_q rfl (zai (by kernel_rfl) rfl ?_)
  refine qm (.row 1 zab a0) rfl ?_
  obtain ⟨y1, hy1, h⟩ := bnd1_some h
  refine G_q rfl (zaf (m_value_Set_ok _ _ hy1) Tryz.func105 (by kernel_rfl) (LEs.cons (AV.le_eq rfl) LEs.nil) ?_)
  obtain ⟨y2, hy2, h⟩ := bnd1_some h
  refine G_q rfl (zaf (m_finset_sized_ok _ _ _ hy2) Tryz.func104 (by kernel_rfl) (LEs.cons (AV.le_eq rfl) (LEs.cons (AV.le_eq rfl) LEs.nil)) ?_)
  refine G_q rfl (op_extract (av := .xs y2.1) rfl rfl ?_)
  refine G_q rfl (op_extract (av := .xi y2.2) rfl rfl ?_)
  refine qa (.xs y2.1) rfl ?_
  refine qa (.xi y2.2) rfl ?_
  refine G_nil (zaa (k_ret ?_))
  obtain rfl := Option.some.inj h
  refine ke (pt (pt AF0 2 (.xs y2.1)) 3 (.xi y2.2)) [] rfl ?_ ⟨rfl, rfl⟩
  exact so (lq rfl (lq rfl lt0))
set_option maxHeartbeats 4000000 in
theorem m_finset_Product_ok (a0 : List (List UInt8)) (r : (List UInt8) × Int) (h : m_finset_Product a0 = some r) : Pure Tryz.prog 34 [(.row 1 zab a0)] (.tup [.exact (.string (bs r.1)), .exact (.int .i64 r.2)]) := by
 unfold m_finset_Product at h
 refine Pure.ofFun (fun_of_awp Tryz.func34 rfl Tryz.ntmps34 (by simp) rfl (res2 rfl) fun E hE => k_end ?_)
 refine zac (kr ?_)
 refine qa (.xs ([] : List UInt8)) rfl ?_
 refine qa (.xi 0) rfl ?_
 refine G_nil (zaa (zac (kr ?_)))
 refine qm (.row 1 zab a0) rfl ?_
 obtain ⟨y1, hy1, h⟩ := bnd1_some h
 refine G_q rfl (zaf (m_finset_elements_ok _ _ hy1) Tryz.func75 (by kernel_rfl) (LEs.cons (AV.le_eq rfl) LEs.nil) ?_)
 refine qm (.tup [.row 1 zah y1.1, .xi y1.2]) rfl ?_
 refine G_q rfl (op_extract (av := .row 1 zah y1.1) rfl rfl ?_)
 refine G_q rfl (op_extract (av := .xi y1.2) rfl rfl ?_)
 refine qa (.row 1 zah y1.1) rfl ?_
 refine qa (.xi y1.2) rfl ?_
 refine G_nil (zaa (zac (zac (kr ?_))))
 refine qm (.xi y1.2) rfl ?_
 refine G_q rfl (op_neq rfl rfl ?_)
 refine G_nil (zaa ?_)
 refine kd (p := ¬ y1.2 = 0) rfl h (fun hc h => ?_) (fun hc h => ?_)
 ·refine zac (kr ?_)
  refine qm (.xi y1.2) rfl ?_
  refine qa (.xs ([] : List UInt8)) rfl ?_
  refine qa (.xi y1.2) rfl ?_
  refine G_nil (zaa (k_ret (kC_ret ?_)))
  obtain rfl := Option.some.inj h
  refine ke (pt (pt AF0 2 (.xs ([] : List UInt8))) 3 (.xi y1.2)) [] rfl ?_ ⟨rfl, rfl⟩
  exact so (lq rfl (lq rfl lt0))
 ·refine k_skip (zaa (zac (kr ?_)))
  refine qm (.row 1 zah y1.1) rfl ?_
  obtain ⟨y2, hy2, h⟩ := bnd1_some h
  refine G_q rfl (zaf (m_finset_count_ok _ _ hy2) Tryz.func76 (by kernel_rfl) (LEs.cons (AV.le_eq rfl) LEs.nil) ?_)
  refine qa (.xi y2) rfl ?_
  refine G_nil (zaa (zac (zac (kr ?_))))
  refine qm (.xi y2) rfl ?_
  refine G_q rfl (op_gtr rfl rfl ?_)
  refine G_nil (zaa ?_)
  refine kd (p := 4096 < y2) rfl h (fun hc h => ?_) (fun hc h => ?_)
  ·refine zac (kr ?_)
   refine qa (.xs ([] : List UInt8)) rfl ?_
   refine qa (.xi 9) rfl ?_
   refine G_nil (zaa (k_ret (kC_ret ?_)))
   obtain rfl := Option.some.inj h
   refine ke (pt (pt AF0 2 (.xs ([] : List UInt8))) 3 (.xi 9)) [] rfl ?_ ⟨rfl, rfl⟩
   exact so (lq rfl (lq rfl lt0))
  ·refine k_skip (zaa (zac (kr ?_)))
   refine qa (.exact (.slice none 0 0)) rfl ?_
   refine G_nil (zaa ?_)
   refine k_join1_1 h (fun (x7_j3 : List (List UInt8)) (v7_j3 : Value) => (pt AF0 7 (.exact v7_j3))) (fun (x7_j3 : List (List UInt8)) (v7_j3 : Value) => [vecT Tryz.prog 23 1 zab v7_j3 x7_j3]) (fun k3 h => ?_) (fun x7_j3 v7_j3 h => ?_)
   ·refine zac (kr ?_)
    refine qm (.xi y2) rfl ?_
    refine qm (.xi 0) rfl ?_
    refine G_nil (zaa (k_block ?_))
    refine k_loop2_1 (m_finset_Product_L14 y1 y2 k3) (m_finset_Product_B14 y1 y2 k3) (fun _ _ => rfl) (fun m _ _ => rfl) h (fun (x7_l14 : List (List UInt8)) (x24_l14 : Int) (v7_l14 : Value) => (pt (pt (pt (pt AF0 4 (.row 1 zah y1.1)) 7 (.exact v7_l14)) 23 (.xi y2)) 24 (.xi x24_l14))) (fun (x7_l14 : List (List UInt8)) (x24_l14 : Int) (v7_l14 : Value) => [vecT Tryz.prog 23 1 zab v7_l14 x7_l14]) (.slice none 0 0) ?_ (fun rec14 x7_l14 x24_l14 v7_l14 h => ?_)
    ·refine Sub.trans (SubU.to (SubU.nilT (P := Tryz.prog) (t := 23) (n := 1) (enc := zab))) ?_
     exact so (l4 rfl rfl rfl rfl lt0)
    ·unfold m_finset_Product_B14 at h
     refine zac (kr ?_)
     refine G_q rfl (op_lss rfl rfl ?_)
     refine G_nil (zaa (zac ?_))
     refine kd (p := x24_l14 < y2) rfl h (fun hc h => ?_) (fun hc h => ?_)
     ·refine k_skip (zaa ?_)
      refine k_join1_1 h (fun (x7_j510 : List (List UInt8)) (v7_j510 : Value) => (pt (pt (pt (pt AF0 4 (.row 1 zah y1.1)) 7 (.exact v7_j510)) 23 (.xi y2)) 24 (.xi x24_l14))) (fun (x7_j510 : List (List UInt8)) (v7_j510 : Value) => [vecT Tryz.prog 23 1 zab v7_j510 x7_j510]) (fun k510 h => ?_) (fun x7_j510 v7_j510 h => ?_)
      ·refine k_block (zac (kr ?_))
       refine qm (.xi x24_l14) rfl ?_
       refine qa (.xi x24_l14) rfl ?_
       refine G_nil (zaa (zac (kr ?_)))
       refine qm (.row 1 zah y1.1) rfl ?_
       refine G_q rfl (zai (by kernel_rfl) rfl ?_)
       obtain ⟨n561, h⟩ := need_some h
       refine G_l rfl (op_make (enc := zab) (zr := ([] : List UInt8)) (by kernel_rfl) rfl rfl n561.1 n561.2 len_c_api_Value Tryz.zeroValue26 (fun _ _ => (Fit.ex Fit.nil0)) (fun v562 => ?_))
       refine qa (.exact v562) rfl ?_
       refine G_nil (zaa ?_)
       refine k_join1_0 h (fun (x9_j563 : List (List UInt8)) => (pt (pt (pt (pt (pt AF0 4 (.row 1 zah y1.1)) 7 (.exact v7_l14)) 9 (.exact v562)) 23 (.xi y2)) 24 (.xi x24_l14))) (fun (x9_j563 : List (List UInt8)) => [vecT Tryz.prog 23 1 zab v7_l14 x7_l14, vecT Tryz.prog 23 1 zab v562 x9_j563]) (fun k563 h => ?_) (fun x9_j563 h => ?_)
       ·refine zac (kr ?_)
        refine qm (.row 1 zah y1.1) rfl ?_
        refine G_q rfl (zai (by kernel_rfl) rfl ?_)
        refine G_q rfl (op_sub rfl rfl rfl ?_)
        refine qa (.xi (i64 ((List.length y1.1 : Int) - 1))) rfl ?_
        refine G_nil (zaa (k_block ?_))
        refine k_loop3_0 (m_finset_Product_L26 y1 k563) (m_finset_Product_B26 y1 k563) (fun _ _ _ => rfl) (fun m _ _ _ => rfl) h (fun (x8_l26 : Int) (x9_l26 : List (List UInt8)) (x10_l26 : Int) => (pt (pt (pt (pt (pt (pt (pt AF0 4 (.row 1 zah y1.1)) 7 (.exact v7_l14)) 8 (.xi x8_l26)) 9 (.exact v562)) 10 (.xi x10_l26)) 23 (.xi y2)) 24 (.xi x24_l14))) (fun (x8_l26 : Int) (x9_l26 : List (List UInt8)) (x10_l26 : Int) => [vecT Tryz.prog 23 1 zab v7_l14 x7_l14, vecT Tryz.prog 23 1 zab v562 x9_l26]) ?_ (fun rec26 x8_l26 x9_l26 x10_l26 h => ?_)
        ·refine Sub.trans (SubU.to SubU.f1) ?_
         exact so (l4 rfl rfl rfl rfl (lq rfl (lq rfl (lq rfl lt0))))
        ·unfold m_finset_Product_B26 at h
         refine zac (zac (kr ?_))
         refine qm (.xi x10_l26) rfl ?_
         refine G_q rfl (op_geq rfl rfl ?_)
         refine G_nil (zaa ?_)
         refine kd (p := 0 ≤ x10_l26) rfl h (fun hc h => ?_) (fun hc h => ?_)
         ·refine k_skip (zaa (zac (k_block (zac ?_))))
          refine k_plan [] [(0, 0), (0, 1), (0, 2), (0, 3), (0, 4), (0, 5), (0, 6), (0, 7), (0, 8), (0, 9), (0, 10), (0, 11), (0, 12), (0, 13), (0, 14), (1, 15), (2, 16)] hmixP (by kernel_rfl) ?_
          refine P_q no34_0 rfl (zag (av := .exact v562) rfl ?_)
          refine P_q no34_0 rfl (zag (av := .xi x10_l26) rfl ?_)
          refine P_q no34_0 rfl (zag (av := .row 1 zah y1.1) rfl ?_)
          refine P_q no34_0 rfl (zag (av := .xi x10_l26) rfl ?_)
          obtain ⟨n600, h⟩ := need_some h
          refine P_q no34_0 rfl (zaj (by kernel_rfl) rfl rfl n600.1 n600.2 ?_)
          refine P_q no34_0 rfl (op_load1p (a := .row 1 zab (gi y1.1 x10_l26)) (by kernel_rfl) rfl rfl ?_)
          refine P_q no34_0 rfl (zag (av := .xi x8_l26) rfl ?_)
          refine P_q no34_0 rfl (zag (av := .row 1 zah y1.1) rfl ?_)
          refine P_q no34_0 rfl (zag (av := .xi x10_l26) rfl ?_)
          obtain ⟨n601, h⟩ := need_some h
          refine P_q no34_0 rfl (zaj (by kernel_rfl) rfl rfl n601.1 n601.2 ?_)
          refine P_q no34_0 rfl (op_load1p (a := .row 1 zab (gi y1.1 x10_l26)) (by kernel_rfl) rfl rfl ?_)
          refine P_q no34_0 rfl (zai (by kernel_rfl) rfl ?_)
          obtain ⟨n602, h⟩ := need_some h
          refine P_q no34_0 rfl (op_rem rfl rfl n602 rfl ?_)
          obtain ⟨n603, h⟩ := need_some h
          refine P_q no34_0 rfl (zaj (by kernel_rfl) rfl rfl n603.1 n603.2 ?_)
          refine P_q no34_0 rfl (op_load1p (a := .xs (gi (gi y1.1 x10_l26) (Int.tmod x8_l26 (List.length (gi y1.1 x10_l26) : Int)))) (by kernel_rfl) rfl rfl ?_)
          obtain ⟨n604, h⟩ := need_some h
          refine P_r rfl (opR_f1 (op_index_vec (by kernel_rfl) rfl rfl n604.1 n604.2 ?_))
          refine P_l rfl (opB_f1 (op_store_vec (i := x10_l26) (o := 0) (z := gi (gi y1.1 x10_l26) (Int.tmod x8_l26 (List.length (gi y1.1 x10_l26) : Int))) (c' := [.xs (gi (gi y1.1 x10_l26) (Int.tmod x8_l26 (List.length (gi y1.1 x10_l26) : Int)))]) (by kernel_rfl) len_c_api_Value rfl n604.1 n604.2 rfl CellsOf.str (LEs.cons (AV.le_eq rfl) LEs.nil) (OneC.str OneC.nil) (by kernel_rfl) (Nat.le_of_ble_eq_true rfl) rfl ?_))
          refine P_nil (zaa (kr ?_))
          refine qm (.xi x8_l26) rfl ?_
          refine qm (.row 1 zah y1.1) rfl ?_
          refine qm (.xi x10_l26) rfl ?_
          obtain ⟨n605, h⟩ := need_some h
          refine G_q rfl (zaj (by kernel_rfl) rfl rfl n605.1 n605.2 ?_)
          refine G_q rfl (op_load1p (a := .row 1 zab (gi y1.1 x10_l26)) (by kernel_rfl) rfl rfl ?_)
          refine G_q rfl (zai (by kernel_rfl) rfl ?_)
          obtain ⟨n606, h⟩ := need_some h
          refine G_q rfl (op_quo rfl rfl n606 rfl ?_)
          refine qa (.xi (i64 (Int.tdiv x8_l26 (List.length (gi y1.1 x10_l26) : Int)))) rfl ?_
          refine G_nil (kB_normal (zaa (kr ?_)))
          refine qm (.xi x10_l26) rfl ?_
          refine G_q rfl (op_sub rfl rfl rfl ?_)
          refine qa (.xi (i64 (x10_l26 - 1))) rfl ?_
          refine G_nil ?_
          refine zad ⟨_, _, _, h, ?_⟩
          refine Sub.trans (SubU.to SubU.f1) ?_
          exact so (l4 rfl rfl rfl rfl (lq rfl (lq rfl (lq rfl lt0))))
         ·refine k_exit (kC_exit (kI_exit (kB_exit ?_)))
          refine zad ⟨_, h, ?_⟩
          exact so (l4 rfl rfl rfl rfl (lq rfl lt0))
       ·refine kr ?_
        refine qm (.exact v7_l14) rfl ?_
        refine qm (.exact v562) rfl ?_
        refine G_sub rfl (SubU.trans SubU.f1 (SubU.freezeT2 (s1 := 9) (s2 := 61) rfl rfl len_c_api_Value)) ?_
        obtain ⟨y607, hy607, h⟩ := bnd1_some h
        refine G_q rfl (zaf (m_value_Seq_ok _ _ hy607) Tryz.func77 (by kernel_rfl) (LEs.cons (AV.le_eq rfl) LEs.nil) ?_)
        refine G_q rfl (op_litT (n := 1) (enc := zab) [y607] (CellsAll.cons rfl CellsOf.str CellsAll.nil) rfl (by kernel_rfl) (LEss.cons (LEs.cons (AV.le_eq rfl) LEs.nil) LEss.nil) ?_)
        obtain ⟨n608, h⟩ := need_some h
        refine G_l rfl (op_appT (by kernel_rfl) rfl rfl oc_c_api_Value n608 (fun v609 => ?_))
        refine qa (.exact v609) rfl ?_
        refine G_nil (kB_normal ?_)
        refine zad ⟨_, v609, h, ?_⟩
        exact so (l4 rfl rfl rfl rfl lt0)
      ·refine kr ?_
       refine G_q rfl (op_add rfl rfl rfl ?_)
       refine qm (.xi (i64 (x24_l14 + 1))) rfl ?_
       refine G_nil ?_
       refine zad ⟨_, _, v7_j510, h, ?_⟩
       exact so (l4 rfl rfl rfl rfl lt0)
     ·refine k_exit (kC_exit (kI_exit (kB_exit ?_)))
      refine zad ⟨_, v7_l14, h, ?_⟩
      exact so (lq rfl lt0)
   ·refine zac (kr ?_)
    refine qm (.exact v7_j3) rfl ?_
    refine G_sub rfl (SubU.freezeT2 (s1 := 7) (s2 := 66) rfl rfl len_c_api_Value) ?_
    obtain ⟨y610, hy610, h⟩ := bnd1_some h
    refine G_q rfl (zaf (m_finset_set_ok _ _ hy610) Tryz.func78 (by kernel_rfl) (LEs.cons (AV.le_eq rfl) LEs.nil) ?_)
    refine G_q rfl (op_extract (av := .xs y610.1) rfl rfl ?_)
    refine G_q rfl (op_extract (av := .xi y610.2) rfl rfl ?_)
    refine qa (.xs y610.1) rfl ?_
    refine qa (.xi y610.2) rfl ?_
    refine G_nil (zaa (k_ret ?_))
    obtain rfl := Option.some.inj h
    refine ke (pt (pt AF0 2 (.xs y610.1)) 3 (.xi y610.2)) [] rfl ?_ ⟨rfl, rfl⟩
    exact so (lq rfl (lq rfl lt0))
set_option maxHeartbeats 4000000 in
theorem m_dataspace_Extensions_ok (a0 : List ((List UInt8) × Int × (List Int) × (List (List UInt8)))) (a1 : List UInt8) (r : (List UInt8) × Int) (h : m_dataspace_Extensions a0 a1 = some r) : Pure Tryz.prog 9 [(.row 4 zae a0), (.exact (.string (bs a1)))] (.tup [.exact (.string (bs r.1)), .exact (.int .i64 r.2)]) := by
 unfold m_dataspace_Extensions at h
 refine Pure.ofFun (fun_of_awp Tryz.func9 rfl Tryz.ntmps9 (by simp) rfl (res2 rfl) fun E hE => k_end ?_)
 refine zac (kr ?_)
 refine qa (.xs ([] : List UInt8)) rfl ?_
 refine qa (.xi 0) rfl ?_
 refine G_nil (zaa (zac (k_block (zac (kr ?_)))))
 refine qm (.row 4 zae a0) rfl ?_
 obtain ⟨y1, hy1, h⟩ := bnd1_some h
 refine G_q rfl (zaf (m_dataspace_Valid_ok _ _ hy1) Tryz.func30 (by kernel_rfl) (LEs.cons (AV.le_eq rfl) LEs.nil) ?_)
 refine G_q rfl (op_not rfl ?_)
 refine qa (.xb (!y1)) rfl ?_
 refine G_nil (zaa ?_)
 refine kb (p := !y1) rfl h (fun hc h => ?_) (fun hc h => ?_)
 ·refine zac (kr ?_)
  refine qa (.xs ([] : List UInt8)) rfl ?_
  refine qa (.xi 1) rfl ?_
  refine G_nil (zaa (k_ret (kB_ret (kC_ret ?_))))
  obtain rfl := Option.some.inj h
  refine ke (pt (pt AF0 4 (.xs ([] : List UInt8))) 5 (.xi 1)) [] rfl ?_ ⟨rfl, rfl⟩
  exact so (lq rfl (lq rfl lt0))
 ·refine zac (kr ?_)
  refine qm (.xs a1) rfl ?_
  obtain ⟨y2, hy2, h⟩ := bnd1_some h
  refine G_q rfl (zaf (m_value_Kind_ok _ _ hy2) Tryz.func31 (by kernel_rfl) (LEs.cons (AV.le_eq rfl) LEs.nil) ?_)
  refine G_q rfl (op_neq rfl rfl ?_)
  refine qa (.xb (decide (¬ y2 = 7))) rfl ?_
  refine G_nil (zaa ?_)
  refine kd (p := ¬ y2 = 7) rfl h (fun hc h => ?_) (fun hc h => ?_)
  ·refine zac (kr ?_)
   refine qa (.xs ([] : List UInt8)) rfl ?_
   refine qa (.xi 6) rfl ?_
   refine G_nil (zaa (k_ret (kB_ret (kC_ret ?_))))
   obtain rfl := Option.some.inj h
   refine ke (pt (pt AF0 4 (.xs ([] : List UInt8))) 5 (.xi 6)) [] rfl ?_ ⟨rfl, rfl⟩
   exact so (lq rfl (lq rfl lt0))
  ·refine zac (kr ?_)
   refine qm (.row 4 zae a0) rfl ?_
   refine qm (.xs a1) rfl ?_
   obtain ⟨y3, hy3, h⟩ := bnd1_some h
   refine G_q rfl (zaf (m_dataspace_belongs_ok _ _ _ hy3) Tryz.func32 (by kernel_rfl) (LEs.cons (AV.le_eq rfl) (LEs.cons (AV.le_eq rfl) LEs.nil)) ?_)
   refine G_q rfl (op_not rfl ?_)
   refine qa (.xb (!y3)) rfl ?_
   refine G_nil (zaa ?_)
   refine kb (p := !y3) rfl h (fun hc h => ?_) (fun hc h => ?_)
   ·refine zac (kr ?_)
    refine qa (.xs ([] : List UInt8)) rfl ?_
    refine qa (.xi 18) rfl ?_
    refine G_nil (zaa (k_ret (kB_ret (kC_ret ?_))))
    obtain rfl := Option.some.inj h
    refine ke (pt (pt AF0 4 (.xs ([] : List UInt8))) 5 (.xi 18)) [] rfl ?_ ⟨rfl, rfl⟩
    exact so (lq rfl (lq rfl lt0))
   ·refine zac (kr ?_)
    refine qm (.row 4 zae a0) rfl ?_
    refine qm (.xs a1) rfl ?_
    obtain ⟨y4, hy4, h⟩ := bnd1_some h
    refine G_q rfl (zaf (m_dataspace_unbounded_ok _ _ _ hy4) Tryz.func33 (by kernel_rfl) (LEs.cons (AV.le_eq rfl) (LEs.cons (AV.le_eq rfl) LEs.nil)) ?_)
    refine qa (.xb y4) rfl ?_
    refine G_nil (zaa ?_)
    refine kb (p := y4) rfl h (fun hc h => ?_) (fun hc h => ?_)
    ·refine zac (kr ?_)
     refine qa (.xs ([] : List UInt8)) rfl ?_
     refine qa (.xi 17) rfl ?_
     refine G_nil (zaa (k_ret (kB_ret (kC_ret ?_))))
     obtain rfl := Option.some.inj h
     refine ke (pt (pt AF0 4 (.xs ([] : List UInt8))) 5 (.xi 17)) [] rfl ?_ ⟨rfl, rfl⟩
     exact so (lq rfl (lq rfl lt0))
    ·refine k_skip (kB_normal (zaa (zac (kr ?_))))
     refine qm (.row 4 zae a0) rfl ?_
     refine qm (.xs a1) rfl ?_
     obtain ⟨y5, hy5, h⟩ := bnd1_some h
     refine G_q rfl (zaf (m_dataspace_missing_ok _ _ _ hy5) Tryz.func35 (by kernel_rfl) (LEs.cons (AV.le_eq rfl) (LEs.cons (AV.le_eq rfl) LEs.nil)) ?_)
     obtain ⟨y6, hy6, h⟩ := bnd1_some h
     refine G_q rfl (zaf (m_finset_Product_ok _ _ hy6) Tryz.func34 (by kernel_rfl) (LEs.cons (AV.le_eq rfl) LEs.nil) ?_)
     refine G_q rfl (op_extract (av := .xs y6.1) rfl rfl ?_)
     refine G_q rfl (op_extract (av := .xi y6.2) rfl rfl ?_)
     refine qa (.xs y6.1) rfl ?_
     refine qa (.xi y6.2) rfl ?_
     refine G_nil (zaa (k_ret ?_))
     obtain rfl := Option.some.inj h
     refine ke (pt (pt AF0 4 (.xs y6.1)) 5 (.xi y6.2)) [] rfl ?_ ⟨rfl, rfl⟩
     exact so (lq rfl (lq rfl lt0))
end Go.Proofs.YtjlbdhicabgliaaGreat
/- The functions compute their models, by program. -/
namespace Go.Proofs.YtjlbdhicabgliaaGreat
open Go.RowKit
attribute [local irreducible] AV.exact AV.top AV.row AV.ptr AV.agg AV.tup AV.eptr AV.fn AV.nilq AV.nilqn opA opB opM opR Quiet Loud Reads wpG awp den Sub SubU Pure Fun vecI vecT boxI CellsAll CellsOf OneC LEs LEss
set_option maxRecDepth 100000

set_option maxHeartbeats 4000000 in
theorem m_value_Name_ok (a0 : Int) (r : (List UInt8)) (h : m_value_Name a0 = some r) : Pure Tryz.prog 85 [(.exact (.int .i64 a0))] (.exact (.string (bs r))) := by
 unfold m_value_Name at h
 refine Pure.ofFun (fun_of_awp Tryz.func85 rfl Tryz.ntmps85 (by simp) rfl (res1 rfl) fun E hE => k_end ?_)
 refine zac (kr ?_)
 refine qa (.xs ([] : List UInt8)) rfl ?_
 refine G_nil (zaa (zac ?_))
 refine k_join1_0 h (fun (x8_j3 : Bool) => (pt (pt AF0 0 (.xi a0)) 8 (.xb x8_j3))) (fun (x8_j3 : Bool) => []) (fun k3 h => ?_) (fun x8_j3 h => ?_)
 ·refine kr ?_
  refine qm (.xi a0) rfl ?_
  refine G_q rfl (op_lss rfl rfl ?_)
  refine qm (.xb (decide (a0 < 0))) rfl ?_
  refine G_split (p := a0 < 0) 5 rfl (fun hc => ?_) (fun hc => ?_)
  ·replace h := ite_t h hc
   refine G_n rfl rfl (G_n rfl rfl ?_)
   refine G_q rfl (op_pick_t rfl (av := .xb true) rfl ?_)
   refine G_nil ?_
   refine zad ⟨_, h, ?_⟩
   exact so (lq rfl (lq rfl lt0))
  ·replace h := ite_f h hc
   refine Gy_q rfl rfl rfl (zag (av := .xi a0) rfl ?_)
   refine Gy_q rfl rfl rfl (op_gtr rfl rfl ?_)
   refine G_q rfl (zak rfl (av := .xb (decide (65535 < a0))) rfl ?_)
   refine G_nil ?_
   refine zad ⟨_, h, ?_⟩
   exact so (lq rfl (lq rfl lt0))
 ·refine kb (p := x8_j3) rfl h (fun hc h => ?_) (fun hc h => ?_)
  ·refine zac (kr ?_)
   refine qa (.xs ([] : List UInt8)) rfl ?_
   refine G_nil (zaa (k_ret (kC_ret ?_)))
   obtain rfl := Option.some.inj h
   refine ke (pt AF0 2 (.xs ([] : List UInt8))) [] rfl ?_ ⟨rfl, rfl⟩
   exact so (lq rfl lt0)
  ·refine k_skip (zaa (zac (kr ?_)))
   refine G_l rfl (op_litI (n := 1) (enc := c_uint8) [10] (by kernel_rfl) (CellsAll.cons rfl CellsOf.int CellsAll.nil) rfl (by kernel_rfl) (LEss.cons (LEs.cons (AV.le_eq rfl) LEs.nil) LEss.nil) (fun v4 => ?_))
   refine qm (.xi a0) rfl ?_
   refine G_q rfl (op_convInt (k := .u16) (by kernel_rfl) rfl rfl ?_)
   obtain ⟨y5, hy5, h⟩ := bnd1_some h
   refine G_l rfl (op_fun_1_1_1 (m_value_append16_ok _ _ _ hy5) Tryz.func109 (by kernel_rfl) (LEs.cons (AV.le_eq rfl) (LEs.cons (AV.le_eq rfl) LEs.nil)) (fun v6 => ?_))
   refine G_r rfl (op_bytesS_bor rfl (by kernel_rfl) (Bor.vec (List.Mem.head _) len_c_uint8) ?_)
   refine qa (.xs y5) rfl ?_
   refine G_nil (zaa (k_ret ?_))
   obtain rfl := Option.some.inj h
   refine ke (pt AF0 2 (.xs y5)) [] rfl ?_ ⟨rfl, rfl⟩
   refine Sub.trans (SubU.to SubU.drop) ?_
   exact so (lq rfl lt0)
set_option maxHeartbeats 4000000 in
theorem m_value_Dot_ok (a0 : Int) (a1 : List (List UInt8)) (r : (List UInt8)) (h : m_value_Dot a0 a1 = some r) : Pure Tryz.prog 40 [(.exact (.int .i64 a0)), (.row 1 zab a1)] (.exact (.string (bs r))) := by
 unfold m_value_Dot at h
 refine Pure.ofFun (fun_of_awp Tryz.func40 rfl Tryz.ntmps40 (by simp) rfl (res1 rfl) fun E hE => k_end ?_)
 refine zac (kr ?_)
 refine qa (.xs ([] : List UInt8)) rfl ?_
 refine G_nil (zaa (zac (kr ?_)))
 refine qm (.xi a0) rfl ?_
 obtain ⟨y1, hy1, h⟩ := bnd1_some h
 refine G_q rfl (zaf (m_value_Name_ok _ _ hy1) Tryz.func85 (by kernel_rfl) (LEs.cons (AV.le_eq rfl) LEs.nil) ?_)
 refine G_l rfl (op_litI (n := 1) (enc := zab) [y1] (by kernel_rfl) (CellsAll.cons rfl CellsOf.str CellsAll.nil) rfl (by kernel_rfl) (LEss.cons (LEs.cons (AV.le_eq rfl) LEs.nil) LEss.nil) (fun v2 => ?_))
 refine qm (.row 1 zab a1) rfl ?_
 obtain ⟨n3, h⟩ := need_some h
 refine G_l rfl (op_appT (by kernel_rfl) rfl rfl oc_c_api_Value n3 (fun v4 => ?_))
 refine G_sub rfl (SubU.freezeT (s := 9) rfl len_c_api_Value) ?_
 obtain ⟨y5, hy5, h⟩ := bnd1_some h
 refine G_q rfl (zaf (m_value_compound_ok _ _ _ hy5) Tryz.func84 (by kernel_rfl) (LEs.cons (AV.le_eq rfl) (LEs.cons (AV.le_eq rfl) LEs.nil)) ?_)
 refine qa (.xs y5) rfl ?_
 refine G_nil (zaa (k_ret ?_))
 obtain rfl := Option.some.inj h
 refine ke (pt AF0 4 (.xs y5)) [] rfl ?_ ⟨rfl, rfl⟩
 exact so (lq rfl lt0)
set_option maxHeartbeats 4000000 in
theorem m_dataspace_Join_ok (a0 : List ((List UInt8) × Int × (List Int) × (List (List UInt8)))) (a1 : List UInt8) (a2 : List UInt8) (r : (List UInt8) × Int) (h : m_dataspace_Join a0 a1 a2 = some r) : Pure Tryz.prog 10 [(.row 4 zae a0), (.exact (.string (bs a1))), (.exact (.string (bs a2)))] (.tup [.exact (.string (bs r.1)), .exact (.int .i64 r.2)]) := by
 unfold m_dataspace_Join at h
 refine Pure.ofFun (fun_of_awp Tryz.func10 rfl Tryz.ntmps10 (by simp) rfl (res2 rfl) fun E hE => k_end ?_)
 refine zac (kr ?_)
 refine qa (.xs ([] : List UInt8)) rfl ?_
 refine qa (.xi 0) rfl ?_
 refine G_nil (zaa (zac (kr ?_)))
 refine qm (.xs a1) rfl ?_
 obtain ⟨y1, hy1, h⟩ := bnd1_some h
 refine G_q rfl (zaf (m_dataspace_split_ok _ _ hy1) Tryz.func36 (by kernel_rfl) (LEs.cons (AV.le_eq rfl) LEs.nil) ?_)
 refine qm (.tup [.xi y1.1, .row 1 zab y1.2.1, .xb y1.2.2]) rfl ?_
 refine G_q rfl (op_extract (av := .xi y1.1) rfl rfl ?_)
 refine G_q rfl (op_extract (av := .row 1 zab y1.2.1) rfl rfl ?_)
 refine G_q rfl (op_extract (av := .xb y1.2.2) rfl rfl ?_)
 refine qa (.xi y1.1) rfl ?_
 refine qa (.row 1 zab y1.2.1) rfl ?_
 refine qa (.xb y1.2.2) rfl ?_
 refine G_nil (zaa (zac (k_block (zac (kr ?_)))))
 refine qm (.row 4 zae a0) rfl ?_
 obtain ⟨y9, hy9, h⟩ := bnd1_some h
 refine G_q rfl (zaf (m_dataspace_Valid_ok _ _ hy9) Tryz.func30 (by kernel_rfl) (LEs.cons (AV.le_eq rfl) LEs.nil) ?_)
 refine G_q rfl (op_not rfl ?_)
 refine qa (.xb (!y9)) rfl ?_
 refine G_nil (zaa ?_)
 refine kb (p := !y9) rfl h (fun hc h => ?_) (fun hc h => ?_)
 ·refine zac (kr ?_)
  refine qa (.xs ([] : List UInt8)) rfl ?_
  refine qa (.xi 1) rfl ?_
  refine G_nil (zaa (k_ret (kB_ret (kC_ret ?_))))
  obtain rfl := Option.some.inj h
  refine ke (pt (pt AF0 6 (.xs ([] : List UInt8))) 7 (.xi 1)) [] rfl ?_ ⟨rfl, rfl⟩
  exact so (lq rfl (lq rfl lt0))
 ·refine k_join1_0 h (fun (x23_j10 : Bool) => (pt (pt (pt (pt (pt (pt AF0 0 (.row 4 zae a0)) 1 (.xs a1)) 2 (.xs a2)) 8 (.xi y1.1)) 9 (.row 1 zab y1.2.1)) 23 (.xb x23_j10))) (fun (x23_j10 : Bool) => []) (fun k10 h => ?_) (fun x23_j10 h => ?_)
  ·refine kr ?_
   refine qm (.xb y1.2.2) rfl ?_
   refine G_q rfl (op_not rfl ?_)
   refine qm (.xb (!y1.2.2)) rfl ?_
   refine G_splitB (c := !y1.2.2) 26 rfl (fun hc => ?_) (fun hc => ?_)
   ·replace h := ite_t h hc
    refine G_n rfl rfl (G_n rfl rfl (G_n rfl rfl ?_))
    refine G_q rfl (op_pick_t rfl (av := .xb true) rfl ?_)
    refine qa (.xb true) rfl ?_
    refine G_nil ?_
    refine zad ⟨_, h, ?_⟩
    exact so (l4 rfl rfl rfl rfl (lq rfl (lq rfl lt0)))
   ·replace h := ite_f h hc
    refine Gy_q rfl rfl rfl (zag (av := .xs a2) rfl ?_)
    obtain ⟨y12, hy12, h⟩ := bnd1_some h
    refine Gy_q rfl rfl rfl (zaf (m_value_Valid_ok _ _ hy12) Tryz.func37 (by kernel_rfl) (LEs.cons (AV.le_eq rfl) LEs.nil) ?_)
    refine Gy_q rfl rfl rfl (op_not rfl ?_)
    refine G_q rfl (zak rfl (av := .xb (!y12)) rfl ?_)
    refine qa (.xb (!y12)) rfl ?_
    refine G_nil ?_
    refine zad ⟨_, h, ?_⟩
    exact so (l4 rfl rfl rfl rfl (lq rfl (lq rfl lt0)))
  ·refine kb (p := x23_j10) rfl h (fun hc h => ?_) (fun hc h => ?_)
   ·refine zac (kr ?_)
    refine qa (.xs ([] : List UInt8)) rfl ?_
    refine qa (.xi 6) rfl ?_
    refine G_nil (zaa (k_ret (kB_ret (kC_ret ?_))))
    obtain rfl := Option.some.inj h
    refine ke (pt (pt AF0 6 (.xs ([] : List UInt8))) 7 (.xi 6)) [] rfl ?_ ⟨rfl, rfl⟩
    exact so (lq rfl (lq rfl lt0))
   ·refine zac (kr ?_)
    refine qm (.row 4 zae a0) rfl ?_
    refine qm (.xs a1) rfl ?_
    obtain ⟨y13, hy13, h⟩ := bnd1_some h
    refine G_q rfl (zaf (m_dataspace_belongs_ok _ _ _ hy13) Tryz.func32 (by kernel_rfl) (LEs.cons (AV.le_eq rfl) (LEs.cons (AV.le_eq rfl) LEs.nil)) ?_)
    refine G_q rfl (op_not rfl ?_)
    refine qa (.xb (!y13)) rfl ?_
    refine G_nil (zaa ?_)
    refine kb (p := !y13) rfl h (fun hc h => ?_) (fun hc h => ?_)
    ·refine zac (kr ?_)
     refine qa (.xs ([] : List UInt8)) rfl ?_
     refine qa (.xi 18) rfl ?_
     refine G_nil (zaa (k_ret (kB_ret (kC_ret ?_))))
     obtain rfl := Option.some.inj h
     refine ke (pt (pt AF0 6 (.xs ([] : List UInt8))) 7 (.xi 18)) [] rfl ?_ ⟨rfl, rfl⟩
     exact so (lq rfl (lq rfl lt0))
    ·refine zac (kr ?_)
     refine qm (.row 4 zae a0) rfl ?_
     refine qm (.xs a1) rfl ?_
     obtain ⟨y14, hy14, h⟩ := bnd1_some h
     refine G_q rfl (zaf (m_dataspace_missing_ok _ _ _ hy14) Tryz.func35 (by kernel_rfl) (LEs.cons (AV.le_eq rfl) (LEs.cons (AV.le_eq rfl) LEs.nil)) ?_)
     refine G_q rfl (zai (by kernel_rfl) rfl ?_)
     refine G_q rfl (op_eql rfl rfl ?_)
     refine qa (.xb (decide ((List.length y14 : Int) = 0))) rfl ?_
     refine G_nil (zaa ?_)
     refine kd (p := (List.length y14 : Int) = 0) rfl h (fun hc h => ?_) (fun hc h => ?_)
     ·refine zac (kr ?_)
      refine qa (.xs ([] : List UInt8)) rfl ?_
      refine qa (.xi 6) rfl ?_
      refine G_nil (zaa (k_ret (kB_ret (kC_ret ?_))))
      obtain rfl := Option.some.inj h
      refine ke (pt (pt AF0 6 (.xs ([] : List UInt8))) 7 (.xi 6)) [] rfl ?_ ⟨rfl, rfl⟩
      exact so (lq rfl (lq rfl lt0))
     ·refine k_skip (kB_normal (zaa (zac (zac (kr ?_)))))
      refine qm (.row 4 zae a0) rfl ?_
      refine qm (.xs a1) rfl ?_
      obtain ⟨y23, hy23, h⟩ := bnd1_some h
      refine G_q rfl (zaf (m_dataspace_missing_ok _ _ _ hy23) Tryz.func35 (by kernel_rfl) (LEs.cons (AV.le_eq rfl) (LEs.cons (AV.le_eq rfl) LEs.nil)) ?_)
      obtain ⟨n24, h⟩ := need_some h
      refine G_q rfl (zaj (by kernel_rfl) rfl rfl n24.1 n24.2 ?_)
      refine G_q rfl (op_load1p (a := .xs (gi y23 0)) (by kernel_rfl) rfl rfl ?_)
      refine qa (.xs (gi y23 0)) rfl ?_
      refine G_nil (zaa ?_)
      refine k_join1_0 h (fun (x55_j25 : Bool) => (pt (pt (pt (pt AF0 2 (.xs a2)) 8 (.xi y1.1)) 9 (.row 1 zab y1.2.1)) 55 (.xb x55_j25))) (fun (x55_j25 : Bool) => []) (fun k25 h => ?_) (fun x55_j25 h => ?_)
      ·refine kr ?_
       refine qm (.xs (gi y23 0)) rfl ?_
       refine G_q rfl (op_neqS rfl rfl ?_)
       refine qm (.xb (decide (¬ (gi y23 0) = ([] : List UInt8)))) rfl ?_
       refine G_split (p := ¬ (gi y23 0) = ([] : List UInt8)) 49 rfl (fun hc => ?_) (fun hc => ?_)
       ·replace h := ite_t h hc
        refine Gy_q rfl rfl rfl (zag (av := .xs (gi y23 0)) rfl ?_)
        obtain ⟨y28, hy28, h⟩ := bnd1_some h
        refine Gy_q rfl rfl rfl (zaf (m_value_Parts_ok _ _ hy28) Tryz.func39 (by kernel_rfl) (LEs.cons (AV.le_eq rfl) LEs.nil) ?_)
        refine Gy_q rfl rfl rfl (zag (av := .xs a2) rfl ?_)
        obtain ⟨y29, hy29, h⟩ := bnd1_some h
        refine Gy_q rfl rfl rfl (zaf (m_slices_Contains_L_api_Value_api_Value_ok _ _ _ hy29) Tryz.func38 (by kernel_rfl) (LEs.cons (AV.le_eq rfl) (LEs.cons (AV.le_eq rfl) LEs.nil)) ?_)
        refine Gy_q rfl rfl rfl (op_not rfl ?_)
        refine G_q rfl (op_pick_t rfl (av := .xb (!y29)) rfl ?_)
        refine G_nil ?_
        refine zad ⟨_, h, ?_⟩
        exact so (l4 rfl rfl rfl rfl lt0)
       ·replace h := ite_f h hc
        refine G_n rfl rfl (G_n rfl rfl (G_n rfl rfl (G_n rfl rfl (G_n rfl rfl ?_))))
        refine G_q rfl (zak rfl (av := .xb false) rfl ?_)
        refine G_nil ?_
        refine zad ⟨_, h, ?_⟩
        exact so (l4 rfl rfl rfl rfl lt0)
      ·refine kb (p := x55_j25) rfl h (fun hc h => ?_) (fun hc h => ?_)
       ·refine zac (kr ?_)
        refine qa (.xs ([] : List UInt8)) rfl ?_
        refine qa (.xi 18) rfl ?_
        refine G_nil (zaa (k_ret (kC_ret ?_)))
        obtain rfl := Option.some.inj h
        refine ke (pt (pt AF0 6 (.xs ([] : List UInt8))) 7 (.xi 18)) [] rfl ?_ ⟨rfl, rfl⟩
        exact so (lq rfl (lq rfl lt0))
       ·refine k_skip (zaa (zac (kr ?_)))
        refine qm (.xi y1.1) rfl ?_
        refine qm (.row 1 zab y1.2.1) rfl ?_
        obtain ⟨y30, hy30, h⟩ := bnd1_some h
        refine G_l rfl (op_fun_0_1_1 (m_slices_Clone_L_api_Value_api_Value_ok _ _ hy30) Tryz.func41 (by kernel_rfl) (LEs.cons (AV.le_eq rfl) LEs.nil) (fun v31 => ?_))
        refine qm (.xs a2) rfl ?_
        refine G_q rfl (op_litT (n := 1) (enc := zab) [a2] (CellsAll.cons rfl CellsOf.str CellsAll.nil) rfl (by kernel_rfl) (LEss.cons (LEs.cons (AV.le_eq rfl) LEs.nil) LEss.nil) ?_)
        obtain ⟨n32, h⟩ := need_some h
        refine G_l rfl (op_appT (by kernel_rfl) rfl rfl oc_c_api_Value n32 (fun v33 => ?_))
        refine G_sub rfl (SubU.freezeT (s := 61) rfl len_c_api_Value) ?_
        obtain ⟨y34, hy34, h⟩ := bnd1_some h
        refine G_q rfl (zaf (m_value_Dot_ok _ _ _ hy34) Tryz.func40 (by kernel_rfl) (LEs.cons (AV.le_eq rfl) (LEs.cons (AV.le_eq rfl) LEs.nil)) ?_)
        refine qa (.xs y34) rfl ?_
        refine G_nil (zaa (zac (zac (kr ?_))))
        refine qm (.xs y34) rfl ?_
        refine G_q rfl (op_eqlS rfl rfl ?_)
        refine G_nil (zaa ?_)
        refine kd (p := y34 = ([] : List UInt8)) rfl h (fun hc h => ?_) (fun hc h => ?_)
        ·refine zac (kr ?_)
         refine qa (.xs ([] : List UInt8)) rfl ?_
         refine qa (.xi 9) rfl ?_
         refine G_nil (zaa (k_ret (kC_ret ?_)))
         obtain rfl := Option.some.inj h
         refine ke (pt (pt AF0 6 (.xs ([] : List UInt8))) 7 (.xi 9)) [] rfl ?_ ⟨rfl, rfl⟩
         exact so (lq rfl (lq rfl lt0))
        ·refine k_skip (zaa (zac (kr ?_)))
         refine qm (.xs y34) rfl ?_
         refine qa (.xs y34) rfl ?_
         refine qa (.xi 0) rfl ?_
         refine G_nil (zaa (k_ret ?_))
         obtain rfl := Option.some.inj h
         refine ke (pt (pt AF0 6 (.xs y34)) 7 (.xi 0)) [] rfl ?_ ⟨rfl, rfl⟩
         exact so (lq rfl (lq rfl lt0))
set_option maxHeartbeats 4000000 in
theorem m_dataspace_choices_ok (a0 : List (List UInt8)) (r : (List (List (List UInt8))) × Bool) (h : m_dataspace_choices a0 = some r) : Pure Tryz.prog 86 [(.row 1 zab a0)] (.tup [.row 1 zah r.1, .exact (.bool r.2)]) := by
 unfold m_dataspace_choices at h
 refine Pure.ofFun (fun_of_awp Tryz.func86 rfl Tryz.ntmps86 (by simp) rfl (res2 rfl) fun E hE => k_end ?_)
 refine zac (kr ?_)
 refine qa (.exact (.slice none 0 0)) rfl ?_
 refine qa (.xb false) rfl ?_
 refine G_nil (zaa ?_)
 refine k_join0_0 h ((pt AF0 0 (.row 1 zab a0))) ([]) (fun k1 h => ?_) (fun  h => ?_)
 ·refine zac (kr ?_)
  refine qm (.row 1 zab a0) rfl ?_
  refine G_q rfl (zai (by kernel_rfl) rfl ?_)
  refine qm (.xi 0) rfl ?_
  refine G_nil (zaa (k_block ?_))
  refine k_loop1_0 (m_dataspace_choices_L2 a0 k1) (m_dataspace_choices_B2 a0 k1) (fun _ => rfl) (fun m _ => rfl) h (fun (x17_l2 : Int) => (pt (pt (pt (pt AF0 0 (.row 1 zab a0)) 15 (.row 1 zab a0)) 16 (.xi (List.length a0 : Int))) 17 (.xi x17_l2))) (fun (x17_l2 : Int) => []) ?_ (fun rec2 x17_l2 h => ?_)
  ·exact so (l4 rfl rfl rfl rfl lt0)
  ·unfold m_dataspace_choices_B2 at h
   refine zac (kr ?_)
   refine G_q rfl (op_lss rfl rfl ?_)
   refine G_nil (zaa (zac ?_))
   refine kd (p := x17_l2 < (List.length a0 : Int)) rfl h (fun hc h => ?_) (fun hc h => ?_)
   ·refine k_skip (zaa (zac (k_block (zac (kr ?_)))))
    obtain ⟨n13, h⟩ := need_some h
    refine G_q rfl (zaj (by kernel_rfl) rfl rfl n13.1 n13.2 ?_)
    refine G_q rfl (op_load1p (a := .xs (gi a0 x17_l2)) (by kernel_rfl) rfl rfl ?_)
    refine qa (.xs (gi a0 x17_l2)) rfl ?_
    refine G_nil (zaa (zac (kr ?_)))
    refine qm (.xs (gi a0 x17_l2)) rfl ?_
    obtain ⟨y14, hy14, h⟩ := bnd1_some h
    refine G_q rfl (zaf (m_value_Parts_ok _ _ hy14) Tryz.func39 (by kernel_rfl) (LEs.cons (AV.le_eq rfl) LEs.nil) ?_)
    refine G_q rfl (zai (by kernel_rfl) rfl ?_)
    refine G_q rfl (op_eql rfl rfl ?_)
    refine G_nil (zaa ?_)
    refine kd (p := (List.length y14 : Int) = 0) rfl h (fun hc h => ?_) (fun hc h => ?_)
    ·refine zac (kr ?_)
     refine qa (.exact (.slice none 0 0)) rfl ?_
     refine qa (.xb true) rfl ?_
     refine G_nil (zaa (k_ret (kB_ret (kC_ret (kI_ret (kB_ret (kI_ret ?_)))))))
     obtain rfl := Option.some.inj h
     refine ke (pt (pt AF0 2 (.row 1 zah [])) 3 (.xb true)) [] rfl ?_ ⟨rfl, rfl⟩
     exact so (lq rfl (AF.le_put (row_nil (by decide)) lt0))
    ·refine k_skip (kB_normal (zaa (kr ?_)))
     refine G_q rfl (op_add rfl rfl rfl ?_)
     refine qm (.xi (i64 (x17_l2 + 1))) rfl ?_
     refine G_nil ?_
     refine zad ⟨_, h, ?_⟩
     exact so (l4 rfl rfl rfl rfl lt0)
   ·refine k_exit (kC_exit (kI_exit (kB_exit ?_)))
    refine zad ⟨h, ?_⟩
    exact so (lq rfl lt0)
 ·refine zac (kr ?_)
  refine G_q rfl (op_litT (n := 1) (enc := zah) [([] : List (List UInt8))] (CellsAll.cons rfl CellsOf.slice CellsAll.nil) rfl (by kernel_rfl) (LEss.cons (LEs.cons (row_nil (by decide)) LEs.nil) LEss.nil) ?_)
  refine qa (.row 1 zah ([([] : List (List UInt8))])) rfl ?_
  refine G_nil (zaa ?_)
  refine k_join1_0 h (fun (x6_j15 : List (List (List UInt8))) => (pt AF0 6 (.row 1 zah x6_j15))) (fun (x6_j15 : List (List (List UInt8))) => []) (fun k15 h => ?_) (fun x6_j15 h => ?_)
  ·refine zac (kr ?_)
   refine qm (.row 1 zab a0) rfl ?_
   refine G_q rfl (zai (by kernel_rfl) rfl ?_)
   refine qm (.xi 0) rfl ?_
   refine G_nil (zaa (k_block ?_))
   refine k_loop2_0 (m_dataspace_choices_L88 a0 k15) (m_dataspace_choices_B88 a0 k15) (fun _ _ => rfl) (fun m _ _ => rfl) h (fun (x6_l88 : List (List (List UInt8))) (x29_l88 : Int) => (pt (pt (pt (pt AF0 6 (.row 1 zah x6_l88)) 27 (.row 1 zab a0)) 28 (.xi (List.length a0 : Int))) 29 (.xi x29_l88))) (fun (x6_l88 : List (List (List UInt8))) (x29_l88 : Int) => []) ?_ (fun rec88 x6_l88 x29_l88 h => ?_)
   ·exact so (l4 rfl rfl rfl rfl lt0)
   ·unfold m_dataspace_choices_B88 at h
    refine zac (kr ?_)
    refine G_q rfl (op_lss rfl rfl ?_)
    refine G_nil (zaa (zac ?_))
    refine kd (p := x29_l88 < (List.length a0 : Int)) rfl h (fun hc h => ?_) (fun hc h => ?_)
    ·refine k_skip (zaa ?_)
     refine k_join1_1 h (fun (x6_j2892 : List (List (List UInt8))) (v6_j2892 : Value) => (pt (pt (pt (pt AF0 6 (.exact v6_j2892)) 27 (.row 1 zab a0)) 28 (.xi (List.length a0 : Int))) 29 (.xi x29_l88))) (fun (x6_j2892 : List (List (List UInt8))) (v6_j2892 : Value) => [vecT Tryz.prog 91 1 zah v6_j2892 x6_j2892]) (fun k2892 h => ?_) (fun x6_j2892 v6_j2892 h => ?_)
     ·refine k_block (zac (kr ?_))
      obtain ⟨n3180, h⟩ := need_some h
      refine G_q rfl (zaj (by kernel_rfl) rfl rfl n3180.1 n3180.2 ?_)
      refine G_q rfl (op_load1p (a := .xs (gi a0 x29_l88)) (by kernel_rfl) rfl rfl ?_)
      refine qa (.xs (gi a0 x29_l88)) rfl ?_
      refine G_nil (zaa (zac (kr ?_)))
      refine qm (.xs (gi a0 x29_l88)) rfl ?_
      obtain ⟨y3181, hy3181, h⟩ := bnd1_some h
      refine G_q rfl (zaf (m_value_Parts_ok _ _ hy3181) Tryz.func39 (by kernel_rfl) (LEs.cons (AV.le_eq rfl) LEs.nil) ?_)
      refine qa (.row 1 zab y3181) rfl ?_
      refine G_nil (zaa (zac (zac (kr ?_))))
      refine qm (.row 1 zah x6_l88) rfl ?_
      refine G_q rfl (zai (by kernel_rfl) rfl ?_)
      refine qm (.row 1 zab y3181) rfl ?_
      refine G_q rfl (zai (by kernel_rfl) rfl ?_)
      refine G_q rfl (op_mul rfl rfl rfl ?_)
      refine G_q rfl (op_gtr rfl rfl ?_)
      refine G_nil (zaa ?_)
      refine kd (p := 4096 < (i64 ((List.length x6_l88 : Int) * (List.length y3181 : Int)))) rfl h (fun hc h => ?_) (fun hc h => ?_)
      ·refine zac (kr ?_)
       refine qa (.exact (.slice none 0 0)) rfl ?_
       refine qa (.xb false) rfl ?_
       refine G_nil (zaa (k_ret (kC_ret (kB_ret (kI_ret (kI_ret (kB_ret (kI_ret ?_))))))))
       obtain rfl := Option.some.inj h
       refine ke (pt (pt AF0 2 (.row 1 zah [])) 3 (.xb false)) [] rfl ?_ ⟨rfl, rfl⟩
       exact so (lq rfl (AF.le_put (row_nil (by decide)) lt0))
      ·refine k_skip (zaa (zac (kr ?_)))
       refine qa (.exact (.slice none 0 0)) rfl ?_
       refine G_nil (zaa ?_)
       refine k_join1_1 h (fun (x10_j3182 : List (List (List UInt8))) (v10_j3182 : Value) => (pt (pt (pt (pt AF0 10 (.exact v10_j3182)) 27 (.row 1 zab a0)) 28 (.xi (List.length a0 : Int))) 29 (.xi x29_l88))) (fun (x10_j3182 : List (List (List UInt8))) (v10_j3182 : Value) => [vecT Tryz.prog 91 1 zah v10_j3182 x10_j3182]) (fun k3182 h => ?_) (fun x10_j3182 v10_j3182 h => ?_)
       ·refine zac (kr ?_)
        refine qm (.row 1 zah x6_l88) rfl ?_
        refine G_q rfl (zai (by kernel_rfl) rfl ?_)
        refine qm (.xi 0) rfl ?_
        refine G_nil (zaa (k_block ?_))
        refine k_loop2_1 (m_dataspace_choices_L166 x6_l88 y3181 k3182) (m_dataspace_choices_B166 x6_l88 y3181 k3182) (fun _ _ => rfl) (fun m _ _ => rfl) h (fun (x10_l166 : List (List (List UInt8))) (x43_l166 : Int) (v10_l166 : Value) => (pt (pt (pt (pt (pt (pt (pt (pt AF0 9 (.row 1 zab y3181)) 10 (.exact v10_l166)) 27 (.row 1 zab a0)) 28 (.xi (List.length a0 : Int))) 29 (.xi x29_l88)) 41 (.row 1 zah x6_l88)) 42 (.xi (List.length x6_l88 : Int))) 43 (.xi x43_l166))) (fun (x10_l166 : List (List (List UInt8))) (x43_l166 : Int) (v10_l166 : Value) => [vecT Tryz.prog 91 1 zah v10_l166 x10_l166]) (.slice none 0 0) ?_ (fun rec166 x10_l166 x43_l166 v10_l166 h => ?_)
        ·refine Sub.trans (SubU.to (SubU.nilT (P := Tryz.prog) (t := 91) (n := 1) (enc := zah))) ?_
         exact so (l4 rfl rfl rfl rfl (l4 rfl rfl rfl rfl lt0))
        ·unfold m_dataspace_choices_B166 at h
         refine zac (kr ?_)
         refine G_q rfl (op_lss rfl rfl ?_)
         refine G_nil (zaa (zac ?_))
         refine kd (p := x43_l166 < (List.length x6_l88 : Int)) rfl h (fun hc h => ?_) (fun hc h => ?_)
         ·refine k_skip (zaa ?_)
          refine k_join1_1 h (fun (x10_j3419 : List (List (List UInt8))) (v10_j3419 : Value) => (pt (pt (pt (pt (pt (pt (pt (pt AF0 9 (.row 1 zab y3181)) 10 (.exact v10_j3419)) 27 (.row 1 zab a0)) 28 (.xi (List.length a0 : Int))) 29 (.xi x29_l88)) 41 (.row 1 zah x6_l88)) 42 (.xi (List.length x6_l88 : Int))) 43 (.xi x43_l166))) (fun (x10_j3419 : List (List (List UInt8))) (v10_j3419 : Value) => [vecT Tryz.prog 91 1 zah v10_j3419 x10_j3419]) (fun k3419 h => ?_) (fun x10_j3419 v10_j3419 h => ?_)
          ·refine k_block (zac (kr ?_))
           obtain ⟨n3443, h⟩ := need_some h
           refine G_q rfl (zaj (by kernel_rfl) rfl rfl n3443.1 n3443.2 ?_)
           refine G_q rfl (op_load1p (a := .row 1 zab (gi x6_l88 x43_l166)) (by kernel_rfl) rfl rfl ?_)
           refine qa (.row 1 zab (gi x6_l88 x43_l166)) rfl ?_
           refine G_nil (zaa (zac (kr ?_)))
           refine qm (.row 1 zab y3181) rfl ?_
           refine G_q rfl (zai (by kernel_rfl) rfl ?_)
           refine qm (.xi 0) rfl ?_
           refine G_nil (zaa (k_block ?_))
           refine k_loop2_1 (m_dataspace_choices_L172 x6_l88 y3181 x43_l166 k3419) (m_dataspace_choices_B172 x6_l88 y3181 x43_l166 k3419) (fun _ _ => rfl) (fun m _ _ => rfl) h (fun (x10_l172 : List (List (List UInt8))) (x49_l172 : Int) (v10_l172 : Value) => (pt (pt (pt (pt (pt (pt (pt (pt (pt (pt (pt (pt AF0 9 (.row 1 zab y3181)) 10 (.exact v10_l172)) 12 (.row 1 zab (gi x6_l88 x43_l166))) 27 (.row 1 zab a0)) 28 (.xi (List.length a0 : Int))) 29 (.xi x29_l88)) 41 (.row 1 zah x6_l88)) 42 (.xi (List.length x6_l88 : Int))) 43 (.xi x43_l166)) 47 (.row 1 zab y3181)) 48 (.xi (List.length y3181 : Int))) 49 (.xi x49_l172))) (fun (x10_l172 : List (List (List UInt8))) (x49_l172 : Int) (v10_l172 : Value) => [vecT Tryz.prog 91 1 zah v10_l172 x10_l172]) v10_l166 ?_ (fun rec172 x10_l172 x49_l172 v10_l172 h => ?_)
           ·exact so (l4 rfl rfl rfl rfl (l4 rfl rfl rfl rfl (l4 rfl rfl rfl rfl lt0)))
           ·unfold m_dataspace_choices_B172 at h
            refine zac (kr ?_)
            refine G_q rfl (op_lss rfl rfl ?_)
            refine G_nil (zaa (zac ?_))
            refine kd (p := x49_l172 < (List.length y3181 : Int)) rfl h (fun hc h => ?_) (fun hc h => ?_)
            ·refine k_skip (zaa (zac (k_block (zac (kr ?_)))))
             obtain ⟨n3458, h⟩ := need_some h
             refine G_q rfl (zaj (by kernel_rfl) rfl rfl n3458.1 n3458.2 ?_)
             refine G_q rfl (op_load1p (a := .xs (gi y3181 x49_l172)) (by kernel_rfl) rfl rfl ?_)
             refine qa (.xs (gi y3181 x49_l172)) rfl ?_
             refine G_nil (zaa (kr ?_))
             refine qm (.exact v10_l172) rfl ?_
             refine qm (.row 1 zab (gi x6_l88 x43_l166)) rfl ?_
             obtain ⟨y3459, hy3459, h⟩ := bnd1_some h
             refine G_l rfl (op_fun_0_1_1 (m_slices_Clone_L_api_Value_api_Value_ok _ _ hy3459) Tryz.func41 (by kernel_rfl) (LEs.cons (AV.le_eq rfl) LEs.nil) (fun v3460 => ?_))
             refine qm (.xs (gi y3181 x49_l172)) rfl ?_
             refine G_q rfl (op_litT (n := 1) (enc := zab) [gi y3181 x49_l172] (CellsAll.cons rfl CellsOf.str CellsAll.nil) rfl (by kernel_rfl) (LEss.cons (LEs.cons (AV.le_eq rfl) LEs.nil) LEss.nil) ?_)
             obtain ⟨n3461, h⟩ := need_some h
             refine G_l rfl (op_appT (by kernel_rfl) rfl rfl oc_c_api_Value n3461 (fun v3462 => ?_))
             refine G_sub rfl (SubU.freezeT (s := 58) rfl len_c_api_Value) ?_
             refine G_q rfl (op_litT (n := 1) (enc := zah) [(y3459 ++ [gi y3181 x49_l172])] (CellsAll.cons rfl CellsOf.row CellsAll.nil) rfl (by kernel_rfl) (LEss.cons (LEs.cons (AV.le_eq rfl) LEs.nil) LEss.nil) ?_)
             obtain ⟨n3463, h⟩ := need_some h
             refine G_l rfl (op_appT (by kernel_rfl) rfl rfl oc_c_L_api_Value n3463 (fun v3464 => ?_))
             refine qa (.exact v3464) rfl ?_
             refine G_nil (kB_normal (zaa (kr ?_)))
             refine G_q rfl (op_add rfl rfl rfl ?_)
             refine qm (.xi (i64 (x49_l172 + 1))) rfl ?_
             refine G_nil ?_
             refine zad ⟨_, _, v3464, h, ?_⟩
             exact so (l4 rfl rfl rfl rfl (l4 rfl rfl rfl rfl (l4 rfl rfl rfl rfl lt0)))
            ·refine k_exit (kC_exit (kI_exit (kB_exit (kB_normal ?_))))
             refine zad ⟨_, v10_l172, h, ?_⟩
             exact so (l4 rfl rfl rfl rfl (l4 rfl rfl rfl rfl lt0))
          ·refine kr ?_
           refine G_q rfl (op_add rfl rfl rfl ?_)
           refine qm (.xi (i64 (x43_l166 + 1))) rfl ?_
           refine G_nil ?_
           refine zad ⟨_, _, v10_j3419, h, ?_⟩
           exact so (l4 rfl rfl rfl rfl (l4 rfl rfl rfl rfl lt0))
         ·refine k_exit (kC_exit (kI_exit (kB_exit ?_)))
          refine zad ⟨_, v10_l166, h, ?_⟩
          exact so (l4 rfl rfl rfl rfl lt0)
       ·refine kr ?_
        refine qm (.exact v10_j3182) rfl ?_
        refine qa (.exact v10_j3182) rfl ?_
        refine G_nil (kB_normal ?_)
        refine zad ⟨_, v10_j3182, h, ?_⟩
        exact so (l4 rfl rfl rfl rfl lt0)
     ·refine kr ?_
      refine G_q rfl (op_add rfl rfl rfl ?_)
      refine qm (.xi (i64 (x29_l88 + 1))) rfl ?_
      refine G_nil ?_
      refine zad ⟨_, _, h, ?_⟩
      refine Sub.trans (SubU.to (SubU.freezeT (s := 6) rfl len_c_L_api_Value)) ?_
      exact so (l4 rfl rfl rfl rfl lt0)
    ·refine k_exit (kC_exit (kI_exit (kB_exit ?_)))
     refine zad ⟨_, h, ?_⟩
     exact so (lq rfl lt0)
  ·refine zac (kr ?_)
   refine qm (.row 1 zah x6_j15) rfl ?_
   refine qa (.row 1 zah x6_j15) rfl ?_
   refine qa (.xb true) rfl ?_
   refine G_nil (zaa (k_ret ?_))
   obtain rfl := Option.some.inj h
   refine ke (pt (pt AF0 2 (.row 1 zah x6_j15)) 3 (.xb true)) [] rfl ?_ ⟨rfl, rfl⟩
   exact so (lq rfl (lq rfl lt0))
set_option maxHeartbeats 4000000 in
theorem m_slices_Grow_L_api_Value_api_Value_ok (a1 : Int) (r : (List (List UInt8))) (h : m_slices_Grow_L_api_Value_api_Value a1 = some r) : Fun Tryz.prog 112 [(.exact (.slice none 0 0)), (.exact (.int .i64 a1))] [] (fun a s => ∃ z0, a = .exact z0 ∧ s = [vecT Tryz.prog 23 1 zab z0 r]) := by
 unfold m_slices_Grow_L_api_Value_api_Value at h
 refine fun_of_awp Tryz.func112 rfl Tryz.ntmps112 (by simp) rfl (res1 rfl) fun E hE => k_end ?_
 refine zac (kr ?_)
 refine qa (.exact (.slice none 0 0)) rfl ?_
 refine G_nil (zaa (zac (zac (kr ?_))))
 refine qm (.xi a1) rfl ?_
 refine G_q rfl (op_lss rfl rfl ?_)
 refine G_nil (zaa ?_)
 refine kd (p := a1 < 0) rfl h (fun hc h => ?_) (fun hc h => ?_)
 ·cases h
 ·refine k_skip (zaa ?_)
  refine k_join1_1 h (fun (x0_j2 : List (List UInt8)) (v0_j2 : Value) => (pt AF0 0 (.exact v0_j2))) (fun (x0_j2 : List (List UInt8)) (v0_j2 : Value) => [vecT Tryz.prog 23 1 zab v0_j2 x0_j2]) (fun k2 h => ?_) (fun x0_j2 v0_j2 h => ?_)
  ·refine zac (kr ?_)
   refine qm (.xi a1) rfl ?_
   refine qm (.exact (.slice none 0 0)) rfl ?_
   refine G_q rfl (op_cap_nil (by kernel_rfl) rfl ?_)
   refine qm (.exact (.slice none 0 0)) rfl ?_
   refine G_q rfl (op_len_slice (by kernel_rfl) rfl ?_)
   refine G_q rfl (op_sub rfl rfl rfl ?_)
   refine G_q rfl (op_sub rfl rfl rfl ?_)
   refine qa (.xi (i64 (a1 - (i64 (0 - 0))))) rfl ?_
   refine G_nil (zaa (zac (kr ?_)))
   refine qm (.xi (i64 (a1 - (i64 (0 - 0))))) rfl ?_
   refine G_q rfl (op_gtr rfl rfl ?_)
   refine G_nil (zaa ?_)
   refine kd (p := 0 < (i64 (a1 - (i64 (0 - 0))))) rfl h (fun hc h => ?_) (fun hc h => ?_)
   ·refine kr ?_
    refine qm (.exact (.slice none 0 0)) rfl ?_
    refine qm (.exact (.slice none 0 0)) rfl ?_
    refine G_q rfl (op_cap_nil (by kernel_rfl) rfl ?_)
    refine G_q rfl (op_slice_nil (n := 1) (by kernel_rfl) rfl (bnd_some rfl) ?_)
    refine qm (.xi (i64 (a1 - (i64 (0 - 0))))) rfl ?_
    obtain ⟨n7, h⟩ := need_some h
    refine G_l rfl (op_appMake0 (kn := .i64) (enc := zab) (zr := []) (by kernel_rfl) (by kernel_rfl) rfl rfl n7.1 n7.2 len_c_api_Value Tryz.zeroValue26 (fun _ _ => (Fit.ex Fit.nil0)) (fun v8 => ?_))
    refine qm (.exact (.slice none 0 0)) rfl ?_
    refine G_q rfl (op_len_slice (by kernel_rfl) rfl ?_)
    obtain ⟨n9, h⟩ := need_some h
    refine G_l rfl (op_trunc (by kernel_rfl) len_c_api_Value rfl (bnd_some rfl) n9.1 n9.2 (fun v10 => ?_))
    refine qa (.exact v10) rfl ?_
    refine G_nil ?_
    refine zad ⟨_, v10, h, ?_⟩
    exact so (lq rfl lt0)
   ·refine k_skip ?_
    refine zad ⟨_, (.slice none 0 0), h, ?_⟩
    refine Sub.trans (SubU.to (SubU.nilT (P := Tryz.prog) (t := 23) (n := 1) (enc := zab))) ?_
    exact so (lq rfl lt0)
  ·refine zac (kr ?_)
   refine qm (.exact v0_j2) rfl ?_
   refine qa (.exact v0_j2) rfl ?_
   refine G_nil (zaa (k_ret ?_))
   obtain rfl := Option.some.inj h
   refine ke (pt AF0 4 (.exact v0_j2)) [vecT Tryz.prog 23 1 zab v0_j2 x0_j2] rfl ?_ ⟨v0_j2, rfl, rfl⟩
   exact so (lq rfl lt0)
set_option maxHeartbeats 4000000 in
theorem m_slices_Concat_L_api_Value_api_Value_ok (a0 : List (List (List UInt8))) (r : (List (List UInt8))) (h : m_slices_Concat_L_api_Value_api_Value a0 = some r) : Pure Tryz.prog 87 [(.row 1 zah a0)] (.row 1 zab r) := by
 unfold m_slices_Concat_L_api_Value_api_Value at h
 refine Pure.ofFun (fun_of_awp Tryz.func87 rfl Tryz.ntmps87 (by simp) rfl (res1 rfl) fun E hE => k_end ?_)
 refine zac (kr ?_)
 refine qa (.exact (.slice none 0 0)) rfl ?_
 refine G_nil (zaa (zac (kr ?_)))
 refine qa (.xi 0) rfl ?_
 refine G_nil (zaa ?_)
 refine k_join1_0 h (fun (x3_j1 : Int) => (pt (pt AF0 0 (.row 1 zah a0)) 3 (.xi x3_j1))) (fun (x3_j1 : Int) => []) (fun k1 h => ?_) (fun x3_j1 h => ?_)
 ·refine zac (kr ?_)
  refine qm (.row 1 zah a0) rfl ?_
  refine G_q rfl (zai (by kernel_rfl) rfl ?_)
  refine qm (.xi 0) rfl ?_
  refine G_nil (zaa (k_block ?_))
  refine k_loop2_0 (m_slices_Concat_L_api_Value_api_Value_L2 a0 k1) (m_slices_Concat_L_api_Value_api_Value_B2 a0 k1) (fun _ _ => rfl) (fun m _ _ => rfl) h (fun (x3_l2 : Int) (x11_l2 : Int) => (pt (pt (pt (pt (pt AF0 0 (.row 1 zah a0)) 3 (.xi x3_l2)) 9 (.row 1 zah a0)) 10 (.xi (List.length a0 : Int))) 11 (.xi x11_l2))) (fun (x3_l2 : Int) (x11_l2 : Int) => []) ?_ (fun rec2 x3_l2 x11_l2 h => ?_)
  ·exact so (l4 rfl rfl rfl rfl (lq rfl lt0))
  ·unfold m_slices_Concat_L_api_Value_api_Value_B2 at h
   refine zac (kr ?_)
   refine G_q rfl (op_lss rfl rfl ?_)
   refine G_nil (zaa (zac ?_))
   refine kd (p := x11_l2 < (List.length a0 : Int)) rfl h (fun hc h => ?_) (fun hc h => ?_)
   ·refine k_skip (zaa (zac (k_block (zac (kr ?_)))))
    obtain ⟨n20, h⟩ := need_some h
    refine G_q rfl (zaj (by kernel_rfl) rfl rfl n20.1 n20.2 ?_)
    refine G_q rfl (op_load1p (a := .row 1 zab (gi a0 x11_l2)) (by kernel_rfl) rfl rfl ?_)
    refine qa (.row 1 zab (gi a0 x11_l2)) rfl ?_
    refine G_nil (zaa (zac (kr ?_)))
    refine qm (.xi x3_l2) rfl ?_
    refine qm (.row 1 zab (gi a0 x11_l2)) rfl ?_
    refine G_q rfl (zai (by kernel_rfl) rfl ?_)
    refine G_q rfl (op_add rfl rfl rfl ?_)
    refine qa (.xi (i64 (x3_l2 + (List.length (gi a0 x11_l2) : Int)))) rfl ?_
    refine G_nil (zaa (zac (kr ?_)))
    refine qm (.xi (i64 (x3_l2 + (List.length (gi a0 x11_l2) : Int)))) rfl ?_
    refine G_q rfl (op_lss rfl rfl ?_)
    refine G_nil (zaa ?_)
    refine kd (p := (i64 (x3_l2 + (List.length (gi a0 x11_l2) : Int))) < 0) rfl h (fun hc h => ?_) (fun hc h => ?_)
    ·cases h
    ·refine k_skip (kB_normal (zaa (kr ?_)))
     refine G_q rfl (op_add rfl rfl rfl ?_)
     refine qm (.xi (i64 (x11_l2 + 1))) rfl ?_
     refine G_nil ?_
     refine zad ⟨_, _, h, ?_⟩
     exact so (l4 rfl rfl rfl rfl (lq rfl lt0))
   ·refine k_exit (kC_exit (kI_exit (kB_exit ?_)))
    refine zad ⟨_, h, ?_⟩
    exact so (lq rfl (lq rfl lt0))
 ·refine zac (kr ?_)
  refine qm (.xi x3_j1) rfl ?_
  obtain ⟨y21, hy21, h⟩ := bnd1_some h
  refine G_l rfl (op_fun_0_1_1 (m_slices_Grow_L_api_Value_api_Value_ok _ _ hy21) Tryz.func112 (by kernel_rfl) (LEs.cons (AV.le_eq rfl) (LEs.cons (AV.le_eq rfl) LEs.nil)) (fun v22 => ?_))
  refine qa (.exact v22) rfl ?_
  refine G_nil (zaa ?_)
  refine k_join1_1 h (fun (x6_j23 : List (List UInt8)) (v6_j23 : Value) => (pt AF0 6 (.exact v6_j23))) (fun (x6_j23 : List (List UInt8)) (v6_j23 : Value) => [vecT Tryz.prog 23 1 zab v6_j23 x6_j23]) (fun k23 h => ?_) (fun x6_j23 v6_j23 h => ?_)
  ·refine zac (kr ?_)
   refine qm (.row 1 zah a0) rfl ?_
   refine G_q rfl (zai (by kernel_rfl) rfl ?_)
   refine qm (.xi 0) rfl ?_
   refine G_nil (zaa (k_block ?_))
   refine k_loop2_1 (m_slices_Concat_L_api_Value_api_Value_L4 a0 k23) (m_slices_Concat_L_api_Value_api_Value_B4 a0 k23) (fun _ _ => rfl) (fun m _ _ => rfl) h (fun (x6_l4 : List (List UInt8)) (x27_l4 : Int) (v6_l4 : Value) => (pt (pt (pt (pt AF0 6 (.exact v6_l4)) 25 (.row 1 zah a0)) 26 (.xi (List.length a0 : Int))) 27 (.xi x27_l4))) (fun (x6_l4 : List (List UInt8)) (x27_l4 : Int) (v6_l4 : Value) => [vecT Tryz.prog 23 1 zab v6_l4 x6_l4]) v22 ?_ (fun rec4 x6_l4 x27_l4 v6_l4 h => ?_)
   ·exact so (l4 rfl rfl rfl rfl lt0)
   ·unfold m_slices_Concat_L_api_Value_api_Value_B4 at h
    refine zac (kr ?_)
    refine G_q rfl (op_lss rfl rfl ?_)
    refine G_nil (zaa (zac ?_))
    refine kd (p := x27_l4 < (List.length a0 : Int)) rfl h (fun hc h => ?_) (fun hc h => ?_)
    ·refine k_skip (zaa (zac (k_block (zac (kr ?_)))))
     obtain ⟨n40, h⟩ := need_some h
     refine G_q rfl (zaj (by kernel_rfl) rfl rfl n40.1 n40.2 ?_)
     refine G_q rfl (op_load1p (a := .row 1 zab (gi a0 x27_l4)) (by kernel_rfl) rfl rfl ?_)
     refine qa (.row 1 zab (gi a0 x27_l4)) rfl ?_
     refine G_nil (zaa (kr ?_))
     refine qm (.exact v6_l4) rfl ?_
     refine qm (.row 1 zab (gi a0 x27_l4)) rfl ?_
     obtain ⟨n41, h⟩ := need_some h
     refine G_l rfl (op_appT (by kernel_rfl) rfl rfl oc_c_api_Value n41 (fun v42 => ?_))
     refine qa (.exact v42) rfl ?_
     refine G_nil (kB_normal (zaa (kr ?_)))
     refine G_q rfl (op_add rfl rfl rfl ?_)
     refine qm (.xi (i64 (x27_l4 + 1))) rfl ?_
     refine G_nil ?_
     refine zad ⟨_, _, v42, h, ?_⟩
     exact so (l4 rfl rfl rfl rfl lt0)
    ·refine k_exit (kC_exit (kI_exit (kB_exit ?_)))
     refine zad ⟨_, v6_l4, h, ?_⟩
     exact so (lq rfl lt0)
  ·refine zac (kr ?_)
   refine qm (.exact v6_j23) rfl ?_
   refine qa (.exact v6_j23) rfl ?_
   refine G_nil (zaa (k_ret ?_))
   obtain rfl := Option.some.inj h
   refine ke (pt AF0 2 (.row 1 zab x6_j23)) [] rfl ?_ ⟨rfl, rfl⟩
   refine Sub.trans (SubU.to (SubU.freezeT (s := 2) rfl len_c_api_Value)) ?_
   exact so (lq rfl lt0)
set_option maxHeartbeats 4000000 in
theorem m_dataspace_complete_ok (a0 : List ((List UInt8) × Int × (List Int) × (List (List UInt8)))) (a1 : List UInt8) (r : (List (List UInt8)) × Int) (h : m_dataspace_complete a0 a1 = some r) : Pure Tryz.prog 42 [(.row 4 zae a0), (.exact (.string (bs a1)))] (.tup [.row 1 zab r.1, .exact (.int .i64 r.2)]) := by
 unfold m_dataspace_complete at h
 refine Pure.ofFun (fun_of_awp Tryz.func42 rfl Tryz.ntmps42 (by simp) rfl (res2 rfl) fun E hE => k_end ?_)
 refine zac (kr ?_)
 refine qa (.exact (.slice none 0 0)) rfl ?_
 refine qa (.xi 0) rfl ?_
 refine G_nil (zaa (zac (kr ?_)))
 refine qm (.row 4 zae a0) rfl ?_
 refine qm (.xs a1) rfl ?_
 obtain ⟨y1, hy1, h⟩ := bnd1_some h
 refine G_q rfl (zaf (m_dataspace_missing_ok _ _ _ hy1) Tryz.func35 (by kernel_rfl) (LEs.cons (AV.le_eq rfl) (LEs.cons (AV.le_eq rfl) LEs.nil)) ?_)
 obtain ⟨y2, hy2, h⟩ := bnd1_some h
 refine G_q rfl (zaf (m_dataspace_choices_ok _ _ hy2) Tryz.func86 (by kernel_rfl) (LEs.cons (AV.le_eq rfl) LEs.nil) ?_)
 refine qm (.tup [.row 1 zah y2.1, .xb y2.2]) rfl ?_
 refine G_q rfl (op_extract (av := .row 1 zah y2.1) rfl rfl ?_)
 refine G_q rfl (op_extract (av := .xb y2.2) rfl rfl ?_)
 refine qa (.row 1 zah y2.1) rfl ?_
 refine qa (.xb y2.2) rfl ?_
 refine G_nil (zaa (zac (zac (kr ?_))))
 refine qm (.xb y2.2) rfl ?_
 refine G_q rfl (op_not rfl ?_)
 refine G_nil (zaa ?_)
 refine kb (p := !y2.2) rfl h (fun hc h => ?_) (fun hc h => ?_)
 ·refine zac (kr ?_)
  refine qa (.exact (.slice none 0 0)) rfl ?_
  refine qa (.xi 9) rfl ?_
  refine G_nil (zaa (k_ret (kC_ret ?_)))
  obtain rfl := Option.some.inj h
  refine ke (pt (pt AF0 4 (.row 1 zab [])) 5 (.xi 9)) [] rfl ?_ ⟨rfl, rfl⟩
  exact so (lq rfl (AF.le_put (row_nil (by decide)) lt0))
 ·refine k_skip (zaa (zac (kr ?_)))
  refine qm (.xs a1) rfl ?_
  obtain ⟨y3, hy3, h⟩ := bnd1_some h
  refine G_q rfl (zaf (m_dataspace_split_ok _ _ hy3) Tryz.func36 (by kernel_rfl) (LEs.cons (AV.le_eq rfl) LEs.nil) ?_)
  refine qm (.tup [.xi y3.1, .row 1 zab y3.2.1, .xb y3.2.2]) rfl ?_
  refine G_q rfl (op_extract (av := .xi y3.1) rfl rfl ?_)
  refine G_q rfl (op_extract (av := .row 1 zab y3.2.1) rfl rfl ?_)
  refine G_q rfl (op_extract (av := .xb y3.2.2) rfl rfl ?_)
  refine qa (.xi y3.1) rfl ?_
  refine qa (.row 1 zab y3.2.1) rfl ?_
  refine qa (.xb y3.2.2) rfl ?_
  refine G_nil (zaa (zac (kr ?_)))
  refine qa (.exact (.slice none 0 0)) rfl ?_
  refine G_nil (zaa ?_)
  refine k_join1_1 h (fun (x11_j4 : List (List UInt8)) (v11_j4 : Value) => (pt AF0 11 (.exact v11_j4))) (fun (x11_j4 : List (List UInt8)) (v11_j4 : Value) => [vecT Tryz.prog 23 1 zab v11_j4 x11_j4]) (fun k4 h => ?_) (fun x11_j4 v11_j4 h => ?_)
  ·refine zac (kr ?_)
   refine qm (.row 1 zah y2.1) rfl ?_
   refine G_q rfl (zai (by kernel_rfl) rfl ?_)
   refine qm (.xi 0) rfl ?_
   refine G_nil (zaa (k_block ?_))
   refine k_loop2_1 (m_dataspace_complete_L2 y2 y3 k4) (m_dataspace_complete_B2 y2 y3 k4) (fun _ _ => rfl) (fun m _ _ => rfl) h (fun (x11_l2 : List (List UInt8)) (x32_l2 : Int) (v11_l2 : Value) => (pt (pt (pt (pt (pt (pt AF0 8 (.xi y3.1)) 9 (.row 1 zab y3.2.1)) 11 (.exact v11_l2)) 30 (.row 1 zah y2.1)) 31 (.xi (List.length y2.1 : Int))) 32 (.xi x32_l2))) (fun (x11_l2 : List (List UInt8)) (x32_l2 : Int) (v11_l2 : Value) => [vecT Tryz.prog 23 1 zab v11_l2 x11_l2]) (.slice none 0 0) ?_ (fun rec2 x11_l2 x32_l2 v11_l2 h => ?_)
   ·refine Sub.trans (SubU.to (SubU.nilT (P := Tryz.prog) (t := 23) (n := 1) (enc := zab))) ?_
    exact so (l4 rfl rfl rfl rfl (lq rfl (lq rfl lt0)))
   ·unfold m_dataspace_complete_B2 at h
    refine zac (kr ?_)
    refine G_q rfl (op_lss rfl rfl ?_)
    refine G_nil (zaa (zac ?_))
    refine kd (p := x32_l2 < (List.length y2.1 : Int)) rfl h (fun hc h => ?_) (fun hc h => ?_)
    ·refine k_skip (zaa (zac (k_block (zac (kr ?_)))))
     obtain ⟨n31, h⟩ := need_some h
     refine G_q rfl (zaj (by kernel_rfl) rfl rfl n31.1 n31.2 ?_)
     refine G_q rfl (op_load1p (a := .row 1 zab (gi y2.1 x32_l2)) (by kernel_rfl) rfl rfl ?_)
     refine qa (.row 1 zab (gi y2.1 x32_l2)) rfl ?_
     refine G_nil (zaa (zac (kr ?_)))
     refine qm (.xi y3.1) rfl ?_
     refine qm (.row 1 zab y3.2.1) rfl ?_
     refine qm (.row 1 zab (gi y2.1 x32_l2)) rfl ?_
     refine G_q rfl (op_litT (n := 1) (enc := zah) [y3.2.1, gi y2.1 x32_l2] (CellsAll.cons rfl CellsOf.row (CellsAll.cons rfl CellsOf.row CellsAll.nil)) rfl (by kernel_rfl) (LEss.cons (LEs.cons (AV.le_eq rfl) LEs.nil) (LEss.cons (LEs.cons (AV.le_eq rfl) LEs.nil) LEss.nil)) ?_)
     obtain ⟨y32, hy32, h⟩ := bnd1_some h
     refine G_q rfl (zaf (m_slices_Concat_L_api_Value_api_Value_ok _ _ hy32) Tryz.func87 (by kernel_rfl) (LEs.cons (AV.le_eq rfl) LEs.nil) ?_)
     obtain ⟨y33, hy33, h⟩ := bnd1_some h
     refine G_q rfl (zaf (m_value_Dot_ok _ _ _ hy33) Tryz.func40 (by kernel_rfl) (LEs.cons (AV.le_eq rfl) (LEs.cons (AV.le_eq rfl) LEs.nil)) ?_)
     refine qa (.xs y33) rfl ?_
     refine G_nil (zaa (zac (zac (kr ?_))))
     refine qm (.xs y33) rfl ?_
     refine G_q rfl (op_eqlS rfl rfl ?_)
     refine G_nil (zaa ?_)
     refine kd (p := y33 = ([] : List UInt8)) rfl h (fun hc h => ?_) (fun hc h => ?_)
     ·refine zac (kr ?_)
      refine qa (.exact (.slice none 0 0)) rfl ?_
      refine qa (.xi 9) rfl ?_
      refine G_nil (zaa (k_ret (kC_ret (kB_ret (kC_ret (kI_ret (kB_ret (kI_ret ?_))))))))
      obtain rfl := Option.some.inj h
      refine ke (pt (pt AF0 4 (.row 1 zab [])) 5 (.xi 9)) [] rfl ?_ ⟨rfl, rfl⟩
      refine Sub.trans (SubU.to SubU.drop) ?_
      exact so (lq rfl (AF.le_put (row_nil (by decide)) lt0))
     ·refine k_skip (zaa (kr ?_))
      refine qm (.exact v11_l2) rfl ?_
      refine qm (.xs y33) rfl ?_
      refine G_q rfl (op_litT (n := 1) (enc := zab) [y33] (CellsAll.cons rfl CellsOf.str CellsAll.nil) rfl (by kernel_rfl) (LEss.cons (LEs.cons (AV.le_eq rfl) LEs.nil) LEss.nil) ?_)
      obtain ⟨n34, h⟩ := need_some h
      refine G_l rfl (op_appT (by kernel_rfl) rfl rfl oc_c_api_Value n34 (fun v35 => ?_))
      refine qa (.exact v35) rfl ?_
      refine G_nil (kB_normal (zaa (kr ?_)))
      refine G_q rfl (op_add rfl rfl rfl ?_)
      refine qm (.xi (i64 (x32_l2 + 1))) rfl ?_
      refine G_nil ?_
      refine zad ⟨_, _, v35, h, ?_⟩
      exact so (l4 rfl rfl rfl rfl (lq rfl (lq rfl lt0)))
    ·refine k_exit (kC_exit (kI_exit (kB_exit ?_)))
     refine zad ⟨_, v11_l2, h, ?_⟩
     exact so (lq rfl lt0)
  ·refine zac (kr ?_)
   refine qm (.exact v11_j4) rfl ?_
   refine qa (.exact v11_j4) rfl ?_
   refine qa (.xi 0) rfl ?_
   refine G_nil (zaa (k_ret ?_))
   obtain rfl := Option.some.inj h
   refine ke (pt (pt AF0 4 (.row 1 zab x11_j4)) 5 (.xi 0)) [] rfl ?_ ⟨rfl, rfl⟩
   refine Sub.trans (SubU.to (SubU.freezeT (s := 4) rfl len_c_api_Value)) ?_
   exact so (lq rfl (lq rfl lt0))
set_option maxHeartbeats 4000000 in
theorem m_dataspace_Events_ok (a0 : List ((List UInt8) × Int × (List Int) × (List (List UInt8)))) (r : (List (List UInt8)) × Int) (h : m_dataspace_Events a0 = some r) : Pure Tryz.prog 11 [(.row 4 zae a0)] (.tup [.row 1 zab r.1, .exact (.int .i64 r.2)]) := by
 unfold m_dataspace_Events at h
 refine Pure.ofFun (fun_of_awp Tryz.func11 rfl Tryz.ntmps11 (by simp) rfl (res2 rfl) fun E hE => k_end ?_)
 refine zac (kr ?_)
 refine qa (.exact (.slice none 0 0)) rfl ?_
 refine qa (.xi 0) rfl ?_
 refine G_nil (zaa (zac (zac (kr ?_))))
 refine qm (.row 4 zae a0) rfl ?_
 obtain ⟨y1, hy1, h⟩ := bnd1_some h
 refine G_q rfl (zaf (m_dataspace_Valid_ok _ _ hy1) Tryz.func30 (by kernel_rfl) (LEs.cons (AV.le_eq rfl) LEs.nil) ?_)
 refine G_q rfl (op_not rfl ?_)
 refine G_nil (zaa ?_)
 refine kb (p := !y1) rfl h (fun hc h => ?_) (fun hc h => ?_)
 ·refine zac (kr ?_)
  refine qa (.exact (.slice none 0 0)) rfl ?_
  refine qa (.xi 1) rfl ?_
  refine G_nil (zaa (k_ret (kC_ret ?_)))
  obtain rfl := Option.some.inj h
  refine ke (pt (pt AF0 2 (.row 1 zab [])) 3 (.xi 1)) [] rfl ?_ ⟨rfl, rfl⟩
  exact so (lq rfl (AF.le_put (row_nil (by decide)) lt0))
 ·refine k_skip (zaa ?_)
  refine k_join0_0 h ((pt AF0 0 (.row 4 zae a0))) ([]) (fun k2 h => ?_) (fun  h => ?_)
  ·refine zac (kr ?_)
   refine qm (.row 4 zae a0) rfl ?_
   refine G_q rfl (zai (by kernel_rfl) rfl ?_)
   refine qm (.xi 0) rfl ?_
   refine G_nil (zaa (k_block ?_))
   refine k_loop1_0 (m_dataspace_Events_L2 a0 k2) (m_dataspace_Events_B2 a0 k2) (fun _ => rfl) (fun m _ => rfl) h (fun (x16_l2 : Int) => (pt (pt (pt (pt AF0 0 (.row 4 zae a0)) 14 (.row 4 zae a0)) 15 (.xi (List.length a0 : Int))) 16 (.xi x16_l2))) (fun (x16_l2 : Int) => []) ?_ (fun rec2 x16_l2 h => ?_)
   ·exact so (l4 rfl rfl rfl rfl lt0)
   ·unfold m_dataspace_Events_B2 at h
    refine zac (kr ?_)
    refine G_q rfl (op_lss rfl rfl ?_)
    refine G_nil (zaa (zac ?_))
    refine kd (p := x16_l2 < (List.length a0 : Int)) rfl h (fun hc h => ?_) (fun hc h => ?_)
    ·refine k_skip (zaa (zac (k_block (zac (kr ?_)))))
     refine qm (.xi x16_l2) rfl ?_
     obtain ⟨n87, h⟩ := need_some h
     refine G_q rfl (zaj (by kernel_rfl) rfl rfl n87.1 n87.2 ?_)
     refine G_q rfl (op_loadNp (m := 4) (c' := zae (gi a0 x16_l2)) (by kernel_rfl) rfl rfl rfl ?_)
     refine G_l rfl (op_alloc (c := [.xs ((([], 0, [], []) : (List UInt8) × Int × (List Int) × (List (List UInt8))).1), .xi ((([], 0, [], []) : (List UInt8) × Int × (List Int) × (List (List UInt8))).2.1), .row 1 c_int ((([], 0, [], []) : (List UInt8) × Int × (List Int) × (List (List UInt8))).2.2.1), .row 1 zab ((([], 0, [], []) : (List UInt8) × Int × (List Int) × (List (List UInt8))).2.2.2)]) rfl (LEs.cons (AV.le_eq rfl) (LEs.cons (AV.le_eq rfl) (LEs.cons (row_nil (by decide)) (LEs.cons (row_nil (by decide)) LEs.nil)))) (fun b88 => ?_))
     refine qa (.xi x16_l2) rfl ?_
     refine G_l rfl (op_store_box (c' := [.xs ((gi a0 x16_l2).1), .xi ((gi a0 x16_l2).2.1), .row 1 c_int ((gi a0 x16_l2).2.2.1), .row 1 zab ((gi a0 x16_l2).2.2.2)]) (c3 := [.xs ((gi a0 x16_l2).1), .xi ((gi a0 x16_l2).2.1), .row 1 c_int ((gi a0 x16_l2).2.2.1), .row 1 zab ((gi a0 x16_l2).2.2.2)]) rfl rfl CellsOf.agg (LEs.cons (AV.le_eq rfl) (LEs.cons (AV.le_eq rfl) (LEs.cons (AV.le_eq rfl) (LEs.cons (AV.le_eq rfl) LEs.nil)))) (oc_c_api_Info _) (by kernel_rfl) (Nat.le_of_ble_eq_true rfl) rfl ?_)
     refine G_nil (zaa ?_)
     refine k_join1_0 h (fun (x29_j89 : Bool) => (pt (pt (pt (pt (pt AF0 0 (.row 4 zae a0)) 14 (.row 4 zae a0)) 15 (.xi (List.length a0 : Int))) 16 (.xi x16_l2)) 29 (.xb x29_j89))) (fun (x29_j89 : Bool) => []) (fun k89 h => ?_) (fun x29_j89 h => ?_)
     ·refine kr ?_
      refine G_q rfl (op_fieldAddr (o := 1) (by kernel_rfl) rfl ?_)
      refine G_r rfl (op_load_box1 (a := .xi ((gi a0 x16_l2).2.1)) (by kernel_rfl) rfl rfl ?_)
      refine G_q rfl (op_eql rfl rfl ?_)
      refine qm (.xb (decide (((gi a0 x16_l2).2.1) = (-1)))) rfl ?_
      refine G_split (p := ((gi a0 x16_l2).2.1) = (-1)) 24 rfl (fun hc => ?_) (fun hc => ?_)
      ·replace h := ite_t h hc
       refine Gy_q rfl rfl rfl (zag (av := .row 4 zae a0) rfl ?_)
       refine Gy_q rfl rfl rfl (zag (av := .xi x16_l2) rfl ?_)
       obtain ⟨y92, hy92, h⟩ := bnd1_some h
       refine Gy_q rfl rfl rfl (zaf (m_value_Dot_ok _ _ _ hy92) Tryz.func40 (by kernel_rfl) (LEs.cons (AV.le_eq rfl) (LEs.cons (row_nil (by decide)) LEs.nil)) ?_)
       obtain ⟨y93, hy93, h⟩ := bnd1_some h
       refine Gy_q rfl rfl rfl (zaf (m_dataspace_unbounded_ok _ _ _ hy93) Tryz.func33 (by kernel_rfl) (LEs.cons (AV.le_eq rfl) (LEs.cons (AV.le_eq rfl) LEs.nil)) ?_)
       refine G_q rfl (op_pick_t rfl (av := .xb y93) rfl ?_)
       refine G_nil ?_
       refine zad ⟨_, h, ?_⟩
       refine Sub.trans (SubU.to SubU.drop) ?_
       exact so (l4 rfl rfl rfl rfl (lq rfl lt0))
      ·replace h := ite_f h hc
       refine G_n rfl rfl (G_n rfl rfl (G_n rfl rfl (G_n rfl rfl ?_)))
       refine G_q rfl (zak rfl (av := .xb false) rfl ?_)
       refine G_nil ?_
       refine zad ⟨_, h, ?_⟩
       refine Sub.trans (SubU.to SubU.drop) ?_
       exact so (l4 rfl rfl rfl rfl (lq rfl lt0))
     ·refine kb (p := x29_j89) rfl h (fun hc h => ?_) (fun hc h => ?_)
      ·refine zac (kr ?_)
       refine qa (.exact (.slice none 0 0)) rfl ?_
       refine qa (.xi 17) rfl ?_
       refine G_nil (zaa (k_ret (kB_ret (kC_ret (kI_ret (kB_ret (kI_ret ?_)))))))
       obtain rfl := Option.some.inj h
       refine ke (pt (pt AF0 2 (.row 1 zab [])) 3 (.xi 17)) [] rfl ?_ ⟨rfl, rfl⟩
       exact so (lq rfl (AF.le_put (row_nil (by decide)) lt0))
      ·refine k_skip (kB_normal (zaa (kr ?_)))
       refine G_q rfl (op_add rfl rfl rfl ?_)
       refine qm (.xi (i64 (x16_l2 + 1))) rfl ?_
       refine G_nil ?_
       refine zad ⟨_, h, ?_⟩
       exact so (l4 rfl rfl rfl rfl lt0)
    ·refine k_exit (kC_exit (kI_exit (kB_exit ?_)))
     refine zad ⟨h, ?_⟩
     exact so (lq rfl lt0)
  ·refine zac (kr ?_)
   refine qa (.exact (.slice none 0 0)) rfl ?_
   refine G_nil (zaa ?_)
   refine k_join1_1 h (fun (x6_j94 : List (List UInt8)) (v6_j94 : Value) => (pt AF0 6 (.exact v6_j94))) (fun (x6_j94 : List (List UInt8)) (v6_j94 : Value) => [vecT Tryz.prog 23 1 zab v6_j94 x6_j94]) (fun k94 h => ?_) (fun x6_j94 v6_j94 h => ?_)
   ·refine zac (kr ?_)
    refine qm (.row 4 zae a0) rfl ?_
    refine G_q rfl (zai (by kernel_rfl) rfl ?_)
    refine qm (.xi 0) rfl ?_
    refine G_nil (zaa (k_block ?_))
    refine k_loop2_1 (m_dataspace_Events_L4 a0 k94) (m_dataspace_Events_B4 a0 k94) (fun _ _ => rfl) (fun m _ _ => rfl) h (fun (x6_l4 : List (List UInt8)) (x33_l4 : Int) (v6_l4 : Value) => (pt (pt (pt (pt (pt AF0 0 (.row 4 zae a0)) 6 (.exact v6_l4)) 31 (.row 4 zae a0)) 32 (.xi (List.length a0 : Int))) 33 (.xi x33_l4))) (fun (x6_l4 : List (List UInt8)) (x33_l4 : Int) (v6_l4 : Value) => [vecT Tryz.prog 23 1 zab v6_l4 x6_l4]) (.slice none 0 0) ?_ (fun rec4 x6_l4 x33_l4 v6_l4 h => ?_)
    ·refine Sub.trans (SubU.to (SubU.nilT (P := Tryz.prog) (t := 23) (n := 1) (enc := zab))) ?_
     exact so (l4 rfl rfl rfl rfl (lq rfl lt0))
    ·unfold m_dataspace_Events_B4 at h
     refine zac (kr ?_)
     refine G_q rfl (op_lss rfl rfl ?_)
     refine G_nil (zaa (zac ?_))
     refine kd (p := x33_l4 < (List.length a0 : Int)) rfl h (fun hc h => ?_) (fun hc h => ?_)
     ·refine k_skip (zaa ?_)
      refine k_join1_1 h (fun (x6_j161 : List (List UInt8)) (v6_j161 : Value) => (pt (pt (pt (pt (pt AF0 0 (.row 4 zae a0)) 6 (.exact v6_j161)) 31 (.row 4 zae a0)) 32 (.xi (List.length a0 : Int))) 33 (.xi x33_l4))) (fun (x6_j161 : List (List UInt8)) (v6_j161 : Value) => [vecT Tryz.prog 23 1 zab v6_j161 x6_j161]) (fun k161 h => ?_) (fun x6_j161 v6_j161 h => ?_)
      ·refine k_block (zac (kr ?_))
       refine qm (.xi x33_l4) rfl ?_
       obtain ⟨n168, h⟩ := need_some h
       refine G_q rfl (zaj (by kernel_rfl) rfl rfl n168.1 n168.2 ?_)
       refine G_q rfl (op_loadNp (m := 4) (c' := zae (gi a0 x33_l4)) (by kernel_rfl) rfl rfl rfl ?_)
       refine G_l rfl (op_alloc (c := [.xs ((([], 0, [], []) : (List UInt8) × Int × (List Int) × (List (List UInt8))).1), .xi ((([], 0, [], []) : (List UInt8) × Int × (List Int) × (List (List UInt8))).2.1), .row 1 c_int ((([], 0, [], []) : (List UInt8) × Int × (List Int) × (List (List UInt8))).2.2.1), .row 1 zab ((([], 0, [], []) : (List UInt8) × Int × (List Int) × (List (List UInt8))).2.2.2)]) rfl (LEs.cons (AV.le_eq rfl) (LEs.cons (AV.le_eq rfl) (LEs.cons (row_nil (by decide)) (LEs.cons (row_nil (by decide)) LEs.nil)))) (fun b169 => ?_))
       refine qa (.xi x33_l4) rfl ?_
       refine G_l rfl (op_store_box (c' := [.xs ((gi a0 x33_l4).1), .xi ((gi a0 x33_l4).2.1), .row 1 c_int ((gi a0 x33_l4).2.2.1), .row 1 zab ((gi a0 x33_l4).2.2.2)]) (c3 := [.xs ((gi a0 x33_l4).1), .xi ((gi a0 x33_l4).2.1), .row 1 c_int ((gi a0 x33_l4).2.2.1), .row 1 zab ((gi a0 x33_l4).2.2.2)]) rfl rfl CellsOf.agg (LEs.cons (AV.le_eq rfl) (LEs.cons (AV.le_eq rfl) (LEs.cons (AV.le_eq rfl) (LEs.cons (AV.le_eq rfl) LEs.nil)))) (oc_c_api_Info _) (by kernel_rfl) (Nat.le_of_ble_eq_true rfl) rfl ?_)
       refine G_nil (zaa (zac (zac (kr ?_))))
       refine G_q rfl (op_fieldAddr (o := 1) (by kernel_rfl) rfl ?_)
       refine G_r rfl (op_load_box1 (a := .xi ((gi a0 x33_l4).2.1)) (by kernel_rfl) rfl rfl ?_)
       refine G_q rfl (op_neq rfl rfl ?_)
       refine G_nil (zaa ?_)
       refine kd (p := ¬ ((gi a0 x33_l4).2.1) = (-1)) rfl h (fun hc h => ?_) (fun hc h => ?_)
       ·refine k_exit (kC_exit (kB_exit ?_))
        refine zad ⟨_, v6_l4, h, ?_⟩
        refine Sub.trans (SubU.to SubU.drop) ?_
        exact so (l4 rfl rfl rfl rfl (lq rfl lt0))
       ·refine k_skip (zaa (zac (kr ?_)))
        refine qm (.row 4 zae a0) rfl ?_
        refine qm (.xi x33_l4) rfl ?_
        obtain ⟨y170, hy170, h⟩ := bnd1_some h
        refine G_q rfl (zaf (m_value_Dot_ok _ _ _ hy170) Tryz.func40 (by kernel_rfl) (LEs.cons (AV.le_eq rfl) (LEs.cons (row_nil (by decide)) LEs.nil)) ?_)
        obtain ⟨y171, hy171, h⟩ := bnd1_some h
        refine G_q rfl (zaf (m_dataspace_complete_ok _ _ _ hy171) Tryz.func42 (by kernel_rfl) (LEs.cons (AV.le_eq rfl) (LEs.cons (AV.le_eq rfl) LEs.nil)) ?_)
        refine qm (.tup [.row 1 zab y171.1, .xi y171.2]) rfl ?_
        refine G_q rfl (op_extract (av := .row 1 zab y171.1) rfl rfl ?_)
        refine G_q rfl (op_extract (av := .xi y171.2) rfl rfl ?_)
        refine qa (.row 1 zab y171.1) rfl ?_
        refine qa (.xi y171.2) rfl ?_
        refine G_nil (zaa (zac (zac (kr ?_))))
        refine qm (.xi y171.2) rfl ?_
        refine G_q rfl (op_neq rfl rfl ?_)
        refine G_nil (zaa ?_)
        refine kd (p := ¬ y171.2 = 0) rfl h (fun hc h => ?_) (fun hc h => ?_)
        ·refine zac (kr ?_)
         refine qm (.xi y171.2) rfl ?_
         refine qa (.exact (.slice none 0 0)) rfl ?_
         refine qa (.xi y171.2) rfl ?_
         refine G_nil (zaa (k_ret (kC_ret (kB_ret (kI_ret (kI_ret (kB_ret (kI_ret ?_))))))))
         obtain rfl := Option.some.inj h
         refine ke (pt (pt AF0 2 (.row 1 zab [])) 3 (.xi y171.2)) [] rfl ?_ ⟨rfl, rfl⟩
         refine Sub.trans (SubU.to SubU.drop) ?_
         refine Sub.trans (SubU.to SubU.drop) ?_
         exact so (lq rfl (AF.le_put (row_nil (by decide)) lt0))
        ·refine k_skip (zaa (zac (kr ?_)))
         refine qm (.exact v6_l4) rfl ?_
         refine qm (.row 1 zab y171.1) rfl ?_
         obtain ⟨n172, h⟩ := need_some h
         refine G_l rfl (opB_f1 (op_appT (by kernel_rfl) rfl rfl oc_c_api_Value n172 (fun v173 => ?_)))
         refine qa (.exact v173) rfl ?_
         refine G_nil (zaa (zac (kr ?_)))
         refine qm (.exact v173) rfl ?_
         refine G_r rfl (op_len_vec (by kernel_rfl) rfl ?_)
         refine G_q rfl (op_gtr rfl rfl ?_)
         refine G_nil (zaa ?_)
         refine kd (p := 1024 < (List.length (x6_l4 ++ y171.1) : Int)) rfl h (fun hc h => ?_) (fun hc h => ?_)
         ·refine zac (kr ?_)
          refine qa (.exact (.slice none 0 0)) rfl ?_
          refine qa (.xi 9) rfl ?_
          refine G_nil (zaa (k_ret (kB_ret (kI_ret (kI_ret (kB_ret (kI_ret ?_)))))))
          obtain rfl := Option.some.inj h
          refine ke (pt (pt AF0 2 (.row 1 zab [])) 3 (.xi 9)) [] rfl ?_ ⟨rfl, rfl⟩
          refine Sub.trans (SubU.to SubU.drop) ?_
          refine Sub.trans (SubU.to SubU.drop) ?_
          exact so (lq rfl (AF.le_put (row_nil (by decide)) lt0))
         ·refine k_skip (kB_normal ?_)
          refine zad ⟨_, v173, h, ?_⟩
          refine Sub.trans (SubU.to SubU.f1) ?_
          refine Sub.trans (SubU.to SubU.drop) ?_
          exact so (l4 rfl rfl rfl rfl (lq rfl lt0))
      ·refine kr ?_
       refine G_q rfl (op_add rfl rfl rfl ?_)
       refine qm (.xi (i64 (x33_l4 + 1))) rfl ?_
       refine G_nil ?_
       refine zad ⟨_, _, v6_j161, h, ?_⟩
       exact so (l4 rfl rfl rfl rfl (lq rfl lt0))
     ·refine k_exit (kC_exit (kI_exit (kB_exit ?_)))
      refine zad ⟨_, v6_l4, h, ?_⟩
      exact so (lq rfl lt0)
   ·refine zac (kr ?_)
    refine qm (.exact v6_j94) rfl ?_
    obtain ⟨y174, hy174, h⟩ := bnd1_some h
    refine G_l rfl (op_fun_1_1_1 (m_slices_Clip_L_api_Value_api_Value_ok _ _ hy174) Tryz.func43 (by kernel_rfl) (LEs.cons (AV.le_eq rfl) LEs.nil) (fun v175 => ?_))
    refine qa (.exact v175) rfl ?_
    refine qa (.xi 0) rfl ?_
    refine G_nil (zaa (k_ret ?_))
    obtain rfl := Option.some.inj h
    refine ke (pt (pt AF0 2 (.row 1 zab y174)) 3 (.xi 0)) [] rfl ?_ ⟨rfl, rfl⟩
    refine Sub.trans (SubU.to (SubU.freezeO (s := 2) rfl len_c_api_Value)) ?_
    exact so (lq rfl (lq rfl lt0))
set_option maxHeartbeats 4000000 in
theorem m_dataspace_all_1_ok (a0 : List UInt8) (a1 : List ((List UInt8) × Int × (List Int) × (List (List UInt8)))) (r : Bool) (h : m_dataspace_all_1 a0 a1 = some r) : Pure Tryz.prog 88 [(.exact (.string (bs a0))), (.ptr [.row 4 zae a1])] (.exact (.bool r)) := by
 unfold m_dataspace_all_1 at h
 refine Pure.ofFun (fun_of_awp Tryz.func88 rfl Tryz.ntmps88 (by simp) rfl (res1 rfl) fun E hE => k_end ?_)
 refine zac (kr ?_)
 refine qa (.xb false) rfl ?_
 refine G_nil (zaa (zac (kr ?_)))
 refine G_q rfl (op_load1p (a := .row 4 zae a1) (by kernel_rfl) rfl rfl ?_)
 refine qm (.xs a0) rfl ?_
 obtain ⟨y1, hy1, h⟩ := bnd1_some h
 refine G_q rfl (zaf (m_dataspace_unbounded_ok _ _ _ hy1) Tryz.func33 (by kernel_rfl) (LEs.cons (AV.le_eq rfl) (LEs.cons (AV.le_eq rfl) LEs.nil)) ?_)
 refine qa (.xb y1) rfl ?_
 refine G_nil (zaa (k_ret ?_))
 obtain rfl := Option.some.inj h
 refine ke (pt AF0 3 (.xb y1)) [] rfl ?_ ⟨rfl, rfl⟩
 exact so (lq rfl lt0)
set_option maxHeartbeats 4000000 in
theorem m_dataspace_set_ok (a0 : List (List UInt8)) (r : (List UInt8) × Int) (h : m_dataspace_set a0 = some r) : Pure Tryz.prog 90 [(.row 1 zab a0)] (.tup [.exact (.string (bs r.1)), .exact (.int .i64 r.2)]) := by
 unfold m_dataspace_set at h
 refine Pure.ofFun (fun_of_awp Tryz.func90 rfl Tryz.ntmps90 (by simp) rfl (res2 rfl) fun E hE => k_end ?_)
 refine zac (kr ?_)
 refine qa (.xs ([] : List UInt8)) rfl ?_
 refine qa (.xi 0) rfl ?_
 refine G_nil (zaa (zac (kr ?_)))
 refine qm (.row 1 zab a0) rfl ?_
 obtain ⟨y1, hy1, h⟩ := bnd1_some h
 refine G_q rfl (zaf (m_value_Sort_fz _ _ hy1) Tryz.func89 (by kernel_rfl) (LEs.cons (AV.le_eq rfl) LEs.nil) ?_)
 refine qa (.row 1 zab y1) rfl ?_
 refine G_nil (zaa (zac (kr ?_)))
 refine qm (.row 1 zab y1) rfl ?_
 obtain ⟨y2, hy2, h⟩ := bnd1_some h
 refine G_q rfl (zaf (m_value_Set_ok _ _ hy2) Tryz.func105 (by kernel_rfl) (LEs.cons (AV.le_eq rfl) LEs.nil) ?_)
 refine qa (.xs y2) rfl ?_
 refine G_nil (zaa (zac ?_))
 refine k_join1_0 h (fun (x15_j5 : Bool) => (pt (pt AF0 4 (.xs y2)) 15 (.xb x15_j5))) (fun (x15_j5 : Bool) => []) (fun k5 h => ?_) (fun x15_j5 h => ?_)
 ·refine kr ?_
  refine qm (.row 1 zab y1) rfl ?_
  refine G_q rfl (zai (by kernel_rfl) rfl ?_)
  refine G_q rfl (op_gtr rfl rfl ?_)
  refine qm (.xb (decide (4096 < (List.length y1 : Int)))) rfl ?_
  refine G_split (p := 4096 < (List.length y1 : Int)) 12 rfl (fun hc => ?_) (fun hc => ?_)
  ·replace h := ite_t h hc
   refine G_n rfl rfl (G_n rfl rfl ?_)
   refine G_q rfl (op_pick_t rfl (av := .xb true) rfl ?_)
   refine G_nil ?_
   refine zad ⟨_, h, ?_⟩
   exact so (lq rfl (lq rfl lt0))
  ·replace h := ite_f h hc
   refine Gy_q rfl rfl rfl (zag (av := .xs y2) rfl ?_)
   refine Gy_q rfl rfl rfl (op_eqlS rfl rfl ?_)
   refine G_q rfl (zak rfl (av := .xb (decide (y2 = ([] : List UInt8)))) rfl ?_)
   refine G_nil ?_
   refine zad ⟨_, h, ?_⟩
   exact so (lq rfl (lq rfl lt0))
 ·refine kb (p := x15_j5) rfl h (fun hc h => ?_) (fun hc h => ?_)
  ·refine zac (kr ?_)
   refine qa (.xs ([] : List UInt8)) rfl ?_
   refine qa (.xi 9) rfl ?_
   refine G_nil (zaa (k_ret (kC_ret ?_)))
   obtain rfl := Option.some.inj h
   refine ke (pt (pt AF0 2 (.xs ([] : List UInt8))) 3 (.xi 9)) [] rfl ?_ ⟨rfl, rfl⟩
   exact so (lq rfl (lq rfl lt0))
  ·refine k_skip (zaa (zac (kr ?_)))
   refine qm (.xs y2) rfl ?_
   refine qa (.xs y2) rfl ?_
   refine qa (.xi 0) rfl ?_
   refine G_nil (zaa (k_ret ?_))
   obtain rfl := Option.some.inj h
   refine ke (pt (pt AF0 2 (.xs y2)) 3 (.xi 0)) [] rfl ?_ ⟨rfl, rfl⟩
   exact so (lq rfl (lq rfl lt0))
set_option maxHeartbeats 4000000 in
theorem m_dataspace_all_ok (a0 : List ((List UInt8) × Int × (List Int) × (List (List UInt8)))) (a1 : List (List UInt8)) (r : (List UInt8) × Int) (h : m_dataspace_all a0 a1 = some r) : Pure Tryz.prog 44 [(.row 4 zae a0), (.row 1 zab a1)] (.tup [.exact (.string (bs r.1)), .exact (.int .i64 r.2)]) := by
 unfold m_dataspace_all at h
 refine Pure.ofFun (fun_of_awp Tryz.func44 rfl Tryz.ntmps44 (by simp) rfl (res2 rfl) fun E hE => k_end ?_)
 refine zac (kr ?_)
 refine G_l rfl (op_boxI (c := [.row 4 zae a0]) rfl CellsOf.row (LEs.cons (AV.le_eq rfl) LEs.nil) (fun b1 => ?_))
 refine qa (.xs ([] : List UInt8)) rfl ?_
 refine qa (.xi 0) rfl ?_
 refine G_nil (zaa (zac (zac (kr ?_))))
 refine qm (.row 1 zab a1) rfl ?_
 refine G_sub rfl (SubU.freezeBox (s := 2) rfl) ?_
 refine G_q rfl (op_makeFunc (args := (fun (i : (List UInt8)) => [.xs i])) (f := (fun (i : (List UInt8)) => (fun (x0 : List UInt8) => m_dataspace_all_1 x0 a0) i)) (res := (fun (r : Bool) => .xb r)) Tryz.func88 (by kernel_rfl) [.ptr [.row 4 zae a0]] (LEs.cons (AV.le_eq rfl) LEs.nil) (fun i r h => m_dataspace_all_1_ok i a0 r h) ?_)
 obtain ⟨y2, hy2, h⟩ := bnd1_some h
 refine G_q rfl (zaf (m_slices_ContainsFunc_L_api_Value_api_Value_ok _ _ _ hy2) Tryz.func47 (by kernel_rfl) (LEs.cons (AV.le_eq rfl) (LEs.cons (AV.le_eq rfl) LEs.nil)) ?_)
 refine G_nil (zaa ?_)
 refine kb (p := y2) rfl h (fun hc h => ?_) (fun hc h => ?_)
 ·refine zac (kr ?_)
  refine qa (.xs ([] : List UInt8)) rfl ?_
  refine qa (.xi 17) rfl ?_
  refine G_nil (zaa (k_ret (kC_ret ?_)))
  obtain rfl := Option.some.inj h
  refine ke (pt (pt AF0 4 (.xs ([] : List UInt8))) 5 (.xi 17)) [] rfl ?_ ⟨rfl, rfl⟩
  exact so (lq rfl (lq rfl lt0))
 ·refine k_skip (zaa (zac (kr ?_)))
  refine qa (.exact (.slice none 0 0)) rfl ?_
  refine G_nil (zaa ?_)
  refine k_join1_1 h (fun (x6_j3 : List (List UInt8)) (v6_j3 : Value) => (pt AF0 6 (.exact v6_j3))) (fun (x6_j3 : List (List UInt8)) (v6_j3 : Value) => [vecO Tryz.prog 23 1 zab v6_j3 x6_j3]) (fun k3 h => ?_) (fun x6_j3 v6_j3 h => ?_)
  ·refine zac (kr ?_)
   refine qm (.row 1 zab a1) rfl ?_
   refine G_q rfl (zai (by kernel_rfl) rfl ?_)
   refine qm (.xi 0) rfl ?_
   refine G_nil (zaa (k_block ?_))
   refine k_loop2_1 (m_dataspace_all_L2 a0 a1 k3) (m_dataspace_all_B2 a0 a1 k3) (fun _ _ => rfl) (fun m _ _ => rfl) h (fun (x6_l2 : List (List UInt8)) (x16_l2 : Int) (v6_l2 : Value) => (pt (pt (pt (pt (pt AF0 2 (.ptr [.row 4 zae a0])) 6 (.exact v6_l2)) 14 (.row 1 zab a1)) 15 (.xi (List.length a1 : Int))) 16 (.xi x16_l2))) (fun (x6_l2 : List (List UInt8)) (x16_l2 : Int) (v6_l2 : Value) => [vecO Tryz.prog 23 1 zab v6_l2 x6_l2]) (.slice none 0 0) ?_ (fun rec2 x6_l2 x16_l2 v6_l2 h => ?_)
   ·refine Sub.trans (SubU.to (SubU.nilT (P := Tryz.prog) (t := 23) (n := 1) (enc := zab))) ?_
    refine Sub.trans (SubU.to SubU.toO) ?_
    exact so (l4 rfl rfl rfl rfl (lq rfl lt0))
   ·unfold m_dataspace_all_B2 at h
    refine zac (kr ?_)
    refine G_q rfl (op_lss rfl rfl ?_)
    refine G_nil (zaa (zac ?_))
    refine kd (p := x16_l2 < (List.length a1 : Int)) rfl h (fun hc h => ?_) (fun hc h => ?_)
    ·refine k_skip (zaa (zac (k_block (zac (kr ?_)))))
     obtain ⟨n35, h⟩ := need_some h
     refine G_q rfl (zaj (by kernel_rfl) rfl rfl n35.1 n35.2 ?_)
     refine G_q rfl (op_load1p (a := .xs (gi a1 x16_l2)) (by kernel_rfl) rfl rfl ?_)
     refine qa (.xs (gi a1 x16_l2)) rfl ?_
     refine G_nil (zaa (zac (kr ?_)))
     refine G_q rfl (op_load1p (a := .row 4 zae a0) (by kernel_rfl) rfl rfl ?_)
     refine qm (.xs (gi a1 x16_l2)) rfl ?_
     obtain ⟨y36, hy36, h⟩ := bnd1_some h
     refine G_q rfl (zaf (m_dataspace_complete_ok _ _ _ hy36) Tryz.func42 (by kernel_rfl) (LEs.cons (AV.le_eq rfl) (LEs.cons (AV.le_eq rfl) LEs.nil)) ?_)
     refine qm (.tup [.row 1 zab y36.1, .xi y36.2]) rfl ?_
     refine G_q rfl (op_extract (av := .row 1 zab y36.1) rfl rfl ?_)
     refine G_q rfl (op_extract (av := .xi y36.2) rfl rfl ?_)
     refine qa (.row 1 zab y36.1) rfl ?_
     refine qa (.xi y36.2) rfl ?_
     refine G_nil (zaa (zac (zac (kr ?_))))
     refine qm (.xi y36.2) rfl ?_
     refine G_q rfl (op_neq rfl rfl ?_)
     refine G_nil (zaa ?_)
     refine kd (p := ¬ y36.2 = 0) rfl h (fun hc h => ?_) (fun hc h => ?_)
     ·refine zac (kr ?_)
      refine qm (.xi y36.2) rfl ?_
      refine qa (.xs ([] : List UInt8)) rfl ?_
      refine qa (.xi y36.2) rfl ?_
      refine G_nil (zaa (k_ret (kC_ret (kB_ret (kC_ret (kI_ret (kB_ret (kI_ret ?_))))))))
      obtain rfl := Option.some.inj h
      refine ke (pt (pt AF0 4 (.xs ([] : List UInt8))) 5 (.xi y36.2)) [] rfl ?_ ⟨rfl, rfl⟩
      refine Sub.trans (SubU.to SubU.drop) ?_
      exact so (lq rfl (lq rfl lt0))
     ·refine k_skip (zaa (zac (kr ?_)))
      refine qm (.exact v6_l2) rfl ?_
      refine qm (.row 1 zab y36.1) rfl ?_
      obtain ⟨n37, h⟩ := need_some h
      refine G_l rfl (op_appO (by kernel_rfl) rfl rfl oc_c_api_Value n37 (fun v38 => ?_))
      refine G_sub rfl (SubU.freezeO (s := 31) rfl len_c_api_Value) ?_
      obtain ⟨y39, hy39, h⟩ := bnd1_some h
      refine G_l rfl (op_fun_0_1_1 (m_value_Sort_ok _ _ hy39) Tryz.func89 (by kernel_rfl) (LEs.cons (AV.le_eq rfl) LEs.nil) (fun v40 => ?_))
      refine qa (.exact v40) rfl ?_
      refine G_nil (zaa (zac (kr ?_)))
      refine qm (.exact v40) rfl ?_
      refine G_r rfl (op_len_O (by kernel_rfl) rfl ?_)
      refine G_q rfl (op_gtr rfl rfl ?_)
      refine G_nil (zaa ?_)
      refine kd (p := 4096 < (List.length y39 : Int)) rfl h (fun hc h => ?_) (fun hc h => ?_)
      ·refine zac (kr ?_)
       refine qa (.xs ([] : List UInt8)) rfl ?_
       refine qa (.xi 9) rfl ?_
       refine G_nil (zaa (k_ret (kB_ret (kC_ret (kI_ret (kB_ret (kI_ret ?_)))))))
       obtain rfl := Option.some.inj h
       refine ke (pt (pt AF0 4 (.xs ([] : List UInt8))) 5 (.xi 9)) [] rfl ?_ ⟨rfl, rfl⟩
       refine Sub.trans (SubU.to SubU.drop) ?_
       exact so (lq rfl (lq rfl lt0))
      ·refine k_skip (kB_normal (zaa (kr ?_)))
       refine G_q rfl (op_add rfl rfl rfl ?_)
       refine qm (.xi (i64 (x16_l2 + 1))) rfl ?_
       refine G_nil ?_
       refine zad ⟨_, _, v40, h, ?_⟩
       exact so (l4 rfl rfl rfl rfl (lq rfl lt0))
    ·refine k_exit (kC_exit (kI_exit (kB_exit ?_)))
     refine zad ⟨_, v6_l2, h, ?_⟩
     exact so (lq rfl lt0)
  ·refine zac (kr ?_)
   refine qm (.exact v6_j3) rfl ?_
   refine G_sub rfl (SubU.freezeO (s := 37) rfl len_c_api_Value) ?_
   obtain ⟨y41, hy41, h⟩ := bnd1_some h
   refine G_q rfl (zaf (m_dataspace_set_ok _ _ hy41) Tryz.func90 (by kernel_rfl) (LEs.cons (AV.le_eq rfl) LEs.nil) ?_)
   refine G_q rfl (op_extract (av := .xs y41.1) rfl rfl ?_)
   refine G_q rfl (op_extract (av := .xi y41.2) rfl rfl ?_)
   refine qa (.xs y41.1) rfl ?_
   refine qa (.xi y41.2) rfl ?_
   refine G_nil (zaa (k_ret ?_))
   obtain rfl := Option.some.inj h
   refine ke (pt (pt AF0 4 (.xs y41.1)) 5 (.xi y41.2)) [] rfl ?_ ⟨rfl, rfl⟩
   exact so (lq rfl (lq rfl lt0))
end Go.Proofs.YtjlbdhicabgliaaGreat
/- The functions compute their models, by program. -/
namespace Go.Proofs.YtjlbdhicabgliaaGreat
open Go.RowKit
attribute [local irreducible] AV.exact AV.top AV.row AV.ptr AV.agg AV.tup AV.eptr AV.fn AV.nilq AV.nilqn opA opB opM opR Quiet Loud Reads wpG awp den Sub SubU Pure Fun vecI vecT boxI CellsAll CellsOf OneC LEs LEss
set_option maxRecDepth 100000

set_option maxHeartbeats 4000000 in
theorem m_ref9_bounded_ok (a0 : List (List UInt8)) (r : (List UInt8) × Int) (h : m_ref9_bounded a0 = some r) : Pure Tryz.prog 91 [(.row 1 zab a0)] (.tup [.exact (.string (bs r.1)), .exact (.int .i64 r.2)]) := by
 unfold m_ref9_bounded at h
 refine Pure.ofFun (fun_of_awp Tryz.func91 rfl Tryz.ntmps91 (by simp) rfl (res2 rfl) fun E hE => k_end ?_)
 refine zac (kr ?_)
 refine qa (.xs ([] : List UInt8)) rfl ?_
 refine qa (.xi 0) rfl ?_
 refine G_nil (zaa (zac (kr ?_)))
 refine qm (.row 1 zab a0) rfl ?_
 obtain ⟨y1, hy1, h⟩ := bnd1_some h
 refine G_q rfl (zaf (m_ref9_Sort_ok _ _ hy1) Tryz.func26 (by kernel_rfl) (LEs.cons (AV.le_eq rfl) LEs.nil) ?_)
 refine qa (.row 1 zab y1) rfl ?_
 refine G_nil (zaa (zac (zac (kr ?_))))
 refine qm (.row 1 zab y1) rfl ?_
 refine G_q rfl (zai (by kernel_rfl) rfl ?_)
 refine G_q rfl (op_gtr rfl rfl ?_)
 refine G_nil (zaa ?_)
 refine kd (p := 4096 < (List.length y1 : Int)) rfl h (fun hc h => ?_) (fun hc h => ?_)
 ·refine zac (kr ?_)
  refine qa (.xs ([] : List UInt8)) rfl ?_
  refine qa (.xi 9) rfl ?_
  refine G_nil (zaa (k_ret (kC_ret ?_)))
  obtain rfl := Option.some.inj h
  refine ke (pt (pt AF0 2 (.xs ([] : List UInt8))) 3 (.xi 9)) [] rfl ?_ ⟨rfl, rfl⟩
  exact so (lq rfl (lq rfl lt0))
 ·refine k_skip (zaa (zac (kr ?_)))
  refine qm (.row 1 zab y1) rfl ?_
  obtain ⟨y2, hy2, h⟩ := bnd1_some h
  refine G_q rfl (zaf (m_ref9_Set_ok _ _ hy2) Tryz.func6 (by kernel_rfl) (LEs.cons (AV.le_eq rfl) LEs.nil) ?_)
  refine qa (.xs y2) rfl ?_
  refine G_nil (zaa (zac (zac (kr ?_))))
  refine qm (.xs y2) rfl ?_
  refine G_q rfl (op_eqlS rfl rfl ?_)
  refine G_nil (zaa ?_)
  refine kd (p := y2 = ([] : List UInt8)) rfl h (fun hc h => ?_) (fun hc h => ?_)
  ·refine zac (kr ?_)
   refine qa (.xs ([] : List UInt8)) rfl ?_
   refine qa (.xi 9) rfl ?_
   refine G_nil (zaa (k_ret (kC_ret ?_)))
   obtain rfl := Option.some.inj h
   refine ke (pt (pt AF0 2 (.xs ([] : List UInt8))) 3 (.xi 9)) [] rfl ?_ ⟨rfl, rfl⟩
   exact so (lq rfl (lq rfl lt0))
  ·refine k_skip (zaa (zac (kr ?_)))
   refine qm (.xs y2) rfl ?_
   refine qa (.xs y2) rfl ?_
   refine qa (.xi 0) rfl ?_
   refine G_nil (zaa (k_ret ?_))
   obtain rfl := Option.some.inj h
   refine ke (pt (pt AF0 2 (.xs y2)) 3 (.xi 0)) [] rfl ?_ ⟨rfl, rfl⟩
   exact so (lq rfl (lq rfl lt0))
set_option maxHeartbeats 4000000 in
theorem m_ref9_Range_ok (a0 : Int) (a1 : Int) (r : (List UInt8) × Int) (h : m_ref9_Range a0 a1 = some r) : Pure Tryz.prog 45 [(.exact (.int .i64 a0)), (.exact (.int .i64 a1))] (.tup [.exact (.string (bs r.1)), .exact (.int .i64 r.2)]) := by
 unfold m_ref9_Range at h
 refine Pure.ofFun (fun_of_awp Tryz.func45 rfl Tryz.ntmps45 (by simp) rfl (res2 rfl) fun E hE => k_end ?_)
 refine zac (kr ?_)
 refine qa (.xs ([] : List UInt8)) rfl ?_
 refine qa (.xi 0) rfl ?_
 refine G_nil (zaa (zac (kr ?_)))
 refine qa (.exact (.slice none 0 0)) rfl ?_
 refine G_nil (zaa ?_)
 refine k_join1_1 h (fun (x6_j1 : List (List UInt8)) (v6_j1 : Value) => (pt AF0 6 (.exact v6_j1))) (fun (x6_j1 : List (List UInt8)) (v6_j1 : Value) => [vecT Tryz.prog 23 1 zab v6_j1 x6_j1]) (fun k1 h => ?_) (fun x6_j1 v6_j1 h => ?_)
 ·refine zac (kr ?_)
  refine qm (.xi a0) rfl ?_
  refine qa (.xi a0) rfl ?_
  refine G_nil (zaa (k_block ?_))
  refine k_loop2_1 (m_ref9_Range_L2 a1 k1) (m_ref9_Range_B2 a1 k1) (fun _ _ => rfl) (fun m _ _ => rfl) h (fun (x6_l2 : List (List UInt8)) (x7_l2 : Int) (v6_l2 : Value) => (pt (pt (pt AF0 1 (.xi a1)) 6 (.exact v6_l2)) 7 (.xi x7_l2))) (fun (x6_l2 : List (List UInt8)) (x7_l2 : Int) (v6_l2 : Value) => [vecT Tryz.prog 23 1 zab v6_l2 x6_l2]) (.slice none 0 0) ?_ (fun rec2 x6_l2 x7_l2 v6_l2 h => ?_)
  ·refine Sub.trans (SubU.to (SubU.nilT (P := Tryz.prog) (t := 23) (n := 1) (enc := zab))) ?_
   exact so (lq rfl (lq rfl (lq rfl lt0)))
  ·unfold m_ref9_Range_B2 at h
   refine zac (zac (kr ?_))
   refine qm (.xi x7_l2) rfl ?_
   refine qm (.xi a1) rfl ?_
   refine G_q rfl (op_leq rfl rfl ?_)
   refine G_nil (zaa ?_)
   refine kd (p := x7_l2 ≤ a1) rfl h (fun hc h => ?_) (fun hc h => ?_)
   ·refine k_skip (zaa (zac (k_block (zac (zac (kr ?_))))))
    refine qm (.exact v6_l2) rfl ?_
    refine G_r rfl (op_len_vec (by kernel_rfl) rfl ?_)
    refine G_q rfl (op_geq rfl rfl ?_)
    refine G_nil (zaa ?_)
    refine kd (p := 4096 ≤ (List.length x6_l2 : Int)) rfl h (fun hc h => ?_) (fun hc h => ?_)
    ·refine zac (kr ?_)
     refine qa (.xs ([] : List UInt8)) rfl ?_
     refine qa (.xi 9) rfl ?_
     refine G_nil (zaa (k_ret (kC_ret (kB_ret (kC_ret (kI_ret (kB_ret (kI_ret ?_))))))))
     obtain rfl := Option.some.inj h
     refine ke (pt (pt AF0 4 (.xs ([] : List UInt8))) 5 (.xi 9)) [] rfl ?_ ⟨rfl, rfl⟩
     refine Sub.trans (SubU.to SubU.drop) ?_
     exact so (lq rfl (lq rfl lt0))
    ·refine k_skip (zaa (zac (kr ?_)))
     refine qm (.exact v6_l2) rfl ?_
     refine qm (.xi x7_l2) rfl ?_
     obtain ⟨y18, hy18, h⟩ := bnd1_some h
     refine G_q rfl (zaf (m_ref9_Int_ok _ _ hy18) Tryz.func7 (by kernel_rfl) (LEs.cons (AV.le_eq rfl) LEs.nil) ?_)
     refine G_q rfl (op_litT (n := 1) (enc := zab) [y18] (CellsAll.cons rfl CellsOf.str CellsAll.nil) rfl (by kernel_rfl) (LEss.cons (LEs.cons (AV.le_eq rfl) LEs.nil) LEss.nil) ?_)
     obtain ⟨n19, h⟩ := need_some h
     refine G_l rfl (op_appT (by kernel_rfl) rfl rfl oc_c_api_Value n19 (fun v20 => ?_))
     refine qa (.exact v20) rfl ?_
     refine G_nil (zaa (zac (kr ?_)))
     refine qm (.xi x7_l2) rfl ?_
     refine G_q rfl (op_eql rfl rfl ?_)
     refine G_nil (zaa ?_)
     refine kd (p := x7_l2 = 9223372036854775807) rfl h (fun hc h => ?_) (fun hc h => ?_)
     ·refine k_exit (kB_pass rfl (kC_exit (kI_exit (kB_exit ?_))))
      refine zad ⟨_, v20, h, ?_⟩
      exact so (lq rfl lt0)
     ·refine k_skip (kB_normal (zaa (kr ?_)))
      refine qm (.xi x7_l2) rfl ?_
      refine G_q rfl (op_add rfl rfl rfl ?_)
      refine qa (.xi (i64 (x7_l2 + 1))) rfl ?_
      refine G_nil ?_
      refine zad ⟨_, _, v20, h, ?_⟩
      exact so (lq rfl (lq rfl (lq rfl lt0)))
   ·refine k_exit (kC_exit (kI_exit (kB_exit ?_)))
    refine zad ⟨_, v6_l2, h, ?_⟩
    exact so (lq rfl lt0)
 ·refine zac (kr ?_)
  refine qm (.exact v6_j1) rfl ?_
  refine G_sub rfl (SubU.freezeT2 (s1 := 6) (s2 := 24) rfl rfl len_c_api_Value) ?_
  obtain ⟨y21, hy21, h⟩ := bnd1_some h
  refine G_q rfl (zaf (m_ref9_bounded_ok _ _ hy21) Tryz.func91 (by kernel_rfl) (LEs.cons (AV.le_eq rfl) LEs.nil) ?_)
  refine G_q rfl (op_extract (av := .xs y21.1) rfl rfl ?_)
  refine G_q rfl (op_extract (av := .xi y21.2) rfl rfl ?_)
  refine qa (.xs y21.1) rfl ?_
  refine qa (.xi y21.2) rfl ?_
  refine G_nil (zaa (k_ret ?_))
  obtain rfl := Option.some.inj h
  refine ke (pt (pt AF0 4 (.xs y21.1)) 5 (.xi y21.2)) [] rfl ?_ ⟨rfl, rfl⟩
  exact so (lq rfl (lq rfl lt0))
set_option maxHeartbeats 4000000 in
theorem m_dataspace_Complete_ok (a0 : List ((List UInt8) × Int × (List Int) × (List (List UInt8)))) (a1 : List UInt8) (r : Bool) (h : m_dataspace_Complete a0 a1 = some r) : Pure Tryz.prog 19 [(.row 4 zae a0), (.exact (.string (bs a1)))] (.exact (.bool r)) := by
 unfold m_dataspace_Complete at h
 refine Pure.ofFun (fun_of_awp Tryz.func19 rfl Tryz.ntmps19 (by simp) rfl (res1 rfl) fun E hE => k_end ?_)
 refine zac (kr ?_)
 refine qa (.xb false) rfl ?_
 refine G_nil (zaa ?_)
 refine k_join1_0 h (fun (x4_j1 : Bool) => (pt AF0 4 (.xb x4_j1))) (fun (x4_j1 : Bool) => []) (fun k1 h => ?_) (fun x4_j1 h => ?_)
 ·refine kr ?_
  refine qm (.row 4 zae a0) rfl ?_
  obtain ⟨y5, hy5, h⟩ := bnd1_some h
  refine G_q rfl (zaf (m_dataspace_Valid_ok _ _ hy5) Tryz.func30 (by kernel_rfl) (LEs.cons (AV.le_eq rfl) LEs.nil) ?_)
  refine qm (.xb y5) rfl ?_
  refine G_splitB (c := y5) 7 rfl (fun hc => ?_) (fun hc => ?_)
  ·replace h := ite_t h hc
   refine Gy_q rfl rfl rfl (zag (av := .row 4 zae a0) rfl ?_)
   refine Gy_q rfl rfl rfl (zag (av := .xs a1) rfl ?_)
   obtain ⟨y6, hy6, h⟩ := bnd1_some h
   refine Gy_q rfl rfl rfl (zaf (m_dataspace_belongs_ok _ _ _ hy6) Tryz.func32 (by kernel_rfl) (LEs.cons (AV.le_eq rfl) (LEs.cons (AV.le_eq rfl) LEs.nil)) ?_)
   refine G_q rfl (op_pick_t rfl (av := .xb y6) rfl ?_)
   refine qm (.xb y6) rfl ?_
   refine G_splitB (c := y6) 12 rfl (fun hc => ?_) (fun hc => ?_)
   ·replace h := ite_t h hc
    refine Gy_q rfl rfl rfl (zag (av := .row 4 zae a0) rfl ?_)
    refine Gy_q rfl rfl rfl (zag (av := .xs a1) rfl ?_)
    obtain ⟨y7, hy7, h⟩ := bnd1_some h
    refine Gy_q rfl rfl rfl (zaf (m_dataspace_missing_ok _ _ _ hy7) Tryz.func35 (by kernel_rfl) (LEs.cons (AV.le_eq rfl) (LEs.cons (AV.le_eq rfl) LEs.nil)) ?_)
    refine Gy_q rfl rfl rfl (zai (by kernel_rfl) rfl ?_)
    refine Gy_q rfl rfl rfl (op_eql rfl rfl ?_)
    refine G_q rfl (op_pick_t rfl (av := .xb (decide ((List.length y7 : Int) = 0))) rfl ?_)
    refine qa (.xb (decide ((List.length y7 : Int) = 0))) rfl ?_
    refine G_nil ?_
    refine zad ⟨_, h, ?_⟩
    exact so (lq rfl lt0)
   ·replace h := ite_f h hc
    refine G_n rfl rfl (G_n rfl rfl (G_n rfl rfl (G_n rfl rfl (G_n rfl rfl ?_))))
    refine G_q rfl (zak rfl (av := .xb false) rfl ?_)
    refine qa (.xb false) rfl ?_
    refine G_nil ?_
    refine zad ⟨_, h, ?_⟩
    exact so (lq rfl lt0)
  ·replace h := ite_f h hc
   refine G_n rfl rfl (G_n rfl rfl (G_n rfl rfl ?_))
   refine G_q rfl (zak rfl (av := .xb false) rfl ?_)
   refine qm (.xb false) rfl ?_
   refine G_n rfl rfl (G_n rfl rfl (G_n rfl rfl (G_n rfl rfl (G_n rfl rfl ?_))))
   refine G_q rfl (zak rfl (av := .xb false) rfl ?_)
   refine qa (.xb false) rfl ?_
   refine G_nil ?_
   refine zad ⟨_, h, ?_⟩
   exact so (lq rfl lt0)
 ·refine k_ret ?_
  obtain rfl := Option.some.inj h
  refine ke (pt AF0 4 (.xb x4_j1)) [] rfl ?_ ⟨rfl, rfl⟩
  exact so (lq rfl lt0)
set_option maxHeartbeats 4000000 in
theorem m_law11_awake_ok  (r : Bool) (h : m_law11_awake = some r) : Pure Tryz.prog 13 [] (.exact (.bool r)) := by
 unfold m_law11_awake at h
 refine Pure.ofFun (fun_of_awp Tryz.func13 rfl Tryz.ntmps13 (by simp) rfl (res1 rfl) fun E hE => k_end ?_)
 refine zac (kr ?_)
 refine qa (.xb false) rfl ?_
 refine G_nil (zaa (zac (kr ?_)))
 obtain ⟨y1, hy1, h⟩ := bnd1_some h
 refine G_q rfl (zaf (m_ref9_Range_ok _ _ _ hy1) Tryz.func45 (by kernel_rfl) (LEs.cons (AV.le_eq rfl) (LEs.cons (AV.le_eq rfl) LEs.nil)) ?_)
 refine qm (.tup [.xs y1.1, .xi y1.2]) rfl ?_
 refine G_q rfl (op_extract (av := .xs y1.1) rfl rfl ?_)
 refine G_q rfl (op_extract (av := .xi y1.2) rfl rfl ?_)
 refine qa (.xs y1.1) rfl ?_
 refine qa (.xi y1.2) rfl ?_
 refine G_nil (zaa (zac (kr ?_)))
 refine qm (.xs y1.1) rfl ?_
 refine qm (.xs y1.1) rfl ?_
 refine G_q rfl (op_litT (n := 1) (enc := zab) [y1.1, y1.1] (CellsAll.cons rfl CellsOf.str (CellsAll.cons rfl CellsOf.str CellsAll.nil)) rfl (by kernel_rfl) (LEss.cons (LEs.cons (AV.le_eq rfl) LEs.nil) (LEss.cons (LEs.cons (AV.le_eq rfl) LEs.nil) LEss.nil)) ?_)
 refine G_q rfl (op_bld (c' := zae ([99], (-1), [], [y1.1, y1.1])) (CellsAll.cons rfl CellsOf.str (CellsAll.cons rfl CellsOf.int (CellsAll.cons rfl CellsOf.row CellsAll.nil))) rfl (LEs.cons (AV.le_eq rfl) (LEs.cons (AV.le_eq rfl) (LEs.cons (row_nil (by decide)) (LEs.cons (AV.le_eq rfl) LEs.nil)))) ?_)
 refine G_q rfl (op_litT (n := 4) (enc := zae) [([99], (-1), [], [y1.1, y1.1])] (CellsAll.cons rfl CellsOf.agg CellsAll.nil) rfl (by kernel_rfl) (LEss.cons (LEs.cons (AV.le_eq rfl) (LEs.cons (AV.le_eq rfl) (LEs.cons (AV.le_eq rfl) (LEs.cons (AV.le_eq rfl) LEs.nil)))) LEss.nil) ?_)
 refine qa (.row 4 zae ([([99], (-1), [], [y1.1, y1.1])])) rfl ?_
 refine G_nil (zaa (zac (kr ?_)))
 refine qm (.row 4 zae ([([99], (-1), [], [y1.1, y1.1])])) rfl ?_
 obtain ⟨y2, hy2, h⟩ := bnd1_some h
 refine G_q rfl (zaf (m_dataspace_Events_ok _ _ hy2) Tryz.func11 (by kernel_rfl) (LEs.cons (AV.le_eq rfl) LEs.nil) ?_)
 refine qm (.tup [.row 1 zab y2.1, .xi y2.2]) rfl ?_
 refine G_q rfl (op_extract (av := .row 1 zab y2.1) rfl rfl ?_)
 refine G_q rfl (op_extract (av := .xi y2.2) rfl rfl ?_)
 refine qa (.row 1 zab y2.1) rfl ?_
 refine qa (.xi y2.2) rfl ?_
 refine G_nil (zaa (zac (kr ?_)))
 refine qm (.row 4 zae ([([99], (-1), [], [y1.1, y1.1])])) rfl ?_
 obtain ⟨y3, hy3, h⟩ := bnd1_some h
 refine G_q rfl (zaf (m_ref9_Dot_ok _ _ _ hy3) Tryz.func8 (by kernel_rfl) (LEs.cons (AV.le_eq rfl) (LEs.cons (row_nil (by decide)) LEs.nil)) ?_)
 obtain ⟨y4, hy4, h⟩ := bnd1_some h
 refine G_q rfl (zaf (m_ref9_Int_ok _ _ hy4) Tryz.func7 (by kernel_rfl) (LEs.cons (AV.le_eq rfl) LEs.nil) ?_)
 obtain ⟨y5, hy5, h⟩ := bnd1_some h
 refine G_q rfl (zaf (m_dataspace_Join_ok _ _ _ _ hy5) Tryz.func10 (by kernel_rfl) (LEs.cons (AV.le_eq rfl) (LEs.cons (AV.le_eq rfl) (LEs.cons (AV.le_eq rfl) LEs.nil))) ?_)
 refine qm (.tup [.xs y5.1, .xi y5.2]) rfl ?_
 refine G_q rfl (op_extract (av := .xs y5.1) rfl rfl ?_)
 refine G_q rfl (op_extract (av := .xi y5.2) rfl rfl ?_)
 refine qa (.xs y5.1) rfl ?_
 refine qa (.xi y5.2) rfl ?_
 refine G_nil (zaa (zac (kr ?_)))
 refine qm (.row 4 zae ([([99], (-1), [], [y1.1, y1.1])])) rfl ?_
 obtain ⟨y6, hy6, h⟩ := bnd1_some h
 refine G_q rfl (zaf (m_ref9_Dot_ok _ _ _ hy6) Tryz.func8 (by kernel_rfl) (LEs.cons (AV.le_eq rfl) (LEs.cons (row_nil (by decide)) LEs.nil)) ?_)
 obtain ⟨y7, hy7, h⟩ := bnd1_some h
 refine G_q rfl (zaf (m_ref9_Int_ok _ _ hy7) Tryz.func7 (by kernel_rfl) (LEs.cons (AV.le_eq rfl) LEs.nil) ?_)
 obtain ⟨y8, hy8, h⟩ := bnd1_some h
 refine G_q rfl (zaf (m_dataspace_Join_ok _ _ _ _ hy8) Tryz.func10 (by kernel_rfl) (LEs.cons (AV.le_eq rfl) (LEs.cons (AV.le_eq rfl) (LEs.cons (AV.le_eq rfl) LEs.nil))) ?_)
 refine qm (.tup [.xs y8.1, .xi y8.2]) rfl ?_
 refine G_q rfl (op_extract (av := .xs y8.1) rfl rfl ?_)
 refine G_q rfl (op_extract (av := .xi y8.2) rfl rfl ?_)
 refine qa (.xs y8.1) rfl ?_
 refine qa (.xi y8.2) rfl ?_
 refine G_nil (zaa ?_)
 refine k_join1_0 h (fun (x0_j9 : Bool) => (pt AF0 0 (.xb x0_j9))) (fun (x0_j9 : Bool) => []) (fun k9 h => ?_) (fun x0_j9 h => ?_)
 ·refine kr ?_
  refine qm (.row 4 zae ([([99], (-1), [], [y1.1, y1.1])])) rfl ?_
  obtain ⟨y14, hy14, h⟩ := bnd1_some h
  refine G_q rfl (zaf (m_dataspace_Valid_ok _ _ hy14) Tryz.func30 (by kernel_rfl) (LEs.cons (AV.le_eq rfl) LEs.nil) ?_)
  refine qm (.xb y14) rfl ?_
  refine G_splitB (c := y14) 40 rfl (fun hc => ?_) (fun hc => ?_)
  ·replace h := ite_t h hc
   refine Gy_q rfl rfl rfl (zag (av := .xi y2.2) rfl ?_)
   refine Gy_q rfl rfl rfl (op_eql rfl rfl ?_)
   refine G_q rfl (op_pick_t rfl (av := .xb (decide (y2.2 = 0))) rfl ?_)
   refine qm (.xb (decide (y2.2 = 0))) rfl ?_
   refine G_split (p := y2.2 = 0) 44 rfl (fun hc => ?_) (fun hc => ?_)
   ·replace h := ite_t h hc
    refine Gy_q rfl rfl rfl (zag (av := .row 1 zab y2.1) rfl ?_)
    refine Gy_q rfl rfl rfl (zai (by kernel_rfl) rfl ?_)
    refine Gy_q rfl rfl rfl (op_eql rfl rfl ?_)
    refine G_q rfl (op_pick_t rfl (av := .xb (decide ((List.length y2.1 : Int) = 4))) rfl ?_)
    refine qm (.xb (decide ((List.length y2.1 : Int) = 4))) rfl ?_
    refine G_split (p := (List.length y2.1 : Int) = 4) 49 rfl (fun hc => ?_) (fun hc => ?_)
    ·replace h := ite_t h hc
     refine Gy_q rfl rfl rfl (zag (av := .xi y5.2) rfl ?_)
     refine Gy_q rfl rfl rfl (op_eql rfl rfl ?_)
     refine G_q rfl (op_pick_t rfl (av := .xb (decide (y5.2 = 0))) rfl ?_)
     refine qm (.xb (decide (y5.2 = 0))) rfl ?_
     refine G_split (p := y5.2 = 0) 53 rfl (fun hc => ?_) (fun hc => ?_)
     ·replace h := ite_t h hc
      refine Gy_q rfl rfl rfl (zag (av := .xs y5.1) rfl ?_)
      obtain ⟨y15, hy15, h⟩ := bnd1_some h
      refine Gy_q rfl rfl rfl (zaf (m_ref9_Int_ok _ _ hy15) Tryz.func7 (by kernel_rfl) (LEs.cons (AV.le_eq rfl) LEs.nil) ?_)
      refine Gy_q rfl rfl rfl (op_litT (n := 1) (enc := zab) [y15] (CellsAll.cons rfl CellsOf.str CellsAll.nil) rfl (by kernel_rfl) (LEss.cons (LEs.cons (AV.le_eq rfl) LEs.nil) LEss.nil) ?_)
      obtain ⟨y16, hy16, h⟩ := bnd1_some h
      refine Gy_q rfl rfl rfl (zaf (m_ref9_Dot_ok _ _ _ hy16) Tryz.func8 (by kernel_rfl) (LEs.cons (AV.le_eq rfl) (LEs.cons (AV.le_eq rfl) LEs.nil)) ?_)
      refine Gy_q rfl rfl rfl (op_eqlS rfl rfl ?_)
      refine G_q rfl (op_pick_t rfl (av := .xb (decide (y5.1 = y16))) rfl ?_)
      refine qm (.xb (decide (y5.1 = y16))) rfl ?_
      refine G_split (p := y5.1 = y16) 60 rfl (fun hc => ?_) (fun hc => ?_)
      ·replace h := ite_t h hc
       refine Gy_q rfl rfl rfl (zag (av := .xi y8.2) rfl ?_)
       refine Gy_q rfl rfl rfl (op_eql rfl rfl ?_)
       refine G_q rfl (op_pick_t rfl (av := .xb (decide (y8.2 = 18))) rfl ?_)
       refine qm (.xb (decide (y8.2 = 18))) rfl ?_
       refine G_split (p := y8.2 = 18) 64 rfl (fun hc => ?_) (fun hc => ?_)
       ·replace h := ite_t h hc
        refine Gy_q rfl rfl rfl (zag (av := .row 4 zae ([([99], (-1), [], [y1.1, y1.1])])) rfl ?_)
        refine Gy_q rfl rfl rfl (zag (av := .xs y5.1) rfl ?_)
        obtain ⟨y17, hy17, h⟩ := bnd1_some h
        refine Gy_q rfl rfl rfl (zaf (m_dataspace_Complete_ok _ _ _ hy17) Tryz.func19 (by kernel_rfl) (LEs.cons (AV.le_eq rfl) (LEs.cons (AV.le_eq rfl) LEs.nil)) ?_)
        refine Gy_q rfl rfl rfl (op_not rfl ?_)
        refine G_q rfl (op_pick_t rfl (av := .xb (!y17)) rfl ?_)
        refine qa (.xb (!y17)) rfl ?_
        refine G_nil ?_
        refine zad ⟨_, h, ?_⟩
        exact so (lq rfl lt0)
       ·replace h := ite_f h hc
        refine G_n rfl rfl (G_n rfl rfl (G_n rfl rfl (G_n rfl rfl ?_)))
        refine G_q rfl (zak rfl (av := .xb false) rfl ?_)
        refine qa (.xb false) rfl ?_
        refine G_nil ?_
        refine zad ⟨_, h, ?_⟩
        exact so (lq rfl lt0)
      ·replace h := ite_f h hc
       refine G_n rfl rfl (G_n rfl rfl ?_)
       refine G_q rfl (zak rfl (av := .xb false) rfl ?_)
       refine qm (.xb false) rfl ?_
       refine G_n rfl rfl (G_n rfl rfl (G_n rfl rfl (G_n rfl rfl ?_)))
       refine G_q rfl (zak rfl (av := .xb false) rfl ?_)
       refine qa (.xb false) rfl ?_
       refine G_nil ?_
       refine zad ⟨_, h, ?_⟩
       exact so (lq rfl lt0)
     ·replace h := ite_f h hc
      refine G_n rfl rfl (G_n rfl rfl (G_n rfl rfl (G_n rfl rfl (G_n rfl rfl ?_))))
      refine G_q rfl (zak rfl (av := .xb false) rfl ?_)
      refine qm (.xb false) rfl ?_
      refine G_n rfl rfl (G_n rfl rfl ?_)
      refine G_q rfl (zak rfl (av := .xb false) rfl ?_)
      refine qm (.xb false) rfl ?_
      refine G_n rfl rfl (G_n rfl rfl (G_n rfl rfl (G_n rfl rfl ?_)))
      refine G_q rfl (zak rfl (av := .xb false) rfl ?_)
      refine qa (.xb false) rfl ?_
      refine G_nil ?_
      refine zad ⟨_, h, ?_⟩
      exact so (lq rfl lt0)
    ·replace h := ite_f h hc
     refine G_n rfl rfl (G_n rfl rfl ?_)
     refine G_q rfl (zak rfl (av := .xb false) rfl ?_)
     refine qm (.xb false) rfl ?_
     refine G_n rfl rfl (G_n rfl rfl (G_n rfl rfl (G_n rfl rfl (G_n rfl rfl ?_))))
     refine G_q rfl (zak rfl (av := .xb false) rfl ?_)
     refine qm (.xb false) rfl ?_
     refine G_n rfl rfl (G_n rfl rfl ?_)
     refine G_q rfl (zak rfl (av := .xb false) rfl ?_)
     refine qm (.xb false) rfl ?_
     refine G_n rfl rfl (G_n rfl rfl (G_n rfl rfl (G_n rfl rfl ?_)))
     refine G_q rfl (zak rfl (av := .xb false) rfl ?_)
     refine qa (.xb false) rfl ?_
     refine G_nil ?_
     refine zad ⟨_, h, ?_⟩
     exact so (lq rfl lt0)
   ·replace h := ite_f h hc
    refine G_n rfl rfl (G_n rfl rfl (G_n rfl rfl ?_))
    refine G_q rfl (zak rfl (av := .xb false) rfl ?_)
    refine qm (.xb false) rfl ?_
    refine G_n rfl rfl (G_n rfl rfl ?_)
    refine G_q rfl (zak rfl (av := .xb false) rfl ?_)
    refine qm (.xb false) rfl ?_
    refine G_n rfl rfl (G_n rfl rfl (G_n rfl rfl (G_n rfl rfl (G_n rfl rfl ?_))))
    refine G_q rfl (zak rfl (av := .xb false) rfl ?_)
    refine qm (.xb false) rfl ?_
    refine G_n rfl rfl (G_n rfl rfl ?_)
    refine G_q rfl (zak rfl (av := .xb false) rfl ?_)
    refine qm (.xb false) rfl ?_
    refine G_n rfl rfl (G_n rfl rfl (G_n rfl rfl (G_n rfl rfl ?_)))
    refine G_q rfl (zak rfl (av := .xb false) rfl ?_)
    refine qa (.xb false) rfl ?_
    refine G_nil ?_
    refine zad ⟨_, h, ?_⟩
    exact so (lq rfl lt0)
  ·replace h := ite_f h hc
   refine G_n rfl rfl (G_n rfl rfl ?_)
   refine G_q rfl (zak rfl (av := .xb false) rfl ?_)
   refine qm (.xb false) rfl ?_
   refine G_n rfl rfl (G_n rfl rfl (G_n rfl rfl ?_))
   refine G_q rfl (zak rfl (av := .xb false) rfl ?_)
   refine qm (.xb false) rfl ?_
   refine G_n rfl rfl (G_n rfl rfl ?_)
   refine G_q rfl (zak rfl (av := .xb false) rfl ?_)
   refine qm (.xb false) rfl ?_
   refine G_n rfl rfl (G_n rfl rfl (G_n rfl rfl (G_n rfl rfl (G_n rfl rfl ?_))))
   refine G_q rfl (zak rfl (av := .xb false) rfl ?_)
   refine qm (.xb false) rfl ?_
   refine G_n rfl rfl (G_n rfl rfl ?_)
   refine G_q rfl (zak rfl (av := .xb false) rfl ?_)
   refine qm (.xb false) rfl ?_
   refine G_n rfl rfl (G_n rfl rfl (G_n rfl rfl (G_n rfl rfl ?_)))
   refine G_q rfl (zak rfl (av := .xb false) rfl ?_)
   refine qa (.xb false) rfl ?_
   refine G_nil ?_
   refine zad ⟨_, h, ?_⟩
   exact so (lq rfl lt0)
 ·refine k_ret ?_
  obtain rfl := Option.some.inj h
  refine ke (pt AF0 0 (.xb x0_j9)) [] rfl ?_ ⟨rfl, rfl⟩
  exact so (lq rfl lt0)
set_option maxHeartbeats 4000000 in
theorem m_gen_New_ok (a0 : List Int) (r : ((List Int) × Int)) (h : m_gen_New a0 = some r) : Fun Tryz.prog 14 [(.row 1 c_int a0)] [] (fun a s => ∃ z0, a = pA z0 0 ∧ s = [boxI 69 z0 [.row 1 c_int r.1, .exact (.int .i64 r.2)]]) := by
 unfold m_gen_New at h
 refine fun_of_awp Tryz.func14 rfl Tryz.ntmps14 (by simp) rfl (res1 rfl) fun E hE => k_end ?_
 refine zac (kr ?_)
 refine qa (.exact (.pointer none)) rfl ?_
 refine G_nil (zaa (zac (kr ?_)))
 refine qm (.row 1 c_int a0) rfl ?_
 refine G_q rfl (op_bld (c' := c_cspcheckgen_Choices (a0, 0)) (CellsAll.cons rfl CellsOf.row CellsAll.nil) rfl (LEs.cons (AV.le_eq rfl) (LEs.cons (AV.le_eq rfl) LEs.nil)) ?_)
 refine G_l rfl (op_boxI (c := [.row 1 c_int ((a0, 0).1), .xi ((a0, 0).2)]) rfl CellsOf.agg (LEs.cons (AV.le_eq rfl) (LEs.cons (AV.le_eq rfl) LEs.nil)) (fun b1 => ?_))
 refine qa (pA b1 0) rfl ?_
 refine G_nil (zaa (k_ret ?_))
 obtain rfl := Option.some.inj h
 refine ke (pt AF0 2 (pA b1 0)) [boxI 69 b1 [.row 1 c_int ((a0, 0).1), .xi ((a0, 0).2)]] rfl ?_ ⟨b1, rfl, rfl⟩
 exact so (lq rfl lt0)
set_option maxHeartbeats 4000000 in
theorem m_help_Mod_ok (a0 : Int) (a1 : Int) (r : Int) (h : m_help_Mod a0 a1 = some r) : Pure Tryz.prog 59 [(.exact (.int .i64 a0)), (.exact (.int .i64 a1))] (.exact (.int .i64 r)) := by
 unfold m_help_Mod at h
 refine Pure.ofFun (fun_of_awp Tryz.func59 rfl Tryz.ntmps59 (by simp) rfl (res1 rfl) fun E hE => k_end ?_)
 refine zac (kr ?_)
 refine qa (.xi 0) rfl ?_
 refine G_nil (zaa (zac (kr ?_)))
 refine qm (.xi a0) rfl ?_
 refine G_q rfl (op_convInt (k := .u64) (by kernel_rfl) rfl rfl ?_)
 refine qm (.xi a1) rfl ?_
 refine G_q rfl (op_convInt (k := .u64) (by kernel_rfl) rfl rfl ?_)
 obtain ⟨n1, h⟩ := need_some h
 refine G_q rfl (op_rem rfl rfl n1 rfl ?_)
 refine G_q rfl (op_convInt (k := .i64) (by kernel_rfl) rfl rfl ?_)
 refine qa (.xi (i64 (Int.tmod (IntKind.u64.wrap (a0)) (IntKind.u64.wrap (a1))))) rfl ?_
 refine G_nil (zaa (k_ret ?_))
 obtain rfl := Option.some.inj h
 refine ke (pt AF0 4 (.xi (i64 (Int.tmod (IntKind.u64.wrap (a0)) (IntKind.u64.wrap (a1)))))) [] rfl ?_ ⟨rfl, rfl⟩
 exact so (lq rfl lt0)
set_option maxHeartbeats 4000000 in
theorem m_gen_Choices_Next_ok {w0 : Nat} (a0 : (List Int) × Int) (a1 : Int) (r : Int × ((List Int) × Int)) (h : m_gen_Choices_Next a0 a1 = some r) : Fun Tryz.prog 22 [(pA w0 0), (.exact (.int .i64 a1))] [boxI 69 w0 [.row 1 c_int a0.1, .exact (.int .i64 a0.2)]] (fun a s => a = .exact (.int .i64 r.1) ∧ s = [boxI 69 w0 [.row 1 c_int r.2.1, .exact (.int .i64 r.2.2)]]) := by
 unfold m_gen_Choices_Next at h
 refine fun_of_awp Tryz.func22 rfl Tryz.ntmps22 (by simp) rfl (res1 rfl) fun E hE => k_end ?_
 refine zac (kr ?_)
 refine qa (.xi 0) rfl ?_
 refine G_nil (zaa (zac (zac ?_)))
 refine k_plan [] [(0, 0), (0, 1), (0, 2), (0, 4), (0, 5), (0, 6), (1, 3), (1, 7), (0, 8), (0, 9)] hmixP (by kernel_rfl) ?_
 refine P_q no34_0 rfl (zag (av := pA w0 0) rfl ?_)
 refine P_q no34_0 rfl (op_nilCheck rfl ?_)
 refine P_q no34_0 rfl (op_fieldAddr (o := 1) (by kernel_rfl) rfl ?_)
 refine P_q no34_0 rfl (zag (av := pA w0 0) rfl ?_)
 refine P_q no34_0 rfl (op_nilCheck rfl ?_)
 refine P_q no34_0 rfl (op_fieldAddr (o := 0) (by kernel_rfl) rfl ?_)
 refine P_r rfl (op_load_box1 (a := .xi a0.2) (by kernel_rfl) rfl rfl ?_)
 refine P_r rfl (op_load_box1 (a := .row 1 c_int a0.1) (by kernel_rfl) rfl rfl ?_)
 refine P_q no34_0 rfl (zai (by kernel_rfl) rfl ?_)
 refine P_q no34_0 rfl (op_geq rfl rfl ?_)
 refine P_nil (zaa ?_)
 refine kd (p := (List.length a0.1 : Int) ≤ a0.2) rfl h (fun hc h => ?_) (fun hc h => ?_)
 ·refine zac (kr ?_)
  refine qa (.xi 0) rfl ?_
  refine G_nil (zaa (k_ret (kC_ret ?_)))
  obtain rfl := Option.some.inj h
  refine ke (pt AF0 4 (.xi 0)) [boxI 69 w0 [.row 1 c_int a0.1, .xi a0.2]] rfl ?_ ⟨rfl, rfl⟩
  exact so (lq rfl lt0)
 ·refine k_skip (zaa (zac (kr ?_)))
  refine qm (pA w0 0) rfl ?_
  refine G_q rfl (op_nilCheck rfl ?_)
  refine G_q rfl (op_fieldAddr (o := 1) (by kernel_rfl) rfl ?_)
  refine G_r rfl (op_load_box1 (a := .xi a0.2) (by kernel_rfl) rfl rfl ?_)
  refine G_q rfl (op_add rfl rfl rfl ?_)
  refine G_q rfl (op_nilCheck rfl ?_)
  refine G_q rfl (op_fieldAddr (o := 1) (by kernel_rfl) rfl ?_)
  refine G_l rfl (op_store_box (c' := [.xi (i64 (a0.2 + 1))]) (c3 := [.row 1 c_int a0.1, .xi (i64 (a0.2 + 1))]) rfl rfl CellsOf.int (LEs.cons (AV.le_eq rfl) LEs.nil) (OneC.int OneC.nil) (by kernel_rfl) (Nat.le_of_ble_eq_true rfl) rfl ?_)
  refine G_nil (zaa (zac ?_))
  refine k_plan [] [(0, 0), (0, 1), (0, 2), (0, 4), (0, 5), (0, 6), (0, 11), (1, 3), (1, 7), (0, 8), (0, 9), (0, 10), (0, 12), (0, 13)] hmixP (by kernel_rfl) ?_
  refine P_q no34_0 rfl (zag (av := pA w0 0) rfl ?_)
  refine P_q no34_0 rfl (op_nilCheck rfl ?_)
  refine P_q no34_0 rfl (op_fieldAddr (o := 0) (by kernel_rfl) rfl ?_)
  refine P_q no34_0 rfl (zag (av := pA w0 0) rfl ?_)
  refine P_q no34_0 rfl (op_nilCheck rfl ?_)
  refine P_q no34_0 rfl (op_fieldAddr (o := 1) (by kernel_rfl) rfl ?_)
  refine P_q no34_0 rfl (zag (av := .xi a1) rfl ?_)
  refine P_r rfl (op_load_box1 (a := .row 1 c_int a0.1) (by kernel_rfl) rfl rfl ?_)
  refine P_r rfl (op_load_box1 (a := .xi (i64 (a0.2 + 1))) (by kernel_rfl) rfl rfl ?_)
  refine P_q no34_0 rfl (op_sub rfl rfl rfl ?_)
  obtain ⟨n1, h⟩ := need_some h
  refine P_q no34_0 rfl (zaj (by kernel_rfl) rfl rfl n1.1 n1.2 ?_)
  refine P_q no34_0 rfl (op_load1p (a := .xi (gi a0.1 (i64 ((i64 (a0.2 + 1)) - 1)))) (by kernel_rfl) rfl rfl ?_)
  obtain ⟨y2, hy2, h⟩ := bnd1_some h
  refine P_q no34_0 rfl (zaf (m_help_Mod_ok _ _ _ hy2) Tryz.func59 (by kernel_rfl) (LEs.cons (AV.le_eq rfl) (LEs.cons (AV.le_eq rfl) LEs.nil)) ?_)
  refine P_q no34_0 rfl (op_assign (av := .xi y2) rfl ?_)
  refine P_nil (zaa (k_ret ?_))
  obtain rfl := Option.some.inj h
  refine ke (pt AF0 4 (.xi y2)) [boxI 69 w0 [.row 1 c_int a0.1, .xi (i64 (a0.2 + 1))]] rfl ?_ ⟨rfl, rfl⟩
  exact so (lq rfl lt0)
set_option maxHeartbeats 4000000 in
theorem m_gen_Choices_Ints_ok {w0 : Nat} (a0 : (List Int) × Int) (r : (List UInt8) × ((List Int) × Int)) (h : m_gen_Choices_Ints a0 = some r) : Fun Tryz.prog 46 [(pA w0 0)] [boxI 69 w0 [.row 1 c_int a0.1, .exact (.int .i64 a0.2)]] (fun a s => a = .exact (.string (bs r.1)) ∧ s = [boxI 69 w0 [.row 1 c_int r.2.1, .exact (.int .i64 r.2.2)]]) := by
 unfold m_gen_Choices_Ints at h
 refine fun_of_awp Tryz.func46 rfl Tryz.ntmps46 (by simp) rfl (res1 rfl) fun E hE => k_end ?_
 refine zac (kr ?_)
 refine qa (.xs ([] : List UInt8)) rfl ?_
 refine G_nil (zaa (zac (kr ?_)))
 refine qa (.exact (.slice none 0 0)) rfl ?_
 refine G_nil (zaa ?_)
 refine k_join3_1 h (fun (x0_0_j1 : List Int) (x0_1_j1 : Int) (x3_j1 : List (List UInt8)) (v3_j1 : Value) => (pt (pt AF0 0 (pA w0 0)) 3 (.exact v3_j1))) (fun (x0_0_j1 : List Int) (x0_1_j1 : Int) (x3_j1 : List (List UInt8)) (v3_j1 : Value) => [boxI 69 w0 [.row 1 c_int x0_0_j1, .xi x0_1_j1], vecT Tryz.prog 23 1 zab v3_j1 x3_j1]) (fun k1 h => ?_) (fun x0_0_j1 x0_1_j1 x3_j1 v3_j1 h => ?_)
 ·refine zac (kr ?_)
  refine qm (pA w0 0) rfl ?_
  obtain ⟨y16, hy16, h⟩ := bnd1_some h
  refine G_l rfl (op_fun_1_0_1 (m_gen_Choices_Next_ok _ _ _ hy16) Tryz.func22 (by kernel_rfl) (LEs.cons (AV.le_eq rfl) (LEs.cons (AV.le_eq rfl) LEs.nil)) ?_)
  refine qa (.xi y16.1) rfl ?_
  refine G_nil (zaa (k_block ?_))
  refine k_loop4_1 (m_gen_Choices_Ints_L2 k1) (m_gen_Choices_Ints_B2 k1) (fun _ _ _ _ => rfl) (fun m _ _ _ _ => rfl) h (fun (x0_0_l2 : List Int) (x0_1_l2 : Int) (x3_l2 : List (List UInt8)) (x4_l2 : Int) (v3_l2 : Value) => (pt (pt (pt AF0 0 (pA w0 0)) 3 (.exact v3_l2)) 4 (.xi x4_l2))) (fun (x0_0_l2 : List Int) (x0_1_l2 : Int) (x3_l2 : List (List UInt8)) (x4_l2 : Int) (v3_l2 : Value) => [boxI 69 w0 [.row 1 c_int x0_0_l2, .xi x0_1_l2], vecT Tryz.prog 23 1 zab v3_l2 x3_l2]) (.slice none 0 0) ?_ (fun rec2 x0_0_l2 x0_1_l2 x3_l2 x4_l2 v3_l2 h => ?_)
  ·refine Sub.trans (SubU.to (SubU.nilT (P := Tryz.prog) (t := 23) (n := 1) (enc := zab))) ?_
   refine Sub.trans (SubU.to SubU.f1) ?_
   exact so (lq rfl (lq rfl (lq rfl lt0)))
  ·unfold m_gen_Choices_Ints_B2 at h
   refine zac (zac (kr ?_))
   refine qm (.xi x4_l2) rfl ?_
   refine G_q rfl (op_gtr rfl rfl ?_)
   refine G_nil (zaa ?_)
   refine kd (p := 0 < x4_l2) rfl h (fun hc h => ?_) (fun hc h => ?_)
   ·refine k_skip (zaa (zac (k_block (kr ?_))))
    refine qm (.exact v3_l2) rfl ?_
    refine qm (pA w0 0) rfl ?_
    obtain ⟨y25, hy25, h⟩ := bnd1_some h
    refine G_l rfl (op_fun_1_0_1 (m_gen_Choices_Next_ok _ _ _ hy25) Tryz.func22 (by kernel_rfl) (LEs.cons (AV.le_eq rfl) (LEs.cons (AV.le_eq rfl) LEs.nil)) ?_)
    obtain ⟨y26, hy26, h⟩ := bnd1_some h
    refine G_q rfl (zaf (m_ref9_Int_ok _ _ hy26) Tryz.func7 (by kernel_rfl) (LEs.cons (AV.le_eq rfl) LEs.nil) ?_)
    refine G_q rfl (op_litT (n := 1) (enc := zab) [y26] (CellsAll.cons rfl CellsOf.str CellsAll.nil) rfl (by kernel_rfl) (LEss.cons (LEs.cons (AV.le_eq rfl) LEs.nil) LEss.nil) ?_)
    obtain ⟨n27, h⟩ := need_some h
    refine G_l rfl (opB_f1 (op_appT (by kernel_rfl) rfl rfl oc_c_api_Value n27 (fun v28 => ?_)))
    refine qa (.exact v28) rfl ?_
    refine G_nil (kB_normal (zaa (kr ?_)))
    refine qm (.xi x4_l2) rfl ?_
    refine G_q rfl (op_sub rfl rfl rfl ?_)
    refine qa (.xi (i64 (x4_l2 - 1))) rfl ?_
    refine G_nil ?_
    refine zad ⟨_, _, _, _, v28, h, ?_⟩
    refine Sub.trans (SubU.to SubU.f1) ?_
    exact so (lq rfl (lq rfl (lq rfl lt0)))
   ·refine k_exit (kC_exit (kI_exit (kB_exit ?_)))
    refine zad ⟨_, _, _, v3_l2, h, ?_⟩
    exact so (lq rfl (lq rfl lt0))
 ·refine zac (kr ?_)
  refine qm (.exact v3_j1) rfl ?_
  refine G_sub rfl (SubU.trans SubU.f1 (SubU.freezeT2 (s1 := 3) (s2 := 17) rfl rfl len_c_api_Value)) ?_
  obtain ⟨y29, hy29, h⟩ := bnd1_some h
  refine G_q rfl (zaf (m_ref9_Set_ok _ _ hy29) Tryz.func6 (by kernel_rfl) (LEs.cons (AV.le_eq rfl) LEs.nil) ?_)
  refine qa (.xs y29) rfl ?_
  refine G_nil (zaa (k_ret ?_))
  obtain rfl := Option.some.inj h
  refine ke (pt AF0 2 (.xs y29)) [boxI 69 w0 [.row 1 c_int x0_0_j1, .xi x0_1_j1]] rfl ?_ ⟨rfl, rfl⟩
  exact so (lq rfl lt0)
set_option maxHeartbeats 4000000 in
theorem m_law11_names_ok {w0 : Nat} (a0 : (List Int) × Int) (r : (List ((List UInt8) × Int × (List Int) × (List (List UInt8)))) × ((List Int) × Int)) (h : m_law11_names a0 = some r) : Fun Tryz.prog 15 [(pA w0 0)] [boxI 69 w0 [.row 1 c_int a0.1, .exact (.int .i64 a0.2)]] (fun a s => a = .row 4 zae r.1 ∧ s = [boxI 69 w0 [.row 1 c_int r.2.1, .exact (.int .i64 r.2.2)]]) := by
 unfold m_law11_names at h
 refine fun_of_awp Tryz.func15 rfl Tryz.ntmps15 (by simp) rfl (res1 rfl) fun E hE => k_end ?_
 refine zac (kr ?_)
 refine qa (.exact (.slice none 0 0)) rfl ?_
 refine G_nil (zaa (zac (kr ?_)))
 refine qa (.exact (.slice none 0 0)) rfl ?_
 refine G_nil (zaa ?_)
 refine k_join3_1 h (fun (x0_0_j1 : List Int) (x0_1_j1 : Int) (x3_j1 : List ((List UInt8) × Int × (List Int) × (List (List UInt8)))) (v3_j1 : Value) => (pt (pt AF0 0 (pA w0 0)) 3 (.exact v3_j1))) (fun (x0_0_j1 : List Int) (x0_1_j1 : Int) (x3_j1 : List ((List UInt8) × Int × (List Int) × (List (List UInt8)))) (v3_j1 : Value) => [boxI 69 w0 [.row 1 c_int x0_0_j1, .xi x0_1_j1], vecT Tryz.prog 29 4 zae v3_j1 x3_j1]) (fun k1 h => ?_) (fun x0_0_j1 x0_1_j1 x3_j1 v3_j1 h => ?_)
 ·refine zac (kr ?_)
  refine qa (.xi 0) rfl ?_
  refine G_nil (zaa (k_block ?_))
  refine k_loop4_1 (m_law11_names_L14 k1) (m_law11_names_B14 k1) (fun _ _ _ _ => rfl) (fun m _ _ _ _ => rfl) h (fun (x0_0_l14 : List Int) (x0_1_l14 : Int) (x3_l14 : List ((List UInt8) × Int × (List Int) × (List (List UInt8)))) (x4_l14 : Int) (v3_l14 : Value) => (pt (pt (pt AF0 0 (pA w0 0)) 3 (.exact v3_l14)) 4 (.xi x4_l14))) (fun (x0_0_l14 : List Int) (x0_1_l14 : Int) (x3_l14 : List ((List UInt8) × Int × (List Int) × (List (List UInt8)))) (x4_l14 : Int) (v3_l14 : Value) => [boxI 69 w0 [.row 1 c_int x0_0_l14, .xi x0_1_l14], vecT Tryz.prog 29 4 zae v3_l14 x3_l14]) (.slice none 0 0) ?_ (fun rec14 x0_0_l14 x0_1_l14 x3_l14 x4_l14 v3_l14 h => ?_)
  ·refine Sub.trans (SubU.to (SubU.nilT (P := Tryz.prog) (t := 29) (n := 4) (enc := zae))) ?_
   refine Sub.trans (SubU.to SubU.f1) ?_
   exact so (lq rfl (lq rfl (lq rfl lt0)))
  ·unfold m_law11_names_B14 at h
   refine zac (zac (kr ?_))
   refine qm (.xi x4_l14) rfl ?_
   refine qm (pA w0 0) rfl ?_
   obtain ⟨y1133, hy1133, h⟩ := bnd1_some h
   refine G_l rfl (op_fun_1_0_1 (m_gen_Choices_Next_ok _ _ _ hy1133) Tryz.func22 (by kernel_rfl) (LEs.cons (AV.le_eq rfl) (LEs.cons (AV.le_eq rfl) LEs.nil)) ?_)
   refine G_q rfl (op_add rfl rfl rfl ?_)
   refine G_q rfl (op_lss rfl rfl ?_)
   refine G_nil (zaa ?_)
   refine kd (p := x4_l14 < (i64 (1 + y1133.1))) rfl h (fun hc h => ?_) (fun hc h => ?_)
   ·refine k_skip (zaa ?_)
    refine k_join3_1 h (fun (x0_0_j1134 : List Int) (x0_1_j1134 : Int) (x3_j1134 : List ((List UInt8) × Int × (List Int) × (List (List UInt8)))) (v3_j1134 : Value) => (pt (pt (pt AF0 0 (pA w0 0)) 3 (.exact v3_j1134)) 4 (.xi x4_l14))) (fun (x0_0_j1134 : List Int) (x0_1_j1134 : Int) (x3_j1134 : List ((List UInt8) × Int × (List Int) × (List (List UInt8)))) (v3_j1134 : Value) => [boxI 69 w0 [.row 1 c_int x0_0_j1134, .xi x0_1_j1134], vecT Tryz.prog 29 4 zae v3_j1134 x3_j1134]) (fun k1134 h => ?_) (fun x0_0_j1134 x0_1_j1134 x3_j1134 v3_j1134 h => ?_)
    ·refine k_block (zac ?_)
     refine k_planE [] [.op 0 0, .op 0 1, .op 0 2, .op 0 3, .op 0 4, .op 2 5, .op 0 6, .op 0 7, .new 8 5 25 [.xs ((([], 0, [], []) : (List UInt8) × Int × (List Int) × (List (List UInt8))).1), .xi ((([], 0, [], []) : (List UInt8) × Int × (List Int) × (List (List UInt8))).2.1), .exact (.slice none 0 0), .exact (.slice none 0 0)], .op 2 9] hmixP (by kernel_rfl) (NewOK.many [(0, 0), (0, 1), (0, 2), (0, 3), (0, 4), (2, 5), (0, 6), (0, 7)] rfl (NewOK.fresh rfl rfl (LEs.cons (AV.le_eq rfl) (LEs.cons (AV.le_eq rfl) (LEs.cons (AV.le_eq rfl) (LEs.cons (AV.le_eq rfl) LEs.nil)))) (NewOK.many [(2, 9)] rfl NewOK.nil))) ?_
     refine S_go [(0, 0), (0, 1), (0, 2), (0, 3), (0, 4), (2, 5), (0, 6), (0, 7)] rfl ?_
     refine P_q no34_0 rfl (op_litT (n := 1) (enc := c_string) [[97], [75], [99], [76]] (CellsAll.cons rfl CellsOf.str (CellsAll.cons rfl CellsOf.str (CellsAll.cons rfl CellsOf.str (CellsAll.cons rfl CellsOf.str CellsAll.nil)))) rfl (by kernel_rfl) (LEss.cons (LEs.cons (AV.le_eq rfl) LEs.nil) (LEss.cons (LEs.cons (AV.le_eq rfl) LEs.nil) (LEss.cons (LEs.cons (AV.le_eq rfl) LEs.nil) (LEss.cons (LEs.cons (AV.le_eq rfl) LEs.nil) LEss.nil)))) ?_)
     refine P_q no34_0 rfl (zag (av := .xi x4_l14) rfl ?_)
     obtain ⟨n1247, h⟩ := need_some h
     refine P_q no34_0 rfl (zaj (by kernel_rfl) rfl rfl n1247.1 n1247.2 ?_)
     refine P_q no34_0 rfl (op_load1p (a := .xs (gi ([[97], [75], [99], [76]]) x4_l14)) (by kernel_rfl) rfl rfl ?_)
     refine P_q no34_0 rfl (zag (av := pA w0 0) rfl ?_)
     obtain ⟨y1248, hy1248, h⟩ := bnd1_some h
     refine P_l rfl (op_fun_1_0_1 (m_gen_Choices_Next_ok _ _ _ hy1248) Tryz.func22 (by kernel_rfl) (LEs.cons (AV.le_eq rfl) (LEs.cons (AV.le_eq rfl) LEs.nil)) ?_)
     refine P_q no34_0 rfl (op_sub rfl rfl rfl ?_)
     refine P_q no34_0 rfl (op_bld (c' := [.xs (gi ([[97], [75], [99], [76]]) x4_l14), .xi (i64 (y1248.1 - 1)), .exact (.slice none 0 0), .exact (.slice none 0 0)]) (CellsAll.cons rfl CellsOf.str (CellsAll.cons rfl CellsOf.int CellsAll.nil)) rfl (LEs.cons (AV.le_eq rfl) (LEs.cons (AV.le_eq rfl) (LEs.cons (AV.le_eq rfl) (LEs.cons (AV.le_eq rfl) LEs.nil)))) ?_)
     refine S_new (fun b1249 => ?_)
     refine S_go [(2, 9)] rfl ?_
     refine P_l rfl (op_store_box (c' := [.xs (gi ([[97], [75], [99], [76]]) x4_l14), .xi (i64 (y1248.1 - 1)), .exact (.slice none 0 0), .exact (.slice none 0 0)]) (c3 := [.xs (gi ([[97], [75], [99], [76]]) x4_l14), .xi (i64 (y1248.1 - 1)), .exact (.slice none 0 0), .exact (.slice none 0 0)]) rfl rfl CellsOf.agg (LEs.cons (AV.le_eq rfl) (LEs.cons (AV.le_eq rfl) (LEs.cons (AV.le_eq rfl) (LEs.cons (AV.le_eq rfl) LEs.nil)))) (OneC.str (OneC.int (OneC.nilS (OneC.nilS OneC.nil)))) (by kernel_rfl) (Nat.le_of_ble_eq_true rfl) rfl ?_)
     refine S_end ?_
     refine zaa ?_
     refine k_join4_2 h (fun (x0_0_j1250 : List Int) (x0_1_j1250 : Int) (x5_2_j1250 : List Int) (x5_3_j1250 : List (List UInt8)) (v5_2_j1250 : Value) (v5_3_j1250 : Value) => (pt (pt (pt (pt AF0 0 (pA w0 0)) 3 (.exact v3_l14)) 4 (.xi x4_l14)) 5 (pA b1249 0))) (fun (x0_0_j1250 : List Int) (x0_1_j1250 : Int) (x5_2_j1250 : List Int) (x5_3_j1250 : List (List UInt8)) (v5_2_j1250 : Value) (v5_3_j1250 : Value) => [boxI 69 w0 [.row 1 c_int x0_0_j1250, .xi x0_1_j1250], vecT Tryz.prog 29 4 zae v3_l14 x3_l14, vecT Tryz.prog 22 1 c_int v5_2_j1250 x5_2_j1250, vecT Tryz.prog 23 1 zab v5_3_j1250 x5_3_j1250, boxI 25 b1249 ([.xs (gi ([[97], [75], [99], [76]]) x4_l14), .xi (i64 (y1248.1 - 1)), .exact v5_2_j1250, .exact v5_3_j1250])]) (fun k1250 h => ?_) (fun x0_0_j1250 x0_1_j1250 x5_2_j1250 x5_3_j1250 v5_2_j1250 v5_3_j1250 h => ?_)
     ·refine zac (kr ?_)
      refine qm (pA w0 0) rfl ?_
      obtain ⟨y1304, hy1304, h⟩ := bnd1_some h
      refine G_l rfl (opB_f1 (op_fun_1_0_1 (m_gen_Choices_Next_ok _ _ _ hy1304) Tryz.func22 (by kernel_rfl) (LEs.cons (AV.le_eq rfl) (LEs.cons (AV.le_eq rfl) LEs.nil)) ?_))
      refine qa (.xi y1304.1) rfl ?_
      refine G_nil (zaa (k_block ?_))
      refine k_loop5_2 (m_law11_names_L26 k1250) (m_law11_names_B26 k1250) (fun _ _ _ _ _ => rfl) (fun m _ _ _ _ _ => rfl) h (fun (x0_0_l26 : List Int) (x0_1_l26 : Int) (x5_2_l26 : List Int) (x5_3_l26 : List (List UInt8)) (x6_l26 : Int) (v5_2_l26 : Value) (v5_3_l26 : Value) => (pt (pt (pt (pt (pt AF0 0 (pA w0 0)) 3 (.exact v3_l14)) 4 (.xi x4_l14)) 5 (pA b1249 0)) 6 (.xi x6_l26))) (fun (x0_0_l26 : List Int) (x0_1_l26 : Int) (x5_2_l26 : List Int) (x5_3_l26 : List (List UInt8)) (x6_l26 : Int) (v5_2_l26 : Value) (v5_3_l26 : Value) => [boxI 69 w0 [.row 1 c_int x0_0_l26, .xi x0_1_l26], vecT Tryz.prog 29 4 zae v3_l14 x3_l14, vecT Tryz.prog 22 1 c_int v5_2_l26 x5_2_l26, vecT Tryz.prog 23 1 zab v5_3_l26 x5_3_l26, boxI 25 b1249 ([.xs (gi ([[97], [75], [99], [76]]) x4_l14), .xi (i64 (y1248.1 - 1)), .exact v5_2_l26, .exact v5_3_l26])]) (.slice none 0 0) (.slice none 0 0) ?_ (fun rec26 x0_0_l26 x0_1_l26 x5_2_l26 x5_3_l26 x6_l26 v5_2_l26 v5_3_l26 h => ?_)
      ·refine Sub.trans (SubU.to (SubU.nilT (P := Tryz.prog) (t := 22) (n := 1) (enc := c_int))) ?_
       refine Sub.trans (SubU.to (SubU.nilT (P := Tryz.prog) (t := 23) (n := 1) (enc := zab))) ?_
       refine Sub.trans (SubU.to SubU.f3) ?_
       refine Sub.trans (SubU.to SubU.f1) ?_
       refine Sub.trans (SubU.to SubU.f2) ?_
       refine Sub.trans (SubU.to SubU.f4) ?_
       refine Sub.trans (SubU.to SubU.f4) ?_
       exact so (l4 rfl rfl rfl rfl (lq rfl lt0))
      ·unfold m_law11_names_B26 at h
       refine zac (zac (kr ?_))
       refine qm (.xi x6_l26) rfl ?_
       refine G_q rfl (op_gtr rfl rfl ?_)
       refine G_nil (zaa ?_)
       refine kd (p := 0 < x6_l26) rfl h (fun hc h => ?_) (fun hc h => ?_)
       ·refine k_skip (zaa (zac (k_block (zac (kr ?_)))))
        refine qm (pA w0 0) rfl ?_
        obtain ⟨y1348, hy1348, h⟩ := bnd1_some h
        refine G_l rfl (op_fun_1_0_1 (m_gen_Choices_Ints_ok _ _ hy1348) Tryz.func46 (by kernel_rfl) (LEs.cons (AV.le_eq rfl) LEs.nil) ?_)
        refine qa (.xs y1348.1) rfl ?_
        refine G_nil (zaa ?_)
        refine k_join3_0 h (fun (x0_0_j1349 : List Int) (x0_1_j1349 : Int) (x7_j1349 : List UInt8) => (pt (pt (pt (pt (pt (pt AF0 0 (pA w0 0)) 3 (.exact v3_l14)) 4 (.xi x4_l14)) 5 (pA b1249 0)) 6 (.xi x6_l26)) 7 (.xs x7_j1349))) (fun (x0_0_j1349 : List Int) (x0_1_j1349 : Int) (x7_j1349 : List UInt8) => [boxI 69 w0 [.row 1 c_int x0_0_j1349, .xi x0_1_j1349], vecT Tryz.prog 29 4 zae v3_l14 x3_l14, vecT Tryz.prog 22 1 c_int v5_2_l26 x5_2_l26, vecT Tryz.prog 23 1 zab v5_3_l26 x5_3_l26, boxI 25 b1249 ([.xs (gi ([[97], [75], [99], [76]]) x4_l14), .xi (i64 (y1248.1 - 1)), .exact v5_2_l26, .exact v5_3_l26])]) (fun k1349 h => ?_) (fun x0_0_j1349 x0_1_j1349 x7_j1349 h => ?_)
        ·refine zac (kr ?_)
         refine qm (pA w0 0) rfl ?_
         obtain ⟨y1351, hy1351, h⟩ := bnd1_some h
         refine G_l rfl (op_fun_1_0_1 (m_gen_Choices_Next_ok _ _ _ hy1351) Tryz.func22 (by kernel_rfl) (LEs.cons (AV.le_eq rfl) (LEs.cons (AV.le_eq rfl) LEs.nil)) ?_)
         refine G_q rfl (op_eql rfl rfl ?_)
         refine G_nil (zaa ?_)
         refine kd (p := y1351.1 = 11) rfl h (fun hc h => ?_) (fun hc h => ?_)
         ·refine kr ?_
          refine qa (.xs ([] : List UInt8)) rfl ?_
          refine G_nil ?_
          refine zad ⟨_, _, _, h, ?_⟩
          exact so (l4 rfl rfl rfl rfl (lq rfl (lq rfl lt0)))
         ·refine k_skip ?_
          refine zad ⟨_, _, _, h, ?_⟩
          exact so (l4 rfl rfl rfl rfl (lq rfl (lq rfl lt0)))
        ·refine zac (kr ?_)
         refine G_q rfl (op_fieldAddr (o := 3) (by kernel_rfl) rfl ?_)
         refine G_r rfl (opR_f4 (op_load_box1 (a := .exact v5_3_l26) (by kernel_rfl) rfl rfl ?_))
         refine qm (.xs x7_j1349) rfl ?_
         refine G_q rfl (op_litT (n := 1) (enc := zab) [x7_j1349] (CellsAll.cons rfl CellsOf.str CellsAll.nil) rfl (by kernel_rfl) (LEss.cons (LEs.cons (AV.le_eq rfl) LEs.nil) LEss.nil) ?_)
         obtain ⟨n1352, h⟩ := need_some h
         refine G_l rfl (opB_f3 (op_appT (by kernel_rfl) rfl rfl oc_c_api_Value n1352 (fun v1353 => ?_)))
         refine G_q rfl (op_fieldAddr (o := 3) (by kernel_rfl) rfl ?_)
         refine G_l rfl (opB_sl (List.Mem.head _) (fun hsl => (opB_f4 (op_store_box (c' := [.exact v1353]) (c3 := [.xs (gi ([[97], [75], [99], [76]]) x4_l14), .xi (i64 (y1248.1 - 1)), .exact v5_2_l26, .exact v1353]) rfl rfl (CellsOf.sl hsl) (LEs.cons (AV.le_eq rfl) LEs.nil) (OneC.sl hsl OneC.nil) (by kernel_rfl) (Nat.le_of_ble_eq_true rfl) rfl ?_))))
         refine G_nil (zaa (kr ?_))
         refine G_q rfl (op_fieldAddr (o := 2) (by kernel_rfl) rfl ?_)
         refine G_r rfl (op_load_box1 (a := .exact v5_2_l26) (by kernel_rfl) rfl rfl ?_)
         refine G_q rfl (op_litT (n := 1) (enc := c_int) [0] (CellsAll.cons rfl CellsOf.int CellsAll.nil) rfl (by kernel_rfl) (LEss.cons (LEs.cons (AV.le_eq rfl) LEs.nil) LEss.nil) ?_)
         obtain ⟨n1354, h⟩ := need_some h
         refine G_l rfl (opB_f4 (op_appT (by kernel_rfl) rfl rfl oc_c_int n1354 (fun v1355 => ?_)))
         refine G_q rfl (op_fieldAddr (o := 2) (by kernel_rfl) rfl ?_)
         refine G_l rfl (opB_sl (List.Mem.head _) (fun hsl => (opB_f1 (op_store_box (c' := [.exact v1355]) (c3 := [.xs (gi ([[97], [75], [99], [76]]) x4_l14), .xi (i64 (y1248.1 - 1)), .exact v1355, .exact v1353]) rfl rfl (CellsOf.sl hsl) (LEs.cons (AV.le_eq rfl) LEs.nil) (OneC.sl hsl OneC.nil) (by kernel_rfl) (Nat.le_of_ble_eq_true rfl) rfl ?_))))
         refine G_nil (kB_normal (zaa (kr ?_)))
         refine qm (.xi x6_l26) rfl ?_
         refine G_q rfl (op_sub rfl rfl rfl ?_)
         refine qa (.xi (i64 (x6_l26 - 1))) rfl ?_
         refine G_nil ?_
         refine zad ⟨_, _, _, _, _, v1355, v1353, h, ?_⟩
         refine Sub.trans (SubU.to SubU.f2) ?_
         refine Sub.trans (SubU.to SubU.f2) ?_
         refine Sub.trans (SubU.to SubU.f4) ?_
         refine Sub.trans (SubU.to SubU.f4) ?_
         exact so (l4 rfl rfl rfl rfl (lq rfl lt0))
       ·refine k_exit (kC_exit (kI_exit (kB_exit ?_)))
        refine zad ⟨_, _, _, _, v5_2_l26, v5_3_l26, h, ?_⟩
        exact so (l4 rfl rfl rfl rfl lt0)
     ·refine kr ?_
      refine qm (.exact v3_l14) rfl ?_
      refine G_sub rfl (SubU.trans (SubU.f2) (SubU.trans (SubU.know len_c_int) (SubU.trans (SubU.f4) (SubU.trans (SubU.f1) (SubU.trans (SubU.knowC (j := 2) (c' := [.xs (gi ([[97], [75], [99], [76]]) x4_l14), .xi (i64 (y1248.1 - 1)), .row 1 c_int x5_2_j1250, .exact v5_3_j1250]) rfl rfl) (SubU.drop)))))) ?_
      refine G_sub rfl (SubU.trans (SubU.f3) (SubU.trans (SubU.know len_c_api_Value) (SubU.trans (SubU.knowC (j := 3) (c' := [.xs (gi ([[97], [75], [99], [76]]) x4_l14), .xi (i64 (y1248.1 - 1)), .row 1 c_int x5_2_j1250, .row 1 zab x5_3_j1250]) rfl rfl) (SubU.drop)))) ?_
      refine G_r rfl (op_load_boxN (m := 4) (c' := zae (gi ([[97], [75], [99], [76]]) x4_l14, i64 (y1248.1 - 1), x5_2_j1250, x5_3_j1250)) (by kernel_rfl) rfl rfl rfl ?_)
      refine G_q rfl (op_litT (n := 4) (enc := zae) [(gi ([[97], [75], [99], [76]]) x4_l14, i64 (y1248.1 - 1), x5_2_j1250, x5_3_j1250)] (CellsAll.cons rfl CellsOf.agg CellsAll.nil) rfl (by kernel_rfl) (LEss.cons (LEs.cons (AV.le_eq rfl) (LEs.cons (AV.le_eq rfl) (LEs.cons (AV.le_eq rfl) (LEs.cons (AV.le_eq rfl) LEs.nil)))) LEss.nil) ?_)
      obtain ⟨n1356, h⟩ := need_some h
      refine G_l rfl (opB_f2 (op_appT (by kernel_rfl) rfl rfl oc_c_api_Info n1356 (fun v1357 => ?_)))
      refine qa (.exact v1357) rfl ?_
      refine G_nil (kB_normal ?_)
      refine zad ⟨_, _, _, v1357, h, ?_⟩
      refine Sub.trans (SubU.to SubU.f1) ?_
      refine Sub.trans (SubU.to SubU.drop) ?_
      refine Sub.trans (SubU.to SubU.f1) ?_
      exact so (lq rfl (lq rfl (lq rfl lt0)))
    ·refine kr ?_
     refine qm (.xi x4_l14) rfl ?_
     refine G_q rfl (op_add rfl rfl rfl ?_)
     refine qa (.xi (i64 (x4_l14 + 1))) rfl ?_
     refine G_nil ?_
     refine zad ⟨_, _, _, _, v3_j1134, h, ?_⟩
     exact so (lq rfl (lq rfl (lq rfl lt0)))
   ·refine k_exit (kC_exit (kI_exit (kB_exit ?_)))
    refine zad ⟨_, _, _, v3_l14, h, ?_⟩
    exact so (lq rfl (lq rfl lt0))
 ·refine zac (kr ?_)
  refine qm (.exact v3_j1) rfl ?_
  refine qa (.exact v3_j1) rfl ?_
  refine G_nil (zaa (k_ret ?_))
  obtain rfl := Option.some.inj h
  refine ke (pt AF0 2 (.row 4 zae x3_j1)) [boxI 69 w0 [.row 1 c_int x0_0_j1, .xi x0_1_j1]] rfl ?_ ⟨rfl, rfl⟩
  refine Sub.trans (SubU.to SubU.f1) ?_
  refine Sub.trans (SubU.to (SubU.freezeT (s := 2) rfl len_c_api_Info)) ?_
  exact so (lq rfl lt0)
set_option maxHeartbeats 4000000 in
theorem m_ref9_Parts_ok (a0 : List UInt8) (r : (List (List UInt8))) (h : m_ref9_Parts a0 = some r) : Pure Tryz.prog 18 [(.exact (.string (bs a0)))] (.row 1 zab r) := by
 unfold m_ref9_Parts at h
 refine Pure.ofFun (fun_of_awp Tryz.func18 rfl Tryz.ntmps18 (by simp) rfl (res1 rfl) fun E hE => k_end ?_)
 refine zac (kr ?_)
 refine qa (.exact (.slice none 0 0)) rfl ?_
 refine G_nil (zaa (zac (zac (kr ?_))))
 refine qm (.xs a0) rfl ?_
 obtain ⟨y1, hy1, h⟩ := bnd1_some h
 refine G_q rfl (zaf (m_ref9_Valid_ok _ _ hy1) Tryz.func50 (by kernel_rfl) (LEs.cons (AV.le_eq rfl) LEs.nil) ?_)
 refine G_q rfl (op_not rfl ?_)
 refine G_nil (zaa ?_)
 refine kb (p := !y1) rfl h (fun hc h => ?_) (fun hc h => ?_)
 ·refine zac (kr ?_)
  refine qa (.exact (.slice none 0 0)) rfl ?_
  refine G_nil (zaa (k_ret (kC_ret ?_)))
  obtain rfl := Option.some.inj h
  refine ke (pt AF0 2 (.row 1 zab [])) [] rfl ?_ ⟨rfl, rfl⟩
  exact so (AF.le_put (row_nil (by decide)) lt0)
 ·refine k_skip (zaa (zac (kr ?_)))
  refine qm (.xs a0) rfl ?_
  obtain ⟨y2, hy2, h⟩ := bnd1_some h
  refine G_q rfl (zaf (m_ref9_walk_ok _ _ _ _ hy2) Tryz.func51 (by kernel_rfl) (LEs.cons (AV.le_eq rfl) (LEs.cons (AV.le_eq rfl) (LEs.cons (AV.le_eq rfl) LEs.nil))) ?_)
  refine qm (.tup [.xi y2.1, .row 1 zab y2.2.1, .xi y2.2.2]) rfl ?_
  refine G_q rfl (op_extract (av := .xi y2.1) rfl rfl ?_)
  refine G_q rfl (op_extract (av := .row 1 zab y2.2.1) rfl rfl ?_)
  refine G_q rfl (op_extract (av := .xi y2.2.2) rfl rfl ?_)
  refine qa (.xi y2.1) rfl ?_
  refine qa (.row 1 zab y2.2.1) rfl ?_
  refine qa (.xi y2.2.2) rfl ?_
  refine G_nil (zaa (zac (kr ?_)))
  refine qm (.row 1 zab y2.2.1) rfl ?_
  refine qa (.row 1 zab y2.2.1) rfl ?_
  refine G_nil (zaa (k_ret ?_))
  obtain rfl := Option.some.inj h
  refine ke (pt AF0 2 (.row 1 zab y2.2.1)) [] rfl ?_ ⟨rfl, rfl⟩
  exact so (lq rfl lt0)
set_option maxHeartbeats 4000000 in
theorem m_ref9_Bool_ok (a0 : Bool) (r : (List UInt8)) (h : m_ref9_Bool a0 = some r) : Pure Tryz.prog 54 [(.exact (.bool a0))] (.exact (.string (bs r))) := by
 unfold m_ref9_Bool at h
 refine Pure.ofFun (fun_of_awp Tryz.func54 rfl Tryz.ntmps54 (by simp) rfl (res1 rfl) fun E hE => k_end ?_)
 refine zac (kr ?_)
 refine qa (.xs ([] : List UInt8)) rfl ?_
 refine G_nil (zaa (zac (zac (kr ?_))))
 refine qm (.xb a0) rfl ?_
 refine G_nil (zaa ?_)
 refine kb (p := a0) rfl h (fun hc h => ?_) (fun hc h => ?_)
 ·refine zac (kr ?_)
  refine G_q rfl (op_litT (n := 1) (enc := c_uint8) [2, 1] (CellsAll.cons rfl CellsOf.int (CellsAll.cons rfl CellsOf.int CellsAll.nil)) rfl (by kernel_rfl) (LEss.cons (LEs.cons (AV.le_eq rfl) LEs.nil) (LEss.cons (LEs.cons (AV.le_eq rfl) LEs.nil) LEss.nil)) ?_)
  refine G_q rfl (op_bytesS rfl (by kernel_rfl) rfl ?_)
  refine qa (.exact (.string (bs [2, 1]))) rfl ?_
  refine G_nil (zaa (k_ret (kC_ret ?_)))
  obtain rfl := Option.some.inj h
  refine ke (pt AF0 2 (.exact (.string (bs [2, 1])))) [] rfl ?_ ⟨rfl, rfl⟩
  exact so (lq rfl lt0)
 ·refine k_skip (zaa (zac (kr ?_)))
  refine G_q rfl (op_litT (n := 1) (enc := c_uint8) [2, 0] (CellsAll.cons rfl CellsOf.int (CellsAll.cons rfl CellsOf.int CellsAll.nil)) rfl (by kernel_rfl) (LEss.cons (LEs.cons (AV.le_eq rfl) LEs.nil) (LEss.cons (LEs.cons (AV.le_eq rfl) LEs.nil) LEss.nil)) ?_)
  refine G_q rfl (op_bytesS rfl (by kernel_rfl) rfl ?_)
  refine qa (.exact (.string (bs [2, 0]))) rfl ?_
  refine G_nil (zaa (k_ret ?_))
  obtain rfl := Option.some.inj h
  refine ke (pt AF0 2 (.exact (.string (bs [2, 0])))) [] rfl ?_ ⟨rfl, rfl⟩
  exact so (lq rfl lt0)
end Go.Proofs.YtjlbdhicabgliaaGreat
