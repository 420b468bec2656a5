/- The functions compute their models, by program. -/
import Derived.Test.YtpfdeahcjlfijaaGreatQA6
namespace Go.Proofs.YtpfdeahcjlfijaaGreat
open Go.RowKit
attribute [local irreducible] AV.exact AV.top AV.row AV.ptr AV.agg AV.tup AV.eptr AV.fn AV.nilq AV.nilqn opA opB opM opR Quiet Loud Reads wpG awp den Sub SubU Pure Fun vecI vecT boxI CellsAll CellsOf OneC LEs LEss
set_option maxRecDepth 100000

set_option maxHeartbeats 4000000 in
theorem m_value_Set_ok (a0 : List (List UInt8)) (r : (List UInt8)) (h : m_value_Set a0 = some r) : Pure Tryz.prog 61 [(.row 1 zad a0)] (.exact (.string (bs r))) := by
 unfold m_value_Set at h
 refine Pure.ofFun (fun_of_awp Tryz.func61 rfl Tryz.ntmps61 (by simp) rfl (res1 rfl) fun E hE => k_end ?_)
 refine zaf (zag .free hmixP (by kernel_rfl) ?_)
 refine G_q rfl (zab (av := .xs ([] : List UInt8)) rfl ?_)
 refine G_nil (zaa (zaf (zag .free hmixP (by kernel_rfl) ?_)))
 refine G_q rfl (zac (av := .row 1 zad a0) rfl ?_)
 obtain ⟨y1, hy1, h⟩ := bnd1_some h
 refine G_q rfl (zam (m_value_Sort_ok _ _ hy1) Tryz.func85 (by kernel_rfl) (LEs.cons (AV.le_eq rfl) LEs.nil) ?_)
 obtain ⟨y2, hy2, h⟩ := bnd1_some h
 refine G_q rfl (zam (m_value_compound_ok _ _ _ hy2) Tryz.func84 (by kernel_rfl) (LEs.cons (AV.le_eq rfl) (LEs.cons (AV.le_eq rfl) LEs.nil)) ?_)
 refine G_q rfl (zab (av := .xs y2) rfl ?_)
 refine G_nil (zaa (k_ret ?_))
 obtain rfl := Option.some.inj h
 refine zal (endN (af' := (AF.put AF0 (some 2) (.xs y2))) (σ' := []) _ rfl ?_ ⟨rfl, rfl⟩)
 exact Sub.of_le (lq rfl lt0)
set_option maxHeartbeats 4000000 in
theorem m_value_Name_ok (a0 : Int) (r : (List UInt8)) (h : m_value_Name a0 = some r) : Pure Tryz.prog 86 [(.exact (.int .i64 a0))] (.exact (.string (bs r))) := by
 unfold m_value_Name at h
 refine Pure.ofFun (fun_of_awp Tryz.func86 rfl Tryz.ntmps86 (by simp) rfl (res1 rfl) fun E hE => k_end ?_)
 refine zaf (zag .free hmixP (by kernel_rfl) ?_)
 refine G_q rfl (zab (av := .xs ([] : List UInt8)) rfl ?_)
 refine G_nil (zaa (zaf ?_))
 refine k_join1_0 h (fun (x8_j3 : Bool) => (AF.put (AF.put AF0 (some 0) (.xi a0)) (some 8) (.xb x8_j3))) (fun (x8_j3 : Bool) => []) (fun k3 h => ?_) (fun x8_j3 h => ?_)
 ·refine zag .free hmixP (by kernel_rfl) ?_
  refine G_q rfl (zac (av := .xi a0) rfl ?_)
  refine G_q rfl (op_lss rfl rfl ?_)
  refine G_q rfl (zac (av := .xb (decide (a0 < 0))) rfl ?_)
  refine G_split (p := a0 < 0) 5 rfl (fun hc => ?_) (fun hc => ?_)
  ·replace h := ite_t h hc
   refine G_n rfl rfl (G_n rfl rfl ?_)
   refine G_q rfl (zao rfl (av := .xb true) rfl ?_)
   refine G_nil ?_
   refine zae ⟨_, h, ?_⟩
   exact Sub.of_le (lq rfl (lq rfl lt0))
  ·replace h := ite_f h hc
   refine Gy_q rfl rfl rfl (zac (av := .xi a0) rfl ?_)
   refine Gy_q rfl rfl rfl (op_gtr rfl rfl ?_)
   refine G_q rfl (zak rfl (av := .xb (decide (65535 < a0))) rfl ?_)
   refine G_nil ?_
   refine zae ⟨_, h, ?_⟩
   exact Sub.of_le (lq rfl (lq rfl lt0))
 ·refine k_cond_b (c := x8_j3) rfl (fun hc => ?_) (fun hc => ?_)
  ·replace h := ite_t h hc
   refine zaf (zag .free hmixP (by kernel_rfl) ?_)
   refine G_q rfl (zab (av := .xs ([] : List UInt8)) rfl ?_)
   refine G_nil (zaa (k_ret (kC_ret ?_)))
   obtain rfl := Option.some.inj h
   refine zal (endN (af' := (AF.put AF0 (some 2) (.xs ([] : List UInt8)))) (σ' := []) _ rfl ?_ ⟨rfl, rfl⟩)
   exact Sub.of_le (lq rfl lt0)
  ·replace h := ite_f h hc
   refine k_skip (zaa (zaf (zag .free hmixP (by kernel_rfl) ?_)))
   refine G_l rfl (op_litI (n := 1) (enc := c_uint8) [10] (by kernel_rfl) (CellsAll.cons rfl CellsOf.int CellsAll.nil) rfl (by kernel_rfl) (LEss.cons (LEs.cons (AV.le_eq rfl) LEs.nil) LEss.nil) (fun v4 => ?_))
   refine G_q rfl (zac (av := .xi a0) rfl ?_)
   refine G_q rfl (op_convInt (k := .u16) (by kernel_rfl) rfl rfl ?_)
   obtain ⟨y5, hy5, h⟩ := bnd1_some h
   refine G_l rfl (op_fun_1_1_1 (m_value_append16_ok _ _ _ hy5) Tryz.func96 (by kernel_rfl) (LEs.cons (AV.le_eq rfl) (LEs.cons (AV.le_eq rfl) LEs.nil)) (fun v6 => ?_))
   refine G_r rfl (op_bytesS_bor rfl (by kernel_rfl) (Bor.vec (List.Mem.head _) len_c_uint8) ?_)
   refine G_q rfl (zab (av := .xs y5) rfl ?_)
   refine G_nil (zaa (k_ret ?_))
   obtain rfl := Option.some.inj h
   refine zal (endN (af' := (AF.put AF0 (some 2) (.xs y5))) (σ' := []) _ rfl ?_ ⟨rfl, rfl⟩)
   refine Sub.trans (SubU.to SubU.drop) ?_
   exact Sub.of_le (lq rfl lt0)
set_option maxHeartbeats 4000000 in
theorem m_value_Dot_ok (a0 : Int) (a1 : List (List UInt8)) (r : (List UInt8)) (h : m_value_Dot a0 a1 = some r) : Pure Tryz.prog 62 [(.exact (.int .i64 a0)), (.row 1 zad a1)] (.exact (.string (bs r))) := by
 unfold m_value_Dot at h
 refine Pure.ofFun (fun_of_awp Tryz.func62 rfl Tryz.ntmps62 (by simp) rfl (res1 rfl) fun E hE => k_end ?_)
 refine zaf (zag .free hmixP (by kernel_rfl) ?_)
 refine G_q rfl (zab (av := .xs ([] : List UInt8)) rfl ?_)
 refine G_nil (zaa (zaf (zag .free hmixP (by kernel_rfl) ?_)))
 refine G_q rfl (zac (av := .xi a0) rfl ?_)
 obtain ⟨y1, hy1, h⟩ := bnd1_some h
 refine G_q rfl (zam (m_value_Name_ok _ _ hy1) Tryz.func86 (by kernel_rfl) (LEs.cons (AV.le_eq rfl) LEs.nil) ?_)
 refine G_l rfl (op_litI (n := 1) (enc := zad) [y1] (by kernel_rfl) (CellsAll.cons rfl CellsOf.str CellsAll.nil) rfl (by kernel_rfl) (LEss.cons (LEs.cons (AV.le_eq rfl) LEs.nil) LEss.nil) (fun v2 => ?_))
 refine G_q rfl (zac (av := .row 1 zad a1) rfl ?_)
 obtain ⟨n3, h⟩ := need_some h
 refine G_l rfl (op_appT (by kernel_rfl) rfl rfl oc_c_api_Value n3 (fun v4 => ?_))
 refine G_sub rfl (SubU.freezeT (s := 9) rfl len_c_api_Value) ?_
 obtain ⟨y5, hy5, h⟩ := bnd1_some h
 refine G_q rfl (zam (m_value_compound_ok _ _ _ hy5) Tryz.func84 (by kernel_rfl) (LEs.cons (AV.le_eq rfl) (LEs.cons (AV.le_eq rfl) LEs.nil)) ?_)
 refine G_q rfl (zab (av := .xs y5) rfl ?_)
 refine G_nil (zaa (k_ret ?_))
 obtain rfl := Option.some.inj h
 refine zal (endN (af' := (AF.put AF0 (some 4) (.xs y5))) (σ' := []) _ rfl ?_ ⟨rfl, rfl⟩)
 exact Sub.of_le (lq rfl lt0)
set_option maxHeartbeats 4000000 in
theorem m_value_Kind_ok (a0 : List UInt8) (r : Int) (h : m_value_Kind a0 = some r) : Pure Tryz.prog 63 [(.exact (.string (bs a0)))] (.exact (.int .i64 r)) := by
 unfold m_value_Kind at h
 refine Pure.ofFun (fun_of_awp Tryz.func63 rfl Tryz.ntmps63 (by simp) rfl (res1 rfl) fun E hE => k_end ?_)
 refine zaf (zag .free hmixP (by kernel_rfl) ?_)
 refine G_q rfl (zab (av := .xi 0) rfl ?_)
 refine G_nil (zaa (zaf (zaf (zag .free hmixP (by kernel_rfl) ?_))))
 refine G_q rfl (zac (av := .xs a0) rfl ?_)
 obtain ⟨y1, hy1, h⟩ := bnd1_some h
 refine G_q rfl (zam (m_value_Valid_ok _ _ hy1) Tryz.func38 (by kernel_rfl) (LEs.cons (AV.le_eq rfl) LEs.nil) ?_)
 refine G_q rfl (op_not rfl ?_)
 refine G_nil (zaa ?_)
 refine k_cond_b (c := !y1) rfl (fun hc => ?_) (fun hc => ?_)
 ·replace h := ite_t h hc
  refine zaf (zag .free hmixP (by kernel_rfl) ?_)
  refine G_q rfl (zab (av := .xi 0) rfl ?_)
  refine G_nil (zaa (k_ret (kC_ret ?_)))
  obtain rfl := Option.some.inj h
  refine zal (endN (af' := (AF.put AF0 (some 2) (.xi 0))) (σ' := []) _ rfl ?_ ⟨rfl, rfl⟩)
  exact Sub.of_le (lq rfl lt0)
 ·replace h := ite_f h hc
  refine k_skip (zaa (zaf (zag .free hmixP (by kernel_rfl) ?_)))
  refine G_q rfl (zac (av := .xs a0) rfl ?_)
  obtain ⟨n2, h⟩ := need_some h
  refine G_q rfl (op_index_str (by kernel_rfl) rfl rfl n2.1 n2.2 ?_)
  refine G_q rfl (op_convInt (k := .i64) (r := (UInt8.toNat (gi a0 0) : Int)) (by kernel_rfl) rfl (wrap_u8 rfl _) ?_)
  refine G_q rfl (zab (av := .xi (UInt8.toNat (gi a0 0) : Int)) rfl ?_)
  refine G_nil (zaa (k_ret ?_))
  obtain rfl := Option.some.inj h
  refine zal (endN (af' := (AF.put AF0 (some 2) (.xi (UInt8.toNat (gi a0 0) : Int)))) (σ' := []) _ rfl ?_ ⟨rfl, rfl⟩)
  exact Sub.of_le (lq rfl lt0)
set_option maxHeartbeats 4000000 in
theorem m_value_Parts_ok (a0 : List UInt8) (r : (List (List UInt8))) (h : m_value_Parts a0 = some r) : Pure Tryz.prog 65 [(.exact (.string (bs a0)))] (.row 1 zad r) := by
 unfold m_value_Parts at h
 refine Pure.ofFun (fun_of_awp Tryz.func65 rfl Tryz.ntmps65 (by simp) rfl (res1 rfl) fun E hE => k_end ?_)
 refine zaf (zag .free hmixP (by kernel_rfl) ?_)
 refine G_q rfl (zab (av := .exact (.slice none 0 0)) rfl ?_)
 refine G_nil (zaa (zaf (zaf (zag .free hmixP (by kernel_rfl) ?_))))
 refine G_q rfl (zac (av := .xs a0) rfl ?_)
 obtain ⟨y1, hy1, h⟩ := bnd1_some h
 refine G_q rfl (zam (m_value_Kind_ok _ _ hy1) Tryz.func63 (by kernel_rfl) (LEs.cons (AV.le_eq rfl) LEs.nil) ?_)
 obtain ⟨y2, hy2, h⟩ := bnd1_some h
 refine G_q rfl (zam (m_value_simple_ok _ _ hy2) Tryz.func88 (by kernel_rfl) (LEs.cons (AV.le_eq rfl) LEs.nil) ?_)
 refine G_nil (zaa ?_)
 refine k_cond_b (c := y2) rfl (fun hc => ?_) (fun hc => ?_)
 ·replace h := ite_t h hc
  refine zaf (zag .free hmixP (by kernel_rfl) ?_)
  refine G_q rfl (zab (av := .exact (.slice none 0 0)) rfl ?_)
  refine G_nil (zaa (k_ret (kC_ret ?_)))
  obtain rfl := Option.some.inj h
  refine zal (endN (af' := (AF.put AF0 (some 2) (.row 1 zad []))) (σ' := []) _ rfl ?_ ⟨rfl, rfl⟩)
  exact Sub.of_le (AF.le_put (row_nil (by decide)) lt0)
 ·replace h := ite_f h hc
  refine k_skip (zaa (zaf (zag .free hmixP (by kernel_rfl) ?_)))
  refine G_q rfl (zac (av := .xs a0) rfl ?_)
  obtain ⟨y3, hy3, h⟩ := bnd1_some h
  refine G_q rfl (zam (m_value_parts_ok _ _ hy3) Tryz.func89 (by kernel_rfl) (LEs.cons (AV.le_eq rfl) LEs.nil) ?_)
  refine G_q rfl (zab (av := .row 1 zad y3) rfl ?_)
  refine G_nil (zaa (k_ret ?_))
  obtain rfl := Option.some.inj h
  refine zal (endN (af' := (AF.put AF0 (some 2) (.row 1 zad y3))) (σ' := []) _ rfl ?_ ⟨rfl, rfl⟩)
  exact Sub.of_le (lq rfl lt0)
set_option maxHeartbeats 4000000 in
theorem m_slices_Grow_L_api_Value_api_Value_ok (a1 : Int) (r : (List (List UInt8))) (h : m_slices_Grow_L_api_Value_api_Value a1 = some r) : Fun Tryz.prog 87 [(.exact (.slice none 0 0)), (.exact (.int .i64 a1))] [] (fun a s => ∃ z0, a = .exact z0 ∧ s = [vecT Tryz.prog 27 1 zad z0 r]) := by
 unfold m_slices_Grow_L_api_Value_api_Value at h
 refine fun_of_awp Tryz.func87 rfl Tryz.ntmps87 (by simp) rfl (res1 rfl) fun E hE => k_end ?_
 refine zaf (zag .free hmixP (by kernel_rfl) ?_)
 refine G_q rfl (zab (av := .exact (.slice none 0 0)) rfl ?_)
 refine G_nil (zaa (zaf (zaf (zag .free hmixP (by kernel_rfl) ?_))))
 refine G_q rfl (zac (av := .xi a1) rfl ?_)
 refine G_q rfl (op_lss rfl rfl ?_)
 refine G_nil (zaa ?_)
 refine zaj (p := a1 < 0) rfl (fun hc => ?_) (fun hc => ?_)
 ·replace h := ite_t h hc
  cases h
 ·replace h := ite_f h hc
  refine k_skip (zaa ?_)
  refine k_join1_1 h (fun (x0_j2 : List (List UInt8)) (v0_j2 : Value) => (AF.put AF0 (some 0) (.exact v0_j2))) (fun (x0_j2 : List (List UInt8)) (v0_j2 : Value) => [vecT Tryz.prog 27 1 zad v0_j2 x0_j2]) (fun k2 h => ?_) (fun x0_j2 v0_j2 h => ?_)
  ·refine zaf (zag .free hmixP (by kernel_rfl) ?_)
   refine G_q rfl (zac (av := .xi a1) rfl ?_)
   refine G_q rfl (zac (av := .exact (.slice none 0 0)) rfl ?_)
   refine G_q rfl (op_cap_nil (by kernel_rfl) rfl ?_)
   refine G_q rfl (zac (av := .exact (.slice none 0 0)) rfl ?_)
   refine G_q rfl (op_len_slice (by kernel_rfl) rfl ?_)
   refine G_q rfl (op_sub rfl rfl rfl ?_)
   refine G_q rfl (op_sub rfl rfl rfl ?_)
   refine G_q rfl (zab (av := .xi (i64 (a1 - (i64 (0 - 0))))) rfl ?_)
   refine G_nil (zaa (zaf (zag .free hmixP (by kernel_rfl) ?_)))
   refine G_q rfl (zac (av := .xi (i64 (a1 - (i64 (0 - 0))))) rfl ?_)
   refine G_q rfl (op_gtr rfl rfl ?_)
   refine G_nil (zaa ?_)
   refine zaj (p := 0 < (i64 (a1 - (i64 (0 - 0))))) rfl (fun hc => ?_) (fun hc => ?_)
   ·replace h := ite_t h hc
    refine zag .free hmixP (by kernel_rfl) ?_
    refine G_q rfl (zac (av := .exact (.slice none 0 0)) rfl ?_)
    refine G_q rfl (zac (av := .exact (.slice none 0 0)) rfl ?_)
    refine G_q rfl (op_cap_nil (by kernel_rfl) rfl ?_)
    refine G_q rfl (op_slice_nil (n := 1) (by kernel_rfl) rfl (bnd_some rfl) ?_)
    refine G_q rfl (zac (av := .xi (i64 (a1 - (i64 (0 - 0))))) rfl ?_)
    obtain ⟨n7, h⟩ := need_some h
    refine G_l rfl (op_appMake0 (kn := .i64) (enc := zad) (zr := []) (by kernel_rfl) (by kernel_rfl) rfl rfl n7.1 n7.2 len_c_api_Value Tryz.zeroValue30 (fun _ _ => (Fit.ex Fit.nil0)) (fun v8 => ?_))
    refine G_q rfl (zac (av := .exact (.slice none 0 0)) rfl ?_)
    refine G_q rfl (op_len_slice (by kernel_rfl) rfl ?_)
    obtain ⟨n9, h⟩ := need_some h
    refine G_l rfl (op_trunc (by kernel_rfl) len_c_api_Value rfl (bnd_some rfl) n9.1 n9.2 (fun v10 => ?_))
    refine G_q rfl (zab (av := .exact v10) rfl ?_)
    refine G_nil ?_
    refine zae ⟨_, v10, h, ?_⟩
    exact Sub.of_le (lq rfl lt0)
   ·replace h := ite_f h hc
    refine k_skip ?_
    refine zae ⟨_, (.slice none 0 0), h, ?_⟩
    refine Sub.trans (SubU.to (SubU.nilT (P := Tryz.prog) (t := 27) (n := 1) (enc := zad))) ?_
    exact Sub.of_le (lq rfl lt0)
  ·refine zaf (zag .free hmixP (by kernel_rfl) ?_)
   refine G_q rfl (zac (av := .exact v0_j2) rfl ?_)
   refine G_q rfl (zab (av := .exact v0_j2) rfl ?_)
   refine G_nil (zaa (k_ret ?_))
   obtain rfl := Option.some.inj h
   refine zal (endN (af' := (AF.put AF0 (some 4) (.exact v0_j2))) (σ' := [vecT Tryz.prog 27 1 zad v0_j2 x0_j2]) _ rfl ?_ ⟨v0_j2, rfl, rfl⟩)
   exact Sub.of_le (lq rfl lt0)
set_option maxHeartbeats 4000000 in
theorem m_slices_Concat_L_api_Value_api_Value_ok (a0 : List (List (List UInt8))) (r : (List (List UInt8))) (h : m_slices_Concat_L_api_Value_api_Value a0 = some r) : Pure Tryz.prog 64 [(.row 1 c_L_api_Value a0)] (.row 1 zad r) := by
 unfold m_slices_Concat_L_api_Value_api_Value at h
 refine Pure.ofFun (fun_of_awp Tryz.func64 rfl Tryz.ntmps64 (by simp) rfl (res1 rfl) fun E hE => k_end ?_)
 refine zaf (zag .free hmixP (by kernel_rfl) ?_)
 refine G_q rfl (zab (av := .exact (.slice none 0 0)) rfl ?_)
 refine G_nil (zaa (zaf (zag .free hmixP (by kernel_rfl) ?_)))
 refine G_q rfl (zab (av := .xi 0) rfl ?_)
 refine G_nil (zaa ?_)
 refine k_join1_0 h (fun (x3_j1 : Int) => (AF.put (AF.put AF0 (some 0) (.row 1 c_L_api_Value a0)) (some 3) (.xi x3_j1))) (fun (x3_j1 : Int) => []) (fun k1 h => ?_) (fun x3_j1 h => ?_)
 ·refine zaf (zag .free hmixP (by kernel_rfl) ?_)
  refine G_q rfl (zac (av := .row 1 c_L_api_Value a0) rfl ?_)
  refine G_q rfl (op_len_row (by kernel_rfl) rfl ?_)
  refine G_q rfl (zac (av := .xi 0) rfl ?_)
  refine G_nil (zaa (k_block ?_))
  refine k_loop2_0 (m_slices_Concat_L_api_Value_api_Value_L2 a0 k1) (m_slices_Concat_L_api_Value_api_Value_B2 a0 k1) (fun _ _ => rfl) (fun m _ _ => rfl) h (fun (x3_l2 : Int) (x11_l2 : Int) => (AF.put (AF.put (AF.put (AF.put (AF.put AF0 (some 0) (.row 1 c_L_api_Value a0)) (some 3) (.xi x3_l2)) (some 9) (.row 1 c_L_api_Value a0)) (some 10) (.xi (List.length a0 : Int))) (some 11) (.xi x11_l2))) (fun (x3_l2 : Int) (x11_l2 : Int) => []) ?_ (fun rec2 x3_l2 x11_l2 h => ?_)
  ·exact Sub.of_le (lq rfl (lq rfl (lq rfl (lq rfl (lq rfl lt0)))))
  ·unfold m_slices_Concat_L_api_Value_api_Value_B2 at h
   refine zaf (zag .free hmixP (by kernel_rfl) ?_)
   refine G_q rfl (op_lss rfl rfl ?_)
   refine G_nil (zaa (zaf ?_))
   refine zaj (p := x11_l2 < (List.length a0 : Int)) rfl (fun hc => ?_) (fun hc => ?_)
   ·replace h := ite_t h hc
    refine k_skip (zaa (zaf (k_block (zaf (zag .free hmixP (by kernel_rfl) ?_)))))
    obtain ⟨n20, h⟩ := need_some h
    refine G_q rfl (zaq (by kernel_rfl) rfl rfl n20.1 n20.2 ?_)
    refine G_q rfl (zap (a := .row 1 zad (gi a0 x11_l2)) (by kernel_rfl) rfl rfl ?_)
    refine G_q rfl (zab (av := .row 1 zad (gi a0 x11_l2)) rfl ?_)
    refine G_nil (zaa (zaf (zag .free hmixP (by kernel_rfl) ?_)))
    refine G_q rfl (zac (av := .xi x3_l2) rfl ?_)
    refine G_q rfl (zac (av := .row 1 zad (gi a0 x11_l2)) rfl ?_)
    refine G_q rfl (op_len_row (by kernel_rfl) rfl ?_)
    refine G_q rfl (op_add rfl rfl rfl ?_)
    refine G_q rfl (zab (av := .xi (i64 (x3_l2 + (List.length (gi a0 x11_l2) : Int)))) rfl ?_)
    refine G_nil (zaa (zaf (zag .free hmixP (by kernel_rfl) ?_)))
    refine G_q rfl (zac (av := .xi (i64 (x3_l2 + (List.length (gi a0 x11_l2) : Int)))) rfl ?_)
    refine G_q rfl (op_lss rfl rfl ?_)
    refine G_nil (zaa ?_)
    refine zaj (p := (i64 (x3_l2 + (List.length (gi a0 x11_l2) : Int))) < 0) rfl (fun hc => ?_) (fun hc => ?_)
    ·replace h := ite_t h hc
     cases h
    ·replace h := ite_f h hc
     refine k_skip (kB_normal (zaa (zag .free hmixP (by kernel_rfl) ?_)))
     refine G_q rfl (op_add rfl rfl rfl ?_)
     refine G_q rfl (zac (av := .xi (i64 (x11_l2 + 1))) rfl ?_)
     refine G_nil ?_
     refine zae ⟨_, _, h, ?_⟩
     exact Sub.of_le (lq rfl (lq rfl (lq rfl (lq rfl (lq rfl lt0)))))
   ·replace h := ite_f h hc
    refine k_exit (kC_exit (kI_exit (kB_exit ?_)))
    refine zae ⟨_, h, ?_⟩
    exact Sub.of_le (lq rfl (lq rfl lt0))
 ·refine zaf (zag .free hmixP (by kernel_rfl) ?_)
  refine G_q rfl (zac (av := .xi x3_j1) rfl ?_)
  obtain ⟨y21, hy21, h⟩ := bnd1_some h
  refine G_l rfl (op_fun_0_1_1 (m_slices_Grow_L_api_Value_api_Value_ok _ _ hy21) Tryz.func87 (by kernel_rfl) (LEs.cons (AV.le_eq rfl) (LEs.cons (AV.le_eq rfl) LEs.nil)) (fun v22 => ?_))
  refine G_q rfl (zab (av := .exact v22) rfl ?_)
  refine G_nil (zaa ?_)
  refine k_join1_1 h (fun (x6_j23 : List (List UInt8)) (v6_j23 : Value) => (AF.put AF0 (some 6) (.exact v6_j23))) (fun (x6_j23 : List (List UInt8)) (v6_j23 : Value) => [vecT Tryz.prog 27 1 zad v6_j23 x6_j23]) (fun k23 h => ?_) (fun x6_j23 v6_j23 h => ?_)
  ·refine zaf (zag .free hmixP (by kernel_rfl) ?_)
   refine G_q rfl (zac (av := .row 1 c_L_api_Value a0) rfl ?_)
   refine G_q rfl (op_len_row (by kernel_rfl) rfl ?_)
   refine G_q rfl (zac (av := .xi 0) rfl ?_)
   refine G_nil (zaa (k_block ?_))
   refine k_loop2_1 (m_slices_Concat_L_api_Value_api_Value_L4 a0 k23) (m_slices_Concat_L_api_Value_api_Value_B4 a0 k23) (fun _ _ => rfl) (fun m _ _ => rfl) h (fun (x6_l4 : List (List UInt8)) (x27_l4 : Int) (v6_l4 : Value) => (AF.put (AF.put (AF.put (AF.put AF0 (some 6) (.exact v6_l4)) (some 25) (.row 1 c_L_api_Value a0)) (some 26) (.xi (List.length a0 : Int))) (some 27) (.xi x27_l4))) (fun (x6_l4 : List (List UInt8)) (x27_l4 : Int) (v6_l4 : Value) => [vecT Tryz.prog 27 1 zad v6_l4 x6_l4]) v22 ?_ (fun rec4 x6_l4 x27_l4 v6_l4 h => ?_)
   ·exact Sub.of_le (lq rfl (lq rfl (lq rfl (lq rfl lt0))))
   ·unfold m_slices_Concat_L_api_Value_api_Value_B4 at h
    refine zaf (zag .free hmixP (by kernel_rfl) ?_)
    refine G_q rfl (op_lss rfl rfl ?_)
    refine G_nil (zaa (zaf ?_))
    refine zaj (p := x27_l4 < (List.length a0 : Int)) rfl (fun hc => ?_) (fun hc => ?_)
    ·replace h := ite_t h hc
     refine k_skip (zaa (zaf (k_block (zaf (zag .free hmixP (by kernel_rfl) ?_)))))
     obtain ⟨n40, h⟩ := need_some h
     refine G_q rfl (zaq (by kernel_rfl) rfl rfl n40.1 n40.2 ?_)
     refine G_q rfl (zap (a := .row 1 zad (gi a0 x27_l4)) (by kernel_rfl) rfl rfl ?_)
     refine G_q rfl (zab (av := .row 1 zad (gi a0 x27_l4)) rfl ?_)
     refine G_nil (zaa (zag .free hmixP (by kernel_rfl) ?_))
     refine G_q rfl (zac (av := .exact v6_l4) rfl ?_)
     refine G_q rfl (zac (av := .row 1 zad (gi a0 x27_l4)) rfl ?_)
     obtain ⟨n41, h⟩ := need_some h
     refine G_l rfl (op_appT (by kernel_rfl) rfl rfl oc_c_api_Value n41 (fun v42 => ?_))
     refine G_q rfl (zab (av := .exact v42) rfl ?_)
     refine G_nil (kB_normal (zaa (zag .free hmixP (by kernel_rfl) ?_)))
     refine G_q rfl (op_add rfl rfl rfl ?_)
     refine G_q rfl (zac (av := .xi (i64 (x27_l4 + 1))) rfl ?_)
     refine G_nil ?_
     refine zae ⟨_, _, v42, h, ?_⟩
     exact Sub.of_le (lq rfl (lq rfl (lq rfl (lq rfl lt0))))
    ·replace h := ite_f h hc
     refine k_exit (kC_exit (kI_exit (kB_exit ?_)))
     refine zae ⟨_, v6_l4, h, ?_⟩
     exact Sub.of_le (lq rfl lt0)
  ·refine zaf (zag .free hmixP (by kernel_rfl) ?_)
   refine G_q rfl (zac (av := .exact v6_j23) rfl ?_)
   refine G_q rfl (zab (av := .exact v6_j23) rfl ?_)
   refine G_nil (zaa (k_ret ?_))
   obtain rfl := Option.some.inj h
   refine zal (endN (af' := (AF.put AF0 (some 2) (.row 1 zad x6_j23))) (σ' := []) _ rfl ?_ ⟨rfl, rfl⟩)
   refine Sub.trans (SubU.to (SubU.freezeT (s := 2) rfl len_c_api_Value)) ?_
   exact Sub.of_le (lq rfl lt0)
set_option maxHeartbeats 4000000 in
theorem m_pattern_node_build_F_ok (self_pattern_node_build : Nd → (List (List UInt8)) → Option ((List UInt8) × (List (List UInt8)))) (hself_pattern_node_build : ∀ (a0 : Nd) (a1 : List (List UInt8)) (r : (List UInt8) × (List (List UInt8))), self_pattern_node_build a0 a1 = some r → Pure Tryz.prog 37 [(ndA a0), (.row 1 zad a1)] (.tup [.exact (.string (bs r.1)), .row 1 zad r.2])) (a0 : Nd) (a1 : List (List UInt8)) (r : (List UInt8) × (List (List UInt8))) (h : m_pattern_node_build_F self_pattern_node_build a0 a1 = some r) : Pure Tryz.prog 37 [(ndA a0), (.row 1 zad a1)] (.tup [.exact (.string (bs r.1)), .row 1 zad r.2]) := by
 unfold m_pattern_node_build_F at h
 refine Pure.ofFun (fun_of_awp Tryz.func37 rfl Tryz.ntmps37 (by simp) rfl (res2 rfl) fun E hE => k_end ?_)
 refine zaf (zag .free hmixP (by kernel_rfl) ?_)
 refine G_q rfl (zab (av := .xs ([] : List UInt8)) rfl ?_)
 refine G_q rfl (zab (av := .exact (.slice none 0 0)) rfl ?_)
 refine G_nil (zaa (zaf (zaf (zag .free hmixP (by kernel_rfl) ?_))))
 refine G_q rfl (zac (av := ndA a0) rfl ?_)
 obtain ⟨y1, hy1, h⟩ := bnd1_some h
 refine G_q rfl (zar (c := zai y1) (ndA_un hy1) ?_)
 refine G_q rfl (zan (o := 0) (c' := (List.drop 0 (zai y1))) (by kernel_rfl) rfl rfl ?_)
 refine G_q rfl (zap (a := .xi y1.1) (by kernel_rfl) rfl rfl ?_)
 refine G_nil (zaa (k_block (zaf (zag .free hmixP (by kernel_rfl) ?_))))
 refine G_q rfl (op_eql rfl rfl ?_)
 refine G_q rfl (zab (av := .xb (decide (y1.1 = 30))) rfl ?_)
 refine G_nil (zaa ?_)
 refine zaj (p := y1.1 = 30) rfl (fun hc => ?_) (fun hc => ?_)
 ·replace h := ite_t h hc
  refine zaf ?_
  refine k_plan [] [(0, 0), (0, 1), (0, 2), (0, 3), (0, 4), (0, 5), (0, 6)] hmixP (by kernel_rfl) ?_
  refine P_q no34_0 rfl (zac (av := .row 1 zad a1) rfl ?_)
  obtain ⟨n2, h⟩ := need_some h
  refine P_q no34_0 rfl (zaq (by kernel_rfl) rfl rfl n2.1 n2.2 ?_)
  refine P_q no34_0 rfl (zap (a := .xs (gi a1 0)) (by kernel_rfl) rfl rfl ?_)
  refine P_q no34_0 rfl (zac (av := .row 1 zad a1) rfl ?_)
  obtain ⟨n3, h⟩ := need_some h
  refine P_q no34_0 rfl (op_slice_rowd (by kernel_rfl) rfl (bnd_some rfl) bnd_none (by decide) n3 (Int.le_refl _) ?_)
  refine P_q no34_0 rfl (zab (av := .xs (gi a1 0)) rfl ?_)
  refine P_q no34_0 rfl (zab (av := .row 1 zad (List.drop (Int.toNat 1) a1)) rfl ?_)
  refine P_nil (zaa (k_ret (kB_ret (kC_ret ?_))))
  obtain rfl := Option.some.inj h
  refine zal (endN (af' := (AF.put (AF.put AF0 (some 4) (.xs (gi a1 0))) (some 5) (.row 1 zad (List.drop (Int.toNat 1) a1)))) (σ' := []) _ rfl ?_ ⟨rfl, rfl⟩)
  exact Sub.of_le (lq rfl (lq rfl lt0))
 ·replace h := ite_f h hc
  refine zaf (zag .free hmixP (by kernel_rfl) ?_)
  refine G_q rfl (op_eql rfl rfl ?_)
  refine G_q rfl (zab (av := .xb (decide (y1.1 = 32))) rfl ?_)
  refine G_nil (zaa ?_)
  refine zaj (p := y1.1 = 32) rfl (fun hc => ?_) (fun hc => ?_)
  ·replace h := ite_t h hc
   refine zaf (zag .free hmixP (by kernel_rfl) ?_)
   refine G_q rfl (zac (av := ndA a0) rfl ?_)
   obtain ⟨y4, hy4, h⟩ := bnd1_some h
   refine G_q rfl (zar (c := zai y4) (ndA_un hy4) ?_)
   refine G_q rfl (zan (o := 1) (c' := (List.drop 1 (zai y4))) (by kernel_rfl) rfl rfl ?_)
   refine G_q rfl (zap (a := .xi y4.2.1) (by kernel_rfl) rfl rfl ?_)
   obtain ⟨y5, hy5, h⟩ := bnd1_some h
   refine G_q rfl (zam (m_value_Int_ok _ _ hy5) Tryz.func57 (by kernel_rfl) (LEs.cons (AV.le_eq rfl) LEs.nil) ?_)
   refine G_q rfl (zac (av := .row 1 zad a1) rfl ?_)
   refine G_q rfl (zab (av := .xs y5) rfl ?_)
   refine G_q rfl (zab (av := .row 1 zad a1) rfl ?_)
   refine G_nil (zaa (k_ret (kB_ret (kC_ret ?_))))
   obtain rfl := Option.some.inj h
   refine zal (endN (af' := (AF.put (AF.put AF0 (some 4) (.xs y5)) (some 5) (.row 1 zad a1))) (σ' := []) _ rfl ?_ ⟨rfl, rfl⟩)
   exact Sub.of_le (lq rfl (lq rfl lt0))
  ·replace h := ite_f h hc
   refine zaf (zag .free hmixP (by kernel_rfl) ?_)
   refine G_q rfl (op_eql rfl rfl ?_)
   refine G_q rfl (zab (av := .xb (decide (y1.1 = 33))) rfl ?_)
   refine G_nil (zaa ?_)
   refine zaj (p := y1.1 = 33) rfl (fun hc => ?_) (fun hc => ?_)
   ·replace h := ite_t h hc
    refine zaf (zag .free hmixP (by kernel_rfl) ?_)
    refine G_q rfl (zac (av := ndA a0) rfl ?_)
    obtain ⟨y6, hy6, h⟩ := bnd1_some h
    refine G_q rfl (zar (c := zai y6) (ndA_un hy6) ?_)
    refine G_q rfl (zan (o := 1) (c' := (List.drop 1 (zai y6))) (by kernel_rfl) rfl rfl ?_)
    refine G_q rfl (zap (a := .xi y6.2.1) (by kernel_rfl) rfl rfl ?_)
    refine G_q rfl (op_eql rfl rfl ?_)
    obtain ⟨y7, hy7, h⟩ := bnd1_some h
    refine G_q rfl (zam (m_value_Bool_ok _ _ hy7) Tryz.func58 (by kernel_rfl) (LEs.cons (AV.le_eq rfl) LEs.nil) ?_)
    refine G_q rfl (zac (av := .row 1 zad a1) rfl ?_)
    refine G_q rfl (zab (av := .xs y7) rfl ?_)
    refine G_q rfl (zab (av := .row 1 zad a1) rfl ?_)
    refine G_nil (zaa (k_ret (kB_ret (kC_ret ?_))))
    obtain rfl := Option.some.inj h
    refine zal (endN (af' := (AF.put (AF.put AF0 (some 4) (.xs y7)) (some 5) (.row 1 zad a1))) (σ' := []) _ rfl ?_ ⟨rfl, rfl⟩)
    exact Sub.of_le (lq rfl (lq rfl lt0))
   ·replace h := ite_f h hc
    refine k_skip (kB_normal (zaa (zaf (zag .free hmixP (by kernel_rfl) ?_))))
    refine G_q rfl (zab (av := .exact (.slice none 0 0)) rfl ?_)
    refine G_nil (zaa ?_)
    refine k_join2_1 h (fun (x1_j8 : List (List UInt8)) (x6_j8 : List (List UInt8)) (v6_j8 : Value) => (AF.put (AF.put (AF.put AF0 (some 0) (ndA a0)) (some 1) (.row 1 zad x1_j8)) (some 6) (.exact v6_j8))) (fun (x1_j8 : List (List UInt8)) (x6_j8 : List (List UInt8)) (v6_j8 : Value) => [vecT Tryz.prog 27 1 zad v6_j8 x6_j8]) (fun k8 h => ?_) (fun x1_j8 x6_j8 v6_j8 h => ?_)
    ·refine zaf (zag .free hmixP (by kernel_rfl) ?_)
     refine G_q rfl (zac (av := ndA a0) rfl ?_)
     obtain ⟨y23, hy23, h⟩ := bnd1_some h
     refine G_q rfl (zar (c := zai y23) (ndA_un hy23) ?_)
     refine G_q rfl (zan (o := 2) (c' := (List.drop 2 (zai y23))) (by kernel_rfl) rfl rfl ?_)
     refine G_q rfl (zap (a := .row 1 c_P_pattern_node y23.2.2) (by kernel_rfl) rfl rfl ?_)
     refine G_q rfl (op_len_row (by kernel_rfl) rfl ?_)
     refine G_q rfl (zac (av := .xi 0) rfl ?_)
     refine G_nil (zaa (k_block ?_))
     refine k_loop3_1 (m_pattern_node_build_L2 self_pattern_node_build k8 y23) (m_pattern_node_build_B2 self_pattern_node_build k8 y23) (fun _ _ _ => rfl) (fun m _ _ _ => rfl) h (fun (x1_l2 : List (List UInt8)) (x6_l2 : List (List UInt8)) (x45_l2 : Int) (v6_l2 : Value) => (AF.put (AF.put (AF.put (AF.put (AF.put (AF.put AF0 (some 0) (ndA a0)) (some 1) (.row 1 zad x1_l2)) (some 6) (.exact v6_l2)) (some 43) (.row 1 c_P_pattern_node y23.2.2)) (some 44) (.xi (List.length y23.2.2 : Int))) (some 45) (.xi x45_l2))) (fun (x1_l2 : List (List UInt8)) (x6_l2 : List (List UInt8)) (x45_l2 : Int) (v6_l2 : Value) => [vecT Tryz.prog 27 1 zad v6_l2 x6_l2]) (.slice none 0 0) ?_ (fun rec2 x1_l2 x6_l2 x45_l2 v6_l2 h => ?_)
     ·refine Sub.trans (SubU.to (SubU.nilT (P := Tryz.prog) (t := 27) (n := 1) (enc := zad))) ?_
      exact Sub.of_le (lq rfl (lq rfl (lq rfl (lq rfl (lq rfl (lq rfl lt0))))))
     ·unfold m_pattern_node_build_B2 at h
      refine zaf (zag .free hmixP (by kernel_rfl) ?_)
      refine G_q rfl (op_lss rfl rfl ?_)
      refine G_nil (zaa (zaf ?_))
      refine zaj (p := x45_l2 < (List.length y23.2.2 : Int)) rfl (fun hc => ?_) (fun hc => ?_)
      ·replace h := ite_t h hc
       refine k_skip (zaa (zaf (k_block (zaf (zag .free hmixP (by kernel_rfl) ?_)))))
       obtain ⟨n32, h⟩ := need_some h
       refine G_q rfl (zaq (by kernel_rfl) rfl rfl n32.1 n32.2 ?_)
       refine G_q rfl (zap (a := ndA (gi y23.2.2 x45_l2)) (by kernel_rfl) rfl rfl ?_)
       refine G_q rfl (zab (av := ndA (gi y23.2.2 x45_l2)) rfl ?_)
       refine G_nil (zaa (zaf (zag .free hmixP (by kernel_rfl) ?_)))
       refine G_q rfl (zac (av := ndA (gi y23.2.2 x45_l2)) rfl ?_)
       refine G_q rfl (zac (av := .row 1 zad x1_l2) rfl ?_)
       obtain ⟨y33, hy33, h⟩ := bnd1_some h
       refine G_q rfl (zam (hself_pattern_node_build _ _ _ hy33) Tryz.func37 (by kernel_rfl) (LEs.cons (AV.le_eq rfl) (LEs.cons (AV.le_eq rfl) LEs.nil)) ?_)
       refine G_q rfl (zac (av := .tup [.xs y33.1, .row 1 zad y33.2]) rfl ?_)
       refine G_q rfl (op_extract (av := .xs y33.1) rfl rfl ?_)
       refine G_q rfl (op_extract (av := .row 1 zad y33.2) rfl rfl ?_)
       refine G_q rfl (zab (av := .xs y33.1) rfl ?_)
       refine G_q rfl (zab (av := .row 1 zad y33.2) rfl ?_)
       refine G_nil (zaa (zaf (zag .free hmixP (by kernel_rfl) ?_)))
       refine G_q rfl (zac (av := .exact v6_l2) rfl ?_)
       refine G_q rfl (zac (av := .xs y33.1) rfl ?_)
       refine G_q rfl (op_litT (n := 1) (enc := zad) [y33.1] (CellsAll.cons rfl CellsOf.str CellsAll.nil) rfl (by kernel_rfl) (LEss.cons (LEs.cons (AV.le_eq rfl) LEs.nil) LEss.nil) ?_)
       obtain ⟨n34, h⟩ := need_some h
       refine G_l rfl (op_appT (by kernel_rfl) rfl rfl oc_c_api_Value n34 (fun v35 => ?_))
       refine G_q rfl (zab (av := .exact v35) rfl ?_)
       refine G_nil (zaa (zag .free hmixP (by kernel_rfl) ?_))
       refine G_q rfl (zac (av := .row 1 zad y33.2) rfl ?_)
       refine G_q rfl (zab (av := .row 1 zad y33.2) rfl ?_)
       refine G_nil (kB_normal (zaa (zag .free hmixP (by kernel_rfl) ?_)))
       refine G_q rfl (op_add rfl rfl rfl ?_)
       refine G_q rfl (zac (av := .xi (i64 (x45_l2 + 1))) rfl ?_)
       refine G_nil ?_
       refine zae ⟨_, _, _, v35, h, ?_⟩
       exact Sub.of_le (lq rfl (lq rfl (lq rfl (lq rfl (lq rfl (lq rfl lt0))))))
      ·replace h := ite_f h hc
       refine k_exit (kC_exit (kI_exit (kB_exit ?_)))
       refine zae ⟨_, _, v6_l2, h, ?_⟩
       exact Sub.of_le (lq rfl (lq rfl (lq rfl lt0)))
    ·refine zaf (zaf (zag .free hmixP (by kernel_rfl) ?_))
     refine G_q rfl (zac (av := ndA a0) rfl ?_)
     obtain ⟨y36, hy36, h⟩ := bnd1_some h
     refine G_q rfl (zar (c := zai y36) (ndA_un hy36) ?_)
     refine G_q rfl (zan (o := 0) (c' := (List.drop 0 (zai y36))) (by kernel_rfl) rfl rfl ?_)
     refine G_q rfl (zap (a := .xi y36.1) (by kernel_rfl) rfl rfl ?_)
     refine G_nil (zaa (k_block (zaf (zag .free hmixP (by kernel_rfl) ?_))))
     refine G_q rfl (op_eql rfl rfl ?_)
     refine G_q rfl (zab (av := .xb (decide (y36.1 = 34))) rfl ?_)
     refine G_nil (zaa ?_)
     refine zaj (p := y36.1 = 34) rfl (fun hc => ?_) (fun hc => ?_)
     ·replace h := ite_t h hc
      refine zaf (zag .free hmixP (by kernel_rfl) ?_)
      refine G_q rfl (zac (av := .exact v6_j8) rfl ?_)
      refine G_sub rfl (SubU.freezeT2 (s1 := 6) (s2 := 67) rfl rfl len_c_api_Value) ?_
      obtain ⟨y37, hy37, h⟩ := bnd1_some h
      refine G_q rfl (zam (m_value_Tuple_ok _ _ hy37) Tryz.func59 (by kernel_rfl) (LEs.cons (AV.le_eq rfl) LEs.nil) ?_)
      refine G_q rfl (zac (av := .row 1 zad x1_j8) rfl ?_)
      refine G_q rfl (zab (av := .xs y37) rfl ?_)
      refine G_q rfl (zab (av := .row 1 zad x1_j8) rfl ?_)
      refine G_nil (zaa (k_ret (kB_ret (kC_ret ?_))))
      obtain rfl := Option.some.inj h
      refine zal (endN (af' := (AF.put (AF.put AF0 (some 4) (.xs y37)) (some 5) (.row 1 zad x1_j8))) (σ' := []) _ rfl ?_ ⟨rfl, rfl⟩)
      exact Sub.of_le (lq rfl (lq rfl lt0))
     ·replace h := ite_f h hc
      refine zaf (zag .free hmixP (by kernel_rfl) ?_)
      refine G_q rfl (op_eql rfl rfl ?_)
      refine G_q rfl (zab (av := .xb (decide (y36.1 = 35))) rfl ?_)
      refine G_nil (zaa ?_)
      refine zaj (p := y36.1 = 35) rfl (fun hc => ?_) (fun hc => ?_)
      ·replace h := ite_t h hc
       refine zaf (zag .free hmixP (by kernel_rfl) ?_)
       refine G_q rfl (zac (av := .exact v6_j8) rfl ?_)
       refine G_sub rfl (SubU.freezeT2 (s1 := 6) (s2 := 72) rfl rfl len_c_api_Value) ?_
       obtain ⟨y38, hy38, h⟩ := bnd1_some h
       refine G_q rfl (zam (m_value_Seq_ok _ _ hy38) Tryz.func60 (by kernel_rfl) (LEs.cons (AV.le_eq rfl) LEs.nil) ?_)
       refine G_q rfl (zac (av := .row 1 zad x1_j8) rfl ?_)
       refine G_q rfl (zab (av := .xs y38) rfl ?_)
       refine G_q rfl (zab (av := .row 1 zad x1_j8) rfl ?_)
       refine G_nil (zaa (k_ret (kB_ret (kC_ret ?_))))
       obtain rfl := Option.some.inj h
       refine zal (endN (af' := (AF.put (AF.put AF0 (some 4) (.xs y38)) (some 5) (.row 1 zad x1_j8))) (σ' := []) _ rfl ?_ ⟨rfl, rfl⟩)
       exact Sub.of_le (lq rfl (lq rfl lt0))
      ·replace h := ite_f h hc
       refine zaf (zag .free hmixP (by kernel_rfl) ?_)
       refine G_q rfl (op_eql rfl rfl ?_)
       refine G_q rfl (zab (av := .xb (decide (y36.1 = 37))) rfl ?_)
       refine G_nil (zaa ?_)
       refine zaj (p := y36.1 = 37) rfl (fun hc => ?_) (fun hc => ?_)
       ·replace h := ite_t h hc
        refine zaf (zag .free hmixP (by kernel_rfl) ?_)
        refine G_q rfl (zac (av := .exact v6_j8) rfl ?_)
        refine G_sub rfl (SubU.freezeT2 (s1 := 6) (s2 := 77) rfl rfl len_c_api_Value) ?_
        obtain ⟨y39, hy39, h⟩ := bnd1_some h
        refine G_q rfl (zam (m_value_Set_ok _ _ hy39) Tryz.func61 (by kernel_rfl) (LEs.cons (AV.le_eq rfl) LEs.nil) ?_)
        refine G_q rfl (zac (av := .row 1 zad x1_j8) rfl ?_)
        refine G_q rfl (zab (av := .xs y39) rfl ?_)
        refine G_q rfl (zab (av := .row 1 zad x1_j8) rfl ?_)
        refine G_nil (zaa (k_ret (kB_ret (kC_ret ?_))))
        obtain rfl := Option.some.inj h
        refine zal (endN (af' := (AF.put (AF.put AF0 (some 4) (.xs y39)) (some 5) (.row 1 zad x1_j8))) (σ' := []) _ rfl ?_ ⟨rfl, rfl⟩)
        exact Sub.of_le (lq rfl (lq rfl lt0))
       ·replace h := ite_f h hc
        refine zaf (zag .free hmixP (by kernel_rfl) ?_)
        refine G_q rfl (op_eql rfl rfl ?_)
        refine G_q rfl (zab (av := .xb (decide (y36.1 = 38))) rfl ?_)
        refine G_nil (zaa ?_)
        refine zaj (p := y36.1 = 38) rfl (fun hc => ?_) (fun hc => ?_)
        ·replace h := ite_t h hc
         refine zaf ?_
         refine k_join1_0 h (fun (x93_j46 : Bool) => (AF.put (AF.put (AF.put (AF.put AF0 (some 0) (ndA a0)) (some 1) (.row 1 zad x1_j8)) (some 6) (.exact v6_j8)) (some 93) (.xb x93_j46))) (fun (x93_j46 : Bool) => [vecT Tryz.prog 27 1 zad v6_j8 x6_j8]) (fun k46 h => ?_) (fun x93_j46 h => ?_)
         ·refine zag .free hmixP (by kernel_rfl) ?_
          refine G_q rfl (zac (av := ndA a0) rfl ?_)
          obtain ⟨y49, hy49, h⟩ := bnd1_some h
          refine G_q rfl (zar (c := zai y49) (ndA_un hy49) ?_)
          refine G_q rfl (zan (o := 1) (c' := (List.drop 1 (zai y49))) (by kernel_rfl) rfl rfl ?_)
          refine G_q rfl (zap (a := .xi y49.2.1) (by kernel_rfl) rfl rfl ?_)
          refine G_q rfl (op_lss rfl rfl ?_)
          refine G_q rfl (zac (av := .xb (decide (y49.2.1 < 0))) rfl ?_)
          refine G_split (p := y49.2.1 < 0) 87 rfl (fun hc => ?_) (fun hc => ?_)
          ·replace h := ite_t h hc
           refine G_n rfl rfl (G_n rfl rfl (G_n rfl rfl (G_n rfl rfl (G_n rfl rfl ?_))))
           refine G_q rfl (zao rfl (av := .xb true) rfl ?_)
           refine G_nil ?_
           refine zae ⟨_, h, ?_⟩
           exact Sub.of_le (lq rfl (lq rfl (lq rfl (lq rfl lt0))))
          ·replace h := ite_f h hc
           refine Gy_q rfl rfl rfl (zac (av := ndA a0) rfl ?_)
           obtain ⟨y50, hy50, h⟩ := bnd1_some h
           refine Gy_q rfl rfl rfl (zar (c := zai y50) (ndA_un hy50) ?_)
           refine Gy_q rfl rfl rfl (zan (o := 1) (c' := (List.drop 1 (zai y50))) (by kernel_rfl) rfl rfl ?_)
           refine Gy_q rfl rfl rfl (zap (a := .xi y50.2.1) (by kernel_rfl) rfl rfl ?_)
           refine Gy_q rfl rfl rfl (op_geq rfl rfl ?_)
           refine G_q rfl (zak rfl (av := .xb (decide (65536 ≤ y50.2.1))) rfl ?_)
           refine G_nil ?_
           refine zae ⟨_, h, ?_⟩
           exact Sub.of_le (lq rfl (lq rfl (lq rfl (lq rfl lt0))))
         ·refine k_cond_b (c := x93_j46) rfl (fun hc => ?_) (fun hc => ?_)
          ·replace h := ite_t h hc
           refine zaf (zag .free hmixP (by kernel_rfl) ?_)
           refine G_q rfl (zac (av := .row 1 zad x1_j8) rfl ?_)
           refine G_q rfl (zab (av := .xs ([] : List UInt8)) rfl ?_)
           refine G_q rfl (zab (av := .row 1 zad x1_j8) rfl ?_)
           refine G_nil (zaa (k_ret (kC_ret (kB_ret (kC_ret ?_)))))
           obtain rfl := Option.some.inj h
           refine zal (endN (af' := (AF.put (AF.put AF0 (some 4) (.xs ([] : List UInt8))) (some 5) (.row 1 zad x1_j8))) (σ' := []) _ rfl ?_ ⟨rfl, rfl⟩)
           refine Sub.trans (SubU.to SubU.drop) ?_
           exact Sub.of_le (lq rfl (lq rfl lt0))
          ·replace h := ite_f h hc
           refine k_skip (zaa (zaf (zag .free hmixP (by kernel_rfl) ?_)))
           refine G_q rfl (zac (av := ndA a0) rfl ?_)
           obtain ⟨y51, hy51, h⟩ := bnd1_some h
           refine G_q rfl (zar (c := zai y51) (ndA_un hy51) ?_)
           refine G_q rfl (zan (o := 1) (c' := (List.drop 1 (zai y51))) (by kernel_rfl) rfl rfl ?_)
           refine G_q rfl (zap (a := .xi y51.2.1) (by kernel_rfl) rfl rfl ?_)
           refine G_q rfl (zac (av := .exact v6_j8) rfl ?_)
           refine G_sub rfl (SubU.freezeT2 (s1 := 6) (s2 := 99) rfl rfl len_c_api_Value) ?_
           obtain ⟨y52, hy52, h⟩ := bnd1_some h
           refine G_q rfl (zam (m_value_Dot_ok _ _ _ hy52) Tryz.func62 (by kernel_rfl) (LEs.cons (AV.le_eq rfl) (LEs.cons (AV.le_eq rfl) LEs.nil)) ?_)
           refine G_q rfl (zac (av := .row 1 zad x1_j8) rfl ?_)
           refine G_q rfl (zab (av := .xs y52) rfl ?_)
           refine G_q rfl (zab (av := .row 1 zad x1_j8) rfl ?_)
           refine G_nil (zaa (k_ret (kB_ret (kC_ret ?_))))
           obtain rfl := Option.some.inj h
           refine zal (endN (af' := (AF.put (AF.put AF0 (some 4) (.xs y52)) (some 5) (.row 1 zad x1_j8))) (σ' := []) _ rfl ?_ ⟨rfl, rfl⟩)
           exact Sub.of_le (lq rfl (lq rfl lt0))
        ·replace h := ite_f h hc
         refine k_skip (kB_normal (zaa (zaf (zag .free hmixP (by kernel_rfl) ?_))))
         refine G_q rfl (zac (av := .exact v6_j8) rfl ?_)
         refine G_q rfl (zac (av := ndA a0) rfl ?_)
         obtain ⟨y53, hy53, h⟩ := bnd1_some h
         refine G_q rfl (zar (c := zai y53) (ndA_un hy53) ?_)
         refine G_q rfl (zan (o := 1) (c' := (List.drop 1 (zai y53))) (by kernel_rfl) rfl rfl ?_)
         refine G_q rfl (zap (a := .xi y53.2.1) (by kernel_rfl) rfl rfl ?_)
         obtain ⟨n54, h⟩ := need_some h
         refine G_r rfl (op_index_vec (by kernel_rfl) rfl rfl n54.1 n54.2 ?_)
         refine G_r rfl (op_load_vec1 (i := y53.2.1) (o := 0) (a := .xs (gi x6_j8 y53.2.1)) (by kernel_rfl) len_c_api_Value rfl n54.1 n54.2 rfl ?_)
         refine G_q rfl (zab (av := .xs (gi x6_j8 y53.2.1)) rfl ?_)
         refine G_nil (zaa (zaf (zaf (zag .free hmixP (by kernel_rfl) ?_))))
         refine G_q rfl (zac (av := .xs (gi x6_j8 y53.2.1)) rfl ?_)
         obtain ⟨y55, hy55, h⟩ := bnd1_some h
         refine G_q rfl (zam (m_value_Kind_ok _ _ hy55) Tryz.func63 (by kernel_rfl) (LEs.cons (AV.le_eq rfl) LEs.nil) ?_)
         refine G_q rfl (op_neq rfl rfl ?_)
         refine G_nil (zaa ?_)
         refine zaj (p := ¬ y55 = 4) rfl (fun hc => ?_) (fun hc => ?_)
         ·replace h := ite_t h hc
          refine zaf (zag .free hmixP (by kernel_rfl) ?_)
          refine G_q rfl (zac (av := .row 1 zad x1_j8) rfl ?_)
          refine G_q rfl (zab (av := .xs ([] : List UInt8)) rfl ?_)
          refine G_q rfl (zab (av := .row 1 zad x1_j8) rfl ?_)
          refine G_nil (zaa (k_ret (kC_ret ?_)))
          obtain rfl := Option.some.inj h
          refine zal (endN (af' := (AF.put (AF.put AF0 (some 4) (.xs ([] : List UInt8))) (some 5) (.row 1 zad x1_j8))) (σ' := []) _ rfl ?_ ⟨rfl, rfl⟩)
          refine Sub.trans (SubU.to SubU.drop) ?_
          exact Sub.of_le (lq rfl (lq rfl lt0))
         ·replace h := ite_f h hc
          refine k_skip (zaa (zaf ?_))
          refine awp_sub (SubU.to (SubU.freezeT2 (s1 := 6) (s2 := 102) rfl rfl len_c_api_Value)) ?_
          refine k_plan [] [(0, 0), (0, 1), (0, 2), (0, 3), (0, 4), (0, 5), (0, 6), (0, 7), (0, 8), (0, 9), (0, 10), (0, 11), (0, 12), (0, 13), (0, 14), (0, 15), (0, 16), (0, 17), (0, 18), (0, 19), (0, 20)] hmixP (by kernel_rfl) ?_
          refine P_q no34_0 rfl (zac (av := .row 1 zad x6_j8) rfl ?_)
          refine P_q no34_0 rfl (zac (av := ndA a0) rfl ?_)
          obtain ⟨y57, hy57, h⟩ := bnd1_some h
          refine P_q no34_0 rfl (zar (c := zai y57) (ndA_un hy57) ?_)
          refine P_q no34_0 rfl (zan (o := 1) (c' := (List.drop 1 (zai y57))) (by kernel_rfl) rfl rfl ?_)
          refine P_q no34_0 rfl (zap (a := .xi y57.2.1) (by kernel_rfl) rfl rfl ?_)
          obtain ⟨n58, h⟩ := need_some h
          refine P_q no34_0 rfl (op_slice_rowt (by kernel_rfl) rfl bnd_none (bnd_some rfl) (Int.le_refl 0) n58.1 n58.2 ?_)
          refine P_q no34_0 rfl (zac (av := .xs (gi x6_j8 y53.2.1)) rfl ?_)
          obtain ⟨y59, hy59, h⟩ := bnd1_some h
          refine P_q no34_0 rfl (zam (m_value_Parts_ok _ _ hy59) Tryz.func65 (by kernel_rfl) (LEs.cons (AV.le_eq rfl) LEs.nil) ?_)
          refine P_q no34_0 rfl (zac (av := .row 1 zad x6_j8) rfl ?_)
          refine P_q no34_0 rfl (zac (av := ndA a0) rfl ?_)
          obtain ⟨y60, hy60, h⟩ := bnd1_some h
          refine P_q no34_0 rfl (zar (c := zai y60) (ndA_un hy60) ?_)
          refine P_q no34_0 rfl (zan (o := 1) (c' := (List.drop 1 (zai y60))) (by kernel_rfl) rfl rfl ?_)
          refine P_q no34_0 rfl (zap (a := .xi y60.2.1) (by kernel_rfl) rfl rfl ?_)
          refine P_q no34_0 rfl (op_add rfl rfl rfl ?_)
          obtain ⟨n61, h⟩ := need_some h
          refine P_q no34_0 rfl (op_slice_rowd (by kernel_rfl) rfl (bnd_some rfl) bnd_none n61.1 n61.2 (Int.le_refl _) ?_)
          refine P_q no34_0 rfl (op_litT (n := 1) (enc := c_L_api_Value) [List.take (Int.toNat y57.2.1) x6_j8, y59, List.drop (Int.toNat (i64 (y60.2.1 + 1))) x6_j8] (CellsAll.cons rfl CellsOf.row (CellsAll.cons rfl CellsOf.row (CellsAll.cons rfl CellsOf.row CellsAll.nil))) rfl (by kernel_rfl) (LEss.cons (LEs.cons (AV.le_eq rfl) LEs.nil) (LEss.cons (LEs.cons (AV.le_eq rfl) LEs.nil) (LEss.cons (LEs.cons (AV.le_eq rfl) LEs.nil) LEss.nil))) ?_)
          obtain ⟨y62, hy62, h⟩ := bnd1_some h
          refine P_q no34_0 rfl (zam (m_slices_Concat_L_api_Value_api_Value_ok _ _ hy62) Tryz.func64 (by kernel_rfl) (LEs.cons (AV.le_eq rfl) LEs.nil) ?_)
          obtain ⟨y63, hy63, h⟩ := bnd1_some h
          refine P_q no34_0 rfl (zam (m_value_Seq_ok _ _ hy63) Tryz.func60 (by kernel_rfl) (LEs.cons (AV.le_eq rfl) LEs.nil) ?_)
          refine P_q no34_0 rfl (zac (av := .row 1 zad x1_j8) rfl ?_)
          refine P_q no34_0 rfl (zab (av := .xs y63) rfl ?_)
          refine P_q no34_0 rfl (zab (av := .row 1 zad x1_j8) rfl ?_)
          refine P_nil (zaa (k_ret ?_))
          obtain rfl := Option.some.inj h
          refine zal (endN (af' := (AF.put (AF.put AF0 (some 4) (.xs y63)) (some 5) (.row 1 zad x1_j8))) (σ' := []) _ rfl ?_ ⟨rfl, rfl⟩)
          exact Sub.of_le (lq rfl (lq rfl lt0))
set_option maxHeartbeats 4000000 in
theorem m_pattern_node_build_S_ok : ∀ n : Nat, (∀ (a0 : Nd) (a1 : List (List UInt8)) (r : (List UInt8) × (List (List UInt8))), m_pattern_node_build_S n a0 a1 = some r → Pure Tryz.prog 37 [(ndA a0), (.row 1 zad a1)] (.tup [.exact (.string (bs r.1)), .row 1 zad r.2]))
  | 0 => (fun _ _ _ h => by have h' : (none : Option _) = some _ := h; cases h')
  | n + 1 => by
    have ih := m_pattern_node_build_S_ok n
    exact fun a0 a1 r h => m_pattern_node_build_F_ok (m_pattern_node_build_S n) ih a0 a1 r h
theorem m_pattern_node_build_ok (a0 : Nd) (a1 : List (List UInt8)) (r : (List UInt8) × (List (List UInt8))) (h : m_pattern_node_build a0 a1 = some r) : Pure Tryz.prog 37 [(ndA a0), (.row 1 zad a1)] (.tup [.exact (.string (bs r.1)), .row 1 zad r.2]) := (m_pattern_node_build_S_ok FU) a0 a1 r h
set_option maxHeartbeats 4000000 in
theorem m_pattern_Build_ok (a0 : List (Int × Int × Int)) (a1 : List (List UInt8)) (r : (List UInt8) × Bool) (h : m_pattern_Build a0 a1 = some r) : Pure Tryz.prog 10 [(.row 3 zah a0), (.row 1 zad a1)] (.tup [.exact (.string (bs r.1)), .exact (.bool r.2)]) := by
 unfold m_pattern_Build at h
 refine Pure.ofFun (fun_of_awp Tryz.func10 rfl Tryz.ntmps10 (by simp) rfl (res2 rfl) fun E hE => k_end ?_)
 refine zaf (zag .free hmixP (by kernel_rfl) ?_)
 refine G_q rfl (zab (av := .xs ([] : List UInt8)) rfl ?_)
 refine G_q rfl (zab (av := .xb false) rfl ?_)
 refine G_nil (zaa (zaf (zag .free hmixP (by kernel_rfl) ?_)))
 refine G_q rfl (zac (av := .row 3 zah a0) rfl ?_)
 obtain ⟨y1, hy1, h⟩ := bnd1_some h
 refine G_q rfl (zam (m_pattern_whole_ok _ _ hy1) Tryz.func34 (by kernel_rfl) (LEs.cons (AV.le_eq rfl) LEs.nil) ?_)
 refine G_q rfl (zac (av := .tup [ndA y1.1, .xb y1.2]) rfl ?_)
 refine G_q rfl (op_extract (av := ndA y1.1) rfl rfl ?_)
 refine G_q rfl (op_extract (av := .xb y1.2) rfl rfl ?_)
 refine G_q rfl (zab (av := ndA y1.1) rfl ?_)
 refine G_q rfl (zab (av := .xb y1.2) rfl ?_)
 refine G_nil (zaa ?_)
 refine k_join1_0 h (fun (x7_j2 : Bool) => (AF.put (AF.put (AF.put (AF.put AF0 (some 0) (.row 3 zah a0)) (some 1) (.row 1 zad a1)) (some 6) (ndA y1.1)) (some 7) (.xb x7_j2))) (fun (x7_j2 : Bool) => []) (fun k2 h => ?_) (fun x7_j2 h => ?_)
 ·refine zag .free hmixP (by kernel_rfl) ?_
  refine G_q rfl (zac (av := .xb y1.2) rfl ?_)
  refine G_q rfl (zac (av := .xb y1.2) rfl ?_)
  refine G_splitB (c := y1.2) 16 rfl (fun hc => ?_) (fun hc => ?_)
  ·replace h := ite_t h hc
   refine Gy_q rfl rfl rfl (zac (av := ndA y1.1) rfl ?_)
   obtain ⟨y4, hy4, h⟩ := bnd1_some h
   refine Gy_q rfl rfl rfl (zam (m_pattern_node_all_ok _ _ _ hy4) Tryz.func35 (by kernel_rfl) (LEs.cons (AV.le_eq rfl) (LEs.cons ((fn_le Tryz.func36 (by kernel_rfl) (fun i r h => m_pattern_Build_1_ok i r h))) LEs.nil)) ?_)
   refine G_q rfl (zao rfl (av := .xb y4) rfl ?_)
   refine G_q rfl (zab (av := .xb y4) rfl ?_)
   refine G_nil ?_
   refine zae ⟨_, h, ?_⟩
   exact Sub.of_le (lq rfl (lq rfl (lq rfl (lq rfl lt0))))
  ·replace h := ite_f h hc
   refine G_n rfl rfl (G_n rfl rfl ?_)
   refine G_q rfl (zak rfl (av := .xb false) rfl ?_)
   refine G_q rfl (zab (av := .xb false) rfl ?_)
   refine G_nil ?_
   refine zae ⟨_, h, ?_⟩
   exact Sub.of_le (lq rfl (lq rfl (lq rfl (lq rfl lt0))))
 ·refine zaf ?_
  refine k_join1_0 h (fun (x28_j9 : Bool) => (AF.put (AF.put (AF.put AF0 (some 1) (.row 1 zad a1)) (some 6) (ndA y1.1)) (some 28) (.xb x28_j9))) (fun (x28_j9 : Bool) => []) (fun k9 h => ?_) (fun x28_j9 h => ?_)
  ·refine zag .free hmixP (by kernel_rfl) ?_
   refine G_q rfl (zac (av := .xb x7_j2) rfl ?_)
   refine G_q rfl (op_not rfl ?_)
   refine G_q rfl (zac (av := .xb (!x7_j2)) rfl ?_)
   refine G_splitB (c := !x7_j2) 22 rfl (fun hc => ?_) (fun hc => ?_)
   ·replace h := ite_t h hc
    refine G_n rfl rfl (G_n rfl rfl (G_n rfl rfl (G_n rfl rfl (G_n rfl rfl ?_))))
    refine G_q rfl (zao rfl (av := .xb true) rfl ?_)
    refine G_nil ?_
    refine zae ⟨_, h, ?_⟩
    exact Sub.of_le (lq rfl (lq rfl (lq rfl lt0)))
   ·replace h := ite_f h hc
    refine Gy_q rfl rfl rfl (zac (av := .row 1 zad a1) rfl ?_)
    refine Gy_q rfl rfl rfl (op_len_row (by kernel_rfl) rfl ?_)
    refine Gy_q rfl rfl rfl (zac (av := .row 3 zah a0) rfl ?_)
    obtain ⟨y11, hy11, h⟩ := bnd1_some h
    refine Gy_q rfl rfl rfl (zam (m_pattern_Vars_ok _ _ hy11) Tryz.func16 (by kernel_rfl) (LEs.cons (AV.le_eq rfl) LEs.nil) ?_)
    refine Gy_q rfl rfl rfl (op_neq rfl rfl ?_)
    refine G_q rfl (zak rfl (av := .xb (decide (¬ (List.length a1 : Int) = y11))) rfl ?_)
    refine G_nil ?_
    refine zae ⟨_, h, ?_⟩
    exact Sub.of_le (lq rfl (lq rfl (lq rfl lt0)))
  ·refine k_cond_b (c := x28_j9) rfl (fun hc => ?_) (fun hc => ?_)
   ·replace h := ite_t h hc
    refine zaf (zag .free hmixP (by kernel_rfl) ?_)
    refine G_q rfl (zab (av := .xs ([] : List UInt8)) rfl ?_)
    refine G_q rfl (zab (av := .xb false) rfl ?_)
    refine G_nil (zaa (k_ret (kC_ret ?_)))
    obtain rfl := Option.some.inj h
    refine zal (endN (af' := (AF.put (AF.put AF0 (some 4) (.xs ([] : List UInt8))) (some 5) (.xb false))) (σ' := []) _ rfl ?_ ⟨rfl, rfl⟩)
    exact Sub.of_le (lq rfl (lq rfl lt0))
   ·replace h := ite_f h hc
    refine k_skip (zaa (zaf (zag .free hmixP (by kernel_rfl) ?_)))
    refine G_q rfl (zac (av := ndA y1.1) rfl ?_)
    refine G_q rfl (zac (av := .row 1 zad a1) rfl ?_)
    obtain ⟨y12, hy12, h⟩ := bnd1_some h
    refine G_q rfl (zam (m_pattern_node_build_ok _ _ _ hy12) Tryz.func37 (by kernel_rfl) (LEs.cons (AV.le_eq rfl) (LEs.cons (AV.le_eq rfl) LEs.nil)) ?_)
    refine G_q rfl (zac (av := .tup [.xs y12.1, .row 1 zad y12.2]) rfl ?_)
    refine G_q rfl (op_extract (av := .xs y12.1) rfl rfl ?_)
    refine G_q rfl (op_extract (av := .row 1 zad y12.2) rfl rfl ?_)
    refine G_q rfl (zab (av := .xs y12.1) rfl ?_)
    refine G_q rfl (zab (av := .row 1 zad y12.2) rfl ?_)
    refine G_nil (zaa (zaf (zaf (zag .free hmixP (by kernel_rfl) ?_))))
    refine G_q rfl (zac (av := .xs y12.1) rfl ?_)
    obtain ⟨y13, hy13, h⟩ := bnd1_some h
    refine G_q rfl (zam (m_value_Valid_ok _ _ hy13) Tryz.func38 (by kernel_rfl) (LEs.cons (AV.le_eq rfl) LEs.nil) ?_)
    refine G_q rfl (op_not rfl ?_)
    refine G_nil (zaa ?_)
    refine k_cond_b (c := !y13) rfl (fun hc => ?_) (fun hc => ?_)
    ·replace h := ite_t h hc
     refine zaf (zag .free hmixP (by kernel_rfl) ?_)
     refine G_q rfl (zab (av := .xs ([] : List UInt8)) rfl ?_)
     refine G_q rfl (zab (av := .xb false) rfl ?_)
     refine G_nil (zaa (k_ret (kC_ret ?_)))
     obtain rfl := Option.some.inj h
     refine zal (endN (af' := (AF.put (AF.put AF0 (some 4) (.xs ([] : List UInt8))) (some 5) (.xb false))) (σ' := []) _ rfl ?_ ⟨rfl, rfl⟩)
     exact Sub.of_le (lq rfl (lq rfl lt0))
    ·replace h := ite_f h hc
     refine k_skip (zaa (zaf (zag .free hmixP (by kernel_rfl) ?_)))
     refine G_q rfl (zac (av := .xs y12.1) rfl ?_)
     refine G_q rfl (zab (av := .xs y12.1) rfl ?_)
     refine G_q rfl (zab (av := .xb true) rfl ?_)
     refine G_nil (zaa (k_ret ?_))
     obtain rfl := Option.some.inj h
     refine zal (endN (af' := (AF.put (AF.put AF0 (some 4) (.xs y12.1)) (some 5) (.xb true))) (σ' := []) _ rfl ?_ ⟨rfl, rfl⟩)
     exact Sub.of_le (lq rfl (lq rfl lt0))
set_option maxHeartbeats 4000000 in
theorem m_ref11_end_ok (a0 : List (Int × Int × Int)) (a1 : Int) (r : Int) (h : m_ref11_end a0 a1 = some r) : Pure Tryz.prog 67 [(.row 3 zah a0), (.exact (.int .i64 a1))] (.exact (.int .i64 r)) := by
 unfold m_ref11_end at h
 refine Pure.ofFun (fun_of_awp Tryz.func67 rfl Tryz.ntmps67 (by simp) rfl (res1 rfl) fun E hE => k_end ?_)
 refine zaf (zag .free hmixP (by kernel_rfl) ?_)
 refine G_q rfl (zab (av := .xi 0) rfl ?_)
 refine G_nil (zaa (zaf (zag .free hmixP (by kernel_rfl) ?_)))
 refine G_q rfl (zab (av := .xi 1) rfl ?_)
 refine G_nil (zaa ?_)
 refine k_join1_0 h (fun (x1_j1 : Int) => (AF.put AF0 (some 1) (.xi x1_j1))) (fun (x1_j1 : Int) => []) (fun k1 h => ?_) (fun x1_j1 h => ?_)
 ·refine k_block ?_
  refine k_loop2_0 (m_ref11_end_L2 a0 k1) (m_ref11_end_B2 a0 k1) (fun _ _ => rfl) (fun m _ _ => rfl) h (fun (x1_l2 : Int) (x5_l2 : Int) => (AF.put (AF.put (AF.put AF0 (some 0) (.row 3 zah a0)) (some 1) (.xi x1_l2)) (some 5) (.xi x5_l2))) (fun (x1_l2 : Int) (x5_l2 : Int) => []) ?_ (fun rec2 x1_l2 x5_l2 h => ?_)
  ·exact Sub.of_le (lq rfl (lq rfl (lq rfl lt0)))
  ·unfold m_ref11_end_B2 at h
   refine zaf (zaf (zag .free hmixP (by kernel_rfl) ?_))
   refine G_q rfl (zac (av := .xi x5_l2) rfl ?_)
   refine G_q rfl (op_gtr rfl rfl ?_)
   refine G_nil (zaa ?_)
   refine zaj (p := 0 < x5_l2) rfl (fun hc => ?_) (fun hc => ?_)
   ·replace h := ite_t h hc
    refine k_skip (zaa (zaf (k_block (zaf ?_))))
    refine k_join1_0 h (fun (x31_j147 : Bool) => (AF.put (AF.put (AF.put (AF.put AF0 (some 0) (.row 3 zah a0)) (some 1) (.xi x1_l2)) (some 5) (.xi x5_l2)) (some 31) (.xb x31_j147))) (fun (x31_j147 : Bool) => []) (fun k147 h => ?_) (fun x31_j147 h => ?_)
    ·refine zag .free hmixP (by kernel_rfl) ?_
     refine G_q rfl (zac (av := .xi x1_l2) rfl ?_)
     refine G_q rfl (zac (av := .row 3 zah a0) rfl ?_)
     refine G_q rfl (op_len_row (by kernel_rfl) rfl ?_)
     refine G_q rfl (op_geq rfl rfl ?_)
     refine G_q rfl (zac (av := .xb (decide ((List.length a0 : Int) ≤ x1_l2))) rfl ?_)
     refine G_split (p := (List.length a0 : Int) ≤ x1_l2) 14 rfl (fun hc => ?_) (fun hc => ?_)
     ·replace h := ite_t h hc
      refine G_n rfl rfl (G_n rfl rfl (G_n rfl rfl (G_n rfl rfl (G_n rfl rfl (G_n rfl rfl ?_)))))
      refine G_q rfl (zao rfl (av := .xb true) rfl ?_)
      refine G_q rfl (zac (av := .xb true) rfl ?_)
      refine G_n rfl rfl (G_n rfl rfl (G_n rfl rfl (G_n rfl rfl (G_n rfl rfl (G_n rfl rfl (G_n rfl rfl (G_n rfl rfl ?_)))))))
      refine G_q rfl (zao rfl (av := .xb true) rfl ?_)
      refine G_nil ?_
      refine zae ⟨_, h, ?_⟩
      exact Sub.of_le (lq rfl (lq rfl (lq rfl (lq rfl lt0))))
     ·replace h := ite_f h hc
      refine Gy_q rfl rfl rfl (zac (av := .row 3 zah a0) rfl ?_)
      refine Gy_q rfl rfl rfl (zac (av := .xi x1_l2) rfl ?_)
      obtain ⟨n150, h⟩ := need_some h
      refine Gy_q rfl rfl rfl (zaq (by kernel_rfl) rfl rfl n150.1 n150.2 ?_)
      refine Gy_q rfl rfl rfl (zan (o := 2) (c' := (List.drop 2 (zah (gi a0 x1_l2)))) (by kernel_rfl) rfl rfl ?_)
      refine Gy_q rfl rfl rfl (zap (a := .xi ((gi a0 x1_l2).2.2)) (by kernel_rfl) rfl rfl ?_)
      refine Gy_q rfl rfl rfl (op_lss rfl rfl ?_)
      refine G_q rfl (zak rfl (av := .xb (decide (((gi a0 x1_l2).2.2) < 0))) rfl ?_)
      refine G_q rfl (zac (av := .xb (decide (((gi a0 x1_l2).2.2) < 0))) rfl ?_)
      refine G_split (p := ((gi a0 x1_l2).2.2) < 0) 22 rfl (fun hc => ?_) (fun hc => ?_)
      ·replace h := ite_t h hc
       refine G_n rfl rfl (G_n rfl rfl (G_n rfl rfl (G_n rfl rfl (G_n rfl rfl (G_n rfl rfl (G_n rfl rfl (G_n rfl rfl ?_)))))))
       refine G_q rfl (zao rfl (av := .xb true) rfl ?_)
       refine G_nil ?_
       refine zae ⟨_, h, ?_⟩
       exact Sub.of_le (lq rfl (lq rfl (lq rfl (lq rfl lt0))))
      ·replace h := ite_f h hc
       refine Gy_q rfl rfl rfl (zac (av := .row 3 zah a0) rfl ?_)
       refine Gy_q rfl rfl rfl (zac (av := .xi x1_l2) rfl ?_)
       obtain ⟨n151, h⟩ := need_some h
       refine Gy_q rfl rfl rfl (zaq (by kernel_rfl) rfl rfl n151.1 n151.2 ?_)
       refine Gy_q rfl rfl rfl (zan (o := 2) (c' := (List.drop 2 (zah (gi a0 x1_l2)))) (by kernel_rfl) rfl rfl ?_)
       refine Gy_q rfl rfl rfl (zap (a := .xi ((gi a0 x1_l2).2.2)) (by kernel_rfl) rfl rfl ?_)
       refine Gy_q rfl rfl rfl (zac (av := .row 3 zah a0) rfl ?_)
       refine Gy_q rfl rfl rfl (op_len_row (by kernel_rfl) rfl ?_)
       refine Gy_q rfl rfl rfl (op_gtr rfl rfl ?_)
       refine G_q rfl (zak rfl (av := .xb (decide ((List.length a0 : Int) < ((gi a0 x1_l2).2.2)))) rfl ?_)
       refine G_nil ?_
       refine zae ⟨_, h, ?_⟩
       exact Sub.of_le (lq rfl (lq rfl (lq rfl (lq rfl lt0))))
    ·refine k_cond_b (c := x31_j147) rfl (fun hc => ?_) (fun hc => ?_)
     ·replace h := ite_t h hc
      refine zaf (zag .free hmixP (by kernel_rfl) ?_)
      refine G_q rfl (zab (av := .xi (-1)) rfl ?_)
      refine G_nil (zaa (k_ret (kC_ret (kB_ret (kC_ret (kI_ret (kB_ret (kI_ret ?_))))))))
      obtain rfl := Option.some.inj h
      refine zal (endN (af' := (AF.put AF0 (some 4) (.xi (-1)))) (σ' := []) _ rfl ?_ ⟨rfl, rfl⟩)
      exact Sub.of_le (lq rfl lt0)
     ·replace h := ite_f h hc
      refine k_skip (zaa (zag .free hmixP (by kernel_rfl) ?_))
      refine G_q rfl (zac (av := .xi x5_l2) rfl ?_)
      refine G_q rfl (zac (av := .row 3 zah a0) rfl ?_)
      refine G_q rfl (zac (av := .xi x1_l2) rfl ?_)
      obtain ⟨n152, h⟩ := need_some h
      refine G_q rfl (zaq (by kernel_rfl) rfl rfl n152.1 n152.2 ?_)
      refine G_q rfl (zan (o := 2) (c' := (List.drop 2 (zah (gi a0 x1_l2)))) (by kernel_rfl) rfl rfl ?_)
      refine G_q rfl (zap (a := .xi ((gi a0 x1_l2).2.2)) (by kernel_rfl) rfl rfl ?_)
      refine G_q rfl (op_sub rfl rfl rfl ?_)
      refine G_q rfl (op_add rfl rfl rfl ?_)
      refine G_q rfl (zab (av := .xi (i64 (x5_l2 + (i64 (((gi a0 x1_l2).2.2) - 1))))) rfl ?_)
      refine G_nil (kB_normal (zaa (zag .free hmixP (by kernel_rfl) ?_)))
      refine G_q rfl (zac (av := .xi x1_l2) rfl ?_)
      refine G_q rfl (op_add rfl rfl rfl ?_)
      refine G_q rfl (zab (av := .xi (i64 (x1_l2 + 1))) rfl ?_)
      refine G_nil ?_
      refine zae ⟨_, _, h, ?_⟩
      exact Sub.of_le (lq rfl (lq rfl (lq rfl lt0)))
   ·replace h := ite_f h hc
    refine k_exit (kC_exit (kI_exit (kB_exit ?_)))
    refine zae ⟨_, h, ?_⟩
    exact Sub.of_le (lq rfl lt0)
 ·refine zaf (zag .free hmixP (by kernel_rfl) ?_)
  refine G_q rfl (zac (av := .xi x1_j1) rfl ?_)
  refine G_q rfl (zab (av := .xi x1_j1) rfl ?_)
  refine G_nil (zaa (k_ret ?_))
  obtain rfl := Option.some.inj h
  refine zal (endN (af' := (AF.put AF0 (some 4) (.xi x1_j1))) (σ' := []) _ rfl ?_ ⟨rfl, rfl⟩)
  exact Sub.of_le (lq rfl lt0)
set_option maxHeartbeats 4000000 in
theorem m_ref11_kids_ok (a0 : List (Int × Int × Int)) (a1 : Int) (r : (List Int)) (h : m_ref11_kids a0 a1 = some r) : Pure Tryz.prog 69 [(.row 3 zah a0), (.exact (.int .i64 a1))] (.row 1 c_int r) := by
 unfold m_ref11_kids at h
 refine Pure.ofFun (fun_of_awp Tryz.func69 rfl Tryz.ntmps69 (by simp) rfl (res1 rfl) fun E hE => k_end ?_)
 refine zaf (zag .free hmixP (by kernel_rfl) ?_)
 refine G_q rfl (zab (av := .exact (.slice none 0 0)) rfl ?_)
 refine G_nil (zaa (zaf (zag .free hmixP (by kernel_rfl) ?_)))
 refine G_q rfl (zab (av := .exact (.slice none 0 0)) rfl ?_)
 refine G_nil (zaa (zaf (zag .free hmixP (by kernel_rfl) ?_)))
 refine G_q rfl (zac (av := .xi a1) rfl ?_)
 refine G_q rfl (op_add rfl rfl rfl ?_)
 refine G_q rfl (zab (av := .xi (i64 (a1 + 1))) rfl ?_)
 refine G_nil (zaa ?_)
 refine k_join1_1 h (fun (x5_j1 : List Int) (v5_j1 : Value) => (AF.put AF0 (some 5) (.exact v5_j1))) (fun (x5_j1 : List Int) (v5_j1 : Value) => [vecT Tryz.prog 22 1 c_int v5_j1 x5_j1]) (fun k1 h => ?_) (fun x5_j1 v5_j1 h => ?_)
 ·refine zaf (zag .free hmixP (by kernel_rfl) ?_)
  refine G_q rfl (zab (av := .xi 0) rfl ?_)
  refine G_nil (zaa (k_block ?_))
  refine k_loop3_1 (m_ref11_kids_L2 a0 a1 k1) (m_ref11_kids_B2 a0 a1 k1) (fun _ _ _ => rfl) (fun m _ _ _ => rfl) h (fun (x5_l2 : List Int) (x6_l2 : Int) (x7_l2 : Int) (v5_l2 : Value) => (AF.put (AF.put (AF.put (AF.put (AF.put AF0 (some 0) (.row 3 zah a0)) (some 1) (.xi a1)) (some 5) (.exact v5_l2)) (some 6) (.xi x6_l2)) (some 7) (.xi x7_l2))) (fun (x5_l2 : List Int) (x6_l2 : Int) (x7_l2 : Int) (v5_l2 : Value) => [vecT Tryz.prog 22 1 c_int v5_l2 x5_l2]) (.slice none 0 0) ?_ (fun rec2 x5_l2 x6_l2 x7_l2 v5_l2 h => ?_)
  ·refine Sub.trans (SubU.to (SubU.nilT (P := Tryz.prog) (t := 22) (n := 1) (enc := c_int))) ?_
   exact Sub.of_le (lq rfl (lq rfl (lq rfl (lq rfl (lq rfl lt0)))))
  ·unfold m_ref11_kids_B2 at h
   refine zaf (zaf (zag .free hmixP (by kernel_rfl) ?_))
   refine G_q rfl (zac (av := .xi x7_l2) rfl ?_)
   refine G_q rfl (zac (av := .row 3 zah a0) rfl ?_)
   refine G_q rfl (zac (av := .xi a1) rfl ?_)
   obtain ⟨n23, h⟩ := need_some h
   refine G_q rfl (zaq (by kernel_rfl) rfl rfl n23.1 n23.2 ?_)
   refine G_q rfl (zan (o := 2) (c' := (List.drop 2 (zah (gi a0 a1)))) (by kernel_rfl) rfl rfl ?_)
   refine G_q rfl (zap (a := .xi ((gi a0 a1).2.2)) (by kernel_rfl) rfl rfl ?_)
   refine G_q rfl (op_lss rfl rfl ?_)
   refine G_nil (zaa ?_)
   refine zaj (p := x7_l2 < ((gi a0 a1).2.2)) rfl (fun hc => ?_) (fun hc => ?_)
   ·replace h := ite_t h hc
    refine k_skip (zaa (zaf (k_block (zaf (zag .free hmixP (by kernel_rfl) ?_)))))
    refine G_q rfl (zac (av := .exact v5_l2) rfl ?_)
    refine G_q rfl (zac (av := .xi x6_l2) rfl ?_)
    refine G_q rfl (op_litT (n := 1) (enc := c_int) [x6_l2] (CellsAll.cons rfl CellsOf.int CellsAll.nil) rfl (by kernel_rfl) (LEss.cons (LEs.cons (AV.le_eq rfl) LEs.nil) LEss.nil) ?_)
    obtain ⟨n24, h⟩ := need_some h
    refine G_l rfl (op_appT (by kernel_rfl) rfl rfl oc_c_int n24 (fun v25 => ?_))
    refine G_q rfl (zab (av := .exact v25) rfl ?_)
    refine G_nil (zaa (zag .free hmixP (by kernel_rfl) ?_))
    refine G_q rfl (zac (av := .row 3 zah a0) rfl ?_)
    refine G_q rfl (zac (av := .xi x6_l2) rfl ?_)
    obtain ⟨y26, hy26, h⟩ := bnd1_some h
    refine G_q rfl (zam (m_ref11_end_ok _ _ _ hy26) Tryz.func67 (by kernel_rfl) (LEs.cons (AV.le_eq rfl) (LEs.cons (AV.le_eq rfl) LEs.nil)) ?_)
    refine G_q rfl (zab (av := .xi y26) rfl ?_)
    refine G_nil (kB_normal (zaa (zag .free hmixP (by kernel_rfl) ?_)))
    refine G_q rfl (zac (av := .xi x7_l2) rfl ?_)
    refine G_q rfl (op_add rfl rfl rfl ?_)
    refine G_q rfl (zab (av := .xi (i64 (x7_l2 + 1))) rfl ?_)
    refine G_nil ?_
    refine zae ⟨_, _, _, v25, h, ?_⟩
    exact Sub.of_le (lq rfl (lq rfl (lq rfl (lq rfl (lq rfl lt0)))))
   ·replace h := ite_f h hc
    refine k_exit (kC_exit (kI_exit (kB_exit ?_)))
    refine zae ⟨_, v5_l2, h, ?_⟩
    exact Sub.of_le (lq rfl lt0)
 ·refine zaf (zag .free hmixP (by kernel_rfl) ?_)
  refine G_q rfl (zac (av := .exact v5_j1) rfl ?_)
  refine G_q rfl (zab (av := .exact v5_j1) rfl ?_)
  refine G_nil (zaa (k_ret ?_))
  obtain rfl := Option.some.inj h
  refine zal (endN (af' := (AF.put AF0 (some 4) (.row 1 c_int x5_j1))) (σ' := []) _ rfl ?_ ⟨rfl, rfl⟩)
  refine Sub.trans (SubU.to (SubU.freezeT (s := 4) rfl len_c_int)) ?_
  exact Sub.of_le (lq rfl lt0)
end Go.Proofs.YtpfdeahcjlfijaaGreat
/- The functions compute their models, by program. -/
namespace Go.Proofs.YtpfdeahcjlfijaaGreat
open Go.RowKit
attribute [local irreducible] AV.exact AV.top AV.row AV.ptr AV.agg AV.tup AV.eptr AV.fn AV.nilq AV.nilqn opA opB opM opR Quiet Loud Reads wpG awp den Sub SubU Pure Fun vecI vecT boxI CellsAll CellsOf OneC LEs LEss
set_option maxRecDepth 100000

set_option maxHeartbeats 4000000 in
theorem m_ref11_formed_F_ok (self_ref11_formed : (List (Int × Int × Int)) → Int → Int → Option Bool) (hself_ref11_formed : ∀ (a0 : List (Int × Int × Int)) (a1 : Int) (a2 : Int) (r : Bool), self_ref11_formed a0 a1 a2 = some r → Pure Tryz.prog 68 [(.row 3 zah a0), (.exact (.int .i64 a1)), (.exact (.int .i64 a2))] (.exact (.bool r))) (a0 : List (Int × Int × Int)) (a1 : Int) (a2 : Int) (r : Bool) (h : m_ref11_formed_F self_ref11_formed a0 a1 a2 = some r) : Pure Tryz.prog 68 [(.row 3 zah a0), (.exact (.int .i64 a1)), (.exact (.int .i64 a2))] (.exact (.bool r)) := by
 unfold m_ref11_formed_F at h
 refine Pure.ofFun (fun_of_awp Tryz.func68 rfl Tryz.ntmps68 (by simp) rfl (res1 rfl) fun E hE => k_end ?_)
 refine zaf (zag .free hmixP (by kernel_rfl) ?_)
 refine G_q rfl (zab (av := .xb false) rfl ?_)
 refine G_nil (zaa (zaf (zag .free hmixP (by kernel_rfl) ?_)))
 refine G_q rfl (zac (av := .row 3 zah a0) rfl ?_)
 refine G_q rfl (zac (av := .xi a1) rfl ?_)
 obtain ⟨n1, h⟩ := need_some h
 refine G_q rfl (zaq (by kernel_rfl) rfl rfl n1.1 n1.2 ?_)
 refine G_q rfl (op_loadNp (m := 3) (c' := zah (gi a0 a1)) (by kernel_rfl) rfl rfl rfl ?_)
 refine G_l rfl (op_alloc (c := [.xi ((0, 0, 0).1), .xi ((0, 0, 0).2.1), .xi ((0, 0, 0).2.2)]) rfl (LEs.cons (AV.le_eq rfl) (LEs.cons (AV.le_eq rfl) (LEs.cons (AV.le_eq rfl) LEs.nil))) (fun b2 => ?_))
 refine G_l rfl (op_store_box (c' := [.xi ((gi a0 a1).1), .xi ((gi a0 a1).2.1), .xi ((gi a0 a1).2.2)]) (c3 := [.xi ((gi a0 a1).1), .xi ((gi a0 a1).2.1), .xi ((gi a0 a1).2.2)]) rfl rfl CellsOf.agg (LEs.cons (AV.le_eq rfl) (LEs.cons (AV.le_eq rfl) (LEs.cons (AV.le_eq rfl) LEs.nil))) (oc_c_api_Code _) (by kernel_rfl) (Nat.le_of_ble_eq_true rfl) rfl ?_)
 refine G_nil (zaa (zaf (zag .free hmixP (by kernel_rfl) ?_)))
 refine G_q rfl (op_fieldAddr (o := 1) (by kernel_rfl) rfl ?_)
 refine G_r rfl (op_load_box1 (a := .xi ((gi a0 a1).2.1)) (by kernel_rfl) rfl rfl ?_)
 refine G_q rfl (op_eql rfl rfl ?_)
 refine G_q rfl (zab (av := .xb (decide (((gi a0 a1).2.1) = 0))) rfl ?_)
 refine G_nil (zaa ?_)
 refine k_join1_0 h (fun (x8_j3 : Bool) => (AF.put (AF.put (AF.put (AF.put (AF.put AF0 (some 0) (.row 3 zah a0)) (some 1) (.xi a1)) (some 2) (.xi a2)) (some 7) (pA b2 0)) (some 8) (.xb x8_j3))) (fun (x8_j3 : Bool) => [boxI 29 b2 [.xi ((gi a0 a1).1), .xi ((gi a0 a1).2.1), .xi ((gi a0 a1).2.2)]]) (fun k3 h => ?_) (fun x8_j3 h => ?_)
 ·refine zaf (zag .free hmixP (by kernel_rfl) ?_)
  refine G_q rfl (op_fieldAddr (o := 0) (by kernel_rfl) rfl ?_)
  refine G_r rfl (op_load_box1 (a := .xi ((gi a0 a1).1)) (by kernel_rfl) rfl rfl ?_)
  refine G_nil (zaa (k_block ?_))
  refine k_join1_0 h (fun (x20_j6 : Bool) => (AF.put (AF.put (AF.put (AF.put (AF.put (AF.put (AF.put AF0 (some 0) (.row 3 zah a0)) (some 1) (.xi a1)) (some 2) (.xi a2)) (some 7) (pA b2 0)) (some 8) (.xb (decide (((gi a0 a1).2.1) = 0)))) (some 19) (.xi ((gi a0 a1).1))) (some 20) (.xb x20_j6))) (fun (x20_j6 : Bool) => [boxI 29 b2 [.xi ((gi a0 a1).1), .xi ((gi a0 a1).2.1), .xi ((gi a0 a1).2.2)]]) (fun k6 h => ?_) (fun x20_j6 h => ?_)
  ·refine zaf (zag .free hmixP (by kernel_rfl) ?_)
   refine G_q rfl (op_eql rfl rfl ?_)
   refine G_q rfl (zab (av := .xb (decide (((gi a0 a1).1) = 30))) rfl ?_)
   refine G_nil (zaa ?_)
   refine zaj (p := ((gi a0 a1).1) = 30) rfl (fun hc => ?_) (fun hc => ?_)
   ·replace h := ite_t h hc
    refine k_skip ?_
    refine zae ⟨_, h, ?_⟩
    exact Sub.of_le (lq rfl (lq rfl (lq rfl (lq rfl (lq rfl (lq rfl (lq rfl lt0)))))))
   ·replace h := ite_f h hc
    refine zag .free hmixP (by kernel_rfl) ?_
    refine G_q rfl (op_eql rfl rfl ?_)
    refine G_q rfl (zab (av := .xb (decide (((gi a0 a1).1) = 31))) rfl ?_)
    refine G_nil ?_
    refine zae ⟨_, h, ?_⟩
    exact Sub.of_le (lq rfl (lq rfl (lq rfl (lq rfl (lq rfl (lq rfl (lq rfl lt0)))))))
  ·refine k_cond_b (c := x20_j6) rfl (fun hc => ?_) (fun hc => ?_)
   ·replace h := ite_t h hc
    refine zag .free hmixP (by kernel_rfl) ?_
    refine G_q rfl (zac (av := .xb (decide (((gi a0 a1).2.1) = 0))) rfl ?_)
    refine G_q rfl (zac (av := .xb (decide (((gi a0 a1).2.1) = 0))) rfl ?_)
    refine G_split (p := ((gi a0 a1).2.1) = 0) 24 rfl (fun hc => ?_) (fun hc => ?_)
    ·replace h := ite_t h hc
     refine Gy_q rfl rfl rfl (op_fieldAddr (o := 2) (by kernel_rfl) rfl ?_)
     refine Gy_r rfl rfl rfl (op_load_box1 (a := .xi ((gi a0 a1).2.2)) (by kernel_rfl) rfl rfl ?_)
     refine Gy_q rfl rfl rfl (op_eql rfl rfl ?_)
     refine G_q rfl (zao rfl (av := .xb (decide (((gi a0 a1).2.2) = 0))) rfl ?_)
     refine G_q rfl (zab (av := .xb (decide (((gi a0 a1).2.2) = 0))) rfl ?_)
     refine G_nil (kB_normal ?_)
     refine zae ⟨_, h, ?_⟩
     exact Sub.of_le (lq rfl (lq rfl (lq rfl (lq rfl (lq rfl lt0)))))
    ·replace h := ite_f h hc
     refine G_n rfl rfl (G_n rfl rfl (G_n rfl rfl ?_))
     refine G_q rfl (zak rfl (av := .xb false) rfl ?_)
     refine G_q rfl (zab (av := .xb false) rfl ?_)
     refine G_nil (kB_normal ?_)
     refine zae ⟨_, h, ?_⟩
     exact Sub.of_le (lq rfl (lq rfl (lq rfl (lq rfl (lq rfl lt0)))))
   ·replace h := ite_f h hc
    refine zaf (zag .free hmixP (by kernel_rfl) ?_)
    refine G_q rfl (op_eql rfl rfl ?_)
    refine G_q rfl (zab (av := .xb (decide (((gi a0 a1).1) = 32))) rfl ?_)
    refine G_nil (zaa ?_)
    refine zaj (p := ((gi a0 a1).1) = 32) rfl (fun hc => ?_) (fun hc => ?_)
    ·replace h := ite_t h hc
     refine zag .free hmixP (by kernel_rfl) ?_
     refine G_q rfl (op_fieldAddr (o := 2) (by kernel_rfl) rfl ?_)
     refine G_r rfl (op_load_box1 (a := .xi ((gi a0 a1).2.2)) (by kernel_rfl) rfl rfl ?_)
     refine G_q rfl (op_eql rfl rfl ?_)
     refine G_q rfl (zab (av := .xb (decide (((gi a0 a1).2.2) = 0))) rfl ?_)
     refine G_nil (kB_normal ?_)
     refine zae ⟨_, h, ?_⟩
     exact Sub.of_le (lq rfl (lq rfl (lq rfl (lq rfl (lq rfl lt0)))))
    ·replace h := ite_f h hc
     refine zaf (zag .free hmixP (by kernel_rfl) ?_)
     refine G_q rfl (op_eql rfl rfl ?_)
     refine G_q rfl (zab (av := .xb (decide (((gi a0 a1).1) = 33))) rfl ?_)
     refine G_nil (zaa ?_)
     refine zaj (p := ((gi a0 a1).1) = 33) rfl (fun hc => ?_) (fun hc => ?_)
     ·replace h := ite_t h hc
      refine zag .free hmixP (by kernel_rfl) ?_
      refine G_q rfl (op_fieldAddr (o := 2) (by kernel_rfl) rfl ?_)
      refine G_r rfl (op_load_box1 (a := .xi ((gi a0 a1).2.2)) (by kernel_rfl) rfl rfl ?_)
      refine G_q rfl (op_eql rfl rfl ?_)
      refine G_q rfl (zac (av := .xb (decide (((gi a0 a1).2.2) = 0))) rfl ?_)
      refine G_split (p := ((gi a0 a1).2.2) = 0) 39 rfl (fun hc => ?_) (fun hc => ?_)
      ·replace h := ite_t h hc
       refine Gy_q rfl rfl rfl (op_fieldAddr (o := 1) (by kernel_rfl) rfl ?_)
       refine Gy_r rfl rfl rfl (op_load_box1 (a := .xi ((gi a0 a1).2.1)) (by kernel_rfl) rfl rfl ?_)
       refine Gy_q rfl rfl rfl (op_eql rfl rfl ?_)
       refine Gy_q rfl rfl rfl (zac (av := .xb (decide (((gi a0 a1).2.1) = 0))) rfl ?_)
       refine G_split (p := ((gi a0 a1).2.1) = 0) 43 rfl (fun hc => ?_) (fun hc => ?_)
       ·replace h := ite_t h hc
        refine G_n rfl rfl (G_n rfl rfl (G_n rfl rfl ?_))
        refine Gy_q rfl rfl rfl (zao rfl (av := .xb true) rfl ?_)
        refine G_q rfl (zao rfl (av := .xb true) rfl ?_)
        refine G_q rfl (zab (av := .xb true) rfl ?_)
        refine G_nil (kB_normal ?_)
        refine zae ⟨_, h, ?_⟩
        exact Sub.of_le (lq rfl (lq rfl (lq rfl (lq rfl (lq rfl lt0)))))
       ·replace h := ite_f h hc
        refine Gy_q rfl rfl rfl (op_fieldAddr (o := 1) (by kernel_rfl) rfl ?_)
        refine Gy_r rfl rfl rfl (op_load_box1 (a := .xi ((gi a0 a1).2.1)) (by kernel_rfl) rfl rfl ?_)
        refine Gy_q rfl rfl rfl (op_eql rfl rfl ?_)
        refine Gy_q rfl rfl rfl (zak rfl (av := .xb (decide (((gi a0 a1).2.1) = 1))) rfl ?_)
        refine G_q rfl (zao rfl (av := .xb (decide (((gi a0 a1).2.1) = 1))) rfl ?_)
        refine G_q rfl (zab (av := .xb (decide (((gi a0 a1).2.1) = 1))) rfl ?_)
        refine G_nil (kB_normal ?_)
        refine zae ⟨_, h, ?_⟩
        exact Sub.of_le (lq rfl (lq rfl (lq rfl (lq rfl (lq rfl lt0)))))
      ·replace h := ite_f h hc
       refine G_n rfl rfl (G_n rfl rfl (G_n rfl rfl (G_n rfl rfl ?_)))
       refine G_u rfl rfl ?_
       refine G_u rfl rfl ?_
       refine G_u rfl rfl ?_
       refine G_n rfl rfl ?_
       refine G_q rfl (zak rfl (av := .xb false) rfl ?_)
       refine G_q rfl (zab (av := .xb false) rfl ?_)
       refine G_nil (kB_normal ?_)
       refine zae ⟨_, h, ?_⟩
       exact Sub.of_le (lq rfl (lq rfl (lq rfl (lq rfl (lq rfl lt0)))))
     ·replace h := ite_f h hc
      refine zaf (zag .free hmixP (by kernel_rfl) ?_)
      refine G_q rfl (op_eql rfl rfl ?_)
      refine G_q rfl (zab (av := .xb (decide (((gi a0 a1).1) = 34))) rfl ?_)
      refine G_nil (zaa ?_)
      refine zaj (p := ((gi a0 a1).1) = 34) rfl (fun hc => ?_) (fun hc => ?_)
      ·replace h := ite_t h hc
       refine zag .free hmixP (by kernel_rfl) ?_
       refine G_q rfl (zac (av := .xb (decide (((gi a0 a1).2.1) = 0))) rfl ?_)
       refine G_q rfl (zac (av := .xb (decide (((gi a0 a1).2.1) = 0))) rfl ?_)
       refine G_split (p := ((gi a0 a1).2.1) = 0) 52 rfl (fun hc => ?_) (fun hc => ?_)
       ·replace h := ite_t h hc
        refine Gy_q rfl rfl rfl (op_fieldAddr (o := 2) (by kernel_rfl) rfl ?_)
        refine Gy_r rfl rfl rfl (op_load_box1 (a := .xi ((gi a0 a1).2.2)) (by kernel_rfl) rfl rfl ?_)
        refine Gy_q rfl rfl rfl (op_geq rfl rfl ?_)
        refine G_q rfl (zao rfl (av := .xb (decide (2 ≤ ((gi a0 a1).2.2)))) rfl ?_)
        refine G_q rfl (zac (av := .xb (decide (2 ≤ ((gi a0 a1).2.2)))) rfl ?_)
        refine G_split (p := 2 ≤ ((gi a0 a1).2.2)) 57 rfl (fun hc => ?_) (fun hc => ?_)
        ·replace h := ite_t h hc
         refine Gy_q rfl rfl rfl (op_fieldAddr (o := 2) (by kernel_rfl) rfl ?_)
         refine Gy_r rfl rfl rfl (op_load_box1 (a := .xi ((gi a0 a1).2.2)) (by kernel_rfl) rfl rfl ?_)
         refine Gy_q rfl rfl rfl (op_leq rfl rfl ?_)
         refine G_q rfl (zao rfl (av := .xb (decide (((gi a0 a1).2.2) ≤ 8))) rfl ?_)
         refine G_q rfl (zab (av := .xb (decide (((gi a0 a1).2.2) ≤ 8))) rfl ?_)
         refine G_nil (kB_normal ?_)
         refine zae ⟨_, h, ?_⟩
         exact Sub.of_le (lq rfl (lq rfl (lq rfl (lq rfl (lq rfl lt0)))))
        ·replace h := ite_f h hc
         refine G_n rfl rfl (G_n rfl rfl (G_n rfl rfl ?_))
         refine G_q rfl (zak rfl (av := .xb false) rfl ?_)
         refine G_q rfl (zab (av := .xb false) rfl ?_)
         refine G_nil (kB_normal ?_)
         refine zae ⟨_, h, ?_⟩
         exact Sub.of_le (lq rfl (lq rfl (lq rfl (lq rfl (lq rfl lt0)))))
       ·replace h := ite_f h hc
        refine G_n rfl rfl (G_n rfl rfl (G_n rfl rfl ?_))
        refine G_q rfl (zak rfl (av := .xb false) rfl ?_)
        refine G_q rfl (zac (av := .xb false) rfl ?_)
        refine G_n rfl rfl (G_n rfl rfl (G_n rfl rfl ?_))
        refine G_q rfl (zak rfl (av := .xb false) rfl ?_)
        refine G_q rfl (zab (av := .xb false) rfl ?_)
        refine G_nil (kB_normal ?_)
        refine zae ⟨_, h, ?_⟩
        exact Sub.of_le (lq rfl (lq rfl (lq rfl (lq rfl (lq rfl lt0)))))
      ·replace h := ite_f h hc
       refine zaf (zag .free hmixP (by kernel_rfl) ?_)
       refine G_q rfl (op_eql rfl rfl ?_)
       refine G_q rfl (zab (av := .xb (decide (((gi a0 a1).1) = 35))) rfl ?_)
       refine G_nil (zaa ?_)
       refine zaj (p := ((gi a0 a1).1) = 35) rfl (fun hc => ?_) (fun hc => ?_)
       ·replace h := ite_t h hc
        refine k_skip (kB_normal ?_)
        refine zae ⟨_, h, ?_⟩
        exact Sub.of_le (lq rfl (lq rfl (lq rfl (lq rfl (lq rfl lt0)))))
       ·replace h := ite_f h hc
        refine zaf (zag .free hmixP (by kernel_rfl) ?_)
        refine G_q rfl (op_eql rfl rfl ?_)
        refine G_q rfl (zab (av := .xb (decide (((gi a0 a1).1) = 36))) rfl ?_)
        refine G_nil (zaa ?_)
        refine zaj (p := ((gi a0 a1).1) = 36) rfl (fun hc => ?_) (fun hc => ?_)
        ·replace h := ite_t h hc
         refine zag .free hmixP (by kernel_rfl) ?_
         refine G_q rfl (op_fieldAddr (o := 1) (by kernel_rfl) rfl ?_)
         refine G_r rfl (op_load_box1 (a := .xi ((gi a0 a1).2.1)) (by kernel_rfl) rfl rfl ?_)
         refine G_q rfl (op_geq rfl rfl ?_)
         refine G_q rfl (zac (av := .xb (decide (0 ≤ ((gi a0 a1).2.1)))) rfl ?_)
         refine G_split (p := 0 ≤ ((gi a0 a1).2.1)) 69 rfl (fun hc => ?_) (fun hc => ?_)
         ·replace h := ite_t h hc
          refine Gy_q rfl rfl rfl (op_fieldAddr (o := 1) (by kernel_rfl) rfl ?_)
          refine Gy_r rfl rfl rfl (op_load_box1 (a := .xi ((gi a0 a1).2.1)) (by kernel_rfl) rfl rfl ?_)
          refine Gy_q rfl rfl rfl (op_fieldAddr (o := 2) (by kernel_rfl) rfl ?_)
          refine Gy_r rfl rfl rfl (op_load_box1 (a := .xi ((gi a0 a1).2.2)) (by kernel_rfl) rfl rfl ?_)
          refine Gy_q rfl rfl rfl (op_lss rfl rfl ?_)
          refine G_q rfl (zao rfl (av := .xb (decide (((gi a0 a1).2.1) < ((gi a0 a1).2.2)))) rfl ?_)
          refine G_q rfl (zab (av := .xb (decide (((gi a0 a1).2.1) < ((gi a0 a1).2.2)))) rfl ?_)
          refine G_nil (kB_normal ?_)
          refine zae ⟨_, h, ?_⟩
          exact Sub.of_le (lq rfl (lq rfl (lq rfl (lq rfl (lq rfl lt0)))))
         ·replace h := ite_f h hc
          refine G_n rfl rfl (G_n rfl rfl (G_n rfl rfl (G_n rfl rfl (G_n rfl rfl ?_))))
          refine G_q rfl (zak rfl (av := .xb false) rfl ?_)
          refine G_q rfl (zab (av := .xb false) rfl ?_)
          refine G_nil (kB_normal ?_)
          refine zae ⟨_, h, ?_⟩
          exact Sub.of_le (lq rfl (lq rfl (lq rfl (lq rfl (lq rfl lt0)))))
        ·replace h := ite_f h hc
         refine zaf (zag .free hmixP (by kernel_rfl) ?_)
         refine G_q rfl (op_eql rfl rfl ?_)
         refine G_q rfl (zab (av := .xb (decide (((gi a0 a1).1) = 37))) rfl ?_)
         refine G_nil (zaa ?_)
         refine zaj (p := ((gi a0 a1).1) = 37) rfl (fun hc => ?_) (fun hc => ?_)
         ·replace h := ite_t h hc
          refine zag .free hmixP (by kernel_rfl) ?_
          refine G_q rfl (zac (av := .xb (decide (((gi a0 a1).2.1) = 0))) rfl ?_)
          refine G_q rfl (zac (av := .xb (decide (((gi a0 a1).2.1) = 0))) rfl ?_)
          refine G_split (p := ((gi a0 a1).2.1) = 0) 79 rfl (fun hc => ?_) (fun hc => ?_)
          ·replace h := ite_t h hc
           refine Gy_q rfl rfl rfl (op_fieldAddr (o := 2) (by kernel_rfl) rfl ?_)
           refine Gy_r rfl rfl rfl (op_load_box1 (a := .xi ((gi a0 a1).2.2)) (by kernel_rfl) rfl rfl ?_)
           refine Gy_q rfl rfl rfl (op_leq rfl rfl ?_)
           refine G_q rfl (zao rfl (av := .xb (decide (((gi a0 a1).2.2) ≤ 1))) rfl ?_)
           refine G_q rfl (zab (av := .xb (decide (((gi a0 a1).2.2) ≤ 1))) rfl ?_)
           refine G_nil (kB_normal ?_)
           refine zae ⟨_, h, ?_⟩
           exact Sub.of_le (lq rfl (lq rfl (lq rfl (lq rfl (lq rfl lt0)))))
          ·replace h := ite_f h hc
           refine G_n rfl rfl (G_n rfl rfl (G_n rfl rfl ?_))
           refine G_q rfl (zak rfl (av := .xb false) rfl ?_)
           refine G_q rfl (zab (av := .xb false) rfl ?_)
           refine G_nil (kB_normal ?_)
           refine zae ⟨_, h, ?_⟩
           exact Sub.of_le (lq rfl (lq rfl (lq rfl (lq rfl (lq rfl lt0)))))
         ·replace h := ite_f h hc
          refine zaf (zag .free hmixP (by kernel_rfl) ?_)
          refine G_q rfl (op_eql rfl rfl ?_)
          refine G_q rfl (zab (av := .xb (decide (((gi a0 a1).1) = 38))) rfl ?_)
          refine G_nil (zaa ?_)
          refine zaj (p := ((gi a0 a1).1) = 38) rfl (fun hc => ?_) (fun hc => ?_)
          ·replace h := ite_t h hc
           refine zag .free hmixP (by kernel_rfl) ?_
           refine G_q rfl (zab (av := .xb true) rfl ?_)
           refine G_nil (kB_normal ?_)
           refine zae ⟨_, h, ?_⟩
           exact Sub.of_le (lq rfl (lq rfl (lq rfl (lq rfl (lq rfl lt0)))))
          ·replace h := ite_f h hc
           refine k_join1_0 h (fun (x86_j7 : Bool) => (AF.put (AF.put (AF.put (AF.put (AF.put (AF.put AF0 (some 0) (.row 3 zah a0)) (some 1) (.xi a1)) (some 2) (.xi a2)) (some 7) (pA b2 0)) (some 8) (.xb (decide (((gi a0 a1).2.1) = 0)))) (some 86) (.xb x86_j7))) (fun (x86_j7 : Bool) => [boxI 29 b2 [.xi ((gi a0 a1).1), .xi ((gi a0 a1).2.1), .xi ((gi a0 a1).2.2)]]) (fun k7 h => ?_) (fun x86_j7 h => ?_)
           ·refine zaf (zag .free hmixP (by kernel_rfl) ?_)
            refine G_q rfl (op_eql rfl rfl ?_)
            refine G_q rfl (zab (av := .xb (decide (((gi a0 a1).1) = 39))) rfl ?_)
            refine G_nil (zaa ?_)
            refine zaj (p := ((gi a0 a1).1) = 39) rfl (fun hc => ?_) (fun hc => ?_)
            ·replace h := ite_t h hc
             refine k_skip ?_
             refine zae ⟨_, h, ?_⟩
             exact Sub.of_le (lq rfl (lq rfl (lq rfl (lq rfl (lq rfl (lq rfl lt0))))))
            ·replace h := ite_f h hc
             refine zag .free hmixP (by kernel_rfl) ?_
             refine G_q rfl (op_eql rfl rfl ?_)
             refine G_q rfl (zab (av := .xb (decide (((gi a0 a1).1) = 40))) rfl ?_)
             refine G_nil ?_
             refine zae ⟨_, h, ?_⟩
             exact Sub.of_le (lq rfl (lq rfl (lq rfl (lq rfl (lq rfl (lq rfl lt0))))))
           ·refine k_cond_b (c := x86_j7) rfl (fun hc => ?_) (fun hc => ?_)
            ·replace h := ite_t h hc
             refine zag .free hmixP (by kernel_rfl) ?_
             refine G_q rfl (zac (av := .xb (decide (((gi a0 a1).2.1) = 0))) rfl ?_)
             refine G_q rfl (zac (av := .xb (decide (((gi a0 a1).2.1) = 0))) rfl ?_)
             refine G_split (p := ((gi a0 a1).2.1) = 0) 90 rfl (fun hc => ?_) (fun hc => ?_)
             ·replace h := ite_t h hc
              refine Gy_q rfl rfl rfl (op_fieldAddr (o := 2) (by kernel_rfl) rfl ?_)
              refine Gy_r rfl rfl rfl (op_load_box1 (a := .xi ((gi a0 a1).2.2)) (by kernel_rfl) rfl rfl ?_)
              refine Gy_q rfl rfl rfl (op_eql rfl rfl ?_)
              refine G_q rfl (zao rfl (av := .xb (decide (((gi a0 a1).2.2) = 2))) rfl ?_)
              refine G_q rfl (zab (av := .xb (decide (((gi a0 a1).2.2) = 2))) rfl ?_)
              refine G_nil (kB_normal ?_)
              refine zae ⟨_, h, ?_⟩
              exact Sub.of_le (lq rfl (lq rfl (lq rfl (lq rfl (lq rfl lt0)))))
             ·replace h := ite_f h hc
              refine G_n rfl rfl (G_n rfl rfl (G_n rfl rfl ?_))
              refine G_q rfl (zak rfl (av := .xb false) rfl ?_)
              refine G_q rfl (zab (av := .xb false) rfl ?_)
              refine G_nil (kB_normal ?_)
              refine zae ⟨_, h, ?_⟩
              exact Sub.of_le (lq rfl (lq rfl (lq rfl (lq rfl (lq rfl lt0)))))
            ·replace h := ite_f h hc
             refine zaf (zag .free hmixP (by kernel_rfl) ?_)
             refine G_q rfl (zab (av := .xb false) rfl ?_)
             refine G_nil (zaa (k_ret (kB_ret (kI_ret ?_))))
             obtain rfl := Option.some.inj h
             refine zal (endN (af' := (AF.put AF0 (some 6) (.xb false))) (σ' := []) _ rfl ?_ ⟨rfl, rfl⟩)
             refine Sub.trans (SubU.to SubU.drop) ?_
             exact Sub.of_le (lq rfl lt0)
 ·refine zaf ?_
  refine k_join1_0 h (fun (x100_j10 : Bool) => (AF.put (AF.put (AF.put (AF.put (AF.put AF0 (some 0) (.row 3 zah a0)) (some 1) (.xi a1)) (some 2) (.xi a2)) (some 7) (pA b2 0)) (some 100) (.xb x100_j10))) (fun (x100_j10 : Bool) => [boxI 29 b2 [.xi ((gi a0 a1).1), .xi ((gi a0 a1).2.1), .xi ((gi a0 a1).2.2)]]) (fun k10 h => ?_) (fun x100_j10 h => ?_)
  ·refine zag .free hmixP (by kernel_rfl) ?_
   refine G_q rfl (zac (av := .xb x8_j3) rfl ?_)
   refine G_q rfl (op_not rfl ?_)
   refine G_q rfl (zac (av := .xb (!x8_j3)) rfl ?_)
   refine G_splitB (c := !x8_j3) 97 rfl (fun hc => ?_) (fun hc => ?_)
   ·replace h := ite_t h hc
    refine G_n rfl rfl (G_n rfl rfl ?_)
    refine G_q rfl (zao rfl (av := .xb true) rfl ?_)
    refine G_nil ?_
    refine zae ⟨_, h, ?_⟩
    exact Sub.of_le (lq rfl (lq rfl (lq rfl (lq rfl (lq rfl lt0)))))
   ·replace h := ite_f h hc
    refine Gy_q rfl rfl rfl (zac (av := .xi a2) rfl ?_)
    refine Gy_q rfl rfl rfl (op_gtr rfl rfl ?_)
    refine G_q rfl (zak rfl (av := .xb (decide (64 < a2))) rfl ?_)
    refine G_nil ?_
    refine zae ⟨_, h, ?_⟩
    exact Sub.of_le (lq rfl (lq rfl (lq rfl (lq rfl (lq rfl lt0)))))
  ·refine k_cond_b (c := x100_j10) rfl (fun hc => ?_) (fun hc => ?_)
   ·replace h := ite_t h hc
    refine zaf (zag .free hmixP (by kernel_rfl) ?_)
    refine G_q rfl (zab (av := .xb false) rfl ?_)
    refine G_nil (zaa (k_ret (kC_ret ?_)))
    obtain rfl := Option.some.inj h
    refine zal (endN (af' := (AF.put AF0 (some 6) (.xb false))) (σ' := []) _ rfl ?_ ⟨rfl, rfl⟩)
    refine Sub.trans (SubU.to SubU.drop) ?_
    exact Sub.of_le (lq rfl lt0)
   ·replace h := ite_f h hc
    refine k_skip (zaa (zaf (zag .free hmixP (by kernel_rfl) ?_)))
    refine G_q rfl (zac (av := .row 3 zah a0) rfl ?_)
    refine G_q rfl (zac (av := .xi a1) rfl ?_)
    obtain ⟨y11, hy11, h⟩ := bnd1_some h
    refine G_q rfl (zam (m_ref11_kids_ok _ _ _ hy11) Tryz.func69 (by kernel_rfl) (LEs.cons (AV.le_eq rfl) (LEs.cons (AV.le_eq rfl) LEs.nil)) ?_)
    refine G_q rfl (zab (av := .row 1 c_int y11) rfl ?_)
    refine G_nil (zaa ?_)
    refine k_join0_0 h (AF0) ([]) (fun k12 h => ?_) (fun  h => ?_)
    ·refine zaf (zag .free hmixP (by kernel_rfl) ?_)
     refine G_q rfl (zab (av := .xi 0) rfl ?_)
     refine G_nil (zaa (k_block ?_))
     refine k_loop1_0 (m_ref11_formed_L2 self_ref11_formed a0 a1 a2 y11 k12) (m_ref11_formed_B2 self_ref11_formed a0 a1 a2 y11 k12) (fun _ => rfl) (fun m _ => rfl) h (fun (x10_l2 : Int) => (AF.put (AF.put (AF.put (AF.put (AF.put AF0 (some 0) (.row 3 zah a0)) (some 2) (.xi a2)) (some 7) (pA b2 0)) (some 9) (.row 1 c_int y11)) (some 10) (.xi x10_l2))) (fun (x10_l2 : Int) => [boxI 29 b2 [.xi ((gi a0 a1).1), .xi ((gi a0 a1).2.1), .xi ((gi a0 a1).2.2)]]) ?_ (fun rec2 x10_l2 h => ?_)
     ·exact Sub.of_le (lq rfl (lq rfl (lq rfl (lq rfl (lq rfl lt0)))))
     ·unfold m_ref11_formed_B2 at h
      refine zaf (zaf (zag .free hmixP (by kernel_rfl) ?_))
      refine G_q rfl (zac (av := .xi x10_l2) rfl ?_)
      refine G_q rfl (zac (av := .row 1 c_int y11) rfl ?_)
      refine G_q rfl (op_len_row (by kernel_rfl) rfl ?_)
      refine G_q rfl (op_lss rfl rfl ?_)
      refine G_nil (zaa ?_)
      refine zaj (p := x10_l2 < (List.length y11 : Int)) rfl (fun hc => ?_) (fun hc => ?_)
      ·replace h := ite_t h hc
       refine k_skip (zaa (zaf (k_block ?_)))
       refine k_join1_0 h (fun (x151_j295 : Bool) => (AF.put (AF.put (AF.put (AF.put (AF.put (AF.put AF0 (some 0) (.row 3 zah a0)) (some 2) (.xi a2)) (some 7) (pA b2 0)) (some 9) (.row 1 c_int y11)) (some 10) (.xi x10_l2)) (some 151) (.xb x151_j295))) (fun (x151_j295 : Bool) => [boxI 29 b2 [.xi ((gi a0 a1).1), .xi ((gi a0 a1).2.1), .xi ((gi a0 a1).2.2)]]) (fun k295 h => ?_) (fun x151_j295 h => ?_)
       ·refine zag .free hmixP (by kernel_rfl) ?_
        refine G_q rfl (op_fieldAddr (o := 0) (by kernel_rfl) rfl ?_)
        refine G_r rfl (op_load_box1 (a := .xi ((gi a0 a1).1)) (by kernel_rfl) rfl rfl ?_)
        refine G_q rfl (op_eql rfl rfl ?_)
        refine G_q rfl (zac (av := .xb (decide (((gi a0 a1).1) = 36))) rfl ?_)
        refine G_split (p := ((gi a0 a1).1) = 36) 113 rfl (fun hc => ?_) (fun hc => ?_)
        ·replace h := ite_t h hc
         refine Gy_q rfl rfl rfl (zac (av := .xi x10_l2) rfl ?_)
         refine Gy_q rfl rfl rfl (op_fieldAddr (o := 1) (by kernel_rfl) rfl ?_)
         refine Gy_r rfl rfl rfl (op_load_box1 (a := .xi ((gi a0 a1).2.1)) (by kernel_rfl) rfl rfl ?_)
         refine Gy_q rfl rfl rfl (op_eql rfl rfl ?_)
         refine G_q rfl (zao rfl (av := .xb (decide (x10_l2 = ((gi a0 a1).2.1)))) rfl ?_)
         refine G_q rfl (zac (av := .xb (decide (x10_l2 = ((gi a0 a1).2.1)))) rfl ?_)
         refine G_split (p := x10_l2 = ((gi a0 a1).2.1)) 119 rfl (fun hc => ?_) (fun hc => ?_)
         ·replace h := ite_t h hc
          refine Gy_q rfl rfl rfl (zac (av := .row 3 zah a0) rfl ?_)
          refine Gy_q rfl rfl rfl (zac (av := .row 1 c_int y11) rfl ?_)
          refine Gy_q rfl rfl rfl (zac (av := .xi x10_l2) rfl ?_)
          obtain ⟨n308, h⟩ := need_some h
          refine Gy_q rfl rfl rfl (zaq (by kernel_rfl) rfl rfl n308.1 n308.2 ?_)
          refine Gy_q rfl rfl rfl (zap (a := .xi (gi y11 x10_l2)) (by kernel_rfl) rfl rfl ?_)
          obtain ⟨n309, h⟩ := need_some h
          refine Gy_q rfl rfl rfl (zaq (by kernel_rfl) rfl rfl n309.1 n309.2 ?_)
          refine Gy_q rfl rfl rfl (zan (o := 0) (c' := (List.drop 0 (zah (gi a0 (gi y11 x10_l2))))) (by kernel_rfl) rfl rfl ?_)
          refine Gy_q rfl rfl rfl (zap (a := .xi ((gi a0 (gi y11 x10_l2)).1)) (by kernel_rfl) rfl rfl ?_)
          refine Gy_q rfl rfl rfl (op_neq rfl rfl ?_)
          refine G_q rfl (zao rfl (av := .xb (decide (¬ ((gi a0 (gi y11 x10_l2)).1) = 30))) rfl ?_)
          refine G_q rfl (zac (av := .xb (decide (¬ ((gi a0 (gi y11 x10_l2)).1) = 30))) rfl ?_)
          refine G_split (p := ¬ ((gi a0 (gi y11 x10_l2)).1) = 30) 130 rfl (fun hc => ?_) (fun hc => ?_)
          ·replace h := ite_t h hc
           refine Gy_q rfl rfl rfl (zac (av := .row 3 zah a0) rfl ?_)
           refine Gy_q rfl rfl rfl (zac (av := .row 1 c_int y11) rfl ?_)
           refine Gy_q rfl rfl rfl (zac (av := .xi x10_l2) rfl ?_)
           obtain ⟨n310, h⟩ := need_some h
           refine Gy_q rfl rfl rfl (zaq (by kernel_rfl) rfl rfl n310.1 n310.2 ?_)
           refine Gy_q rfl rfl rfl (zap (a := .xi (gi y11 x10_l2)) (by kernel_rfl) rfl rfl ?_)
           obtain ⟨n311, h⟩ := need_some h
           refine Gy_q rfl rfl rfl (zaq (by kernel_rfl) rfl rfl n311.1 n311.2 ?_)
           refine Gy_q rfl rfl rfl (zan (o := 0) (c' := (List.drop 0 (zah (gi a0 (gi y11 x10_l2))))) (by kernel_rfl) rfl rfl ?_)
           refine Gy_q rfl rfl rfl (zap (a := .xi ((gi a0 (gi y11 x10_l2)).1)) (by kernel_rfl) rfl rfl ?_)
           refine Gy_q rfl rfl rfl (op_neq rfl rfl ?_)
           refine G_q rfl (zao rfl (av := .xb (decide (¬ ((gi a0 (gi y11 x10_l2)).1) = 31))) rfl ?_)
           refine G_q rfl (zac (av := .xb (decide (¬ ((gi a0 (gi y11 x10_l2)).1) = 31))) rfl ?_)
           refine G_split (p := ¬ ((gi a0 (gi y11 x10_l2)).1) = 31) 141 rfl (fun hc => ?_) (fun hc => ?_)
           ·replace h := ite_t h hc
            refine G_n rfl rfl (G_n rfl rfl (G_n rfl rfl (G_n rfl rfl (G_n rfl rfl (G_n rfl rfl (G_n rfl rfl (G_n rfl rfl (G_n rfl rfl ?_))))))))
            refine G_q rfl (zao rfl (av := .xb true) rfl ?_)
            refine G_nil ?_
            refine zae ⟨_, h, ?_⟩
            exact Sub.of_le (lq rfl (lq rfl (lq rfl (lq rfl (lq rfl (lq rfl lt0))))))
           ·replace h := ite_f h hc
            refine Gy_q rfl rfl rfl (zac (av := .row 3 zah a0) rfl ?_)
            refine Gy_q rfl rfl rfl (zac (av := .row 1 c_int y11) rfl ?_)
            refine Gy_q rfl rfl rfl (zac (av := .xi x10_l2) rfl ?_)
            obtain ⟨n312, h⟩ := need_some h
            refine Gy_q rfl rfl rfl (zaq (by kernel_rfl) rfl rfl n312.1 n312.2 ?_)
            refine Gy_q rfl rfl rfl (zap (a := .xi (gi y11 x10_l2)) (by kernel_rfl) rfl rfl ?_)
            refine Gy_q rfl rfl rfl (zac (av := .xi a2) rfl ?_)
            refine Gy_q rfl rfl rfl (op_add rfl rfl rfl ?_)
            obtain ⟨y313, hy313, h⟩ := bnd1_some h
            refine Gy_q rfl rfl rfl (zam (hself_ref11_formed _ _ _ _ hy313) Tryz.func68 (by kernel_rfl) (LEs.cons (AV.le_eq rfl) (LEs.cons (AV.le_eq rfl) (LEs.cons (AV.le_eq rfl) LEs.nil))) ?_)
            refine Gy_q rfl rfl rfl (op_not rfl ?_)
            refine G_q rfl (zak rfl (av := .xb (!y313)) rfl ?_)
            refine G_nil ?_
            refine zae ⟨_, h, ?_⟩
            exact Sub.of_le (lq rfl (lq rfl (lq rfl (lq rfl (lq rfl (lq rfl lt0))))))
          ·replace h := ite_f h hc
           refine G_n rfl rfl (G_n rfl rfl (G_n rfl rfl (G_n rfl rfl (G_n rfl rfl (G_n rfl rfl (G_n rfl rfl (G_n rfl rfl (G_n rfl rfl ?_))))))))
           refine G_q rfl (zak rfl (av := .xb false) rfl ?_)
           refine G_q rfl (zac (av := .xb false) rfl ?_)
           refine Gy_q rfl rfl rfl (zac (av := .row 3 zah a0) rfl ?_)
           refine Gy_q rfl rfl rfl (zac (av := .row 1 c_int y11) rfl ?_)
           refine Gy_q rfl rfl rfl (zac (av := .xi x10_l2) rfl ?_)
           obtain ⟨n314, h⟩ := need_some h
           refine Gy_q rfl rfl rfl (zaq (by kernel_rfl) rfl rfl n314.1 n314.2 ?_)
           refine Gy_q rfl rfl rfl (zap (a := .xi (gi y11 x10_l2)) (by kernel_rfl) rfl rfl ?_)
           refine Gy_q rfl rfl rfl (zac (av := .xi a2) rfl ?_)
           refine Gy_q rfl rfl rfl (op_add rfl rfl rfl ?_)
           obtain ⟨y315, hy315, h⟩ := bnd1_some h
           refine Gy_q rfl rfl rfl (zam (hself_ref11_formed _ _ _ _ hy315) Tryz.func68 (by kernel_rfl) (LEs.cons (AV.le_eq rfl) (LEs.cons (AV.le_eq rfl) (LEs.cons (AV.le_eq rfl) LEs.nil))) ?_)
           refine Gy_q rfl rfl rfl (op_not rfl ?_)
           refine G_q rfl (zak rfl (av := .xb (!y315)) rfl ?_)
           refine G_nil ?_
           refine zae ⟨_, h, ?_⟩
           exact Sub.of_le (lq rfl (lq rfl (lq rfl (lq rfl (lq rfl (lq rfl lt0))))))
         ·replace h := ite_f h hc
          refine G_n rfl rfl (G_n rfl rfl (G_n rfl rfl (G_n rfl rfl (G_n rfl rfl (G_n rfl rfl (G_n rfl rfl (G_n rfl rfl (G_n rfl rfl ?_))))))))
          refine G_q rfl (zak rfl (av := .xb false) rfl ?_)
          refine G_q rfl (zac (av := .xb false) rfl ?_)
          refine G_n rfl rfl (G_n rfl rfl (G_n rfl rfl (G_n rfl rfl (G_n rfl rfl (G_n rfl rfl (G_n rfl rfl (G_n rfl rfl (G_n rfl rfl ?_))))))))
          refine G_q rfl (zak rfl (av := .xb false) rfl ?_)
          refine G_q rfl (zac (av := .xb false) rfl ?_)
          refine Gy_q rfl rfl rfl (zac (av := .row 3 zah a0) rfl ?_)
          refine Gy_q rfl rfl rfl (zac (av := .row 1 c_int y11) rfl ?_)
          refine Gy_q rfl rfl rfl (zac (av := .xi x10_l2) rfl ?_)
          obtain ⟨n316, h⟩ := need_some h
          refine Gy_q rfl rfl rfl (zaq (by kernel_rfl) rfl rfl n316.1 n316.2 ?_)
          refine Gy_q rfl rfl rfl (zap (a := .xi (gi y11 x10_l2)) (by kernel_rfl) rfl rfl ?_)
          refine Gy_q rfl rfl rfl (zac (av := .xi a2) rfl ?_)
          refine Gy_q rfl rfl rfl (op_add rfl rfl rfl ?_)
          obtain ⟨y317, hy317, h⟩ := bnd1_some h
          refine Gy_q rfl rfl rfl (zam (hself_ref11_formed _ _ _ _ hy317) Tryz.func68 (by kernel_rfl) (LEs.cons (AV.le_eq rfl) (LEs.cons (AV.le_eq rfl) (LEs.cons (AV.le_eq rfl) LEs.nil))) ?_)
          refine Gy_q rfl rfl rfl (op_not rfl ?_)
          refine G_q rfl (zak rfl (av := .xb (!y317)) rfl ?_)
          refine G_nil ?_
          refine zae ⟨_, h, ?_⟩
          exact Sub.of_le (lq rfl (lq rfl (lq rfl (lq rfl (lq rfl (lq rfl lt0))))))
        ·replace h := ite_f h hc
         refine G_n rfl rfl (G_n rfl rfl (G_n rfl rfl (G_n rfl rfl ?_)))
         refine G_q rfl (zak rfl (av := .xb false) rfl ?_)
         refine G_q rfl (zac (av := .xb false) rfl ?_)
         refine G_n rfl rfl (G_n rfl rfl (G_n rfl rfl (G_n rfl rfl (G_n rfl rfl (G_n rfl rfl (G_n rfl rfl (G_n rfl rfl (G_n rfl rfl ?_))))))))
         refine G_q rfl (zak rfl (av := .xb false) rfl ?_)
         refine G_q rfl (zac (av := .xb false) rfl ?_)
         refine G_n rfl rfl (G_n rfl rfl (G_n rfl rfl (G_n rfl rfl (G_n rfl rfl (G_n rfl rfl (G_n rfl rfl (G_n rfl rfl (G_n rfl rfl ?_))))))))
         refine G_q rfl (zak rfl (av := .xb false) rfl ?_)
         refine G_q rfl (zac (av := .xb false) rfl ?_)
         refine Gy_q rfl rfl rfl (zac (av := .row 3 zah a0) rfl ?_)
         refine Gy_q rfl rfl rfl (zac (av := .row 1 c_int y11) rfl ?_)
         refine Gy_q rfl rfl rfl (zac (av := .xi x10_l2) rfl ?_)
         obtain ⟨n318, h⟩ := need_some h
         refine Gy_q rfl rfl rfl (zaq (by kernel_rfl) rfl rfl n318.1 n318.2 ?_)
         refine Gy_q rfl rfl rfl (zap (a := .xi (gi y11 x10_l2)) (by kernel_rfl) rfl rfl ?_)
         refine Gy_q rfl rfl rfl (zac (av := .xi a2) rfl ?_)
         refine Gy_q rfl rfl rfl (op_add rfl rfl rfl ?_)
         obtain ⟨y319, hy319, h⟩ := bnd1_some h
         refine Gy_q rfl rfl rfl (zam (hself_ref11_formed _ _ _ _ hy319) Tryz.func68 (by kernel_rfl) (LEs.cons (AV.le_eq rfl) (LEs.cons (AV.le_eq rfl) (LEs.cons (AV.le_eq rfl) LEs.nil))) ?_)
         refine Gy_q rfl rfl rfl (op_not rfl ?_)
         refine G_q rfl (zak rfl (av := .xb (!y319)) rfl ?_)
         refine G_nil ?_
         refine zae ⟨_, h, ?_⟩
         exact Sub.of_le (lq rfl (lq rfl (lq rfl (lq rfl (lq rfl (lq rfl lt0))))))
       ·refine k_cond_b (c := x151_j295) rfl (fun hc => ?_) (fun hc => ?_)
        ·replace h := ite_t h hc
         refine zaf (zag .free hmixP (by kernel_rfl) ?_)
         refine G_q rfl (zab (av := .xb false) rfl ?_)
         refine G_nil (zaa (k_ret (kB_ret (kC_ret (kI_ret (kB_ret (kI_ret ?_)))))))
         obtain rfl := Option.some.inj h
         refine zal (endN (af' := (AF.put AF0 (some 6) (.xb false))) (σ' := []) _ rfl ?_ ⟨rfl, rfl⟩)
         refine Sub.trans (SubU.to SubU.drop) ?_
         exact Sub.of_le (lq rfl lt0)
        ·replace h := ite_f h hc
         refine k_skip (kB_normal (zaa (zag .free hmixP (by kernel_rfl) ?_)))
         refine G_q rfl (zac (av := .xi x10_l2) rfl ?_)
         refine G_q rfl (op_add rfl rfl rfl ?_)
         refine G_q rfl (zab (av := .xi (i64 (x10_l2 + 1))) rfl ?_)
         refine G_nil ?_
         refine zae ⟨_, h, ?_⟩
         exact Sub.of_le (lq rfl (lq rfl (lq rfl (lq rfl (lq rfl lt0)))))
      ·replace h := ite_f h hc
       refine k_exit (kC_exit (kI_exit (kB_exit ?_)))
       refine zae ⟨h, ?_⟩
       refine Sub.trans (SubU.to SubU.drop) ?_
       exact Sub.of_le lt0
    ·refine zaf (zag .free hmixP (by kernel_rfl) ?_)
     refine G_q rfl (zab (av := .xb true) rfl ?_)
     refine G_nil (zaa (k_ret ?_))
     obtain rfl := Option.some.inj h
     refine zal (endN (af' := (AF.put AF0 (some 6) (.xb true))) (σ' := []) _ rfl ?_ ⟨rfl, rfl⟩)
     exact Sub.of_le (lq rfl lt0)
set_option maxHeartbeats 4000000 in
theorem m_ref11_formed_S_ok : ∀ n : Nat, (∀ (a0 : List (Int × Int × Int)) (a1 : Int) (a2 : Int) (r : Bool), m_ref11_formed_S n a0 a1 a2 = some r → Pure Tryz.prog 68 [(.row 3 zah a0), (.exact (.int .i64 a1)), (.exact (.int .i64 a2))] (.exact (.bool r)))
  | 0 => (fun _ _ _ _ h => by have h' : (none : Option _) = some _ := h; cases h')
  | n + 1 => by
    have ih := m_ref11_formed_S_ok n
    exact fun a0 a1 a2 r h => m_ref11_formed_F_ok (m_ref11_formed_S n) ih a0 a1 a2 r h
theorem m_ref11_formed_ok (a0 : List (Int × Int × Int)) (a1 : Int) (a2 : Int) (r : Bool) (h : m_ref11_formed a0 a1 a2 = some r) : Pure Tryz.prog 68 [(.row 3 zah a0), (.exact (.int .i64 a1)), (.exact (.int .i64 a2))] (.exact (.bool r)) := (m_ref11_formed_S_ok FU) a0 a1 a2 r h
set_option maxHeartbeats 4000000 in
theorem m_ref11_Pattern_ok (a0 : List (Int × Int × Int)) (r : Bool) (h : m_ref11_Pattern a0 = some r) : Pure Tryz.prog 39 [(.row 3 zah a0)] (.exact (.bool r)) := by
 unfold m_ref11_Pattern at h
 refine Pure.ofFun (fun_of_awp Tryz.func39 rfl Tryz.ntmps39 (by simp) rfl (res1 rfl) fun E hE => k_end ?_)
 refine zaf (zag .free hmixP (by kernel_rfl) ?_)
 refine G_q rfl (zab (av := .xb false) rfl ?_)
 refine G_nil (zaa ?_)
 refine k_join1_0 h (fun (x2_j1 : Bool) => (AF.put AF0 (some 2) (.xb x2_j1))) (fun (x2_j1 : Bool) => []) (fun k1 h => ?_) (fun x2_j1 h => ?_)
 ·refine zag .free hmixP (by kernel_rfl) ?_
  refine G_q rfl (zac (av := .row 3 zah a0) rfl ?_)
  refine G_q rfl (op_len_row (by kernel_rfl) rfl ?_)
  refine G_q rfl (op_gtr rfl rfl ?_)
  refine G_q rfl (zac (av := .xb (decide (0 < (List.length a0 : Int)))) rfl ?_)
  refine G_split (p := 0 < (List.length a0 : Int)) 6 rfl (fun hc => ?_) (fun hc => ?_)
  ·replace h := ite_t h hc
   refine Gy_q rfl rfl rfl (zac (av := .row 3 zah a0) rfl ?_)
   refine Gy_q rfl rfl rfl (op_len_row (by kernel_rfl) rfl ?_)
   refine Gy_q rfl rfl rfl (op_leq rfl rfl ?_)
   refine G_q rfl (zao rfl (av := .xb (decide ((List.length a0 : Int) ≤ 8192))) rfl ?_)
   refine G_q rfl (zac (av := .xb (decide ((List.length a0 : Int) ≤ 8192))) rfl ?_)
   refine G_split (p := (List.length a0 : Int) ≤ 8192) 11 rfl (fun hc => ?_) (fun hc => ?_)
   ·replace h := ite_t h hc
    refine Gy_q rfl rfl rfl (zac (av := .row 3 zah a0) rfl ?_)
    obtain ⟨y4, hy4, h⟩ := bnd1_some h
    refine Gy_q rfl rfl rfl (zam (m_ref11_end_ok _ _ _ hy4) Tryz.func67 (by kernel_rfl) (LEs.cons (AV.le_eq rfl) (LEs.cons (AV.le_eq rfl) LEs.nil)) ?_)
    refine Gy_q rfl rfl rfl (zac (av := .row 3 zah a0) rfl ?_)
    refine Gy_q rfl rfl rfl (op_len_row (by kernel_rfl) rfl ?_)
    refine Gy_q rfl rfl rfl (op_eql rfl rfl ?_)
    refine G_q rfl (zao rfl (av := .xb (decide (y4 = (List.length a0 : Int)))) rfl ?_)
    refine G_q rfl (zac (av := .xb (decide (y4 = (List.length a0 : Int)))) rfl ?_)
    refine G_split (p := y4 = (List.length a0 : Int)) 18 rfl (fun hc => ?_) (fun hc => ?_)
    ·replace h := ite_t h hc
     refine Gy_q rfl rfl rfl (zac (av := .row 3 zah a0) rfl ?_)
     obtain ⟨y5, hy5, h⟩ := bnd1_some h
     refine Gy_q rfl rfl rfl (zam (m_ref11_formed_ok _ _ _ _ hy5) Tryz.func68 (by kernel_rfl) (LEs.cons (AV.le_eq rfl) (LEs.cons (AV.le_eq rfl) (LEs.cons (AV.le_eq rfl) LEs.nil))) ?_)
     refine G_q rfl (zao rfl (av := .xb y5) rfl ?_)
     refine G_q rfl (zab (av := .xb y5) rfl ?_)
     refine G_nil ?_
     refine zae ⟨_, h, ?_⟩
     exact Sub.of_le (lq rfl lt0)
    ·replace h := ite_f h hc
     refine G_n rfl rfl (G_n rfl rfl ?_)
     refine G_q rfl (zak rfl (av := .xb false) rfl ?_)
     refine G_q rfl (zab (av := .xb false) rfl ?_)
     refine G_nil ?_
     refine zae ⟨_, h, ?_⟩
     exact Sub.of_le (lq rfl lt0)
   ·replace h := ite_f h hc
    refine G_n rfl rfl (G_n rfl rfl (G_n rfl rfl (G_n rfl rfl (G_n rfl rfl ?_))))
    refine G_q rfl (zak rfl (av := .xb false) rfl ?_)
    refine G_q rfl (zac (av := .xb false) rfl ?_)
    refine G_n rfl rfl (G_n rfl rfl ?_)
    refine G_q rfl (zak rfl (av := .xb false) rfl ?_)
    refine G_q rfl (zab (av := .xb false) rfl ?_)
    refine G_nil ?_
    refine zae ⟨_, h, ?_⟩
    exact Sub.of_le (lq rfl lt0)
  ·replace h := ite_f h hc
   refine G_n rfl rfl (G_n rfl rfl (G_n rfl rfl ?_))
   refine G_q rfl (zak rfl (av := .xb false) rfl ?_)
   refine G_q rfl (zac (av := .xb false) rfl ?_)
   refine G_n rfl rfl (G_n rfl rfl (G_n rfl rfl (G_n rfl rfl (G_n rfl rfl ?_))))
   refine G_q rfl (zak rfl (av := .xb false) rfl ?_)
   refine G_q rfl (zac (av := .xb false) rfl ?_)
   refine G_n rfl rfl (G_n rfl rfl ?_)
   refine G_q rfl (zak rfl (av := .xb false) rfl ?_)
   refine G_q rfl (zab (av := .xb false) rfl ?_)
   refine G_nil ?_
   refine zae ⟨_, h, ?_⟩
   exact Sub.of_le (lq rfl lt0)
 ·refine k_ret ?_
  obtain rfl := Option.some.inj h
  refine zal (endN (af' := (AF.put AF0 (some 2) (.xb x2_j1))) (σ' := []) _ rfl ?_ ⟨rfl, rfl⟩)
  exact Sub.of_le (lq rfl lt0)
set_option maxHeartbeats 4000000 in
theorem m_ref11_Vars_ok (a0 : List (Int × Int × Int)) (r : Int) (h : m_ref11_Vars a0 = some r) : Pure Tryz.prog 15 [(.row 3 zah a0)] (.exact (.int .i64 r)) := by
 unfold m_ref11_Vars at h
 refine Pure.ofFun (fun_of_awp Tryz.func15 rfl Tryz.ntmps15 (by simp) rfl (res1 rfl) fun E hE => k_end ?_)
 refine zaf (zag .free hmixP (by kernel_rfl) ?_)
 refine G_q rfl (zab (av := .xi 0) rfl ?_)
 refine G_nil (zaa (zaf (zag .free hmixP (by kernel_rfl) ?_)))
 refine G_q rfl (zab (av := .xi 0) rfl ?_)
 refine G_nil (zaa ?_)
 refine k_join1_0 h (fun (x3_j1 : Int) => (AF.put AF0 (some 3) (.xi x3_j1))) (fun (x3_j1 : Int) => []) (fun k1 h => ?_) (fun x3_j1 h => ?_)
 ·refine zaf (zag .free hmixP (by kernel_rfl) ?_)
  refine G_q rfl (zab (av := .xi 0) rfl ?_)
  refine G_nil (zaa (k_block ?_))
  refine k_loop2_0 (m_ref11_Vars_L2 a0 k1) (m_ref11_Vars_B2 a0 k1) (fun _ _ => rfl) (fun m _ _ => rfl) h (fun (x3_l2 : Int) (x4_l2 : Int) => (AF.put (AF.put (AF.put AF0 (some 0) (.row 3 zah a0)) (some 3) (.xi x3_l2)) (some 4) (.xi x4_l2))) (fun (x3_l2 : Int) (x4_l2 : Int) => []) ?_ (fun rec2 x3_l2 x4_l2 h => ?_)
  ·exact Sub.of_le (lq rfl (lq rfl (lq rfl lt0)))
  ·unfold m_ref11_Vars_B2 at h
   refine zaf (zaf (zag .free hmixP (by kernel_rfl) ?_))
   refine G_q rfl (zac (av := .xi x4_l2) rfl ?_)
   refine G_q rfl (zac (av := .row 3 zah a0) rfl ?_)
   refine G_q rfl (op_len_row (by kernel_rfl) rfl ?_)
   refine G_q rfl (op_lss rfl rfl ?_)
   refine G_nil (zaa ?_)
   refine zaj (p := x4_l2 < (List.length a0 : Int)) rfl (fun hc => ?_) (fun hc => ?_)
   ·replace h := ite_t h hc
    refine k_skip (zaa ?_)
    refine k_join1_0 h (fun (x3_j18 : Int) => (AF.put (AF.put (AF.put AF0 (some 0) (.row 3 zah a0)) (some 3) (.xi x3_j18)) (some 4) (.xi x4_l2))) (fun (x3_j18 : Int) => []) (fun k18 h => ?_) (fun x3_j18 h => ?_)
    ·refine k_block (zaf (zag .free hmixP (by kernel_rfl) ?_))
     refine G_q rfl (zac (av := .row 3 zah a0) rfl ?_)
     refine G_q rfl (zac (av := .xi x4_l2) rfl ?_)
     obtain ⟨n20, h⟩ := need_some h
     refine G_q rfl (zaq (by kernel_rfl) rfl rfl n20.1 n20.2 ?_)
     refine G_q rfl (zan (o := 0) (c' := (List.drop 0 (zah (gi a0 x4_l2)))) (by kernel_rfl) rfl rfl ?_)
     refine G_q rfl (zap (a := .xi ((gi a0 x4_l2).1)) (by kernel_rfl) rfl rfl ?_)
     refine G_q rfl (op_eql rfl rfl ?_)
     refine G_nil (zaa ?_)
     refine zaj (p := ((gi a0 x4_l2).1) = 30) rfl (fun hc => ?_) (fun hc => ?_)
     ·replace h := ite_t h hc
      refine zag .free hmixP (by kernel_rfl) ?_
      refine G_q rfl (zac (av := .xi x3_l2) rfl ?_)
      refine G_q rfl (op_add rfl rfl rfl ?_)
      refine G_q rfl (zab (av := .xi (i64 (x3_l2 + 1))) rfl ?_)
      refine G_nil (kB_normal ?_)
      refine zae ⟨_, h, ?_⟩
      exact Sub.of_le (lq rfl (lq rfl (lq rfl lt0)))
     ·replace h := ite_f h hc
      refine k_skip (kB_normal ?_)
      refine zae ⟨_, h, ?_⟩
      exact Sub.of_le (lq rfl (lq rfl (lq rfl lt0)))
    ·refine zag .free hmixP (by kernel_rfl) ?_
     refine G_q rfl (zac (av := .xi x4_l2) rfl ?_)
     refine G_q rfl (op_add rfl rfl rfl ?_)
     refine G_q rfl (zab (av := .xi (i64 (x4_l2 + 1))) rfl ?_)
     refine G_nil ?_
     refine zae ⟨_, _, h, ?_⟩
     exact Sub.of_le (lq rfl (lq rfl (lq rfl lt0)))
   ·replace h := ite_f h hc
    refine k_exit (kC_exit (kI_exit (kB_exit ?_)))
    refine zae ⟨_, h, ?_⟩
    exact Sub.of_le (lq rfl lt0)
 ·refine zaf (zag .free hmixP (by kernel_rfl) ?_)
  refine G_q rfl (zac (av := .xi x3_j1) rfl ?_)
  refine G_q rfl (zab (av := .xi x3_j1) rfl ?_)
  refine G_nil (zaa (k_ret ?_))
  obtain rfl := Option.some.inj h
  refine zal (endN (af' := (AF.put AF0 (some 2) (.xi x3_j1))) (σ' := []) _ rfl ?_ ⟨rfl, rfl⟩)
  exact Sub.of_le (lq rfl lt0)
set_option maxHeartbeats 4000000 in
theorem m_ref9_Kind_ok (a0 : List UInt8) (r : Int) (h : m_ref9_Kind a0 = some r) : Pure Tryz.prog 70 [(.exact (.string (bs a0)))] (.exact (.int .i64 r)) := by
 unfold m_ref9_Kind at h
 refine Pure.ofFun (fun_of_awp Tryz.func70 rfl Tryz.ntmps70 (by simp) rfl (res1 rfl) fun E hE => k_end ?_)
 refine zaf (zag .free hmixP (by kernel_rfl) ?_)
 refine G_q rfl (zab (av := .xi 0) rfl ?_)
 refine G_nil (zaa (zaf (zaf (zag .free hmixP (by kernel_rfl) ?_))))
 refine G_q rfl (zac (av := .xs a0) rfl ?_)
 obtain ⟨y1, hy1, h⟩ := bnd1_some h
 refine G_q rfl (zam (m_ref9_Valid_ok _ _ hy1) Tryz.func21 (by kernel_rfl) (LEs.cons (AV.le_eq rfl) LEs.nil) ?_)
 refine G_q rfl (op_not rfl ?_)
 refine G_nil (zaa ?_)
 refine k_cond_b (c := !y1) rfl (fun hc => ?_) (fun hc => ?_)
 ·replace h := ite_t h hc
  refine zaf (zag .free hmixP (by kernel_rfl) ?_)
  refine G_q rfl (zab (av := .xi 0) rfl ?_)
  refine G_nil (zaa (k_ret (kC_ret ?_)))
  obtain rfl := Option.some.inj h
  refine zal (endN (af' := (AF.put AF0 (some 2) (.xi 0))) (σ' := []) _ rfl ?_ ⟨rfl, rfl⟩)
  exact Sub.of_le (lq rfl lt0)
 ·replace h := ite_f h hc
  refine k_skip (zaa (zaf (zag .free hmixP (by kernel_rfl) ?_)))
  refine G_q rfl (zac (av := .xs a0) rfl ?_)
  obtain ⟨n2, h⟩ := need_some h
  refine G_q rfl (op_index_str (by kernel_rfl) rfl rfl n2.1 n2.2 ?_)
  refine G_q rfl (op_convInt (k := .i64) (r := (UInt8.toNat (gi a0 0) : Int)) (by kernel_rfl) rfl (wrap_u8 rfl _) ?_)
  refine G_q rfl (zab (av := .xi (UInt8.toNat (gi a0 0) : Int)) rfl ?_)
  refine G_nil (zaa (k_ret ?_))
  obtain rfl := Option.some.inj h
  refine zal (endN (af' := (AF.put AF0 (some 2) (.xi (UInt8.toNat (gi a0 0) : Int)))) (σ' := []) _ rfl ?_ ⟨rfl, rfl⟩)
  exact Sub.of_le (lq rfl lt0)
set_option maxHeartbeats 4000000 in
theorem m_ref9_Parts_ok (a0 : List UInt8) (r : (List (List UInt8))) (h : m_ref9_Parts a0 = some r) : Pure Tryz.prog 71 [(.exact (.string (bs a0)))] (.row 1 zad r) := by
 unfold m_ref9_Parts at h
 refine Pure.ofFun (fun_of_awp Tryz.func71 rfl Tryz.ntmps71 (by simp) rfl (res1 rfl) fun E hE => k_end ?_)
 refine zaf (zag .free hmixP (by kernel_rfl) ?_)
 refine G_q rfl (zab (av := .exact (.slice none 0 0)) rfl ?_)
 refine G_nil (zaa (zaf (zaf (zag .free hmixP (by kernel_rfl) ?_))))
 refine G_q rfl (zac (av := .xs a0) rfl ?_)
 obtain ⟨y1, hy1, h⟩ := bnd1_some h
 refine G_q rfl (zam (m_ref9_Valid_ok _ _ hy1) Tryz.func21 (by kernel_rfl) (LEs.cons (AV.le_eq rfl) LEs.nil) ?_)
 refine G_q rfl (op_not rfl ?_)
 refine G_nil (zaa ?_)
 refine k_cond_b (c := !y1) rfl (fun hc => ?_) (fun hc => ?_)
 ·replace h := ite_t h hc
  refine zaf (zag .free hmixP (by kernel_rfl) ?_)
  refine G_q rfl (zab (av := .exact (.slice none 0 0)) rfl ?_)
  refine G_nil (zaa (k_ret (kC_ret ?_)))
  obtain rfl := Option.some.inj h
  refine zal (endN (af' := (AF.put AF0 (some 2) (.row 1 zad []))) (σ' := []) _ rfl ?_ ⟨rfl, rfl⟩)
  exact Sub.of_le (AF.le_put (row_nil (by decide)) lt0)
 ·replace h := ite_f h hc
  refine k_skip (zaa (zaf (zag .free hmixP (by kernel_rfl) ?_)))
  refine G_q rfl (zac (av := .xs a0) rfl ?_)
  obtain ⟨y2, hy2, h⟩ := bnd1_some h
  refine G_q rfl (zam (m_ref9_walk_ok _ _ _ _ hy2) Tryz.func76 (by kernel_rfl) (LEs.cons (AV.le_eq rfl) (LEs.cons (AV.le_eq rfl) (LEs.cons (AV.le_eq rfl) LEs.nil))) ?_)
  refine G_q rfl (zac (av := .tup [.xi y2.1, .row 1 zad y2.2.1, .xi y2.2.2]) rfl ?_)
  refine G_q rfl (op_extract (av := .xi y2.1) rfl rfl ?_)
  refine G_q rfl (op_extract (av := .row 1 zad y2.2.1) rfl rfl ?_)
  refine G_q rfl (op_extract (av := .xi y2.2.2) rfl rfl ?_)
  refine G_q rfl (zab (av := .xi y2.1) rfl ?_)
  refine G_q rfl (zab (av := .row 1 zad y2.2.1) rfl ?_)
  refine G_q rfl (zab (av := .xi y2.2.2) rfl ?_)
  refine G_nil (zaa (zaf (zag .free hmixP (by kernel_rfl) ?_)))
  refine G_q rfl (zac (av := .row 1 zad y2.2.1) rfl ?_)
  refine G_q rfl (zab (av := .row 1 zad y2.2.1) rfl ?_)
  refine G_nil (zaa (k_ret ?_))
  obtain rfl := Option.some.inj h
  refine zal (endN (af' := (AF.put AF0 (some 2) (.row 1 zad y2.2.1))) (σ' := []) _ rfl ?_ ⟨rfl, rfl⟩)
  exact Sub.of_le (lq rfl lt0)
set_option maxHeartbeats 4000000 in
theorem m_ref11_build_F_ok {w2 : Nat} (self_ref11_build : (List (Int × Int × Int)) → Int → (List (List UInt8)) → Option ((List UInt8) × Bool × (List (List UInt8)))) (hself_ref11_build : ∀ ⦃w2 : Nat⦄ (a0 : List (Int × Int × Int)) (a1 : Int) (a2 : List (List UInt8)) (r : (List UInt8) × Bool × (List (List UInt8))), self_ref11_build a0 a1 a2 = some r → Fun Tryz.prog 40 [(.row 3 zah a0), (.exact (.int .i64 a1)), (pA w2 0)] [boxI 27 w2 [.row 1 zad a2]] (fun a s => a = .tup [.exact (.string (bs r.1)), .exact (.bool r.2.1)] ∧ s = [boxI 27 w2 [.row 1 zad r.2.2]])) (a0 : List (Int × Int × Int)) (a1 : Int) (a2 : List (List UInt8)) (r : (List UInt8) × Bool × (List (List UInt8))) (h : m_ref11_build_F self_ref11_build a0 a1 a2 = some r) : Fun Tryz.prog 40 [(.row 3 zah a0), (.exact (.int .i64 a1)), (pA w2 0)] [boxI 27 w2 [.row 1 zad a2]] (fun a s => a = .tup [.exact (.string (bs r.1)), .exact (.bool r.2.1)] ∧ s = [boxI 27 w2 [.row 1 zad r.2.2]]) := by
 unfold m_ref11_build_F at h
 refine fun_of_awp Tryz.func40 rfl Tryz.ntmps40 (by simp) rfl (res2 rfl) fun E hE => k_end ?_
 refine zaf (zag .free hmixP (by kernel_rfl) ?_)
 refine G_q rfl (zab (av := .xs ([] : List UInt8)) rfl ?_)
 refine G_q rfl (zab (av := .xb false) rfl ?_)
 refine G_nil (zaa (zaf (zag .free hmixP (by kernel_rfl) ?_)))
 refine G_q rfl (zac (av := .row 3 zah a0) rfl ?_)
 refine G_q rfl (zac (av := .xi a1) rfl ?_)
 obtain ⟨n1, h⟩ := need_some h
 refine G_q rfl (zaq (by kernel_rfl) rfl rfl n1.1 n1.2 ?_)
 refine G_q rfl (op_loadNp (m := 3) (c' := zah (gi a0 a1)) (by kernel_rfl) rfl rfl rfl ?_)
 refine G_l rfl (op_alloc (c := [.xi ((0, 0, 0).1), .xi ((0, 0, 0).2.1), .xi ((0, 0, 0).2.2)]) rfl (LEs.cons (AV.le_eq rfl) (LEs.cons (AV.le_eq rfl) (LEs.cons (AV.le_eq rfl) LEs.nil))) (fun b2 => ?_))
 refine G_l rfl (op_store_box (c' := [.xi ((gi a0 a1).1), .xi ((gi a0 a1).2.1), .xi ((gi a0 a1).2.2)]) (c3 := [.xi ((gi a0 a1).1), .xi ((gi a0 a1).2.1), .xi ((gi a0 a1).2.2)]) rfl rfl CellsOf.agg (LEs.cons (AV.le_eq rfl) (LEs.cons (AV.le_eq rfl) (LEs.cons (AV.le_eq rfl) LEs.nil))) (oc_c_api_Code _) (by kernel_rfl) (Nat.le_of_ble_eq_true rfl) rfl ?_)
 refine G_nil (zaa (zaf (zaf (zag .free hmixP (by kernel_rfl) ?_))))
 refine G_q rfl (op_fieldAddr (o := 0) (by kernel_rfl) rfl ?_)
 refine G_r rfl (op_load_box1 (a := .xi ((gi a0 a1).1)) (by kernel_rfl) rfl rfl ?_)
 refine G_nil (zaa (k_block (zaf (zag .free hmixP (by kernel_rfl) ?_))))
 refine G_q rfl (op_eql rfl rfl ?_)
 refine G_q rfl (zab (av := .xb (decide (((gi a0 a1).1) = 30))) rfl ?_)
 refine G_nil (zaa ?_)
 refine zaj (p := ((gi a0 a1).1) = 30) rfl (fun hc => ?_) (fun hc => ?_)
 ·replace h := ite_t h hc
  refine zaf (zag .free hmixP (by kernel_rfl) ?_)
  refine G_q rfl (zac (av := pA w2 0) rfl ?_)
  refine G_q rfl (op_nilCheck rfl ?_)
  refine G_r rfl (opR_f1 (op_load_box1 (a := .row 1 zad a2) (by kernel_rfl) rfl rfl ?_))
  obtain ⟨n10, h⟩ := need_some h
  refine G_q rfl (zaq (by kernel_rfl) rfl rfl n10.1 n10.2 ?_)
  refine G_q rfl (zap (a := .xs (gi a2 0)) (by kernel_rfl) rfl rfl ?_)
  refine G_q rfl (zab (av := .xs (gi a2 0)) rfl ?_)
  refine G_nil (zaa (zaf (zag .free hmixP (by kernel_rfl) ?_)))
  refine G_q rfl (zac (av := pA w2 0) rfl ?_)
  refine G_q rfl (zac (av := pA w2 0) rfl ?_)
  refine G_q rfl (op_nilCheck rfl ?_)
  refine G_r rfl (opR_f1 (op_load_box1 (a := .row 1 zad a2) (by kernel_rfl) rfl rfl ?_))
  obtain ⟨n11, h⟩ := need_some h
  refine G_q rfl (op_slice_rowd (by kernel_rfl) rfl (bnd_some rfl) bnd_none (by decide) n11 (Int.le_refl _) ?_)
  refine G_q rfl (op_nilCheck rfl ?_)
  refine G_l rfl (opB_f1 (op_store_box (c' := [.row 1 zad (List.drop (Int.toNat 1) a2)]) (c3 := [.row 1 zad (List.drop (Int.toNat 1) a2)]) rfl rfl CellsOf.row (LEs.cons (AV.le_eq rfl) LEs.nil) (OneC.row OneC.nil) (by kernel_rfl) (Nat.le_of_ble_eq_true rfl) rfl ?_))
  refine G_nil (zaa (zaf (zag .free hmixP (by kernel_rfl) ?_)))
  refine G_q rfl (zac (av := .xs (gi a2 0)) rfl ?_)
  refine G_q rfl (zac (av := .xs (gi a2 0)) rfl ?_)
  obtain ⟨y12, hy12, h⟩ := bnd1_some h
  refine G_q rfl (zam (m_ref9_Valid_ok _ _ hy12) Tryz.func21 (by kernel_rfl) (LEs.cons (AV.le_eq rfl) LEs.nil) ?_)
  refine G_q rfl (zab (av := .xs (gi a2 0)) rfl ?_)
  refine G_q rfl (zab (av := .xb y12) rfl ?_)
  refine G_nil (zaa (k_ret (kB_ret (kC_ret ?_))))
  obtain rfl := Option.some.inj h
  refine zal (endN (af' := (AF.put (AF.put AF0 (some 6) (.xs (gi a2 0))) (some 7) (.xb y12))) (σ' := [boxI 27 w2 [.row 1 zad (List.drop (Int.toNat 1) a2)]]) _ rfl ?_ ⟨rfl, rfl⟩)
  refine Sub.trans (SubU.to SubU.f1) ?_
  refine Sub.trans (SubU.to SubU.drop) ?_
  exact Sub.of_le (lq rfl (lq rfl lt0))
 ·replace h := ite_f h hc
  refine zaf (zag .free hmixP (by kernel_rfl) ?_)
  refine G_q rfl (op_eql rfl rfl ?_)
  refine G_q rfl (zab (av := .xb (decide (((gi a0 a1).1) = 32))) rfl ?_)
  refine G_nil (zaa ?_)
  refine zaj (p := ((gi a0 a1).1) = 32) rfl (fun hc => ?_) (fun hc => ?_)
  ·replace h := ite_t h hc
   refine zaf (zag .free hmixP (by kernel_rfl) ?_)
   refine G_q rfl (op_fieldAddr (o := 1) (by kernel_rfl) rfl ?_)
   refine G_r rfl (op_load_box1 (a := .xi ((gi a0 a1).2.1)) (by kernel_rfl) rfl rfl ?_)
   obtain ⟨y13, hy13, h⟩ := bnd1_some h
   refine G_q rfl (zam (m_ref9_Int_ok _ _ hy13) Tryz.func33 (by kernel_rfl) (LEs.cons (AV.le_eq rfl) LEs.nil) ?_)
   refine G_q rfl (zab (av := .xs y13) rfl ?_)
   refine G_q rfl (zab (av := .xb true) rfl ?_)
   refine G_nil (zaa (k_ret (kB_ret (kC_ret ?_))))
   obtain rfl := Option.some.inj h
   refine zal (endN (af' := (AF.put (AF.put AF0 (some 6) (.xs y13)) (some 7) (.xb true))) (σ' := [boxI 27 w2 [.row 1 zad a2]]) _ rfl ?_ ⟨rfl, rfl⟩)
   refine Sub.trans (SubU.to SubU.drop) ?_
   exact Sub.of_le (lq rfl (lq rfl lt0))
  ·replace h := ite_f h hc
   refine zaf (zag .free hmixP (by kernel_rfl) ?_)
   refine G_q rfl (op_eql rfl rfl ?_)
   refine G_q rfl (zab (av := .xb (decide (((gi a0 a1).1) = 33))) rfl ?_)
   refine G_nil (zaa ?_)
   refine zaj (p := ((gi a0 a1).1) = 33) rfl (fun hc => ?_) (fun hc => ?_)
   ·replace h := ite_t h hc
    refine zaf (zag .free hmixP (by kernel_rfl) ?_)
    refine G_q rfl (op_fieldAddr (o := 1) (by kernel_rfl) rfl ?_)
    refine G_r rfl (op_load_box1 (a := .xi ((gi a0 a1).2.1)) (by kernel_rfl) rfl rfl ?_)
    refine G_q rfl (op_eql rfl rfl ?_)
    obtain ⟨y14, hy14, h⟩ := bnd1_some h
    refine G_q rfl (zam (m_ref9_Bool_ok _ _ hy14) Tryz.func25 (by kernel_rfl) (LEs.cons (AV.le_eq rfl) LEs.nil) ?_)
    refine G_q rfl (zab (av := .xs y14) rfl ?_)
    refine G_q rfl (zab (av := .xb true) rfl ?_)
    refine G_nil (zaa (k_ret (kB_ret (kC_ret ?_))))
    obtain rfl := Option.some.inj h
    refine zal (endN (af' := (AF.put (AF.put AF0 (some 6) (.xs y14)) (some 7) (.xb true))) (σ' := [boxI 27 w2 [.row 1 zad a2]]) _ rfl ?_ ⟨rfl, rfl⟩)
    refine Sub.trans (SubU.to SubU.drop) ?_
    exact Sub.of_le (lq rfl (lq rfl lt0))
   ·replace h := ite_f h hc
    refine k_join1_0 h (fun (x49_j15 : Bool) => (AF.put (AF.put (AF.put (AF.put (AF.put AF0 (some 0) (.row 3 zah a0)) (some 1) (.xi a1)) (some 2) (pA w2 0)) (some 8) (pA b2 0)) (some 49) (.xb x49_j15))) (fun (x49_j15 : Bool) => [boxI 27 w2 [.row 1 zad a2], boxI 29 b2 [.xi ((gi a0 a1).1), .xi ((gi a0 a1).2.1), .xi ((gi a0 a1).2.2)]]) (fun k15 h => ?_) (fun x49_j15 h => ?_)
    ·refine zaf (zag .free hmixP (by kernel_rfl) ?_)
     refine G_q rfl (op_eql rfl rfl ?_)
     refine G_q rfl (zab (av := .xb (decide (((gi a0 a1).1) = 31))) rfl ?_)
     refine G_nil (zaa ?_)
     refine zaj (p := ((gi a0 a1).1) = 31) rfl (fun hc => ?_) (fun hc => ?_)
     ·replace h := ite_t h hc
      refine k_skip ?_
      refine zae ⟨_, h, ?_⟩
      refine Sub.trans (SubU.to SubU.f1) ?_
      exact Sub.of_le (lq rfl (lq rfl (lq rfl (lq rfl (lq rfl lt0)))))
     ·replace h := ite_f h hc
      refine zaf (zag .free hmixP (by kernel_rfl) ?_)
      refine G_q rfl (op_eql rfl rfl ?_)
      refine G_q rfl (zab (av := .xb (decide (((gi a0 a1).1) = 40))) rfl ?_)
      refine G_nil (zaa ?_)
      refine zaj (p := ((gi a0 a1).1) = 40) rfl (fun hc => ?_) (fun hc => ?_)
      ·replace h := ite_t h hc
       refine k_skip ?_
       refine zae ⟨_, h, ?_⟩
       refine Sub.trans (SubU.to SubU.f1) ?_
       exact Sub.of_le (lq rfl (lq rfl (lq rfl (lq rfl (lq rfl lt0)))))
      ·replace h := ite_f h hc
       refine zag .free hmixP (by kernel_rfl) ?_
       refine G_q rfl (op_eql rfl rfl ?_)
       refine G_q rfl (zab (av := .xb (decide (((gi a0 a1).1) = 39))) rfl ?_)
       refine G_nil ?_
       refine zae ⟨_, h, ?_⟩
       refine Sub.trans (SubU.to SubU.f1) ?_
       exact Sub.of_le (lq rfl (lq rfl (lq rfl (lq rfl (lq rfl lt0)))))
    ·refine k_cond_b (c := x49_j15) rfl (fun hc => ?_) (fun hc => ?_)
     ·replace h := ite_t h hc
      refine zaf (zag .free hmixP (by kernel_rfl) ?_)
      refine G_q rfl (zab (av := .xs ([] : List UInt8)) rfl ?_)
      refine G_q rfl (zab (av := .xb false) rfl ?_)
      refine G_nil (zaa (k_ret (kB_ret (kC_ret ?_))))
      obtain rfl := Option.some.inj h
      refine zal (endN (af' := (AF.put (AF.put AF0 (some 6) (.xs ([] : List UInt8))) (some 7) (.xb false))) (σ' := [boxI 27 w2 [.row 1 zad a2]]) _ rfl ?_ ⟨rfl, rfl⟩)
      refine Sub.trans (SubU.to SubU.f1) ?_
      refine Sub.trans (SubU.to SubU.drop) ?_
      exact Sub.of_le (lq rfl (lq rfl lt0))
     ·replace h := ite_f h hc
      refine k_skip (kB_normal (zaa (zaf (zag .free hmixP (by kernel_rfl) ?_))))
      refine G_q rfl (zab (av := .exact (.slice none 0 0)) rfl ?_)
      refine G_nil (zaa (zaf (zag .free hmixP (by kernel_rfl) ?_)))
      refine G_q rfl (zac (av := .row 3 zah a0) rfl ?_)
      refine G_q rfl (zac (av := .xi a1) rfl ?_)
      obtain ⟨y16, hy16, h⟩ := bnd1_some h
      refine G_q rfl (zam (m_ref11_kids_ok _ _ _ hy16) Tryz.func69 (by kernel_rfl) (LEs.cons (AV.le_eq rfl) (LEs.cons (AV.le_eq rfl) LEs.nil)) ?_)
      refine G_q rfl (zab (av := .row 1 c_int y16) rfl ?_)
      refine G_nil (zaa ?_)
      refine k_join2_1 h (fun (x2_0_j17 : List (List UInt8)) (x10_j17 : List (List UInt8)) (v10_j17 : Value) => (AF.put (AF.put (AF.put AF0 (some 2) (pA w2 0)) (some 8) (pA b2 0)) (some 10) (.exact v10_j17))) (fun (x2_0_j17 : List (List UInt8)) (x10_j17 : List (List UInt8)) (v10_j17 : Value) => [boxI 27 w2 [.row 1 zad x2_0_j17], boxI 29 b2 [.xi ((gi a0 a1).1), .xi ((gi a0 a1).2.1), .xi ((gi a0 a1).2.2)], vecT Tryz.prog 27 1 zad v10_j17 x10_j17]) (fun k17 h => ?_) (fun x2_0_j17 x10_j17 v10_j17 h => ?_)
      ·refine zaf (zag .free hmixP (by kernel_rfl) ?_)
       refine G_q rfl (zab (av := .xi 0) rfl ?_)
       refine G_nil (zaa (k_block ?_))
       refine k_loop3_1 (m_ref11_build_L2 self_ref11_build a0 a1 y16 k17) (m_ref11_build_B2 self_ref11_build a0 a1 y16 k17) (fun _ _ _ => rfl) (fun m _ _ _ => rfl) h (fun (x2_0_l2 : List (List UInt8)) (x10_l2 : List (List UInt8)) (x12_l2 : Int) (v10_l2 : Value) => (AF.put (AF.put (AF.put (AF.put (AF.put (AF.put AF0 (some 0) (.row 3 zah a0)) (some 2) (pA w2 0)) (some 8) (pA b2 0)) (some 10) (.exact v10_l2)) (some 11) (.row 1 c_int y16)) (some 12) (.xi x12_l2))) (fun (x2_0_l2 : List (List UInt8)) (x10_l2 : List (List UInt8)) (x12_l2 : Int) (v10_l2 : Value) => [boxI 27 w2 [.row 1 zad x2_0_l2], boxI 29 b2 [.xi ((gi a0 a1).1), .xi ((gi a0 a1).2.1), .xi ((gi a0 a1).2.2)], vecT Tryz.prog 27 1 zad v10_l2 x10_l2]) (.slice none 0 0) ?_ (fun rec2 x2_0_l2 x10_l2 x12_l2 v10_l2 h => ?_)
       ·refine Sub.trans (SubU.to (SubU.nilT (P := Tryz.prog) (t := 27) (n := 1) (enc := zad))) ?_
        refine Sub.trans (SubU.to SubU.f2) ?_
        refine Sub.trans (SubU.to SubU.f2) ?_
        exact Sub.of_le (lq rfl (lq rfl (lq rfl (lq rfl (lq rfl (lq rfl lt0))))))
       ·unfold m_ref11_build_B2 at h
        refine zaf (zaf (zag .free hmixP (by kernel_rfl) ?_))
        refine G_q rfl (zac (av := .xi x12_l2) rfl ?_)
        refine G_q rfl (zac (av := .row 1 c_int y16) rfl ?_)
        refine G_q rfl (op_len_row (by kernel_rfl) rfl ?_)
        refine G_q rfl (op_lss rfl rfl ?_)
        refine G_nil (zaa ?_)
        refine zaj (p := x12_l2 < (List.length y16 : Int)) rfl (fun hc => ?_) (fun hc => ?_)
        ·replace h := ite_t h hc
         refine k_skip (zaa ?_)
         refine k_join2_1 h (fun (x2_0_j174 : List (List UInt8)) (x10_j174 : List (List UInt8)) (v10_j174 : Value) => (AF.put (AF.put (AF.put (AF.put (AF.put (AF.put AF0 (some 0) (.row 3 zah a0)) (some 2) (pA w2 0)) (some 8) (pA b2 0)) (some 10) (.exact v10_j174)) (some 11) (.row 1 c_int y16)) (some 12) (.xi x12_l2))) (fun (x2_0_j174 : List (List UInt8)) (x10_j174 : List (List UInt8)) (v10_j174 : Value) => [boxI 27 w2 [.row 1 zad x2_0_j174], boxI 29 b2 [.xi ((gi a0 a1).1), .xi ((gi a0 a1).2.1), .xi ((gi a0 a1).2.2)], vecT Tryz.prog 27 1 zad v10_j174 x10_j174]) (fun k174 h => ?_) (fun x2_0_j174 x10_j174 v10_j174 h => ?_)
         ·refine k_block (zaf (zag .free hmixP (by kernel_rfl) ?_))
          refine G_q rfl (zac (av := .row 3 zah a0) rfl ?_)
          refine G_q rfl (zac (av := .row 1 c_int y16) rfl ?_)
          refine G_q rfl (zac (av := .xi x12_l2) rfl ?_)
          obtain ⟨n190, h⟩ := need_some h
          refine G_q rfl (zaq (by kernel_rfl) rfl rfl n190.1 n190.2 ?_)
          refine G_q rfl (zap (a := .xi (gi y16 x12_l2)) (by kernel_rfl) rfl rfl ?_)
          refine G_q rfl (zac (av := pA w2 0) rfl ?_)
          obtain ⟨y191, hy191, h⟩ := bnd1_some h
          refine G_l rfl (op_fun_1_0_1 (hself_ref11_build _ _ _ _ hy191) Tryz.func40 (by kernel_rfl) (LEs.cons (AV.le_eq rfl) (LEs.cons (AV.le_eq rfl) (LEs.cons (AV.le_eq rfl) LEs.nil))) ?_)
          refine G_q rfl (zac (av := .tup [.xs y191.1, .xb y191.2.1]) rfl ?_)
          refine G_q rfl (op_extract (av := .xs y191.1) rfl rfl ?_)
          refine G_q rfl (op_extract (av := .xb y191.2.1) rfl rfl ?_)
          refine G_q rfl (zab (av := .xs y191.1) rfl ?_)
          refine G_q rfl (zab (av := .xb y191.2.1) rfl ?_)
          refine G_nil (zaa (zaf (zaf (zag .free hmixP (by kernel_rfl) ?_))))
          refine G_q rfl (zac (av := .xb y191.2.1) rfl ?_)
          refine G_q rfl (op_not rfl ?_)
          refine G_nil (zaa ?_)
          refine k_cond_b (c := !y191.2.1) rfl (fun hc => ?_) (fun hc => ?_)
          ·replace h := ite_t h hc
           refine zaf (zag .free hmixP (by kernel_rfl) ?_)
           refine G_q rfl (zab (av := .xs ([] : List UInt8)) rfl ?_)
           refine G_q rfl (zab (av := .xb false) rfl ?_)
           refine G_nil (zaa (k_ret (kC_ret (kB_ret (kI_ret (kI_ret (kB_ret (kI_ret ?_))))))))
           obtain rfl := Option.some.inj h
           refine zal (endN (af' := (AF.put (AF.put AF0 (some 6) (.xs ([] : List UInt8))) (some 7) (.xb false))) (σ' := [boxI 27 w2 [.row 1 zad y191.2.2]]) _ rfl ?_ ⟨rfl, rfl⟩)
           refine Sub.trans (SubU.to SubU.f1) ?_
           refine Sub.trans (SubU.to SubU.drop) ?_
           refine Sub.trans (SubU.to SubU.f1) ?_
           refine Sub.trans (SubU.to SubU.drop) ?_
           exact Sub.of_le (lq rfl (lq rfl lt0))
          ·replace h := ite_f h hc
           refine k_skip (zaa (zaf ?_))
           refine k_join1_0 h (fun (x82_j198 : Bool) => (AF.put (AF.put (AF.put (AF.put (AF.put (AF.put (AF.put (AF.put AF0 (some 0) (.row 3 zah a0)) (some 2) (pA w2 0)) (some 8) (pA b2 0)) (some 10) (.exact v10_l2)) (some 11) (.row 1 c_int y16)) (some 12) (.xi x12_l2)) (some 13) (.xs y191.1)) (some 82) (.xb x82_j198))) (fun (x82_j198 : Bool) => [boxI 27 w2 [.row 1 zad y191.2.2], boxI 29 b2 [.xi ((gi a0 a1).1), .xi ((gi a0 a1).2.1), .xi ((gi a0 a1).2.2)], vecT Tryz.prog 27 1 zad v10_l2 x10_l2]) (fun k198 h => ?_) (fun x82_j198 h => ?_)
           ·refine zag .free hmixP (by kernel_rfl) ?_
            refine G_q rfl (op_fieldAddr (o := 0) (by kernel_rfl) rfl ?_)
            refine G_r rfl (opR_f1 (op_load_box1 (a := .xi ((gi a0 a1).1)) (by kernel_rfl) rfl rfl ?_))
            refine G_q rfl (op_eql rfl rfl ?_)
            refine G_q rfl (zac (av := .xb (decide (((gi a0 a1).1) = 36))) rfl ?_)
            refine G_split (p := ((gi a0 a1).1) = 36) 77 rfl (fun hc => ?_) (fun hc => ?_)
            ·replace h := ite_t h hc
             refine Gy_q rfl rfl rfl (zac (av := .xi x12_l2) rfl ?_)
             refine Gy_q rfl rfl rfl (op_fieldAddr (o := 1) (by kernel_rfl) rfl ?_)
             refine Gy_r rfl rfl rfl (opR_f1 (op_load_box1 (a := .xi ((gi a0 a1).2.1)) (by kernel_rfl) rfl rfl ?_))
             refine Gy_q rfl rfl rfl (op_eql rfl rfl ?_)
             refine G_q rfl (zao rfl (av := .xb (decide (x12_l2 = ((gi a0 a1).2.1)))) rfl ?_)
             refine G_nil ?_
             refine zae ⟨_, h, ?_⟩
             exact Sub.of_le (lq rfl (lq rfl (lq rfl (lq rfl (lq rfl (lq rfl (lq rfl (lq rfl lt0))))))))
            ·replace h := ite_f h hc
             refine G_n rfl rfl (G_n rfl rfl (G_n rfl rfl (G_n rfl rfl ?_)))
             refine G_q rfl (zak rfl (av := .xb false) rfl ?_)
             refine G_nil ?_
             refine zae ⟨_, h, ?_⟩
             exact Sub.of_le (lq rfl (lq rfl (lq rfl (lq rfl (lq rfl (lq rfl (lq rfl (lq rfl lt0))))))))
           ·refine k_cond_b (c := x82_j198) rfl (fun hc => ?_) (fun hc => ?_)
            ·replace h := ite_t h hc
             refine zaf (zaf (zag .free hmixP (by kernel_rfl) ?_))
             refine G_q rfl (zac (av := .xs y191.1) rfl ?_)
             obtain ⟨y199, hy199, h⟩ := bnd1_some h
             refine G_q rfl (zam (m_ref9_Kind_ok _ _ hy199) Tryz.func70 (by kernel_rfl) (LEs.cons (AV.le_eq rfl) LEs.nil) ?_)
             refine G_q rfl (op_neq rfl rfl ?_)
             refine G_nil (zaa ?_)
             refine zaj (p := ¬ y199 = 4) rfl (fun hc => ?_) (fun hc => ?_)
             ·replace h := ite_t h hc
              refine zaf (zag .free hmixP (by kernel_rfl) ?_)
              refine G_q rfl (zab (av := .xs ([] : List UInt8)) rfl ?_)
              refine G_q rfl (zab (av := .xb false) rfl ?_)
              refine G_nil (zaa (k_ret (kC_ret (kC_ret (kB_ret (kI_ret (kI_ret (kB_ret (kI_ret ?_)))))))))
              obtain rfl := Option.some.inj h
              refine zal (endN (af' := (AF.put (AF.put AF0 (some 6) (.xs ([] : List UInt8))) (some 7) (.xb false))) (σ' := [boxI 27 w2 [.row 1 zad y191.2.2]]) _ rfl ?_ ⟨rfl, rfl⟩)
              refine Sub.trans (SubU.to SubU.f1) ?_
              refine Sub.trans (SubU.to SubU.drop) ?_
              refine Sub.trans (SubU.to SubU.f1) ?_
              refine Sub.trans (SubU.to SubU.drop) ?_
              exact Sub.of_le (lq rfl (lq rfl lt0))
             ·replace h := ite_f h hc
              refine k_skip (zaa (zaf (zag .free hmixP (by kernel_rfl) ?_)))
              refine G_q rfl (zac (av := .exact v10_l2) rfl ?_)
              refine G_q rfl (zac (av := .xs y191.1) rfl ?_)
              obtain ⟨y200, hy200, h⟩ := bnd1_some h
              refine G_q rfl (zam (m_ref9_Parts_ok _ _ hy200) Tryz.func71 (by kernel_rfl) (LEs.cons (AV.le_eq rfl) LEs.nil) ?_)
              obtain ⟨n201, h⟩ := need_some h
              refine G_l rfl (opB_f2 (op_appT (by kernel_rfl) rfl rfl oc_c_api_Value n201 (fun v202 => ?_)))
              refine G_q rfl (zab (av := .exact v202) rfl ?_)
              refine G_nil (zaa (k_exit (kC_exit (kB_exit ?_))))
              refine zae ⟨_, _, v202, h, ?_⟩
              refine Sub.trans (SubU.to SubU.f2) ?_
              refine Sub.trans (SubU.to SubU.f2) ?_
              exact Sub.of_le (lq rfl (lq rfl (lq rfl (lq rfl (lq rfl (lq rfl lt0))))))
            ·replace h := ite_f h hc
             refine k_skip (zaa (zag .free hmixP (by kernel_rfl) ?_))
             refine G_q rfl (zac (av := .exact v10_l2) rfl ?_)
             refine G_q rfl (zac (av := .xs y191.1) rfl ?_)
             refine G_q rfl (op_litT (n := 1) (enc := zad) [y191.1] (CellsAll.cons rfl CellsOf.str CellsAll.nil) rfl (by kernel_rfl) (LEss.cons (LEs.cons (AV.le_eq rfl) LEs.nil) LEss.nil) ?_)
             obtain ⟨n203, h⟩ := need_some h
             refine G_l rfl (opB_f2 (op_appT (by kernel_rfl) rfl rfl oc_c_api_Value n203 (fun v204 => ?_)))
             refine G_q rfl (zab (av := .exact v204) rfl ?_)
             refine G_nil (kB_normal ?_)
             refine zae ⟨_, _, v204, h, ?_⟩
             refine Sub.trans (SubU.to SubU.f2) ?_
             refine Sub.trans (SubU.to SubU.f2) ?_
             exact Sub.of_le (lq rfl (lq rfl (lq rfl (lq rfl (lq rfl (lq rfl lt0))))))
         ·refine zag .free hmixP (by kernel_rfl) ?_
          refine G_q rfl (zac (av := .xi x12_l2) rfl ?_)
          refine G_q rfl (op_add rfl rfl rfl ?_)
          refine G_q rfl (zab (av := .xi (i64 (x12_l2 + 1))) rfl ?_)
          refine G_nil ?_
          refine zae ⟨_, _, _, v10_j174, h, ?_⟩
          exact Sub.of_le (lq rfl (lq rfl (lq rfl (lq rfl (lq rfl (lq rfl lt0))))))
        ·replace h := ite_f h hc
         refine k_exit (kC_exit (kI_exit (kB_exit ?_)))
         refine zae ⟨_, _, v10_l2, h, ?_⟩
         exact Sub.of_le (lq rfl (lq rfl (lq rfl lt0)))
      ·refine zaf (zag .free hmixP (by kernel_rfl) ?_)
       refine G_q rfl (zab (av := .xs ([] : List UInt8)) rfl ?_)
       refine G_nil (zaa ?_)
       refine k_join1_0 h (fun (x15_j205 : List UInt8) => (AF.put (AF.put AF0 (some 2) (pA w2 0)) (some 15) (.xs x15_j205))) (fun (x15_j205 : List UInt8) => [boxI 27 w2 [.row 1 zad x2_0_j17]]) (fun k205 h => ?_) (fun x15_j205 h => ?_)
       ·refine zaf (zag .free hmixP (by kernel_rfl) ?_)
        refine G_q rfl (op_fieldAddr (o := 0) (by kernel_rfl) rfl ?_)
        refine G_r rfl (opR_f1 (op_load_box1 (a := .xi ((gi a0 a1).1)) (by kernel_rfl) rfl rfl ?_))
        refine G_nil (zaa (k_block (zaf (zag .free hmixP (by kernel_rfl) ?_))))
        refine G_q rfl (op_eql rfl rfl ?_)
        refine G_q rfl (zab (av := .xb (decide (((gi a0 a1).1) = 34))) rfl ?_)
        refine G_nil (zaa ?_)
        refine zaj (p := ((gi a0 a1).1) = 34) rfl (fun hc => ?_) (fun hc => ?_)
        ·replace h := ite_t h hc
         refine zag .free hmixP (by kernel_rfl) ?_
         refine G_q rfl (zac (av := .exact v10_j17) rfl ?_)
         refine G_sub rfl (SubU.trans SubU.f2 (SubU.freezeT2 (s1 := 10) (s2 := 98) rfl rfl len_c_api_Value)) ?_
         obtain ⟨y214, hy214, h⟩ := bnd1_some h
         refine G_q rfl (zam (m_ref9_Make_ok _ _ _ hy214) Tryz.func19 (by kernel_rfl) (LEs.cons (AV.le_eq rfl) (LEs.cons (AV.le_eq rfl) LEs.nil)) ?_)
         refine G_q rfl (zab (av := .xs y214) rfl ?_)
         refine G_nil (kB_normal ?_)
         refine zae ⟨_, h, ?_⟩
         refine Sub.trans (SubU.to SubU.f1) ?_
         refine Sub.trans (SubU.to SubU.drop) ?_
         exact Sub.of_le (lq rfl (lq rfl lt0))
        ·replace h := ite_f h hc
         refine k_join1_0 h (fun (x100_j215 : Bool) => (AF.put (AF.put (AF.put (AF.put (AF.put (AF.put AF0 (some 2) (pA w2 0)) (some 8) (pA b2 0)) (some 10) (.exact v10_j17)) (some 15) (.xs ([] : List UInt8))) (some 95) (.xi ((gi a0 a1).1))) (some 100) (.xb x100_j215))) (fun (x100_j215 : Bool) => [boxI 27 w2 [.row 1 zad x2_0_j17], boxI 29 b2 [.xi ((gi a0 a1).1), .xi ((gi a0 a1).2.1), .xi ((gi a0 a1).2.2)], vecT Tryz.prog 27 1 zad v10_j17 x10_j17]) (fun k215 h => ?_) (fun x100_j215 h => ?_)
         ·refine zaf (zag .free hmixP (by kernel_rfl) ?_)
          refine G_q rfl (op_eql rfl rfl ?_)
          refine G_q rfl (zab (av := .xb (decide (((gi a0 a1).1) = 35))) rfl ?_)
          refine G_nil (zaa ?_)
          refine zaj (p := ((gi a0 a1).1) = 35) rfl (fun hc => ?_) (fun hc => ?_)
          ·replace h := ite_t h hc
           refine k_skip ?_
           refine zae ⟨_, h, ?_⟩
           exact Sub.of_le (lq rfl (lq rfl (lq rfl (lq rfl (lq rfl (lq rfl lt0))))))
          ·replace h := ite_f h hc
           refine zag .free hmixP (by kernel_rfl) ?_
           refine G_q rfl (op_eql rfl rfl ?_)
           refine G_q rfl (zab (av := .xb (decide (((gi a0 a1).1) = 36))) rfl ?_)
           refine G_nil ?_
           refine zae ⟨_, h, ?_⟩
           exact Sub.of_le (lq rfl (lq rfl (lq rfl (lq rfl (lq rfl (lq rfl lt0))))))
         ·refine k_cond_b (c := x100_j215) rfl (fun hc => ?_) (fun hc => ?_)
          ·replace h := ite_t h hc
           refine zag .free hmixP (by kernel_rfl) ?_
           refine G_q rfl (zac (av := .exact v10_j17) rfl ?_)
           refine G_sub rfl (SubU.trans SubU.f2 (SubU.freezeT2 (s1 := 10) (s2 := 103) rfl rfl len_c_api_Value)) ?_
           obtain ⟨y216, hy216, h⟩ := bnd1_some h
           refine G_q rfl (zam (m_ref9_Make_ok _ _ _ hy216) Tryz.func19 (by kernel_rfl) (LEs.cons (AV.le_eq rfl) (LEs.cons (AV.le_eq rfl) LEs.nil)) ?_)
           refine G_q rfl (zab (av := .xs y216) rfl ?_)
           refine G_nil (kB_normal ?_)
           refine zae ⟨_, h, ?_⟩
           refine Sub.trans (SubU.to SubU.f1) ?_
           refine Sub.trans (SubU.to SubU.drop) ?_
           exact Sub.of_le (lq rfl (lq rfl lt0))
          ·replace h := ite_f h hc
           refine zaf (zag .free hmixP (by kernel_rfl) ?_)
           refine G_q rfl (op_eql rfl rfl ?_)
           refine G_q rfl (zab (av := .xb (decide (((gi a0 a1).1) = 37))) rfl ?_)
           refine G_nil (zaa ?_)
           refine zaj (p := ((gi a0 a1).1) = 37) rfl (fun hc => ?_) (fun hc => ?_)
           ·replace h := ite_t h hc
            refine zag .free hmixP (by kernel_rfl) ?_
            refine G_q rfl (zac (av := .exact v10_j17) rfl ?_)
            refine G_sub rfl (SubU.trans SubU.f2 (SubU.freezeT2 (s1 := 10) (s2 := 107) rfl rfl len_c_api_Value)) ?_
            obtain ⟨y217, hy217, h⟩ := bnd1_some h
            refine G_q rfl (zam (m_ref9_Set_ok _ _ hy217) Tryz.func28 (by kernel_rfl) (LEs.cons (AV.le_eq rfl) LEs.nil) ?_)
            refine G_q rfl (zab (av := .xs y217) rfl ?_)
            refine G_nil (kB_normal ?_)
            refine zae ⟨_, h, ?_⟩
            refine Sub.trans (SubU.to SubU.f1) ?_
            refine Sub.trans (SubU.to SubU.drop) ?_
            exact Sub.of_le (lq rfl (lq rfl lt0))
           ·replace h := ite_f h hc
            refine zaf (zag .free hmixP (by kernel_rfl) ?_)
            refine G_q rfl (op_eql rfl rfl ?_)
            refine G_q rfl (zab (av := .xb (decide (((gi a0 a1).1) = 38))) rfl ?_)
            refine G_nil (zaa ?_)
            refine zaj (p := ((gi a0 a1).1) = 38) rfl (fun hc => ?_) (fun hc => ?_)
            ·replace h := ite_t h hc
             refine zaf ?_
             refine k_join1_0 h (fun (x118_j220 : Bool) => (AF.put (AF.put (AF.put (AF.put AF0 (some 2) (pA w2 0)) (some 8) (pA b2 0)) (some 10) (.exact v10_j17)) (some 118) (.xb x118_j220))) (fun (x118_j220 : Bool) => [boxI 27 w2 [.row 1 zad x2_0_j17], boxI 29 b2 [.xi ((gi a0 a1).1), .xi ((gi a0 a1).2.1), .xi ((gi a0 a1).2.2)], vecT Tryz.prog 27 1 zad v10_j17 x10_j17]) (fun k220 h => ?_) (fun x118_j220 h => ?_)
             ·refine zag .free hmixP (by kernel_rfl) ?_
              refine G_q rfl (op_fieldAddr (o := 1) (by kernel_rfl) rfl ?_)
              refine G_r rfl (opR_f1 (op_load_box1 (a := .xi ((gi a0 a1).2.1)) (by kernel_rfl) rfl rfl ?_))
              refine G_q rfl (op_lss rfl rfl ?_)
              refine G_q rfl (zac (av := .xb (decide (((gi a0 a1).2.1) < 0))) rfl ?_)
              refine G_split (p := ((gi a0 a1).2.1) < 0) 114 rfl (fun hc => ?_) (fun hc => ?_)
              ·replace h := ite_t h hc
               refine G_n rfl rfl (G_n rfl rfl (G_n rfl rfl ?_))
               refine G_q rfl (zao rfl (av := .xb true) rfl ?_)
               refine G_nil ?_
               refine zae ⟨_, h, ?_⟩
               exact Sub.of_le (lq rfl (lq rfl (lq rfl (lq rfl lt0))))
              ·replace h := ite_f h hc
               refine Gy_q rfl rfl rfl (op_fieldAddr (o := 1) (by kernel_rfl) rfl ?_)
               refine Gy_r rfl rfl rfl (opR_f1 (op_load_box1 (a := .xi ((gi a0 a1).2.1)) (by kernel_rfl) rfl rfl ?_))
               refine Gy_q rfl rfl rfl (op_gtr rfl rfl ?_)
               refine G_q rfl (zak rfl (av := .xb (decide (65535 < ((gi a0 a1).2.1)))) rfl ?_)
               refine G_nil ?_
               refine zae ⟨_, h, ?_⟩
               exact Sub.of_le (lq rfl (lq rfl (lq rfl (lq rfl lt0))))
             ·refine k_cond_b (c := x118_j220) rfl (fun hc => ?_) (fun hc => ?_)
              ·replace h := ite_t h hc
               refine zaf (zag .free hmixP (by kernel_rfl) ?_)
               refine G_q rfl (zab (av := .xs ([] : List UInt8)) rfl ?_)
               refine G_q rfl (zab (av := .xb false) rfl ?_)
               refine G_nil (zaa (k_ret (kC_ret (kB_ret (kI_ret ?_)))))
               obtain rfl := Option.some.inj h
               refine zal (endN (af' := (AF.put (AF.put AF0 (some 6) (.xs ([] : List UInt8))) (some 7) (.xb false))) (σ' := [boxI 27 w2 [.row 1 zad x2_0_j17]]) _ rfl ?_ ⟨rfl, rfl⟩)
               refine Sub.trans (SubU.to SubU.f1) ?_
               refine Sub.trans (SubU.to SubU.drop) ?_
               refine Sub.trans (SubU.to SubU.f1) ?_
               refine Sub.trans (SubU.to SubU.drop) ?_
               exact Sub.of_le (lq rfl (lq rfl lt0))
              ·replace h := ite_f h hc
               refine k_skip (zaa (zag .free hmixP (by kernel_rfl) ?_))
               refine G_q rfl (op_fieldAddr (o := 1) (by kernel_rfl) rfl ?_)
               refine G_r rfl (opR_f1 (op_load_box1 (a := .xi ((gi a0 a1).2.1)) (by kernel_rfl) rfl rfl ?_))
               refine G_q rfl (zac (av := .exact v10_j17) rfl ?_)
               refine G_sub rfl (SubU.trans SubU.f2 (SubU.freezeT2 (s1 := 10) (s2 := 121) rfl rfl len_c_api_Value)) ?_
               obtain ⟨y221, hy221, h⟩ := bnd1_some h
               refine G_q rfl (zam (m_ref9_Dot_ok _ _ _ hy221) Tryz.func29 (by kernel_rfl) (LEs.cons (AV.le_eq rfl) (LEs.cons (AV.le_eq rfl) LEs.nil)) ?_)
               refine G_q rfl (zab (av := .xs y221) rfl ?_)
               refine G_nil (kB_normal ?_)
               refine zae ⟨_, h, ?_⟩
               refine Sub.trans (SubU.to SubU.f1) ?_
               refine Sub.trans (SubU.to SubU.drop) ?_
               exact Sub.of_le (lq rfl (lq rfl lt0))
            ·replace h := ite_f h hc
             refine k_skip (kB_normal ?_)
             refine zae ⟨_, h, ?_⟩
             refine Sub.trans (SubU.to SubU.f1) ?_
             refine Sub.trans (SubU.to SubU.drop) ?_
             refine Sub.trans (SubU.to SubU.f1) ?_
             refine Sub.trans (SubU.to SubU.drop) ?_
             exact Sub.of_le (lq rfl (lq rfl lt0))
       ·refine zaf (zag .free hmixP (by kernel_rfl) ?_)
        refine G_q rfl (zac (av := .xs x15_j205) rfl ?_)
        refine G_q rfl (zac (av := .xs x15_j205) rfl ?_)
        refine G_q rfl (op_neqS rfl rfl ?_)
        refine G_q rfl (zab (av := .xs x15_j205) rfl ?_)
        refine G_q rfl (zab (av := .xb (decide (¬ x15_j205 = ([] : List UInt8)))) rfl ?_)
        refine G_nil (zaa (k_ret ?_))
        obtain rfl := Option.some.inj h
        refine zal (endN (af' := (AF.put (AF.put AF0 (some 6) (.xs x15_j205)) (some 7) (.xb (decide (¬ x15_j205 = ([] : List UInt8)))))) (σ' := [boxI 27 w2 [.row 1 zad x2_0_j17]]) _ rfl ?_ ⟨rfl, rfl⟩)
        exact Sub.of_le (lq rfl (lq rfl lt0))
set_option maxHeartbeats 4000000 in
theorem m_ref11_build_S_ok : ∀ n : Nat, (∀ ⦃w2 : Nat⦄ (a0 : List (Int × Int × Int)) (a1 : Int) (a2 : List (List UInt8)) (r : (List UInt8) × Bool × (List (List UInt8))), m_ref11_build_S n a0 a1 a2 = some r → Fun Tryz.prog 40 [(.row 3 zah a0), (.exact (.int .i64 a1)), (pA w2 0)] [boxI 27 w2 [.row 1 zad a2]] (fun a s => a = .tup [.exact (.string (bs r.1)), .exact (.bool r.2.1)] ∧ s = [boxI 27 w2 [.row 1 zad r.2.2]]))
  | 0 => (fun _ _ _ _ _ h => by have h' : (none : Option _) = some _ := h; cases h')
  | n + 1 => by
    have ih := m_ref11_build_S_ok n
    exact fun w2 a0 a1 a2 r h => m_ref11_build_F_ok (m_ref11_build_S n) ih a0 a1 a2 r h
theorem m_ref11_build_ok {w2 : Nat} (a0 : List (Int × Int × Int)) (a1 : Int) (a2 : List (List UInt8)) (r : (List UInt8) × Bool × (List (List UInt8))) (h : m_ref11_build a0 a1 a2 = some r) : Fun Tryz.prog 40 [(.row 3 zah a0), (.exact (.int .i64 a1)), (pA w2 0)] [boxI 27 w2 [.row 1 zad a2]] (fun a s => a = .tup [.exact (.string (bs r.1)), .exact (.bool r.2.1)] ∧ s = [boxI 27 w2 [.row 1 zad r.2.2]]) := (m_ref11_build_S_ok FU) a0 a1 a2 r h
set_option maxHeartbeats 4000000 in
theorem m_ref11_Build_ok (a0 : List (Int × Int × Int)) (a1 : List (List UInt8)) (r : (List UInt8) × Bool) (h : m_ref11_Build a0 a1 = some r) : Pure Tryz.prog 11 [(.row 3 zah a0), (.row 1 zad a1)] (.tup [.exact (.string (bs r.1)), .exact (.bool r.2)]) := by
 unfold m_ref11_Build at h
 refine Pure.ofFun (fun_of_awp Tryz.func11 rfl Tryz.ntmps11 (by simp) rfl (res2 rfl) fun E hE => k_end ?_)
 refine zaf (zag .free hmixP (by kernel_rfl) ?_)
 refine G_q rfl (zab (av := .xs ([] : List UInt8)) rfl ?_)
 refine G_q rfl (zab (av := .xb false) rfl ?_)
 refine G_nil (zaa (zaf ?_))
 refine k_join1_0 h (fun (x18_j7 : Bool) => (AF.put (AF.put (AF.put AF0 (some 0) (.row 3 zah a0)) (some 1) (.row 1 zad a1)) (some 18) (.xb x18_j7))) (fun (x18_j7 : Bool) => []) (fun k7 h => ?_) (fun x18_j7 h => ?_)
 ·refine zag .free hmixP (by kernel_rfl) ?_
  refine G_q rfl (zac (av := .row 3 zah a0) rfl ?_)
  obtain ⟨y10, hy10, h⟩ := bnd1_some h
  refine G_q rfl (zam (m_ref11_Pattern_ok _ _ hy10) Tryz.func39 (by kernel_rfl) (LEs.cons (AV.le_eq rfl) LEs.nil) ?_)
  refine G_q rfl (op_not rfl ?_)
  refine G_q rfl (zac (av := .xb (!y10)) rfl ?_)
  refine G_splitB (c := !y10) 12 rfl (fun hc => ?_) (fun hc => ?_)
  ·replace h := ite_t h hc
   refine G_n rfl rfl (G_n rfl rfl (G_n rfl rfl (G_n rfl rfl (G_n rfl rfl ?_))))
   refine G_q rfl (zao rfl (av := .xb true) rfl ?_)
   refine G_nil ?_
   refine zae ⟨_, h, ?_⟩
   exact Sub.of_le (lq rfl (lq rfl (lq rfl lt0)))
  ·replace h := ite_f h hc
   refine Gy_q rfl rfl rfl (zac (av := .row 1 zad a1) rfl ?_)
   refine Gy_q rfl rfl rfl (op_len_row (by kernel_rfl) rfl ?_)
   refine Gy_q rfl rfl rfl (zac (av := .row 3 zah a0) rfl ?_)
   obtain ⟨y11, hy11, h⟩ := bnd1_some h
   refine Gy_q rfl rfl rfl (zam (m_ref11_Vars_ok _ _ hy11) Tryz.func15 (by kernel_rfl) (LEs.cons (AV.le_eq rfl) LEs.nil) ?_)
   refine Gy_q rfl rfl rfl (op_neq rfl rfl ?_)
   refine G_q rfl (zak rfl (av := .xb (decide (¬ (List.length a1 : Int) = y11))) rfl ?_)
   refine G_nil ?_
   refine zae ⟨_, h, ?_⟩
   exact Sub.of_le (lq rfl (lq rfl (lq rfl lt0)))
 ·refine k_cond_b (c := x18_j7) rfl (fun hc => ?_) (fun hc => ?_)
  ·replace h := ite_t h hc
   refine zaf (zag .free hmixP (by kernel_rfl) ?_)
   refine G_q rfl (zab (av := .xs ([] : List UInt8)) rfl ?_)
   refine G_q rfl (zab (av := .xb false) rfl ?_)
   refine G_nil (zaa (k_ret (kC_ret ?_)))
   obtain rfl := Option.some.inj h
   refine zal (endN (af' := (AF.put (AF.put AF0 (some 4) (.xs ([] : List UInt8))) (some 5) (.xb false))) (σ' := []) _ rfl ?_ ⟨rfl, rfl⟩)
   exact Sub.of_le (lq rfl (lq rfl lt0))
  ·replace h := ite_f h hc
   refine k_skip (zaa (zaf (zag .free hmixP (by kernel_rfl) ?_)))
   refine G_q rfl (zac (av := .row 1 zad a1) rfl ?_)
   obtain ⟨n12, h⟩ := need_some h
   refine G_l rfl (op_appN (enc := zad) (by kernel_rfl) rfl rfl oc_c_api_Value n12 (fun v13 => ?_))
   refine G_l rfl (op_alloc (c := [.row 1 zad []]) rfl (LEs.cons (row_nil (by decide)) LEs.nil) (fun b14 => ?_))
   refine G_sub rfl (SubU.trans SubU.f1 (SubU.freezeT (s := 20) rfl len_c_api_Value)) ?_
   refine G_l rfl (op_store_box (c' := [.row 1 zad a1]) (c3 := [.row 1 zad a1]) rfl rfl CellsOf.row (LEs.cons (AV.le_eq rfl) LEs.nil) (OneC.row OneC.nil) (by kernel_rfl) (Nat.le_of_ble_eq_true rfl) rfl ?_)
   refine G_nil (zaa (zaf (zag .free hmixP (by kernel_rfl) ?_)))
   refine G_q rfl (zac (av := .row 3 zah a0) rfl ?_)
   obtain ⟨y15, hy15, h⟩ := bnd1_some h
   refine G_l rfl (op_fun_1_0_1 (m_ref11_build_ok _ _ _ _ hy15) Tryz.func40 (by kernel_rfl) (LEs.cons (AV.le_eq rfl) (LEs.cons (AV.le_eq rfl) (LEs.cons (AV.le_eq rfl) LEs.nil))) ?_)
   refine G_q rfl (zac (av := .tup [.xs y15.1, .xb y15.2.1]) rfl ?_)
   refine G_q rfl (op_extract (av := .xs y15.1) rfl rfl ?_)
   refine G_q rfl (op_extract (av := .xb y15.2.1) rfl rfl ?_)
   refine G_q rfl (zab (av := .xs y15.1) rfl ?_)
   refine G_q rfl (zab (av := .xb y15.2.1) rfl ?_)
   refine G_nil (zaa (zaf (zaf (zag .free hmixP (by kernel_rfl) ?_))))
   refine G_q rfl (zac (av := .xb y15.2.1) rfl ?_)
   refine G_q rfl (op_not rfl ?_)
   refine G_nil (zaa ?_)
   refine k_cond_b (c := !y15.2.1) rfl (fun hc => ?_) (fun hc => ?_)
   ·replace h := ite_t h hc
    refine zaf (zag .free hmixP (by kernel_rfl) ?_)
    refine G_q rfl (zab (av := .xs ([] : List UInt8)) rfl ?_)
    refine G_q rfl (zab (av := .xb false) rfl ?_)
    refine G_nil (zaa (k_ret (kC_ret ?_)))
    obtain rfl := Option.some.inj h
    refine zal (endN (af' := (AF.put (AF.put AF0 (some 4) (.xs ([] : List UInt8))) (some 5) (.xb false))) (σ' := []) _ rfl ?_ ⟨rfl, rfl⟩)
    refine Sub.trans (SubU.to SubU.drop) ?_
    exact Sub.of_le (lq rfl (lq rfl lt0))
   ·replace h := ite_f h hc
    refine k_skip (zaa (zaf (zag .free hmixP (by kernel_rfl) ?_)))
    refine G_q rfl (zac (av := .xs y15.1) rfl ?_)
    refine G_q rfl (zab (av := .xs y15.1) rfl ?_)
    refine G_q rfl (zab (av := .xb true) rfl ?_)
    refine G_nil (zaa (k_ret ?_))
    obtain rfl := Option.some.inj h
    refine zal (endN (af' := (AF.put (AF.put AF0 (some 4) (.xs y15.1)) (some 5) (.xb true))) (σ' := []) _ rfl ?_ ⟨rfl, rfl⟩)
    refine Sub.trans (SubU.to SubU.drop) ?_
    exact Sub.of_le (lq rfl (lq rfl lt0))
set_option maxHeartbeats 4000000 in
theorem m_value_Number_ok (a0 : List UInt8) (r : Int) (h : m_value_Number a0 = some r) : Pure Tryz.prog 72 [(.exact (.string (bs a0)))] (.exact (.int .i64 r)) := by
 unfold m_value_Number at h
 refine Pure.ofFun (fun_of_awp Tryz.func72 rfl Tryz.ntmps72 (by simp) rfl (res1 rfl) fun E hE => k_end ?_)
 refine zaf (zag .free hmixP (by kernel_rfl) ?_)
 refine G_q rfl (zab (av := .xi 0) rfl ?_)
 refine G_nil (zaa (zaf (zaf (zag .free hmixP (by kernel_rfl) ?_))))
 refine G_q rfl (zac (av := .xs a0) rfl ?_)
 obtain ⟨y1, hy1, h⟩ := bnd1_some h
 refine G_q rfl (zam (m_value_Kind_ok _ _ hy1) Tryz.func63 (by kernel_rfl) (LEs.cons (AV.le_eq rfl) LEs.nil) ?_)
 refine G_nil (zaa (k_block (zaf (zag .free hmixP (by kernel_rfl) ?_))))
 refine G_q rfl (op_eql rfl rfl ?_)
 refine G_q rfl (zab (av := .xb (decide (y1 = 1))) rfl ?_)
 refine G_nil (zaa ?_)
 refine zaj (p := y1 = 1) rfl (fun hc => ?_) (fun hc => ?_)
 ·replace h := ite_t h hc
  refine zaf (zag .free hmixP (by kernel_rfl) ?_)
  refine G_q rfl (zac (av := .xs a0) rfl ?_)
  obtain ⟨y2, hy2, h⟩ := bnd1_some h
  refine G_q rfl (zam (m_value_integer_ok _ _ hy2) Tryz.func91 (by kernel_rfl) (LEs.cons (AV.le_eq rfl) LEs.nil) ?_)
  refine G_q rfl (zab (av := .xi y2) rfl ?_)
  refine G_nil (zaa (k_ret (kB_ret (kC_ret ?_))))
  obtain rfl := Option.some.inj h
  refine zal (endN (af' := (AF.put AF0 (some 2) (.xi y2))) (σ' := []) _ rfl ?_ ⟨rfl, rfl⟩)
  exact Sub.of_le (lq rfl lt0)
 ·replace h := ite_f h hc
  refine zaf (zag .free hmixP (by kernel_rfl) ?_)
  refine G_q rfl (op_eql rfl rfl ?_)
  refine G_q rfl (zab (av := .xb (decide (y1 = 2))) rfl ?_)
  refine G_nil (zaa ?_)
  refine zaj (p := y1 = 2) rfl (fun hc => ?_) (fun hc => ?_)
  ·replace h := ite_t h hc
   refine zaf (zag .free hmixP (by kernel_rfl) ?_)
   refine G_q rfl (zac (av := .xs a0) rfl ?_)
   obtain ⟨n3, h⟩ := need_some h
   refine G_q rfl (op_index_str (by kernel_rfl) rfl rfl n3.1 n3.2 ?_)
   refine G_q rfl (op_convInt (k := .i64) (r := (UInt8.toNat (gi a0 1) : Int)) (by kernel_rfl) rfl (wrap_u8 rfl _) ?_)
   refine G_q rfl (zab (av := .xi (UInt8.toNat (gi a0 1) : Int)) rfl ?_)
   refine G_nil (zaa (k_ret (kB_ret (kC_ret ?_))))
   obtain rfl := Option.some.inj h
   refine zal (endN (af' := (AF.put AF0 (some 2) (.xi (UInt8.toNat (gi a0 1) : Int)))) (σ' := []) _ rfl ?_ ⟨rfl, rfl⟩)
   exact Sub.of_le (lq rfl lt0)
  ·replace h := ite_f h hc
   refine zaf (zag .free hmixP (by kernel_rfl) ?_)
   refine G_q rfl (op_eql rfl rfl ?_)
   refine G_q rfl (zab (av := .xb (decide (y1 = 10))) rfl ?_)
   refine G_nil (zaa ?_)
   refine zaj (p := y1 = 10) rfl (fun hc => ?_) (fun hc => ?_)
   ·replace h := ite_t h hc
    refine zaf ?_
    refine k_plan [] [(0, 0), (0, 1), (0, 2), (0, 3), (0, 4), (0, 5), (0, 6), (0, 7), (0, 8)] hmixP (by kernel_rfl) ?_
    refine P_q no34_0 rfl (zac (av := .xs a0) rfl ?_)
    obtain ⟨n4, h⟩ := need_some h
    refine P_q no34_0 rfl (op_index_str (by kernel_rfl) rfl rfl n4.1 n4.2 ?_)
    refine P_q no34_0 rfl (op_convInt (k := .i64) (r := (UInt8.toNat (gi a0 1) : Int)) (by kernel_rfl) rfl (wrap_u8 rfl _) ?_)
    refine P_q no34_0 rfl (op_shl rfl rfl (by decide) rfl ?_)
    refine P_q no34_0 rfl (zac (av := .xs a0) rfl ?_)
    obtain ⟨n5, h⟩ := need_some h
    refine P_q no34_0 rfl (op_index_str (by kernel_rfl) rfl rfl n5.1 n5.2 ?_)
    refine P_q no34_0 rfl (op_convInt (k := .i64) (r := (UInt8.toNat (gi a0 2) : Int)) (by kernel_rfl) rfl (wrap_u8 rfl _) ?_)
    refine P_q no34_0 rfl (op_or rfl rfl rfl ?_)
    refine P_q no34_0 rfl (zab (av := .xi (bOr .i64 (i64 ((UInt8.toNat (gi a0 1) : Int) * 2 ^ min (Int.toNat 8) IntKind.i64.bits)) (UInt8.toNat (gi a0 2) : Int))) rfl ?_)
    refine P_nil (zaa (k_ret (kB_ret (kC_ret ?_))))
    obtain rfl := Option.some.inj h
    refine zal (endN (af' := (AF.put AF0 (some 2) (.xi (bOr .i64 (i64 ((UInt8.toNat (gi a0 1) : Int) * 2 ^ min (Int.toNat 8) IntKind.i64.bits)) (UInt8.toNat (gi a0 2) : Int))))) (σ' := []) _ rfl ?_ ⟨rfl, rfl⟩)
    exact Sub.of_le (lq rfl lt0)
   ·replace h := ite_f h hc
    refine k_skip (kB_normal (zaa (zaf (zag .free hmixP (by kernel_rfl) ?_))))
    refine G_q rfl (zab (av := .xi 0) rfl ?_)
    refine G_nil (zaa (k_ret ?_))
    obtain rfl := Option.some.inj h
    refine zal (endN (af' := (AF.put AF0 (some 2) (.xi 0))) (σ' := []) _ rfl ?_ ⟨rfl, rfl⟩)
    exact Sub.of_le (lq rfl lt0)
set_option maxHeartbeats 4000000 in
theorem m_pattern_each_ok {w2 : Value} (self_pattern_node_match : Nd → (List UInt8) → (List (List UInt8)) → Option ((List (List UInt8)) × Bool)) (hself_pattern_node_match : ∀ ⦃w2 : Value⦄ (a0 : Nd) (a1 : List UInt8) (a2 : List (List UInt8)) (r : (List (List UInt8)) × Bool), self_pattern_node_match a0 a1 a2 = some r → Fun Tryz.prog 41 [(ndA a0), (.exact (.string (bs a1))), (.exact w2)] [vecT Tryz.prog 27 1 zad w2 a2] (fun a s => ∃ z0, a = .tup [.exact z0, .exact (.bool r.2)] ∧ s = [vecT Tryz.prog 27 1 zad z0 r.1])) (a0 : List Nd) (a1 : List (List UInt8)) (a2 : List (List UInt8)) (r : (List (List UInt8)) × Bool) (h : m_pattern_each self_pattern_node_match a0 a1 a2 = some r) : Fun Tryz.prog 74 [(.row 1 c_P_pattern_node a0), (.row 1 zad a1), (.exact w2)] [vecT Tryz.prog 27 1 zad w2 a2] (fun a s => ∃ z0, a = .tup [.exact z0, .exact (.bool r.2)] ∧ s = [vecT Tryz.prog 27 1 zad z0 r.1]) := by
 unfold m_pattern_each at h
 refine fun_of_awp Tryz.func74 rfl Tryz.ntmps74 (by simp) rfl (res2 rfl) fun E hE => k_end ?_
 refine zaf (zag .free hmixP (by kernel_rfl) ?_)
 refine G_q rfl (zab (av := .exact (.slice none 0 0)) rfl ?_)
 refine G_q rfl (zab (av := .xb false) rfl ?_)
 refine G_nil (zaa (zaf (zaf (zag .free hmixP (by kernel_rfl) ?_))))
 refine G_q rfl (zac (av := .row 1 c_P_pattern_node a0) rfl ?_)
 refine G_q rfl (op_len_row (by kernel_rfl) rfl ?_)
 refine G_q rfl (zac (av := .row 1 zad a1) rfl ?_)
 refine G_q rfl (op_len_row (by kernel_rfl) rfl ?_)
 refine G_q rfl (op_neq rfl rfl ?_)
 refine G_nil (zaa ?_)
 refine zaj (p := ¬ (List.length a0 : Int) = (List.length a1 : Int)) rfl (fun hc => ?_) (fun hc => ?_)
 ·replace h := ite_t h hc
  refine zaf (zag .free hmixP (by kernel_rfl) ?_)
  refine G_q rfl (zab (av := .exact (.slice none 0 0)) rfl ?_)
  refine G_q rfl (zab (av := .xb false) rfl ?_)
  refine G_nil (zaa (k_ret (kC_ret ?_)))
  obtain rfl := Option.some.inj h
  refine zal (endN (af' := (AF.put (AF.put AF0 (some 6) (.exact (.slice none 0 0))) (some 7) (.xb false))) (σ' := [vecT Tryz.prog 27 1 zad (.slice none 0 0) []]) _ rfl ?_ ⟨(.slice none 0 0), rfl, rfl⟩)
  refine Sub.trans (SubU.to SubU.drop) ?_
  refine Sub.trans (SubU.to (SubU.nilT (P := Tryz.prog) (t := 27) (n := 1) (enc := zad))) ?_
  exact Sub.of_le (lq rfl (lq rfl lt0))
 ·replace h := ite_f h hc
  refine k_skip (zaa (zaf (zag .free hmixP (by kernel_rfl) ?_)))
  refine G_q rfl (zab (av := .xb true) rfl ?_)
  refine G_nil (zaa ?_)
  refine k_join1_1 h (fun (x2_j1 : List (List UInt8)) (v2_j1 : Value) => (AF.put AF0 (some 2) (.exact v2_j1))) (fun (x2_j1 : List (List UInt8)) (v2_j1 : Value) => [vecT Tryz.prog 27 1 zad v2_j1 x2_j1]) (fun k1 h => ?_) (fun x2_j1 v2_j1 h => ?_)
  ·refine zaf (zag .free hmixP (by kernel_rfl) ?_)
   refine G_q rfl (zac (av := .row 1 c_P_pattern_node a0) rfl ?_)
   refine G_q rfl (op_len_row (by kernel_rfl) rfl ?_)
   refine G_q rfl (zac (av := .xi 0) rfl ?_)
   refine G_nil (zaa (k_block ?_))
   refine k_loop2_1 (m_pattern_each_L2 self_pattern_node_match a0 a1 k1) (m_pattern_each_B2 self_pattern_node_match a0 a1 k1) (fun _ _ => rfl) (fun m _ _ => rfl) h (fun (x2_l2 : List (List UInt8)) (x18_l2 : Int) (v2_l2 : Value) => (AF.put (AF.put (AF.put (AF.put (AF.put AF0 (some 1) (.row 1 zad a1)) (some 2) (.exact v2_l2)) (some 16) (.row 1 c_P_pattern_node a0)) (some 17) (.xi (List.length a0 : Int))) (some 18) (.xi x18_l2))) (fun (x2_l2 : List (List UInt8)) (x18_l2 : Int) (v2_l2 : Value) => [vecT Tryz.prog 27 1 zad v2_l2 x2_l2]) w2 ?_ (fun rec2 x2_l2 x18_l2 v2_l2 h => ?_)
   ·exact Sub.of_le (lq rfl (lq rfl (lq rfl (lq rfl (lq rfl lt0)))))
   ·unfold m_pattern_each_B2 at h
    refine zaf (zag .free hmixP (by kernel_rfl) ?_)
    refine G_q rfl (op_lss rfl rfl ?_)
    refine G_nil (zaa (zaf ?_))
    refine zaj (p := x18_l2 < (List.length a0 : Int)) rfl (fun hc => ?_) (fun hc => ?_)
    ·replace h := ite_t h hc
     refine k_skip (zaa (zaf (k_block (zaf (zag .free hmixP (by kernel_rfl) ?_)))))
     refine G_q rfl (zac (av := .xi x18_l2) rfl ?_)
     obtain ⟨n23, h⟩ := need_some h
     refine G_q rfl (zaq (by kernel_rfl) rfl rfl n23.1 n23.2 ?_)
     refine G_q rfl (zap (a := ndA (gi a0 x18_l2)) (by kernel_rfl) rfl rfl ?_)
     refine G_q rfl (zab (av := .xi x18_l2) rfl ?_)
     refine G_q rfl (zab (av := ndA (gi a0 x18_l2)) rfl ?_)
     refine G_nil (zaa (zaf (zag .free hmixP (by kernel_rfl) ?_)))
     refine G_q rfl (zac (av := ndA (gi a0 x18_l2)) rfl ?_)
     refine G_q rfl (zac (av := .row 1 zad a1) rfl ?_)
     refine G_q rfl (zac (av := .xi x18_l2) rfl ?_)
     obtain ⟨n24, h⟩ := need_some h
     refine G_q rfl (zaq (by kernel_rfl) rfl rfl n24.1 n24.2 ?_)
     refine G_q rfl (zap (a := .xs (gi a1 x18_l2)) (by kernel_rfl) rfl rfl ?_)
     refine G_q rfl (zac (av := .exact v2_l2) rfl ?_)
     obtain ⟨y25, hy25, h⟩ := bnd1_some h
     refine G_l rfl (op_fun_1_1_1 (hself_pattern_node_match _ _ _ _ hy25) Tryz.func41 (by kernel_rfl) (LEs.cons (AV.le_eq rfl) (LEs.cons (AV.le_eq rfl) (LEs.cons (AV.le_eq rfl) LEs.nil))) (fun v26 => ?_))
     refine G_q rfl (zac (av := .tup [.exact v26, .xb y25.2]) rfl ?_)
     refine G_q rfl (op_extract (av := .exact v26) rfl rfl ?_)
     refine G_q rfl (op_extract (av := .xb y25.2) rfl rfl ?_)
     refine G_q rfl (zab (av := .exact v26) rfl ?_)
     refine G_q rfl (zab (av := .xb y25.2) rfl ?_)
     refine G_nil (zaa (zaf (zag .free hmixP (by kernel_rfl) ?_)))
     refine G_q rfl (zac (av := .xb y25.2) rfl ?_)
     refine G_q rfl (op_not rfl ?_)
     refine G_nil (zaa ?_)
     refine k_cond_b (c := !y25.2) rfl (fun hc => ?_) (fun hc => ?_)
     ·replace h := ite_t h hc
      refine zaf (zag .free hmixP (by kernel_rfl) ?_)
      refine G_q rfl (zab (av := .exact (.slice none 0 0)) rfl ?_)
      refine G_q rfl (zab (av := .xb false) rfl ?_)
      refine G_nil (zaa (k_ret (kB_ret (kC_ret (kI_ret (kB_ret (kI_ret ?_)))))))
      obtain rfl := Option.some.inj h
      refine zal (endN (af' := (AF.put (AF.put AF0 (some 6) (.exact (.slice none 0 0))) (some 7) (.xb false))) (σ' := [vecT Tryz.prog 27 1 zad (.slice none 0 0) []]) _ rfl ?_ ⟨(.slice none 0 0), rfl, rfl⟩)
      refine Sub.trans (SubU.to SubU.drop) ?_
      refine Sub.trans (SubU.to (SubU.nilT (P := Tryz.prog) (t := 27) (n := 1) (enc := zad))) ?_
      exact Sub.of_le (lq rfl (lq rfl lt0))
     ·replace h := ite_f h hc
      refine k_skip (kB_normal (zaa (zag .free hmixP (by kernel_rfl) ?_)))
      refine G_q rfl (op_add rfl rfl rfl ?_)
      refine G_q rfl (zac (av := .xi (i64 (x18_l2 + 1))) rfl ?_)
      refine G_nil ?_
      refine zae ⟨_, _, v26, h, ?_⟩
      exact Sub.of_le (lq rfl (lq rfl (lq rfl (lq rfl (lq rfl lt0)))))
    ·replace h := ite_f h hc
     refine k_exit (kC_exit (kI_exit (kB_exit ?_)))
     refine zae ⟨_, v2_l2, h, ?_⟩
     exact Sub.of_le (lq rfl lt0)
  ·refine zaf (zag .free hmixP (by kernel_rfl) ?_)
   refine G_q rfl (zac (av := .exact v2_j1) rfl ?_)
   refine G_q rfl (zab (av := .exact v2_j1) rfl ?_)
   refine G_q rfl (zab (av := .xb true) rfl ?_)
   refine G_nil (zaa (k_ret ?_))
   obtain rfl := Option.some.inj h
   refine zal (endN (af' := (AF.put (AF.put AF0 (some 6) (.exact v2_j1)) (some 7) (.xb true))) (σ' := [vecT Tryz.prog 27 1 zad v2_j1 x2_j1]) _ rfl ?_ ⟨v2_j1, rfl, rfl⟩)
   exact Sub.of_le (lq rfl (lq rfl lt0))
set_option maxHeartbeats 4000000 in
theorem m_pattern_node_compound_ok {w3 : Value} (self_pattern_node_match : Nd → (List UInt8) → (List (List UInt8)) → Option ((List (List UInt8)) × Bool)) (hself_pattern_node_match : ∀ ⦃w2 : Value⦄ (a0 : Nd) (a1 : List UInt8) (a2 : List (List UInt8)) (r : (List (List UInt8)) × Bool), self_pattern_node_match a0 a1 a2 = some r → Fun Tryz.prog 41 [(ndA a0), (.exact (.string (bs a1))), (.exact w2)] [vecT Tryz.prog 27 1 zad w2 a2] (fun a s => ∃ z0, a = .tup [.exact z0, .exact (.bool r.2)] ∧ s = [vecT Tryz.prog 27 1 zad z0 r.1])) (a0 : Nd) (a1 : Bool) (a2 : List (List UInt8)) (a3 : List (List UInt8)) (r : (List (List UInt8)) × Bool) (h : m_pattern_node_compound self_pattern_node_match a0 a1 a2 a3 = some r) : Fun Tryz.prog 73 [(ndA a0), (.exact (.bool a1)), (.row 1 zad a2), (.exact w3)] [vecT Tryz.prog 27 1 zad w3 a3] (fun a s => ∃ z0, a = .tup [.exact z0, .exact (.bool r.2)] ∧ s = [vecT Tryz.prog 27 1 zad z0 r.1]) := by
 unfold m_pattern_node_compound at h
 refine fun_of_awp Tryz.func73 rfl Tryz.ntmps73 (by simp) rfl (res2 rfl) fun E hE => k_end ?_
 refine zaf (zag .free hmixP (by kernel_rfl) ?_)
 refine G_q rfl (zab (av := .exact (.slice none 0 0)) rfl ?_)
 refine G_q rfl (zab (av := .xb false) rfl ?_)
 refine G_nil (zaa (zaf (zaf (zag .free hmixP (by kernel_rfl) ?_))))
 refine G_q rfl (zac (av := .xb a1) rfl ?_)
 refine G_q rfl (op_not rfl ?_)
 refine G_nil (zaa ?_)
 refine k_cond_b (c := !a1) rfl (fun hc => ?_) (fun hc => ?_)
 ·replace h := ite_t h hc
  refine zaf (zag .free hmixP (by kernel_rfl) ?_)
  refine G_q rfl (zab (av := .exact (.slice none 0 0)) rfl ?_)
  refine G_q rfl (zab (av := .xb false) rfl ?_)
  refine G_nil (zaa (k_ret (kC_ret ?_)))
  obtain rfl := Option.some.inj h
  refine zal (endN (af' := (AF.put (AF.put AF0 (some 8) (.exact (.slice none 0 0))) (some 9) (.xb false))) (σ' := [vecT Tryz.prog 27 1 zad (.slice none 0 0) []]) _ rfl ?_ ⟨(.slice none 0 0), rfl, rfl⟩)
  refine Sub.trans (SubU.to SubU.drop) ?_
  refine Sub.trans (SubU.to (SubU.nilT (P := Tryz.prog) (t := 27) (n := 1) (enc := zad))) ?_
  exact Sub.of_le (lq rfl (lq rfl lt0))
 ·replace h := ite_f h hc
  refine k_skip (zaa (zaf (zag .free hmixP (by kernel_rfl) ?_)))
  refine G_q rfl (zac (av := ndA a0) rfl ?_)
  obtain ⟨y1, hy1, h⟩ := bnd1_some h
  refine G_q rfl (zar (c := zai y1) (ndA_un hy1) ?_)
  refine G_q rfl (zan (o := 2) (c' := (List.drop 2 (zai y1))) (by kernel_rfl) rfl rfl ?_)
  refine G_q rfl (zap (a := .row 1 c_P_pattern_node y1.2.2) (by kernel_rfl) rfl rfl ?_)
  refine G_q rfl (zac (av := .row 1 zad a2) rfl ?_)
  refine G_q rfl (zac (av := .exact w3) rfl ?_)
  obtain ⟨y2, hy2, h⟩ := bnd1_some h
  refine G_l rfl (op_fun_1_1_1 (m_pattern_each_ok self_pattern_node_match hself_pattern_node_match _ _ _ _ hy2) Tryz.func74 (by kernel_rfl) (LEs.cons (AV.le_eq rfl) (LEs.cons (AV.le_eq rfl) (LEs.cons (AV.le_eq rfl) LEs.nil))) (fun v3 => ?_))
  refine G_q rfl (op_extract (av := .exact v3) rfl rfl ?_)
  refine G_q rfl (op_extract (av := .xb y2.2) rfl rfl ?_)
  refine G_q rfl (zab (av := .exact v3) rfl ?_)
  refine G_q rfl (zab (av := .xb y2.2) rfl ?_)
  refine G_nil (zaa (k_ret ?_))
  obtain rfl := Option.some.inj h
  refine zal (endN (af' := (AF.put (AF.put AF0 (some 8) (.exact v3)) (some 9) (.xb y2.2))) (σ' := [vecT Tryz.prog 27 1 zad v3 y2.1]) _ rfl ?_ ⟨v3, rfl, rfl⟩)
  exact Sub.of_le (lq rfl (lq rfl lt0))
end Go.Proofs.YtpfdeahcjlfijaaGreat
/- The functions compute their models, by program. -/
namespace Go.Proofs.YtpfdeahcjlfijaaGreat
open Go.RowKit
attribute [local irreducible] AV.exact AV.top AV.row AV.ptr AV.agg AV.tup AV.eptr AV.fn AV.nilq AV.nilqn opA opB opM opR Quiet Loud Reads wpG awp den Sub SubU Pure Fun vecI vecT boxI CellsAll CellsOf OneC LEs LEss
set_option maxRecDepth 100000

set_option maxHeartbeats 4000000 in
theorem m_pattern_node_match_F_ok {w2 : Value} (self_pattern_node_match : Nd → (List UInt8) → (List (List UInt8)) → Option ((List (List UInt8)) × Bool)) (hself_pattern_node_match : ∀ ⦃w2 : Value⦄ (a0 : Nd) (a1 : List UInt8) (a2 : List (List UInt8)) (r : (List (List UInt8)) × Bool), self_pattern_node_match a0 a1 a2 = some r → Fun Tryz.prog 41 [(ndA a0), (.exact (.string (bs a1))), (.exact w2)] [vecT Tryz.prog 27 1 zad w2 a2] (fun a s => ∃ z0, a = .tup [.exact z0, .exact (.bool r.2)] ∧ s = [vecT Tryz.prog 27 1 zad z0 r.1])) (a0 : Nd) (a1 : List UInt8) (a2 : List (List UInt8)) (r : (List (List UInt8)) × Bool) (h : m_pattern_node_match_F self_pattern_node_match a0 a1 a2 = some r) : Fun Tryz.prog 41 [(ndA a0), (.exact (.string (bs a1))), (.exact w2)] [vecT Tryz.prog 27 1 zad w2 a2] (fun a s => ∃ z0, a = .tup [.exact z0, .exact (.bool r.2)] ∧ s = [vecT Tryz.prog 27 1 zad z0 r.1]) := by
 unfold m_pattern_node_match_F at h
 refine fun_of_awp Tryz.func41 rfl Tryz.ntmps41 (by simp) rfl (res2 rfl) fun E hE => k_end ?_
 refine zaf (zag .free hmixP (by kernel_rfl) ?_)
 refine G_q rfl (zab (av := .exact (.slice none 0 0)) rfl ?_)
 refine G_q rfl (zab (av := .xb false) rfl ?_)
 refine G_nil (zaa (zaf (zag .free hmixP (by kernel_rfl) ?_)))
 refine G_q rfl (zac (av := .xs a1) rfl ?_)
 obtain ⟨y1, hy1, h⟩ := bnd1_some h
 refine G_q rfl (zam (m_value_Kind_ok _ _ hy1) Tryz.func63 (by kernel_rfl) (LEs.cons (AV.le_eq rfl) LEs.nil) ?_)
 refine G_q rfl (zac (av := .xs a1) rfl ?_)
 obtain ⟨y2, hy2, h⟩ := bnd1_some h
 refine G_q rfl (zam (m_value_Parts_ok _ _ hy2) Tryz.func65 (by kernel_rfl) (LEs.cons (AV.le_eq rfl) LEs.nil) ?_)
 refine G_q rfl (zab (av := .xi y1) rfl ?_)
 refine G_q rfl (zab (av := .row 1 zad y2) rfl ?_)
 refine G_nil (zaa (zaf (zaf (zag .free hmixP (by kernel_rfl) ?_))))
 refine G_q rfl (zac (av := ndA a0) rfl ?_)
 obtain ⟨y3, hy3, h⟩ := bnd1_some h
 refine G_q rfl (zar (c := zai y3) (ndA_un hy3) ?_)
 refine G_q rfl (zan (o := 0) (c' := (List.drop 0 (zai y3))) (by kernel_rfl) rfl rfl ?_)
 refine G_q rfl (zap (a := .xi y3.1) (by kernel_rfl) rfl rfl ?_)
 refine G_nil (zaa (k_block (zaf (zag .free hmixP (by kernel_rfl) ?_))))
 refine G_q rfl (op_eql rfl rfl ?_)
 refine G_q rfl (zab (av := .xb (decide (y3.1 = 30))) rfl ?_)
 refine G_nil (zaa ?_)
 refine zaj (p := y3.1 = 30) rfl (fun hc => ?_) (fun hc => ?_)
 ·replace h := ite_t h hc
  refine zaf (zag .free hmixP (by kernel_rfl) ?_)
  refine G_q rfl (zac (av := .exact w2) rfl ?_)
  refine G_q rfl (zac (av := .xs a1) rfl ?_)
  refine G_q rfl (op_litT (n := 1) (enc := zad) [a1] (CellsAll.cons rfl CellsOf.str CellsAll.nil) rfl (by kernel_rfl) (LEss.cons (LEs.cons (AV.le_eq rfl) LEs.nil) LEss.nil) ?_)
  obtain ⟨n4, h⟩ := need_some h
  refine G_l rfl (op_appT (by kernel_rfl) rfl rfl oc_c_api_Value n4 (fun v5 => ?_))
  refine G_q rfl (zab (av := .exact v5) rfl ?_)
  refine G_q rfl (zab (av := .xb true) rfl ?_)
  refine G_nil (zaa (k_ret (kB_ret (kC_ret ?_))))
  obtain rfl := Option.some.inj h
  refine zal (endN (af' := (AF.put (AF.put AF0 (some 6) (.exact v5)) (some 7) (.xb true))) (σ' := [vecT Tryz.prog 27 1 zad v5 (a2 ++ [a1])]) _ rfl ?_ ⟨v5, rfl, rfl⟩)
  exact Sub.of_le (lq rfl (lq rfl lt0))
 ·replace h := ite_f h hc
  refine zaf (zag .free hmixP (by kernel_rfl) ?_)
  refine G_q rfl (op_eql rfl rfl ?_)
  refine G_q rfl (zab (av := .xb (decide (y3.1 = 31))) rfl ?_)
  refine G_nil (zaa ?_)
  refine zaj (p := y3.1 = 31) rfl (fun hc => ?_) (fun hc => ?_)
  ·replace h := ite_t h hc
   refine zaf (zag .free hmixP (by kernel_rfl) ?_)
   refine G_q rfl (zac (av := .exact w2) rfl ?_)
   refine G_q rfl (zab (av := .exact w2) rfl ?_)
   refine G_q rfl (zab (av := .xb true) rfl ?_)
   refine G_nil (zaa (k_ret (kB_ret (kC_ret ?_))))
   obtain rfl := Option.some.inj h
   refine zal (endN (af' := (AF.put (AF.put AF0 (some 6) (.exact w2)) (some 7) (.xb true))) (σ' := [vecT Tryz.prog 27 1 zad w2 a2]) _ rfl ?_ ⟨w2, rfl, rfl⟩)
   exact Sub.of_le (lq rfl (lq rfl lt0))
  ·replace h := ite_f h hc
   refine zaf (zag .free hmixP (by kernel_rfl) ?_)
   refine G_q rfl (op_eql rfl rfl ?_)
   refine G_q rfl (zab (av := .xb (decide (y3.1 = 32))) rfl ?_)
   refine G_nil (zaa ?_)
   refine zaj (p := y3.1 = 32) rfl (fun hc => ?_) (fun hc => ?_)
   ·replace h := ite_t h hc
    refine k_join1_0 h (fun (x7_j6 : Bool) => (AF.put (AF.put AF0 (some 6) (.exact w2)) (some 7) (.xb x7_j6))) (fun (x7_j6 : Bool) => [vecT Tryz.prog 27 1 zad w2 a2]) (fun k6 h => ?_) (fun x7_j6 h => ?_)
    ·refine k_plan [] [(0, 0), (0, 1), (0, 2), (0, 3), (0, 4), (0, 5), (0, 6), (0, 7), (0, 8), (0, 9), (0, 10), (0, 11), (0, 12), (0, 13)] hmixP (by kernel_rfl) ?_
     refine P_q no34_0 rfl (zac (av := .exact w2) rfl ?_)
     refine P_q no34_0 rfl (zac (av := .xi y1) rfl ?_)
     refine P_q no34_0 rfl (op_eql rfl rfl ?_)
     refine P_q no34_0 rfl (zac (av := .xb (decide (y1 = 1))) rfl ?_)
     refine P_split (p := y1 = 1) 34 rfl (fun hc => ?_) (fun hc => ?_)
     ·replace h := ite_t h hc
      refine Py_q no34_0 rfl rfl rfl (zac (av := .xs a1) rfl ?_)
      obtain ⟨y9, hy9, h⟩ := bnd1_some h
      refine Py_q no34_0 rfl rfl rfl (zam (m_value_Number_ok _ _ hy9) Tryz.func72 (by kernel_rfl) (LEs.cons (AV.le_eq rfl) LEs.nil) ?_)
      refine Py_q no34_0 rfl rfl rfl (zac (av := ndA a0) rfl ?_)
      obtain ⟨y10, hy10, h⟩ := bnd1_some h
      refine Py_q no34_0 rfl rfl rfl (zar (c := zai y10) (ndA_un hy10) ?_)
      refine Py_q no34_0 rfl rfl rfl (zan (o := 1) (c' := (List.drop 1 (zai y10))) (by kernel_rfl) rfl rfl ?_)
      refine Py_q no34_0 rfl rfl rfl (zap (a := .xi y10.2.1) (by kernel_rfl) rfl rfl ?_)
      refine Py_q no34_0 rfl rfl rfl (op_eql rfl rfl ?_)
      refine P_q no34_0 rfl (zao rfl (av := .xb (decide (y9 = y10.2.1))) rfl ?_)
      refine P_q no34_0 rfl (zab (av := .exact w2) rfl ?_)
      refine P_q no34_0 rfl (zab (av := .xb (decide (y9 = y10.2.1))) rfl ?_)
      refine P_nil ?_
      refine zae ⟨_, h, ?_⟩
      exact Sub.of_le (lq rfl (lq rfl lt0))
     ·replace h := ite_f h hc
      refine P_n no34_0 rfl rfl rfl ?_
      refine P_n no34_0 rfl rfl rfl ?_
      refine P_n no34_0 rfl rfl rfl ?_
      refine P_n no34_0 rfl rfl rfl ?_
      refine P_n no34_0 rfl rfl rfl ?_
      refine P_n no34_0 rfl rfl rfl ?_
      refine P_n no34_0 rfl rfl rfl ?_
      refine P_q no34_0 rfl (zak rfl (av := .xb false) rfl ?_)
      refine P_q no34_0 rfl (zab (av := .exact w2) rfl ?_)
      refine P_q no34_0 rfl (zab (av := .xb false) rfl ?_)
      refine P_nil ?_
      refine zae ⟨_, h, ?_⟩
      exact Sub.of_le (lq rfl (lq rfl lt0))
    ·refine k_ret (kB_ret (kC_ret ?_))
     obtain rfl := Option.some.inj h
     refine zal (endN (af' := (AF.put (AF.put AF0 (some 6) (.exact w2)) (some 7) (.xb x7_j6))) (σ' := [vecT Tryz.prog 27 1 zad w2 a2]) _ rfl ?_ ⟨w2, rfl, rfl⟩)
     exact Sub.of_le (lq rfl (lq rfl lt0))
   ·replace h := ite_f h hc
    refine zaf (zag .free hmixP (by kernel_rfl) ?_)
    refine G_q rfl (op_eql rfl rfl ?_)
    refine G_q rfl (zab (av := .xb (decide (y3.1 = 33))) rfl ?_)
    refine G_nil (zaa ?_)
    refine zaj (p := y3.1 = 33) rfl (fun hc => ?_) (fun hc => ?_)
    ·replace h := ite_t h hc
     refine k_join1_0 h (fun (x7_j11 : Bool) => (AF.put (AF.put AF0 (some 6) (.exact w2)) (some 7) (.xb x7_j11))) (fun (x7_j11 : Bool) => [vecT Tryz.prog 27 1 zad w2 a2]) (fun k11 h => ?_) (fun x7_j11 h => ?_)
     ·refine k_plan [] [(0, 0), (0, 1), (0, 2), (0, 3), (0, 4), (0, 5), (0, 6), (0, 7), (0, 8), (0, 9), (0, 10), (0, 11), (0, 12), (0, 13)] hmixP (by kernel_rfl) ?_
      refine P_q no34_0 rfl (zac (av := .exact w2) rfl ?_)
      refine P_q no34_0 rfl (zac (av := .xi y1) rfl ?_)
      refine P_q no34_0 rfl (op_eql rfl rfl ?_)
      refine P_q no34_0 rfl (zac (av := .xb (decide (y1 = 2))) rfl ?_)
      refine P_split (p := y1 = 2) 48 rfl (fun hc => ?_) (fun hc => ?_)
      ·replace h := ite_t h hc
       refine Py_q no34_0 rfl rfl rfl (zac (av := .xs a1) rfl ?_)
       obtain ⟨y14, hy14, h⟩ := bnd1_some h
       refine Py_q no34_0 rfl rfl rfl (zam (m_value_Number_ok _ _ hy14) Tryz.func72 (by kernel_rfl) (LEs.cons (AV.le_eq rfl) LEs.nil) ?_)
       refine Py_q no34_0 rfl rfl rfl (zac (av := ndA a0) rfl ?_)
       obtain ⟨y15, hy15, h⟩ := bnd1_some h
       refine Py_q no34_0 rfl rfl rfl (zar (c := zai y15) (ndA_un hy15) ?_)
       refine Py_q no34_0 rfl rfl rfl (zan (o := 1) (c' := (List.drop 1 (zai y15))) (by kernel_rfl) rfl rfl ?_)
       refine Py_q no34_0 rfl rfl rfl (zap (a := .xi y15.2.1) (by kernel_rfl) rfl rfl ?_)
       refine Py_q no34_0 rfl rfl rfl (op_eql rfl rfl ?_)
       refine P_q no34_0 rfl (zao rfl (av := .xb (decide (y14 = y15.2.1))) rfl ?_)
       refine P_q no34_0 rfl (zab (av := .exact w2) rfl ?_)
       refine P_q no34_0 rfl (zab (av := .xb (decide (y14 = y15.2.1))) rfl ?_)
       refine P_nil ?_
       refine zae ⟨_, h, ?_⟩
       exact Sub.of_le (lq rfl (lq rfl lt0))
      ·replace h := ite_f h hc
       refine P_n no34_0 rfl rfl rfl ?_
       refine P_n no34_0 rfl rfl rfl ?_
       refine P_n no34_0 rfl rfl rfl ?_
       refine P_n no34_0 rfl rfl rfl ?_
       refine P_n no34_0 rfl rfl rfl ?_
       refine P_n no34_0 rfl rfl rfl ?_
       refine P_n no34_0 rfl rfl rfl ?_
       refine P_q no34_0 rfl (zak rfl (av := .xb false) rfl ?_)
       refine P_q no34_0 rfl (zab (av := .exact w2) rfl ?_)
       refine P_q no34_0 rfl (zab (av := .xb false) rfl ?_)
       refine P_nil ?_
       refine zae ⟨_, h, ?_⟩
       exact Sub.of_le (lq rfl (lq rfl lt0))
     ·refine k_ret (kB_ret (kC_ret ?_))
      obtain rfl := Option.some.inj h
      refine zal (endN (af' := (AF.put (AF.put AF0 (some 6) (.exact w2)) (some 7) (.xb x7_j11))) (σ' := [vecT Tryz.prog 27 1 zad w2 a2]) _ rfl ?_ ⟨w2, rfl, rfl⟩)
      exact Sub.of_le (lq rfl (lq rfl lt0))
    ·replace h := ite_f h hc
     refine zaf (zag .free hmixP (by kernel_rfl) ?_)
     refine G_q rfl (op_eql rfl rfl ?_)
     refine G_q rfl (zab (av := .xb (decide (y3.1 = 34))) rfl ?_)
     refine G_nil (zaa ?_)
     refine zaj (p := y3.1 = 34) rfl (fun hc => ?_) (fun hc => ?_)
     ·replace h := ite_t h hc
      refine zaf (zag .free hmixP (by kernel_rfl) ?_)
      refine G_q rfl (zac (av := ndA a0) rfl ?_)
      refine G_q rfl (zac (av := .xi y1) rfl ?_)
      refine G_q rfl (op_eql rfl rfl ?_)
      refine G_q rfl (zac (av := .row 1 zad y2) rfl ?_)
      refine G_q rfl (zac (av := .exact w2) rfl ?_)
      obtain ⟨y16, hy16, h⟩ := bnd1_some h
      refine G_l rfl (op_fun_1_1_1 (m_pattern_node_compound_ok self_pattern_node_match hself_pattern_node_match _ _ _ _ _ hy16) Tryz.func73 (by kernel_rfl) (LEs.cons (AV.le_eq rfl) (LEs.cons (AV.le_eq rfl) (LEs.cons (AV.le_eq rfl) (LEs.cons (AV.le_eq rfl) LEs.nil)))) (fun v17 => ?_))
      refine G_q rfl (op_extract (av := .exact v17) rfl rfl ?_)
      refine G_q rfl (op_extract (av := .xb y16.2) rfl rfl ?_)
      refine G_q rfl (zab (av := .exact v17) rfl ?_)
      refine G_q rfl (zab (av := .xb y16.2) rfl ?_)
      refine G_nil (zaa (k_ret (kB_ret (kC_ret ?_))))
      obtain rfl := Option.some.inj h
      refine zal (endN (af' := (AF.put (AF.put AF0 (some 6) (.exact v17)) (some 7) (.xb y16.2))) (σ' := [vecT Tryz.prog 27 1 zad v17 y16.1]) _ rfl ?_ ⟨v17, rfl, rfl⟩)
      exact Sub.of_le (lq rfl (lq rfl lt0))
     ·replace h := ite_f h hc
      refine zaf (zag .free hmixP (by kernel_rfl) ?_)
      refine G_q rfl (op_eql rfl rfl ?_)
      refine G_q rfl (zab (av := .xb (decide (y3.1 = 35))) rfl ?_)
      refine G_nil (zaa ?_)
      refine zaj (p := y3.1 = 35) rfl (fun hc => ?_) (fun hc => ?_)
      ·replace h := ite_t h hc
       refine zaf (zag .free hmixP (by kernel_rfl) ?_)
       refine G_q rfl (zac (av := ndA a0) rfl ?_)
       refine G_q rfl (zac (av := .xi y1) rfl ?_)
       refine G_q rfl (op_eql rfl rfl ?_)
       refine G_q rfl (zac (av := .row 1 zad y2) rfl ?_)
       refine G_q rfl (zac (av := .exact w2) rfl ?_)
       obtain ⟨y18, hy18, h⟩ := bnd1_some h
       refine G_l rfl (op_fun_1_1_1 (m_pattern_node_compound_ok self_pattern_node_match hself_pattern_node_match _ _ _ _ _ hy18) Tryz.func73 (by kernel_rfl) (LEs.cons (AV.le_eq rfl) (LEs.cons (AV.le_eq rfl) (LEs.cons (AV.le_eq rfl) (LEs.cons (AV.le_eq rfl) LEs.nil)))) (fun v19 => ?_))
       refine G_q rfl (op_extract (av := .exact v19) rfl rfl ?_)
       refine G_q rfl (op_extract (av := .xb y18.2) rfl rfl ?_)
       refine G_q rfl (zab (av := .exact v19) rfl ?_)
       refine G_q rfl (zab (av := .xb y18.2) rfl ?_)
       refine G_nil (zaa (k_ret (kB_ret (kC_ret ?_))))
       obtain rfl := Option.some.inj h
       refine zal (endN (af' := (AF.put (AF.put AF0 (some 6) (.exact v19)) (some 7) (.xb y18.2))) (σ' := [vecT Tryz.prog 27 1 zad v19 y18.1]) _ rfl ?_ ⟨v19, rfl, rfl⟩)
       exact Sub.of_le (lq rfl (lq rfl lt0))
      ·replace h := ite_f h hc
       refine zaf (zag .free hmixP (by kernel_rfl) ?_)
       refine G_q rfl (op_eql rfl rfl ?_)
       refine G_q rfl (zab (av := .xb (decide (y3.1 = 37))) rfl ?_)
       refine G_nil (zaa ?_)
       refine zaj (p := y3.1 = 37) rfl (fun hc => ?_) (fun hc => ?_)
       ·replace h := ite_t h hc
        refine zaf (zag .free hmixP (by kernel_rfl) ?_)
        refine G_q rfl (zac (av := ndA a0) rfl ?_)
        refine G_q rfl (zac (av := .xi y1) rfl ?_)
        refine G_q rfl (op_eql rfl rfl ?_)
        refine G_q rfl (zac (av := .row 1 zad y2) rfl ?_)
        refine G_q rfl (zac (av := .exact w2) rfl ?_)
        obtain ⟨y20, hy20, h⟩ := bnd1_some h
        refine G_l rfl (op_fun_1_1_1 (m_pattern_node_compound_ok self_pattern_node_match hself_pattern_node_match _ _ _ _ _ hy20) Tryz.func73 (by kernel_rfl) (LEs.cons (AV.le_eq rfl) (LEs.cons (AV.le_eq rfl) (LEs.cons (AV.le_eq rfl) (LEs.cons (AV.le_eq rfl) LEs.nil)))) (fun v21 => ?_))
        refine G_q rfl (op_extract (av := .exact v21) rfl rfl ?_)
        refine G_q rfl (op_extract (av := .xb y20.2) rfl rfl ?_)
        refine G_q rfl (zab (av := .exact v21) rfl ?_)
        refine G_q rfl (zab (av := .xb y20.2) rfl ?_)
        refine G_nil (zaa (k_ret (kB_ret (kC_ret ?_))))
        obtain rfl := Option.some.inj h
        refine zal (endN (af' := (AF.put (AF.put AF0 (some 6) (.exact v21)) (some 7) (.xb y20.2))) (σ' := [vecT Tryz.prog 27 1 zad v21 y20.1]) _ rfl ?_ ⟨v21, rfl, rfl⟩)
        exact Sub.of_le (lq rfl (lq rfl lt0))
       ·replace h := ite_f h hc
        refine zaf (zag .free hmixP (by kernel_rfl) ?_)
        refine G_q rfl (op_eql rfl rfl ?_)
        refine G_q rfl (zab (av := .xb (decide (y3.1 = 38))) rfl ?_)
        refine G_nil (zaa ?_)
        refine zaj (p := y3.1 = 38) rfl (fun hc => ?_) (fun hc => ?_)
        ·replace h := ite_t h hc
         refine zaf ?_
         refine k_join1_0 h (fun (x101_j30 : Bool) => (AF.put (AF.put (AF.put (AF.put AF0 (some 0) (ndA a0)) (some 2) (.exact w2)) (some 9) (.row 1 zad y2)) (some 101) (.xb x101_j30))) (fun (x101_j30 : Bool) => [vecT Tryz.prog 27 1 zad w2 a2]) (fun k30 h => ?_) (fun x101_j30 h => ?_)
         ·refine k_plan [] [(0, 0), (0, 1), (0, 2), (0, 3), (0, 4), (0, 5), (0, 6), (0, 7), (0, 8), (0, 9), (0, 10), (0, 11), (0, 12)] hmixP (by kernel_rfl) ?_
          refine P_q no34_0 rfl (zac (av := .xi y1) rfl ?_)
          refine P_q no34_0 rfl (op_neq rfl rfl ?_)
          refine P_q no34_0 rfl (zac (av := .xb (decide (¬ y1 = 7))) rfl ?_)
          refine P_split (p := ¬ y1 = 7) 91 rfl (fun hc => ?_) (fun hc => ?_)
          ·replace h := ite_t h hc
           refine P_n no34_0 rfl rfl rfl ?_
           refine P_n no34_0 rfl rfl rfl ?_
           refine P_n no34_0 rfl rfl rfl ?_
           refine P_n no34_0 rfl rfl rfl ?_
           refine P_n no34_0 rfl rfl rfl ?_
           refine P_n no34_0 rfl rfl rfl ?_
           refine P_n no34_0 rfl rfl rfl ?_
           refine P_n no34_0 rfl rfl rfl ?_
           refine P_n no34_0 rfl rfl rfl ?_
           refine P_q no34_0 rfl (zao rfl (av := .xb true) rfl ?_)
           refine P_nil ?_
           refine zae ⟨_, h, ?_⟩
           exact Sub.of_le (lq rfl (lq rfl (lq rfl (lq rfl lt0))))
          ·replace h := ite_f h hc
           refine Py_q no34_0 rfl rfl rfl (zac (av := .row 1 zad y2) rfl ?_)
           obtain ⟨n34, h⟩ := need_some h
           refine Py_q no34_0 rfl rfl rfl (zaq (by kernel_rfl) rfl rfl n34.1 n34.2 ?_)
           refine Py_q no34_0 rfl rfl rfl (zap (a := .xs (gi y2 0)) (by kernel_rfl) rfl rfl ?_)
           obtain ⟨y35, hy35, h⟩ := bnd1_some h
           refine Py_q no34_0 rfl rfl rfl (zam (m_value_Number_ok _ _ hy35) Tryz.func72 (by kernel_rfl) (LEs.cons (AV.le_eq rfl) LEs.nil) ?_)
           refine Py_q no34_0 rfl rfl rfl (zac (av := ndA a0) rfl ?_)
           obtain ⟨y36, hy36, h⟩ := bnd1_some h
           refine Py_q no34_0 rfl rfl rfl (zar (c := zai y36) (ndA_un hy36) ?_)
           refine Py_q no34_0 rfl rfl rfl (zan (o := 1) (c' := (List.drop 1 (zai y36))) (by kernel_rfl) rfl rfl ?_)
           refine Py_q no34_0 rfl rfl rfl (zap (a := .xi y36.2.1) (by kernel_rfl) rfl rfl ?_)
           refine Py_q no34_0 rfl rfl rfl (op_neq rfl rfl ?_)
           refine P_q no34_0 rfl (zak rfl (av := .xb (decide (¬ y35 = y36.2.1))) rfl ?_)
           refine P_nil ?_
           refine zae ⟨_, h, ?_⟩
           exact Sub.of_le (lq rfl (lq rfl (lq rfl (lq rfl lt0))))
         ·refine k_cond_b (c := x101_j30) rfl (fun hc => ?_) (fun hc => ?_)
          ·replace h := ite_t h hc
           refine zaf (zag .free hmixP (by kernel_rfl) ?_)
           refine G_q rfl (zab (av := .exact (.slice none 0 0)) rfl ?_)
           refine G_q rfl (zab (av := .xb false) rfl ?_)
           refine G_nil (zaa (k_ret (kC_ret (kB_ret (kC_ret ?_)))))
           obtain rfl := Option.some.inj h
           refine zal (endN (af' := (AF.put (AF.put AF0 (some 6) (.exact (.slice none 0 0))) (some 7) (.xb false))) (σ' := [vecT Tryz.prog 27 1 zad (.slice none 0 0) []]) _ rfl ?_ ⟨(.slice none 0 0), rfl, rfl⟩)
           refine Sub.trans (SubU.to SubU.drop) ?_
           refine Sub.trans (SubU.to (SubU.nilT (P := Tryz.prog) (t := 27) (n := 1) (enc := zad))) ?_
           exact Sub.of_le (lq rfl (lq rfl lt0))
          ·replace h := ite_f h hc
           refine k_skip (zaa (zaf ?_))
           refine k_plan [] [(0, 0), (0, 1), (0, 2), (0, 3), (0, 4), (0, 5), (0, 6), (2, 7), (0, 8), (0, 9), (0, 10), (0, 11)] hmixP (by kernel_rfl) ?_
           refine P_q no34_0 rfl (zac (av := ndA a0) rfl ?_)
           obtain ⟨y37, hy37, h⟩ := bnd1_some h
           refine P_q no34_0 rfl (zar (c := zai y37) (ndA_un hy37) ?_)
           refine P_q no34_0 rfl (zan (o := 2) (c' := (List.drop 2 (zai y37))) (by kernel_rfl) rfl rfl ?_)
           refine P_q no34_0 rfl (zap (a := .row 1 c_P_pattern_node y37.2.2) (by kernel_rfl) rfl rfl ?_)
           refine P_q no34_0 rfl (zac (av := .row 1 zad y2) rfl ?_)
           obtain ⟨n38, h⟩ := need_some h
           refine P_q no34_0 rfl (op_slice_rowd (by kernel_rfl) rfl (bnd_some rfl) bnd_none (by decide) n38 (Int.le_refl _) ?_)
           refine P_q no34_0 rfl (zac (av := .exact w2) rfl ?_)
           obtain ⟨y39, hy39, h⟩ := bnd1_some h
           refine P_l rfl (op_fun_1_1_1 (m_pattern_each_ok self_pattern_node_match hself_pattern_node_match _ _ _ _ hy39) Tryz.func74 (by kernel_rfl) (LEs.cons (AV.le_eq rfl) (LEs.cons (AV.le_eq rfl) (LEs.cons (AV.le_eq rfl) LEs.nil))) (fun v40 => ?_))
           refine P_q no34_0 rfl (op_extract (av := .exact v40) rfl rfl ?_)
           refine P_q no34_0 rfl (op_extract (av := .xb y39.2) rfl rfl ?_)
           refine P_q no34_0 rfl (zab (av := .exact v40) rfl ?_)
           refine P_q no34_0 rfl (zab (av := .xb y39.2) rfl ?_)
           refine P_nil (zaa (k_ret (kB_ret (kC_ret ?_))))
           obtain rfl := Option.some.inj h
           refine zal (endN (af' := (AF.put (AF.put AF0 (some 6) (.exact v40)) (some 7) (.xb y39.2))) (σ' := [vecT Tryz.prog 27 1 zad v40 y39.1]) _ rfl ?_ ⟨v40, rfl, rfl⟩)
           exact Sub.of_le (lq rfl (lq rfl lt0))
        ·replace h := ite_f h hc
         refine zaf (zag .free hmixP (by kernel_rfl) ?_)
         refine G_q rfl (op_eql rfl rfl ?_)
         refine G_q rfl (zab (av := .xb (decide (y3.1 = 36))) rfl ?_)
         refine G_nil (zaa ?_)
         refine zaj (p := y3.1 = 36) rfl (fun hc => ?_) (fun hc => ?_)
         ·replace h := ite_t h hc
          refine zaf ?_
          refine k_join1_0 h (fun (x126_j45 : Bool) => (AF.put (AF.put (AF.put (AF.put AF0 (some 0) (ndA a0)) (some 2) (.exact w2)) (some 9) (.row 1 zad y2)) (some 126) (.xb x126_j45))) (fun (x126_j45 : Bool) => [vecT Tryz.prog 27 1 zad w2 a2]) (fun k45 h => ?_) (fun x126_j45 h => ?_)
          ·refine zag .free hmixP (by kernel_rfl) ?_
           refine G_q rfl (zac (av := .xi y1) rfl ?_)
           refine G_q rfl (op_neq rfl rfl ?_)
           refine G_q rfl (zac (av := .xb (decide (¬ y1 = 4))) rfl ?_)
           refine G_split (p := ¬ y1 = 4) 116 rfl (fun hc => ?_) (fun hc => ?_)
           ·replace h := ite_t h hc
            refine G_n rfl rfl (G_n rfl rfl (G_n rfl rfl (G_n rfl rfl (G_n rfl rfl (G_n rfl rfl (G_n rfl rfl (G_n rfl rfl (G_n rfl rfl ?_))))))))
            refine G_q rfl (zao rfl (av := .xb true) rfl ?_)
            refine G_nil ?_
            refine zae ⟨_, h, ?_⟩
            exact Sub.of_le (lq rfl (lq rfl (lq rfl (lq rfl lt0))))
           ·replace h := ite_f h hc
            refine Gy_q rfl rfl rfl (zac (av := .row 1 zad y2) rfl ?_)
            refine Gy_q rfl rfl rfl (op_len_row (by kernel_rfl) rfl ?_)
            refine Gy_q rfl rfl rfl (zac (av := ndA a0) rfl ?_)
            obtain ⟨y47, hy47, h⟩ := bnd1_some h
            refine Gy_q rfl rfl rfl (zar (c := zai y47) (ndA_un hy47) ?_)
            refine Gy_q rfl rfl rfl (zan (o := 2) (c' := (List.drop 2 (zai y47))) (by kernel_rfl) rfl rfl ?_)
            refine Gy_q rfl rfl rfl (zap (a := .row 1 c_P_pattern_node y47.2.2) (by kernel_rfl) rfl rfl ?_)
            refine Gy_q rfl rfl rfl (op_len_row (by kernel_rfl) rfl ?_)
            refine Gy_q rfl rfl rfl (op_sub rfl rfl rfl ?_)
            refine Gy_q rfl rfl rfl (op_lss rfl rfl ?_)
            refine G_q rfl (zak rfl (av := .xb (decide ((List.length y2 : Int) < (i64 ((List.length y47.2.2 : Int) - 1))))) rfl ?_)
            refine G_nil ?_
            refine zae ⟨_, h, ?_⟩
            exact Sub.of_le (lq rfl (lq rfl (lq rfl (lq rfl lt0))))
          ·refine k_cond_b (c := x126_j45) rfl (fun hc => ?_) (fun hc => ?_)
           ·replace h := ite_t h hc
            refine zaf (zag .free hmixP (by kernel_rfl) ?_)
            refine G_q rfl (zab (av := .exact (.slice none 0 0)) rfl ?_)
            refine G_q rfl (zab (av := .xb false) rfl ?_)
            refine G_nil (zaa (k_ret (kC_ret (kB_ret (kC_ret ?_)))))
            obtain rfl := Option.some.inj h
            refine zal (endN (af' := (AF.put (AF.put AF0 (some 6) (.exact (.slice none 0 0))) (some 7) (.xb false))) (σ' := [vecT Tryz.prog 27 1 zad (.slice none 0 0) []]) _ rfl ?_ ⟨(.slice none 0 0), rfl, rfl⟩)
            refine Sub.trans (SubU.to SubU.drop) ?_
            refine Sub.trans (SubU.to (SubU.nilT (P := Tryz.prog) (t := 27) (n := 1) (enc := zad))) ?_
            exact Sub.of_le (lq rfl (lq rfl lt0))
           ·replace h := ite_f h hc
            refine k_skip (zaa (zaf ?_))
            refine k_plan [] [(0, 0), (0, 1), (0, 2), (0, 3), (0, 4), (0, 5), (0, 6), (0, 7), (0, 8), (0, 9), (0, 10), (0, 11), (0, 12), (0, 13), (0, 14), (0, 15), (0, 16), (0, 17), (0, 18), (0, 19)] hmixP (by kernel_rfl) ?_
            refine P_q no34_0 rfl (zac (av := ndA a0) rfl ?_)
            obtain ⟨y48, hy48, h⟩ := bnd1_some h
            refine P_q no34_0 rfl (zar (c := zai y48) (ndA_un hy48) ?_)
            refine P_q no34_0 rfl (zan (o := 1) (c' := (List.drop 1 (zai y48))) (by kernel_rfl) rfl rfl ?_)
            refine P_q no34_0 rfl (zap (a := .xi y48.2.1) (by kernel_rfl) rfl rfl ?_)
            refine P_q no34_0 rfl (zac (av := .row 1 zad y2) rfl ?_)
            refine P_q no34_0 rfl (op_len_row (by kernel_rfl) rfl ?_)
            refine P_q no34_0 rfl (zac (av := ndA a0) rfl ?_)
            obtain ⟨y49, hy49, h⟩ := bnd1_some h
            refine P_q no34_0 rfl (zar (c := zai y49) (ndA_un hy49) ?_)
            refine P_q no34_0 rfl (zan (o := 2) (c' := (List.drop 2 (zai y49))) (by kernel_rfl) rfl rfl ?_)
            refine P_q no34_0 rfl (zap (a := .row 1 c_P_pattern_node y49.2.2) (by kernel_rfl) rfl rfl ?_)
            refine P_q no34_0 rfl (op_len_row (by kernel_rfl) rfl ?_)
            refine P_q no34_0 rfl (op_sub rfl rfl rfl ?_)
            refine P_q no34_0 rfl (zac (av := ndA a0) rfl ?_)
            obtain ⟨y50, hy50, h⟩ := bnd1_some h
            refine P_q no34_0 rfl (zar (c := zai y50) (ndA_un hy50) ?_)
            refine P_q no34_0 rfl (zan (o := 1) (c' := (List.drop 1 (zai y50))) (by kernel_rfl) rfl rfl ?_)
            refine P_q no34_0 rfl (zap (a := .xi y50.2.1) (by kernel_rfl) rfl rfl ?_)
            refine P_q no34_0 rfl (op_sub rfl rfl rfl ?_)
            refine P_q no34_0 rfl (op_sub rfl rfl rfl ?_)
            refine P_q no34_0 rfl (zab (av := .xi y48.2.1) rfl ?_)
            refine P_q no34_0 rfl (zab (av := .xi (i64 ((List.length y2 : Int) - (i64 ((i64 ((List.length y49.2.2 : Int) - 1)) - y50.2.1))))) rfl ?_)
            refine P_nil (zaa (zaf ?_))
            refine k_plan [] [(0, 0), (0, 1), (0, 2), (0, 3), (0, 4), (0, 5), (0, 6), (0, 7), (0, 8), (0, 9), (0, 10), (0, 11), (0, 12), (0, 13), (0, 14), (0, 15), (0, 16), (0, 17), (0, 18), (2, 19), (0, 20), (0, 21), (0, 22), (0, 23)] hmixP (by kernel_rfl) ?_
            refine P_q no34_0 rfl (zac (av := ndA a0) rfl ?_)
            obtain ⟨y51, hy51, h⟩ := bnd1_some h
            refine P_q no34_0 rfl (zar (c := zai y51) (ndA_un hy51) ?_)
            refine P_q no34_0 rfl (zan (o := 2) (c' := (List.drop 2 (zai y51))) (by kernel_rfl) rfl rfl ?_)
            refine P_q no34_0 rfl (zap (a := .row 1 c_P_pattern_node y51.2.2) (by kernel_rfl) rfl rfl ?_)
            refine P_q no34_0 rfl (zac (av := .row 1 zad y2) rfl ?_)
            refine P_q no34_0 rfl (zac (av := .xi y48.2.1) rfl ?_)
            obtain ⟨n52, h⟩ := need_some h
            refine P_q no34_0 rfl (op_slice_rowt (by kernel_rfl) rfl bnd_none (bnd_some rfl) (Int.le_refl 0) n52.1 n52.2 ?_)
            refine P_q no34_0 rfl (zac (av := .row 1 zad y2) rfl ?_)
            refine P_q no34_0 rfl (zac (av := .xi y48.2.1) rfl ?_)
            refine P_q no34_0 rfl (zac (av := .xi (i64 ((List.length y2 : Int) - (i64 ((i64 ((List.length y49.2.2 : Int) - 1)) - y50.2.1))))) rfl ?_)
            obtain ⟨n53, h⟩ := need_some h
            refine P_q no34_0 rfl (op_slice_row (by kernel_rfl) rfl (bnd_some rfl) (bnd_some rfl) n53.1 n53.2.1 n53.2.2 ?_)
            obtain ⟨y54, hy54, h⟩ := bnd1_some h
            refine P_q no34_0 rfl (zam (m_value_Seq_ok _ _ hy54) Tryz.func60 (by kernel_rfl) (LEs.cons (AV.le_eq rfl) LEs.nil) ?_)
            refine P_q no34_0 rfl (op_litT (n := 1) (enc := zad) [y54] (CellsAll.cons rfl CellsOf.str CellsAll.nil) rfl (by kernel_rfl) (LEss.cons (LEs.cons (AV.le_eq rfl) LEs.nil) LEss.nil) ?_)
            refine P_q no34_0 rfl (zac (av := .row 1 zad y2) rfl ?_)
            refine P_q no34_0 rfl (zac (av := .xi (i64 ((List.length y2 : Int) - (i64 ((i64 ((List.length y49.2.2 : Int) - 1)) - y50.2.1))))) rfl ?_)
            obtain ⟨n55, h⟩ := need_some h
            refine P_q no34_0 rfl (op_slice_rowd (by kernel_rfl) rfl (bnd_some rfl) bnd_none n55.1 n55.2 (Int.le_refl _) ?_)
            refine P_q no34_0 rfl (op_litT (n := 1) (enc := c_L_api_Value) [List.take (Int.toNat y48.2.1) y2, [y54], List.drop (Int.toNat (i64 ((List.length y2 : Int) - (i64 ((i64 ((List.length y49.2.2 : Int) - 1)) - y50.2.1))))) y2] (CellsAll.cons rfl CellsOf.row (CellsAll.cons rfl CellsOf.row (CellsAll.cons rfl CellsOf.row CellsAll.nil))) rfl (by kernel_rfl) (LEss.cons (LEs.cons (AV.le_eq rfl) LEs.nil) (LEss.cons (LEs.cons (AV.le_eq rfl) LEs.nil) (LEss.cons (LEs.cons (AV.le_eq rfl) LEs.nil) LEss.nil))) ?_)
            obtain ⟨y56, hy56, h⟩ := bnd1_some h
            refine P_q no34_0 rfl (zam (m_slices_Concat_L_api_Value_api_Value_ok _ _ hy56) Tryz.func64 (by kernel_rfl) (LEs.cons (AV.le_eq rfl) LEs.nil) ?_)
            refine P_q no34_0 rfl (zac (av := .exact w2) rfl ?_)
            obtain ⟨y57, hy57, h⟩ := bnd1_some h
            refine P_l rfl (op_fun_1_1_1 (m_pattern_each_ok self_pattern_node_match hself_pattern_node_match _ _ _ _ hy57) Tryz.func74 (by kernel_rfl) (LEs.cons (AV.le_eq rfl) (LEs.cons (AV.le_eq rfl) (LEs.cons (AV.le_eq rfl) LEs.nil))) (fun v58 => ?_))
            refine P_q no34_0 rfl (op_extract (av := .exact v58) rfl rfl ?_)
            refine P_q no34_0 rfl (op_extract (av := .xb y57.2) rfl rfl ?_)
            refine P_q no34_0 rfl (zab (av := .exact v58) rfl ?_)
            refine P_q no34_0 rfl (zab (av := .xb y57.2) rfl ?_)
            refine P_nil (zaa (k_ret (kB_ret (kC_ret ?_))))
            obtain rfl := Option.some.inj h
            refine zal (endN (af' := (AF.put (AF.put AF0 (some 6) (.exact v58)) (some 7) (.xb y57.2))) (σ' := [vecT Tryz.prog 27 1 zad v58 y57.1]) _ rfl ?_ ⟨v58, rfl, rfl⟩)
            exact Sub.of_le (lq rfl (lq rfl lt0))
         ·replace h := ite_f h hc
          refine zaf (zag .free hmixP (by kernel_rfl) ?_)
          refine G_q rfl (op_eql rfl rfl ?_)
          refine G_q rfl (zab (av := .xb (decide (y3.1 = 40))) rfl ?_)
          refine G_nil (zaa ?_)
          refine zaj (p := y3.1 = 40) rfl (fun hc => ?_) (fun hc => ?_)
          ·replace h := ite_t h hc
           refine zaf (zag .free hmixP (by kernel_rfl) ?_)
           refine G_q rfl (zac (av := ndA a0) rfl ?_)
           obtain ⟨y59, hy59, h⟩ := bnd1_some h
           refine G_q rfl (zar (c := zai y59) (ndA_un hy59) ?_)
           refine G_q rfl (zan (o := 2) (c' := (List.drop 2 (zai y59))) (by kernel_rfl) rfl rfl ?_)
           refine G_q rfl (zap (a := .row 1 c_P_pattern_node y59.2.2) (by kernel_rfl) rfl rfl ?_)
           refine G_q rfl (zac (av := .xs a1) rfl ?_)
           refine G_q rfl (zac (av := .xs a1) rfl ?_)
           refine G_q rfl (op_litT (n := 1) (enc := zad) [a1, a1] (CellsAll.cons rfl CellsOf.str (CellsAll.cons rfl CellsOf.str CellsAll.nil)) rfl (by kernel_rfl) (LEss.cons (LEs.cons (AV.le_eq rfl) LEs.nil) (LEss.cons (LEs.cons (AV.le_eq rfl) LEs.nil) LEss.nil)) ?_)
           refine G_q rfl (zac (av := .exact w2) rfl ?_)
           obtain ⟨y60, hy60, h⟩ := bnd1_some h
           refine G_l rfl (op_fun_1_1_1 (m_pattern_each_ok self_pattern_node_match hself_pattern_node_match _ _ _ _ hy60) Tryz.func74 (by kernel_rfl) (LEs.cons (AV.le_eq rfl) (LEs.cons (AV.le_eq rfl) (LEs.cons (AV.le_eq rfl) LEs.nil))) (fun v61 => ?_))
           refine G_q rfl (op_extract (av := .exact v61) rfl rfl ?_)
           refine G_q rfl (op_extract (av := .xb y60.2) rfl rfl ?_)
           refine G_q rfl (zab (av := .exact v61) rfl ?_)
           refine G_q rfl (zab (av := .xb y60.2) rfl ?_)
           refine G_nil (zaa (k_ret (kB_ret (kC_ret ?_))))
           obtain rfl := Option.some.inj h
           refine zal (endN (af' := (AF.put (AF.put AF0 (some 6) (.exact v61)) (some 7) (.xb y60.2))) (σ' := [vecT Tryz.prog 27 1 zad v61 y60.1]) _ rfl ?_ ⟨v61, rfl, rfl⟩)
           exact Sub.of_le (lq rfl (lq rfl lt0))
          ·replace h := ite_f h hc
           refine k_skip (kB_normal (zaa (zaf (zag .free hmixP (by kernel_rfl) ?_))))
           refine G_q rfl (zab (av := .exact (.slice none 0 0)) rfl ?_)
           refine G_q rfl (zab (av := .xb false) rfl ?_)
           refine G_nil (zaa (k_ret ?_))
           obtain rfl := Option.some.inj h
           refine zal (endN (af' := (AF.put (AF.put AF0 (some 6) (.exact (.slice none 0 0))) (some 7) (.xb false))) (σ' := [vecT Tryz.prog 27 1 zad (.slice none 0 0) []]) _ rfl ?_ ⟨(.slice none 0 0), rfl, rfl⟩)
           refine Sub.trans (SubU.to SubU.drop) ?_
           refine Sub.trans (SubU.to (SubU.nilT (P := Tryz.prog) (t := 27) (n := 1) (enc := zad))) ?_
           exact Sub.of_le (lq rfl (lq rfl lt0))
set_option maxHeartbeats 4000000 in
theorem m_pattern_node_match_S_ok : ∀ n : Nat, (∀ ⦃w2 : Value⦄ (a0 : Nd) (a1 : List UInt8) (a2 : List (List UInt8)) (r : (List (List UInt8)) × Bool), m_pattern_node_match_S n a0 a1 a2 = some r → Fun Tryz.prog 41 [(ndA a0), (.exact (.string (bs a1))), (.exact w2)] [vecT Tryz.prog 27 1 zad w2 a2] (fun a s => ∃ z0, a = .tup [.exact z0, .exact (.bool r.2)] ∧ s = [vecT Tryz.prog 27 1 zad z0 r.1]))
  | 0 => (fun _ _ _ _ _ h => by have h' : (none : Option _) = some _ := h; cases h')
  | n + 1 => by
    have ih := m_pattern_node_match_S_ok n
    exact fun w2 a0 a1 a2 r h => m_pattern_node_match_F_ok (m_pattern_node_match_S n) ih a0 a1 a2 r h
theorem m_pattern_node_match_ok {w2 : Value} (a0 : Nd) (a1 : List UInt8) (a2 : List (List UInt8)) (r : (List (List UInt8)) × Bool) (h : m_pattern_node_match a0 a1 a2 = some r) : Fun Tryz.prog 41 [(ndA a0), (.exact (.string (bs a1))), (.exact w2)] [vecT Tryz.prog 27 1 zad w2 a2] (fun a s => ∃ z0, a = .tup [.exact z0, .exact (.bool r.2)] ∧ s = [vecT Tryz.prog 27 1 zad z0 r.1]) := (m_pattern_node_match_S_ok FU) a0 a1 a2 r h
set_option maxHeartbeats 4000000 in
theorem m_pattern_Match_ok (a0 : List (Int × Int × Int)) (a1 : List UInt8) (r : (List (List UInt8)) × Bool) (h : m_pattern_Match a0 a1 = some r) : Pure Tryz.prog 13 [(.row 3 zah a0), (.exact (.string (bs a1)))] (.tup [.row 1 zad r.1, .exact (.bool r.2)]) := by
 unfold m_pattern_Match at h
 refine Pure.ofFun (fun_of_awp Tryz.func13 rfl Tryz.ntmps13 (by simp) rfl (res2 rfl) fun E hE => k_end ?_)
 refine zaf (zag .free hmixP (by kernel_rfl) ?_)
 refine G_q rfl (zab (av := .exact (.slice none 0 0)) rfl ?_)
 refine G_q rfl (zab (av := .xb false) rfl ?_)
 refine G_nil (zaa (zaf (zag .free hmixP (by kernel_rfl) ?_)))
 refine G_q rfl (zac (av := .row 3 zah a0) rfl ?_)
 obtain ⟨y1, hy1, h⟩ := bnd1_some h
 refine G_q rfl (zam (m_pattern_whole_ok _ _ hy1) Tryz.func34 (by kernel_rfl) (LEs.cons (AV.le_eq rfl) LEs.nil) ?_)
 refine G_q rfl (zac (av := .tup [ndA y1.1, .xb y1.2]) rfl ?_)
 refine G_q rfl (op_extract (av := ndA y1.1) rfl rfl ?_)
 refine G_q rfl (op_extract (av := .xb y1.2) rfl rfl ?_)
 refine G_q rfl (zab (av := ndA y1.1) rfl ?_)
 refine G_q rfl (zab (av := .xb y1.2) rfl ?_)
 refine G_nil (zaa (zaf ?_))
 refine k_join1_0 h (fun (x20_j6 : Bool) => (AF.put (AF.put (AF.put AF0 (some 1) (.xs a1)) (some 6) (ndA y1.1)) (some 20) (.xb x20_j6))) (fun (x20_j6 : Bool) => []) (fun k6 h => ?_) (fun x20_j6 h => ?_)
 ·refine zag .free hmixP (by kernel_rfl) ?_
  refine G_q rfl (zac (av := .xb y1.2) rfl ?_)
  refine G_q rfl (op_not rfl ?_)
  refine G_q rfl (zac (av := .xb (!y1.2)) rfl ?_)
  refine G_splitB (c := !y1.2) 16 rfl (fun hc => ?_) (fun hc => ?_)
  ·replace h := ite_t h hc
   refine G_n rfl rfl (G_n rfl rfl (G_n rfl rfl ?_))
   refine G_q rfl (zao rfl (av := .xb true) rfl ?_)
   refine G_nil ?_
   refine zae ⟨_, h, ?_⟩
   exact Sub.of_le (lq rfl (lq rfl (lq rfl lt0)))
  ·replace h := ite_f h hc
   refine Gy_q rfl rfl rfl (zac (av := .xs a1) rfl ?_)
   obtain ⟨y8, hy8, h⟩ := bnd1_some h
   refine Gy_q rfl rfl rfl (zam (m_value_Valid_ok _ _ hy8) Tryz.func38 (by kernel_rfl) (LEs.cons (AV.le_eq rfl) LEs.nil) ?_)
   refine Gy_q rfl rfl rfl (op_not rfl ?_)
   refine G_q rfl (zak rfl (av := .xb (!y8)) rfl ?_)
   refine G_nil ?_
   refine zae ⟨_, h, ?_⟩
   exact Sub.of_le (lq rfl (lq rfl (lq rfl lt0)))
 ·refine k_cond_b (c := x20_j6) rfl (fun hc => ?_) (fun hc => ?_)
  ·replace h := ite_t h hc
   refine zaf (zag .free hmixP (by kernel_rfl) ?_)
   refine G_q rfl (zab (av := .exact (.slice none 0 0)) rfl ?_)
   refine G_q rfl (zab (av := .xb false) rfl ?_)
   refine G_nil (zaa (k_ret (kC_ret ?_)))
   obtain rfl := Option.some.inj h
   refine zal (endN (af' := (AF.put (AF.put AF0 (some 4) (.row 1 zad [])) (some 5) (.xb false))) (σ' := []) _ rfl ?_ ⟨rfl, rfl⟩)
   exact Sub.of_le (lq rfl (AF.le_put (row_nil (by decide)) lt0))
  ·replace h := ite_f h hc
   refine k_skip (zaa (zaf (zag .free hmixP (by kernel_rfl) ?_)))
   refine G_q rfl (zac (av := ndA y1.1) rfl ?_)
   refine G_q rfl (zac (av := .xs a1) rfl ?_)
   refine G_sub rfl (SubU.nilT (P := Tryz.prog) (t := 27) (n := 1) (enc := zad)) ?_
   obtain ⟨y10, hy10, h⟩ := bnd1_some h
   refine G_l rfl (op_fun_1_1_1 (m_pattern_node_match_ok _ _ _ _ hy10) Tryz.func41 (by kernel_rfl) (LEs.cons (AV.le_eq rfl) (LEs.cons (AV.le_eq rfl) (LEs.cons (AV.le_eq rfl) LEs.nil))) (fun v11 => ?_))
   refine G_q rfl (zac (av := .tup [.exact v11, .xb y10.2]) rfl ?_)
   refine G_q rfl (op_extract (av := .exact v11) rfl rfl ?_)
   refine G_q rfl (op_extract (av := .xb y10.2) rfl rfl ?_)
   refine G_q rfl (zab (av := .exact v11) rfl ?_)
   refine G_q rfl (zab (av := .xb y10.2) rfl ?_)
   refine G_nil (zaa (zaf (zaf (zag .free hmixP (by kernel_rfl) ?_))))
   refine G_q rfl (zac (av := .xb y10.2) rfl ?_)
   refine G_q rfl (op_not rfl ?_)
   refine G_nil (zaa ?_)
   refine k_cond_b (c := !y10.2) rfl (fun hc => ?_) (fun hc => ?_)
   ·replace h := ite_t h hc
    refine zaf (zag .free hmixP (by kernel_rfl) ?_)
    refine G_q rfl (zab (av := .exact (.slice none 0 0)) rfl ?_)
    refine G_q rfl (zab (av := .xb false) rfl ?_)
    refine G_nil (zaa (k_ret (kC_ret ?_)))
    obtain rfl := Option.some.inj h
    refine zal (endN (af' := (AF.put (AF.put AF0 (some 4) (.row 1 zad [])) (some 5) (.xb false))) (σ' := []) _ rfl ?_ ⟨rfl, rfl⟩)
    refine Sub.trans (SubU.to SubU.drop) ?_
    exact Sub.of_le (lq rfl (AF.le_put (row_nil (by decide)) lt0))
   ·replace h := ite_f h hc
    refine k_skip (zaa (zaf (zag .free hmixP (by kernel_rfl) ?_)))
    refine G_q rfl (zac (av := .exact v11) rfl ?_)
    refine G_sub rfl (SubU.freezeT3 (s1 := 8) (s2 := 25) (s3 := 29) rfl rfl rfl len_c_api_Value) ?_
    obtain ⟨y12, hy12, h⟩ := bnd1_some h
    refine G_q rfl (zam (m_slices_Clip_L_api_Value_api_Value_ok _ _ hy12) Tryz.func42 (by kernel_rfl) (LEs.cons (AV.le_eq rfl) LEs.nil) ?_)
    refine G_q rfl (zab (av := .row 1 zad y12) rfl ?_)
    refine G_q rfl (zab (av := .xb true) rfl ?_)
    refine G_nil (zaa (k_ret ?_))
    obtain rfl := Option.some.inj h
    refine zal (endN (af' := (AF.put (AF.put AF0 (some 4) (.row 1 zad y12)) (some 5) (.xb true))) (σ' := []) _ rfl ?_ ⟨rfl, rfl⟩)
    exact Sub.of_le (lq rfl (lq rfl lt0))
set_option maxHeartbeats 4000000 in
theorem m_pattern_Irrefutable_1_ok (a0 : Nd) (r : Bool) (h : m_pattern_Irrefutable_1 a0 = some r) : Pure Tryz.prog 45 [(ndA a0)] (.exact (.bool r)) := by
 unfold m_pattern_Irrefutable_1 at h
 refine Pure.ofFun (fun_of_awp Tryz.func45 rfl Tryz.ntmps45 (by simp) rfl (res1 rfl) fun E hE => k_end ?_)
 refine zaf (zag .free hmixP (by kernel_rfl) ?_)
 refine G_q rfl (zab (av := .xb false) rfl ?_)
 refine G_nil (zaa ?_)
 refine k_join1_0 h (fun (x2_j1 : Bool) => (AF.put AF0 (some 2) (.xb x2_j1))) (fun (x2_j1 : Bool) => []) (fun k1 h => ?_) (fun x2_j1 h => ?_)
 ·refine zag .free hmixP (by kernel_rfl) ?_
  refine G_q rfl (zac (av := ndA a0) rfl ?_)
  obtain ⟨y6, hy6, h⟩ := bnd1_some h
  refine G_q rfl (zar (c := zai y6) (ndA_un hy6) ?_)
  refine G_q rfl (zan (o := 0) (c' := (List.drop 0 (zai y6))) (by kernel_rfl) rfl rfl ?_)
  refine G_q rfl (zap (a := .xi y6.1) (by kernel_rfl) rfl rfl ?_)
  refine G_q rfl (op_eql rfl rfl ?_)
  refine G_q rfl (zac (av := .xb (decide (y6.1 = 30))) rfl ?_)
  refine G_split (p := y6.1 = 30) 8 rfl (fun hc => ?_) (fun hc => ?_)
  ·replace h := ite_t h hc
   refine G_n rfl rfl (G_n rfl rfl (G_n rfl rfl (G_n rfl rfl (G_n rfl rfl ?_))))
   refine G_q rfl (zao rfl (av := .xb true) rfl ?_)
   refine G_q rfl (zac (av := .xb true) rfl ?_)
   refine G_n rfl rfl (G_n rfl rfl (G_n rfl rfl (G_n rfl rfl (G_n rfl rfl ?_))))
   refine G_q rfl (zao rfl (av := .xb true) rfl ?_)
   refine G_q rfl (zac (av := .xb true) rfl ?_)
   refine G_n rfl rfl (G_n rfl rfl (G_n rfl rfl (G_n rfl rfl (G_n rfl rfl ?_))))
   refine G_q rfl (zao rfl (av := .xb true) rfl ?_)
   refine G_q rfl (zab (av := .xb true) rfl ?_)
   refine G_nil ?_
   refine zae ⟨_, h, ?_⟩
   exact Sub.of_le (lq rfl lt0)
  ·replace h := ite_f h hc
   refine Gy_q rfl rfl rfl (zac (av := ndA a0) rfl ?_)
   obtain ⟨y7, hy7, h⟩ := bnd1_some h
   refine Gy_q rfl rfl rfl (zar (c := zai y7) (ndA_un hy7) ?_)
   refine Gy_q rfl rfl rfl (zan (o := 0) (c' := (List.drop 0 (zai y7))) (by kernel_rfl) rfl rfl ?_)
   refine Gy_q rfl rfl rfl (zap (a := .xi y7.1) (by kernel_rfl) rfl rfl ?_)
   refine Gy_q rfl rfl rfl (op_eql rfl rfl ?_)
   refine G_q rfl (zak rfl (av := .xb (decide (y7.1 = 31))) rfl ?_)
   refine G_q rfl (zac (av := .xb (decide (y7.1 = 31))) rfl ?_)
   refine G_split (p := y7.1 = 31) 15 rfl (fun hc => ?_) (fun hc => ?_)
   ·replace h := ite_t h hc
    refine G_n rfl rfl (G_n rfl rfl (G_n rfl rfl (G_n rfl rfl (G_n rfl rfl ?_))))
    refine G_q rfl (zao rfl (av := .xb true) rfl ?_)
    refine G_q rfl (zac (av := .xb true) rfl ?_)
    refine G_n rfl rfl (G_n rfl rfl (G_n rfl rfl (G_n rfl rfl (G_n rfl rfl ?_))))
    refine G_q rfl (zao rfl (av := .xb true) rfl ?_)
    refine G_q rfl (zab (av := .xb true) rfl ?_)
    refine G_nil ?_
    refine zae ⟨_, h, ?_⟩
    exact Sub.of_le (lq rfl lt0)
   ·replace h := ite_f h hc
    refine Gy_q rfl rfl rfl (zac (av := ndA a0) rfl ?_)
    obtain ⟨y8, hy8, h⟩ := bnd1_some h
    refine Gy_q rfl rfl rfl (zar (c := zai y8) (ndA_un hy8) ?_)
    refine Gy_q rfl rfl rfl (zan (o := 0) (c' := (List.drop 0 (zai y8))) (by kernel_rfl) rfl rfl ?_)
    refine Gy_q rfl rfl rfl (zap (a := .xi y8.1) (by kernel_rfl) rfl rfl ?_)
    refine Gy_q rfl rfl rfl (op_eql rfl rfl ?_)
    refine G_q rfl (zak rfl (av := .xb (decide (y8.1 = 34))) rfl ?_)
    refine G_q rfl (zac (av := .xb (decide (y8.1 = 34))) rfl ?_)
    refine G_split (p := y8.1 = 34) 22 rfl (fun hc => ?_) (fun hc => ?_)
    ·replace h := ite_t h hc
     refine G_n rfl rfl (G_n rfl rfl (G_n rfl rfl (G_n rfl rfl (G_n rfl rfl ?_))))
     refine G_q rfl (zao rfl (av := .xb true) rfl ?_)
     refine G_q rfl (zab (av := .xb true) rfl ?_)
     refine G_nil ?_
     refine zae ⟨_, h, ?_⟩
     exact Sub.of_le (lq rfl lt0)
    ·replace h := ite_f h hc
     refine Gy_q rfl rfl rfl (zac (av := ndA a0) rfl ?_)
     obtain ⟨y9, hy9, h⟩ := bnd1_some h
     refine Gy_q rfl rfl rfl (zar (c := zai y9) (ndA_un hy9) ?_)
     refine Gy_q rfl rfl rfl (zan (o := 0) (c' := (List.drop 0 (zai y9))) (by kernel_rfl) rfl rfl ?_)
     refine Gy_q rfl rfl rfl (zap (a := .xi y9.1) (by kernel_rfl) rfl rfl ?_)
     refine Gy_q rfl rfl rfl (op_eql rfl rfl ?_)
     refine G_q rfl (zak rfl (av := .xb (decide (y9.1 = 40))) rfl ?_)
     refine G_q rfl (zab (av := .xb (decide (y9.1 = 40))) rfl ?_)
     refine G_nil ?_
     refine zae ⟨_, h, ?_⟩
     exact Sub.of_le (lq rfl lt0)
 ·refine k_ret ?_
  obtain rfl := Option.some.inj h
  refine zal (endN (af' := (AF.put AF0 (some 2) (.xb x2_j1))) (σ' := []) _ rfl ?_ ⟨rfl, rfl⟩)
  exact Sub.of_le (lq rfl lt0)
set_option maxHeartbeats 4000000 in
theorem m_pattern_Irrefutable_ok (a0 : List (Int × Int × Int)) (r : Bool) (h : m_pattern_Irrefutable a0 = some r) : Pure Tryz.prog 20 [(.row 3 zah a0)] (.exact (.bool r)) := by
 unfold m_pattern_Irrefutable at h
 refine Pure.ofFun (fun_of_awp Tryz.func20 rfl Tryz.ntmps20 (by simp) rfl (res1 rfl) fun E hE => k_end ?_)
 refine zaf (zag .free hmixP (by kernel_rfl) ?_)
 refine G_q rfl (zab (av := .xb false) rfl ?_)
 refine G_nil (zaa (zaf (zag .free hmixP (by kernel_rfl) ?_)))
 refine G_q rfl (zac (av := .row 3 zah a0) rfl ?_)
 obtain ⟨y1, hy1, h⟩ := bnd1_some h
 refine G_q rfl (zam (m_pattern_whole_ok _ _ hy1) Tryz.func34 (by kernel_rfl) (LEs.cons (AV.le_eq rfl) LEs.nil) ?_)
 refine G_q rfl (zac (av := .tup [ndA y1.1, .xb y1.2]) rfl ?_)
 refine G_q rfl (op_extract (av := ndA y1.1) rfl rfl ?_)
 refine G_q rfl (op_extract (av := .xb y1.2) rfl rfl ?_)
 refine G_q rfl (zab (av := ndA y1.1) rfl ?_)
 refine G_q rfl (zab (av := .xb y1.2) rfl ?_)
 refine G_nil (zaa ?_)
 refine k_join1_0 h (fun (x2_j2 : Bool) => (AF.put AF0 (some 2) (.xb x2_j2))) (fun (x2_j2 : Bool) => []) (fun k2 h => ?_) (fun x2_j2 h => ?_)
 ·refine zag .free hmixP (by kernel_rfl) ?_
  refine G_q rfl (zac (av := .xb y1.2) rfl ?_)
  refine G_q rfl (zac (av := .xb y1.2) rfl ?_)
  refine G_splitB (c := y1.2) 11 rfl (fun hc => ?_) (fun hc => ?_)
  ·replace h := ite_t h hc
   refine Gy_q rfl rfl rfl (zac (av := ndA y1.1) rfl ?_)
   obtain ⟨y4, hy4, h⟩ := bnd1_some h
   refine Gy_q rfl rfl rfl (zam (m_pattern_node_all_ok _ _ _ hy4) Tryz.func35 (by kernel_rfl) (LEs.cons (AV.le_eq rfl) (LEs.cons ((fn_le Tryz.func45 (by kernel_rfl) (fun i r h => m_pattern_Irrefutable_1_ok i r h))) LEs.nil)) ?_)
   refine G_q rfl (zao rfl (av := .xb y4) rfl ?_)
   refine G_q rfl (zab (av := .xb y4) rfl ?_)
   refine G_nil ?_
   refine zae ⟨_, h, ?_⟩
   exact Sub.of_le (lq rfl lt0)
  ·replace h := ite_f h hc
   refine G_n rfl rfl (G_n rfl rfl ?_)
   refine G_q rfl (zak rfl (av := .xb false) rfl ?_)
   refine G_q rfl (zab (av := .xb false) rfl ?_)
   refine G_nil ?_
   refine zae ⟨_, h, ?_⟩
   exact Sub.of_le (lq rfl lt0)
 ·refine k_ret ?_
  obtain rfl := Option.some.inj h
  refine zal (endN (af' := (AF.put AF0 (some 2) (.xb x2_j2))) (σ' := []) _ rfl ?_ ⟨rfl, rfl⟩)
  exact Sub.of_le (lq rfl lt0)
set_option maxHeartbeats 4000000 in
theorem m_law12_awake_ok  (r : Bool) (h : m_law12_awake = some r) : Pure Tryz.prog 12 [] (.exact (.bool r)) := by
 unfold m_law12_awake at h
 refine Pure.ofFun (fun_of_awp Tryz.func12 rfl Tryz.ntmps12 (by simp) rfl (res1 rfl) fun E hE => k_end ?_)
 refine zaf (zag .free hmixP (by kernel_rfl) ?_)
 refine G_q rfl (zab (av := .xb false) rfl ?_)
 refine G_nil (zaa (zaf (zag .free hmixP (by kernel_rfl) ?_)))
 obtain ⟨y1, hy1, h⟩ := bnd1_some h
 refine G_q rfl (zam (m_law12_node_ok _ _ _ _ hy1) Tryz.func17 (by kernel_rfl) (LEs.cons (AV.le_eq rfl) (LEs.cons (AV.le_eq rfl) (LEs.cons (row_nil (by decide)) LEs.nil))) ?_)
 obtain ⟨y2, hy2, h⟩ := bnd1_some h
 refine G_q rfl (zam (m_law12_node_ok _ _ _ _ hy2) Tryz.func17 (by kernel_rfl) (LEs.cons (AV.le_eq rfl) (LEs.cons (AV.le_eq rfl) (LEs.cons (row_nil (by decide)) LEs.nil))) ?_)
 refine G_q rfl (op_litT (n := 1) (enc := c_L_api_Code) [y1, y2] (CellsAll.cons rfl CellsOf.row (CellsAll.cons rfl CellsOf.row CellsAll.nil)) rfl (by kernel_rfl) (LEss.cons (LEs.cons (AV.le_eq rfl) LEs.nil) (LEss.cons (LEs.cons (AV.le_eq rfl) LEs.nil) LEss.nil)) ?_)
 obtain ⟨y3, hy3, h⟩ := bnd1_some h
 refine G_q rfl (zam (m_law12_node_ok _ _ _ _ hy3) Tryz.func17 (by kernel_rfl) (LEs.cons (AV.le_eq rfl) (LEs.cons (AV.le_eq rfl) (LEs.cons (AV.le_eq rfl) LEs.nil))) ?_)
 refine G_q rfl (zab (av := .row 3 zah y3) rfl ?_)
 refine G_nil (zaa (zaf (zag .free hmixP (by kernel_rfl) ?_)))
 obtain ⟨y4, hy4, h⟩ := bnd1_some h
 refine G_q rfl (zam (m_ref9_Int_ok _ _ hy4) Tryz.func33 (by kernel_rfl) (LEs.cons (AV.le_eq rfl) LEs.nil) ?_)
 obtain ⟨y5, hy5, h⟩ := bnd1_some h
 refine G_q rfl (zam (m_ref9_Int_ok _ _ hy5) Tryz.func33 (by kernel_rfl) (LEs.cons (AV.le_eq rfl) LEs.nil) ?_)
 refine G_q rfl (op_litT (n := 1) (enc := zad) [y4, y5] (CellsAll.cons rfl CellsOf.str (CellsAll.cons rfl CellsOf.str CellsAll.nil)) rfl (by kernel_rfl) (LEss.cons (LEs.cons (AV.le_eq rfl) LEs.nil) (LEss.cons (LEs.cons (AV.le_eq rfl) LEs.nil) LEss.nil)) ?_)
 obtain ⟨y6, hy6, h⟩ := bnd1_some h
 refine G_q rfl (zam (m_ref9_Make_ok _ _ _ hy6) Tryz.func19 (by kernel_rfl) (LEs.cons (AV.le_eq rfl) (LEs.cons (AV.le_eq rfl) LEs.nil)) ?_)
 refine G_q rfl (zab (av := .xs y6) rfl ?_)
 refine G_nil (zaa (zaf (zag .free hmixP (by kernel_rfl) ?_)))
 refine G_q rfl (zac (av := .row 3 zah y3) rfl ?_)
 refine G_q rfl (zac (av := .xs y6) rfl ?_)
 obtain ⟨y7, hy7, h⟩ := bnd1_some h
 refine G_q rfl (zam (m_pattern_Match_ok _ _ _ hy7) Tryz.func13 (by kernel_rfl) (LEs.cons (AV.le_eq rfl) (LEs.cons (AV.le_eq rfl) LEs.nil)) ?_)
 refine G_q rfl (zac (av := .tup [.row 1 zad y7.1, .xb y7.2]) rfl ?_)
 refine G_q rfl (op_extract (av := .row 1 zad y7.1) rfl rfl ?_)
 refine G_q rfl (op_extract (av := .xb y7.2) rfl rfl ?_)
 refine G_q rfl (zab (av := .row 1 zad y7.1) rfl ?_)
 refine G_q rfl (zab (av := .xb y7.2) rfl ?_)
 refine G_nil (zaa (zaf (zag .free hmixP (by kernel_rfl) ?_)))
 refine G_q rfl (zac (av := .row 3 zah y3) rfl ?_)
 refine G_q rfl (zac (av := .row 1 zad y7.1) rfl ?_)
 obtain ⟨y8, hy8, h⟩ := bnd1_some h
 refine G_q rfl (zam (m_pattern_Build_ok _ _ _ hy8) Tryz.func10 (by kernel_rfl) (LEs.cons (AV.le_eq rfl) (LEs.cons (AV.le_eq rfl) LEs.nil)) ?_)
 refine G_q rfl (zac (av := .tup [.xs y8.1, .xb y8.2]) rfl ?_)
 refine G_q rfl (op_extract (av := .xs y8.1) rfl rfl ?_)
 refine G_q rfl (op_extract (av := .xb y8.2) rfl rfl ?_)
 refine G_q rfl (zab (av := .xs y8.1) rfl ?_)
 refine G_q rfl (zab (av := .xb y8.2) rfl ?_)
 refine G_nil (zaa ?_)
 refine k_join1_0 h (fun (x0_j9 : Bool) => (AF.put AF0 (some 0) (.xb x0_j9))) (fun (x0_j9 : Bool) => []) (fun k9 h => ?_) (fun x0_j9 h => ?_)
 ·refine k_plan [] [(0, 0), (0, 1), (0, 2), (0, 3), (0, 4), (0, 5), (0, 6), (0, 7), (0, 8), (0, 9), (0, 10), (0, 11), (0, 12), (0, 13), (0, 14), (0, 15), (0, 16), (0, 17), (0, 18), (0, 19), (0, 20), (0, 21), (0, 22), (0, 23), (0, 24), (0, 25), (0, 26), (0, 27), (0, 28), (0, 29), (0, 30), (0, 31)] hmixP (by kernel_rfl) ?_
  refine P_q no34_0 rfl (zac (av := .xb y7.2) rfl ?_)
  refine P_q no34_0 rfl (zac (av := .xb y7.2) rfl ?_)
  refine P_splitB (c := y7.2) 28 rfl (fun hc => ?_) (fun hc => ?_)
  ·replace h := ite_t h hc
   refine Py_q no34_0 rfl rfl rfl (zac (av := .row 1 zad y7.1) rfl ?_)
   refine Py_q no34_0 rfl rfl rfl (op_len_row (by kernel_rfl) rfl ?_)
   refine Py_q no34_0 rfl rfl rfl (op_eql rfl rfl ?_)
   refine P_q no34_0 rfl (zao rfl (av := .xb (decide ((List.length y7.1 : Int) = 2))) rfl ?_)
   refine P_q no34_0 rfl (zac (av := .xb (decide ((List.length y7.1 : Int) = 2))) rfl ?_)
   refine P_split (p := (List.length y7.1 : Int) = 2) 33 rfl (fun hc => ?_) (fun hc => ?_)
   ·replace h := ite_t h hc
    refine Py_q no34_0 rfl rfl rfl (zac (av := .row 1 zad y7.1) rfl ?_)
    obtain ⟨n14, h⟩ := need_some h
    refine Py_q no34_0 rfl rfl rfl (zaq (by kernel_rfl) rfl rfl n14.1 n14.2 ?_)
    refine Py_q no34_0 rfl rfl rfl (zap (a := .xs (gi y7.1 0)) (by kernel_rfl) rfl rfl ?_)
    obtain ⟨y15, hy15, h⟩ := bnd1_some h
    refine Py_q no34_0 rfl rfl rfl (zam (m_ref9_Int_ok _ _ hy15) Tryz.func33 (by kernel_rfl) (LEs.cons (AV.le_eq rfl) LEs.nil) ?_)
    refine Py_q no34_0 rfl rfl rfl (op_eqlS rfl rfl ?_)
    refine P_q no34_0 rfl (zao rfl (av := .xb (decide ((gi y7.1 0) = y15))) rfl ?_)
    refine P_q no34_0 rfl (zac (av := .xb (decide ((gi y7.1 0) = y15))) rfl ?_)
    refine P_split (p := (gi y7.1 0) = y15) 40 rfl (fun hc => ?_) (fun hc => ?_)
    ·replace h := ite_t h hc
     refine Py_q no34_0 rfl rfl rfl (zac (av := .row 3 zah y3) rfl ?_)
     obtain ⟨y16, hy16, h⟩ := bnd1_some h
     refine Py_q no34_0 rfl rfl rfl (zam (m_pattern_Vars_ok _ _ hy16) Tryz.func16 (by kernel_rfl) (LEs.cons (AV.le_eq rfl) LEs.nil) ?_)
     refine Py_q no34_0 rfl rfl rfl (op_eql rfl rfl ?_)
     refine P_q no34_0 rfl (zao rfl (av := .xb (decide (y16 = 2))) rfl ?_)
     refine P_q no34_0 rfl (zac (av := .xb (decide (y16 = 2))) rfl ?_)
     refine P_split (p := y16 = 2) 45 rfl (fun hc => ?_) (fun hc => ?_)
     ·replace h := ite_t h hc
      refine Py_q no34_0 rfl rfl rfl (zac (av := .xb y8.2) rfl ?_)
      refine P_q no34_0 rfl (zao rfl (av := .xb y8.2) rfl ?_)
      refine P_q no34_0 rfl (zac (av := .xb y8.2) rfl ?_)
      refine P_splitB (c := y8.2) 48 rfl (fun hc => ?_) (fun hc => ?_)
      ·replace h := ite_t h hc
       refine Py_q no34_0 rfl rfl rfl (zac (av := .xs y8.1) rfl ?_)
       refine Py_q no34_0 rfl rfl rfl (zac (av := .xs y6) rfl ?_)
       refine Py_q no34_0 rfl rfl rfl (op_eqlS rfl rfl ?_)
       refine P_q no34_0 rfl (zao rfl (av := .xb (decide (y8.1 = y6))) rfl ?_)
       refine P_q no34_0 rfl (zac (av := .xb (decide (y8.1 = y6))) rfl ?_)
       refine P_split (p := y8.1 = y6) 53 rfl (fun hc => ?_) (fun hc => ?_)
       ·replace h := ite_t h hc
        refine Py_q no34_0 rfl rfl rfl (zac (av := .row 3 zah y3) rfl ?_)
        obtain ⟨y17, hy17, h⟩ := bnd1_some h
        refine Py_q no34_0 rfl rfl rfl (zam (m_pattern_Irrefutable_ok _ _ hy17) Tryz.func20 (by kernel_rfl) (LEs.cons (AV.le_eq rfl) LEs.nil) ?_)
        refine Py_q no34_0 rfl rfl rfl (op_not rfl ?_)
        refine P_q no34_0 rfl (zao rfl (av := .xb (!y17)) rfl ?_)
        refine P_q no34_0 rfl (zab (av := .xb (!y17)) rfl ?_)
        refine P_nil ?_
        refine zae ⟨_, h, ?_⟩
        exact Sub.of_le (lq rfl lt0)
       ·replace h := ite_f h hc
        refine P_n no34_0 rfl rfl rfl ?_
        refine P_n no34_0 rfl rfl rfl ?_
        refine P_n no34_0 rfl rfl rfl ?_
        refine P_q no34_0 rfl (zak rfl (av := .xb false) rfl ?_)
        refine P_q no34_0 rfl (zab (av := .xb false) rfl ?_)
        refine P_nil ?_
        refine zae ⟨_, h, ?_⟩
        exact Sub.of_le (lq rfl lt0)
      ·replace h := ite_f h hc
       refine P_n no34_0 rfl rfl rfl ?_
       refine P_n no34_0 rfl rfl rfl ?_
       refine P_n no34_0 rfl rfl rfl ?_
       refine P_q no34_0 rfl (zak rfl (av := .xb false) rfl ?_)
       refine P_q no34_0 rfl (zac (av := .xb false) rfl ?_)
       refine P_n no34_0 rfl rfl rfl ?_
       refine P_n no34_0 rfl rfl rfl ?_
       refine P_n no34_0 rfl rfl rfl ?_
       refine P_q no34_0 rfl (zak rfl (av := .xb false) rfl ?_)
       refine P_q no34_0 rfl (zab (av := .xb false) rfl ?_)
       refine P_nil ?_
       refine zae ⟨_, h, ?_⟩
       exact Sub.of_le (lq rfl lt0)
     ·replace h := ite_f h hc
      refine P_n no34_0 rfl rfl rfl ?_
      refine P_q no34_0 rfl (zak rfl (av := .xb false) rfl ?_)
      refine P_q no34_0 rfl (zac (av := .xb false) rfl ?_)
      refine P_n no34_0 rfl rfl rfl ?_
      refine P_n no34_0 rfl rfl rfl ?_
      refine P_n no34_0 rfl rfl rfl ?_
      refine P_q no34_0 rfl (zak rfl (av := .xb false) rfl ?_)
      refine P_q no34_0 rfl (zac (av := .xb false) rfl ?_)
      refine P_n no34_0 rfl rfl rfl ?_
      refine P_n no34_0 rfl rfl rfl ?_
      refine P_n no34_0 rfl rfl rfl ?_
      refine P_q no34_0 rfl (zak rfl (av := .xb false) rfl ?_)
      refine P_q no34_0 rfl (zab (av := .xb false) rfl ?_)
      refine P_nil ?_
      refine zae ⟨_, h, ?_⟩
      exact Sub.of_le (lq rfl lt0)
    ·replace h := ite_f h hc
     refine P_n no34_0 rfl rfl rfl ?_
     refine P_n no34_0 rfl rfl rfl ?_
     refine P_n no34_0 rfl rfl rfl ?_
     refine P_q no34_0 rfl (zak rfl (av := .xb false) rfl ?_)
     refine P_q no34_0 rfl (zac (av := .xb false) rfl ?_)
     refine P_n no34_0 rfl rfl rfl ?_
     refine P_q no34_0 rfl (zak rfl (av := .xb false) rfl ?_)
     refine P_q no34_0 rfl (zac (av := .xb false) rfl ?_)
     refine P_n no34_0 rfl rfl rfl ?_
     refine P_n no34_0 rfl rfl rfl ?_
     refine P_n no34_0 rfl rfl rfl ?_
     refine P_q no34_0 rfl (zak rfl (av := .xb false) rfl ?_)
     refine P_q no34_0 rfl (zac (av := .xb false) rfl ?_)
     refine P_n no34_0 rfl rfl rfl ?_
     refine P_n no34_0 rfl rfl rfl ?_
     refine P_n no34_0 rfl rfl rfl ?_
     refine P_q no34_0 rfl (zak rfl (av := .xb false) rfl ?_)
     refine P_q no34_0 rfl (zab (av := .xb false) rfl ?_)
     refine P_nil ?_
     refine zae ⟨_, h, ?_⟩
     exact Sub.of_le (lq rfl lt0)
   ·replace h := ite_f h hc
    refine P_n no34_0 rfl rfl rfl ?_
    refine P_n no34_0 rfl rfl rfl ?_
    refine P_n no34_0 rfl rfl rfl ?_
    refine P_n no34_0 rfl rfl rfl ?_
    refine P_n no34_0 rfl rfl rfl ?_
    refine P_q no34_0 rfl (zak rfl (av := .xb false) rfl ?_)
    refine P_q no34_0 rfl (zac (av := .xb false) rfl ?_)
    refine P_n no34_0 rfl rfl rfl ?_
    refine P_n no34_0 rfl rfl rfl ?_
    refine P_n no34_0 rfl rfl rfl ?_
    refine P_q no34_0 rfl (zak rfl (av := .xb false) rfl ?_)
    refine P_q no34_0 rfl (zac (av := .xb false) rfl ?_)
    refine P_n no34_0 rfl rfl rfl ?_
    refine P_q no34_0 rfl (zak rfl (av := .xb false) rfl ?_)
    refine P_q no34_0 rfl (zac (av := .xb false) rfl ?_)
    refine P_n no34_0 rfl rfl rfl ?_
    refine P_n no34_0 rfl rfl rfl ?_
    refine P_n no34_0 rfl rfl rfl ?_
    refine P_q no34_0 rfl (zak rfl (av := .xb false) rfl ?_)
    refine P_q no34_0 rfl (zac (av := .xb false) rfl ?_)
    refine P_n no34_0 rfl rfl rfl ?_
    refine P_n no34_0 rfl rfl rfl ?_
    refine P_n no34_0 rfl rfl rfl ?_
    refine P_q no34_0 rfl (zak rfl (av := .xb false) rfl ?_)
    refine P_q no34_0 rfl (zab (av := .xb false) rfl ?_)
    refine P_nil ?_
    refine zae ⟨_, h, ?_⟩
    exact Sub.of_le (lq rfl lt0)
  ·replace h := ite_f h hc
   refine P_n no34_0 rfl rfl rfl ?_
   refine P_n no34_0 rfl rfl rfl ?_
   refine P_n no34_0 rfl rfl rfl ?_
   refine P_q no34_0 rfl (zak rfl (av := .xb false) rfl ?_)
   refine P_q no34_0 rfl (zac (av := .xb false) rfl ?_)
   refine P_n no34_0 rfl rfl rfl ?_
   refine P_n no34_0 rfl rfl rfl ?_
   refine P_n no34_0 rfl rfl rfl ?_
   refine P_n no34_0 rfl rfl rfl ?_
   refine P_n no34_0 rfl rfl rfl ?_
   refine P_q no34_0 rfl (zak rfl (av := .xb false) rfl ?_)
   refine P_q no34_0 rfl (zac (av := .xb false) rfl ?_)
   refine P_n no34_0 rfl rfl rfl ?_
   refine P_n no34_0 rfl rfl rfl ?_
   refine P_n no34_0 rfl rfl rfl ?_
   refine P_q no34_0 rfl (zak rfl (av := .xb false) rfl ?_)
   refine P_q no34_0 rfl (zac (av := .xb false) rfl ?_)
   refine P_n no34_0 rfl rfl rfl ?_
   refine P_q no34_0 rfl (zak rfl (av := .xb false) rfl ?_)
   refine P_q no34_0 rfl (zac (av := .xb false) rfl ?_)
   refine P_n no34_0 rfl rfl rfl ?_
   refine P_n no34_0 rfl rfl rfl ?_
   refine P_n no34_0 rfl rfl rfl ?_
   refine P_q no34_0 rfl (zak rfl (av := .xb false) rfl ?_)
   refine P_q no34_0 rfl (zac (av := .xb false) rfl ?_)
   refine P_n no34_0 rfl rfl rfl ?_
   refine P_n no34_0 rfl rfl rfl ?_
   refine P_n no34_0 rfl rfl rfl ?_
   refine P_q no34_0 rfl (zak rfl (av := .xb false) rfl ?_)
   refine P_q no34_0 rfl (zab (av := .xb false) rfl ?_)
   refine P_nil ?_
   refine zae ⟨_, h, ?_⟩
   exact Sub.of_le (lq rfl lt0)
 ·refine k_ret ?_
  obtain rfl := Option.some.inj h
  refine zal (endN (af' := (AF.put AF0 (some 0) (.xb x0_j9))) (σ' := []) _ rfl ?_ ⟨rfl, rfl⟩)
  exact Sub.of_le (lq rfl lt0)
set_option maxHeartbeats 4000000 in
theorem m_help_Equal_api_Value_ok (a0 : List (List UInt8)) (a1 : List (List UInt8)) (r : Bool) (h : m_help_Equal_api_Value a0 a1 = some r) : Pure Tryz.prog 14 [(.row 1 zad a0), (.row 1 zad a1)] (.exact (.bool r)) := by
 unfold m_help_Equal_api_Value at h
 refine Pure.ofFun (fun_of_awp Tryz.func14 rfl Tryz.ntmps14 (by simp) rfl (res1 rfl) fun E hE => k_end ?_)
 refine zaf (zag .free hmixP (by kernel_rfl) ?_)
 refine G_q rfl (zab (av := .xb false) rfl ?_)
 refine G_nil (zaa (zaf (zaf (zag .free hmixP (by kernel_rfl) ?_))))
 refine G_q rfl (zac (av := .row 1 zad a0) rfl ?_)
 refine G_q rfl (op_len_row (by kernel_rfl) rfl ?_)
 refine G_q rfl (zac (av := .row 1 zad a1) rfl ?_)
 refine G_q rfl (op_len_row (by kernel_rfl) rfl ?_)
 refine G_q rfl (op_neq rfl rfl ?_)
 refine G_nil (zaa ?_)
 refine zaj (p := ¬ (List.length a0 : Int) = (List.length a1 : Int)) rfl (fun hc => ?_) (fun hc => ?_)
 ·replace h := ite_t h hc
  refine zaf (zag .free hmixP (by kernel_rfl) ?_)
  refine G_q rfl (zab (av := .xb false) rfl ?_)
  refine G_nil (zaa (k_ret (kC_ret ?_)))
  obtain rfl := Option.some.inj h
  refine zal (endN (af' := (AF.put AF0 (some 4) (.xb false))) (σ' := []) _ rfl ?_ ⟨rfl, rfl⟩)
  exact Sub.of_le (lq rfl lt0)
 ·replace h := ite_f h hc
  refine k_skip (zaa ?_)
  refine k_join0_0 h (AF0) ([]) (fun k1 h => ?_) (fun  h => ?_)
  ·refine zaf (zag .free hmixP (by kernel_rfl) ?_)
   refine G_q rfl (zab (av := .xi 0) rfl ?_)
   refine G_nil (zaa (k_block ?_))
   refine k_loop1_0 (m_help_Equal_api_Value_L2 a0 a1 k1) (m_help_Equal_api_Value_B2 a0 a1 k1) (fun _ => rfl) (fun m _ => rfl) h (fun (x5_l2 : Int) => (AF.put (AF.put (AF.put AF0 (some 0) (.row 1 zad a0)) (some 1) (.row 1 zad a1)) (some 5) (.xi x5_l2))) (fun (x5_l2 : Int) => []) ?_ (fun rec2 x5_l2 h => ?_)
   ·exact Sub.of_le (lq rfl (lq rfl (lq rfl lt0)))
   ·unfold m_help_Equal_api_Value_B2 at h
    refine zaf (zaf (zag .free hmixP (by kernel_rfl) ?_))
    refine G_q rfl (zac (av := .xi x5_l2) rfl ?_)
    refine G_q rfl (zac (av := .row 1 zad a0) rfl ?_)
    refine G_q rfl (op_len_row (by kernel_rfl) rfl ?_)
    refine G_q rfl (op_lss rfl rfl ?_)
    refine G_nil (zaa ?_)
    refine zaj (p := x5_l2 < (List.length a0 : Int)) rfl (fun hc => ?_) (fun hc => ?_)
    ·replace h := ite_t h hc
     refine k_skip (zaa (zaf (k_block (zaf ?_))))
     refine k_plan [] [(0, 0), (0, 1), (0, 2), (0, 3), (0, 4), (0, 5), (0, 6), (0, 7), (0, 8)] hmixP (by kernel_rfl) ?_
     refine P_q no34_0 rfl (zac (av := .row 1 zad a0) rfl ?_)
     refine P_q no34_0 rfl (zac (av := .xi x5_l2) rfl ?_)
     obtain ⟨n13, h⟩ := need_some h
     refine P_q no34_0 rfl (zaq (by kernel_rfl) rfl rfl n13.1 n13.2 ?_)
     refine P_q no34_0 rfl (zap (a := .xs (gi a0 x5_l2)) (by kernel_rfl) rfl rfl ?_)
     refine P_q no34_0 rfl (zac (av := .row 1 zad a1) rfl ?_)
     refine P_q no34_0 rfl (zac (av := .xi x5_l2) rfl ?_)
     obtain ⟨n14, h⟩ := need_some h
     refine P_q no34_0 rfl (zaq (by kernel_rfl) rfl rfl n14.1 n14.2 ?_)
     refine P_q no34_0 rfl (zap (a := .xs (gi a1 x5_l2)) (by kernel_rfl) rfl rfl ?_)
     refine P_q no34_0 rfl (op_neqS rfl rfl ?_)
     refine P_nil (zaa ?_)
     refine zaj (p := ¬ (gi a0 x5_l2) = (gi a1 x5_l2)) rfl (fun hc => ?_) (fun hc => ?_)
     ·replace h := ite_t h hc
      refine zaf (zag .free hmixP (by kernel_rfl) ?_)
      refine G_q rfl (zab (av := .xb false) rfl ?_)
      refine G_nil (zaa (k_ret (kB_ret (kC_ret (kI_ret (kB_ret (kI_ret ?_)))))))
      obtain rfl := Option.some.inj h
      refine zal (endN (af' := (AF.put AF0 (some 4) (.xb false))) (σ' := []) _ rfl ?_ ⟨rfl, rfl⟩)
      exact Sub.of_le (lq rfl lt0)
     ·replace h := ite_f h hc
      refine k_skip (kB_normal (zaa (zag .free hmixP (by kernel_rfl) ?_)))
      refine G_q rfl (zac (av := .xi x5_l2) rfl ?_)
      refine G_q rfl (op_add rfl rfl rfl ?_)
      refine G_q rfl (zab (av := .xi (i64 (x5_l2 + 1))) rfl ?_)
      refine G_nil ?_
      refine zae ⟨_, h, ?_⟩
      exact Sub.of_le (lq rfl (lq rfl (lq rfl lt0)))
    ·replace h := ite_f h hc
     refine k_exit (kC_exit (kI_exit (kB_exit ?_)))
     refine zae ⟨h, ?_⟩
     exact Sub.of_le lt0
  ·refine zaf (zag .free hmixP (by kernel_rfl) ?_)
   refine G_q rfl (zab (av := .xb true) rfl ?_)
   refine G_nil (zaa (k_ret ?_))
   obtain rfl := Option.some.inj h
   refine zal (endN (af' := (AF.put AF0 (some 4) (.xb true))) (σ' := []) _ rfl ?_ ⟨rfl, rfl⟩)
   exact Sub.of_le (lq rfl lt0)
set_option maxHeartbeats 4000000 in
theorem m_law12_PatternMatchesBuilt_ok (a0 : List Int) (r : Bool) (h : m_law12_PatternMatchesBuilt a0 = some r) : Pure Tryz.prog 3 [(.row 1 c_int a0)] (.exact (.bool r)) := by
 unfold m_law12_PatternMatchesBuilt at h
 refine Pure.ofFun (fun_of_awp Tryz.func3 rfl Tryz.ntmps3 (by simp) rfl (res1 rfl) fun E hE => k_end ?_)
 refine zaf (zag .free hmixP (by kernel_rfl) ?_)
 refine G_q rfl (zab (av := .xb false) rfl ?_)
 refine G_nil (zaa (zaf (zag .free hmixP (by kernel_rfl) ?_)))
 refine G_q rfl (zac (av := .row 1 c_int a0) rfl ?_)
 obtain ⟨y1, hy1, h⟩ := bnd1_some h
 refine G_l rfl (op_fun_0_1_1 (m_gen_New_ok _ _ hy1) Tryz.func7 (by kernel_rfl) (LEs.cons (AV.le_eq rfl) LEs.nil) (fun b2 => ?_))
 refine G_q rfl (zab (av := pA b2 0) rfl ?_)
 refine G_nil (zaa (zaf (zag .free hmixP (by kernel_rfl) ?_)))
 refine G_q rfl (zac (av := pA b2 0) rfl ?_)
 obtain ⟨y3, hy3, h⟩ := bnd1_some h
 refine G_l rfl (op_fun_1_0_1 (m_law12_pat_ok _ _ _ hy3) Tryz.func8 (by kernel_rfl) (LEs.cons (AV.le_eq rfl) (LEs.cons (AV.le_eq rfl) LEs.nil)) ?_)
 refine G_q rfl (zab (av := .row 3 zah y3.1) rfl ?_)
 refine G_nil (zaa (zaf (zag .free hmixP (by kernel_rfl) ?_)))
 refine G_q rfl (zab (av := .exact (.slice none 0 0)) rfl ?_)
 refine G_nil (zaa ?_)
 refine k_join1_1 h (fun (x5_j4 : List (List UInt8)) (v5_j4 : Value) => (AF.put (AF.put AF0 (some 4) (.row 3 zah y3.1)) (some 5) (.exact v5_j4))) (fun (x5_j4 : List (List UInt8)) (v5_j4 : Value) => [vecT Tryz.prog 27 1 zad v5_j4 x5_j4]) (fun k4 h => ?_) (fun x5_j4 v5_j4 h => ?_)
 ·refine zaf (zag .free hmixP (by kernel_rfl) ?_)
  refine G_q rfl (zab (av := .xi 0) rfl ?_)
  refine G_nil (zaa (k_block ?_))
  refine k_loop4_1 (m_law12_PatternMatchesBuilt_L2 y3 k4) (m_law12_PatternMatchesBuilt_B2 y3 k4) (fun _ _ _ _ => rfl) (fun m _ _ _ _ => rfl) h (fun (x3_0_l2 : List Int) (x3_1_l2 : Int) (x5_l2 : List (List UInt8)) (x6_l2 : Int) (v5_l2 : Value) => (AF.put (AF.put (AF.put (AF.put AF0 (some 3) (pA b2 0)) (some 4) (.row 3 zah y3.1)) (some 5) (.exact v5_l2)) (some 6) (.xi x6_l2))) (fun (x3_0_l2 : List Int) (x3_1_l2 : Int) (x5_l2 : List (List UInt8)) (x6_l2 : Int) (v5_l2 : Value) => [boxI 53 b2 [.row 1 c_int x3_0_l2, .xi x3_1_l2], vecT Tryz.prog 27 1 zad v5_l2 x5_l2]) (.slice none 0 0) ?_ (fun rec2 x3_0_l2 x3_1_l2 x5_l2 x6_l2 v5_l2 h => ?_)
  ·refine Sub.trans (SubU.to (SubU.nilT (P := Tryz.prog) (t := 27) (n := 1) (enc := zad))) ?_
   refine Sub.trans (SubU.to SubU.f1) ?_
   exact Sub.of_le (lq rfl (lq rfl (lq rfl (lq rfl lt0))))
  ·unfold m_law12_PatternMatchesBuilt_B2 at h
   refine zaf (zaf (zag .free hmixP (by kernel_rfl) ?_))
   refine G_q rfl (zac (av := .xi x6_l2) rfl ?_)
   refine G_q rfl (zac (av := .row 3 zah y3.1) rfl ?_)
   refine G_q rfl (op_len_row (by kernel_rfl) rfl ?_)
   refine G_q rfl (op_lss rfl rfl ?_)
   refine G_nil (zaa ?_)
   refine zaj (p := x6_l2 < (List.length y3.1 : Int)) rfl (fun hc => ?_) (fun hc => ?_)
   ·replace h := ite_t h hc
    refine k_skip (zaa ?_)
    refine k_join3_1 h (fun (x3_0_j51 : List Int) (x3_1_j51 : Int) (x5_j51 : List (List UInt8)) (v5_j51 : Value) => (AF.put (AF.put (AF.put (AF.put AF0 (some 3) (pA b2 0)) (some 4) (.row 3 zah y3.1)) (some 5) (.exact v5_j51)) (some 6) (.xi x6_l2))) (fun (x3_0_j51 : List Int) (x3_1_j51 : Int) (x5_j51 : List (List UInt8)) (v5_j51 : Value) => [boxI 53 b2 [.row 1 c_int x3_0_j51, .xi x3_1_j51], vecT Tryz.prog 27 1 zad v5_j51 x5_j51]) (fun k51 h => ?_) (fun x3_0_j51 x3_1_j51 x5_j51 v5_j51 h => ?_)
    ·refine k_block (zaf (zaf (zag .free hmixP (by kernel_rfl) ?_)))
     refine G_q rfl (zac (av := .row 3 zah y3.1) rfl ?_)
     refine G_q rfl (zac (av := .xi x6_l2) rfl ?_)
     obtain ⟨n56, h⟩ := need_some h
     refine G_q rfl (zaq (by kernel_rfl) rfl rfl n56.1 n56.2 ?_)
     refine G_q rfl (zan (o := 0) (c' := (List.drop 0 (zah (gi y3.1 x6_l2)))) (by kernel_rfl) rfl rfl ?_)
     refine G_q rfl (zap (a := .xi ((gi y3.1 x6_l2).1)) (by kernel_rfl) rfl rfl ?_)
     refine G_q rfl (op_neq rfl rfl ?_)
     refine G_nil (zaa ?_)
     refine zaj (p := ¬ ((gi y3.1 x6_l2).1) = 30) rfl (fun hc => ?_) (fun hc => ?_)
     ·replace h := ite_t h hc
      refine k_exit (kC_exit (kB_exit ?_))
      refine zae ⟨_, _, _, v5_l2, h, ?_⟩
      exact Sub.of_le (lq rfl (lq rfl (lq rfl (lq rfl lt0))))
     ·replace h := ite_f h hc
      refine k_skip (zaa (zag .free hmixP (by kernel_rfl) ?_))
      refine G_q rfl (zac (av := .exact v5_l2) rfl ?_)
      refine G_q rfl (zac (av := pA b2 0) rfl ?_)
      obtain ⟨y57, hy57, h⟩ := bnd1_some h
      refine G_l rfl (op_fun_1_0_1 (m_gen_Choices_Value_ok _ _ _ hy57) Tryz.func9 (by kernel_rfl) (LEs.cons (AV.le_eq rfl) (LEs.cons (AV.le_eq rfl) LEs.nil)) ?_)
      refine G_q rfl (op_litT (n := 1) (enc := zad) [y57.1] (CellsAll.cons rfl CellsOf.str CellsAll.nil) rfl (by kernel_rfl) (LEss.cons (LEs.cons (AV.le_eq rfl) LEs.nil) LEss.nil) ?_)
      obtain ⟨n58, h⟩ := need_some h
      refine G_l rfl (opB_f1 (op_appT (by kernel_rfl) rfl rfl oc_c_api_Value n58 (fun v59 => ?_)))
      refine G_q rfl (zab (av := .exact v59) rfl ?_)
      refine G_nil (kB_normal ?_)
      refine zae ⟨_, _, _, v59, h, ?_⟩
      refine Sub.trans (SubU.to SubU.f1) ?_
      exact Sub.of_le (lq rfl (lq rfl (lq rfl (lq rfl lt0))))
    ·refine zag .free hmixP (by kernel_rfl) ?_
     refine G_q rfl (zac (av := .xi x6_l2) rfl ?_)
     refine G_q rfl (op_add rfl rfl rfl ?_)
     refine G_q rfl (zab (av := .xi (i64 (x6_l2 + 1))) rfl ?_)
     refine G_nil ?_
     refine zae ⟨_, _, _, _, v5_j51, h, ?_⟩
     exact Sub.of_le (lq rfl (lq rfl (lq rfl (lq rfl lt0))))
   ·replace h := ite_f h hc
    refine k_exit (kC_exit (kI_exit (kB_exit ?_)))
    refine zae ⟨_, v5_l2, h, ?_⟩
    refine Sub.trans (SubU.to SubU.drop) ?_
    exact Sub.of_le (lq rfl (lq rfl lt0))
 ·refine zaf (zag .free hmixP (by kernel_rfl) ?_)
  refine G_q rfl (zac (av := .row 3 zah y3.1) rfl ?_)
  refine G_q rfl (zac (av := .exact v5_j4) rfl ?_)
  refine G_sub rfl (SubU.freezeT2 (s1 := 5) (s2 := 36) rfl rfl len_c_api_Value) ?_
  obtain ⟨y60, hy60, h⟩ := bnd1_some h
  refine G_q rfl (zam (m_pattern_Build_ok _ _ _ hy60) Tryz.func10 (by kernel_rfl) (LEs.cons (AV.le_eq rfl) (LEs.cons (AV.le_eq rfl) LEs.nil)) ?_)
  refine G_q rfl (zac (av := .tup [.xs y60.1, .xb y60.2]) rfl ?_)
  refine G_q rfl (op_extract (av := .xs y60.1) rfl rfl ?_)
  refine G_q rfl (op_extract (av := .xb y60.2) rfl rfl ?_)
  refine G_q rfl (zab (av := .xs y60.1) rfl ?_)
  refine G_q rfl (zab (av := .xb y60.2) rfl ?_)
  refine G_nil (zaa (zaf (zaf (zag .free hmixP (by kernel_rfl) ?_))))
  refine G_q rfl (zac (av := .xb y60.2) rfl ?_)
  refine G_q rfl (op_not rfl ?_)
  refine G_nil (zaa ?_)
  refine k_cond_b (c := !y60.2) rfl (fun hc => ?_) (fun hc => ?_)
  ·replace h := ite_t h hc
   refine zaf (zag .free hmixP (by kernel_rfl) ?_)
   refine G_q rfl (zac (av := .row 3 zah y3.1) rfl ?_)
   refine G_q rfl (zac (av := .row 1 zad x5_j4) rfl ?_)
   obtain ⟨y61, hy61, h⟩ := bnd1_some h
   refine G_q rfl (zam (m_ref11_Build_ok _ _ _ hy61) Tryz.func11 (by kernel_rfl) (LEs.cons (AV.le_eq rfl) (LEs.cons (AV.le_eq rfl) LEs.nil)) ?_)
   refine G_q rfl (zac (av := .tup [.xs y61.1, .xb y61.2]) rfl ?_)
   refine G_q rfl (op_extract (av := .xs y61.1) rfl rfl ?_)
   refine G_q rfl (op_extract (av := .xb y61.2) rfl rfl ?_)
   refine G_q rfl (zab (av := .xs y61.1) rfl ?_)
   refine G_q rfl (zab (av := .xb y61.2) rfl ?_)
   refine G_nil (zaa ?_)
   refine k_join1_0 h (fun (x2_j62 : Bool) => (AF.put AF0 (some 2) (.xb x2_j62))) (fun (x2_j62 : Bool) => []) (fun k62 h => ?_) (fun x2_j62 h => ?_)
   ·refine zag .free hmixP (by kernel_rfl) ?_
    obtain ⟨y64, hy64, h⟩ := bnd1_some h
    refine G_q rfl (zam (m_law12_awake_ok _ hy64) Tryz.func12 (by kernel_rfl) LEs.nil ?_)
    refine G_q rfl (zac (av := .xb y64) rfl ?_)
    refine G_splitB (c := y64) 49 rfl (fun hc => ?_) (fun hc => ?_)
    ·replace h := ite_t h hc
     refine Gy_q rfl rfl rfl (zac (av := .xb y61.2) rfl ?_)
     refine Gy_q rfl rfl rfl (op_not rfl ?_)
     refine G_q rfl (zao rfl (av := .xb (!y61.2)) rfl ?_)
     refine G_q rfl (zac (av := .xb (!y61.2)) rfl ?_)
     refine G_splitB (c := !y61.2) 53 rfl (fun hc => ?_) (fun hc => ?_)
     ·replace h := ite_t h hc
      refine Gy_q rfl rfl rfl (zac (av := .xs y60.1) rfl ?_)
      refine Gy_q rfl rfl rfl (op_eqlS rfl rfl ?_)
      refine G_q rfl (zao rfl (av := .xb (decide (y60.1 = ([] : List UInt8)))) rfl ?_)
      refine G_q rfl (zab (av := .xb (decide (y60.1 = ([] : List UInt8)))) rfl ?_)
      refine G_nil ?_
      refine zae ⟨_, h, ?_⟩
      exact Sub.of_le (lq rfl lt0)
     ·replace h := ite_f h hc
      refine G_n rfl rfl (G_n rfl rfl ?_)
      refine G_q rfl (zak rfl (av := .xb false) rfl ?_)
      refine G_q rfl (zab (av := .xb false) rfl ?_)
      refine G_nil ?_
      refine zae ⟨_, h, ?_⟩
      exact Sub.of_le (lq rfl lt0)
    ·replace h := ite_f h hc
     refine G_n rfl rfl (G_n rfl rfl ?_)
     refine G_q rfl (zak rfl (av := .xb false) rfl ?_)
     refine G_q rfl (zac (av := .xb false) rfl ?_)
     refine G_n rfl rfl (G_n rfl rfl ?_)
     refine G_q rfl (zak rfl (av := .xb false) rfl ?_)
     refine G_q rfl (zab (av := .xb false) rfl ?_)
     refine G_nil ?_
     refine zae ⟨_, h, ?_⟩
     exact Sub.of_le (lq rfl lt0)
   ·refine k_ret (kC_ret ?_)
    obtain rfl := Option.some.inj h
    refine zal (endN (af' := (AF.put AF0 (some 2) (.xb x2_j62))) (σ' := []) _ rfl ?_ ⟨rfl, rfl⟩)
    exact Sub.of_le (lq rfl lt0)
  ·replace h := ite_f h hc
   refine k_skip (zaa (zaf (zag .free hmixP (by kernel_rfl) ?_)))
   refine G_q rfl (zac (av := .row 3 zah y3.1) rfl ?_)
   refine G_q rfl (zac (av := .xs y60.1) rfl ?_)
   obtain ⟨y65, hy65, h⟩ := bnd1_some h
   refine G_q rfl (zam (m_pattern_Match_ok _ _ _ hy65) Tryz.func13 (by kernel_rfl) (LEs.cons (AV.le_eq rfl) (LEs.cons (AV.le_eq rfl) LEs.nil)) ?_)
   refine G_q rfl (zac (av := .tup [.row 1 zad y65.1, .xb y65.2]) rfl ?_)
   refine G_q rfl (op_extract (av := .row 1 zad y65.1) rfl rfl ?_)
   refine G_q rfl (op_extract (av := .xb y65.2) rfl rfl ?_)
   refine G_q rfl (zab (av := .row 1 zad y65.1) rfl ?_)
   refine G_q rfl (zab (av := .xb y65.2) rfl ?_)
   refine G_nil (zaa ?_)
   refine k_join1_0 h (fun (x2_j66 : Bool) => (AF.put AF0 (some 2) (.xb x2_j66))) (fun (x2_j66 : Bool) => []) (fun k66 h => ?_) (fun x2_j66 h => ?_)
   ·refine zag .free hmixP (by kernel_rfl) ?_
    obtain ⟨y69, hy69, h⟩ := bnd1_some h
    refine G_q rfl (zam (m_law12_awake_ok _ hy69) Tryz.func12 (by kernel_rfl) LEs.nil ?_)
    refine G_q rfl (zac (av := .xb y69) rfl ?_)
    refine G_splitB (c := y69) 64 rfl (fun hc => ?_) (fun hc => ?_)
    ·replace h := ite_t h hc
     refine Gy_q rfl rfl rfl (zac (av := .xb y65.2) rfl ?_)
     refine G_q rfl (zao rfl (av := .xb y65.2) rfl ?_)
     refine G_q rfl (zac (av := .xb y65.2) rfl ?_)
     refine G_splitB (c := y65.2) 67 rfl (fun hc => ?_) (fun hc => ?_)
     ·replace h := ite_t h hc
      refine Gy_q rfl rfl rfl (zac (av := .row 1 zad y65.1) rfl ?_)
      refine Gy_q rfl rfl rfl (zac (av := .row 1 zad x5_j4) rfl ?_)
      obtain ⟨y70, hy70, h⟩ := bnd1_some h
      refine Gy_q rfl rfl rfl (zam (m_help_Equal_api_Value_ok _ _ _ hy70) Tryz.func14 (by kernel_rfl) (LEs.cons (AV.le_eq rfl) (LEs.cons (AV.le_eq rfl) LEs.nil)) ?_)
      refine G_q rfl (zao rfl (av := .xb y70) rfl ?_)
      refine G_q rfl (zab (av := .xb y70) rfl ?_)
      refine G_nil ?_
      refine zae ⟨_, h, ?_⟩
      exact Sub.of_le (lq rfl lt0)
     ·replace h := ite_f h hc
      refine G_n rfl rfl (G_n rfl rfl (G_n rfl rfl ?_))
      refine G_q rfl (zak rfl (av := .xb false) rfl ?_)
      refine G_q rfl (zab (av := .xb false) rfl ?_)
      refine G_nil ?_
      refine zae ⟨_, h, ?_⟩
      exact Sub.of_le (lq rfl lt0)
    ·replace h := ite_f h hc
     refine G_n rfl rfl ?_
     refine G_q rfl (zak rfl (av := .xb false) rfl ?_)
     refine G_q rfl (zac (av := .xb false) rfl ?_)
     refine G_n rfl rfl (G_n rfl rfl (G_n rfl rfl ?_))
     refine G_q rfl (zak rfl (av := .xb false) rfl ?_)
     refine G_q rfl (zab (av := .xb false) rfl ?_)
     refine G_nil ?_
     refine zae ⟨_, h, ?_⟩
     exact Sub.of_le (lq rfl lt0)
   ·refine k_ret ?_
    obtain rfl := Option.some.inj h
    refine zal (endN (af' := (AF.put AF0 (some 2) (.xb x2_j66))) (σ' := []) _ rfl ?_ ⟨rfl, rfl⟩)
    exact Sub.of_le (lq rfl lt0)
end Go.Proofs.YtpfdeahcjlfijaaGreat
/- The functions compute their models, by program. -/
namespace Go.Proofs.YtpfdeahcjlfijaaGreat
open Go.RowKit
attribute [local irreducible] AV.exact AV.top AV.row AV.ptr AV.agg AV.tup AV.eptr AV.fn AV.nilq AV.nilqn opA opB opM opR Quiet Loud Reads wpG awp den Sub SubU Pure Fun vecI vecT boxI CellsAll CellsOf OneC LEs LEss
set_option maxRecDepth 100000

end Go.Proofs.YtpfdeahcjlfijaaGreat
