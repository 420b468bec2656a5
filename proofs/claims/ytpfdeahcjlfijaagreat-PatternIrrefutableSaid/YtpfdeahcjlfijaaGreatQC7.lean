/- The functions compute their models, by program. -/
import Derived.Test.YtpfdeahcjlfijaaGreatQC6
namespace Go.Proofs.YtpfdeahcjlfijaaGreat
open Go.RowKit
attribute [local irreducible] AV.exact AV.top AV.row AV.ptr AV.agg AV.tup AV.eptr AV.fn AV.nilq AV.nilqn opA opB opM opR Quiet Loud Reads wpG awp den Sub SubU Pure Fun vecI vecT boxI CellsAll CellsOf OneC LEs LEss
set_option maxRecDepth 100000

set_option maxHeartbeats 4000000 in
theorem m_value_Set_ok (a0 : List (List UInt8)) (r : (List UInt8)) (h : m_value_Set a0 = some r) : Pure Tryz.prog 61 [(.row 1 zad a0)] (.exact (.string (bs r))) := by
 unfold m_value_Set at h
 refine Pure.ofFun (fun_of_awp Tryz.func61 rfl Tryz.ntmps61 (by simp) rfl (res1 rfl) fun E hE => k_end ?_)
 refine zae (zag .free hmixP (by kernel_rfl) ?_)
 refine G_q rfl (zab (av := .xs ([] : List UInt8)) rfl ?_)
 refine G_nil (zaa (zae (zag .free hmixP (by kernel_rfl) ?_)))
 refine G_q rfl (zac (av := .row 1 zad a0) rfl ?_)
 obtain ⟨y1, hy1, h⟩ := bnd1_some h
 refine G_q rfl (zal (m_value_Sort_ok _ _ hy1) Tryz.func85 (by kernel_rfl) (LEs.cons (AV.le_eq rfl) LEs.nil) ?_)
 obtain ⟨y2, hy2, h⟩ := bnd1_some h
 refine G_q rfl (zal (m_value_compound_ok _ _ _ hy2) Tryz.func84 (by kernel_rfl) (LEs.cons (AV.le_eq rfl) (LEs.cons (AV.le_eq rfl) LEs.nil)) ?_)
 refine G_q rfl (zab (av := .xs y2) rfl ?_)
 refine G_nil (zaa (k_ret ?_))
 obtain rfl := Option.some.inj h
 refine zaj (endN (af' := (AF.put AF0 (some 2) (.xs y2))) (σ' := []) _ rfl ?_ ⟨rfl, rfl⟩)
 exact Sub.of_le (lq rfl lt0)
set_option maxHeartbeats 4000000 in
theorem m_value_Name_ok (a0 : Int) (r : (List UInt8)) (h : m_value_Name a0 = some r) : Pure Tryz.prog 86 [(.exact (.int .i64 a0))] (.exact (.string (bs r))) := by
 unfold m_value_Name at h
 refine Pure.ofFun (fun_of_awp Tryz.func86 rfl Tryz.ntmps86 (by simp) rfl (res1 rfl) fun E hE => k_end ?_)
 refine zae (zag .free hmixP (by kernel_rfl) ?_)
 refine G_q rfl (zab (av := .xs ([] : List UInt8)) rfl ?_)
 refine G_nil (zaa (zae ?_))
 refine k_join1_0 h (fun (x8_j3 : Bool) => (AF.put (AF.put AF0 (some 0) (.xi a0)) (some 8) (.xb x8_j3))) (fun (x8_j3 : Bool) => []) (fun k3 h => ?_) (fun x8_j3 h => ?_)
 ·refine zag .free hmixP (by kernel_rfl) ?_
  refine G_q rfl (zac (av := .xi a0) rfl ?_)
  refine G_q rfl (op_lss rfl rfl ?_)
  refine G_q rfl (zac (av := .xb (decide (a0 < 0))) rfl ?_)
  refine G_split (p := a0 < 0) 5 rfl (fun hc => ?_) (fun hc => ?_)
  ·replace h := ite_t h hc
   refine G_n rfl rfl (G_n rfl rfl ?_)
   refine G_q rfl (zao rfl (av := .xb true) rfl ?_)
   refine G_nil ?_
   refine zaf ⟨_, h, ?_⟩
   exact Sub.of_le (lq rfl (lq rfl lt0))
  ·replace h := ite_f h hc
   refine Gy_q rfl rfl rfl (zac (av := .xi a0) rfl ?_)
   refine Gy_q rfl rfl rfl (op_gtr rfl rfl ?_)
   refine G_q rfl (zai rfl (av := .xb (decide (65535 < a0))) rfl ?_)
   refine G_nil ?_
   refine zaf ⟨_, h, ?_⟩
   exact Sub.of_le (lq rfl (lq rfl lt0))
 ·refine k_cond_b (c := x8_j3) rfl (fun hc => ?_) (fun hc => ?_)
  ·replace h := ite_t h hc
   refine zae (zag .free hmixP (by kernel_rfl) ?_)
   refine G_q rfl (zab (av := .xs ([] : List UInt8)) rfl ?_)
   refine G_nil (zaa (k_ret (kC_ret ?_)))
   obtain rfl := Option.some.inj h
   refine zaj (endN (af' := (AF.put AF0 (some 2) (.xs ([] : List UInt8)))) (σ' := []) _ rfl ?_ ⟨rfl, rfl⟩)
   exact Sub.of_le (lq rfl lt0)
  ·replace h := ite_f h hc
   refine k_skip (zaa (zae (zag .free hmixP (by kernel_rfl) ?_)))
   refine G_l rfl (op_litI (n := 1) (enc := c_uint8) [10] (by kernel_rfl) (CellsAll.cons rfl CellsOf.int CellsAll.nil) rfl (by kernel_rfl) (LEss.cons (LEs.cons (AV.le_eq rfl) LEs.nil) LEss.nil) (fun v4 => ?_))
   refine G_q rfl (zac (av := .xi a0) rfl ?_)
   refine G_q rfl (op_convInt (k := .u16) (by kernel_rfl) rfl rfl ?_)
   obtain ⟨y5, hy5, h⟩ := bnd1_some h
   refine G_l rfl (op_fun_1_1_1 (m_value_append16_ok _ _ _ hy5) Tryz.func96 (by kernel_rfl) (LEs.cons (AV.le_eq rfl) (LEs.cons (AV.le_eq rfl) LEs.nil)) (fun v6 => ?_))
   refine G_r rfl (op_bytesS_bor rfl (by kernel_rfl) (Bor.vec (List.Mem.head _) len_c_uint8) ?_)
   refine G_q rfl (zab (av := .xs y5) rfl ?_)
   refine G_nil (zaa (k_ret ?_))
   obtain rfl := Option.some.inj h
   refine zaj (endN (af' := (AF.put AF0 (some 2) (.xs y5))) (σ' := []) _ rfl ?_ ⟨rfl, rfl⟩)
   refine Sub.trans (SubU.to SubU.drop) ?_
   exact Sub.of_le (lq rfl lt0)
set_option maxHeartbeats 4000000 in
theorem m_value_Dot_ok (a0 : Int) (a1 : List (List UInt8)) (r : (List UInt8)) (h : m_value_Dot a0 a1 = some r) : Pure Tryz.prog 62 [(.exact (.int .i64 a0)), (.row 1 zad a1)] (.exact (.string (bs r))) := by
 unfold m_value_Dot at h
 refine Pure.ofFun (fun_of_awp Tryz.func62 rfl Tryz.ntmps62 (by simp) rfl (res1 rfl) fun E hE => k_end ?_)
 refine zae (zag .free hmixP (by kernel_rfl) ?_)
 refine G_q rfl (zab (av := .xs ([] : List UInt8)) rfl ?_)
 refine G_nil (zaa (zae (zag .free hmixP (by kernel_rfl) ?_)))
 refine G_q rfl (zac (av := .xi a0) rfl ?_)
 obtain ⟨y1, hy1, h⟩ := bnd1_some h
 refine G_q rfl (zal (m_value_Name_ok _ _ hy1) Tryz.func86 (by kernel_rfl) (LEs.cons (AV.le_eq rfl) LEs.nil) ?_)
 refine G_l rfl (op_litI (n := 1) (enc := zad) [y1] (by kernel_rfl) (CellsAll.cons rfl CellsOf.str CellsAll.nil) rfl (by kernel_rfl) (LEss.cons (LEs.cons (AV.le_eq rfl) LEs.nil) LEss.nil) (fun v2 => ?_))
 refine G_q rfl (zac (av := .row 1 zad a1) rfl ?_)
 obtain ⟨n3, h⟩ := need_some h
 refine G_l rfl (op_appT (by kernel_rfl) rfl rfl oc_c_api_Value n3 (fun v4 => ?_))
 refine G_sub rfl (SubU.freezeT (s := 9) rfl len_c_api_Value) ?_
 obtain ⟨y5, hy5, h⟩ := bnd1_some h
 refine G_q rfl (zal (m_value_compound_ok _ _ _ hy5) Tryz.func84 (by kernel_rfl) (LEs.cons (AV.le_eq rfl) (LEs.cons (AV.le_eq rfl) LEs.nil)) ?_)
 refine G_q rfl (zab (av := .xs y5) rfl ?_)
 refine G_nil (zaa (k_ret ?_))
 obtain rfl := Option.some.inj h
 refine zaj (endN (af' := (AF.put AF0 (some 4) (.xs y5))) (σ' := []) _ rfl ?_ ⟨rfl, rfl⟩)
 exact Sub.of_le (lq rfl lt0)
set_option maxHeartbeats 4000000 in
theorem m_value_Kind_ok (a0 : List UInt8) (r : Int) (h : m_value_Kind a0 = some r) : Pure Tryz.prog 63 [(.exact (.string (bs a0)))] (.exact (.int .i64 r)) := by
 unfold m_value_Kind at h
 refine Pure.ofFun (fun_of_awp Tryz.func63 rfl Tryz.ntmps63 (by simp) rfl (res1 rfl) fun E hE => k_end ?_)
 refine zae (zag .free hmixP (by kernel_rfl) ?_)
 refine G_q rfl (zab (av := .xi 0) rfl ?_)
 refine G_nil (zaa (zae (zae (zag .free hmixP (by kernel_rfl) ?_))))
 refine G_q rfl (zac (av := .xs a0) rfl ?_)
 obtain ⟨y1, hy1, h⟩ := bnd1_some h
 refine G_q rfl (zal (m_value_Valid_ok _ _ hy1) Tryz.func38 (by kernel_rfl) (LEs.cons (AV.le_eq rfl) LEs.nil) ?_)
 refine G_q rfl (op_not rfl ?_)
 refine G_nil (zaa ?_)
 refine k_cond_b (c := !y1) rfl (fun hc => ?_) (fun hc => ?_)
 ·replace h := ite_t h hc
  refine zae (zag .free hmixP (by kernel_rfl) ?_)
  refine G_q rfl (zab (av := .xi 0) rfl ?_)
  refine G_nil (zaa (k_ret (kC_ret ?_)))
  obtain rfl := Option.some.inj h
  refine zaj (endN (af' := (AF.put AF0 (some 2) (.xi 0))) (σ' := []) _ rfl ?_ ⟨rfl, rfl⟩)
  exact Sub.of_le (lq rfl lt0)
 ·replace h := ite_f h hc
  refine k_skip (zaa (zae (zag .free hmixP (by kernel_rfl) ?_)))
  refine G_q rfl (zac (av := .xs a0) rfl ?_)
  obtain ⟨n2, h⟩ := need_some h
  refine G_q rfl (op_index_str (by kernel_rfl) rfl rfl n2.1 n2.2 ?_)
  refine G_q rfl (op_convInt (k := .i64) (r := (UInt8.toNat (gi a0 0) : Int)) (by kernel_rfl) rfl (wrap_u8 rfl _) ?_)
  refine G_q rfl (zab (av := .xi (UInt8.toNat (gi a0 0) : Int)) rfl ?_)
  refine G_nil (zaa (k_ret ?_))
  obtain rfl := Option.some.inj h
  refine zaj (endN (af' := (AF.put AF0 (some 2) (.xi (UInt8.toNat (gi a0 0) : Int)))) (σ' := []) _ rfl ?_ ⟨rfl, rfl⟩)
  exact Sub.of_le (lq rfl lt0)
set_option maxHeartbeats 4000000 in
theorem m_value_Parts_ok (a0 : List UInt8) (r : (List (List UInt8))) (h : m_value_Parts a0 = some r) : Pure Tryz.prog 65 [(.exact (.string (bs a0)))] (.row 1 zad r) := by
 unfold m_value_Parts at h
 refine Pure.ofFun (fun_of_awp Tryz.func65 rfl Tryz.ntmps65 (by simp) rfl (res1 rfl) fun E hE => k_end ?_)
 refine zae (zag .free hmixP (by kernel_rfl) ?_)
 refine G_q rfl (zab (av := .exact (.slice none 0 0)) rfl ?_)
 refine G_nil (zaa (zae (zae (zag .free hmixP (by kernel_rfl) ?_))))
 refine G_q rfl (zac (av := .xs a0) rfl ?_)
 obtain ⟨y1, hy1, h⟩ := bnd1_some h
 refine G_q rfl (zal (m_value_Kind_ok _ _ hy1) Tryz.func63 (by kernel_rfl) (LEs.cons (AV.le_eq rfl) LEs.nil) ?_)
 obtain ⟨y2, hy2, h⟩ := bnd1_some h
 refine G_q rfl (zal (m_value_simple_ok _ _ hy2) Tryz.func88 (by kernel_rfl) (LEs.cons (AV.le_eq rfl) LEs.nil) ?_)
 refine G_nil (zaa ?_)
 refine k_cond_b (c := y2) rfl (fun hc => ?_) (fun hc => ?_)
 ·replace h := ite_t h hc
  refine zae (zag .free hmixP (by kernel_rfl) ?_)
  refine G_q rfl (zab (av := .exact (.slice none 0 0)) rfl ?_)
  refine G_nil (zaa (k_ret (kC_ret ?_)))
  obtain rfl := Option.some.inj h
  refine zaj (endN (af' := (AF.put AF0 (some 2) (.row 1 zad []))) (σ' := []) _ rfl ?_ ⟨rfl, rfl⟩)
  exact Sub.of_le (AF.le_put (row_nil (by decide)) lt0)
 ·replace h := ite_f h hc
  refine k_skip (zaa (zae (zag .free hmixP (by kernel_rfl) ?_)))
  refine G_q rfl (zac (av := .xs a0) rfl ?_)
  obtain ⟨y3, hy3, h⟩ := bnd1_some h
  refine G_q rfl (zal (m_value_parts_ok _ _ hy3) Tryz.func89 (by kernel_rfl) (LEs.cons (AV.le_eq rfl) LEs.nil) ?_)
  refine G_q rfl (zab (av := .row 1 zad y3) rfl ?_)
  refine G_nil (zaa (k_ret ?_))
  obtain rfl := Option.some.inj h
  refine zaj (endN (af' := (AF.put AF0 (some 2) (.row 1 zad y3))) (σ' := []) _ rfl ?_ ⟨rfl, rfl⟩)
  exact Sub.of_le (lq rfl lt0)
set_option maxHeartbeats 4000000 in
theorem m_slices_Grow_L_api_Value_api_Value_ok (a1 : Int) (r : (List (List UInt8))) (h : m_slices_Grow_L_api_Value_api_Value a1 = some r) : Fun Tryz.prog 87 [(.exact (.slice none 0 0)), (.exact (.int .i64 a1))] [] (fun a s => ∃ z0, a = .exact z0 ∧ s = [vecT Tryz.prog 27 1 zad z0 r]) := by
 unfold m_slices_Grow_L_api_Value_api_Value at h
 refine fun_of_awp Tryz.func87 rfl Tryz.ntmps87 (by simp) rfl (res1 rfl) fun E hE => k_end ?_
 refine zae (zag .free hmixP (by kernel_rfl) ?_)
 refine G_q rfl (zab (av := .exact (.slice none 0 0)) rfl ?_)
 refine G_nil (zaa (zae (zae (zag .free hmixP (by kernel_rfl) ?_))))
 refine G_q rfl (zac (av := .xi a1) rfl ?_)
 refine G_q rfl (op_lss rfl rfl ?_)
 refine G_nil (zaa ?_)
 refine zak (p := a1 < 0) rfl (fun hc => ?_) (fun hc => ?_)
 ·replace h := ite_t h hc
  cases h
 ·replace h := ite_f h hc
  refine k_skip (zaa ?_)
  refine k_join1_1 h (fun (x0_j2 : List (List UInt8)) (v0_j2 : Value) => (AF.put AF0 (some 0) (.exact v0_j2))) (fun (x0_j2 : List (List UInt8)) (v0_j2 : Value) => [vecT Tryz.prog 27 1 zad v0_j2 x0_j2]) (fun k2 h => ?_) (fun x0_j2 v0_j2 h => ?_)
  ·refine zae (zag .free hmixP (by kernel_rfl) ?_)
   refine G_q rfl (zac (av := .xi a1) rfl ?_)
   refine G_q rfl (zac (av := .exact (.slice none 0 0)) rfl ?_)
   refine G_q rfl (op_cap_nil (by kernel_rfl) rfl ?_)
   refine G_q rfl (zac (av := .exact (.slice none 0 0)) rfl ?_)
   refine G_q rfl (op_len_slice (by kernel_rfl) rfl ?_)
   refine G_q rfl (op_sub rfl rfl rfl ?_)
   refine G_q rfl (op_sub rfl rfl rfl ?_)
   refine G_q rfl (zab (av := .xi (i64 (a1 - (i64 (0 - 0))))) rfl ?_)
   refine G_nil (zaa (zae (zag .free hmixP (by kernel_rfl) ?_)))
   refine G_q rfl (zac (av := .xi (i64 (a1 - (i64 (0 - 0))))) rfl ?_)
   refine G_q rfl (op_gtr rfl rfl ?_)
   refine G_nil (zaa ?_)
   refine zak (p := 0 < (i64 (a1 - (i64 (0 - 0))))) rfl (fun hc => ?_) (fun hc => ?_)
   ·replace h := ite_t h hc
    refine zag .free hmixP (by kernel_rfl) ?_
    refine G_q rfl (zac (av := .exact (.slice none 0 0)) rfl ?_)
    refine G_q rfl (zac (av := .exact (.slice none 0 0)) rfl ?_)
    refine G_q rfl (op_cap_nil (by kernel_rfl) rfl ?_)
    refine G_q rfl (op_slice_nil (n := 1) (by kernel_rfl) rfl (bnd_some rfl) ?_)
    refine G_q rfl (zac (av := .xi (i64 (a1 - (i64 (0 - 0))))) rfl ?_)
    obtain ⟨n7, h⟩ := need_some h
    refine G_l rfl (op_appMake0 (kn := .i64) (enc := zad) (zr := []) (by kernel_rfl) (by kernel_rfl) rfl rfl n7.1 n7.2 len_c_api_Value Tryz.zeroValue30 (fun _ _ => (Fit.ex Fit.nil0)) (fun v8 => ?_))
    refine G_q rfl (zac (av := .exact (.slice none 0 0)) rfl ?_)
    refine G_q rfl (op_len_slice (by kernel_rfl) rfl ?_)
    obtain ⟨n9, h⟩ := need_some h
    refine G_l rfl (op_trunc (by kernel_rfl) len_c_api_Value rfl (bnd_some rfl) n9.1 n9.2 (fun v10 => ?_))
    refine G_q rfl (zab (av := .exact v10) rfl ?_)
    refine G_nil ?_
    refine zaf ⟨_, v10, h, ?_⟩
    exact Sub.of_le (lq rfl lt0)
   ·replace h := ite_f h hc
    refine k_skip ?_
    refine zaf ⟨_, (.slice none 0 0), h, ?_⟩
    refine Sub.trans (SubU.to (SubU.nilT (P := Tryz.prog) (t := 27) (n := 1) (enc := zad))) ?_
    exact Sub.of_le (lq rfl lt0)
  ·refine zae (zag .free hmixP (by kernel_rfl) ?_)
   refine G_q rfl (zac (av := .exact v0_j2) rfl ?_)
   refine G_q rfl (zab (av := .exact v0_j2) rfl ?_)
   refine G_nil (zaa (k_ret ?_))
   obtain rfl := Option.some.inj h
   refine zaj (endN (af' := (AF.put AF0 (some 4) (.exact v0_j2))) (σ' := [vecT Tryz.prog 27 1 zad v0_j2 x0_j2]) _ rfl ?_ ⟨v0_j2, rfl, rfl⟩)
   exact Sub.of_le (lq rfl lt0)
set_option maxHeartbeats 4000000 in
theorem m_slices_Concat_L_api_Value_api_Value_ok (a0 : List (List (List UInt8))) (r : (List (List UInt8))) (h : m_slices_Concat_L_api_Value_api_Value a0 = some r) : Pure Tryz.prog 64 [(.row 1 c_L_api_Value a0)] (.row 1 zad r) := by
 unfold m_slices_Concat_L_api_Value_api_Value at h
 refine Pure.ofFun (fun_of_awp Tryz.func64 rfl Tryz.ntmps64 (by simp) rfl (res1 rfl) fun E hE => k_end ?_)
 refine zae (zag .free hmixP (by kernel_rfl) ?_)
 refine G_q rfl (zab (av := .exact (.slice none 0 0)) rfl ?_)
 refine G_nil (zaa (zae (zag .free hmixP (by kernel_rfl) ?_)))
 refine G_q rfl (zab (av := .xi 0) rfl ?_)
 refine G_nil (zaa ?_)
 refine k_join1_0 h (fun (x3_j1 : Int) => (AF.put (AF.put AF0 (some 0) (.row 1 c_L_api_Value a0)) (some 3) (.xi x3_j1))) (fun (x3_j1 : Int) => []) (fun k1 h => ?_) (fun x3_j1 h => ?_)
 ·refine zae (zag .free hmixP (by kernel_rfl) ?_)
  refine G_q rfl (zac (av := .row 1 c_L_api_Value a0) rfl ?_)
  refine G_q rfl (op_len_row (by kernel_rfl) rfl ?_)
  refine G_q rfl (zac (av := .xi 0) rfl ?_)
  refine G_nil (zaa (k_block ?_))
  refine k_loop2_0 (m_slices_Concat_L_api_Value_api_Value_L2 a0 k1) (m_slices_Concat_L_api_Value_api_Value_B2 a0 k1) (fun _ _ => rfl) (fun m _ _ => rfl) h (fun (x3_l2 : Int) (x11_l2 : Int) => (AF.put (AF.put (AF.put (AF.put (AF.put AF0 (some 0) (.row 1 c_L_api_Value a0)) (some 3) (.xi x3_l2)) (some 9) (.row 1 c_L_api_Value a0)) (some 10) (.xi (List.length a0 : Int))) (some 11) (.xi x11_l2))) (fun (x3_l2 : Int) (x11_l2 : Int) => []) ?_ (fun rec2 x3_l2 x11_l2 h => ?_)
  ·exact Sub.of_le (lq rfl (lq rfl (lq rfl (lq rfl (lq rfl lt0)))))
  ·unfold m_slices_Concat_L_api_Value_api_Value_B2 at h
   refine zae (zag .free hmixP (by kernel_rfl) ?_)
   refine G_q rfl (op_lss rfl rfl ?_)
   refine G_nil (zaa (zae ?_))
   refine zak (p := x11_l2 < (List.length a0 : Int)) rfl (fun hc => ?_) (fun hc => ?_)
   ·replace h := ite_t h hc
    refine k_skip (zaa (zae (k_block (zae (zag .free hmixP (by kernel_rfl) ?_)))))
    obtain ⟨n20, h⟩ := need_some h
    refine G_q rfl (op_index_row (by kernel_rfl) rfl rfl n20.1 n20.2 ?_)
    refine G_q rfl (zaq (a := .row 1 zad (gi a0 x11_l2)) (by kernel_rfl) rfl rfl ?_)
    refine G_q rfl (zab (av := .row 1 zad (gi a0 x11_l2)) rfl ?_)
    refine G_nil (zaa (zae (zag .free hmixP (by kernel_rfl) ?_)))
    refine G_q rfl (zac (av := .xi x3_l2) rfl ?_)
    refine G_q rfl (zac (av := .row 1 zad (gi a0 x11_l2)) rfl ?_)
    refine G_q rfl (op_len_row (by kernel_rfl) rfl ?_)
    refine G_q rfl (op_add rfl rfl rfl ?_)
    refine G_q rfl (zab (av := .xi (i64 (x3_l2 + (List.length (gi a0 x11_l2) : Int)))) rfl ?_)
    refine G_nil (zaa (zae (zag .free hmixP (by kernel_rfl) ?_)))
    refine G_q rfl (zac (av := .xi (i64 (x3_l2 + (List.length (gi a0 x11_l2) : Int)))) rfl ?_)
    refine G_q rfl (op_lss rfl rfl ?_)
    refine G_nil (zaa ?_)
    refine zak (p := (i64 (x3_l2 + (List.length (gi a0 x11_l2) : Int))) < 0) rfl (fun hc => ?_) (fun hc => ?_)
    ·replace h := ite_t h hc
     cases h
    ·replace h := ite_f h hc
     refine k_skip (kB_normal (zaa (zag .free hmixP (by kernel_rfl) ?_)))
     refine G_q rfl (op_add rfl rfl rfl ?_)
     refine G_q rfl (zac (av := .xi (i64 (x11_l2 + 1))) rfl ?_)
     refine G_nil ?_
     refine zaf ⟨_, _, h, ?_⟩
     exact Sub.of_le (lq rfl (lq rfl (lq rfl (lq rfl (lq rfl lt0)))))
   ·replace h := ite_f h hc
    refine k_exit (kC_exit (kI_exit (kB_exit ?_)))
    refine zaf ⟨_, h, ?_⟩
    exact Sub.of_le (lq rfl (lq rfl lt0))
 ·refine zae (zag .free hmixP (by kernel_rfl) ?_)
  refine G_q rfl (zac (av := .xi x3_j1) rfl ?_)
  obtain ⟨y21, hy21, h⟩ := bnd1_some h
  refine G_l rfl (op_fun_0_1_1 (m_slices_Grow_L_api_Value_api_Value_ok _ _ hy21) Tryz.func87 (by kernel_rfl) (LEs.cons (AV.le_eq rfl) (LEs.cons (AV.le_eq rfl) LEs.nil)) (fun v22 => ?_))
  refine G_q rfl (zab (av := .exact v22) rfl ?_)
  refine G_nil (zaa ?_)
  refine k_join1_1 h (fun (x6_j23 : List (List UInt8)) (v6_j23 : Value) => (AF.put AF0 (some 6) (.exact v6_j23))) (fun (x6_j23 : List (List UInt8)) (v6_j23 : Value) => [vecT Tryz.prog 27 1 zad v6_j23 x6_j23]) (fun k23 h => ?_) (fun x6_j23 v6_j23 h => ?_)
  ·refine zae (zag .free hmixP (by kernel_rfl) ?_)
   refine G_q rfl (zac (av := .row 1 c_L_api_Value a0) rfl ?_)
   refine G_q rfl (op_len_row (by kernel_rfl) rfl ?_)
   refine G_q rfl (zac (av := .xi 0) rfl ?_)
   refine G_nil (zaa (k_block ?_))
   refine k_loop2_1 (m_slices_Concat_L_api_Value_api_Value_L4 a0 k23) (m_slices_Concat_L_api_Value_api_Value_B4 a0 k23) (fun _ _ => rfl) (fun m _ _ => rfl) h (fun (x6_l4 : List (List UInt8)) (x27_l4 : Int) (v6_l4 : Value) => (AF.put (AF.put (AF.put (AF.put AF0 (some 6) (.exact v6_l4)) (some 25) (.row 1 c_L_api_Value a0)) (some 26) (.xi (List.length a0 : Int))) (some 27) (.xi x27_l4))) (fun (x6_l4 : List (List UInt8)) (x27_l4 : Int) (v6_l4 : Value) => [vecT Tryz.prog 27 1 zad v6_l4 x6_l4]) v22 ?_ (fun rec4 x6_l4 x27_l4 v6_l4 h => ?_)
   ·exact Sub.of_le (lq rfl (lq rfl (lq rfl (lq rfl lt0))))
   ·unfold m_slices_Concat_L_api_Value_api_Value_B4 at h
    refine zae (zag .free hmixP (by kernel_rfl) ?_)
    refine G_q rfl (op_lss rfl rfl ?_)
    refine G_nil (zaa (zae ?_))
    refine zak (p := x27_l4 < (List.length a0 : Int)) rfl (fun hc => ?_) (fun hc => ?_)
    ·replace h := ite_t h hc
     refine k_skip (zaa (zae (k_block (zae (zag .free hmixP (by kernel_rfl) ?_)))))
     obtain ⟨n40, h⟩ := need_some h
     refine G_q rfl (op_index_row (by kernel_rfl) rfl rfl n40.1 n40.2 ?_)
     refine G_q rfl (zaq (a := .row 1 zad (gi a0 x27_l4)) (by kernel_rfl) rfl rfl ?_)
     refine G_q rfl (zab (av := .row 1 zad (gi a0 x27_l4)) rfl ?_)
     refine G_nil (zaa (zag .free hmixP (by kernel_rfl) ?_))
     refine G_q rfl (zac (av := .exact v6_l4) rfl ?_)
     refine G_q rfl (zac (av := .row 1 zad (gi a0 x27_l4)) rfl ?_)
     obtain ⟨n41, h⟩ := need_some h
     refine G_l rfl (op_appT (by kernel_rfl) rfl rfl oc_c_api_Value n41 (fun v42 => ?_))
     refine G_q rfl (zab (av := .exact v42) rfl ?_)
     refine G_nil (kB_normal (zaa (zag .free hmixP (by kernel_rfl) ?_)))
     refine G_q rfl (op_add rfl rfl rfl ?_)
     refine G_q rfl (zac (av := .xi (i64 (x27_l4 + 1))) rfl ?_)
     refine G_nil ?_
     refine zaf ⟨_, _, v42, h, ?_⟩
     exact Sub.of_le (lq rfl (lq rfl (lq rfl (lq rfl lt0))))
    ·replace h := ite_f h hc
     refine k_exit (kC_exit (kI_exit (kB_exit ?_)))
     refine zaf ⟨_, v6_l4, h, ?_⟩
     exact Sub.of_le (lq rfl lt0)
  ·refine zae (zag .free hmixP (by kernel_rfl) ?_)
   refine G_q rfl (zac (av := .exact v6_j23) rfl ?_)
   refine G_q rfl (zab (av := .exact v6_j23) rfl ?_)
   refine G_nil (zaa (k_ret ?_))
   obtain rfl := Option.some.inj h
   refine zaj (endN (af' := (AF.put AF0 (some 2) (.row 1 zad x6_j23))) (σ' := []) _ rfl ?_ ⟨rfl, rfl⟩)
   refine Sub.trans (SubU.to (SubU.freezeT (s := 2) rfl len_c_api_Value)) ?_
   exact Sub.of_le (lq rfl lt0)
set_option maxHeartbeats 4000000 in
theorem m_pattern_node_build_F_ok (self_pattern_node_build : Nd → (List (List UInt8)) → Option ((List UInt8) × (List (List UInt8)))) (hself_pattern_node_build : ∀ (a0 : Nd) (a1 : List (List UInt8)) (r : (List UInt8) × (List (List UInt8))), self_pattern_node_build a0 a1 = some r → Pure Tryz.prog 37 [(ndA a0), (.row 1 zad a1)] (.tup [.exact (.string (bs r.1)), .row 1 zad r.2])) (a0 : Nd) (a1 : List (List UInt8)) (r : (List UInt8) × (List (List UInt8))) (h : m_pattern_node_build_F self_pattern_node_build a0 a1 = some r) : Pure Tryz.prog 37 [(ndA a0), (.row 1 zad a1)] (.tup [.exact (.string (bs r.1)), .row 1 zad r.2]) := by
 unfold m_pattern_node_build_F at h
 refine Pure.ofFun (fun_of_awp Tryz.func37 rfl Tryz.ntmps37 (by simp) rfl (res2 rfl) fun E hE => k_end ?_)
 refine zae (zag .free hmixP (by kernel_rfl) ?_)
 refine G_q rfl (zab (av := .xs ([] : List UInt8)) rfl ?_)
 refine G_q rfl (zab (av := .exact (.slice none 0 0)) rfl ?_)
 refine G_nil (zaa (zae (zae (zag .free hmixP (by kernel_rfl) ?_))))
 refine G_q rfl (zac (av := ndA a0) rfl ?_)
 obtain ⟨y1, hy1, h⟩ := bnd1_some h
 refine G_q rfl (zap (c := zah y1) (ndA_un hy1) ?_)
 refine G_q rfl (zam (o := 0) (c' := (List.drop 0 (zah y1))) (by kernel_rfl) rfl rfl ?_)
 refine G_q rfl (zaq (a := .xi y1.1) (by kernel_rfl) rfl rfl ?_)
 refine G_nil (zaa (k_block (zae (zag .free hmixP (by kernel_rfl) ?_))))
 refine G_q rfl (op_eql rfl rfl ?_)
 refine G_q rfl (zab (av := .xb (decide (y1.1 = 30))) rfl ?_)
 refine G_nil (zaa ?_)
 refine zak (p := y1.1 = 30) rfl (fun hc => ?_) (fun hc => ?_)
 ·replace h := ite_t h hc
  refine zae ?_
  refine k_plan [] [(0, 0), (0, 1), (0, 2), (0, 3), (0, 4), (0, 5), (0, 6)] hmixP (by kernel_rfl) ?_
  refine P_q no34_0 rfl (zac (av := .row 1 zad a1) rfl ?_)
  obtain ⟨n2, h⟩ := need_some h
  refine P_q no34_0 rfl (op_index_row (by kernel_rfl) rfl rfl n2.1 n2.2 ?_)
  refine P_q no34_0 rfl (zaq (a := .xs (gi a1 0)) (by kernel_rfl) rfl rfl ?_)
  refine P_q no34_0 rfl (zac (av := .row 1 zad a1) rfl ?_)
  obtain ⟨n3, h⟩ := need_some h
  refine P_q no34_0 rfl (op_slice_rowd (by kernel_rfl) rfl (bnd_some rfl) bnd_none (by decide) n3 (Int.le_refl _) ?_)
  refine P_q no34_0 rfl (zab (av := .xs (gi a1 0)) rfl ?_)
  refine P_q no34_0 rfl (zab (av := .row 1 zad (List.drop (Int.toNat 1) a1)) rfl ?_)
  refine P_nil (zaa (k_ret (kB_ret (kC_ret ?_))))
  obtain rfl := Option.some.inj h
  refine zaj (endN (af' := (AF.put (AF.put AF0 (some 4) (.xs (gi a1 0))) (some 5) (.row 1 zad (List.drop (Int.toNat 1) a1)))) (σ' := []) _ rfl ?_ ⟨rfl, rfl⟩)
  exact Sub.of_le (lq rfl (lq rfl lt0))
 ·replace h := ite_f h hc
  refine zae (zag .free hmixP (by kernel_rfl) ?_)
  refine G_q rfl (op_eql rfl rfl ?_)
  refine G_q rfl (zab (av := .xb (decide (y1.1 = 32))) rfl ?_)
  refine G_nil (zaa ?_)
  refine zak (p := y1.1 = 32) rfl (fun hc => ?_) (fun hc => ?_)
  ·replace h := ite_t h hc
   refine zae (zag .free hmixP (by kernel_rfl) ?_)
   refine G_q rfl (zac (av := ndA a0) rfl ?_)
   obtain ⟨y4, hy4, h⟩ := bnd1_some h
   refine G_q rfl (zap (c := zah y4) (ndA_un hy4) ?_)
   refine G_q rfl (zam (o := 1) (c' := (List.drop 1 (zah y4))) (by kernel_rfl) rfl rfl ?_)
   refine G_q rfl (zaq (a := .xi y4.2.1) (by kernel_rfl) rfl rfl ?_)
   obtain ⟨y5, hy5, h⟩ := bnd1_some h
   refine G_q rfl (zal (m_value_Int_ok _ _ hy5) Tryz.func57 (by kernel_rfl) (LEs.cons (AV.le_eq rfl) LEs.nil) ?_)
   refine G_q rfl (zac (av := .row 1 zad a1) rfl ?_)
   refine G_q rfl (zab (av := .xs y5) rfl ?_)
   refine G_q rfl (zab (av := .row 1 zad a1) rfl ?_)
   refine G_nil (zaa (k_ret (kB_ret (kC_ret ?_))))
   obtain rfl := Option.some.inj h
   refine zaj (endN (af' := (AF.put (AF.put AF0 (some 4) (.xs y5)) (some 5) (.row 1 zad a1))) (σ' := []) _ rfl ?_ ⟨rfl, rfl⟩)
   exact Sub.of_le (lq rfl (lq rfl lt0))
  ·replace h := ite_f h hc
   refine zae (zag .free hmixP (by kernel_rfl) ?_)
   refine G_q rfl (op_eql rfl rfl ?_)
   refine G_q rfl (zab (av := .xb (decide (y1.1 = 33))) rfl ?_)
   refine G_nil (zaa ?_)
   refine zak (p := y1.1 = 33) rfl (fun hc => ?_) (fun hc => ?_)
   ·replace h := ite_t h hc
    refine zae (zag .free hmixP (by kernel_rfl) ?_)
    refine G_q rfl (zac (av := ndA a0) rfl ?_)
    obtain ⟨y6, hy6, h⟩ := bnd1_some h
    refine G_q rfl (zap (c := zah y6) (ndA_un hy6) ?_)
    refine G_q rfl (zam (o := 1) (c' := (List.drop 1 (zah y6))) (by kernel_rfl) rfl rfl ?_)
    refine G_q rfl (zaq (a := .xi y6.2.1) (by kernel_rfl) rfl rfl ?_)
    refine G_q rfl (op_eql rfl rfl ?_)
    obtain ⟨y7, hy7, h⟩ := bnd1_some h
    refine G_q rfl (zal (m_value_Bool_ok _ _ hy7) Tryz.func58 (by kernel_rfl) (LEs.cons (AV.le_eq rfl) LEs.nil) ?_)
    refine G_q rfl (zac (av := .row 1 zad a1) rfl ?_)
    refine G_q rfl (zab (av := .xs y7) rfl ?_)
    refine G_q rfl (zab (av := .row 1 zad a1) rfl ?_)
    refine G_nil (zaa (k_ret (kB_ret (kC_ret ?_))))
    obtain rfl := Option.some.inj h
    refine zaj (endN (af' := (AF.put (AF.put AF0 (some 4) (.xs y7)) (some 5) (.row 1 zad a1))) (σ' := []) _ rfl ?_ ⟨rfl, rfl⟩)
    exact Sub.of_le (lq rfl (lq rfl lt0))
   ·replace h := ite_f h hc
    refine k_skip (kB_normal (zaa (zae (zag .free hmixP (by kernel_rfl) ?_))))
    refine G_q rfl (zab (av := .exact (.slice none 0 0)) rfl ?_)
    refine G_nil (zaa ?_)
    refine k_join2_1 h (fun (x1_j8 : List (List UInt8)) (x6_j8 : List (List UInt8)) (v6_j8 : Value) => (AF.put (AF.put (AF.put AF0 (some 0) (ndA a0)) (some 1) (.row 1 zad x1_j8)) (some 6) (.exact v6_j8))) (fun (x1_j8 : List (List UInt8)) (x6_j8 : List (List UInt8)) (v6_j8 : Value) => [vecT Tryz.prog 27 1 zad v6_j8 x6_j8]) (fun k8 h => ?_) (fun x1_j8 x6_j8 v6_j8 h => ?_)
    ·refine zae (zag .free hmixP (by kernel_rfl) ?_)
     refine G_q rfl (zac (av := ndA a0) rfl ?_)
     obtain ⟨y23, hy23, h⟩ := bnd1_some h
     refine G_q rfl (zap (c := zah y23) (ndA_un hy23) ?_)
     refine G_q rfl (zam (o := 2) (c' := (List.drop 2 (zah y23))) (by kernel_rfl) rfl rfl ?_)
     refine G_q rfl (zaq (a := .row 1 c_P_pattern_node y23.2.2) (by kernel_rfl) rfl rfl ?_)
     refine G_q rfl (op_len_row (by kernel_rfl) rfl ?_)
     refine G_q rfl (zac (av := .xi 0) rfl ?_)
     refine G_nil (zaa (k_block ?_))
     refine k_loop3_1 (m_pattern_node_build_L2 self_pattern_node_build k8 y23) (m_pattern_node_build_B2 self_pattern_node_build k8 y23) (fun _ _ _ => rfl) (fun m _ _ _ => rfl) h (fun (x1_l2 : List (List UInt8)) (x6_l2 : List (List UInt8)) (x45_l2 : Int) (v6_l2 : Value) => (AF.put (AF.put (AF.put (AF.put (AF.put (AF.put AF0 (some 0) (ndA a0)) (some 1) (.row 1 zad x1_l2)) (some 6) (.exact v6_l2)) (some 43) (.row 1 c_P_pattern_node y23.2.2)) (some 44) (.xi (List.length y23.2.2 : Int))) (some 45) (.xi x45_l2))) (fun (x1_l2 : List (List UInt8)) (x6_l2 : List (List UInt8)) (x45_l2 : Int) (v6_l2 : Value) => [vecT Tryz.prog 27 1 zad v6_l2 x6_l2]) (.slice none 0 0) ?_ (fun rec2 x1_l2 x6_l2 x45_l2 v6_l2 h => ?_)
     ·refine Sub.trans (SubU.to (SubU.nilT (P := Tryz.prog) (t := 27) (n := 1) (enc := zad))) ?_
      exact Sub.of_le (lq rfl (lq rfl (lq rfl (lq rfl (lq rfl (lq rfl lt0))))))
     ·unfold m_pattern_node_build_B2 at h
      refine zae (zag .free hmixP (by kernel_rfl) ?_)
      refine G_q rfl (op_lss rfl rfl ?_)
      refine G_nil (zaa (zae ?_))
      refine zak (p := x45_l2 < (List.length y23.2.2 : Int)) rfl (fun hc => ?_) (fun hc => ?_)
      ·replace h := ite_t h hc
       refine k_skip (zaa (zae (k_block (zae (zag .free hmixP (by kernel_rfl) ?_)))))
       obtain ⟨n32, h⟩ := need_some h
       refine G_q rfl (op_index_row (by kernel_rfl) rfl rfl n32.1 n32.2 ?_)
       refine G_q rfl (zaq (a := ndA (gi y23.2.2 x45_l2)) (by kernel_rfl) rfl rfl ?_)
       refine G_q rfl (zab (av := ndA (gi y23.2.2 x45_l2)) rfl ?_)
       refine G_nil (zaa (zae (zag .free hmixP (by kernel_rfl) ?_)))
       refine G_q rfl (zac (av := ndA (gi y23.2.2 x45_l2)) rfl ?_)
       refine G_q rfl (zac (av := .row 1 zad x1_l2) rfl ?_)
       obtain ⟨y33, hy33, h⟩ := bnd1_some h
       refine G_q rfl (zal (hself_pattern_node_build _ _ _ hy33) Tryz.func37 (by kernel_rfl) (LEs.cons (AV.le_eq rfl) (LEs.cons (AV.le_eq rfl) LEs.nil)) ?_)
       refine G_q rfl (zac (av := .tup [.xs y33.1, .row 1 zad y33.2]) rfl ?_)
       refine G_q rfl (op_extract (av := .xs y33.1) rfl rfl ?_)
       refine G_q rfl (op_extract (av := .row 1 zad y33.2) rfl rfl ?_)
       refine G_q rfl (zab (av := .xs y33.1) rfl ?_)
       refine G_q rfl (zab (av := .row 1 zad y33.2) rfl ?_)
       refine G_nil (zaa (zae (zag .free hmixP (by kernel_rfl) ?_)))
       refine G_q rfl (zac (av := .exact v6_l2) rfl ?_)
       refine G_q rfl (zac (av := .xs y33.1) rfl ?_)
       refine G_q rfl (op_litT (n := 1) (enc := zad) [y33.1] (CellsAll.cons rfl CellsOf.str CellsAll.nil) rfl (by kernel_rfl) (LEss.cons (LEs.cons (AV.le_eq rfl) LEs.nil) LEss.nil) ?_)
       obtain ⟨n34, h⟩ := need_some h
       refine G_l rfl (op_appT (by kernel_rfl) rfl rfl oc_c_api_Value n34 (fun v35 => ?_))
       refine G_q rfl (zab (av := .exact v35) rfl ?_)
       refine G_nil (zaa (zag .free hmixP (by kernel_rfl) ?_))
       refine G_q rfl (zac (av := .row 1 zad y33.2) rfl ?_)
       refine G_q rfl (zab (av := .row 1 zad y33.2) rfl ?_)
       refine G_nil (kB_normal (zaa (zag .free hmixP (by kernel_rfl) ?_)))
       refine G_q rfl (op_add rfl rfl rfl ?_)
       refine G_q rfl (zac (av := .xi (i64 (x45_l2 + 1))) rfl ?_)
       refine G_nil ?_
       refine zaf ⟨_, _, _, v35, h, ?_⟩
       exact Sub.of_le (lq rfl (lq rfl (lq rfl (lq rfl (lq rfl (lq rfl lt0))))))
      ·replace h := ite_f h hc
       refine k_exit (kC_exit (kI_exit (kB_exit ?_)))
       refine zaf ⟨_, _, v6_l2, h, ?_⟩
       exact Sub.of_le (lq rfl (lq rfl (lq rfl lt0)))
    ·refine zae (zae (zag .free hmixP (by kernel_rfl) ?_))
     refine G_q rfl (zac (av := ndA a0) rfl ?_)
     obtain ⟨y36, hy36, h⟩ := bnd1_some h
     refine G_q rfl (zap (c := zah y36) (ndA_un hy36) ?_)
     refine G_q rfl (zam (o := 0) (c' := (List.drop 0 (zah y36))) (by kernel_rfl) rfl rfl ?_)
     refine G_q rfl (zaq (a := .xi y36.1) (by kernel_rfl) rfl rfl ?_)
     refine G_nil (zaa (k_block (zae (zag .free hmixP (by kernel_rfl) ?_))))
     refine G_q rfl (op_eql rfl rfl ?_)
     refine G_q rfl (zab (av := .xb (decide (y36.1 = 34))) rfl ?_)
     refine G_nil (zaa ?_)
     refine zak (p := y36.1 = 34) rfl (fun hc => ?_) (fun hc => ?_)
     ·replace h := ite_t h hc
      refine zae (zag .free hmixP (by kernel_rfl) ?_)
      refine G_q rfl (zac (av := .exact v6_j8) rfl ?_)
      refine G_sub rfl (SubU.freezeT2 (s1 := 6) (s2 := 67) rfl rfl len_c_api_Value) ?_
      obtain ⟨y37, hy37, h⟩ := bnd1_some h
      refine G_q rfl (zal (m_value_Tuple_ok _ _ hy37) Tryz.func59 (by kernel_rfl) (LEs.cons (AV.le_eq rfl) LEs.nil) ?_)
      refine G_q rfl (zac (av := .row 1 zad x1_j8) rfl ?_)
      refine G_q rfl (zab (av := .xs y37) rfl ?_)
      refine G_q rfl (zab (av := .row 1 zad x1_j8) rfl ?_)
      refine G_nil (zaa (k_ret (kB_ret (kC_ret ?_))))
      obtain rfl := Option.some.inj h
      refine zaj (endN (af' := (AF.put (AF.put AF0 (some 4) (.xs y37)) (some 5) (.row 1 zad x1_j8))) (σ' := []) _ rfl ?_ ⟨rfl, rfl⟩)
      exact Sub.of_le (lq rfl (lq rfl lt0))
     ·replace h := ite_f h hc
      refine zae (zag .free hmixP (by kernel_rfl) ?_)
      refine G_q rfl (op_eql rfl rfl ?_)
      refine G_q rfl (zab (av := .xb (decide (y36.1 = 35))) rfl ?_)
      refine G_nil (zaa ?_)
      refine zak (p := y36.1 = 35) rfl (fun hc => ?_) (fun hc => ?_)
      ·replace h := ite_t h hc
       refine zae (zag .free hmixP (by kernel_rfl) ?_)
       refine G_q rfl (zac (av := .exact v6_j8) rfl ?_)
       refine G_sub rfl (SubU.freezeT2 (s1 := 6) (s2 := 72) rfl rfl len_c_api_Value) ?_
       obtain ⟨y38, hy38, h⟩ := bnd1_some h
       refine G_q rfl (zal (m_value_Seq_ok _ _ hy38) Tryz.func60 (by kernel_rfl) (LEs.cons (AV.le_eq rfl) LEs.nil) ?_)
       refine G_q rfl (zac (av := .row 1 zad x1_j8) rfl ?_)
       refine G_q rfl (zab (av := .xs y38) rfl ?_)
       refine G_q rfl (zab (av := .row 1 zad x1_j8) rfl ?_)
       refine G_nil (zaa (k_ret (kB_ret (kC_ret ?_))))
       obtain rfl := Option.some.inj h
       refine zaj (endN (af' := (AF.put (AF.put AF0 (some 4) (.xs y38)) (some 5) (.row 1 zad x1_j8))) (σ' := []) _ rfl ?_ ⟨rfl, rfl⟩)
       exact Sub.of_le (lq rfl (lq rfl lt0))
      ·replace h := ite_f h hc
       refine zae (zag .free hmixP (by kernel_rfl) ?_)
       refine G_q rfl (op_eql rfl rfl ?_)
       refine G_q rfl (zab (av := .xb (decide (y36.1 = 37))) rfl ?_)
       refine G_nil (zaa ?_)
       refine zak (p := y36.1 = 37) rfl (fun hc => ?_) (fun hc => ?_)
       ·replace h := ite_t h hc
        refine zae (zag .free hmixP (by kernel_rfl) ?_)
        refine G_q rfl (zac (av := .exact v6_j8) rfl ?_)
        refine G_sub rfl (SubU.freezeT2 (s1 := 6) (s2 := 77) rfl rfl len_c_api_Value) ?_
        obtain ⟨y39, hy39, h⟩ := bnd1_some h
        refine G_q rfl (zal (m_value_Set_ok _ _ hy39) Tryz.func61 (by kernel_rfl) (LEs.cons (AV.le_eq rfl) LEs.nil) ?_)
        refine G_q rfl (zac (av := .row 1 zad x1_j8) rfl ?_)
        refine G_q rfl (zab (av := .xs y39) rfl ?_)
        refine G_q rfl (zab (av := .row 1 zad x1_j8) rfl ?_)
        refine G_nil (zaa (k_ret (kB_ret (kC_ret ?_))))
        obtain rfl := Option.some.inj h
        refine zaj (endN (af' := (AF.put (AF.put AF0 (some 4) (.xs y39)) (some 5) (.row 1 zad x1_j8))) (σ' := []) _ rfl ?_ ⟨rfl, rfl⟩)
        exact Sub.of_le (lq rfl (lq rfl lt0))
       ·replace h := ite_f h hc
        refine zae (zag .free hmixP (by kernel_rfl) ?_)
        refine G_q rfl (op_eql rfl rfl ?_)
        refine G_q rfl (zab (av := .xb (decide (y36.1 = 38))) rfl ?_)
        refine G_nil (zaa ?_)
        refine zak (p := y36.1 = 38) rfl (fun hc => ?_) (fun hc => ?_)
        ·replace h := ite_t h hc
         refine zae ?_
         refine k_join1_0 h (fun (x93_j46 : Bool) => (AF.put (AF.put (AF.put (AF.put AF0 (some 0) (ndA a0)) (some 1) (.row 1 zad x1_j8)) (some 6) (.exact v6_j8)) (some 93) (.xb x93_j46))) (fun (x93_j46 : Bool) => [vecT Tryz.prog 27 1 zad v6_j8 x6_j8]) (fun k46 h => ?_) (fun x93_j46 h => ?_)
         ·refine zag .free hmixP (by kernel_rfl) ?_
          refine G_q rfl (zac (av := ndA a0) rfl ?_)
          obtain ⟨y49, hy49, h⟩ := bnd1_some h
          refine G_q rfl (zap (c := zah y49) (ndA_un hy49) ?_)
          refine G_q rfl (zam (o := 1) (c' := (List.drop 1 (zah y49))) (by kernel_rfl) rfl rfl ?_)
          refine G_q rfl (zaq (a := .xi y49.2.1) (by kernel_rfl) rfl rfl ?_)
          refine G_q rfl (op_lss rfl rfl ?_)
          refine G_q rfl (zac (av := .xb (decide (y49.2.1 < 0))) rfl ?_)
          refine G_split (p := y49.2.1 < 0) 87 rfl (fun hc => ?_) (fun hc => ?_)
          ·replace h := ite_t h hc
           refine G_n rfl rfl (G_n rfl rfl (G_n rfl rfl (G_n rfl rfl (G_n rfl rfl ?_))))
           refine G_q rfl (zao rfl (av := .xb true) rfl ?_)
           refine G_nil ?_
           refine zaf ⟨_, h, ?_⟩
           exact Sub.of_le (lq rfl (lq rfl (lq rfl (lq rfl lt0))))
          ·replace h := ite_f h hc
           refine Gy_q rfl rfl rfl (zac (av := ndA a0) rfl ?_)
           obtain ⟨y50, hy50, h⟩ := bnd1_some h
           refine Gy_q rfl rfl rfl (zap (c := zah y50) (ndA_un hy50) ?_)
           refine Gy_q rfl rfl rfl (zam (o := 1) (c' := (List.drop 1 (zah y50))) (by kernel_rfl) rfl rfl ?_)
           refine Gy_q rfl rfl rfl (zaq (a := .xi y50.2.1) (by kernel_rfl) rfl rfl ?_)
           refine Gy_q rfl rfl rfl (op_geq rfl rfl ?_)
           refine G_q rfl (zai rfl (av := .xb (decide (65536 ≤ y50.2.1))) rfl ?_)
           refine G_nil ?_
           refine zaf ⟨_, h, ?_⟩
           exact Sub.of_le (lq rfl (lq rfl (lq rfl (lq rfl lt0))))
         ·refine k_cond_b (c := x93_j46) rfl (fun hc => ?_) (fun hc => ?_)
          ·replace h := ite_t h hc
           refine zae (zag .free hmixP (by kernel_rfl) ?_)
           refine G_q rfl (zac (av := .row 1 zad x1_j8) rfl ?_)
           refine G_q rfl (zab (av := .xs ([] : List UInt8)) rfl ?_)
           refine G_q rfl (zab (av := .row 1 zad x1_j8) rfl ?_)
           refine G_nil (zaa (k_ret (kC_ret (kB_ret (kC_ret ?_)))))
           obtain rfl := Option.some.inj h
           refine zaj (endN (af' := (AF.put (AF.put AF0 (some 4) (.xs ([] : List UInt8))) (some 5) (.row 1 zad x1_j8))) (σ' := []) _ rfl ?_ ⟨rfl, rfl⟩)
           refine Sub.trans (SubU.to SubU.drop) ?_
           exact Sub.of_le (lq rfl (lq rfl lt0))
          ·replace h := ite_f h hc
           refine k_skip (zaa (zae (zag .free hmixP (by kernel_rfl) ?_)))
           refine G_q rfl (zac (av := ndA a0) rfl ?_)
           obtain ⟨y51, hy51, h⟩ := bnd1_some h
           refine G_q rfl (zap (c := zah y51) (ndA_un hy51) ?_)
           refine G_q rfl (zam (o := 1) (c' := (List.drop 1 (zah y51))) (by kernel_rfl) rfl rfl ?_)
           refine G_q rfl (zaq (a := .xi y51.2.1) (by kernel_rfl) rfl rfl ?_)
           refine G_q rfl (zac (av := .exact v6_j8) rfl ?_)
           refine G_sub rfl (SubU.freezeT2 (s1 := 6) (s2 := 99) rfl rfl len_c_api_Value) ?_
           obtain ⟨y52, hy52, h⟩ := bnd1_some h
           refine G_q rfl (zal (m_value_Dot_ok _ _ _ hy52) Tryz.func62 (by kernel_rfl) (LEs.cons (AV.le_eq rfl) (LEs.cons (AV.le_eq rfl) LEs.nil)) ?_)
           refine G_q rfl (zac (av := .row 1 zad x1_j8) rfl ?_)
           refine G_q rfl (zab (av := .xs y52) rfl ?_)
           refine G_q rfl (zab (av := .row 1 zad x1_j8) rfl ?_)
           refine G_nil (zaa (k_ret (kB_ret (kC_ret ?_))))
           obtain rfl := Option.some.inj h
           refine zaj (endN (af' := (AF.put (AF.put AF0 (some 4) (.xs y52)) (some 5) (.row 1 zad x1_j8))) (σ' := []) _ rfl ?_ ⟨rfl, rfl⟩)
           exact Sub.of_le (lq rfl (lq rfl lt0))
        ·replace h := ite_f h hc
         refine k_skip (kB_normal (zaa (zae (zag .free hmixP (by kernel_rfl) ?_))))
         refine G_q rfl (zac (av := .exact v6_j8) rfl ?_)
         refine G_q rfl (zac (av := ndA a0) rfl ?_)
         obtain ⟨y53, hy53, h⟩ := bnd1_some h
         refine G_q rfl (zap (c := zah y53) (ndA_un hy53) ?_)
         refine G_q rfl (zam (o := 1) (c' := (List.drop 1 (zah y53))) (by kernel_rfl) rfl rfl ?_)
         refine G_q rfl (zaq (a := .xi y53.2.1) (by kernel_rfl) rfl rfl ?_)
         obtain ⟨n54, h⟩ := need_some h
         refine G_r rfl (op_index_vec (by kernel_rfl) rfl rfl n54.1 n54.2 ?_)
         refine G_r rfl (op_load_vec1 (i := y53.2.1) (o := 0) (a := .xs (gi x6_j8 y53.2.1)) (by kernel_rfl) len_c_api_Value rfl n54.1 n54.2 rfl ?_)
         refine G_q rfl (zab (av := .xs (gi x6_j8 y53.2.1)) rfl ?_)
         refine G_nil (zaa (zae (zae (zag .free hmixP (by kernel_rfl) ?_))))
         refine G_q rfl (zac (av := .xs (gi x6_j8 y53.2.1)) rfl ?_)
         obtain ⟨y55, hy55, h⟩ := bnd1_some h
         refine G_q rfl (zal (m_value_Kind_ok _ _ hy55) Tryz.func63 (by kernel_rfl) (LEs.cons (AV.le_eq rfl) LEs.nil) ?_)
         refine G_q rfl (op_neq rfl rfl ?_)
         refine G_nil (zaa ?_)
         refine zak (p := ¬ y55 = 4) rfl (fun hc => ?_) (fun hc => ?_)
         ·replace h := ite_t h hc
          refine zae (zag .free hmixP (by kernel_rfl) ?_)
          refine G_q rfl (zac (av := .row 1 zad x1_j8) rfl ?_)
          refine G_q rfl (zab (av := .xs ([] : List UInt8)) rfl ?_)
          refine G_q rfl (zab (av := .row 1 zad x1_j8) rfl ?_)
          refine G_nil (zaa (k_ret (kC_ret ?_)))
          obtain rfl := Option.some.inj h
          refine zaj (endN (af' := (AF.put (AF.put AF0 (some 4) (.xs ([] : List UInt8))) (some 5) (.row 1 zad x1_j8))) (σ' := []) _ rfl ?_ ⟨rfl, rfl⟩)
          refine Sub.trans (SubU.to SubU.drop) ?_
          exact Sub.of_le (lq rfl (lq rfl lt0))
         ·replace h := ite_f h hc
          refine k_skip (zaa (zae ?_))
          refine awp_sub (SubU.to (SubU.freezeT2 (s1 := 6) (s2 := 102) rfl rfl len_c_api_Value)) ?_
          refine k_plan [] [(0, 0), (0, 1), (0, 2), (0, 3), (0, 4), (0, 5), (0, 6), (0, 7), (0, 8), (0, 9), (0, 10), (0, 11), (0, 12), (0, 13), (0, 14), (0, 15), (0, 16), (0, 17), (0, 18), (0, 19), (0, 20)] hmixP (by kernel_rfl) ?_
          refine P_q no34_0 rfl (zac (av := .row 1 zad x6_j8) rfl ?_)
          refine P_q no34_0 rfl (zac (av := ndA a0) rfl ?_)
          obtain ⟨y57, hy57, h⟩ := bnd1_some h
          refine P_q no34_0 rfl (zap (c := zah y57) (ndA_un hy57) ?_)
          refine P_q no34_0 rfl (zam (o := 1) (c' := (List.drop 1 (zah y57))) (by kernel_rfl) rfl rfl ?_)
          refine P_q no34_0 rfl (zaq (a := .xi y57.2.1) (by kernel_rfl) rfl rfl ?_)
          obtain ⟨n58, h⟩ := need_some h
          refine P_q no34_0 rfl (op_slice_rowt (by kernel_rfl) rfl bnd_none (bnd_some rfl) (Int.le_refl 0) n58.1 n58.2 ?_)
          refine P_q no34_0 rfl (zac (av := .xs (gi x6_j8 y53.2.1)) rfl ?_)
          obtain ⟨y59, hy59, h⟩ := bnd1_some h
          refine P_q no34_0 rfl (zal (m_value_Parts_ok _ _ hy59) Tryz.func65 (by kernel_rfl) (LEs.cons (AV.le_eq rfl) LEs.nil) ?_)
          refine P_q no34_0 rfl (zac (av := .row 1 zad x6_j8) rfl ?_)
          refine P_q no34_0 rfl (zac (av := ndA a0) rfl ?_)
          obtain ⟨y60, hy60, h⟩ := bnd1_some h
          refine P_q no34_0 rfl (zap (c := zah y60) (ndA_un hy60) ?_)
          refine P_q no34_0 rfl (zam (o := 1) (c' := (List.drop 1 (zah y60))) (by kernel_rfl) rfl rfl ?_)
          refine P_q no34_0 rfl (zaq (a := .xi y60.2.1) (by kernel_rfl) rfl rfl ?_)
          refine P_q no34_0 rfl (op_add rfl rfl rfl ?_)
          obtain ⟨n61, h⟩ := need_some h
          refine P_q no34_0 rfl (op_slice_rowd (by kernel_rfl) rfl (bnd_some rfl) bnd_none n61.1 n61.2 (Int.le_refl _) ?_)
          refine P_q no34_0 rfl (op_litT (n := 1) (enc := c_L_api_Value) [List.take (Int.toNat y57.2.1) x6_j8, y59, List.drop (Int.toNat (i64 (y60.2.1 + 1))) x6_j8] (CellsAll.cons rfl CellsOf.row (CellsAll.cons rfl CellsOf.row (CellsAll.cons rfl CellsOf.row CellsAll.nil))) rfl (by kernel_rfl) (LEss.cons (LEs.cons (AV.le_eq rfl) LEs.nil) (LEss.cons (LEs.cons (AV.le_eq rfl) LEs.nil) (LEss.cons (LEs.cons (AV.le_eq rfl) LEs.nil) LEss.nil))) ?_)
          obtain ⟨y62, hy62, h⟩ := bnd1_some h
          refine P_q no34_0 rfl (zal (m_slices_Concat_L_api_Value_api_Value_ok _ _ hy62) Tryz.func64 (by kernel_rfl) (LEs.cons (AV.le_eq rfl) LEs.nil) ?_)
          obtain ⟨y63, hy63, h⟩ := bnd1_some h
          refine P_q no34_0 rfl (zal (m_value_Seq_ok _ _ hy63) Tryz.func60 (by kernel_rfl) (LEs.cons (AV.le_eq rfl) LEs.nil) ?_)
          refine P_q no34_0 rfl (zac (av := .row 1 zad x1_j8) rfl ?_)
          refine P_q no34_0 rfl (zab (av := .xs y63) rfl ?_)
          refine P_q no34_0 rfl (zab (av := .row 1 zad x1_j8) rfl ?_)
          refine P_nil (zaa (k_ret ?_))
          obtain rfl := Option.some.inj h
          refine zaj (endN (af' := (AF.put (AF.put AF0 (some 4) (.xs y63)) (some 5) (.row 1 zad x1_j8))) (σ' := []) _ rfl ?_ ⟨rfl, rfl⟩)
          exact Sub.of_le (lq rfl (lq rfl lt0))
set_option maxHeartbeats 4000000 in
theorem m_pattern_node_build_S_ok : ∀ n : Nat, (∀ (a0 : Nd) (a1 : List (List UInt8)) (r : (List UInt8) × (List (List UInt8))), m_pattern_node_build_S n a0 a1 = some r → Pure Tryz.prog 37 [(ndA a0), (.row 1 zad a1)] (.tup [.exact (.string (bs r.1)), .row 1 zad r.2]))
  | 0 => (fun _ _ _ h => by have h' : (none : Option _) = some _ := h; cases h')
  | n + 1 => by
    have ih := m_pattern_node_build_S_ok n
    exact fun a0 a1 r h => m_pattern_node_build_F_ok (m_pattern_node_build_S n) ih a0 a1 r h
theorem m_pattern_node_build_ok (a0 : Nd) (a1 : List (List UInt8)) (r : (List UInt8) × (List (List UInt8))) (h : m_pattern_node_build a0 a1 = some r) : Pure Tryz.prog 37 [(ndA a0), (.row 1 zad a1)] (.tup [.exact (.string (bs r.1)), .row 1 zad r.2]) := (m_pattern_node_build_S_ok FU) a0 a1 r h
set_option maxHeartbeats 4000000 in
theorem m_pattern_Build_ok (a0 : List (Int × Int × Int)) (a1 : List (List UInt8)) (r : (List UInt8) × Bool) (h : m_pattern_Build a0 a1 = some r) : Pure Tryz.prog 10 [(.row 3 zan a0), (.row 1 zad a1)] (.tup [.exact (.string (bs r.1)), .exact (.bool r.2)]) := by
 unfold m_pattern_Build at h
 refine Pure.ofFun (fun_of_awp Tryz.func10 rfl Tryz.ntmps10 (by simp) rfl (res2 rfl) fun E hE => k_end ?_)
 refine zae (zag .free hmixP (by kernel_rfl) ?_)
 refine G_q rfl (zab (av := .xs ([] : List UInt8)) rfl ?_)
 refine G_q rfl (zab (av := .xb false) rfl ?_)
 refine G_nil (zaa (zae (zag .free hmixP (by kernel_rfl) ?_)))
 refine G_q rfl (zac (av := .row 3 zan a0) rfl ?_)
 obtain ⟨y1, hy1, h⟩ := bnd1_some h
 refine G_q rfl (zal (m_pattern_whole_ok _ _ hy1) Tryz.func34 (by kernel_rfl) (LEs.cons (AV.le_eq rfl) LEs.nil) ?_)
 refine G_q rfl (zac (av := .tup [ndA y1.1, .xb y1.2]) rfl ?_)
 refine G_q rfl (op_extract (av := ndA y1.1) rfl rfl ?_)
 refine G_q rfl (op_extract (av := .xb y1.2) rfl rfl ?_)
 refine G_q rfl (zab (av := ndA y1.1) rfl ?_)
 refine G_q rfl (zab (av := .xb y1.2) rfl ?_)
 refine G_nil (zaa ?_)
 refine k_join1_0 h (fun (x7_j2 : Bool) => (AF.put (AF.put (AF.put (AF.put AF0 (some 0) (.row 3 zan a0)) (some 1) (.row 1 zad a1)) (some 6) (ndA y1.1)) (some 7) (.xb x7_j2))) (fun (x7_j2 : Bool) => []) (fun k2 h => ?_) (fun x7_j2 h => ?_)
 ·refine zag .free hmixP (by kernel_rfl) ?_
  refine G_q rfl (zac (av := .xb y1.2) rfl ?_)
  refine G_q rfl (zac (av := .xb y1.2) rfl ?_)
  refine G_splitB (c := y1.2) 16 rfl (fun hc => ?_) (fun hc => ?_)
  ·replace h := ite_t h hc
   refine Gy_q rfl rfl rfl (zac (av := ndA y1.1) rfl ?_)
   obtain ⟨y4, hy4, h⟩ := bnd1_some h
   refine Gy_q rfl rfl rfl (zal (m_pattern_node_all_ok _ _ _ hy4) Tryz.func35 (by kernel_rfl) (LEs.cons (AV.le_eq rfl) (LEs.cons ((fn_le Tryz.func36 (by kernel_rfl) (fun i r h => m_pattern_Build_1_ok i r h))) LEs.nil)) ?_)
   refine G_q rfl (zao rfl (av := .xb y4) rfl ?_)
   refine G_q rfl (zab (av := .xb y4) rfl ?_)
   refine G_nil ?_
   refine zaf ⟨_, h, ?_⟩
   exact Sub.of_le (lq rfl (lq rfl (lq rfl (lq rfl lt0))))
  ·replace h := ite_f h hc
   refine G_n rfl rfl (G_n rfl rfl ?_)
   refine G_q rfl (zai rfl (av := .xb false) rfl ?_)
   refine G_q rfl (zab (av := .xb false) rfl ?_)
   refine G_nil ?_
   refine zaf ⟨_, h, ?_⟩
   exact Sub.of_le (lq rfl (lq rfl (lq rfl (lq rfl lt0))))
 ·refine zae ?_
  refine k_join1_0 h (fun (x28_j9 : Bool) => (AF.put (AF.put (AF.put AF0 (some 1) (.row 1 zad a1)) (some 6) (ndA y1.1)) (some 28) (.xb x28_j9))) (fun (x28_j9 : Bool) => []) (fun k9 h => ?_) (fun x28_j9 h => ?_)
  ·refine zag .free hmixP (by kernel_rfl) ?_
   refine G_q rfl (zac (av := .xb x7_j2) rfl ?_)
   refine G_q rfl (op_not rfl ?_)
   refine G_q rfl (zac (av := .xb (!x7_j2)) rfl ?_)
   refine G_splitB (c := !x7_j2) 22 rfl (fun hc => ?_) (fun hc => ?_)
   ·replace h := ite_t h hc
    refine G_n rfl rfl (G_n rfl rfl (G_n rfl rfl (G_n rfl rfl (G_n rfl rfl ?_))))
    refine G_q rfl (zao rfl (av := .xb true) rfl ?_)
    refine G_nil ?_
    refine zaf ⟨_, h, ?_⟩
    exact Sub.of_le (lq rfl (lq rfl (lq rfl lt0)))
   ·replace h := ite_f h hc
    refine Gy_q rfl rfl rfl (zac (av := .row 1 zad a1) rfl ?_)
    refine Gy_q rfl rfl rfl (op_len_row (by kernel_rfl) rfl ?_)
    refine Gy_q rfl rfl rfl (zac (av := .row 3 zan a0) rfl ?_)
    obtain ⟨y11, hy11, h⟩ := bnd1_some h
    refine Gy_q rfl rfl rfl (zal (m_pattern_Vars_ok _ _ hy11) Tryz.func16 (by kernel_rfl) (LEs.cons (AV.le_eq rfl) LEs.nil) ?_)
    refine Gy_q rfl rfl rfl (op_neq rfl rfl ?_)
    refine G_q rfl (zai rfl (av := .xb (decide (¬ (List.length a1 : Int) = y11))) rfl ?_)
    refine G_nil ?_
    refine zaf ⟨_, h, ?_⟩
    exact Sub.of_le (lq rfl (lq rfl (lq rfl lt0)))
  ·refine k_cond_b (c := x28_j9) rfl (fun hc => ?_) (fun hc => ?_)
   ·replace h := ite_t h hc
    refine zae (zag .free hmixP (by kernel_rfl) ?_)
    refine G_q rfl (zab (av := .xs ([] : List UInt8)) rfl ?_)
    refine G_q rfl (zab (av := .xb false) rfl ?_)
    refine G_nil (zaa (k_ret (kC_ret ?_)))
    obtain rfl := Option.some.inj h
    refine zaj (endN (af' := (AF.put (AF.put AF0 (some 4) (.xs ([] : List UInt8))) (some 5) (.xb false))) (σ' := []) _ rfl ?_ ⟨rfl, rfl⟩)
    exact Sub.of_le (lq rfl (lq rfl lt0))
   ·replace h := ite_f h hc
    refine k_skip (zaa (zae (zag .free hmixP (by kernel_rfl) ?_)))
    refine G_q rfl (zac (av := ndA y1.1) rfl ?_)
    refine G_q rfl (zac (av := .row 1 zad a1) rfl ?_)
    obtain ⟨y12, hy12, h⟩ := bnd1_some h
    refine G_q rfl (zal (m_pattern_node_build_ok _ _ _ hy12) Tryz.func37 (by kernel_rfl) (LEs.cons (AV.le_eq rfl) (LEs.cons (AV.le_eq rfl) LEs.nil)) ?_)
    refine G_q rfl (zac (av := .tup [.xs y12.1, .row 1 zad y12.2]) rfl ?_)
    refine G_q rfl (op_extract (av := .xs y12.1) rfl rfl ?_)
    refine G_q rfl (op_extract (av := .row 1 zad y12.2) rfl rfl ?_)
    refine G_q rfl (zab (av := .xs y12.1) rfl ?_)
    refine G_q rfl (zab (av := .row 1 zad y12.2) rfl ?_)
    refine G_nil (zaa (zae (zae (zag .free hmixP (by kernel_rfl) ?_))))
    refine G_q rfl (zac (av := .xs y12.1) rfl ?_)
    obtain ⟨y13, hy13, h⟩ := bnd1_some h
    refine G_q rfl (zal (m_value_Valid_ok _ _ hy13) Tryz.func38 (by kernel_rfl) (LEs.cons (AV.le_eq rfl) LEs.nil) ?_)
    refine G_q rfl (op_not rfl ?_)
    refine G_nil (zaa ?_)
    refine k_cond_b (c := !y13) rfl (fun hc => ?_) (fun hc => ?_)
    ·replace h := ite_t h hc
     refine zae (zag .free hmixP (by kernel_rfl) ?_)
     refine G_q rfl (zab (av := .xs ([] : List UInt8)) rfl ?_)
     refine G_q rfl (zab (av := .xb false) rfl ?_)
     refine G_nil (zaa (k_ret (kC_ret ?_)))
     obtain rfl := Option.some.inj h
     refine zaj (endN (af' := (AF.put (AF.put AF0 (some 4) (.xs ([] : List UInt8))) (some 5) (.xb false))) (σ' := []) _ rfl ?_ ⟨rfl, rfl⟩)
     exact Sub.of_le (lq rfl (lq rfl lt0))
    ·replace h := ite_f h hc
     refine k_skip (zaa (zae (zag .free hmixP (by kernel_rfl) ?_)))
     refine G_q rfl (zac (av := .xs y12.1) rfl ?_)
     refine G_q rfl (zab (av := .xs y12.1) rfl ?_)
     refine G_q rfl (zab (av := .xb true) rfl ?_)
     refine G_nil (zaa (k_ret ?_))
     obtain rfl := Option.some.inj h
     refine zaj (endN (af' := (AF.put (AF.put AF0 (some 4) (.xs y12.1)) (some 5) (.xb true))) (σ' := []) _ rfl ?_ ⟨rfl, rfl⟩)
     exact Sub.of_le (lq rfl (lq rfl lt0))
end Go.Proofs.YtpfdeahcjlfijaaGreat
/- The functions compute their models, by program. -/
namespace Go.Proofs.YtpfdeahcjlfijaaGreat
open Go.RowKit
attribute [local irreducible] AV.exact AV.top AV.row AV.ptr AV.agg AV.tup AV.eptr AV.fn AV.nilq AV.nilqn opA opB opM opR Quiet Loud Reads wpG awp den Sub SubU Pure Fun vecI vecT boxI CellsAll CellsOf OneC LEs LEss
set_option maxRecDepth 100000

set_option maxHeartbeats 4000000 in
theorem m_value_Number_ok (a0 : List UInt8) (r : Int) (h : m_value_Number a0 = some r) : Pure Tryz.prog 72 [(.exact (.string (bs a0)))] (.exact (.int .i64 r)) := by
 unfold m_value_Number at h
 refine Pure.ofFun (fun_of_awp Tryz.func72 rfl Tryz.ntmps72 (by simp) rfl (res1 rfl) fun E hE => k_end ?_)
 refine zae (zag .free hmixP (by kernel_rfl) ?_)
 refine G_q rfl (zab (av := .xi 0) rfl ?_)
 refine G_nil (zaa (zae (zae (zag .free hmixP (by kernel_rfl) ?_))))
 refine G_q rfl (zac (av := .xs a0) rfl ?_)
 obtain ⟨y1, hy1, h⟩ := bnd1_some h
 refine G_q rfl (zal (m_value_Kind_ok _ _ hy1) Tryz.func63 (by kernel_rfl) (LEs.cons (AV.le_eq rfl) LEs.nil) ?_)
 refine G_nil (zaa (k_block (zae (zag .free hmixP (by kernel_rfl) ?_))))
 refine G_q rfl (op_eql rfl rfl ?_)
 refine G_q rfl (zab (av := .xb (decide (y1 = 1))) rfl ?_)
 refine G_nil (zaa ?_)
 refine zak (p := y1 = 1) rfl (fun hc => ?_) (fun hc => ?_)
 ·replace h := ite_t h hc
  refine zae (zag .free hmixP (by kernel_rfl) ?_)
  refine G_q rfl (zac (av := .xs a0) rfl ?_)
  obtain ⟨y2, hy2, h⟩ := bnd1_some h
  refine G_q rfl (zal (m_value_integer_ok _ _ hy2) Tryz.func91 (by kernel_rfl) (LEs.cons (AV.le_eq rfl) LEs.nil) ?_)
  refine G_q rfl (zab (av := .xi y2) rfl ?_)
  refine G_nil (zaa (k_ret (kB_ret (kC_ret ?_))))
  obtain rfl := Option.some.inj h
  refine zaj (endN (af' := (AF.put AF0 (some 2) (.xi y2))) (σ' := []) _ rfl ?_ ⟨rfl, rfl⟩)
  exact Sub.of_le (lq rfl lt0)
 ·replace h := ite_f h hc
  refine zae (zag .free hmixP (by kernel_rfl) ?_)
  refine G_q rfl (op_eql rfl rfl ?_)
  refine G_q rfl (zab (av := .xb (decide (y1 = 2))) rfl ?_)
  refine G_nil (zaa ?_)
  refine zak (p := y1 = 2) rfl (fun hc => ?_) (fun hc => ?_)
  ·replace h := ite_t h hc
   refine zae (zag .free hmixP (by kernel_rfl) ?_)
   refine G_q rfl (zac (av := .xs a0) rfl ?_)
   obtain ⟨n3, h⟩ := need_some h
   refine G_q rfl (op_index_str (by kernel_rfl) rfl rfl n3.1 n3.2 ?_)
   refine G_q rfl (op_convInt (k := .i64) (r := (UInt8.toNat (gi a0 1) : Int)) (by kernel_rfl) rfl (wrap_u8 rfl _) ?_)
   refine G_q rfl (zab (av := .xi (UInt8.toNat (gi a0 1) : Int)) rfl ?_)
   refine G_nil (zaa (k_ret (kB_ret (kC_ret ?_))))
   obtain rfl := Option.some.inj h
   refine zaj (endN (af' := (AF.put AF0 (some 2) (.xi (UInt8.toNat (gi a0 1) : Int)))) (σ' := []) _ rfl ?_ ⟨rfl, rfl⟩)
   exact Sub.of_le (lq rfl lt0)
  ·replace h := ite_f h hc
   refine zae (zag .free hmixP (by kernel_rfl) ?_)
   refine G_q rfl (op_eql rfl rfl ?_)
   refine G_q rfl (zab (av := .xb (decide (y1 = 10))) rfl ?_)
   refine G_nil (zaa ?_)
   refine zak (p := y1 = 10) rfl (fun hc => ?_) (fun hc => ?_)
   ·replace h := ite_t h hc
    refine zae ?_
    refine k_plan [] [(0, 0), (0, 1), (0, 2), (0, 3), (0, 4), (0, 5), (0, 6), (0, 7), (0, 8)] hmixP (by kernel_rfl) ?_
    refine P_q no34_0 rfl (zac (av := .xs a0) rfl ?_)
    obtain ⟨n4, h⟩ := need_some h
    refine P_q no34_0 rfl (op_index_str (by kernel_rfl) rfl rfl n4.1 n4.2 ?_)
    refine P_q no34_0 rfl (op_convInt (k := .i64) (r := (UInt8.toNat (gi a0 1) : Int)) (by kernel_rfl) rfl (wrap_u8 rfl _) ?_)
    refine P_q no34_0 rfl (op_shl rfl rfl (by decide) rfl ?_)
    refine P_q no34_0 rfl (zac (av := .xs a0) rfl ?_)
    obtain ⟨n5, h⟩ := need_some h
    refine P_q no34_0 rfl (op_index_str (by kernel_rfl) rfl rfl n5.1 n5.2 ?_)
    refine P_q no34_0 rfl (op_convInt (k := .i64) (r := (UInt8.toNat (gi a0 2) : Int)) (by kernel_rfl) rfl (wrap_u8 rfl _) ?_)
    refine P_q no34_0 rfl (op_or rfl rfl rfl ?_)
    refine P_q no34_0 rfl (zab (av := .xi (bOr .i64 (i64 ((UInt8.toNat (gi a0 1) : Int) * 2 ^ min (Int.toNat 8) IntKind.i64.bits)) (UInt8.toNat (gi a0 2) : Int))) rfl ?_)
    refine P_nil (zaa (k_ret (kB_ret (kC_ret ?_))))
    obtain rfl := Option.some.inj h
    refine zaj (endN (af' := (AF.put AF0 (some 2) (.xi (bOr .i64 (i64 ((UInt8.toNat (gi a0 1) : Int) * 2 ^ min (Int.toNat 8) IntKind.i64.bits)) (UInt8.toNat (gi a0 2) : Int))))) (σ' := []) _ rfl ?_ ⟨rfl, rfl⟩)
    exact Sub.of_le (lq rfl lt0)
   ·replace h := ite_f h hc
    refine k_skip (kB_normal (zaa (zae (zag .free hmixP (by kernel_rfl) ?_))))
    refine G_q rfl (zab (av := .xi 0) rfl ?_)
    refine G_nil (zaa (k_ret ?_))
    obtain rfl := Option.some.inj h
    refine zaj (endN (af' := (AF.put AF0 (some 2) (.xi 0))) (σ' := []) _ rfl ?_ ⟨rfl, rfl⟩)
    exact Sub.of_le (lq rfl lt0)
set_option maxHeartbeats 4000000 in
theorem m_pattern_each_ok {w2 : Value} (self_pattern_node_match : Nd → (List UInt8) → (List (List UInt8)) → Option ((List (List UInt8)) × Bool)) (hself_pattern_node_match : ∀ ⦃w2 : Value⦄ (a0 : Nd) (a1 : List UInt8) (a2 : List (List UInt8)) (r : (List (List UInt8)) × Bool), self_pattern_node_match a0 a1 a2 = some r → Fun Tryz.prog 41 [(ndA a0), (.exact (.string (bs a1))), (.exact w2)] [vecT Tryz.prog 27 1 zad w2 a2] (fun a s => ∃ z0, a = .tup [.exact z0, .exact (.bool r.2)] ∧ s = [vecT Tryz.prog 27 1 zad z0 r.1])) (a0 : List Nd) (a1 : List (List UInt8)) (a2 : List (List UInt8)) (r : (List (List UInt8)) × Bool) (h : m_pattern_each self_pattern_node_match a0 a1 a2 = some r) : Fun Tryz.prog 74 [(.row 1 c_P_pattern_node a0), (.row 1 zad a1), (.exact w2)] [vecT Tryz.prog 27 1 zad w2 a2] (fun a s => ∃ z0, a = .tup [.exact z0, .exact (.bool r.2)] ∧ s = [vecT Tryz.prog 27 1 zad z0 r.1]) := by
 unfold m_pattern_each at h
 refine fun_of_awp Tryz.func74 rfl Tryz.ntmps74 (by simp) rfl (res2 rfl) fun E hE => k_end ?_
 refine zae (zag .free hmixP (by kernel_rfl) ?_)
 refine G_q rfl (zab (av := .exact (.slice none 0 0)) rfl ?_)
 refine G_q rfl (zab (av := .xb false) rfl ?_)
 refine G_nil (zaa (zae (zae (zag .free hmixP (by kernel_rfl) ?_))))
 refine G_q rfl (zac (av := .row 1 c_P_pattern_node a0) rfl ?_)
 refine G_q rfl (op_len_row (by kernel_rfl) rfl ?_)
 refine G_q rfl (zac (av := .row 1 zad a1) rfl ?_)
 refine G_q rfl (op_len_row (by kernel_rfl) rfl ?_)
 refine G_q rfl (op_neq rfl rfl ?_)
 refine G_nil (zaa ?_)
 refine zak (p := ¬ (List.length a0 : Int) = (List.length a1 : Int)) rfl (fun hc => ?_) (fun hc => ?_)
 ·replace h := ite_t h hc
  refine zae (zag .free hmixP (by kernel_rfl) ?_)
  refine G_q rfl (zab (av := .exact (.slice none 0 0)) rfl ?_)
  refine G_q rfl (zab (av := .xb false) rfl ?_)
  refine G_nil (zaa (k_ret (kC_ret ?_)))
  obtain rfl := Option.some.inj h
  refine zaj (endN (af' := (AF.put (AF.put AF0 (some 6) (.exact (.slice none 0 0))) (some 7) (.xb false))) (σ' := [vecT Tryz.prog 27 1 zad (.slice none 0 0) []]) _ rfl ?_ ⟨(.slice none 0 0), rfl, rfl⟩)
  refine Sub.trans (SubU.to SubU.drop) ?_
  refine Sub.trans (SubU.to (SubU.nilT (P := Tryz.prog) (t := 27) (n := 1) (enc := zad))) ?_
  exact Sub.of_le (lq rfl (lq rfl lt0))
 ·replace h := ite_f h hc
  refine k_skip (zaa (zae (zag .free hmixP (by kernel_rfl) ?_)))
  refine G_q rfl (zab (av := .xb true) rfl ?_)
  refine G_nil (zaa ?_)
  refine k_join1_1 h (fun (x2_j1 : List (List UInt8)) (v2_j1 : Value) => (AF.put AF0 (some 2) (.exact v2_j1))) (fun (x2_j1 : List (List UInt8)) (v2_j1 : Value) => [vecT Tryz.prog 27 1 zad v2_j1 x2_j1]) (fun k1 h => ?_) (fun x2_j1 v2_j1 h => ?_)
  ·refine zae (zag .free hmixP (by kernel_rfl) ?_)
   refine G_q rfl (zac (av := .row 1 c_P_pattern_node a0) rfl ?_)
   refine G_q rfl (op_len_row (by kernel_rfl) rfl ?_)
   refine G_q rfl (zac (av := .xi 0) rfl ?_)
   refine G_nil (zaa (k_block ?_))
   refine k_loop2_1 (m_pattern_each_L2 self_pattern_node_match a0 a1 k1) (m_pattern_each_B2 self_pattern_node_match a0 a1 k1) (fun _ _ => rfl) (fun m _ _ => rfl) h (fun (x2_l2 : List (List UInt8)) (x18_l2 : Int) (v2_l2 : Value) => (AF.put (AF.put (AF.put (AF.put (AF.put AF0 (some 1) (.row 1 zad a1)) (some 2) (.exact v2_l2)) (some 16) (.row 1 c_P_pattern_node a0)) (some 17) (.xi (List.length a0 : Int))) (some 18) (.xi x18_l2))) (fun (x2_l2 : List (List UInt8)) (x18_l2 : Int) (v2_l2 : Value) => [vecT Tryz.prog 27 1 zad v2_l2 x2_l2]) w2 ?_ (fun rec2 x2_l2 x18_l2 v2_l2 h => ?_)
   ·exact Sub.of_le (lq rfl (lq rfl (lq rfl (lq rfl (lq rfl lt0)))))
   ·unfold m_pattern_each_B2 at h
    refine zae (zag .free hmixP (by kernel_rfl) ?_)
    refine G_q rfl (op_lss rfl rfl ?_)
    refine G_nil (zaa (zae ?_))
    refine zak (p := x18_l2 < (List.length a0 : Int)) rfl (fun hc => ?_) (fun hc => ?_)
    ·replace h := ite_t h hc
     refine k_skip (zaa (zae (k_block (zae (zag .free hmixP (by kernel_rfl) ?_)))))
     refine G_q rfl (zac (av := .xi x18_l2) rfl ?_)
     obtain ⟨n23, h⟩ := need_some h
     refine G_q rfl (op_index_row (by kernel_rfl) rfl rfl n23.1 n23.2 ?_)
     refine G_q rfl (zaq (a := ndA (gi a0 x18_l2)) (by kernel_rfl) rfl rfl ?_)
     refine G_q rfl (zab (av := .xi x18_l2) rfl ?_)
     refine G_q rfl (zab (av := ndA (gi a0 x18_l2)) rfl ?_)
     refine G_nil (zaa (zae (zag .free hmixP (by kernel_rfl) ?_)))
     refine G_q rfl (zac (av := ndA (gi a0 x18_l2)) rfl ?_)
     refine G_q rfl (zac (av := .row 1 zad a1) rfl ?_)
     refine G_q rfl (zac (av := .xi x18_l2) rfl ?_)
     obtain ⟨n24, h⟩ := need_some h
     refine G_q rfl (op_index_row (by kernel_rfl) rfl rfl n24.1 n24.2 ?_)
     refine G_q rfl (zaq (a := .xs (gi a1 x18_l2)) (by kernel_rfl) rfl rfl ?_)
     refine G_q rfl (zac (av := .exact v2_l2) rfl ?_)
     obtain ⟨y25, hy25, h⟩ := bnd1_some h
     refine G_l rfl (op_fun_1_1_1 (hself_pattern_node_match _ _ _ _ hy25) Tryz.func41 (by kernel_rfl) (LEs.cons (AV.le_eq rfl) (LEs.cons (AV.le_eq rfl) (LEs.cons (AV.le_eq rfl) LEs.nil))) (fun v26 => ?_))
     refine G_q rfl (zac (av := .tup [.exact v26, .xb y25.2]) rfl ?_)
     refine G_q rfl (op_extract (av := .exact v26) rfl rfl ?_)
     refine G_q rfl (op_extract (av := .xb y25.2) rfl rfl ?_)
     refine G_q rfl (zab (av := .exact v26) rfl ?_)
     refine G_q rfl (zab (av := .xb y25.2) rfl ?_)
     refine G_nil (zaa (zae (zag .free hmixP (by kernel_rfl) ?_)))
     refine G_q rfl (zac (av := .xb y25.2) rfl ?_)
     refine G_q rfl (op_not rfl ?_)
     refine G_nil (zaa ?_)
     refine k_cond_b (c := !y25.2) rfl (fun hc => ?_) (fun hc => ?_)
     ·replace h := ite_t h hc
      refine zae (zag .free hmixP (by kernel_rfl) ?_)
      refine G_q rfl (zab (av := .exact (.slice none 0 0)) rfl ?_)
      refine G_q rfl (zab (av := .xb false) rfl ?_)
      refine G_nil (zaa (k_ret (kB_ret (kC_ret (kI_ret (kB_ret (kI_ret ?_)))))))
      obtain rfl := Option.some.inj h
      refine zaj (endN (af' := (AF.put (AF.put AF0 (some 6) (.exact (.slice none 0 0))) (some 7) (.xb false))) (σ' := [vecT Tryz.prog 27 1 zad (.slice none 0 0) []]) _ rfl ?_ ⟨(.slice none 0 0), rfl, rfl⟩)
      refine Sub.trans (SubU.to SubU.drop) ?_
      refine Sub.trans (SubU.to (SubU.nilT (P := Tryz.prog) (t := 27) (n := 1) (enc := zad))) ?_
      exact Sub.of_le (lq rfl (lq rfl lt0))
     ·replace h := ite_f h hc
      refine k_skip (kB_normal (zaa (zag .free hmixP (by kernel_rfl) ?_)))
      refine G_q rfl (op_add rfl rfl rfl ?_)
      refine G_q rfl (zac (av := .xi (i64 (x18_l2 + 1))) rfl ?_)
      refine G_nil ?_
      refine zaf ⟨_, _, v26, h, ?_⟩
      exact Sub.of_le (lq rfl (lq rfl (lq rfl (lq rfl (lq rfl lt0)))))
    ·replace h := ite_f h hc
     refine k_exit (kC_exit (kI_exit (kB_exit ?_)))
     refine zaf ⟨_, v2_l2, h, ?_⟩
     exact Sub.of_le (lq rfl lt0)
  ·refine zae (zag .free hmixP (by kernel_rfl) ?_)
   refine G_q rfl (zac (av := .exact v2_j1) rfl ?_)
   refine G_q rfl (zab (av := .exact v2_j1) rfl ?_)
   refine G_q rfl (zab (av := .xb true) rfl ?_)
   refine G_nil (zaa (k_ret ?_))
   obtain rfl := Option.some.inj h
   refine zaj (endN (af' := (AF.put (AF.put AF0 (some 6) (.exact v2_j1)) (some 7) (.xb true))) (σ' := [vecT Tryz.prog 27 1 zad v2_j1 x2_j1]) _ rfl ?_ ⟨v2_j1, rfl, rfl⟩)
   exact Sub.of_le (lq rfl (lq rfl lt0))
set_option maxHeartbeats 4000000 in
theorem m_pattern_node_compound_ok {w3 : Value} (self_pattern_node_match : Nd → (List UInt8) → (List (List UInt8)) → Option ((List (List UInt8)) × Bool)) (hself_pattern_node_match : ∀ ⦃w2 : Value⦄ (a0 : Nd) (a1 : List UInt8) (a2 : List (List UInt8)) (r : (List (List UInt8)) × Bool), self_pattern_node_match a0 a1 a2 = some r → Fun Tryz.prog 41 [(ndA a0), (.exact (.string (bs a1))), (.exact w2)] [vecT Tryz.prog 27 1 zad w2 a2] (fun a s => ∃ z0, a = .tup [.exact z0, .exact (.bool r.2)] ∧ s = [vecT Tryz.prog 27 1 zad z0 r.1])) (a0 : Nd) (a1 : Bool) (a2 : List (List UInt8)) (a3 : List (List UInt8)) (r : (List (List UInt8)) × Bool) (h : m_pattern_node_compound self_pattern_node_match a0 a1 a2 a3 = some r) : Fun Tryz.prog 73 [(ndA a0), (.exact (.bool a1)), (.row 1 zad a2), (.exact w3)] [vecT Tryz.prog 27 1 zad w3 a3] (fun a s => ∃ z0, a = .tup [.exact z0, .exact (.bool r.2)] ∧ s = [vecT Tryz.prog 27 1 zad z0 r.1]) := by
 unfold m_pattern_node_compound at h
 refine fun_of_awp Tryz.func73 rfl Tryz.ntmps73 (by simp) rfl (res2 rfl) fun E hE => k_end ?_
 refine zae (zag .free hmixP (by kernel_rfl) ?_)
 refine G_q rfl (zab (av := .exact (.slice none 0 0)) rfl ?_)
 refine G_q rfl (zab (av := .xb false) rfl ?_)
 refine G_nil (zaa (zae (zae (zag .free hmixP (by kernel_rfl) ?_))))
 refine G_q rfl (zac (av := .xb a1) rfl ?_)
 refine G_q rfl (op_not rfl ?_)
 refine G_nil (zaa ?_)
 refine k_cond_b (c := !a1) rfl (fun hc => ?_) (fun hc => ?_)
 ·replace h := ite_t h hc
  refine zae (zag .free hmixP (by kernel_rfl) ?_)
  refine G_q rfl (zab (av := .exact (.slice none 0 0)) rfl ?_)
  refine G_q rfl (zab (av := .xb false) rfl ?_)
  refine G_nil (zaa (k_ret (kC_ret ?_)))
  obtain rfl := Option.some.inj h
  refine zaj (endN (af' := (AF.put (AF.put AF0 (some 8) (.exact (.slice none 0 0))) (some 9) (.xb false))) (σ' := [vecT Tryz.prog 27 1 zad (.slice none 0 0) []]) _ rfl ?_ ⟨(.slice none 0 0), rfl, rfl⟩)
  refine Sub.trans (SubU.to SubU.drop) ?_
  refine Sub.trans (SubU.to (SubU.nilT (P := Tryz.prog) (t := 27) (n := 1) (enc := zad))) ?_
  exact Sub.of_le (lq rfl (lq rfl lt0))
 ·replace h := ite_f h hc
  refine k_skip (zaa (zae (zag .free hmixP (by kernel_rfl) ?_)))
  refine G_q rfl (zac (av := ndA a0) rfl ?_)
  obtain ⟨y1, hy1, h⟩ := bnd1_some h
  refine G_q rfl (zap (c := zah y1) (ndA_un hy1) ?_)
  refine G_q rfl (zam (o := 2) (c' := (List.drop 2 (zah y1))) (by kernel_rfl) rfl rfl ?_)
  refine G_q rfl (zaq (a := .row 1 c_P_pattern_node y1.2.2) (by kernel_rfl) rfl rfl ?_)
  refine G_q rfl (zac (av := .row 1 zad a2) rfl ?_)
  refine G_q rfl (zac (av := .exact w3) rfl ?_)
  obtain ⟨y2, hy2, h⟩ := bnd1_some h
  refine G_l rfl (op_fun_1_1_1 (m_pattern_each_ok self_pattern_node_match hself_pattern_node_match _ _ _ _ hy2) Tryz.func74 (by kernel_rfl) (LEs.cons (AV.le_eq rfl) (LEs.cons (AV.le_eq rfl) (LEs.cons (AV.le_eq rfl) LEs.nil))) (fun v3 => ?_))
  refine G_q rfl (op_extract (av := .exact v3) rfl rfl ?_)
  refine G_q rfl (op_extract (av := .xb y2.2) rfl rfl ?_)
  refine G_q rfl (zab (av := .exact v3) rfl ?_)
  refine G_q rfl (zab (av := .xb y2.2) rfl ?_)
  refine G_nil (zaa (k_ret ?_))
  obtain rfl := Option.some.inj h
  refine zaj (endN (af' := (AF.put (AF.put AF0 (some 8) (.exact v3)) (some 9) (.xb y2.2))) (σ' := [vecT Tryz.prog 27 1 zad v3 y2.1]) _ rfl ?_ ⟨v3, rfl, rfl⟩)
  exact Sub.of_le (lq rfl (lq rfl lt0))
end Go.Proofs.YtpfdeahcjlfijaaGreat
/- The functions compute their models, by program. -/
namespace Go.Proofs.YtpfdeahcjlfijaaGreat
open Go.RowKit
attribute [local irreducible] AV.exact AV.top AV.row AV.ptr AV.agg AV.tup AV.eptr AV.fn AV.nilq AV.nilqn opA opB opM opR Quiet Loud Reads wpG awp den Sub SubU Pure Fun vecI vecT boxI CellsAll CellsOf OneC LEs LEss
set_option maxRecDepth 100000

set_option maxHeartbeats 4000000 in
theorem m_pattern_node_match_F_ok {w2 : Value} (self_pattern_node_match : Nd → (List UInt8) → (List (List UInt8)) → Option ((List (List UInt8)) × Bool)) (hself_pattern_node_match : ∀ ⦃w2 : Value⦄ (a0 : Nd) (a1 : List UInt8) (a2 : List (List UInt8)) (r : (List (List UInt8)) × Bool), self_pattern_node_match a0 a1 a2 = some r → Fun Tryz.prog 41 [(ndA a0), (.exact (.string (bs a1))), (.exact w2)] [vecT Tryz.prog 27 1 zad w2 a2] (fun a s => ∃ z0, a = .tup [.exact z0, .exact (.bool r.2)] ∧ s = [vecT Tryz.prog 27 1 zad z0 r.1])) (a0 : Nd) (a1 : List UInt8) (a2 : List (List UInt8)) (r : (List (List UInt8)) × Bool) (h : m_pattern_node_match_F self_pattern_node_match a0 a1 a2 = some r) : Fun Tryz.prog 41 [(ndA a0), (.exact (.string (bs a1))), (.exact w2)] [vecT Tryz.prog 27 1 zad w2 a2] (fun a s => ∃ z0, a = .tup [.exact z0, .exact (.bool r.2)] ∧ s = [vecT Tryz.prog 27 1 zad z0 r.1]) := by
 unfold m_pattern_node_match_F at h
 refine fun_of_awp Tryz.func41 rfl Tryz.ntmps41 (by simp) rfl (res2 rfl) fun E hE => k_end ?_
 refine zae (zag .free hmixP (by kernel_rfl) ?_)
 refine G_q rfl (zab (av := .exact (.slice none 0 0)) rfl ?_)
 refine G_q rfl (zab (av := .xb false) rfl ?_)
 refine G_nil (zaa (zae (zag .free hmixP (by kernel_rfl) ?_)))
 refine G_q rfl (zac (av := .xs a1) rfl ?_)
 obtain ⟨y1, hy1, h⟩ := bnd1_some h
 refine G_q rfl (zal (m_value_Kind_ok _ _ hy1) Tryz.func63 (by kernel_rfl) (LEs.cons (AV.le_eq rfl) LEs.nil) ?_)
 refine G_q rfl (zac (av := .xs a1) rfl ?_)
 obtain ⟨y2, hy2, h⟩ := bnd1_some h
 refine G_q rfl (zal (m_value_Parts_ok _ _ hy2) Tryz.func65 (by kernel_rfl) (LEs.cons (AV.le_eq rfl) LEs.nil) ?_)
 refine G_q rfl (zab (av := .xi y1) rfl ?_)
 refine G_q rfl (zab (av := .row 1 zad y2) rfl ?_)
 refine G_nil (zaa (zae (zae (zag .free hmixP (by kernel_rfl) ?_))))
 refine G_q rfl (zac (av := ndA a0) rfl ?_)
 obtain ⟨y3, hy3, h⟩ := bnd1_some h
 refine G_q rfl (zap (c := zah y3) (ndA_un hy3) ?_)
 refine G_q rfl (zam (o := 0) (c' := (List.drop 0 (zah y3))) (by kernel_rfl) rfl rfl ?_)
 refine G_q rfl (zaq (a := .xi y3.1) (by kernel_rfl) rfl rfl ?_)
 refine G_nil (zaa (k_block (zae (zag .free hmixP (by kernel_rfl) ?_))))
 refine G_q rfl (op_eql rfl rfl ?_)
 refine G_q rfl (zab (av := .xb (decide (y3.1 = 30))) rfl ?_)
 refine G_nil (zaa ?_)
 refine zak (p := y3.1 = 30) rfl (fun hc => ?_) (fun hc => ?_)
 ·replace h := ite_t h hc
  refine zae (zag .free hmixP (by kernel_rfl) ?_)
  refine G_q rfl (zac (av := .exact w2) rfl ?_)
  refine G_q rfl (zac (av := .xs a1) rfl ?_)
  refine G_q rfl (op_litT (n := 1) (enc := zad) [a1] (CellsAll.cons rfl CellsOf.str CellsAll.nil) rfl (by kernel_rfl) (LEss.cons (LEs.cons (AV.le_eq rfl) LEs.nil) LEss.nil) ?_)
  obtain ⟨n4, h⟩ := need_some h
  refine G_l rfl (op_appT (by kernel_rfl) rfl rfl oc_c_api_Value n4 (fun v5 => ?_))
  refine G_q rfl (zab (av := .exact v5) rfl ?_)
  refine G_q rfl (zab (av := .xb true) rfl ?_)
  refine G_nil (zaa (k_ret (kB_ret (kC_ret ?_))))
  obtain rfl := Option.some.inj h
  refine zaj (endN (af' := (AF.put (AF.put AF0 (some 6) (.exact v5)) (some 7) (.xb true))) (σ' := [vecT Tryz.prog 27 1 zad v5 (a2 ++ [a1])]) _ rfl ?_ ⟨v5, rfl, rfl⟩)
  exact Sub.of_le (lq rfl (lq rfl lt0))
 ·replace h := ite_f h hc
  refine zae (zag .free hmixP (by kernel_rfl) ?_)
  refine G_q rfl (op_eql rfl rfl ?_)
  refine G_q rfl (zab (av := .xb (decide (y3.1 = 31))) rfl ?_)
  refine G_nil (zaa ?_)
  refine zak (p := y3.1 = 31) rfl (fun hc => ?_) (fun hc => ?_)
  ·replace h := ite_t h hc
   refine zae (zag .free hmixP (by kernel_rfl) ?_)
   refine G_q rfl (zac (av := .exact w2) rfl ?_)
   refine G_q rfl (zab (av := .exact w2) rfl ?_)
   refine G_q rfl (zab (av := .xb true) rfl ?_)
   refine G_nil (zaa (k_ret (kB_ret (kC_ret ?_))))
   obtain rfl := Option.some.inj h
   refine zaj (endN (af' := (AF.put (AF.put AF0 (some 6) (.exact w2)) (some 7) (.xb true))) (σ' := [vecT Tryz.prog 27 1 zad w2 a2]) _ rfl ?_ ⟨w2, rfl, rfl⟩)
   exact Sub.of_le (lq rfl (lq rfl lt0))
  ·replace h := ite_f h hc
   refine zae (zag .free hmixP (by kernel_rfl) ?_)
   refine G_q rfl (op_eql rfl rfl ?_)
   refine G_q rfl (zab (av := .xb (decide (y3.1 = 32))) rfl ?_)
   refine G_nil (zaa ?_)
   refine zak (p := y3.1 = 32) rfl (fun hc => ?_) (fun hc => ?_)
   ·replace h := ite_t h hc
    refine k_join1_0 h (fun (x7_j6 : Bool) => (AF.put (AF.put AF0 (some 6) (.exact w2)) (some 7) (.xb x7_j6))) (fun (x7_j6 : Bool) => [vecT Tryz.prog 27 1 zad w2 a2]) (fun k6 h => ?_) (fun x7_j6 h => ?_)
    ·refine k_plan [] [(0, 0), (0, 1), (0, 2), (0, 3), (0, 4), (0, 5), (0, 6), (0, 7), (0, 8), (0, 9), (0, 10), (0, 11), (0, 12), (0, 13)] hmixP (by kernel_rfl) ?_
     refine P_q no34_0 rfl (zac (av := .exact w2) rfl ?_)
     refine P_q no34_0 rfl (zac (av := .xi y1) rfl ?_)
     refine P_q no34_0 rfl (op_eql rfl rfl ?_)
     refine P_q no34_0 rfl (zac (av := .xb (decide (y1 = 1))) rfl ?_)
     refine P_split (p := y1 = 1) 34 rfl (fun hc => ?_) (fun hc => ?_)
     ·replace h := ite_t h hc
      refine Py_q no34_0 rfl rfl rfl (zac (av := .xs a1) rfl ?_)
      obtain ⟨y9, hy9, h⟩ := bnd1_some h
      refine Py_q no34_0 rfl rfl rfl (zal (m_value_Number_ok _ _ hy9) Tryz.func72 (by kernel_rfl) (LEs.cons (AV.le_eq rfl) LEs.nil) ?_)
      refine Py_q no34_0 rfl rfl rfl (zac (av := ndA a0) rfl ?_)
      obtain ⟨y10, hy10, h⟩ := bnd1_some h
      refine Py_q no34_0 rfl rfl rfl (zap (c := zah y10) (ndA_un hy10) ?_)
      refine Py_q no34_0 rfl rfl rfl (zam (o := 1) (c' := (List.drop 1 (zah y10))) (by kernel_rfl) rfl rfl ?_)
      refine Py_q no34_0 rfl rfl rfl (zaq (a := .xi y10.2.1) (by kernel_rfl) rfl rfl ?_)
      refine Py_q no34_0 rfl rfl rfl (op_eql rfl rfl ?_)
      refine P_q no34_0 rfl (zao rfl (av := .xb (decide (y9 = y10.2.1))) rfl ?_)
      refine P_q no34_0 rfl (zab (av := .exact w2) rfl ?_)
      refine P_q no34_0 rfl (zab (av := .xb (decide (y9 = y10.2.1))) rfl ?_)
      refine P_nil ?_
      refine zaf ⟨_, h, ?_⟩
      exact Sub.of_le (lq rfl (lq rfl lt0))
     ·replace h := ite_f h hc
      refine P_n no34_0 rfl rfl rfl ?_
      refine P_n no34_0 rfl rfl rfl ?_
      refine P_n no34_0 rfl rfl rfl ?_
      refine P_n no34_0 rfl rfl rfl ?_
      refine P_n no34_0 rfl rfl rfl ?_
      refine P_n no34_0 rfl rfl rfl ?_
      refine P_n no34_0 rfl rfl rfl ?_
      refine P_q no34_0 rfl (zai rfl (av := .xb false) rfl ?_)
      refine P_q no34_0 rfl (zab (av := .exact w2) rfl ?_)
      refine P_q no34_0 rfl (zab (av := .xb false) rfl ?_)
      refine P_nil ?_
      refine zaf ⟨_, h, ?_⟩
      exact Sub.of_le (lq rfl (lq rfl lt0))
    ·refine k_ret (kB_ret (kC_ret ?_))
     obtain rfl := Option.some.inj h
     refine zaj (endN (af' := (AF.put (AF.put AF0 (some 6) (.exact w2)) (some 7) (.xb x7_j6))) (σ' := [vecT Tryz.prog 27 1 zad w2 a2]) _ rfl ?_ ⟨w2, rfl, rfl⟩)
     exact Sub.of_le (lq rfl (lq rfl lt0))
   ·replace h := ite_f h hc
    refine zae (zag .free hmixP (by kernel_rfl) ?_)
    refine G_q rfl (op_eql rfl rfl ?_)
    refine G_q rfl (zab (av := .xb (decide (y3.1 = 33))) rfl ?_)
    refine G_nil (zaa ?_)
    refine zak (p := y3.1 = 33) rfl (fun hc => ?_) (fun hc => ?_)
    ·replace h := ite_t h hc
     refine k_join1_0 h (fun (x7_j11 : Bool) => (AF.put (AF.put AF0 (some 6) (.exact w2)) (some 7) (.xb x7_j11))) (fun (x7_j11 : Bool) => [vecT Tryz.prog 27 1 zad w2 a2]) (fun k11 h => ?_) (fun x7_j11 h => ?_)
     ·refine k_plan [] [(0, 0), (0, 1), (0, 2), (0, 3), (0, 4), (0, 5), (0, 6), (0, 7), (0, 8), (0, 9), (0, 10), (0, 11), (0, 12), (0, 13)] hmixP (by kernel_rfl) ?_
      refine P_q no34_0 rfl (zac (av := .exact w2) rfl ?_)
      refine P_q no34_0 rfl (zac (av := .xi y1) rfl ?_)
      refine P_q no34_0 rfl (op_eql rfl rfl ?_)
      refine P_q no34_0 rfl (zac (av := .xb (decide (y1 = 2))) rfl ?_)
      refine P_split (p := y1 = 2) 48 rfl (fun hc => ?_) (fun hc => ?_)
      ·replace h := ite_t h hc
       refine Py_q no34_0 rfl rfl rfl (zac (av := .xs a1) rfl ?_)
       obtain ⟨y14, hy14, h⟩ := bnd1_some h
       refine Py_q no34_0 rfl rfl rfl (zal (m_value_Number_ok _ _ hy14) Tryz.func72 (by kernel_rfl) (LEs.cons (AV.le_eq rfl) LEs.nil) ?_)
       refine Py_q no34_0 rfl rfl rfl (zac (av := ndA a0) rfl ?_)
       obtain ⟨y15, hy15, h⟩ := bnd1_some h
       refine Py_q no34_0 rfl rfl rfl (zap (c := zah y15) (ndA_un hy15) ?_)
       refine Py_q no34_0 rfl rfl rfl (zam (o := 1) (c' := (List.drop 1 (zah y15))) (by kernel_rfl) rfl rfl ?_)
       refine Py_q no34_0 rfl rfl rfl (zaq (a := .xi y15.2.1) (by kernel_rfl) rfl rfl ?_)
       refine Py_q no34_0 rfl rfl rfl (op_eql rfl rfl ?_)
       refine P_q no34_0 rfl (zao rfl (av := .xb (decide (y14 = y15.2.1))) rfl ?_)
       refine P_q no34_0 rfl (zab (av := .exact w2) rfl ?_)
       refine P_q no34_0 rfl (zab (av := .xb (decide (y14 = y15.2.1))) rfl ?_)
       refine P_nil ?_
       refine zaf ⟨_, h, ?_⟩
       exact Sub.of_le (lq rfl (lq rfl lt0))
      ·replace h := ite_f h hc
       refine P_n no34_0 rfl rfl rfl ?_
       refine P_n no34_0 rfl rfl rfl ?_
       refine P_n no34_0 rfl rfl rfl ?_
       refine P_n no34_0 rfl rfl rfl ?_
       refine P_n no34_0 rfl rfl rfl ?_
       refine P_n no34_0 rfl rfl rfl ?_
       refine P_n no34_0 rfl rfl rfl ?_
       refine P_q no34_0 rfl (zai rfl (av := .xb false) rfl ?_)
       refine P_q no34_0 rfl (zab (av := .exact w2) rfl ?_)
       refine P_q no34_0 rfl (zab (av := .xb false) rfl ?_)
       refine P_nil ?_
       refine zaf ⟨_, h, ?_⟩
       exact Sub.of_le (lq rfl (lq rfl lt0))
     ·refine k_ret (kB_ret (kC_ret ?_))
      obtain rfl := Option.some.inj h
      refine zaj (endN (af' := (AF.put (AF.put AF0 (some 6) (.exact w2)) (some 7) (.xb x7_j11))) (σ' := [vecT Tryz.prog 27 1 zad w2 a2]) _ rfl ?_ ⟨w2, rfl, rfl⟩)
      exact Sub.of_le (lq rfl (lq rfl lt0))
    ·replace h := ite_f h hc
     refine zae (zag .free hmixP (by kernel_rfl) ?_)
     refine G_q rfl (op_eql rfl rfl ?_)
     refine G_q rfl (zab (av := .xb (decide (y3.1 = 34))) rfl ?_)
     refine G_nil (zaa ?_)
     refine zak (p := y3.1 = 34) rfl (fun hc => ?_) (fun hc => ?_)
     ·replace h := ite_t h hc
      refine zae (zag .free hmixP (by kernel_rfl) ?_)
      refine G_q rfl (zac (av := ndA a0) rfl ?_)
      refine G_q rfl (zac (av := .xi y1) rfl ?_)
      refine G_q rfl (op_eql rfl rfl ?_)
      refine G_q rfl (zac (av := .row 1 zad y2) rfl ?_)
      refine G_q rfl (zac (av := .exact w2) rfl ?_)
      obtain ⟨y16, hy16, h⟩ := bnd1_some h
      refine G_l rfl (op_fun_1_1_1 (m_pattern_node_compound_ok self_pattern_node_match hself_pattern_node_match _ _ _ _ _ hy16) Tryz.func73 (by kernel_rfl) (LEs.cons (AV.le_eq rfl) (LEs.cons (AV.le_eq rfl) (LEs.cons (AV.le_eq rfl) (LEs.cons (AV.le_eq rfl) LEs.nil)))) (fun v17 => ?_))
      refine G_q rfl (op_extract (av := .exact v17) rfl rfl ?_)
      refine G_q rfl (op_extract (av := .xb y16.2) rfl rfl ?_)
      refine G_q rfl (zab (av := .exact v17) rfl ?_)
      refine G_q rfl (zab (av := .xb y16.2) rfl ?_)
      refine G_nil (zaa (k_ret (kB_ret (kC_ret ?_))))
      obtain rfl := Option.some.inj h
      refine zaj (endN (af' := (AF.put (AF.put AF0 (some 6) (.exact v17)) (some 7) (.xb y16.2))) (σ' := [vecT Tryz.prog 27 1 zad v17 y16.1]) _ rfl ?_ ⟨v17, rfl, rfl⟩)
      exact Sub.of_le (lq rfl (lq rfl lt0))
     ·replace h := ite_f h hc
      refine zae (zag .free hmixP (by kernel_rfl) ?_)
      refine G_q rfl (op_eql rfl rfl ?_)
      refine G_q rfl (zab (av := .xb (decide (y3.1 = 35))) rfl ?_)
      refine G_nil (zaa ?_)
      refine zak (p := y3.1 = 35) rfl (fun hc => ?_) (fun hc => ?_)
      ·replace h := ite_t h hc
       refine zae (zag .free hmixP (by kernel_rfl) ?_)
       refine G_q rfl (zac (av := ndA a0) rfl ?_)
       refine G_q rfl (zac (av := .xi y1) rfl ?_)
       refine G_q rfl (op_eql rfl rfl ?_)
       refine G_q rfl (zac (av := .row 1 zad y2) rfl ?_)
       refine G_q rfl (zac (av := .exact w2) rfl ?_)
       obtain ⟨y18, hy18, h⟩ := bnd1_some h
       refine G_l rfl (op_fun_1_1_1 (m_pattern_node_compound_ok self_pattern_node_match hself_pattern_node_match _ _ _ _ _ hy18) Tryz.func73 (by kernel_rfl) (LEs.cons (AV.le_eq rfl) (LEs.cons (AV.le_eq rfl) (LEs.cons (AV.le_eq rfl) (LEs.cons (AV.le_eq rfl) LEs.nil)))) (fun v19 => ?_))
       refine G_q rfl (op_extract (av := .exact v19) rfl rfl ?_)
       refine G_q rfl (op_extract (av := .xb y18.2) rfl rfl ?_)
       refine G_q rfl (zab (av := .exact v19) rfl ?_)
       refine G_q rfl (zab (av := .xb y18.2) rfl ?_)
       refine G_nil (zaa (k_ret (kB_ret (kC_ret ?_))))
       obtain rfl := Option.some.inj h
       refine zaj (endN (af' := (AF.put (AF.put AF0 (some 6) (.exact v19)) (some 7) (.xb y18.2))) (σ' := [vecT Tryz.prog 27 1 zad v19 y18.1]) _ rfl ?_ ⟨v19, rfl, rfl⟩)
       exact Sub.of_le (lq rfl (lq rfl lt0))
      ·replace h := ite_f h hc
       refine zae (zag .free hmixP (by kernel_rfl) ?_)
       refine G_q rfl (op_eql rfl rfl ?_)
       refine G_q rfl (zab (av := .xb (decide (y3.1 = 37))) rfl ?_)
       refine G_nil (zaa ?_)
       refine zak (p := y3.1 = 37) rfl (fun hc => ?_) (fun hc => ?_)
       ·replace h := ite_t h hc
        refine zae (zag .free hmixP (by kernel_rfl) ?_)
        refine G_q rfl (zac (av := ndA a0) rfl ?_)
        refine G_q rfl (zac (av := .xi y1) rfl ?_)
        refine G_q rfl (op_eql rfl rfl ?_)
        refine G_q rfl (zac (av := .row 1 zad y2) rfl ?_)
        refine G_q rfl (zac (av := .exact w2) rfl ?_)
        obtain ⟨y20, hy20, h⟩ := bnd1_some h
        refine G_l rfl (op_fun_1_1_1 (m_pattern_node_compound_ok self_pattern_node_match hself_pattern_node_match _ _ _ _ _ hy20) Tryz.func73 (by kernel_rfl) (LEs.cons (AV.le_eq rfl) (LEs.cons (AV.le_eq rfl) (LEs.cons (AV.le_eq rfl) (LEs.cons (AV.le_eq rfl) LEs.nil)))) (fun v21 => ?_))
        refine G_q rfl (op_extract (av := .exact v21) rfl rfl ?_)
        refine G_q rfl (op_extract (av := .xb y20.2) rfl rfl ?_)
        refine G_q rfl (zab (av := .exact v21) rfl ?_)
        refine G_q rfl (zab (av := .xb y20.2) rfl ?_)
        refine G_nil (zaa (k_ret (kB_ret (kC_ret ?_))))
        obtain rfl := Option.some.inj h
        refine zaj (endN (af' := (AF.put (AF.put AF0 (some 6) (.exact v21)) (some 7) (.xb y20.2))) (σ' := [vecT Tryz.prog 27 1 zad v21 y20.1]) _ rfl ?_ ⟨v21, rfl, rfl⟩)
        exact Sub.of_le (lq rfl (lq rfl lt0))
       ·replace h := ite_f h hc
        refine zae (zag .free hmixP (by kernel_rfl) ?_)
        refine G_q rfl (op_eql rfl rfl ?_)
        refine G_q rfl (zab (av := .xb (decide (y3.1 = 38))) rfl ?_)
        refine G_nil (zaa ?_)
        refine zak (p := y3.1 = 38) rfl (fun hc => ?_) (fun hc => ?_)
        ·replace h := ite_t h hc
         refine zae ?_
         refine k_join1_0 h (fun (x101_j30 : Bool) => (AF.put (AF.put (AF.put (AF.put AF0 (some 0) (ndA a0)) (some 2) (.exact w2)) (some 9) (.row 1 zad y2)) (some 101) (.xb x101_j30))) (fun (x101_j30 : Bool) => [vecT Tryz.prog 27 1 zad w2 a2]) (fun k30 h => ?_) (fun x101_j30 h => ?_)
         ·refine k_plan [] [(0, 0), (0, 1), (0, 2), (0, 3), (0, 4), (0, 5), (0, 6), (0, 7), (0, 8), (0, 9), (0, 10), (0, 11), (0, 12)] hmixP (by kernel_rfl) ?_
          refine P_q no34_0 rfl (zac (av := .xi y1) rfl ?_)
          refine P_q no34_0 rfl (op_neq rfl rfl ?_)
          refine P_q no34_0 rfl (zac (av := .xb (decide (¬ y1 = 7))) rfl ?_)
          refine P_split (p := ¬ y1 = 7) 91 rfl (fun hc => ?_) (fun hc => ?_)
          ·replace h := ite_t h hc
           refine P_n no34_0 rfl rfl rfl ?_
           refine P_n no34_0 rfl rfl rfl ?_
           refine P_n no34_0 rfl rfl rfl ?_
           refine P_n no34_0 rfl rfl rfl ?_
           refine P_n no34_0 rfl rfl rfl ?_
           refine P_n no34_0 rfl rfl rfl ?_
           refine P_n no34_0 rfl rfl rfl ?_
           refine P_n no34_0 rfl rfl rfl ?_
           refine P_n no34_0 rfl rfl rfl ?_
           refine P_q no34_0 rfl (zao rfl (av := .xb true) rfl ?_)
           refine P_nil ?_
           refine zaf ⟨_, h, ?_⟩
           exact Sub.of_le (lq rfl (lq rfl (lq rfl (lq rfl lt0))))
          ·replace h := ite_f h hc
           refine Py_q no34_0 rfl rfl rfl (zac (av := .row 1 zad y2) rfl ?_)
           obtain ⟨n34, h⟩ := need_some h
           refine Py_q no34_0 rfl rfl rfl (op_index_row (by kernel_rfl) rfl rfl n34.1 n34.2 ?_)
           refine Py_q no34_0 rfl rfl rfl (zaq (a := .xs (gi y2 0)) (by kernel_rfl) rfl rfl ?_)
           obtain ⟨y35, hy35, h⟩ := bnd1_some h
           refine Py_q no34_0 rfl rfl rfl (zal (m_value_Number_ok _ _ hy35) Tryz.func72 (by kernel_rfl) (LEs.cons (AV.le_eq rfl) LEs.nil) ?_)
           refine Py_q no34_0 rfl rfl rfl (zac (av := ndA a0) rfl ?_)
           obtain ⟨y36, hy36, h⟩ := bnd1_some h
           refine Py_q no34_0 rfl rfl rfl (zap (c := zah y36) (ndA_un hy36) ?_)
           refine Py_q no34_0 rfl rfl rfl (zam (o := 1) (c' := (List.drop 1 (zah y36))) (by kernel_rfl) rfl rfl ?_)
           refine Py_q no34_0 rfl rfl rfl (zaq (a := .xi y36.2.1) (by kernel_rfl) rfl rfl ?_)
           refine Py_q no34_0 rfl rfl rfl (op_neq rfl rfl ?_)
           refine P_q no34_0 rfl (zai rfl (av := .xb (decide (¬ y35 = y36.2.1))) rfl ?_)
           refine P_nil ?_
           refine zaf ⟨_, h, ?_⟩
           exact Sub.of_le (lq rfl (lq rfl (lq rfl (lq rfl lt0))))
         ·refine k_cond_b (c := x101_j30) rfl (fun hc => ?_) (fun hc => ?_)
          ·replace h := ite_t h hc
           refine zae (zag .free hmixP (by kernel_rfl) ?_)
           refine G_q rfl (zab (av := .exact (.slice none 0 0)) rfl ?_)
           refine G_q rfl (zab (av := .xb false) rfl ?_)
           refine G_nil (zaa (k_ret (kC_ret (kB_ret (kC_ret ?_)))))
           obtain rfl := Option.some.inj h
           refine zaj (endN (af' := (AF.put (AF.put AF0 (some 6) (.exact (.slice none 0 0))) (some 7) (.xb false))) (σ' := [vecT Tryz.prog 27 1 zad (.slice none 0 0) []]) _ rfl ?_ ⟨(.slice none 0 0), rfl, rfl⟩)
           refine Sub.trans (SubU.to SubU.drop) ?_
           refine Sub.trans (SubU.to (SubU.nilT (P := Tryz.prog) (t := 27) (n := 1) (enc := zad))) ?_
           exact Sub.of_le (lq rfl (lq rfl lt0))
          ·replace h := ite_f h hc
           refine k_skip (zaa (zae ?_))
           refine k_plan [] [(0, 0), (0, 1), (0, 2), (0, 3), (0, 4), (0, 5), (0, 6), (2, 7), (0, 8), (0, 9), (0, 10), (0, 11)] hmixP (by kernel_rfl) ?_
           refine P_q no34_0 rfl (zac (av := ndA a0) rfl ?_)
           obtain ⟨y37, hy37, h⟩ := bnd1_some h
           refine P_q no34_0 rfl (zap (c := zah y37) (ndA_un hy37) ?_)
           refine P_q no34_0 rfl (zam (o := 2) (c' := (List.drop 2 (zah y37))) (by kernel_rfl) rfl rfl ?_)
           refine P_q no34_0 rfl (zaq (a := .row 1 c_P_pattern_node y37.2.2) (by kernel_rfl) rfl rfl ?_)
           refine P_q no34_0 rfl (zac (av := .row 1 zad y2) rfl ?_)
           obtain ⟨n38, h⟩ := need_some h
           refine P_q no34_0 rfl (op_slice_rowd (by kernel_rfl) rfl (bnd_some rfl) bnd_none (by decide) n38 (Int.le_refl _) ?_)
           refine P_q no34_0 rfl (zac (av := .exact w2) rfl ?_)
           obtain ⟨y39, hy39, h⟩ := bnd1_some h
           refine P_l rfl (op_fun_1_1_1 (m_pattern_each_ok self_pattern_node_match hself_pattern_node_match _ _ _ _ hy39) Tryz.func74 (by kernel_rfl) (LEs.cons (AV.le_eq rfl) (LEs.cons (AV.le_eq rfl) (LEs.cons (AV.le_eq rfl) LEs.nil))) (fun v40 => ?_))
           refine P_q no34_0 rfl (op_extract (av := .exact v40) rfl rfl ?_)
           refine P_q no34_0 rfl (op_extract (av := .xb y39.2) rfl rfl ?_)
           refine P_q no34_0 rfl (zab (av := .exact v40) rfl ?_)
           refine P_q no34_0 rfl (zab (av := .xb y39.2) rfl ?_)
           refine P_nil (zaa (k_ret (kB_ret (kC_ret ?_))))
           obtain rfl := Option.some.inj h
           refine zaj (endN (af' := (AF.put (AF.put AF0 (some 6) (.exact v40)) (some 7) (.xb y39.2))) (σ' := [vecT Tryz.prog 27 1 zad v40 y39.1]) _ rfl ?_ ⟨v40, rfl, rfl⟩)
           exact Sub.of_le (lq rfl (lq rfl lt0))
        ·replace h := ite_f h hc
         refine zae (zag .free hmixP (by kernel_rfl) ?_)
         refine G_q rfl (op_eql rfl rfl ?_)
         refine G_q rfl (zab (av := .xb (decide (y3.1 = 36))) rfl ?_)
         refine G_nil (zaa ?_)
         refine zak (p := y3.1 = 36) rfl (fun hc => ?_) (fun hc => ?_)
         ·replace h := ite_t h hc
          refine zae ?_
          refine k_join1_0 h (fun (x126_j45 : Bool) => (AF.put (AF.put (AF.put (AF.put AF0 (some 0) (ndA a0)) (some 2) (.exact w2)) (some 9) (.row 1 zad y2)) (some 126) (.xb x126_j45))) (fun (x126_j45 : Bool) => [vecT Tryz.prog 27 1 zad w2 a2]) (fun k45 h => ?_) (fun x126_j45 h => ?_)
          ·refine zag .free hmixP (by kernel_rfl) ?_
           refine G_q rfl (zac (av := .xi y1) rfl ?_)
           refine G_q rfl (op_neq rfl rfl ?_)
           refine G_q rfl (zac (av := .xb (decide (¬ y1 = 4))) rfl ?_)
           refine G_split (p := ¬ y1 = 4) 116 rfl (fun hc => ?_) (fun hc => ?_)
           ·replace h := ite_t h hc
            refine G_n rfl rfl (G_n rfl rfl (G_n rfl rfl (G_n rfl rfl (G_n rfl rfl (G_n rfl rfl (G_n rfl rfl (G_n rfl rfl (G_n rfl rfl ?_))))))))
            refine G_q rfl (zao rfl (av := .xb true) rfl ?_)
            refine G_nil ?_
            refine zaf ⟨_, h, ?_⟩
            exact Sub.of_le (lq rfl (lq rfl (lq rfl (lq rfl lt0))))
           ·replace h := ite_f h hc
            refine Gy_q rfl rfl rfl (zac (av := .row 1 zad y2) rfl ?_)
            refine Gy_q rfl rfl rfl (op_len_row (by kernel_rfl) rfl ?_)
            refine Gy_q rfl rfl rfl (zac (av := ndA a0) rfl ?_)
            obtain ⟨y47, hy47, h⟩ := bnd1_some h
            refine Gy_q rfl rfl rfl (zap (c := zah y47) (ndA_un hy47) ?_)
            refine Gy_q rfl rfl rfl (zam (o := 2) (c' := (List.drop 2 (zah y47))) (by kernel_rfl) rfl rfl ?_)
            refine Gy_q rfl rfl rfl (zaq (a := .row 1 c_P_pattern_node y47.2.2) (by kernel_rfl) rfl rfl ?_)
            refine Gy_q rfl rfl rfl (op_len_row (by kernel_rfl) rfl ?_)
            refine Gy_q rfl rfl rfl (op_sub rfl rfl rfl ?_)
            refine Gy_q rfl rfl rfl (op_lss rfl rfl ?_)
            refine G_q rfl (zai rfl (av := .xb (decide ((List.length y2 : Int) < (i64 ((List.length y47.2.2 : Int) - 1))))) rfl ?_)
            refine G_nil ?_
            refine zaf ⟨_, h, ?_⟩
            exact Sub.of_le (lq rfl (lq rfl (lq rfl (lq rfl lt0))))
          ·refine k_cond_b (c := x126_j45) rfl (fun hc => ?_) (fun hc => ?_)
           ·replace h := ite_t h hc
            refine zae (zag .free hmixP (by kernel_rfl) ?_)
            refine G_q rfl (zab (av := .exact (.slice none 0 0)) rfl ?_)
            refine G_q rfl (zab (av := .xb false) rfl ?_)
            refine G_nil (zaa (k_ret (kC_ret (kB_ret (kC_ret ?_)))))
            obtain rfl := Option.some.inj h
            refine zaj (endN (af' := (AF.put (AF.put AF0 (some 6) (.exact (.slice none 0 0))) (some 7) (.xb false))) (σ' := [vecT Tryz.prog 27 1 zad (.slice none 0 0) []]) _ rfl ?_ ⟨(.slice none 0 0), rfl, rfl⟩)
            refine Sub.trans (SubU.to SubU.drop) ?_
            refine Sub.trans (SubU.to (SubU.nilT (P := Tryz.prog) (t := 27) (n := 1) (enc := zad))) ?_
            exact Sub.of_le (lq rfl (lq rfl lt0))
           ·replace h := ite_f h hc
            refine k_skip (zaa (zae ?_))
            refine k_plan [] [(0, 0), (0, 1), (0, 2), (0, 3), (0, 4), (0, 5), (0, 6), (0, 7), (0, 8), (0, 9), (0, 10), (0, 11), (0, 12), (0, 13), (0, 14), (0, 15), (0, 16), (0, 17), (0, 18), (0, 19)] hmixP (by kernel_rfl) ?_
            refine P_q no34_0 rfl (zac (av := ndA a0) rfl ?_)
            obtain ⟨y48, hy48, h⟩ := bnd1_some h
            refine P_q no34_0 rfl (zap (c := zah y48) (ndA_un hy48) ?_)
            refine P_q no34_0 rfl (zam (o := 1) (c' := (List.drop 1 (zah y48))) (by kernel_rfl) rfl rfl ?_)
            refine P_q no34_0 rfl (zaq (a := .xi y48.2.1) (by kernel_rfl) rfl rfl ?_)
            refine P_q no34_0 rfl (zac (av := .row 1 zad y2) rfl ?_)
            refine P_q no34_0 rfl (op_len_row (by kernel_rfl) rfl ?_)
            refine P_q no34_0 rfl (zac (av := ndA a0) rfl ?_)
            obtain ⟨y49, hy49, h⟩ := bnd1_some h
            refine P_q no34_0 rfl (zap (c := zah y49) (ndA_un hy49) ?_)
            refine P_q no34_0 rfl (zam (o := 2) (c' := (List.drop 2 (zah y49))) (by kernel_rfl) rfl rfl ?_)
            refine P_q no34_0 rfl (zaq (a := .row 1 c_P_pattern_node y49.2.2) (by kernel_rfl) rfl rfl ?_)
            refine P_q no34_0 rfl (op_len_row (by kernel_rfl) rfl ?_)
            refine P_q no34_0 rfl (op_sub rfl rfl rfl ?_)
            refine P_q no34_0 rfl (zac (av := ndA a0) rfl ?_)
            obtain ⟨y50, hy50, h⟩ := bnd1_some h
            refine P_q no34_0 rfl (zap (c := zah y50) (ndA_un hy50) ?_)
            refine P_q no34_0 rfl (zam (o := 1) (c' := (List.drop 1 (zah y50))) (by kernel_rfl) rfl rfl ?_)
            refine P_q no34_0 rfl (zaq (a := .xi y50.2.1) (by kernel_rfl) rfl rfl ?_)
            refine P_q no34_0 rfl (op_sub rfl rfl rfl ?_)
            refine P_q no34_0 rfl (op_sub rfl rfl rfl ?_)
            refine P_q no34_0 rfl (zab (av := .xi y48.2.1) rfl ?_)
            refine P_q no34_0 rfl (zab (av := .xi (i64 ((List.length y2 : Int) - (i64 ((i64 ((List.length y49.2.2 : Int) - 1)) - y50.2.1))))) rfl ?_)
            refine P_nil (zaa (zae ?_))
            refine k_plan [] [(0, 0), (0, 1), (0, 2), (0, 3), (0, 4), (0, 5), (0, 6), (0, 7), (0, 8), (0, 9), (0, 10), (0, 11), (0, 12), (0, 13), (0, 14), (0, 15), (0, 16), (0, 17), (0, 18), (2, 19), (0, 20), (0, 21), (0, 22), (0, 23)] hmixP (by kernel_rfl) ?_
            refine P_q no34_0 rfl (zac (av := ndA a0) rfl ?_)
            obtain ⟨y51, hy51, h⟩ := bnd1_some h
            refine P_q no34_0 rfl (zap (c := zah y51) (ndA_un hy51) ?_)
            refine P_q no34_0 rfl (zam (o := 2) (c' := (List.drop 2 (zah y51))) (by kernel_rfl) rfl rfl ?_)
            refine P_q no34_0 rfl (zaq (a := .row 1 c_P_pattern_node y51.2.2) (by kernel_rfl) rfl rfl ?_)
            refine P_q no34_0 rfl (zac (av := .row 1 zad y2) rfl ?_)
            refine P_q no34_0 rfl (zac (av := .xi y48.2.1) rfl ?_)
            obtain ⟨n52, h⟩ := need_some h
            refine P_q no34_0 rfl (op_slice_rowt (by kernel_rfl) rfl bnd_none (bnd_some rfl) (Int.le_refl 0) n52.1 n52.2 ?_)
            refine P_q no34_0 rfl (zac (av := .row 1 zad y2) rfl ?_)
            refine P_q no34_0 rfl (zac (av := .xi y48.2.1) rfl ?_)
            refine P_q no34_0 rfl (zac (av := .xi (i64 ((List.length y2 : Int) - (i64 ((i64 ((List.length y49.2.2 : Int) - 1)) - y50.2.1))))) rfl ?_)
            obtain ⟨n53, h⟩ := need_some h
            refine P_q no34_0 rfl (op_slice_row (by kernel_rfl) rfl (bnd_some rfl) (bnd_some rfl) n53.1 n53.2.1 n53.2.2 ?_)
            obtain ⟨y54, hy54, h⟩ := bnd1_some h
            refine P_q no34_0 rfl (zal (m_value_Seq_ok _ _ hy54) Tryz.func60 (by kernel_rfl) (LEs.cons (AV.le_eq rfl) LEs.nil) ?_)
            refine P_q no34_0 rfl (op_litT (n := 1) (enc := zad) [y54] (CellsAll.cons rfl CellsOf.str CellsAll.nil) rfl (by kernel_rfl) (LEss.cons (LEs.cons (AV.le_eq rfl) LEs.nil) LEss.nil) ?_)
            refine P_q no34_0 rfl (zac (av := .row 1 zad y2) rfl ?_)
            refine P_q no34_0 rfl (zac (av := .xi (i64 ((List.length y2 : Int) - (i64 ((i64 ((List.length y49.2.2 : Int) - 1)) - y50.2.1))))) rfl ?_)
            obtain ⟨n55, h⟩ := need_some h
            refine P_q no34_0 rfl (op_slice_rowd (by kernel_rfl) rfl (bnd_some rfl) bnd_none n55.1 n55.2 (Int.le_refl _) ?_)
            refine P_q no34_0 rfl (op_litT (n := 1) (enc := c_L_api_Value) [List.take (Int.toNat y48.2.1) y2, [y54], List.drop (Int.toNat (i64 ((List.length y2 : Int) - (i64 ((i64 ((List.length y49.2.2 : Int) - 1)) - y50.2.1))))) y2] (CellsAll.cons rfl CellsOf.row (CellsAll.cons rfl CellsOf.row (CellsAll.cons rfl CellsOf.row CellsAll.nil))) rfl (by kernel_rfl) (LEss.cons (LEs.cons (AV.le_eq rfl) LEs.nil) (LEss.cons (LEs.cons (AV.le_eq rfl) LEs.nil) (LEss.cons (LEs.cons (AV.le_eq rfl) LEs.nil) LEss.nil))) ?_)
            obtain ⟨y56, hy56, h⟩ := bnd1_some h
            refine P_q no34_0 rfl (zal (m_slices_Concat_L_api_Value_api_Value_ok _ _ hy56) Tryz.func64 (by kernel_rfl) (LEs.cons (AV.le_eq rfl) LEs.nil) ?_)
            refine P_q no34_0 rfl (zac (av := .exact w2) rfl ?_)
            obtain ⟨y57, hy57, h⟩ := bnd1_some h
            refine P_l rfl (op_fun_1_1_1 (m_pattern_each_ok self_pattern_node_match hself_pattern_node_match _ _ _ _ hy57) Tryz.func74 (by kernel_rfl) (LEs.cons (AV.le_eq rfl) (LEs.cons (AV.le_eq rfl) (LEs.cons (AV.le_eq rfl) LEs.nil))) (fun v58 => ?_))
            refine P_q no34_0 rfl (op_extract (av := .exact v58) rfl rfl ?_)
            refine P_q no34_0 rfl (op_extract (av := .xb y57.2) rfl rfl ?_)
            refine P_q no34_0 rfl (zab (av := .exact v58) rfl ?_)
            refine P_q no34_0 rfl (zab (av := .xb y57.2) rfl ?_)
            refine P_nil (zaa (k_ret (kB_ret (kC_ret ?_))))
            obtain rfl := Option.some.inj h
            refine zaj (endN (af' := (AF.put (AF.put AF0 (some 6) (.exact v58)) (some 7) (.xb y57.2))) (σ' := [vecT Tryz.prog 27 1 zad v58 y57.1]) _ rfl ?_ ⟨v58, rfl, rfl⟩)
            exact Sub.of_le (lq rfl (lq rfl lt0))
         ·replace h := ite_f h hc
          refine zae (zag .free hmixP (by kernel_rfl) ?_)
          refine G_q rfl (op_eql rfl rfl ?_)
          refine G_q rfl (zab (av := .xb (decide (y3.1 = 40))) rfl ?_)
          refine G_nil (zaa ?_)
          refine zak (p := y3.1 = 40) rfl (fun hc => ?_) (fun hc => ?_)
          ·replace h := ite_t h hc
           refine zae (zag .free hmixP (by kernel_rfl) ?_)
           refine G_q rfl (zac (av := ndA a0) rfl ?_)
           obtain ⟨y59, hy59, h⟩ := bnd1_some h
           refine G_q rfl (zap (c := zah y59) (ndA_un hy59) ?_)
           refine G_q rfl (zam (o := 2) (c' := (List.drop 2 (zah y59))) (by kernel_rfl) rfl rfl ?_)
           refine G_q rfl (zaq (a := .row 1 c_P_pattern_node y59.2.2) (by kernel_rfl) rfl rfl ?_)
           refine G_q rfl (zac (av := .xs a1) rfl ?_)
           refine G_q rfl (zac (av := .xs a1) rfl ?_)
           refine G_q rfl (op_litT (n := 1) (enc := zad) [a1, a1] (CellsAll.cons rfl CellsOf.str (CellsAll.cons rfl CellsOf.str CellsAll.nil)) rfl (by kernel_rfl) (LEss.cons (LEs.cons (AV.le_eq rfl) LEs.nil) (LEss.cons (LEs.cons (AV.le_eq rfl) LEs.nil) LEss.nil)) ?_)
           refine G_q rfl (zac (av := .exact w2) rfl ?_)
           obtain ⟨y60, hy60, h⟩ := bnd1_some h
           refine G_l rfl (op_fun_1_1_1 (m_pattern_each_ok self_pattern_node_match hself_pattern_node_match _ _ _ _ hy60) Tryz.func74 (by kernel_rfl) (LEs.cons (AV.le_eq rfl) (LEs.cons (AV.le_eq rfl) (LEs.cons (AV.le_eq rfl) LEs.nil))) (fun v61 => ?_))
           refine G_q rfl (op_extract (av := .exact v61) rfl rfl ?_)
           refine G_q rfl (op_extract (av := .xb y60.2) rfl rfl ?_)
           refine G_q rfl (zab (av := .exact v61) rfl ?_)
           refine G_q rfl (zab (av := .xb y60.2) rfl ?_)
           refine G_nil (zaa (k_ret (kB_ret (kC_ret ?_))))
           obtain rfl := Option.some.inj h
           refine zaj (endN (af' := (AF.put (AF.put AF0 (some 6) (.exact v61)) (some 7) (.xb y60.2))) (σ' := [vecT Tryz.prog 27 1 zad v61 y60.1]) _ rfl ?_ ⟨v61, rfl, rfl⟩)
           exact Sub.of_le (lq rfl (lq rfl lt0))
          ·replace h := ite_f h hc
           refine k_skip (kB_normal (zaa (zae (zag .free hmixP (by kernel_rfl) ?_))))
           refine G_q rfl (zab (av := .exact (.slice none 0 0)) rfl ?_)
           refine G_q rfl (zab (av := .xb false) rfl ?_)
           refine G_nil (zaa (k_ret ?_))
           obtain rfl := Option.some.inj h
           refine zaj (endN (af' := (AF.put (AF.put AF0 (some 6) (.exact (.slice none 0 0))) (some 7) (.xb false))) (σ' := [vecT Tryz.prog 27 1 zad (.slice none 0 0) []]) _ rfl ?_ ⟨(.slice none 0 0), rfl, rfl⟩)
           refine Sub.trans (SubU.to SubU.drop) ?_
           refine Sub.trans (SubU.to (SubU.nilT (P := Tryz.prog) (t := 27) (n := 1) (enc := zad))) ?_
           exact Sub.of_le (lq rfl (lq rfl lt0))
set_option maxHeartbeats 4000000 in
theorem m_pattern_node_match_S_ok : ∀ n : Nat, (∀ ⦃w2 : Value⦄ (a0 : Nd) (a1 : List UInt8) (a2 : List (List UInt8)) (r : (List (List UInt8)) × Bool), m_pattern_node_match_S n a0 a1 a2 = some r → Fun Tryz.prog 41 [(ndA a0), (.exact (.string (bs a1))), (.exact w2)] [vecT Tryz.prog 27 1 zad w2 a2] (fun a s => ∃ z0, a = .tup [.exact z0, .exact (.bool r.2)] ∧ s = [vecT Tryz.prog 27 1 zad z0 r.1]))
  | 0 => (fun _ _ _ _ _ h => by have h' : (none : Option _) = some _ := h; cases h')
  | n + 1 => by
    have ih := m_pattern_node_match_S_ok n
    exact fun w2 a0 a1 a2 r h => m_pattern_node_match_F_ok (m_pattern_node_match_S n) ih a0 a1 a2 r h
theorem m_pattern_node_match_ok {w2 : Value} (a0 : Nd) (a1 : List UInt8) (a2 : List (List UInt8)) (r : (List (List UInt8)) × Bool) (h : m_pattern_node_match a0 a1 a2 = some r) : Fun Tryz.prog 41 [(ndA a0), (.exact (.string (bs a1))), (.exact w2)] [vecT Tryz.prog 27 1 zad w2 a2] (fun a s => ∃ z0, a = .tup [.exact z0, .exact (.bool r.2)] ∧ s = [vecT Tryz.prog 27 1 zad z0 r.1]) := (m_pattern_node_match_S_ok FU) a0 a1 a2 r h
set_option maxHeartbeats 4000000 in
theorem m_pattern_Match_ok (a0 : List (Int × Int × Int)) (a1 : List UInt8) (r : (List (List UInt8)) × Bool) (h : m_pattern_Match a0 a1 = some r) : Pure Tryz.prog 13 [(.row 3 zan a0), (.exact (.string (bs a1)))] (.tup [.row 1 zad r.1, .exact (.bool r.2)]) := by
 unfold m_pattern_Match at h
 refine Pure.ofFun (fun_of_awp Tryz.func13 rfl Tryz.ntmps13 (by simp) rfl (res2 rfl) fun E hE => k_end ?_)
 refine zae (zag .free hmixP (by kernel_rfl) ?_)
 refine G_q rfl (zab (av := .exact (.slice none 0 0)) rfl ?_)
 refine G_q rfl (zab (av := .xb false) rfl ?_)
 refine G_nil (zaa (zae (zag .free hmixP (by kernel_rfl) ?_)))
 refine G_q rfl (zac (av := .row 3 zan a0) rfl ?_)
 obtain ⟨y1, hy1, h⟩ := bnd1_some h
 refine G_q rfl (zal (m_pattern_whole_ok _ _ hy1) Tryz.func34 (by kernel_rfl) (LEs.cons (AV.le_eq rfl) LEs.nil) ?_)
 refine G_q rfl (zac (av := .tup [ndA y1.1, .xb y1.2]) rfl ?_)
 refine G_q rfl (op_extract (av := ndA y1.1) rfl rfl ?_)
 refine G_q rfl (op_extract (av := .xb y1.2) rfl rfl ?_)
 refine G_q rfl (zab (av := ndA y1.1) rfl ?_)
 refine G_q rfl (zab (av := .xb y1.2) rfl ?_)
 refine G_nil (zaa (zae ?_))
 refine k_join1_0 h (fun (x20_j6 : Bool) => (AF.put (AF.put (AF.put AF0 (some 1) (.xs a1)) (some 6) (ndA y1.1)) (some 20) (.xb x20_j6))) (fun (x20_j6 : Bool) => []) (fun k6 h => ?_) (fun x20_j6 h => ?_)
 ·refine zag .free hmixP (by kernel_rfl) ?_
  refine G_q rfl (zac (av := .xb y1.2) rfl ?_)
  refine G_q rfl (op_not rfl ?_)
  refine G_q rfl (zac (av := .xb (!y1.2)) rfl ?_)
  refine G_splitB (c := !y1.2) 16 rfl (fun hc => ?_) (fun hc => ?_)
  ·replace h := ite_t h hc
   refine G_n rfl rfl (G_n rfl rfl (G_n rfl rfl ?_))
   refine G_q rfl (zao rfl (av := .xb true) rfl ?_)
   refine G_nil ?_
   refine zaf ⟨_, h, ?_⟩
   exact Sub.of_le (lq rfl (lq rfl (lq rfl lt0)))
  ·replace h := ite_f h hc
   refine Gy_q rfl rfl rfl (zac (av := .xs a1) rfl ?_)
   obtain ⟨y8, hy8, h⟩ := bnd1_some h
   refine Gy_q rfl rfl rfl (zal (m_value_Valid_ok _ _ hy8) Tryz.func38 (by kernel_rfl) (LEs.cons (AV.le_eq rfl) LEs.nil) ?_)
   refine Gy_q rfl rfl rfl (op_not rfl ?_)
   refine G_q rfl (zai rfl (av := .xb (!y8)) rfl ?_)
   refine G_nil ?_
   refine zaf ⟨_, h, ?_⟩
   exact Sub.of_le (lq rfl (lq rfl (lq rfl lt0)))
 ·refine k_cond_b (c := x20_j6) rfl (fun hc => ?_) (fun hc => ?_)
  ·replace h := ite_t h hc
   refine zae (zag .free hmixP (by kernel_rfl) ?_)
   refine G_q rfl (zab (av := .exact (.slice none 0 0)) rfl ?_)
   refine G_q rfl (zab (av := .xb false) rfl ?_)
   refine G_nil (zaa (k_ret (kC_ret ?_)))
   obtain rfl := Option.some.inj h
   refine zaj (endN (af' := (AF.put (AF.put AF0 (some 4) (.row 1 zad [])) (some 5) (.xb false))) (σ' := []) _ rfl ?_ ⟨rfl, rfl⟩)
   exact Sub.of_le (lq rfl (AF.le_put (row_nil (by decide)) lt0))
  ·replace h := ite_f h hc
   refine k_skip (zaa (zae (zag .free hmixP (by kernel_rfl) ?_)))
   refine G_q rfl (zac (av := ndA y1.1) rfl ?_)
   refine G_q rfl (zac (av := .xs a1) rfl ?_)
   refine G_sub rfl (SubU.nilT (P := Tryz.prog) (t := 27) (n := 1) (enc := zad)) ?_
   obtain ⟨y10, hy10, h⟩ := bnd1_some h
   refine G_l rfl (op_fun_1_1_1 (m_pattern_node_match_ok _ _ _ _ hy10) Tryz.func41 (by kernel_rfl) (LEs.cons (AV.le_eq rfl) (LEs.cons (AV.le_eq rfl) (LEs.cons (AV.le_eq rfl) LEs.nil))) (fun v11 => ?_))
   refine G_q rfl (zac (av := .tup [.exact v11, .xb y10.2]) rfl ?_)
   refine G_q rfl (op_extract (av := .exact v11) rfl rfl ?_)
   refine G_q rfl (op_extract (av := .xb y10.2) rfl rfl ?_)
   refine G_q rfl (zab (av := .exact v11) rfl ?_)
   refine G_q rfl (zab (av := .xb y10.2) rfl ?_)
   refine G_nil (zaa (zae (zae (zag .free hmixP (by kernel_rfl) ?_))))
   refine G_q rfl (zac (av := .xb y10.2) rfl ?_)
   refine G_q rfl (op_not rfl ?_)
   refine G_nil (zaa ?_)
   refine k_cond_b (c := !y10.2) rfl (fun hc => ?_) (fun hc => ?_)
   ·replace h := ite_t h hc
    refine zae (zag .free hmixP (by kernel_rfl) ?_)
    refine G_q rfl (zab (av := .exact (.slice none 0 0)) rfl ?_)
    refine G_q rfl (zab (av := .xb false) rfl ?_)
    refine G_nil (zaa (k_ret (kC_ret ?_)))
    obtain rfl := Option.some.inj h
    refine zaj (endN (af' := (AF.put (AF.put AF0 (some 4) (.row 1 zad [])) (some 5) (.xb false))) (σ' := []) _ rfl ?_ ⟨rfl, rfl⟩)
    refine Sub.trans (SubU.to SubU.drop) ?_
    exact Sub.of_le (lq rfl (AF.le_put (row_nil (by decide)) lt0))
   ·replace h := ite_f h hc
    refine k_skip (zaa (zae (zag .free hmixP (by kernel_rfl) ?_)))
    refine G_q rfl (zac (av := .exact v11) rfl ?_)
    refine G_sub rfl (SubU.freezeT3 (s1 := 8) (s2 := 25) (s3 := 29) rfl rfl rfl len_c_api_Value) ?_
    obtain ⟨y12, hy12, h⟩ := bnd1_some h
    refine G_q rfl (zal (m_slices_Clip_L_api_Value_api_Value_ok _ _ hy12) Tryz.func42 (by kernel_rfl) (LEs.cons (AV.le_eq rfl) LEs.nil) ?_)
    refine G_q rfl (zab (av := .row 1 zad y12) rfl ?_)
    refine G_q rfl (zab (av := .xb true) rfl ?_)
    refine G_nil (zaa (k_ret ?_))
    obtain rfl := Option.some.inj h
    refine zaj (endN (af' := (AF.put (AF.put AF0 (some 4) (.row 1 zad y12)) (some 5) (.xb true))) (σ' := []) _ rfl ?_ ⟨rfl, rfl⟩)
    exact Sub.of_le (lq rfl (lq rfl lt0))
set_option maxHeartbeats 4000000 in
theorem m_pattern_Irrefutable_1_ok (a0 : Nd) (r : Bool) (h : m_pattern_Irrefutable_1 a0 = some r) : Pure Tryz.prog 45 [(ndA a0)] (.exact (.bool r)) := by
 unfold m_pattern_Irrefutable_1 at h
 refine Pure.ofFun (fun_of_awp Tryz.func45 rfl Tryz.ntmps45 (by simp) rfl (res1 rfl) fun E hE => k_end ?_)
 refine zae (zag .free hmixP (by kernel_rfl) ?_)
 refine G_q rfl (zab (av := .xb false) rfl ?_)
 refine G_nil (zaa ?_)
 refine k_join1_0 h (fun (x2_j1 : Bool) => (AF.put AF0 (some 2) (.xb x2_j1))) (fun (x2_j1 : Bool) => []) (fun k1 h => ?_) (fun x2_j1 h => ?_)
 ·refine zag .free hmixP (by kernel_rfl) ?_
  refine G_q rfl (zac (av := ndA a0) rfl ?_)
  obtain ⟨y6, hy6, h⟩ := bnd1_some h
  refine G_q rfl (zap (c := zah y6) (ndA_un hy6) ?_)
  refine G_q rfl (zam (o := 0) (c' := (List.drop 0 (zah y6))) (by kernel_rfl) rfl rfl ?_)
  refine G_q rfl (zaq (a := .xi y6.1) (by kernel_rfl) rfl rfl ?_)
  refine G_q rfl (op_eql rfl rfl ?_)
  refine G_q rfl (zac (av := .xb (decide (y6.1 = 30))) rfl ?_)
  refine G_split (p := y6.1 = 30) 8 rfl (fun hc => ?_) (fun hc => ?_)
  ·replace h := ite_t h hc
   refine G_n rfl rfl (G_n rfl rfl (G_n rfl rfl (G_n rfl rfl (G_n rfl rfl ?_))))
   refine G_q rfl (zao rfl (av := .xb true) rfl ?_)
   refine G_q rfl (zac (av := .xb true) rfl ?_)
   refine G_n rfl rfl (G_n rfl rfl (G_n rfl rfl (G_n rfl rfl (G_n rfl rfl ?_))))
   refine G_q rfl (zao rfl (av := .xb true) rfl ?_)
   refine G_q rfl (zac (av := .xb true) rfl ?_)
   refine G_n rfl rfl (G_n rfl rfl (G_n rfl rfl (G_n rfl rfl (G_n rfl rfl ?_))))
   refine G_q rfl (zao rfl (av := .xb true) rfl ?_)
   refine G_q rfl (zab (av := .xb true) rfl ?_)
   refine G_nil ?_
   refine zaf ⟨_, h, ?_⟩
   exact Sub.of_le (lq rfl lt0)
  ·replace h := ite_f h hc
   refine Gy_q rfl rfl rfl (zac (av := ndA a0) rfl ?_)
   obtain ⟨y7, hy7, h⟩ := bnd1_some h
   refine Gy_q rfl rfl rfl (zap (c := zah y7) (ndA_un hy7) ?_)
   refine Gy_q rfl rfl rfl (zam (o := 0) (c' := (List.drop 0 (zah y7))) (by kernel_rfl) rfl rfl ?_)
   refine Gy_q rfl rfl rfl (zaq (a := .xi y7.1) (by kernel_rfl) rfl rfl ?_)
   refine Gy_q rfl rfl rfl (op_eql rfl rfl ?_)
   refine G_q rfl (zai rfl (av := .xb (decide (y7.1 = 31))) rfl ?_)
   refine G_q rfl (zac (av := .xb (decide (y7.1 = 31))) rfl ?_)
   refine G_split (p := y7.1 = 31) 15 rfl (fun hc => ?_) (fun hc => ?_)
   ·replace h := ite_t h hc
    refine G_n rfl rfl (G_n rfl rfl (G_n rfl rfl (G_n rfl rfl (G_n rfl rfl ?_))))
    refine G_q rfl (zao rfl (av := .xb true) rfl ?_)
    refine G_q rfl (zac (av := .xb true) rfl ?_)
    refine G_n rfl rfl (G_n rfl rfl (G_n rfl rfl (G_n rfl rfl (G_n rfl rfl ?_))))
    refine G_q rfl (zao rfl (av := .xb true) rfl ?_)
    refine G_q rfl (zab (av := .xb true) rfl ?_)
    refine G_nil ?_
    refine zaf ⟨_, h, ?_⟩
    exact Sub.of_le (lq rfl lt0)
   ·replace h := ite_f h hc
    refine Gy_q rfl rfl rfl (zac (av := ndA a0) rfl ?_)
    obtain ⟨y8, hy8, h⟩ := bnd1_some h
    refine Gy_q rfl rfl rfl (zap (c := zah y8) (ndA_un hy8) ?_)
    refine Gy_q rfl rfl rfl (zam (o := 0) (c' := (List.drop 0 (zah y8))) (by kernel_rfl) rfl rfl ?_)
    refine Gy_q rfl rfl rfl (zaq (a := .xi y8.1) (by kernel_rfl) rfl rfl ?_)
    refine Gy_q rfl rfl rfl (op_eql rfl rfl ?_)
    refine G_q rfl (zai rfl (av := .xb (decide (y8.1 = 34))) rfl ?_)
    refine G_q rfl (zac (av := .xb (decide (y8.1 = 34))) rfl ?_)
    refine G_split (p := y8.1 = 34) 22 rfl (fun hc => ?_) (fun hc => ?_)
    ·replace h := ite_t h hc
     refine G_n rfl rfl (G_n rfl rfl (G_n rfl rfl (G_n rfl rfl (G_n rfl rfl ?_))))
     refine G_q rfl (zao rfl (av := .xb true) rfl ?_)
     refine G_q rfl (zab (av := .xb true) rfl ?_)
     refine G_nil ?_
     refine zaf ⟨_, h, ?_⟩
     exact Sub.of_le (lq rfl lt0)
    ·replace h := ite_f h hc
     refine Gy_q rfl rfl rfl (zac (av := ndA a0) rfl ?_)
     obtain ⟨y9, hy9, h⟩ := bnd1_some h
     refine Gy_q rfl rfl rfl (zap (c := zah y9) (ndA_un hy9) ?_)
     refine Gy_q rfl rfl rfl (zam (o := 0) (c' := (List.drop 0 (zah y9))) (by kernel_rfl) rfl rfl ?_)
     refine Gy_q rfl rfl rfl (zaq (a := .xi y9.1) (by kernel_rfl) rfl rfl ?_)
     refine Gy_q rfl rfl rfl (op_eql rfl rfl ?_)
     refine G_q rfl (zai rfl (av := .xb (decide (y9.1 = 40))) rfl ?_)
     refine G_q rfl (zab (av := .xb (decide (y9.1 = 40))) rfl ?_)
     refine G_nil ?_
     refine zaf ⟨_, h, ?_⟩
     exact Sub.of_le (lq rfl lt0)
 ·refine k_ret ?_
  obtain rfl := Option.some.inj h
  refine zaj (endN (af' := (AF.put AF0 (some 2) (.xb x2_j1))) (σ' := []) _ rfl ?_ ⟨rfl, rfl⟩)
  exact Sub.of_le (lq rfl lt0)
set_option maxHeartbeats 4000000 in
theorem m_pattern_Irrefutable_ok (a0 : List (Int × Int × Int)) (r : Bool) (h : m_pattern_Irrefutable a0 = some r) : Pure Tryz.prog 20 [(.row 3 zan a0)] (.exact (.bool r)) := by
 unfold m_pattern_Irrefutable at h
 refine Pure.ofFun (fun_of_awp Tryz.func20 rfl Tryz.ntmps20 (by simp) rfl (res1 rfl) fun E hE => k_end ?_)
 refine zae (zag .free hmixP (by kernel_rfl) ?_)
 refine G_q rfl (zab (av := .xb false) rfl ?_)
 refine G_nil (zaa (zae (zag .free hmixP (by kernel_rfl) ?_)))
 refine G_q rfl (zac (av := .row 3 zan a0) rfl ?_)
 obtain ⟨y1, hy1, h⟩ := bnd1_some h
 refine G_q rfl (zal (m_pattern_whole_ok _ _ hy1) Tryz.func34 (by kernel_rfl) (LEs.cons (AV.le_eq rfl) LEs.nil) ?_)
 refine G_q rfl (zac (av := .tup [ndA y1.1, .xb y1.2]) rfl ?_)
 refine G_q rfl (op_extract (av := ndA y1.1) rfl rfl ?_)
 refine G_q rfl (op_extract (av := .xb y1.2) rfl rfl ?_)
 refine G_q rfl (zab (av := ndA y1.1) rfl ?_)
 refine G_q rfl (zab (av := .xb y1.2) rfl ?_)
 refine G_nil (zaa ?_)
 refine k_join1_0 h (fun (x2_j2 : Bool) => (AF.put AF0 (some 2) (.xb x2_j2))) (fun (x2_j2 : Bool) => []) (fun k2 h => ?_) (fun x2_j2 h => ?_)
 ·refine zag .free hmixP (by kernel_rfl) ?_
  refine G_q rfl (zac (av := .xb y1.2) rfl ?_)
  refine G_q rfl (zac (av := .xb y1.2) rfl ?_)
  refine G_splitB (c := y1.2) 11 rfl (fun hc => ?_) (fun hc => ?_)
  ·replace h := ite_t h hc
   refine Gy_q rfl rfl rfl (zac (av := ndA y1.1) rfl ?_)
   obtain ⟨y4, hy4, h⟩ := bnd1_some h
   refine Gy_q rfl rfl rfl (zal (m_pattern_node_all_ok _ _ _ hy4) Tryz.func35 (by kernel_rfl) (LEs.cons (AV.le_eq rfl) (LEs.cons ((fn_le Tryz.func45 (by kernel_rfl) (fun i r h => m_pattern_Irrefutable_1_ok i r h))) LEs.nil)) ?_)
   refine G_q rfl (zao rfl (av := .xb y4) rfl ?_)
   refine G_q rfl (zab (av := .xb y4) rfl ?_)
   refine G_nil ?_
   refine zaf ⟨_, h, ?_⟩
   exact Sub.of_le (lq rfl lt0)
  ·replace h := ite_f h hc
   refine G_n rfl rfl (G_n rfl rfl ?_)
   refine G_q rfl (zai rfl (av := .xb false) rfl ?_)
   refine G_q rfl (zab (av := .xb false) rfl ?_)
   refine G_nil ?_
   refine zaf ⟨_, h, ?_⟩
   exact Sub.of_le (lq rfl lt0)
 ·refine k_ret ?_
  obtain rfl := Option.some.inj h
  refine zaj (endN (af' := (AF.put AF0 (some 2) (.xb x2_j2))) (σ' := []) _ rfl ?_ ⟨rfl, rfl⟩)
  exact Sub.of_le (lq rfl lt0)
set_option maxHeartbeats 4000000 in
theorem m_law12_awake_ok  (r : Bool) (h : m_law12_awake = some r) : Pure Tryz.prog 12 [] (.exact (.bool r)) := by
 unfold m_law12_awake at h
 refine Pure.ofFun (fun_of_awp Tryz.func12 rfl Tryz.ntmps12 (by simp) rfl (res1 rfl) fun E hE => k_end ?_)
 refine zae (zag .free hmixP (by kernel_rfl) ?_)
 refine G_q rfl (zab (av := .xb false) rfl ?_)
 refine G_nil (zaa (zae (zag .free hmixP (by kernel_rfl) ?_)))
 obtain ⟨y1, hy1, h⟩ := bnd1_some h
 refine G_q rfl (zal (m_law12_node_ok _ _ _ _ hy1) Tryz.func17 (by kernel_rfl) (LEs.cons (AV.le_eq rfl) (LEs.cons (AV.le_eq rfl) (LEs.cons (row_nil (by decide)) LEs.nil))) ?_)
 obtain ⟨y2, hy2, h⟩ := bnd1_some h
 refine G_q rfl (zal (m_law12_node_ok _ _ _ _ hy2) Tryz.func17 (by kernel_rfl) (LEs.cons (AV.le_eq rfl) (LEs.cons (AV.le_eq rfl) (LEs.cons (row_nil (by decide)) LEs.nil))) ?_)
 refine G_q rfl (op_litT (n := 1) (enc := c_L_api_Code) [y1, y2] (CellsAll.cons rfl CellsOf.row (CellsAll.cons rfl CellsOf.row CellsAll.nil)) rfl (by kernel_rfl) (LEss.cons (LEs.cons (AV.le_eq rfl) LEs.nil) (LEss.cons (LEs.cons (AV.le_eq rfl) LEs.nil) LEss.nil)) ?_)
 obtain ⟨y3, hy3, h⟩ := bnd1_some h
 refine G_q rfl (zal (m_law12_node_ok _ _ _ _ hy3) Tryz.func17 (by kernel_rfl) (LEs.cons (AV.le_eq rfl) (LEs.cons (AV.le_eq rfl) (LEs.cons (AV.le_eq rfl) LEs.nil))) ?_)
 refine G_q rfl (zab (av := .row 3 zan y3) rfl ?_)
 refine G_nil (zaa (zae (zag .free hmixP (by kernel_rfl) ?_)))
 obtain ⟨y4, hy4, h⟩ := bnd1_some h
 refine G_q rfl (zal (m_ref9_Int_ok _ _ hy4) Tryz.func33 (by kernel_rfl) (LEs.cons (AV.le_eq rfl) LEs.nil) ?_)
 obtain ⟨y5, hy5, h⟩ := bnd1_some h
 refine G_q rfl (zal (m_ref9_Int_ok _ _ hy5) Tryz.func33 (by kernel_rfl) (LEs.cons (AV.le_eq rfl) LEs.nil) ?_)
 refine G_q rfl (op_litT (n := 1) (enc := zad) [y4, y5] (CellsAll.cons rfl CellsOf.str (CellsAll.cons rfl CellsOf.str CellsAll.nil)) rfl (by kernel_rfl) (LEss.cons (LEs.cons (AV.le_eq rfl) LEs.nil) (LEss.cons (LEs.cons (AV.le_eq rfl) LEs.nil) LEss.nil)) ?_)
 obtain ⟨y6, hy6, h⟩ := bnd1_some h
 refine G_q rfl (zal (m_ref9_Make_ok _ _ _ hy6) Tryz.func19 (by kernel_rfl) (LEs.cons (AV.le_eq rfl) (LEs.cons (AV.le_eq rfl) LEs.nil)) ?_)
 refine G_q rfl (zab (av := .xs y6) rfl ?_)
 refine G_nil (zaa (zae (zag .free hmixP (by kernel_rfl) ?_)))
 refine G_q rfl (zac (av := .row 3 zan y3) rfl ?_)
 refine G_q rfl (zac (av := .xs y6) rfl ?_)
 obtain ⟨y7, hy7, h⟩ := bnd1_some h
 refine G_q rfl (zal (m_pattern_Match_ok _ _ _ hy7) Tryz.func13 (by kernel_rfl) (LEs.cons (AV.le_eq rfl) (LEs.cons (AV.le_eq rfl) LEs.nil)) ?_)
 refine G_q rfl (zac (av := .tup [.row 1 zad y7.1, .xb y7.2]) rfl ?_)
 refine G_q rfl (op_extract (av := .row 1 zad y7.1) rfl rfl ?_)
 refine G_q rfl (op_extract (av := .xb y7.2) rfl rfl ?_)
 refine G_q rfl (zab (av := .row 1 zad y7.1) rfl ?_)
 refine G_q rfl (zab (av := .xb y7.2) rfl ?_)
 refine G_nil (zaa (zae (zag .free hmixP (by kernel_rfl) ?_)))
 refine G_q rfl (zac (av := .row 3 zan y3) rfl ?_)
 refine G_q rfl (zac (av := .row 1 zad y7.1) rfl ?_)
 obtain ⟨y8, hy8, h⟩ := bnd1_some h
 refine G_q rfl (zal (m_pattern_Build_ok _ _ _ hy8) Tryz.func10 (by kernel_rfl) (LEs.cons (AV.le_eq rfl) (LEs.cons (AV.le_eq rfl) LEs.nil)) ?_)
 refine G_q rfl (zac (av := .tup [.xs y8.1, .xb y8.2]) rfl ?_)
 refine G_q rfl (op_extract (av := .xs y8.1) rfl rfl ?_)
 refine G_q rfl (op_extract (av := .xb y8.2) rfl rfl ?_)
 refine G_q rfl (zab (av := .xs y8.1) rfl ?_)
 refine G_q rfl (zab (av := .xb y8.2) rfl ?_)
 refine G_nil (zaa ?_)
 refine k_join1_0 h (fun (x0_j9 : Bool) => (AF.put AF0 (some 0) (.xb x0_j9))) (fun (x0_j9 : Bool) => []) (fun k9 h => ?_) (fun x0_j9 h => ?_)
 ·refine k_plan [] [(0, 0), (0, 1), (0, 2), (0, 3), (0, 4), (0, 5), (0, 6), (0, 7), (0, 8), (0, 9), (0, 10), (0, 11), (0, 12), (0, 13), (0, 14), (0, 15), (0, 16), (0, 17), (0, 18), (0, 19), (0, 20), (0, 21), (0, 22), (0, 23), (0, 24), (0, 25), (0, 26), (0, 27), (0, 28), (0, 29), (0, 30), (0, 31)] hmixP (by kernel_rfl) ?_
  refine P_q no34_0 rfl (zac (av := .xb y7.2) rfl ?_)
  refine P_q no34_0 rfl (zac (av := .xb y7.2) rfl ?_)
  refine P_splitB (c := y7.2) 28 rfl (fun hc => ?_) (fun hc => ?_)
  ·replace h := ite_t h hc
   refine Py_q no34_0 rfl rfl rfl (zac (av := .row 1 zad y7.1) rfl ?_)
   refine Py_q no34_0 rfl rfl rfl (op_len_row (by kernel_rfl) rfl ?_)
   refine Py_q no34_0 rfl rfl rfl (op_eql rfl rfl ?_)
   refine P_q no34_0 rfl (zao rfl (av := .xb (decide ((List.length y7.1 : Int) = 2))) rfl ?_)
   refine P_q no34_0 rfl (zac (av := .xb (decide ((List.length y7.1 : Int) = 2))) rfl ?_)
   refine P_split (p := (List.length y7.1 : Int) = 2) 33 rfl (fun hc => ?_) (fun hc => ?_)
   ·replace h := ite_t h hc
    refine Py_q no34_0 rfl rfl rfl (zac (av := .row 1 zad y7.1) rfl ?_)
    obtain ⟨n14, h⟩ := need_some h
    refine Py_q no34_0 rfl rfl rfl (op_index_row (by kernel_rfl) rfl rfl n14.1 n14.2 ?_)
    refine Py_q no34_0 rfl rfl rfl (zaq (a := .xs (gi y7.1 0)) (by kernel_rfl) rfl rfl ?_)
    obtain ⟨y15, hy15, h⟩ := bnd1_some h
    refine Py_q no34_0 rfl rfl rfl (zal (m_ref9_Int_ok _ _ hy15) Tryz.func33 (by kernel_rfl) (LEs.cons (AV.le_eq rfl) LEs.nil) ?_)
    refine Py_q no34_0 rfl rfl rfl (op_eqlS rfl rfl ?_)
    refine P_q no34_0 rfl (zao rfl (av := .xb (decide ((gi y7.1 0) = y15))) rfl ?_)
    refine P_q no34_0 rfl (zac (av := .xb (decide ((gi y7.1 0) = y15))) rfl ?_)
    refine P_split (p := (gi y7.1 0) = y15) 40 rfl (fun hc => ?_) (fun hc => ?_)
    ·replace h := ite_t h hc
     refine Py_q no34_0 rfl rfl rfl (zac (av := .row 3 zan y3) rfl ?_)
     obtain ⟨y16, hy16, h⟩ := bnd1_some h
     refine Py_q no34_0 rfl rfl rfl (zal (m_pattern_Vars_ok _ _ hy16) Tryz.func16 (by kernel_rfl) (LEs.cons (AV.le_eq rfl) LEs.nil) ?_)
     refine Py_q no34_0 rfl rfl rfl (op_eql rfl rfl ?_)
     refine P_q no34_0 rfl (zao rfl (av := .xb (decide (y16 = 2))) rfl ?_)
     refine P_q no34_0 rfl (zac (av := .xb (decide (y16 = 2))) rfl ?_)
     refine P_split (p := y16 = 2) 45 rfl (fun hc => ?_) (fun hc => ?_)
     ·replace h := ite_t h hc
      refine Py_q no34_0 rfl rfl rfl (zac (av := .xb y8.2) rfl ?_)
      refine P_q no34_0 rfl (zao rfl (av := .xb y8.2) rfl ?_)
      refine P_q no34_0 rfl (zac (av := .xb y8.2) rfl ?_)
      refine P_splitB (c := y8.2) 48 rfl (fun hc => ?_) (fun hc => ?_)
      ·replace h := ite_t h hc
       refine Py_q no34_0 rfl rfl rfl (zac (av := .xs y8.1) rfl ?_)
       refine Py_q no34_0 rfl rfl rfl (zac (av := .xs y6) rfl ?_)
       refine Py_q no34_0 rfl rfl rfl (op_eqlS rfl rfl ?_)
       refine P_q no34_0 rfl (zao rfl (av := .xb (decide (y8.1 = y6))) rfl ?_)
       refine P_q no34_0 rfl (zac (av := .xb (decide (y8.1 = y6))) rfl ?_)
       refine P_split (p := y8.1 = y6) 53 rfl (fun hc => ?_) (fun hc => ?_)
       ·replace h := ite_t h hc
        refine Py_q no34_0 rfl rfl rfl (zac (av := .row 3 zan y3) rfl ?_)
        obtain ⟨y17, hy17, h⟩ := bnd1_some h
        refine Py_q no34_0 rfl rfl rfl (zal (m_pattern_Irrefutable_ok _ _ hy17) Tryz.func20 (by kernel_rfl) (LEs.cons (AV.le_eq rfl) LEs.nil) ?_)
        refine Py_q no34_0 rfl rfl rfl (op_not rfl ?_)
        refine P_q no34_0 rfl (zao rfl (av := .xb (!y17)) rfl ?_)
        refine P_q no34_0 rfl (zab (av := .xb (!y17)) rfl ?_)
        refine P_nil ?_
        refine zaf ⟨_, h, ?_⟩
        exact Sub.of_le (lq rfl lt0)
       ·replace h := ite_f h hc
        refine P_n no34_0 rfl rfl rfl ?_
        refine P_n no34_0 rfl rfl rfl ?_
        refine P_n no34_0 rfl rfl rfl ?_
        refine P_q no34_0 rfl (zai rfl (av := .xb false) rfl ?_)
        refine P_q no34_0 rfl (zab (av := .xb false) rfl ?_)
        refine P_nil ?_
        refine zaf ⟨_, h, ?_⟩
        exact Sub.of_le (lq rfl lt0)
      ·replace h := ite_f h hc
       refine P_n no34_0 rfl rfl rfl ?_
       refine P_n no34_0 rfl rfl rfl ?_
       refine P_n no34_0 rfl rfl rfl ?_
       refine P_q no34_0 rfl (zai rfl (av := .xb false) rfl ?_)
       refine P_q no34_0 rfl (zac (av := .xb false) rfl ?_)
       refine P_n no34_0 rfl rfl rfl ?_
       refine P_n no34_0 rfl rfl rfl ?_
       refine P_n no34_0 rfl rfl rfl ?_
       refine P_q no34_0 rfl (zai rfl (av := .xb false) rfl ?_)
       refine P_q no34_0 rfl (zab (av := .xb false) rfl ?_)
       refine P_nil ?_
       refine zaf ⟨_, h, ?_⟩
       exact Sub.of_le (lq rfl lt0)
     ·replace h := ite_f h hc
      refine P_n no34_0 rfl rfl rfl ?_
      refine P_q no34_0 rfl (zai rfl (av := .xb false) rfl ?_)
      refine P_q no34_0 rfl (zac (av := .xb false) rfl ?_)
      refine P_n no34_0 rfl rfl rfl ?_
      refine P_n no34_0 rfl rfl rfl ?_
      refine P_n no34_0 rfl rfl rfl ?_
      refine P_q no34_0 rfl (zai rfl (av := .xb false) rfl ?_)
      refine P_q no34_0 rfl (zac (av := .xb false) rfl ?_)
      refine P_n no34_0 rfl rfl rfl ?_
      refine P_n no34_0 rfl rfl rfl ?_
      refine P_n no34_0 rfl rfl rfl ?_
      refine P_q no34_0 rfl (zai rfl (av := .xb false) rfl ?_)
      refine P_q no34_0 rfl (zab (av := .xb false) rfl ?_)
      refine P_nil ?_
      refine zaf ⟨_, h, ?_⟩
      exact Sub.of_le (lq rfl lt0)
    ·replace h := ite_f h hc
     refine P_n no34_0 rfl rfl rfl ?_
     refine P_n no34_0 rfl rfl rfl ?_
     refine P_n no34_0 rfl rfl rfl ?_
     refine P_q no34_0 rfl (zai rfl (av := .xb false) rfl ?_)
     refine P_q no34_0 rfl (zac (av := .xb false) rfl ?_)
     refine P_n no34_0 rfl rfl rfl ?_
     refine P_q no34_0 rfl (zai rfl (av := .xb false) rfl ?_)
     refine P_q no34_0 rfl (zac (av := .xb false) rfl ?_)
     refine P_n no34_0 rfl rfl rfl ?_
     refine P_n no34_0 rfl rfl rfl ?_
     refine P_n no34_0 rfl rfl rfl ?_
     refine P_q no34_0 rfl (zai rfl (av := .xb false) rfl ?_)
     refine P_q no34_0 rfl (zac (av := .xb false) rfl ?_)
     refine P_n no34_0 rfl rfl rfl ?_
     refine P_n no34_0 rfl rfl rfl ?_
     refine P_n no34_0 rfl rfl rfl ?_
     refine P_q no34_0 rfl (zai rfl (av := .xb false) rfl ?_)
     refine P_q no34_0 rfl (zab (av := .xb false) rfl ?_)
     refine P_nil ?_
     refine zaf ⟨_, h, ?_⟩
     exact Sub.of_le (lq rfl lt0)
   ·replace h := ite_f h hc
    refine P_n no34_0 rfl rfl rfl ?_
    refine P_n no34_0 rfl rfl rfl ?_
    refine P_n no34_0 rfl rfl rfl ?_
    refine P_n no34_0 rfl rfl rfl ?_
    refine P_n no34_0 rfl rfl rfl ?_
    refine P_q no34_0 rfl (zai rfl (av := .xb false) rfl ?_)
    refine P_q no34_0 rfl (zac (av := .xb false) rfl ?_)
    refine P_n no34_0 rfl rfl rfl ?_
    refine P_n no34_0 rfl rfl rfl ?_
    refine P_n no34_0 rfl rfl rfl ?_
    refine P_q no34_0 rfl (zai rfl (av := .xb false) rfl ?_)
    refine P_q no34_0 rfl (zac (av := .xb false) rfl ?_)
    refine P_n no34_0 rfl rfl rfl ?_
    refine P_q no34_0 rfl (zai rfl (av := .xb false) rfl ?_)
    refine P_q no34_0 rfl (zac (av := .xb false) rfl ?_)
    refine P_n no34_0 rfl rfl rfl ?_
    refine P_n no34_0 rfl rfl rfl ?_
    refine P_n no34_0 rfl rfl rfl ?_
    refine P_q no34_0 rfl (zai rfl (av := .xb false) rfl ?_)
    refine P_q no34_0 rfl (zac (av := .xb false) rfl ?_)
    refine P_n no34_0 rfl rfl rfl ?_
    refine P_n no34_0 rfl rfl rfl ?_
    refine P_n no34_0 rfl rfl rfl ?_
    refine P_q no34_0 rfl (zai rfl (av := .xb false) rfl ?_)
    refine P_q no34_0 rfl (zab (av := .xb false) rfl ?_)
    refine P_nil ?_
    refine zaf ⟨_, h, ?_⟩
    exact Sub.of_le (lq rfl lt0)
  ·replace h := ite_f h hc
   refine P_n no34_0 rfl rfl rfl ?_
   refine P_n no34_0 rfl rfl rfl ?_
   refine P_n no34_0 rfl rfl rfl ?_
   refine P_q no34_0 rfl (zai rfl (av := .xb false) rfl ?_)
   refine P_q no34_0 rfl (zac (av := .xb false) rfl ?_)
   refine P_n no34_0 rfl rfl rfl ?_
   refine P_n no34_0 rfl rfl rfl ?_
   refine P_n no34_0 rfl rfl rfl ?_
   refine P_n no34_0 rfl rfl rfl ?_
   refine P_n no34_0 rfl rfl rfl ?_
   refine P_q no34_0 rfl (zai rfl (av := .xb false) rfl ?_)
   refine P_q no34_0 rfl (zac (av := .xb false) rfl ?_)
   refine P_n no34_0 rfl rfl rfl ?_
   refine P_n no34_0 rfl rfl rfl ?_
   refine P_n no34_0 rfl rfl rfl ?_
   refine P_q no34_0 rfl (zai rfl (av := .xb false) rfl ?_)
   refine P_q no34_0 rfl (zac (av := .xb false) rfl ?_)
   refine P_n no34_0 rfl rfl rfl ?_
   refine P_q no34_0 rfl (zai rfl (av := .xb false) rfl ?_)
   refine P_q no34_0 rfl (zac (av := .xb false) rfl ?_)
   refine P_n no34_0 rfl rfl rfl ?_
   refine P_n no34_0 rfl rfl rfl ?_
   refine P_n no34_0 rfl rfl rfl ?_
   refine P_q no34_0 rfl (zai rfl (av := .xb false) rfl ?_)
   refine P_q no34_0 rfl (zac (av := .xb false) rfl ?_)
   refine P_n no34_0 rfl rfl rfl ?_
   refine P_n no34_0 rfl rfl rfl ?_
   refine P_n no34_0 rfl rfl rfl ?_
   refine P_q no34_0 rfl (zai rfl (av := .xb false) rfl ?_)
   refine P_q no34_0 rfl (zab (av := .xb false) rfl ?_)
   refine P_nil ?_
   refine zaf ⟨_, h, ?_⟩
   exact Sub.of_le (lq rfl lt0)
 ·refine k_ret ?_
  obtain rfl := Option.some.inj h
  refine zaj (endN (af' := (AF.put AF0 (some 0) (.xb x0_j9))) (σ' := []) _ rfl ?_ ⟨rfl, rfl⟩)
  exact Sub.of_le (lq rfl lt0)
set_option maxHeartbeats 4000000 in
theorem m_law12_PatternIrrefutable_ok (a0 : List Int) (a1 : List UInt8) (r : Bool) (h : m_law12_PatternIrrefutable a0 a1 = some r) : Pure Tryz.prog 5 [(.row 1 c_int a0), (.exact (.string (bs a1)))] (.exact (.bool r)) := by
 unfold m_law12_PatternIrrefutable at h
 refine Pure.ofFun (fun_of_awp Tryz.func5 rfl Tryz.ntmps5 (by simp) rfl (res1 rfl) fun E hE => k_end ?_)
 refine zae (zag .free hmixP (by kernel_rfl) ?_)
 refine G_q rfl (zab (av := .xb false) rfl ?_)
 refine G_nil (zaa (zae (zag .free hmixP (by kernel_rfl) ?_)))
 refine G_q rfl (zac (av := .row 1 c_int a0) rfl ?_)
 obtain ⟨y1, hy1, h⟩ := bnd1_some h
 refine G_l rfl (op_fun_0_1_1 (m_gen_New_ok _ _ hy1) Tryz.func7 (by kernel_rfl) (LEs.cons (AV.le_eq rfl) LEs.nil) (fun b2 => ?_))
 refine G_q rfl (zab (av := pA b2 0) rfl ?_)
 refine G_nil (zaa (zae (zag .free hmixP (by kernel_rfl) ?_)))
 obtain ⟨y3, hy3, h⟩ := bnd1_some h
 refine G_q rfl (zal (m_law12_node_ok _ _ _ _ hy3) Tryz.func17 (by kernel_rfl) (LEs.cons (AV.le_eq rfl) (LEs.cons (AV.le_eq rfl) (LEs.cons (row_nil (by decide)) LEs.nil))) ?_)
 refine G_q rfl (zab (av := .row 3 zan y3) rfl ?_)
 refine G_nil (zaa (zae (zag .free hmixP (by kernel_rfl) ?_)))
 obtain ⟨y4, hy4, h⟩ := bnd1_some h
 refine G_q rfl (zal (m_law12_node_ok _ _ _ _ hy4) Tryz.func17 (by kernel_rfl) (LEs.cons (AV.le_eq rfl) (LEs.cons (AV.le_eq rfl) (LEs.cons (row_nil (by decide)) LEs.nil))) ?_)
 refine G_q rfl (zab (av := .row 3 zan y4) rfl ?_)
 refine G_nil (zaa ?_)
 refine k_join4_0 h (fun (x5_0_j5 : List Int) (x5_1_j5 : Int) (x6_j5 : List (Int × Int × Int)) (x7_j5 : List (Int × Int × Int)) => (AF.put (AF.put (AF.put (AF.put AF0 (some 1) (.xs a1)) (some 5) (pA b2 0)) (some 6) (.row 3 zan x6_j5)) (some 7) (.row 3 zan x7_j5))) (fun (x5_0_j5 : List Int) (x5_1_j5 : Int) (x6_j5 : List (Int × Int × Int)) (x7_j5 : List (Int × Int × Int)) => [boxI 53 b2 [.row 1 c_int x5_0_j5, .xi x5_1_j5]]) (fun k5 h => ?_) (fun x5_0_j5 x5_1_j5 x6_j5 x7_j5 h => ?_)
 ·refine zae (zag .free hmixP (by kernel_rfl) ?_)
  refine G_q rfl (zac (av := pA b2 0) rfl ?_)
  obtain ⟨y20, hy20, h⟩ := bnd1_some h
  refine G_l rfl (op_fun_1_0_1 (m_gen_Choices_Next_ok _ _ _ hy20) Tryz.func18 (by kernel_rfl) (LEs.cons (AV.le_eq rfl) (LEs.cons (AV.le_eq rfl) LEs.nil)) ?_)
  refine G_q rfl (zab (av := .xi y20.1) rfl ?_)
  refine G_nil (zaa (k_block ?_))
  refine k_loop5_0 (m_law12_PatternIrrefutable_L2 k5) (m_law12_PatternIrrefutable_B2 k5) (fun _ _ _ _ _ => rfl) (fun m _ _ _ _ _ => rfl) h (fun (x5_0_l2 : List Int) (x5_1_l2 : Int) (x6_l2 : List (Int × Int × Int)) (x7_l2 : List (Int × Int × Int)) (x8_l2 : Int) => (AF.put (AF.put (AF.put (AF.put (AF.put AF0 (some 1) (.xs a1)) (some 5) (pA b2 0)) (some 6) (.row 3 zan x6_l2)) (some 7) (.row 3 zan x7_l2)) (some 8) (.xi x8_l2))) (fun (x5_0_l2 : List Int) (x5_1_l2 : Int) (x6_l2 : List (Int × Int × Int)) (x7_l2 : List (Int × Int × Int)) (x8_l2 : Int) => [boxI 53 b2 [.row 1 c_int x5_0_l2, .xi x5_1_l2]]) ?_ (fun rec2 x5_0_l2 x5_1_l2 x6_l2 x7_l2 x8_l2 h => ?_)
  ·exact Sub.of_le (lq rfl (lq rfl (lq rfl (lq rfl (lq rfl lt0)))))
  ·unfold m_law12_PatternIrrefutable_B2 at h
   refine zae (zae (zag .free hmixP (by kernel_rfl) ?_))
   refine G_q rfl (zac (av := .xi x8_l2) rfl ?_)
   refine G_q rfl (op_gtr rfl rfl ?_)
   refine G_nil (zaa ?_)
   refine zak (p := 0 < x8_l2) rfl (fun hc => ?_) (fun hc => ?_)
   ·replace h := ite_t h hc
    refine k_skip (zaa (zae (k_block (zae (zag .free hmixP (by kernel_rfl) ?_)))))
    refine G_q rfl (zac (av := .row 3 zan x6_l2) rfl ?_)
    refine G_q rfl (zac (av := pA b2 0) rfl ?_)
    obtain ⟨y29, hy29, h⟩ := bnd1_some h
    refine G_l rfl (op_fun_1_0_1 (m_gen_Choices_Next_ok _ _ _ hy29) Tryz.func18 (by kernel_rfl) (LEs.cons (AV.le_eq rfl) (LEs.cons (AV.le_eq rfl) LEs.nil)) ?_)
    refine G_q rfl (op_add rfl rfl rfl ?_)
    obtain ⟨y30, hy30, h⟩ := bnd1_some h
    refine G_q rfl (zal (m_law12_node_ok _ _ _ _ hy30) Tryz.func17 (by kernel_rfl) (LEs.cons (AV.le_eq rfl) (LEs.cons (AV.le_eq rfl) (LEs.cons (row_nil (by decide)) LEs.nil))) ?_)
    refine G_q rfl (op_litT (n := 1) (enc := c_L_api_Code) [x6_l2, y30] (CellsAll.cons rfl CellsOf.row (CellsAll.cons rfl CellsOf.row CellsAll.nil)) rfl (by kernel_rfl) (LEss.cons (LEs.cons (AV.le_eq rfl) LEs.nil) (LEss.cons (LEs.cons (AV.le_eq rfl) LEs.nil) LEss.nil)) ?_)
    obtain ⟨y31, hy31, h⟩ := bnd1_some h
    refine G_q rfl (zal (m_law12_node_ok _ _ _ _ hy31) Tryz.func17 (by kernel_rfl) (LEs.cons (AV.le_eq rfl) (LEs.cons (AV.le_eq rfl) (LEs.cons (AV.le_eq rfl) LEs.nil))) ?_)
    refine G_q rfl (zab (av := .row 3 zan y31) rfl ?_)
    refine G_nil (zaa (zag .free hmixP (by kernel_rfl) ?_))
    refine G_q rfl (zac (av := .row 3 zan y31) rfl ?_)
    refine G_q rfl (zac (av := .row 3 zan x7_l2) rfl ?_)
    refine G_q rfl (op_litT (n := 1) (enc := c_L_api_Code) [y31, x7_l2] (CellsAll.cons rfl CellsOf.row (CellsAll.cons rfl CellsOf.row CellsAll.nil)) rfl (by kernel_rfl) (LEss.cons (LEs.cons (AV.le_eq rfl) LEs.nil) (LEss.cons (LEs.cons (AV.le_eq rfl) LEs.nil) LEss.nil)) ?_)
    obtain ⟨y32, hy32, h⟩ := bnd1_some h
    refine G_q rfl (zal (m_law12_node_ok _ _ _ _ hy32) Tryz.func17 (by kernel_rfl) (LEs.cons (AV.le_eq rfl) (LEs.cons (AV.le_eq rfl) (LEs.cons (AV.le_eq rfl) LEs.nil))) ?_)
    refine G_q rfl (zab (av := .row 3 zan y32) rfl ?_)
    refine G_nil (kB_normal (zaa (zag .free hmixP (by kernel_rfl) ?_)))
    refine G_q rfl (zac (av := .xi x8_l2) rfl ?_)
    refine G_q rfl (op_sub rfl rfl rfl ?_)
    refine G_q rfl (zab (av := .xi (i64 (x8_l2 - 1))) rfl ?_)
    refine G_nil ?_
    refine zaf ⟨_, _, _, _, _, h, ?_⟩
    exact Sub.of_le (lq rfl (lq rfl (lq rfl (lq rfl (lq rfl lt0)))))
   ·replace h := ite_f h hc
    refine k_exit (kC_exit (kI_exit (kB_exit ?_)))
    refine zaf ⟨_, _, _, _, h, ?_⟩
    exact Sub.of_le (lq rfl (lq rfl (lq rfl (lq rfl lt0))))
 ·refine zae (zag .free hmixP (by kernel_rfl) ?_)
  refine G_q rfl (zac (av := pA b2 0) rfl ?_)
  obtain ⟨y33, hy33, h⟩ := bnd1_some h
  refine G_l rfl (op_fun_1_0_1 (m_gen_Choices_Value_ok _ _ _ hy33) Tryz.func9 (by kernel_rfl) (LEs.cons (AV.le_eq rfl) (LEs.cons (AV.le_eq rfl) LEs.nil)) ?_)
  refine G_q rfl (zac (av := pA b2 0) rfl ?_)
  obtain ⟨y34, hy34, h⟩ := bnd1_some h
  refine G_l rfl (op_fun_1_0_1 (m_gen_Choices_Value_ok _ _ _ hy34) Tryz.func9 (by kernel_rfl) (LEs.cons (AV.le_eq rfl) (LEs.cons (AV.le_eq rfl) LEs.nil)) ?_)
  refine G_q rfl (zab (av := .xs y33.1) rfl ?_)
  refine G_q rfl (zab (av := .xs y34.1) rfl ?_)
  refine G_nil (zaa (zae (zag .free hmixP (by kernel_rfl) ?_)))
  refine G_q rfl (zac (av := .xs y33.1) rfl ?_)
  refine G_q rfl (zac (av := .xs y34.1) rfl ?_)
  refine G_q rfl (op_litT (n := 1) (enc := zad) [y33.1, y34.1] (CellsAll.cons rfl CellsOf.str (CellsAll.cons rfl CellsOf.str CellsAll.nil)) rfl (by kernel_rfl) (LEss.cons (LEs.cons (AV.le_eq rfl) LEs.nil) (LEss.cons (LEs.cons (AV.le_eq rfl) LEs.nil) LEss.nil)) ?_)
  obtain ⟨y35, hy35, h⟩ := bnd1_some h
  refine G_q rfl (zal (m_ref9_Make_ok _ _ _ hy35) Tryz.func19 (by kernel_rfl) (LEs.cons (AV.le_eq rfl) (LEs.cons (AV.le_eq rfl) LEs.nil)) ?_)
  refine G_q rfl (zab (av := .xs y35) rfl ?_)
  refine G_nil (zaa (zae (zag .free hmixP (by kernel_rfl) ?_)))
  refine G_q rfl (zac (av := .row 3 zan x6_j5) rfl ?_)
  refine G_q rfl (zac (av := .xs y33.1) rfl ?_)
  obtain ⟨y36, hy36, h⟩ := bnd1_some h
  refine G_q rfl (zal (m_pattern_Match_ok _ _ _ hy36) Tryz.func13 (by kernel_rfl) (LEs.cons (AV.le_eq rfl) (LEs.cons (AV.le_eq rfl) LEs.nil)) ?_)
  refine G_q rfl (zac (av := .tup [.row 1 zad y36.1, .xb y36.2]) rfl ?_)
  refine G_q rfl (op_extract (av := .row 1 zad y36.1) rfl rfl ?_)
  refine G_q rfl (op_extract (av := .xb y36.2) rfl rfl ?_)
  refine G_q rfl (zab (av := .row 1 zad y36.1) rfl ?_)
  refine G_q rfl (zab (av := .xb y36.2) rfl ?_)
  refine G_nil (zaa (zae (zag .free hmixP (by kernel_rfl) ?_)))
  refine G_q rfl (zac (av := .row 3 zan x6_j5) rfl ?_)
  refine G_q rfl (zac (av := .xs a1) rfl ?_)
  obtain ⟨y37, hy37, h⟩ := bnd1_some h
  refine G_q rfl (zal (m_pattern_Match_ok _ _ _ hy37) Tryz.func13 (by kernel_rfl) (LEs.cons (AV.le_eq rfl) (LEs.cons (AV.le_eq rfl) LEs.nil)) ?_)
  refine G_q rfl (zac (av := .tup [.row 1 zad y37.1, .xb y37.2]) rfl ?_)
  refine G_q rfl (op_extract (av := .row 1 zad y37.1) rfl rfl ?_)
  refine G_q rfl (op_extract (av := .xb y37.2) rfl rfl ?_)
  refine G_q rfl (zab (av := .row 1 zad y37.1) rfl ?_)
  refine G_q rfl (zab (av := .xb y37.2) rfl ?_)
  refine G_nil (zaa (zae (zag .free hmixP (by kernel_rfl) ?_)))
  refine G_q rfl (zac (av := .row 3 zan x6_j5) rfl ?_)
  obtain ⟨y38, hy38, h⟩ := bnd1_some h
  refine G_q rfl (zal (m_law12_node_ok _ _ _ _ hy38) Tryz.func17 (by kernel_rfl) (LEs.cons (AV.le_eq rfl) (LEs.cons (AV.le_eq rfl) (LEs.cons (row_nil (by decide)) LEs.nil))) ?_)
  refine G_q rfl (op_litT (n := 1) (enc := c_L_api_Code) [x6_j5, y38] (CellsAll.cons rfl CellsOf.row (CellsAll.cons rfl CellsOf.row CellsAll.nil)) rfl (by kernel_rfl) (LEss.cons (LEs.cons (AV.le_eq rfl) LEs.nil) (LEss.cons (LEs.cons (AV.le_eq rfl) LEs.nil) LEss.nil)) ?_)
  obtain ⟨y39, hy39, h⟩ := bnd1_some h
  refine G_q rfl (zal (m_law12_node_ok _ _ _ _ hy39) Tryz.func17 (by kernel_rfl) (LEs.cons (AV.le_eq rfl) (LEs.cons (AV.le_eq rfl) (LEs.cons (AV.le_eq rfl) LEs.nil))) ?_)
  refine G_q rfl (zac (av := .xs y35) rfl ?_)
  obtain ⟨y40, hy40, h⟩ := bnd1_some h
  refine G_q rfl (zal (m_pattern_Match_ok _ _ _ hy40) Tryz.func13 (by kernel_rfl) (LEs.cons (AV.le_eq rfl) (LEs.cons (AV.le_eq rfl) LEs.nil)) ?_)
  refine G_q rfl (zac (av := .tup [.row 1 zad y40.1, .xb y40.2]) rfl ?_)
  refine G_q rfl (op_extract (av := .row 1 zad y40.1) rfl rfl ?_)
  refine G_q rfl (op_extract (av := .xb y40.2) rfl rfl ?_)
  refine G_q rfl (zab (av := .row 1 zad y40.1) rfl ?_)
  refine G_q rfl (zab (av := .xb y40.2) rfl ?_)
  refine G_nil (zaa ?_)
  refine k_join1_0 h (fun (x4_j41 : Bool) => (AF.put AF0 (some 4) (.xb x4_j41))) (fun (x4_j41 : Bool) => []) (fun k41 h => ?_) (fun x4_j41 h => ?_)
  ·refine zag .free hmixP (by kernel_rfl) ?_
   obtain ⟨y47, hy47, h⟩ := bnd1_some h
   refine G_q rfl (zal (m_law12_awake_ok _ hy47) Tryz.func12 (by kernel_rfl) LEs.nil ?_)
   refine G_q rfl (zac (av := .xb y47) rfl ?_)
   refine G_splitB (c := y47) 69 rfl (fun hc => ?_) (fun hc => ?_)
   ·replace h := ite_t h hc
    refine Gy_q rfl rfl rfl (zac (av := .row 3 zan x6_j5) rfl ?_)
    obtain ⟨y48, hy48, h⟩ := bnd1_some h
    refine Gy_q rfl rfl rfl (zal (m_pattern_Irrefutable_ok _ _ hy48) Tryz.func20 (by kernel_rfl) (LEs.cons (AV.le_eq rfl) LEs.nil) ?_)
    refine G_q rfl (zao rfl (av := .xb y48) rfl ?_)
    refine G_q rfl (zac (av := .xb y48) rfl ?_)
    refine G_splitB (c := y48) 73 rfl (fun hc => ?_) (fun hc => ?_)
    ·replace h := ite_t h hc
     refine Gy_q rfl rfl rfl (zac (av := .row 3 zan x7_j5) rfl ?_)
     obtain ⟨y49, hy49, h⟩ := bnd1_some h
     refine Gy_q rfl rfl rfl (zal (m_pattern_Irrefutable_ok _ _ hy49) Tryz.func20 (by kernel_rfl) (LEs.cons (AV.le_eq rfl) LEs.nil) ?_)
     refine G_q rfl (zao rfl (av := .xb y49) rfl ?_)
     refine G_q rfl (zac (av := .xb y49) rfl ?_)
     refine G_splitB (c := y49) 77 rfl (fun hc => ?_) (fun hc => ?_)
     ·replace h := ite_t h hc
      refine Gy_q rfl rfl rfl (zac (av := .xb y36.2) rfl ?_)
      refine G_q rfl (zao rfl (av := .xb y36.2) rfl ?_)
      refine G_q rfl (zac (av := .xb y36.2) rfl ?_)
      refine G_splitB (c := y36.2) 80 rfl (fun hc => ?_) (fun hc => ?_)
      ·replace h := ite_t h hc
       refine Gy_q rfl rfl rfl (zac (av := .xb y37.2) rfl ?_)
       refine Gy_q rfl rfl rfl (zac (av := .xs a1) rfl ?_)
       obtain ⟨y50, hy50, h⟩ := bnd1_some h
       refine Gy_q rfl rfl rfl (zal (m_ref9_Valid_ok _ _ hy50) Tryz.func21 (by kernel_rfl) (LEs.cons (AV.le_eq rfl) LEs.nil) ?_)
       refine Gy_q rfl rfl rfl (op_eqlB (a := y37.2) (b := y50) (by kernel_rfl) rfl rfl ?_)
       refine G_q rfl (zao rfl (av := .xb (decide (y37.2 = y50))) rfl ?_)
       refine G_q rfl (zac (av := .xb (decide (y37.2 = y50))) rfl ?_)
       refine G_split (p := y37.2 = y50) 86 rfl (fun hc => ?_) (fun hc => ?_)
       ·replace h := ite_t h hc
        refine Gy_q rfl rfl rfl (zac (av := .xb y40.2) rfl ?_)
        refine G_q rfl (zao rfl (av := .xb y40.2) rfl ?_)
        refine G_q rfl (zac (av := .xb y40.2) rfl ?_)
        refine G_splitB (c := y40.2) 89 rfl (fun hc => ?_) (fun hc => ?_)
        ·replace h := ite_t h hc
         refine Gy_q rfl rfl rfl (zac (av := .row 1 zad y40.1) rfl ?_)
         refine Gy_q rfl rfl rfl (op_len_row (by kernel_rfl) rfl ?_)
         refine Gy_q rfl rfl rfl (op_gtr rfl rfl ?_)
         refine G_q rfl (zao rfl (av := .xb (decide (0 < (List.length y40.1 : Int)))) rfl ?_)
         refine G_q rfl (zac (av := .xb (decide (0 < (List.length y40.1 : Int)))) rfl ?_)
         refine G_split (p := 0 < (List.length y40.1 : Int)) 94 rfl (fun hc => ?_) (fun hc => ?_)
         ·replace h := ite_t h hc
          refine Gy_q rfl rfl rfl (zac (av := .row 1 zad y40.1) rfl ?_)
          refine Gy_q rfl rfl rfl (zac (av := .row 1 zad y40.1) rfl ?_)
          refine Gy_q rfl rfl rfl (op_len_row (by kernel_rfl) rfl ?_)
          refine Gy_q rfl rfl rfl (op_sub rfl rfl rfl ?_)
          obtain ⟨n51, h⟩ := need_some h
          refine Gy_q rfl rfl rfl (op_index_row (by kernel_rfl) rfl rfl n51.1 n51.2 ?_)
          refine Gy_q rfl rfl rfl (zaq (a := .xs (gi y40.1 (i64 ((List.length y40.1 : Int) - 1)))) (by kernel_rfl) rfl rfl ?_)
          refine Gy_q rfl rfl rfl (zac (av := .xs y34.1) rfl ?_)
          refine Gy_q rfl rfl rfl (op_eqlS rfl rfl ?_)
          refine G_q rfl (zao rfl (av := .xb (decide ((gi y40.1 (i64 ((List.length y40.1 : Int) - 1))) = y34.1))) rfl ?_)
          refine G_q rfl (zab (av := .xb (decide ((gi y40.1 (i64 ((List.length y40.1 : Int) - 1))) = y34.1))) rfl ?_)
          refine G_nil ?_
          refine zaf ⟨_, h, ?_⟩
          refine Sub.trans (SubU.to SubU.drop) ?_
          exact Sub.of_le (lq rfl lt0)
         ·replace h := ite_f h hc
          refine G_n rfl rfl (G_n rfl rfl (G_n rfl rfl (G_n rfl rfl (G_n rfl rfl (G_n rfl rfl (G_n rfl rfl (G_n rfl rfl ?_)))))))
          refine G_q rfl (zai rfl (av := .xb false) rfl ?_)
          refine G_q rfl (zab (av := .xb false) rfl ?_)
          refine G_nil ?_
          refine zaf ⟨_, h, ?_⟩
          refine Sub.trans (SubU.to SubU.drop) ?_
          exact Sub.of_le (lq rfl lt0)
        ·replace h := ite_f h hc
         refine G_n rfl rfl (G_n rfl rfl (G_n rfl rfl ?_))
         refine G_q rfl (zai rfl (av := .xb false) rfl ?_)
         refine G_q rfl (zac (av := .xb false) rfl ?_)
         refine G_n rfl rfl (G_n rfl rfl (G_n rfl rfl (G_n rfl rfl (G_n rfl rfl (G_n rfl rfl (G_n rfl rfl (G_n rfl rfl ?_)))))))
         refine G_q rfl (zai rfl (av := .xb false) rfl ?_)
         refine G_q rfl (zab (av := .xb false) rfl ?_)
         refine G_nil ?_
         refine zaf ⟨_, h, ?_⟩
         refine Sub.trans (SubU.to SubU.drop) ?_
         exact Sub.of_le (lq rfl lt0)
       ·replace h := ite_f h hc
        refine G_n rfl rfl ?_
        refine G_q rfl (zai rfl (av := .xb false) rfl ?_)
        refine G_q rfl (zac (av := .xb false) rfl ?_)
        refine G_n rfl rfl (G_n rfl rfl (G_n rfl rfl ?_))
        refine G_q rfl (zai rfl (av := .xb false) rfl ?_)
        refine G_q rfl (zac (av := .xb false) rfl ?_)
        refine G_n rfl rfl (G_n rfl rfl (G_n rfl rfl (G_n rfl rfl (G_n rfl rfl (G_n rfl rfl (G_n rfl rfl (G_n rfl rfl ?_)))))))
        refine G_q rfl (zai rfl (av := .xb false) rfl ?_)
        refine G_q rfl (zab (av := .xb false) rfl ?_)
        refine G_nil ?_
        refine zaf ⟨_, h, ?_⟩
        refine Sub.trans (SubU.to SubU.drop) ?_
        exact Sub.of_le (lq rfl lt0)
      ·replace h := ite_f h hc
       refine G_n rfl rfl (G_n rfl rfl (G_n rfl rfl (G_n rfl rfl ?_)))
       refine G_q rfl (zai rfl (av := .xb false) rfl ?_)
       refine G_q rfl (zac (av := .xb false) rfl ?_)
       refine G_n rfl rfl ?_
       refine G_q rfl (zai rfl (av := .xb false) rfl ?_)
       refine G_q rfl (zac (av := .xb false) rfl ?_)
       refine G_n rfl rfl (G_n rfl rfl (G_n rfl rfl ?_))
       refine G_q rfl (zai rfl (av := .xb false) rfl ?_)
       refine G_q rfl (zac (av := .xb false) rfl ?_)
       refine G_n rfl rfl (G_n rfl rfl (G_n rfl rfl (G_n rfl rfl (G_n rfl rfl (G_n rfl rfl (G_n rfl rfl (G_n rfl rfl ?_)))))))
       refine G_q rfl (zai rfl (av := .xb false) rfl ?_)
       refine G_q rfl (zab (av := .xb false) rfl ?_)
       refine G_nil ?_
       refine zaf ⟨_, h, ?_⟩
       refine Sub.trans (SubU.to SubU.drop) ?_
       exact Sub.of_le (lq rfl lt0)
     ·replace h := ite_f h hc
      refine G_n rfl rfl ?_
      refine G_q rfl (zai rfl (av := .xb false) rfl ?_)
      refine G_q rfl (zac (av := .xb false) rfl ?_)
      refine G_n rfl rfl (G_n rfl rfl (G_n rfl rfl (G_n rfl rfl ?_)))
      refine G_q rfl (zai rfl (av := .xb false) rfl ?_)
      refine G_q rfl (zac (av := .xb false) rfl ?_)
      refine G_n rfl rfl ?_
      refine G_q rfl (zai rfl (av := .xb false) rfl ?_)
      refine G_q rfl (zac (av := .xb false) rfl ?_)
      refine G_n rfl rfl (G_n rfl rfl (G_n rfl rfl ?_))
      refine G_q rfl (zai rfl (av := .xb false) rfl ?_)
      refine G_q rfl (zac (av := .xb false) rfl ?_)
      refine G_n rfl rfl (G_n rfl rfl (G_n rfl rfl (G_n rfl rfl (G_n rfl rfl (G_n rfl rfl (G_n rfl rfl (G_n rfl rfl ?_)))))))
      refine G_q rfl (zai rfl (av := .xb false) rfl ?_)
      refine G_q rfl (zab (av := .xb false) rfl ?_)
      refine G_nil ?_
      refine zaf ⟨_, h, ?_⟩
      refine Sub.trans (SubU.to SubU.drop) ?_
      exact Sub.of_le (lq rfl lt0)
    ·replace h := ite_f h hc
     refine G_n rfl rfl (G_n rfl rfl ?_)
     refine G_q rfl (zai rfl (av := .xb false) rfl ?_)
     refine G_q rfl (zac (av := .xb false) rfl ?_)
     refine G_n rfl rfl ?_
     refine G_q rfl (zai rfl (av := .xb false) rfl ?_)
     refine G_q rfl (zac (av := .xb false) rfl ?_)
     refine G_n rfl rfl (G_n rfl rfl (G_n rfl rfl (G_n rfl rfl ?_)))
     refine G_q rfl (zai rfl (av := .xb false) rfl ?_)
     refine G_q rfl (zac (av := .xb false) rfl ?_)
     refine G_n rfl rfl ?_
     refine G_q rfl (zai rfl (av := .xb false) rfl ?_)
     refine G_q rfl (zac (av := .xb false) rfl ?_)
     refine G_n rfl rfl (G_n rfl rfl (G_n rfl rfl ?_))
     refine G_q rfl (zai rfl (av := .xb false) rfl ?_)
     refine G_q rfl (zac (av := .xb false) rfl ?_)
     refine G_n rfl rfl (G_n rfl rfl (G_n rfl rfl (G_n rfl rfl (G_n rfl rfl (G_n rfl rfl (G_n rfl rfl (G_n rfl rfl ?_)))))))
     refine G_q rfl (zai rfl (av := .xb false) rfl ?_)
     refine G_q rfl (zab (av := .xb false) rfl ?_)
     refine G_nil ?_
     refine zaf ⟨_, h, ?_⟩
     refine Sub.trans (SubU.to SubU.drop) ?_
     exact Sub.of_le (lq rfl lt0)
   ·replace h := ite_f h hc
    refine G_n rfl rfl (G_n rfl rfl ?_)
    refine G_q rfl (zai rfl (av := .xb false) rfl ?_)
    refine G_q rfl (zac (av := .xb false) rfl ?_)
    refine G_n rfl rfl (G_n rfl rfl ?_)
    refine G_q rfl (zai rfl (av := .xb false) rfl ?_)
    refine G_q rfl (zac (av := .xb false) rfl ?_)
    refine G_n rfl rfl ?_
    refine G_q rfl (zai rfl (av := .xb false) rfl ?_)
    refine G_q rfl (zac (av := .xb false) rfl ?_)
    refine G_n rfl rfl (G_n rfl rfl (G_n rfl rfl (G_n rfl rfl ?_)))
    refine G_q rfl (zai rfl (av := .xb false) rfl ?_)
    refine G_q rfl (zac (av := .xb false) rfl ?_)
    refine G_n rfl rfl ?_
    refine G_q rfl (zai rfl (av := .xb false) rfl ?_)
    refine G_q rfl (zac (av := .xb false) rfl ?_)
    refine G_n rfl rfl (G_n rfl rfl (G_n rfl rfl ?_))
    refine G_q rfl (zai rfl (av := .xb false) rfl ?_)
    refine G_q rfl (zac (av := .xb false) rfl ?_)
    refine G_n rfl rfl (G_n rfl rfl (G_n rfl rfl (G_n rfl rfl (G_n rfl rfl (G_n rfl rfl (G_n rfl rfl (G_n rfl rfl ?_)))))))
    refine G_q rfl (zai rfl (av := .xb false) rfl ?_)
    refine G_q rfl (zab (av := .xb false) rfl ?_)
    refine G_nil ?_
    refine zaf ⟨_, h, ?_⟩
    refine Sub.trans (SubU.to SubU.drop) ?_
    exact Sub.of_le (lq rfl lt0)
  ·refine k_ret ?_
   obtain rfl := Option.some.inj h
   refine zaj (endN (af' := (AF.put AF0 (some 4) (.xb x4_j41))) (σ' := []) _ rfl ?_ ⟨rfl, rfl⟩)
   exact Sub.of_le (lq rfl lt0)
end Go.Proofs.YtpfdeahcjlfijaaGreat
/- The functions compute their models, by program. -/
namespace Go.Proofs.YtpfdeahcjlfijaaGreat
open Go.RowKit
attribute [local irreducible] AV.exact AV.top AV.row AV.ptr AV.agg AV.tup AV.eptr AV.fn AV.nilq AV.nilqn opA opB opM opR Quiet Loud Reads wpG awp den Sub SubU Pure Fun vecI vecT boxI CellsAll CellsOf OneC LEs LEss
set_option maxRecDepth 100000

end Go.Proofs.YtpfdeahcjlfijaaGreat
