/- The functions compute their models, by program. -/
import Derived.Test.YtjlbdhicabgliaaGreatQD5
namespace Go.Proofs.YtjlbdhicabgliaaGreat
open Go.RowKit
attribute [local irreducible] AV.exact AV.top AV.row AV.ptr AV.agg AV.tup AV.eptr AV.fn AV.nilq AV.nilqn opA opB opM opR Quiet Loud Reads wpG awp den Sub SubU Pure Fun vecI vecT boxI CellsAll CellsOf OneC LEs LEss
set_option maxRecDepth 100000

set_option maxHeartbeats 4000000
theorem m_value_Name_ok (a0 : Int) (r : (List UInt8)) (h : m_value_Name a0 = some r) : Pure Tryz.prog 85 [(.exact (.int .i64 a0))] (.exact (.string (bs r))) := by
 unfold m_value_Name at h
 refine Pure.ofFun (zar Tryz.func85 rfl Tryz.ntmps85 (by simp) rfl (res1 rfl) fun E hE => k_end (zac (kr (qa (.xs ([] : List UInt8)) rfl (zad (zaa (zac (zbc h (fun (x8_j3 : Bool) => (pt (pt AF0 0 (.xi a0)) 8 (.xb x8_j3))) (fun (x8_j3 : Bool) => []) (fun k3 h => ?_) (fun x8_j3 h => ?_)))))))))
 ·refine kr (qm (.xi a0) rfl (gq (op_lss rfl rfl (qm (.xb (decide (a0 < 0))) rfl (G_split (p := a0 < 0) 5 rfl (fun hc => ?_) (fun hc => ?_))))))
  ·replace h := ite_t h hc
   refine G_n rfl rfl (G_n rfl rfl (gq (zau rfl (av := .xb true) rfl (zad (zae ⟨_, h, s2 rfl rfl⟩)))))
  ·replace h := ite_f h hc
   refine Gy_q rfl rfl rfl (zam (av := .xi a0) rfl (Gy_q rfl rfl rfl (op_gtr rfl rfl (gq (zaj rfl (av := .xb (decide (65535 < a0))) rfl (zad (zae ⟨_, h, s2 rfl rfl⟩)))))))
 ·refine kb (p := x8_j3) rfl h (fun hc h => ?_) (fun hc h => ?_)
  ·refine zac (kr (qa (.xs ([] : List UInt8)) rfl (zad (zaa (zax (zba ?_))))))
   obtain rfl := oi h
   refine ke (pt AF0 2 (.xs ([] : List UInt8))) [] rfl (s1 rfl) ⟨rfl, rfl⟩
  ·refine zat (zaa (zac (kr (G_l rfl (op_litI (n := 1) (enc := c_uint8) [10] (by kernel_rfl) (CellsAll.cons rfl CellsOf.int CellsAll.nil) rfl (by kernel_rfl) (LEss.cons (lc lf ln) LEss.nil) (fun v4 => qm (.xi a0) rfl (gq (op_convInt (k := .u16) (by kernel_rfl) rfl rfl ?_))))))))
   obtain ⟨y5, hy5, h⟩ := zag h
   refine G_l rfl (op_fun_1_1_1 (m_value_append16_ok _ _ _ hy5) Tryz.func109 (by kernel_rfl) (lc lf (lc lf ln)) (fun v6 => G_r rfl (op_bytesS_bor rfl (by kernel_rfl) (Bor.vec (List.Mem.head _) len_c_uint8) (qa (.xs y5) rfl (zad (zaa (zax ?_)))))))
   obtain rfl := oi h
   refine ke (pt AF0 2 (.xs y5)) [] rfl (Sub.trans (SubU.to SubU.drop) (s1 rfl)) ⟨rfl, rfl⟩
theorem m_value_Dot_ok (a0 : Int) (a1 : List (List UInt8)) (r : (List UInt8)) (h : m_value_Dot a0 a1 = some r) : Pure Tryz.prog 40 [(.exact (.int .i64 a0)), (.row 1 zab a1)] (.exact (.string (bs r))) := by
 unfold m_value_Dot at h
 refine Pure.ofFun (zar Tryz.func40 rfl Tryz.ntmps40 (by simp) rfl (res1 rfl) fun E hE => k_end (zac (kr (qa (.xs ([] : List UInt8)) rfl (zad (zaa (zac (kr (qm (.xi a0) rfl ?_)))))))))
 obtain ⟨y1, hy1, h⟩ := zag h
 refine gq (zal (m_value_Name_ok _ _ hy1) Tryz.func85 (by kernel_rfl) (lc lf ln) (G_l rfl (op_litI (n := 1) (enc := zab) [y1] (by kernel_rfl) (CellsAll.cons rfl CellsOf.str CellsAll.nil) rfl (by kernel_rfl) (LEss.cons (lc lf ln) LEss.nil) (fun v2 => qm (.row 1 zab a1) rfl ?_))))
 obtain ⟨n3, h⟩ := zah h
 refine G_l rfl (op_appT (by kernel_rfl) rfl rfl zbe n3 (fun v4 => G_sub rfl (SubU.freezeT (s := 9) rfl zay) ?_))
 obtain ⟨y5, hy5, h⟩ := zag h
 refine gq (zal (m_value_compound_ok _ _ _ hy5) Tryz.func84 (by kernel_rfl) (lc lf (lc lf ln)) (qa (.xs y5) rfl (zad (zaa (zax ?_)))))
 obtain rfl := oi h
 refine ke (pt AF0 4 (.xs y5)) [] rfl (s1 rfl) ⟨rfl, rfl⟩
theorem m_dataspace_Join_ok (a0 : List ((List UInt8) × Int × (List Int) × (List (List UInt8)))) (a1 : List UInt8) (a2 : List UInt8) (r : (List UInt8) × Int) (h : m_dataspace_Join a0 a1 a2 = some r) : Pure Tryz.prog 10 [(.row 4 zaf a0), (.exact (.string (bs a1))), (.exact (.string (bs a2)))] (.tup [.exact (.string (bs r.1)), .exact (.int .i64 r.2)]) := by
 unfold m_dataspace_Join at h
 refine Pure.ofFun (zar Tryz.func10 rfl Tryz.ntmps10 (by simp) rfl (res2 rfl) fun E hE => k_end (zac (kr (qa (.xs ([] : List UInt8)) rfl (qa (.xi 0) rfl (zad (zaa (zac (kr (qm (.xs a1) rfl ?_))))))))))
 obtain ⟨y1, hy1, h⟩ := zag h
 refine gq (zal (m_dataspace_split_ok _ _ hy1) Tryz.func36 (by kernel_rfl) (lc lf ln) (qm (.tup [.xi y1.1, .row 1 zab y1.2.1, .xb y1.2.2]) rfl (gq (zas (av := .xi y1.1) rfl rfl (gq (zas (av := .row 1 zab y1.2.1) rfl rfl (gq (zas (av := .xb y1.2.2) rfl rfl (qa (.xi y1.1) rfl (qa (.row 1 zab y1.2.1) rfl (qa (.xb y1.2.2) rfl (zad (zaa (zac (zaw (zac (kr (qm (.row 4 zaf a0) rfl ?_))))))))))))))))))
 obtain ⟨y9, hy9, h⟩ := zag h
 refine gq (zal (m_dataspace_Valid_ok _ _ hy9) Tryz.func30 (by kernel_rfl) (lc lf ln) (gq (op_not rfl (qa (.xb (!y9)) rfl (zad (zaa (kb (p := !y9) rfl h (fun hc h => ?_) (fun hc h => ?_))))))))
 ·refine zac (kr (qa (.xs ([] : List UInt8)) rfl (qa (.xi 1) rfl (zad (zaa (zax (zbb (zba ?_))))))))
  obtain rfl := oi h
  refine ke (pt (pt AF0 6 (.xs ([] : List UInt8))) 7 (.xi 1)) [] rfl (s2 rfl rfl) ⟨rfl, rfl⟩
 ·refine zbc h (fun (x23_j10 : Bool) => (pt (pt (pt (pt (pt (pt AF0 0 (.row 4 zaf a0)) 1 (.xs a1)) 2 (.xs a2)) 8 (.xi y1.1)) 9 (.row 1 zab y1.2.1)) 23 (.xb x23_j10))) (fun (x23_j10 : Bool) => []) (fun k10 h => ?_) (fun x23_j10 h => ?_)
  ·refine kr (qm (.xb y1.2.2) rfl (gq (op_not rfl (qm (.xb (!y1.2.2)) rfl (G_splitB (c := !y1.2.2) 26 rfl (fun hc => ?_) (fun hc => ?_))))))
   ·replace h := ite_t h hc
    refine G_n rfl rfl (G_n rfl rfl (G_n rfl rfl (gq (zau rfl (av := .xb true) rfl (qa (.xb true) rfl (zad (zae ⟨_, h, so (l4 rfl rfl rfl rfl (lq rfl (lq rfl lt0)))⟩)))))))
   ·replace h := ite_f h hc
    refine Gy_q rfl rfl rfl (zam (av := .xs a2) rfl ?_)
    obtain ⟨y12, hy12, h⟩ := zag h
    refine Gy_q rfl rfl rfl (zal (m_value_Valid_ok _ _ hy12) Tryz.func37 (by kernel_rfl) (lc lf ln) (Gy_q rfl rfl rfl (op_not rfl (gq (zaj rfl (av := .xb (!y12)) rfl (qa (.xb (!y12)) rfl (zad (zae ⟨_, h, so (l4 rfl rfl rfl rfl (lq rfl (lq rfl lt0)))⟩))))))))
  ·refine kb (p := x23_j10) rfl h (fun hc h => ?_) (fun hc h => ?_)
   ·refine zac (kr (qa (.xs ([] : List UInt8)) rfl (qa (.xi 6) rfl (zad (zaa (zax (zbb (zba ?_))))))))
    obtain rfl := oi h
    refine ke (pt (pt AF0 6 (.xs ([] : List UInt8))) 7 (.xi 6)) [] rfl (s2 rfl rfl) ⟨rfl, rfl⟩
   ·refine zac (kr (qm (.row 4 zaf a0) rfl (qm (.xs a1) rfl ?_)))
    obtain ⟨y13, hy13, h⟩ := zag h
    refine gq (zal (m_dataspace_belongs_ok _ _ _ hy13) Tryz.func32 (by kernel_rfl) (lc lf (lc lf ln)) (gq (op_not rfl (qa (.xb (!y13)) rfl (zad (zaa (kb (p := !y13) rfl h (fun hc h => ?_) (fun hc h => ?_))))))))
    ·refine zac (kr (qa (.xs ([] : List UInt8)) rfl (qa (.xi 18) rfl (zad (zaa (zax (zbb (zba ?_))))))))
     obtain rfl := oi h
     refine ke (pt (pt AF0 6 (.xs ([] : List UInt8))) 7 (.xi 18)) [] rfl (s2 rfl rfl) ⟨rfl, rfl⟩
    ·refine zac (kr (qm (.row 4 zaf a0) rfl (qm (.xs a1) rfl ?_)))
     obtain ⟨y14, hy14, h⟩ := zag h
     refine gq (zal (m_dataspace_missing_ok _ _ _ hy14) Tryz.func35 (by kernel_rfl) (lc lf (lc lf ln)) (gq (zap (by kernel_rfl) rfl (gq (op_eql rfl rfl (qa (.xb (decide ((List.length y14 : Int) = 0))) rfl (zad (zaa (kd (p := (List.length y14 : Int) = 0) rfl h (fun hc h => ?_) (fun hc h => ?_))))))))))
     ·refine zac (kr (qa (.xs ([] : List UInt8)) rfl (qa (.xi 6) rfl (zad (zaa (zax (zbb (zba ?_))))))))
      obtain rfl := oi h
      refine ke (pt (pt AF0 6 (.xs ([] : List UInt8))) 7 (.xi 6)) [] rfl (s2 rfl rfl) ⟨rfl, rfl⟩
     ·refine zat (zaz (zaa (zac (zac (kr (qm (.row 4 zaf a0) rfl (qm (.xs a1) rfl ?_)))))))
      obtain ⟨y23, hy23, h⟩ := zag h
      refine gq (zal (m_dataspace_missing_ok _ _ _ hy23) Tryz.func35 (by kernel_rfl) (lc lf (lc lf ln)) ?_)
      obtain ⟨n24, h⟩ := zah h
      refine gq (zao (by kernel_rfl) rfl rfl n24.1 n24.2 (gq (zav (a := .xs (gi y23 0)) (by kernel_rfl) rfl rfl (qa (.xs (gi y23 0)) rfl (zad (zaa (zbc h (fun (x55_j25 : Bool) => (pt (pt (pt (pt AF0 2 (.xs a2)) 8 (.xi y1.1)) 9 (.row 1 zab y1.2.1)) 55 (.xb x55_j25))) (fun (x55_j25 : Bool) => []) (fun k25 h => ?_) (fun x55_j25 h => ?_))))))))
      ·refine kr (qm (.xs (gi y23 0)) rfl (gq (op_neqS rfl rfl (qm (.xb (decide (¬ (gi y23 0) = ([] : List UInt8)))) rfl (G_split (p := ¬ (gi y23 0) = ([] : List UInt8)) 49 rfl (fun hc => ?_) (fun hc => ?_))))))
       ·replace h := ite_t h hc
        refine Gy_q rfl rfl rfl (zam (av := .xs (gi y23 0)) rfl ?_)
        obtain ⟨y28, hy28, h⟩ := zag h
        refine Gy_q rfl rfl rfl (zal (m_value_Parts_ok _ _ hy28) Tryz.func39 (by kernel_rfl) (lc lf ln) (Gy_q rfl rfl rfl (zam (av := .xs a2) rfl ?_)))
        obtain ⟨y29, hy29, h⟩ := zag h
        refine Gy_q rfl rfl rfl (zal (m_slices_Contains_L_api_Value_api_Value_ok _ _ _ hy29) Tryz.func38 (by kernel_rfl) (lc lf (lc lf ln)) (Gy_q rfl rfl rfl (op_not rfl (gq (zau rfl (av := .xb (!y29)) rfl (zad (zae ⟨_, h, s4 rfl rfl rfl rfl⟩)))))))
       ·replace h := ite_f h hc
        refine G_n rfl rfl (G_n rfl rfl (G_n rfl rfl (G_n rfl rfl (G_n rfl rfl (gq (zaj rfl (av := .xb false) rfl (zad (zae ⟨_, h, s4 rfl rfl rfl rfl⟩))))))))
      ·refine kb (p := x55_j25) rfl h (fun hc h => ?_) (fun hc h => ?_)
       ·refine zac (kr (qa (.xs ([] : List UInt8)) rfl (qa (.xi 18) rfl (zad (zaa (zax (zba ?_)))))))
        obtain rfl := oi h
        refine ke (pt (pt AF0 6 (.xs ([] : List UInt8))) 7 (.xi 18)) [] rfl (s2 rfl rfl) ⟨rfl, rfl⟩
       ·refine zat (zaa (zac (kr (qm (.xi y1.1) rfl (qm (.row 1 zab y1.2.1) rfl ?_)))))
        obtain ⟨y30, hy30, h⟩ := zag h
        refine G_l rfl (op_fun_0_1_1 (m_slices_Clone_L_api_Value_api_Value_ok _ _ hy30) Tryz.func41 (by kernel_rfl) (lc lf ln) (fun v31 => qm (.xs a2) rfl (gq (op_litT (n := 1) (enc := zab) [a2] (CellsAll.cons rfl CellsOf.str CellsAll.nil) rfl (by kernel_rfl) (LEss.cons (lc lf ln) LEss.nil) ?_))))
        obtain ⟨n32, h⟩ := zah h
        refine G_l rfl (op_appT (by kernel_rfl) rfl rfl zbe n32 (fun v33 => G_sub rfl (SubU.freezeT (s := 61) rfl zay) ?_))
        obtain ⟨y34, hy34, h⟩ := zag h
        refine gq (zal (m_value_Dot_ok _ _ _ hy34) Tryz.func40 (by kernel_rfl) (lc lf (lc lf ln)) (qa (.xs y34) rfl (zad (zaa (zac (zac (kr (qm (.xs y34) rfl (gq (op_eqlS rfl rfl (zad (zaa (kd (p := y34 = ([] : List UInt8)) rfl h (fun hc h => ?_) (fun hc h => ?_))))))))))))))
        ·refine zac (kr (qa (.xs ([] : List UInt8)) rfl (qa (.xi 9) rfl (zad (zaa (zax (zba ?_)))))))
         obtain rfl := oi h
         refine ke (pt (pt AF0 6 (.xs ([] : List UInt8))) 7 (.xi 9)) [] rfl (s2 rfl rfl) ⟨rfl, rfl⟩
        ·refine zat (zaa (zac (kr (qm (.xs y34) rfl (qa (.xs y34) rfl (qa (.xi 0) rfl (zad (zaa (zax ?_)))))))))
         obtain rfl := oi h
         refine ke (pt (pt AF0 6 (.xs y34)) 7 (.xi 0)) [] rfl (s2 rfl rfl) ⟨rfl, rfl⟩
theorem m_dataspace_choices_ok (a0 : List (List UInt8)) (r : (List (List (List UInt8))) × Bool) (h : m_dataspace_choices a0 = some r) : Pure Tryz.prog 86 [(.row 1 zab a0)] (.tup [.row 1 zan r.1, .exact (.bool r.2)]) := by
 unfold m_dataspace_choices at h
 refine Pure.ofFun (zar Tryz.func86 rfl Tryz.ntmps86 (by simp) rfl (res2 rfl) fun E hE => k_end (zac (kr (qa (.exact (.slice none 0 0)) rfl (qa (.xb false) rfl (zad (zaa (k_join0_0 h ((pt AF0 0 (.row 1 zab a0))) ([]) (fun k1 h => ?_) (fun  h => ?_)))))))))
 ·refine zac (kr (qm (.row 1 zab a0) rfl (gq (zap (by kernel_rfl) rfl (qm (.xi 0) rfl (zad (zaa (zaw (k_loop1_0 (m_dataspace_choices_L2 a0 k1) (m_dataspace_choices_B2 a0 k1) (fun _ => rfl) (fun m _ => rfl) h (fun (x17_l2 : Int) => (pt (pt (pt (pt AF0 0 (.row 1 zab a0)) 15 (.row 1 zab a0)) 16 (.xi (List.length a0 : Int))) 17 (.xi x17_l2))) (fun (x17_l2 : Int) => []) ?_ (fun rec2 x17_l2 h => ?_))))))))))
  ·exact s4 rfl rfl rfl rfl
  ·unfold m_dataspace_choices_B2 at h
   refine zac (kr (gq (op_lss rfl rfl (zad (zaa (zac (kd (p := x17_l2 < (List.length a0 : Int)) rfl h (fun hc h => ?_) (fun hc h => ?_))))))))
   ·refine zat (zaa (zac (zaw (zac (kr ?_)))))
    obtain ⟨n13, h⟩ := zah h
    refine gq (zao (by kernel_rfl) rfl rfl n13.1 n13.2 (gq (zav (a := .xs (gi a0 x17_l2)) (by kernel_rfl) rfl rfl (qa (.xs (gi a0 x17_l2)) rfl (zad (zaa (zac (kr (qm (.xs (gi a0 x17_l2)) rfl ?_)))))))))
    obtain ⟨y14, hy14, h⟩ := zag h
    refine gq (zal (m_value_Parts_ok _ _ hy14) Tryz.func39 (by kernel_rfl) (lc lf ln) (gq (zap (by kernel_rfl) rfl (gq (op_eql rfl rfl (zad (zaa (kd (p := (List.length y14 : Int) = 0) rfl h (fun hc h => ?_) (fun hc h => ?_)))))))))
    ·refine zac (kr (qa (.exact (.slice none 0 0)) rfl (qa (.xb true) rfl (zad (zaa (zax (zbb (zba (zbj (zbb (zbj ?_)))))))))))
     obtain rfl := oi h
     refine ke (pt (pt AF0 2 (.row 1 zan [])) 3 (.xb true)) [] rfl (so (lq rfl (AF.le_put (row_nil (by decide)) lt0))) ⟨rfl, rfl⟩
    ·refine zat (zaz (zaa (kr (gq (op_add rfl rfl rfl (qm (.xi (i64 (x17_l2 + 1))) rfl (zad (zae ⟨_, h, s4 rfl rfl rfl rfl⟩))))))))
   ·refine k_exit (kC_exit (kI_exit (kB_exit (zae ⟨h, s1 rfl⟩))))
 ·refine zac (kr (gq (op_litT (n := 1) (enc := zan) [([] : List (List UInt8))] (CellsAll.cons rfl CellsOf.slice CellsAll.nil) rfl (by kernel_rfl) (LEss.cons (lc (row_nil (by decide)) ln) LEss.nil) (qa (.row 1 zan ([([] : List (List UInt8))])) rfl (zad (zaa (zbc h (fun (x6_j15 : List (List (List UInt8))) => (pt AF0 6 (.row 1 zan x6_j15))) (fun (x6_j15 : List (List (List UInt8))) => []) (fun k15 h => ?_) (fun x6_j15 h => ?_))))))))
  ·refine zac (kr (qm (.row 1 zab a0) rfl (gq (zap (by kernel_rfl) rfl (qm (.xi 0) rfl (zad (zaa (zaw (k_loop2_0 (m_dataspace_choices_L88 a0 k15) (m_dataspace_choices_B88 a0 k15) (fun _ _ => rfl) (fun m _ _ => rfl) h (fun (x6_l88 : List (List (List UInt8))) (x29_l88 : Int) => (pt (pt (pt (pt AF0 6 (.row 1 zan x6_l88)) 27 (.row 1 zab a0)) 28 (.xi (List.length a0 : Int))) 29 (.xi x29_l88))) (fun (x6_l88 : List (List (List UInt8))) (x29_l88 : Int) => []) ?_ (fun rec88 x6_l88 x29_l88 h => ?_))))))))))
   ·exact s4 rfl rfl rfl rfl
   ·unfold m_dataspace_choices_B88 at h
    refine zac (kr (gq (op_lss rfl rfl (zad (zaa (zac (kd (p := x29_l88 < (List.length a0 : Int)) rfl h (fun hc h => ?_) (fun hc h => ?_))))))))
    ·refine zat (zaa (k_join1_1 h (fun (x6_j2892 : List (List (List UInt8))) (v6_j2892 : Value) => (pt (pt (pt (pt AF0 6 (.exact v6_j2892)) 27 (.row 1 zab a0)) 28 (.xi (List.length a0 : Int))) 29 (.xi x29_l88))) (fun (x6_j2892 : List (List (List UInt8))) (v6_j2892 : Value) => [vecT Tryz.prog 91 1 zan v6_j2892 x6_j2892]) (fun k2892 h => ?_) (fun x6_j2892 v6_j2892 h => ?_)))
     ·refine zaw (zac (kr ?_))
      obtain ⟨n3180, h⟩ := zah h
      refine gq (zao (by kernel_rfl) rfl rfl n3180.1 n3180.2 (gq (zav (a := .xs (gi a0 x29_l88)) (by kernel_rfl) rfl rfl (qa (.xs (gi a0 x29_l88)) rfl (zad (zaa (zac (kr (qm (.xs (gi a0 x29_l88)) rfl ?_)))))))))
      obtain ⟨y3181, hy3181, h⟩ := zag h
      refine gq (zal (m_value_Parts_ok _ _ hy3181) Tryz.func39 (by kernel_rfl) (lc lf ln) (qa (.row 1 zab y3181) rfl (zad (zaa (zac (zac (kr (qm (.row 1 zan x6_l88) rfl (gq (zap (by kernel_rfl) rfl (qm (.row 1 zab y3181) rfl (gq (zap (by kernel_rfl) rfl (gq (op_mul rfl rfl rfl (gq (op_gtr rfl rfl (zad (zaa (kd (p := 4096 < (i64 ((List.length x6_l88 : Int) * (List.length y3181 : Int)))) rfl h (fun hc h => ?_) (fun hc h => ?_)))))))))))))))))))))
      ·refine zac (kr (qa (.exact (.slice none 0 0)) rfl (qa (.xb false) rfl (zad (zaa (zax (zba (zbb (zbj (zbj (zbb (zbj ?_))))))))))))
       obtain rfl := oi h
       refine ke (pt (pt AF0 2 (.row 1 zan [])) 3 (.xb false)) [] rfl (so (lq rfl (AF.le_put (row_nil (by decide)) lt0))) ⟨rfl, rfl⟩
      ·refine zat (zaa (zac (kr (qa (.exact (.slice none 0 0)) rfl (zad (zaa (k_join1_1 h (fun (x10_j3182 : List (List (List UInt8))) (v10_j3182 : Value) => (pt (pt (pt (pt AF0 10 (.exact v10_j3182)) 27 (.row 1 zab a0)) 28 (.xi (List.length a0 : Int))) 29 (.xi x29_l88))) (fun (x10_j3182 : List (List (List UInt8))) (v10_j3182 : Value) => [vecT Tryz.prog 91 1 zan v10_j3182 x10_j3182]) (fun k3182 h => ?_) (fun x10_j3182 v10_j3182 h => ?_))))))))
       ·refine zac (kr (qm (.row 1 zan x6_l88) rfl (gq (zap (by kernel_rfl) rfl (qm (.xi 0) rfl (zad (zaa (zaw (k_loop2_1 (m_dataspace_choices_L166 x6_l88 y3181 k3182) (m_dataspace_choices_B166 x6_l88 y3181 k3182) (fun _ _ => rfl) (fun m _ _ => rfl) h (fun (x10_l166 : List (List (List UInt8))) (x43_l166 : Int) (v10_l166 : Value) => (pt (pt (pt (pt (pt (pt (pt (pt AF0 9 (.row 1 zab y3181)) 10 (.exact v10_l166)) 27 (.row 1 zab a0)) 28 (.xi (List.length a0 : Int))) 29 (.xi x29_l88)) 41 (.row 1 zan x6_l88)) 42 (.xi (List.length x6_l88 : Int))) 43 (.xi x43_l166))) (fun (x10_l166 : List (List (List UInt8))) (x43_l166 : Int) (v10_l166 : Value) => [vecT Tryz.prog 91 1 zan v10_l166 x10_l166]) (.slice none 0 0) ?_ (fun rec166 x10_l166 x43_l166 v10_l166 h => ?_))))))))))
        ·refine Sub.trans (SubU.to (SubU.nilT (P := Tryz.prog) (t := 91) (n := 1) (enc := zan))) (so (l4 rfl rfl rfl rfl (l4 rfl rfl rfl rfl lt0)))
        ·unfold m_dataspace_choices_B166 at h
         refine zac (kr (gq (op_lss rfl rfl (zad (zaa (zac (kd (p := x43_l166 < (List.length x6_l88 : Int)) rfl h (fun hc h => ?_) (fun hc h => ?_))))))))
         ·refine zat (zaa (k_join1_1 h (fun (x10_j3419 : List (List (List UInt8))) (v10_j3419 : Value) => (pt (pt (pt (pt (pt (pt (pt (pt AF0 9 (.row 1 zab y3181)) 10 (.exact v10_j3419)) 27 (.row 1 zab a0)) 28 (.xi (List.length a0 : Int))) 29 (.xi x29_l88)) 41 (.row 1 zan x6_l88)) 42 (.xi (List.length x6_l88 : Int))) 43 (.xi x43_l166))) (fun (x10_j3419 : List (List (List UInt8))) (v10_j3419 : Value) => [vecT Tryz.prog 91 1 zan v10_j3419 x10_j3419]) (fun k3419 h => ?_) (fun x10_j3419 v10_j3419 h => ?_)))
          ·refine zaw (zac (kr ?_))
           obtain ⟨n3443, h⟩ := zah h
           refine gq (zao (by kernel_rfl) rfl rfl n3443.1 n3443.2 (gq (zav (a := .row 1 zab (gi x6_l88 x43_l166)) (by kernel_rfl) rfl rfl (qa (.row 1 zab (gi x6_l88 x43_l166)) rfl (zad (zaa (zac (kr (qm (.row 1 zab y3181) rfl (gq (zap (by kernel_rfl) rfl (qm (.xi 0) rfl (zad (zaa (zaw (k_loop2_1 (m_dataspace_choices_L172 x6_l88 y3181 x43_l166 k3419) (m_dataspace_choices_B172 x6_l88 y3181 x43_l166 k3419) (fun _ _ => rfl) (fun m _ _ => rfl) h (fun (x10_l172 : List (List (List UInt8))) (x49_l172 : Int) (v10_l172 : Value) => (pt (pt (pt (pt (pt (pt (pt (pt (pt (pt (pt (pt AF0 9 (.row 1 zab y3181)) 10 (.exact v10_l172)) 12 (.row 1 zab (gi x6_l88 x43_l166))) 27 (.row 1 zab a0)) 28 (.xi (List.length a0 : Int))) 29 (.xi x29_l88)) 41 (.row 1 zan x6_l88)) 42 (.xi (List.length x6_l88 : Int))) 43 (.xi x43_l166)) 47 (.row 1 zab y3181)) 48 (.xi (List.length y3181 : Int))) 49 (.xi x49_l172))) (fun (x10_l172 : List (List (List UInt8))) (x49_l172 : Int) (v10_l172 : Value) => [vecT Tryz.prog 91 1 zan v10_l172 x10_l172]) v10_l166 ?_ (fun rec172 x10_l172 x49_l172 v10_l172 h => ?_)))))))))))))))))
           ·exact so (l4 rfl rfl rfl rfl (l4 rfl rfl rfl rfl (l4 rfl rfl rfl rfl lt0)))
           ·unfold m_dataspace_choices_B172 at h
            refine zac (kr (gq (op_lss rfl rfl (zad (zaa (zac (kd (p := x49_l172 < (List.length y3181 : Int)) rfl h (fun hc h => ?_) (fun hc h => ?_))))))))
            ·refine zat (zaa (zac (zaw (zac (kr ?_)))))
             obtain ⟨n3458, h⟩ := zah h
             refine gq (zao (by kernel_rfl) rfl rfl n3458.1 n3458.2 (gq (zav (a := .xs (gi y3181 x49_l172)) (by kernel_rfl) rfl rfl (qa (.xs (gi y3181 x49_l172)) rfl (zad (zaa (kr (qm (.exact v10_l172) rfl (qm (.row 1 zab (gi x6_l88 x43_l166)) rfl ?_)))))))))
             obtain ⟨y3459, hy3459, h⟩ := zag h
             refine G_l rfl (op_fun_0_1_1 (m_slices_Clone_L_api_Value_api_Value_ok _ _ hy3459) Tryz.func41 (by kernel_rfl) (lc lf ln) (fun v3460 => qm (.xs (gi y3181 x49_l172)) rfl (gq (op_litT (n := 1) (enc := zab) [gi y3181 x49_l172] (CellsAll.cons rfl CellsOf.str CellsAll.nil) rfl (by kernel_rfl) (LEss.cons (lc lf ln) LEss.nil) ?_))))
             obtain ⟨n3461, h⟩ := zah h
             refine G_l rfl (op_appT (by kernel_rfl) rfl rfl zbe n3461 (fun v3462 => G_sub rfl (SubU.freezeT (s := 58) rfl zay) (gq (op_litT (n := 1) (enc := zan) [(y3459 ++ [gi y3181 x49_l172])] (CellsAll.cons rfl CellsOf.row CellsAll.nil) rfl (by kernel_rfl) (LEss.cons (lc lf ln) LEss.nil) ?_))))
             obtain ⟨n3463, h⟩ := zah h
             refine G_l rfl (op_appT (by kernel_rfl) rfl rfl oc_c_L_api_Value n3463 (fun v3464 => qa (.exact v3464) rfl (zad (zaz (zaa (kr (gq (op_add rfl rfl rfl (qm (.xi (i64 (x49_l172 + 1))) rfl (zad (zae ⟨_, _, v3464, h, so (l4 rfl rfl rfl rfl (l4 rfl rfl rfl rfl (l4 rfl rfl rfl rfl lt0)))⟩)))))))))))
            ·refine k_exit (kC_exit (kI_exit (kB_exit (zaz (zae ⟨_, v10_l172, h, so (l4 rfl rfl rfl rfl (l4 rfl rfl rfl rfl lt0))⟩)))))
          ·refine kr (gq (op_add rfl rfl rfl (qm (.xi (i64 (x43_l166 + 1))) rfl (zad (zae ⟨_, _, v10_j3419, h, so (l4 rfl rfl rfl rfl (l4 rfl rfl rfl rfl lt0))⟩)))))
         ·refine k_exit (kC_exit (kI_exit (kB_exit (zae ⟨_, v10_l166, h, s4 rfl rfl rfl rfl⟩))))
       ·refine kr (qm (.exact v10_j3182) rfl (qa (.exact v10_j3182) rfl (zad (zaz (zae ⟨_, v10_j3182, h, s4 rfl rfl rfl rfl⟩)))))
     ·refine kr (gq (op_add rfl rfl rfl (qm (.xi (i64 (x29_l88 + 1))) rfl (zad (zae ⟨_, _, h, ?_⟩)))))
      refine Sub.trans (SubU.to (SubU.freezeT (s := 6) rfl len_c_L_api_Value)) (s4 rfl rfl rfl rfl)
    ·refine k_exit (kC_exit (kI_exit (kB_exit (zae ⟨_, h, s1 rfl⟩))))
  ·refine zac (kr (qm (.row 1 zan x6_j15) rfl (qa (.row 1 zan x6_j15) rfl (qa (.xb true) rfl (zad (zaa (zax ?_)))))))
   obtain rfl := oi h
   refine ke (pt (pt AF0 2 (.row 1 zan x6_j15)) 3 (.xb true)) [] rfl (s2 rfl rfl) ⟨rfl, rfl⟩
theorem m_slices_Grow_L_api_Value_api_Value_ok (a1 : Int) (r : (List (List UInt8))) (h : m_slices_Grow_L_api_Value_api_Value a1 = some r) : Fun Tryz.prog 112 [(.exact (.slice none 0 0)), (.exact (.int .i64 a1))] [] (fun a s => ∃ z0, a = .exact z0 ∧ s = [vecT Tryz.prog 23 1 zab z0 r]) := by
 unfold m_slices_Grow_L_api_Value_api_Value at h
 refine zar Tryz.func112 rfl Tryz.ntmps112 (by simp) rfl (res1 rfl) fun E hE => k_end (zac (kr (qa (.exact (.slice none 0 0)) rfl (zad (zaa (zac (zac (kr (qm (.xi a1) rfl (gq (op_lss rfl rfl (zad (zaa (kd (p := a1 < 0) rfl h (fun hc h => ?_) (fun hc h => ?_)))))))))))))))
 ·cases h
 ·refine zat (zaa (k_join1_1 h (fun (x0_j2 : List (List UInt8)) (v0_j2 : Value) => (pt AF0 0 (.exact v0_j2))) (fun (x0_j2 : List (List UInt8)) (v0_j2 : Value) => [vecT Tryz.prog 23 1 zab v0_j2 x0_j2]) (fun k2 h => ?_) (fun x0_j2 v0_j2 h => ?_)))
  ·refine zac (kr (qm (.xi a1) rfl (qm (.exact (.slice none 0 0)) rfl (gq (op_cap_nil (by kernel_rfl) rfl (qm (.exact (.slice none 0 0)) rfl (gq (op_len_slice (by kernel_rfl) rfl (gq (op_sub rfl rfl rfl (gq (op_sub rfl rfl rfl (qa (.xi (i64 (a1 - (i64 (0 - 0))))) rfl (zad (zaa (zac (kr (qm (.xi (i64 (a1 - (i64 (0 - 0))))) rfl ?_))))))))))))))))))
   refine gq (op_gtr rfl rfl (zad (zaa (kd (p := 0 < (i64 (a1 - (i64 (0 - 0))))) rfl h (fun hc h => ?_) (fun hc h => ?_)))))
   ·refine kr (qm (.exact (.slice none 0 0)) rfl (qm (.exact (.slice none 0 0)) rfl (gq (op_cap_nil (by kernel_rfl) rfl (gq (op_slice_nil (n := 1) (by kernel_rfl) rfl (bnd_some rfl) (qm (.xi (i64 (a1 - (i64 (0 - 0))))) rfl ?_)))))))
    obtain ⟨n7, h⟩ := zah h
    refine G_l rfl (op_appMake0 (kn := .i64) (enc := zab) (zr := []) (by kernel_rfl) (by kernel_rfl) rfl rfl n7.1 n7.2 zay Tryz.zeroValue26 (fun _ _ => (Fit.ex Fit.nil0)) (fun v8 => qm (.exact (.slice none 0 0)) rfl (gq (op_len_slice (by kernel_rfl) rfl ?_))))
    obtain ⟨n9, h⟩ := zah h
    refine G_l rfl (op_trunc (by kernel_rfl) zay rfl (bnd_some rfl) n9.1 n9.2 (fun v10 => qa (.exact v10) rfl (zad (zae ⟨_, v10, h, s1 rfl⟩))))
   ·refine zat (zae ⟨_, (.slice none 0 0), h, ?_⟩)
    refine Sub.trans (SubU.to (SubU.nilT (P := Tryz.prog) (t := 23) (n := 1) (enc := zab))) (s1 rfl)
  ·refine zac (kr (qm (.exact v0_j2) rfl (qa (.exact v0_j2) rfl (zad (zaa (zax ?_))))))
   obtain rfl := oi h
   refine ke (pt AF0 4 (.exact v0_j2)) [vecT Tryz.prog 23 1 zab v0_j2 x0_j2] rfl (s1 rfl) ⟨v0_j2, rfl, rfl⟩
theorem m_slices_Concat_L_api_Value_api_Value_ok (a0 : List (List (List UInt8))) (r : (List (List UInt8))) (h : m_slices_Concat_L_api_Value_api_Value a0 = some r) : Pure Tryz.prog 87 [(.row 1 zan a0)] (.row 1 zab r) := by
 unfold m_slices_Concat_L_api_Value_api_Value at h
 refine Pure.ofFun (zar Tryz.func87 rfl Tryz.ntmps87 (by simp) rfl (res1 rfl) fun E hE => k_end (zac (kr (qa (.exact (.slice none 0 0)) rfl (zad (zaa (zac (kr (qa (.xi 0) rfl (zad (zaa (zbc h (fun (x3_j1 : Int) => (pt (pt AF0 0 (.row 1 zan a0)) 3 (.xi x3_j1))) (fun (x3_j1 : Int) => []) (fun k1 h => ?_) (fun x3_j1 h => ?_)))))))))))))
 ·refine zac (kr (qm (.row 1 zan a0) rfl (gq (zap (by kernel_rfl) rfl (qm (.xi 0) rfl (zad (zaa (zaw (k_loop2_0 (m_slices_Concat_L_api_Value_api_Value_L2 a0 k1) (m_slices_Concat_L_api_Value_api_Value_B2 a0 k1) (fun _ _ => rfl) (fun m _ _ => rfl) h (fun (x3_l2 : Int) (x11_l2 : Int) => (pt (pt (pt (pt (pt AF0 0 (.row 1 zan a0)) 3 (.xi x3_l2)) 9 (.row 1 zan a0)) 10 (.xi (List.length a0 : Int))) 11 (.xi x11_l2))) (fun (x3_l2 : Int) (x11_l2 : Int) => []) ?_ (fun rec2 x3_l2 x11_l2 h => ?_))))))))))
  ·exact so (l4 rfl rfl rfl rfl (lq rfl lt0))
  ·unfold m_slices_Concat_L_api_Value_api_Value_B2 at h
   refine zac (kr (gq (op_lss rfl rfl (zad (zaa (zac (kd (p := x11_l2 < (List.length a0 : Int)) rfl h (fun hc h => ?_) (fun hc h => ?_))))))))
   ·refine zat (zaa (zac (zaw (zac (kr ?_)))))
    obtain ⟨n20, h⟩ := zah h
    refine gq (zao (by kernel_rfl) rfl rfl n20.1 n20.2 (gq (zav (a := .row 1 zab (gi a0 x11_l2)) (by kernel_rfl) rfl rfl (qa (.row 1 zab (gi a0 x11_l2)) rfl (zad (zaa (zac (kr (qm (.xi x3_l2) rfl (qm (.row 1 zab (gi a0 x11_l2)) rfl (gq (zap (by kernel_rfl) rfl (gq (op_add rfl rfl rfl (qa (.xi (i64 (x3_l2 + (List.length (gi a0 x11_l2) : Int)))) rfl (zad (zaa (zac (kr (qm (.xi (i64 (x3_l2 + (List.length (gi a0 x11_l2) : Int)))) rfl ?_))))))))))))))))))))
    refine gq (op_lss rfl rfl (zad (zaa (kd (p := (i64 (x3_l2 + (List.length (gi a0 x11_l2) : Int))) < 0) rfl h (fun hc h => ?_) (fun hc h => ?_)))))
    ·cases h
    ·refine zat (zaz (zaa (kr (gq (op_add rfl rfl rfl (qm (.xi (i64 (x11_l2 + 1))) rfl (zad (zae ⟨_, _, h, so (l4 rfl rfl rfl rfl (lq rfl lt0))⟩))))))))
   ·refine k_exit (kC_exit (kI_exit (kB_exit (zae ⟨_, h, s2 rfl rfl⟩))))
 ·refine zac (kr (qm (.xi x3_j1) rfl ?_))
  obtain ⟨y21, hy21, h⟩ := zag h
  refine G_l rfl (op_fun_0_1_1 (m_slices_Grow_L_api_Value_api_Value_ok _ _ hy21) Tryz.func112 (by kernel_rfl) (lc lf (lc lf ln)) (fun v22 => qa (.exact v22) rfl (zad (zaa (k_join1_1 h (fun (x6_j23 : List (List UInt8)) (v6_j23 : Value) => (pt AF0 6 (.exact v6_j23))) (fun (x6_j23 : List (List UInt8)) (v6_j23 : Value) => [vecT Tryz.prog 23 1 zab v6_j23 x6_j23]) (fun k23 h => ?_) (fun x6_j23 v6_j23 h => ?_))))))
  ·refine zac (kr (qm (.row 1 zan a0) rfl (gq (zap (by kernel_rfl) rfl (qm (.xi 0) rfl (zad (zaa (zaw (k_loop2_1 (m_slices_Concat_L_api_Value_api_Value_L4 a0 k23) (m_slices_Concat_L_api_Value_api_Value_B4 a0 k23) (fun _ _ => rfl) (fun m _ _ => rfl) h (fun (x6_l4 : List (List UInt8)) (x27_l4 : Int) (v6_l4 : Value) => (pt (pt (pt (pt AF0 6 (.exact v6_l4)) 25 (.row 1 zan a0)) 26 (.xi (List.length a0 : Int))) 27 (.xi x27_l4))) (fun (x6_l4 : List (List UInt8)) (x27_l4 : Int) (v6_l4 : Value) => [vecT Tryz.prog 23 1 zab v6_l4 x6_l4]) v22 ?_ (fun rec4 x6_l4 x27_l4 v6_l4 h => ?_))))))))))
   ·exact s4 rfl rfl rfl rfl
   ·unfold m_slices_Concat_L_api_Value_api_Value_B4 at h
    refine zac (kr (gq (op_lss rfl rfl (zad (zaa (zac (kd (p := x27_l4 < (List.length a0 : Int)) rfl h (fun hc h => ?_) (fun hc h => ?_))))))))
    ·refine zat (zaa (zac (zaw (zac (kr ?_)))))
     obtain ⟨n40, h⟩ := zah h
     refine gq (zao (by kernel_rfl) rfl rfl n40.1 n40.2 (gq (zav (a := .row 1 zab (gi a0 x27_l4)) (by kernel_rfl) rfl rfl (qa (.row 1 zab (gi a0 x27_l4)) rfl (zad (zaa (kr (qm (.exact v6_l4) rfl (qm (.row 1 zab (gi a0 x27_l4)) rfl ?_)))))))))
     obtain ⟨n41, h⟩ := zah h
     refine G_l rfl (op_appT (by kernel_rfl) rfl rfl zbe n41 (fun v42 => qa (.exact v42) rfl (zad (zaz (zaa (kr (gq (op_add rfl rfl rfl (qm (.xi (i64 (x27_l4 + 1))) rfl (zad (zae ⟨_, _, v42, h, s4 rfl rfl rfl rfl⟩)))))))))))
    ·refine k_exit (kC_exit (kI_exit (kB_exit (zae ⟨_, v6_l4, h, s1 rfl⟩))))
  ·refine zac (kr (qm (.exact v6_j23) rfl (qa (.exact v6_j23) rfl (zad (zaa (zax ?_))))))
   obtain rfl := oi h
   refine ke (pt AF0 2 (.row 1 zab x6_j23)) [] rfl (Sub.trans (SubU.to (SubU.freezeT (s := 2) rfl zay)) (s1 rfl)) ⟨rfl, rfl⟩
theorem m_dataspace_complete_ok (a0 : List ((List UInt8) × Int × (List Int) × (List (List UInt8)))) (a1 : List UInt8) (r : (List (List UInt8)) × Int) (h : m_dataspace_complete a0 a1 = some r) : Pure Tryz.prog 42 [(.row 4 zaf a0), (.exact (.string (bs a1)))] (.tup [.row 1 zab r.1, .exact (.int .i64 r.2)]) := by
 unfold m_dataspace_complete at h
 refine Pure.ofFun (zar Tryz.func42 rfl Tryz.ntmps42 (by simp) rfl (res2 rfl) fun E hE => k_end (zac (kr (qa (.exact (.slice none 0 0)) rfl (qa (.xi 0) rfl (zad (zaa (zac (kr (qm (.row 4 zaf a0) rfl (qm (.xs a1) rfl ?_)))))))))))
 obtain ⟨y1, hy1, h⟩ := zag h
 refine gq (zal (m_dataspace_missing_ok _ _ _ hy1) Tryz.func35 (by kernel_rfl) (lc lf (lc lf ln)) ?_)
 obtain ⟨y2, hy2, h⟩ := zag h
 refine gq (zal (m_dataspace_choices_ok _ _ hy2) Tryz.func86 (by kernel_rfl) (lc lf ln) (qm (.tup [.row 1 zan y2.1, .xb y2.2]) rfl (gq (zas (av := .row 1 zan y2.1) rfl rfl (gq (zas (av := .xb y2.2) rfl rfl (qa (.row 1 zan y2.1) rfl (qa (.xb y2.2) rfl (zad (zaa (zac (zac (kr (qm (.xb y2.2) rfl (gq (op_not rfl (zad (zaa (kb (p := !y2.2) rfl h (fun hc h => ?_) (fun hc h => ?_))))))))))))))))))))
 ·refine zac (kr (qa (.exact (.slice none 0 0)) rfl (qa (.xi 9) rfl (zad (zaa (zax (zba ?_)))))))
  obtain rfl := oi h
  refine ke (pt (pt AF0 4 (.row 1 zab [])) 5 (.xi 9)) [] rfl (so (lq rfl (AF.le_put (row_nil (by decide)) lt0))) ⟨rfl, rfl⟩
 ·refine zat (zaa (zac (kr (qm (.xs a1) rfl ?_))))
  obtain ⟨y3, hy3, h⟩ := zag h
  refine gq (zal (m_dataspace_split_ok _ _ hy3) Tryz.func36 (by kernel_rfl) (lc lf ln) (qm (.tup [.xi y3.1, .row 1 zab y3.2.1, .xb y3.2.2]) rfl (gq (zas (av := .xi y3.1) rfl rfl (gq (zas (av := .row 1 zab y3.2.1) rfl rfl (gq (zas (av := .xb y3.2.2) rfl rfl (qa (.xi y3.1) rfl (qa (.row 1 zab y3.2.1) rfl (qa (.xb y3.2.2) rfl (zad (zaa (zac (kr (qa (.exact (.slice none 0 0)) rfl (zad (zaa ?_))))))))))))))))))
  refine k_join1_1 h (fun (x11_j4 : List (List UInt8)) (v11_j4 : Value) => (pt AF0 11 (.exact v11_j4))) (fun (x11_j4 : List (List UInt8)) (v11_j4 : Value) => [vecT Tryz.prog 23 1 zab v11_j4 x11_j4]) (fun k4 h => ?_) (fun x11_j4 v11_j4 h => ?_)
  ·refine zac (kr (qm (.row 1 zan y2.1) rfl (gq (zap (by kernel_rfl) rfl (qm (.xi 0) rfl (zad (zaa (zaw (k_loop2_1 (m_dataspace_complete_L2 y2 y3 k4) (m_dataspace_complete_B2 y2 y3 k4) (fun _ _ => rfl) (fun m _ _ => rfl) h (fun (x11_l2 : List (List UInt8)) (x32_l2 : Int) (v11_l2 : Value) => (pt (pt (pt (pt (pt (pt AF0 8 (.xi y3.1)) 9 (.row 1 zab y3.2.1)) 11 (.exact v11_l2)) 30 (.row 1 zan y2.1)) 31 (.xi (List.length y2.1 : Int))) 32 (.xi x32_l2))) (fun (x11_l2 : List (List UInt8)) (x32_l2 : Int) (v11_l2 : Value) => [vecT Tryz.prog 23 1 zab v11_l2 x11_l2]) (.slice none 0 0) ?_ (fun rec2 x11_l2 x32_l2 v11_l2 h => ?_))))))))))
   ·refine Sub.trans (SubU.to (SubU.nilT (P := Tryz.prog) (t := 23) (n := 1) (enc := zab))) (so (l4 rfl rfl rfl rfl (lq rfl (lq rfl lt0))))
   ·unfold m_dataspace_complete_B2 at h
    refine zac (kr (gq (op_lss rfl rfl (zad (zaa (zac (kd (p := x32_l2 < (List.length y2.1 : Int)) rfl h (fun hc h => ?_) (fun hc h => ?_))))))))
    ·refine zat (zaa (zac (zaw (zac (kr ?_)))))
     obtain ⟨n31, h⟩ := zah h
     refine gq (zao (by kernel_rfl) rfl rfl n31.1 n31.2 (gq (zav (a := .row 1 zab (gi y2.1 x32_l2)) (by kernel_rfl) rfl rfl (qa (.row 1 zab (gi y2.1 x32_l2)) rfl (zad (zaa (zac (kr (qm (.xi y3.1) rfl (qm (.row 1 zab y3.2.1) rfl (qm (.row 1 zab (gi y2.1 x32_l2)) rfl (gq (op_litT (n := 1) (enc := zan) [y3.2.1, gi y2.1 x32_l2] (CellsAll.cons rfl CellsOf.row (CellsAll.cons rfl CellsOf.row CellsAll.nil)) rfl (by kernel_rfl) (LEss.cons (lc lf ln) (LEss.cons (lc lf ln) LEss.nil)) ?_)))))))))))))
     obtain ⟨y32, hy32, h⟩ := zag h
     refine gq (zal (m_slices_Concat_L_api_Value_api_Value_ok _ _ hy32) Tryz.func87 (by kernel_rfl) (lc lf ln) ?_)
     obtain ⟨y33, hy33, h⟩ := zag h
     refine gq (zal (m_value_Dot_ok _ _ _ hy33) Tryz.func40 (by kernel_rfl) (lc lf (lc lf ln)) (qa (.xs y33) rfl (zad (zaa (zac (zac (kr (qm (.xs y33) rfl (gq (op_eqlS rfl rfl (zad (zaa (kd (p := y33 = ([] : List UInt8)) rfl h (fun hc h => ?_) (fun hc h => ?_))))))))))))))
     ·refine zac (kr (qa (.exact (.slice none 0 0)) rfl (qa (.xi 9) rfl (zad (zaa (zax (zba (zbb (zba (zbj (zbb (zbj ?_))))))))))))
      obtain rfl := oi h
      refine ke (pt (pt AF0 4 (.row 1 zab [])) 5 (.xi 9)) [] rfl (Sub.trans (SubU.to SubU.drop) (so (lq rfl (AF.le_put (row_nil (by decide)) lt0)))) ⟨rfl, rfl⟩
     ·refine zat (zaa (kr (qm (.exact v11_l2) rfl (qm (.xs y33) rfl (gq (op_litT (n := 1) (enc := zab) [y33] (CellsAll.cons rfl CellsOf.str CellsAll.nil) rfl (by kernel_rfl) (LEss.cons (lc lf ln) LEss.nil) ?_))))))
      obtain ⟨n34, h⟩ := zah h
      refine G_l rfl (op_appT (by kernel_rfl) rfl rfl zbe n34 (fun v35 => qa (.exact v35) rfl (zad (zaz (zaa (kr (gq (op_add rfl rfl rfl (qm (.xi (i64 (x32_l2 + 1))) rfl (zad (zae ⟨_, _, v35, h, so (l4 rfl rfl rfl rfl (lq rfl (lq rfl lt0)))⟩)))))))))))
    ·refine k_exit (kC_exit (kI_exit (kB_exit (zae ⟨_, v11_l2, h, s1 rfl⟩))))
  ·refine zac (kr (qm (.exact v11_j4) rfl (qa (.exact v11_j4) rfl (qa (.xi 0) rfl (zad (zaa (zax ?_)))))))
   obtain rfl := oi h
   refine ke (pt (pt AF0 4 (.row 1 zab x11_j4)) 5 (.xi 0)) [] rfl (Sub.trans (SubU.to (SubU.freezeT (s := 4) rfl zay)) (s2 rfl rfl)) ⟨rfl, rfl⟩
theorem m_dataspace_Events_ok (a0 : List ((List UInt8) × Int × (List Int) × (List (List UInt8)))) (r : (List (List UInt8)) × Int) (h : m_dataspace_Events a0 = some r) : Pure Tryz.prog 11 [(.row 4 zaf a0)] (.tup [.row 1 zab r.1, .exact (.int .i64 r.2)]) := by
 unfold m_dataspace_Events at h
 refine Pure.ofFun (zar Tryz.func11 rfl Tryz.ntmps11 (by simp) rfl (res2 rfl) fun E hE => k_end (zac (kr (qa (.exact (.slice none 0 0)) rfl (qa (.xi 0) rfl (zad (zaa (zac (zac (kr (qm (.row 4 zaf a0) rfl ?_)))))))))))
 obtain ⟨y1, hy1, h⟩ := zag h
 refine gq (zal (m_dataspace_Valid_ok _ _ hy1) Tryz.func30 (by kernel_rfl) (lc lf ln) (gq (op_not rfl (zad (zaa (kb (p := !y1) rfl h (fun hc h => ?_) (fun hc h => ?_)))))))
 ·refine zac (kr (qa (.exact (.slice none 0 0)) rfl (qa (.xi 1) rfl (zad (zaa (zax (zba ?_)))))))
  obtain rfl := oi h
  refine ke (pt (pt AF0 2 (.row 1 zab [])) 3 (.xi 1)) [] rfl (so (lq rfl (AF.le_put (row_nil (by decide)) lt0))) ⟨rfl, rfl⟩
 ·refine zat (zaa (k_join0_0 h ((pt AF0 0 (.row 4 zaf a0))) ([]) (fun k2 h => ?_) (fun  h => ?_)))
  ·refine zac (kr (qm (.row 4 zaf a0) rfl (gq (zap (by kernel_rfl) rfl (qm (.xi 0) rfl (zad (zaa (zaw (k_loop1_0 (m_dataspace_Events_L2 a0 k2) (m_dataspace_Events_B2 a0 k2) (fun _ => rfl) (fun m _ => rfl) h (fun (x16_l2 : Int) => (pt (pt (pt (pt AF0 0 (.row 4 zaf a0)) 14 (.row 4 zaf a0)) 15 (.xi (List.length a0 : Int))) 16 (.xi x16_l2))) (fun (x16_l2 : Int) => []) ?_ (fun rec2 x16_l2 h => ?_))))))))))
   ·exact s4 rfl rfl rfl rfl
   ·unfold m_dataspace_Events_B2 at h
    refine zac (kr (gq (op_lss rfl rfl (zad (zaa (zac (kd (p := x16_l2 < (List.length a0 : Int)) rfl h (fun hc h => ?_) (fun hc h => ?_))))))))
    ·refine zat (zaa (zac (zaw (zac (kr (qm (.xi x16_l2) rfl ?_))))))
     obtain ⟨n87, h⟩ := zah h
     refine gq (zao (by kernel_rfl) rfl rfl n87.1 n87.2 (gq (op_loadNp (m := 4) (c' := zaf (gi a0 x16_l2)) (by kernel_rfl) rfl rfl rfl (G_l rfl (op_alloc (c := [.xs ((([], 0, [], []) : (List UInt8) × Int × (List Int) × (List (List UInt8))).1), .xi ((([], 0, [], []) : (List UInt8) × Int × (List Int) × (List (List UInt8))).2.1), .row 1 c_int ((([], 0, [], []) : (List UInt8) × Int × (List Int) × (List (List UInt8))).2.2.1), .row 1 zab ((([], 0, [], []) : (List UInt8) × Int × (List Int) × (List (List UInt8))).2.2.2)]) rfl (lc lf (lc lf (lc (row_nil (by decide)) (lc (row_nil (by decide)) ln)))) (fun b88 => qa (.xi x16_l2) rfl (G_l rfl (op_store_box (c' := [.xs ((gi a0 x16_l2).1), .xi ((gi a0 x16_l2).2.1), .row 1 c_int ((gi a0 x16_l2).2.2.1), .row 1 zab ((gi a0 x16_l2).2.2.2)]) (c3 := [.xs ((gi a0 x16_l2).1), .xi ((gi a0 x16_l2).2.1), .row 1 c_int ((gi a0 x16_l2).2.2.1), .row 1 zab ((gi a0 x16_l2).2.2.2)]) rfl rfl CellsOf.agg (lc lf (lc lf (lc lf (lc lf ln)))) (oc_c_api_Info _) (by kernel_rfl) (Nat.le_of_ble_eq_true rfl) rfl (zad (zaa (zbc h (fun (x29_j89 : Bool) => (pt (pt (pt (pt (pt AF0 0 (.row 4 zaf a0)) 14 (.row 4 zaf a0)) 15 (.xi (List.length a0 : Int))) 16 (.xi x16_l2)) 29 (.xb x29_j89))) (fun (x29_j89 : Bool) => []) (fun k89 h => ?_) (fun x29_j89 h => ?_))))))))))))
     ·refine kr (gq (op_fieldAddr (o := 1) (by kernel_rfl) rfl (G_r rfl (op_load_box1 (a := .xi ((gi a0 x16_l2).2.1)) (by kernel_rfl) rfl rfl (gq (op_eql rfl rfl (qm (.xb (decide (((gi a0 x16_l2).2.1) = (-1)))) rfl (G_split (p := ((gi a0 x16_l2).2.1) = (-1)) 24 rfl (fun hc => ?_) (fun hc => ?_)))))))))
      ·replace h := ite_t h hc
       refine Gy_q rfl rfl rfl (zam (av := .row 4 zaf a0) rfl (Gy_q rfl rfl rfl (zam (av := .xi x16_l2) rfl ?_)))
       obtain ⟨y92, hy92, h⟩ := zag h
       refine Gy_q rfl rfl rfl (zal (m_value_Dot_ok _ _ _ hy92) Tryz.func40 (by kernel_rfl) (lc lf (lc (row_nil (by decide)) ln)) ?_)
       obtain ⟨y93, hy93, h⟩ := zag h
       refine Gy_q rfl rfl rfl (zal (m_dataspace_unbounded_ok _ _ _ hy93) Tryz.func33 (by kernel_rfl) (lc lf (lc lf ln)) (gq (zau rfl (av := .xb y93) rfl (zad (zae ⟨_, h, ?_⟩)))))
       refine Sub.trans (SubU.to SubU.drop) (so (l4 rfl rfl rfl rfl (lq rfl lt0)))
      ·replace h := ite_f h hc
       refine G_n rfl rfl (G_n rfl rfl (G_n rfl rfl (G_n rfl rfl (gq (zaj rfl (av := .xb false) rfl (zad (zae ⟨_, h, ?_⟩)))))))
       refine Sub.trans (SubU.to SubU.drop) (so (l4 rfl rfl rfl rfl (lq rfl lt0)))
     ·refine kb (p := x29_j89) rfl h (fun hc h => ?_) (fun hc h => ?_)
      ·refine zac (kr (qa (.exact (.slice none 0 0)) rfl (qa (.xi 17) rfl (zad (zaa (zax (zbb (zba (zbj (zbb (zbj ?_)))))))))))
       obtain rfl := oi h
       refine ke (pt (pt AF0 2 (.row 1 zab [])) 3 (.xi 17)) [] rfl (so (lq rfl (AF.le_put (row_nil (by decide)) lt0))) ⟨rfl, rfl⟩
      ·refine zat (zaz (zaa (kr (gq (op_add rfl rfl rfl (qm (.xi (i64 (x16_l2 + 1))) rfl (zad (zae ⟨_, h, s4 rfl rfl rfl rfl⟩))))))))
    ·refine k_exit (kC_exit (kI_exit (kB_exit (zae ⟨h, s1 rfl⟩))))
  ·refine zac (kr (qa (.exact (.slice none 0 0)) rfl (zad (zaa (k_join1_1 h (fun (x6_j94 : List (List UInt8)) (v6_j94 : Value) => (pt AF0 6 (.exact v6_j94))) (fun (x6_j94 : List (List UInt8)) (v6_j94 : Value) => [vecT Tryz.prog 23 1 zab v6_j94 x6_j94]) (fun k94 h => ?_) (fun x6_j94 v6_j94 h => ?_))))))
   ·refine zac (kr (qm (.row 4 zaf a0) rfl (gq (zap (by kernel_rfl) rfl (qm (.xi 0) rfl (zad (zaa (zaw (k_loop2_1 (m_dataspace_Events_L4 a0 k94) (m_dataspace_Events_B4 a0 k94) (fun _ _ => rfl) (fun m _ _ => rfl) h (fun (x6_l4 : List (List UInt8)) (x33_l4 : Int) (v6_l4 : Value) => (pt (pt (pt (pt (pt AF0 0 (.row 4 zaf a0)) 6 (.exact v6_l4)) 31 (.row 4 zaf a0)) 32 (.xi (List.length a0 : Int))) 33 (.xi x33_l4))) (fun (x6_l4 : List (List UInt8)) (x33_l4 : Int) (v6_l4 : Value) => [vecT Tryz.prog 23 1 zab v6_l4 x6_l4]) (.slice none 0 0) ?_ (fun rec4 x6_l4 x33_l4 v6_l4 h => ?_))))))))))
    ·refine Sub.trans (SubU.to (SubU.nilT (P := Tryz.prog) (t := 23) (n := 1) (enc := zab))) (so (l4 rfl rfl rfl rfl (lq rfl lt0)))
    ·unfold m_dataspace_Events_B4 at h
     refine zac (kr (gq (op_lss rfl rfl (zad (zaa (zac (kd (p := x33_l4 < (List.length a0 : Int)) rfl h (fun hc h => ?_) (fun hc h => ?_))))))))
     ·refine zat (zaa (k_join1_1 h (fun (x6_j161 : List (List UInt8)) (v6_j161 : Value) => (pt (pt (pt (pt (pt AF0 0 (.row 4 zaf a0)) 6 (.exact v6_j161)) 31 (.row 4 zaf a0)) 32 (.xi (List.length a0 : Int))) 33 (.xi x33_l4))) (fun (x6_j161 : List (List UInt8)) (v6_j161 : Value) => [vecT Tryz.prog 23 1 zab v6_j161 x6_j161]) (fun k161 h => ?_) (fun x6_j161 v6_j161 h => ?_)))
      ·refine zaw (zac (kr (qm (.xi x33_l4) rfl ?_)))
       obtain ⟨n168, h⟩ := zah h
       refine gq (zao (by kernel_rfl) rfl rfl n168.1 n168.2 (gq (op_loadNp (m := 4) (c' := zaf (gi a0 x33_l4)) (by kernel_rfl) rfl rfl rfl (G_l rfl (op_alloc (c := [.xs ((([], 0, [], []) : (List UInt8) × Int × (List Int) × (List (List UInt8))).1), .xi ((([], 0, [], []) : (List UInt8) × Int × (List Int) × (List (List UInt8))).2.1), .row 1 c_int ((([], 0, [], []) : (List UInt8) × Int × (List Int) × (List (List UInt8))).2.2.1), .row 1 zab ((([], 0, [], []) : (List UInt8) × Int × (List Int) × (List (List UInt8))).2.2.2)]) rfl (lc lf (lc lf (lc (row_nil (by decide)) (lc (row_nil (by decide)) ln)))) (fun b169 => qa (.xi x33_l4) rfl (G_l rfl (op_store_box (c' := [.xs ((gi a0 x33_l4).1), .xi ((gi a0 x33_l4).2.1), .row 1 c_int ((gi a0 x33_l4).2.2.1), .row 1 zab ((gi a0 x33_l4).2.2.2)]) (c3 := [.xs ((gi a0 x33_l4).1), .xi ((gi a0 x33_l4).2.1), .row 1 c_int ((gi a0 x33_l4).2.2.1), .row 1 zab ((gi a0 x33_l4).2.2.2)]) rfl rfl CellsOf.agg (lc lf (lc lf (lc lf (lc lf ln)))) (oc_c_api_Info _) (by kernel_rfl) (Nat.le_of_ble_eq_true rfl) rfl (zad (zaa (zac (zac (kr (gq (op_fieldAddr (o := 1) (by kernel_rfl) rfl (G_r rfl (op_load_box1 (a := .xi ((gi a0 x33_l4).2.1)) (by kernel_rfl) rfl rfl (gq (op_neq rfl rfl (zad (zaa (kd (p := ¬ ((gi a0 x33_l4).2.1) = (-1)) rfl h (fun hc h => ?_) (fun hc h => ?_)))))))))))))))))))))))
       ·refine k_exit (kC_exit (kB_exit (zae ⟨_, v6_l4, h, ?_⟩)))
        refine Sub.trans (SubU.to SubU.drop) (so (l4 rfl rfl rfl rfl (lq rfl lt0)))
       ·refine zat (zaa (zac (kr (qm (.row 4 zaf a0) rfl (qm (.xi x33_l4) rfl ?_)))))
        obtain ⟨y170, hy170, h⟩ := zag h
        refine gq (zal (m_value_Dot_ok _ _ _ hy170) Tryz.func40 (by kernel_rfl) (lc lf (lc (row_nil (by decide)) ln)) ?_)
        obtain ⟨y171, hy171, h⟩ := zag h
        refine gq (zal (m_dataspace_complete_ok _ _ _ hy171) Tryz.func42 (by kernel_rfl) (lc lf (lc lf ln)) (qm (.tup [.row 1 zab y171.1, .xi y171.2]) rfl (gq (zas (av := .row 1 zab y171.1) rfl rfl (gq (zas (av := .xi y171.2) rfl rfl (qa (.row 1 zab y171.1) rfl (qa (.xi y171.2) rfl (zad (zaa (zac (zac (kr (qm (.xi y171.2) rfl (gq (op_neq rfl rfl (zad (zaa (kd (p := ¬ y171.2 = 0) rfl h (fun hc h => ?_) (fun hc h => ?_))))))))))))))))))))
        ·refine zac (kr (qm (.xi y171.2) rfl (qa (.exact (.slice none 0 0)) rfl (qa (.xi y171.2) rfl (zad (zaa (zax (zba (zbb (zbj (zbj (zbb (zbj ?_)))))))))))))
         obtain rfl := oi h
         refine ke (pt (pt AF0 2 (.row 1 zab [])) 3 (.xi y171.2)) [] rfl (Sub.trans (SubU.to SubU.drop) (Sub.trans (SubU.to SubU.drop) (so (lq rfl (AF.le_put (row_nil (by decide)) lt0))))) ⟨rfl, rfl⟩
        ·refine zat (zaa (zac (kr (qm (.exact v6_l4) rfl (qm (.row 1 zab y171.1) rfl ?_)))))
         obtain ⟨n172, h⟩ := zah h
         refine G_l rfl (opB_f1 (op_appT (by kernel_rfl) rfl rfl zbe n172 (fun v173 => qa (.exact v173) rfl (zad (zaa (zac (kr (qm (.exact v173) rfl (G_r rfl (op_len_vec (by kernel_rfl) rfl (gq (op_gtr rfl rfl (zad (zaa (kd (p := 1024 < (List.length (x6_l4 ++ y171.1) : Int)) rfl h (fun hc h => ?_) (fun hc h => ?_))))))))))))))))
         ·refine zac (kr (qa (.exact (.slice none 0 0)) rfl (qa (.xi 9) rfl (zad (zaa (zax (zbb (zbj (zbj (zbb (zbj ?_)))))))))))
          obtain rfl := oi h
          refine ke (pt (pt AF0 2 (.row 1 zab [])) 3 (.xi 9)) [] rfl (Sub.trans (SubU.to SubU.drop) (Sub.trans (SubU.to SubU.drop) (so (lq rfl (AF.le_put (row_nil (by decide)) lt0))))) ⟨rfl, rfl⟩
         ·refine zat (zaz (zae ⟨_, v173, h, ?_⟩))
          refine Sub.trans (SubU.to SubU.f1) (Sub.trans (SubU.to SubU.drop) (so (l4 rfl rfl rfl rfl (lq rfl lt0))))
      ·refine kr (gq (op_add rfl rfl rfl (qm (.xi (i64 (x33_l4 + 1))) rfl (zad (zae ⟨_, _, v6_j161, h, so (l4 rfl rfl rfl rfl (lq rfl lt0))⟩)))))
     ·refine k_exit (kC_exit (kI_exit (kB_exit (zae ⟨_, v6_l4, h, s1 rfl⟩))))
   ·refine zac (kr (qm (.exact v6_j94) rfl ?_))
    obtain ⟨y174, hy174, h⟩ := zag h
    refine G_l rfl (op_fun_1_1_1 (m_slices_Clip_L_api_Value_api_Value_ok _ _ hy174) Tryz.func43 (by kernel_rfl) (lc lf ln) (fun v175 => qa (.exact v175) rfl (qa (.xi 0) rfl (zad (zaa (zax ?_))))))
    obtain rfl := oi h
    refine ke (pt (pt AF0 2 (.row 1 zab y174)) 3 (.xi 0)) [] rfl (Sub.trans (SubU.to (SubU.freezeO (s := 2) rfl zay)) (s2 rfl rfl)) ⟨rfl, rfl⟩
theorem m_dataspace_all_1_ok (a0 : List UInt8) (a1 : List ((List UInt8) × Int × (List Int) × (List (List UInt8)))) (r : Bool) (h : m_dataspace_all_1 a0 a1 = some r) : Pure Tryz.prog 88 [(.exact (.string (bs a0))), (.ptr [.row 4 zaf a1])] (.exact (.bool r)) := by
 unfold m_dataspace_all_1 at h
 refine Pure.ofFun (zar Tryz.func88 rfl Tryz.ntmps88 (by simp) rfl (res1 rfl) fun E hE => k_end (zac (kr (qa (.xb false) rfl (zad (zaa (zac (kr (gq (zav (a := .row 4 zaf a1) (by kernel_rfl) rfl rfl (qm (.xs a0) rfl ?_)))))))))))
 obtain ⟨y1, hy1, h⟩ := zag h
 refine gq (zal (m_dataspace_unbounded_ok _ _ _ hy1) Tryz.func33 (by kernel_rfl) (lc lf (lc lf ln)) (qa (.xb y1) rfl (zad (zaa (zax ?_)))))
 obtain rfl := oi h
 refine ke (pt AF0 3 (.xb y1)) [] rfl (s1 rfl) ⟨rfl, rfl⟩
theorem m_dataspace_set_ok (a0 : List (List UInt8)) (r : (List UInt8) × Int) (h : m_dataspace_set a0 = some r) : Pure Tryz.prog 90 [(.row 1 zab a0)] (.tup [.exact (.string (bs r.1)), .exact (.int .i64 r.2)]) := by
 unfold m_dataspace_set at h
 refine Pure.ofFun (zar Tryz.func90 rfl Tryz.ntmps90 (by simp) rfl (res2 rfl) fun E hE => k_end (zac (kr (qa (.xs ([] : List UInt8)) rfl (qa (.xi 0) rfl (zad (zaa (zac (kr (qm (.row 1 zab a0) rfl ?_))))))))))
 obtain ⟨y1, hy1, h⟩ := zag h
 refine gq (zal (m_value_Sort_fz _ _ hy1) Tryz.func89 (by kernel_rfl) (lc lf ln) (qa (.row 1 zab y1) rfl (zad (zaa (zac (kr (qm (.row 1 zab y1) rfl ?_)))))))
 obtain ⟨y2, hy2, h⟩ := zag h
 refine gq (zal (m_value_Set_ok _ _ hy2) Tryz.func105 (by kernel_rfl) (lc lf ln) (qa (.xs y2) rfl (zad (zaa (zac (zbc h (fun (x15_j5 : Bool) => (pt (pt AF0 4 (.xs y2)) 15 (.xb x15_j5))) (fun (x15_j5 : Bool) => []) (fun k5 h => ?_) (fun x15_j5 h => ?_)))))))
 ·refine kr (qm (.row 1 zab y1) rfl (gq (zap (by kernel_rfl) rfl (gq (op_gtr rfl rfl (qm (.xb (decide (4096 < (List.length y1 : Int)))) rfl (G_split (p := 4096 < (List.length y1 : Int)) 12 rfl (fun hc => ?_) (fun hc => ?_))))))))
  ·replace h := ite_t h hc
   refine G_n rfl rfl (G_n rfl rfl (gq (zau rfl (av := .xb true) rfl (zad (zae ⟨_, h, s2 rfl rfl⟩)))))
  ·replace h := ite_f h hc
   refine Gy_q rfl rfl rfl (zam (av := .xs y2) rfl (Gy_q rfl rfl rfl (op_eqlS rfl rfl (gq (zaj rfl (av := .xb (decide (y2 = ([] : List UInt8)))) rfl (zad (zae ⟨_, h, s2 rfl rfl⟩)))))))
 ·refine kb (p := x15_j5) rfl h (fun hc h => ?_) (fun hc h => ?_)
  ·refine zac (kr (qa (.xs ([] : List UInt8)) rfl (qa (.xi 9) rfl (zad (zaa (zax (zba ?_)))))))
   obtain rfl := oi h
   refine ke (pt (pt AF0 2 (.xs ([] : List UInt8))) 3 (.xi 9)) [] rfl (s2 rfl rfl) ⟨rfl, rfl⟩
  ·refine zat (zaa (zac (kr (qm (.xs y2) rfl (qa (.xs y2) rfl (qa (.xi 0) rfl (zad (zaa (zax ?_)))))))))
   obtain rfl := oi h
   refine ke (pt (pt AF0 2 (.xs y2)) 3 (.xi 0)) [] rfl (s2 rfl rfl) ⟨rfl, rfl⟩
theorem m_dataspace_all_ok (a0 : List ((List UInt8) × Int × (List Int) × (List (List UInt8)))) (a1 : List (List UInt8)) (r : (List UInt8) × Int) (h : m_dataspace_all a0 a1 = some r) : Pure Tryz.prog 44 [(.row 4 zaf a0), (.row 1 zab a1)] (.tup [.exact (.string (bs r.1)), .exact (.int .i64 r.2)]) := by
 unfold m_dataspace_all at h
 refine Pure.ofFun (zar Tryz.func44 rfl Tryz.ntmps44 (by simp) rfl (res2 rfl) fun E hE => k_end (zac (kr (G_l rfl (op_boxI (c := [.row 4 zaf a0]) rfl CellsOf.row (lc lf ln) (fun b1 => qa (.xs ([] : List UInt8)) rfl (qa (.xi 0) rfl (zad (zaa (zac (zac (kr (qm (.row 1 zab a1) rfl (G_sub rfl (SubU.freezeBox (s := 2) rfl) (gq (op_makeFunc (args := (fun (i : (List UInt8)) => [.xs i])) (f := (fun (i : (List UInt8)) => (fun (x0 : List UInt8) => m_dataspace_all_1 x0 a0) i)) (res := (fun (r : Bool) => .xb r)) Tryz.func88 (by kernel_rfl) [.ptr [.row 4 zaf a0]] (lc lf ln) (fun i r h => m_dataspace_all_1_ok i a0 r h) ?_))))))))))))))))
 obtain ⟨y2, hy2, h⟩ := zag h
 refine gq (zal (m_slices_ContainsFunc_L_api_Value_api_Value_ok _ _ _ hy2) Tryz.func47 (by kernel_rfl) (lc lf (lc lf ln)) (zad (zaa (kb (p := y2) rfl h (fun hc h => ?_) (fun hc h => ?_)))))
 ·refine zac (kr (qa (.xs ([] : List UInt8)) rfl (qa (.xi 17) rfl (zad (zaa (zax (zba ?_)))))))
  obtain rfl := oi h
  refine ke (pt (pt AF0 4 (.xs ([] : List UInt8))) 5 (.xi 17)) [] rfl (s2 rfl rfl) ⟨rfl, rfl⟩
 ·refine zat (zaa (zac (kr (qa (.exact (.slice none 0 0)) rfl (zad (zaa (k_join1_1 h (fun (x6_j3 : List (List UInt8)) (v6_j3 : Value) => (pt AF0 6 (.exact v6_j3))) (fun (x6_j3 : List (List UInt8)) (v6_j3 : Value) => [vecO Tryz.prog 23 1 zab v6_j3 x6_j3]) (fun k3 h => ?_) (fun x6_j3 v6_j3 h => ?_))))))))
  ·refine zac (kr (qm (.row 1 zab a1) rfl (gq (zap (by kernel_rfl) rfl (qm (.xi 0) rfl (zad (zaa (zaw (k_loop2_1 (m_dataspace_all_L2 a0 a1 k3) (m_dataspace_all_B2 a0 a1 k3) (fun _ _ => rfl) (fun m _ _ => rfl) h (fun (x6_l2 : List (List UInt8)) (x16_l2 : Int) (v6_l2 : Value) => (pt (pt (pt (pt (pt AF0 2 (.ptr [.row 4 zaf a0])) 6 (.exact v6_l2)) 14 (.row 1 zab a1)) 15 (.xi (List.length a1 : Int))) 16 (.xi x16_l2))) (fun (x6_l2 : List (List UInt8)) (x16_l2 : Int) (v6_l2 : Value) => [vecO Tryz.prog 23 1 zab v6_l2 x6_l2]) (.slice none 0 0) ?_ (fun rec2 x6_l2 x16_l2 v6_l2 h => ?_))))))))))
   ·refine Sub.trans (SubU.to (SubU.nilT (P := Tryz.prog) (t := 23) (n := 1) (enc := zab))) (Sub.trans (SubU.to SubU.toO) (so (l4 rfl rfl rfl rfl (lq rfl lt0))))
   ·unfold m_dataspace_all_B2 at h
    refine zac (kr (gq (op_lss rfl rfl (zad (zaa (zac (kd (p := x16_l2 < (List.length a1 : Int)) rfl h (fun hc h => ?_) (fun hc h => ?_))))))))
    ·refine zat (zaa (zac (zaw (zac (kr ?_)))))
     obtain ⟨n35, h⟩ := zah h
     refine gq (zao (by kernel_rfl) rfl rfl n35.1 n35.2 (gq (zav (a := .xs (gi a1 x16_l2)) (by kernel_rfl) rfl rfl (qa (.xs (gi a1 x16_l2)) rfl (zad (zaa (zac (kr (gq (zav (a := .row 4 zaf a0) (by kernel_rfl) rfl rfl (qm (.xs (gi a1 x16_l2)) rfl ?_)))))))))))
     obtain ⟨y36, hy36, h⟩ := zag h
     refine gq (zal (m_dataspace_complete_ok _ _ _ hy36) Tryz.func42 (by kernel_rfl) (lc lf (lc lf ln)) (qm (.tup [.row 1 zab y36.1, .xi y36.2]) rfl (gq (zas (av := .row 1 zab y36.1) rfl rfl (gq (zas (av := .xi y36.2) rfl rfl (qa (.row 1 zab y36.1) rfl (qa (.xi y36.2) rfl (zad (zaa (zac (zac (kr (qm (.xi y36.2) rfl (gq (op_neq rfl rfl (zad (zaa (kd (p := ¬ y36.2 = 0) rfl h (fun hc h => ?_) (fun hc h => ?_))))))))))))))))))))
     ·refine zac (kr (qm (.xi y36.2) rfl (qa (.xs ([] : List UInt8)) rfl (qa (.xi y36.2) rfl (zad (zaa (zax (zba (zbb (zba (zbj (zbb (zbj ?_)))))))))))))
      obtain rfl := oi h
      refine ke (pt (pt AF0 4 (.xs ([] : List UInt8))) 5 (.xi y36.2)) [] rfl (Sub.trans (SubU.to SubU.drop) (s2 rfl rfl)) ⟨rfl, rfl⟩
     ·refine zat (zaa (zac (kr (qm (.exact v6_l2) rfl (qm (.row 1 zab y36.1) rfl ?_)))))
      obtain ⟨n37, h⟩ := zah h
      refine G_l rfl (op_appO (by kernel_rfl) rfl rfl zbe n37 (fun v38 => G_sub rfl (SubU.freezeO (s := 31) rfl zay) ?_))
      obtain ⟨y39, hy39, h⟩ := zag h
      refine G_l rfl (op_fun_0_1_1 (m_value_Sort_ok _ _ hy39) Tryz.func89 (by kernel_rfl) (lc lf ln) (fun v40 => qa (.exact v40) rfl (zad (zaa (zac (kr (qm (.exact v40) rfl (G_r rfl (op_len_O (by kernel_rfl) rfl (gq (op_gtr rfl rfl (zad (zaa (kd (p := 4096 < (List.length y39 : Int)) rfl h (fun hc h => ?_) (fun hc h => ?_)))))))))))))))
      ·refine zac (kr (qa (.xs ([] : List UInt8)) rfl (qa (.xi 9) rfl (zad (zaa (zax (zbb (zba (zbj (zbb (zbj ?_)))))))))))
       obtain rfl := oi h
       refine ke (pt (pt AF0 4 (.xs ([] : List UInt8))) 5 (.xi 9)) [] rfl (Sub.trans (SubU.to SubU.drop) (s2 rfl rfl)) ⟨rfl, rfl⟩
      ·refine zat (zaz (zaa (kr (gq (op_add rfl rfl rfl (qm (.xi (i64 (x16_l2 + 1))) rfl (zad (zae ⟨_, _, v40, h, so (l4 rfl rfl rfl rfl (lq rfl lt0))⟩))))))))
    ·refine k_exit (kC_exit (kI_exit (kB_exit (zae ⟨_, v6_l2, h, s1 rfl⟩))))
  ·refine zac (kr (qm (.exact v6_j3) rfl (G_sub rfl (SubU.freezeO (s := 37) rfl zay) ?_)))
   obtain ⟨y41, hy41, h⟩ := zag h
   refine gq (zal (m_dataspace_set_ok _ _ hy41) Tryz.func90 (by kernel_rfl) (lc lf ln) (gq (zas (av := .xs y41.1) rfl rfl (gq (zas (av := .xi y41.2) rfl rfl (qa (.xs y41.1) rfl (qa (.xi y41.2) rfl (zad (zaa (zax ?_))))))))))
   obtain rfl := oi h
   refine ke (pt (pt AF0 4 (.xs y41.1)) 5 (.xi y41.2)) [] rfl (s2 rfl rfl) ⟨rfl, rfl⟩
theorem m_dataspace_Values_ok (a0 : List ((List UInt8) × Int × (List Int) × (List (List UInt8)))) (a1 : Int) (r : (List UInt8) × Int) (h : m_dataspace_Values a0 a1 = some r) : Pure Tryz.prog 12 [(.row 4 zaf a0), (.exact (.int .i64 a1))] (.tup [.exact (.string (bs r.1)), .exact (.int .i64 r.2)]) := by
 unfold m_dataspace_Values at h
 refine Pure.ofFun (zar Tryz.func12 rfl Tryz.ntmps12 (by simp) rfl (res2 rfl) fun E hE => k_end (zac (kr (qa (.xs ([] : List UInt8)) rfl (qa (.xi 0) rfl (zad (zaa (zac (zac (kr (qm (.row 4 zaf a0) rfl ?_)))))))))))
 obtain ⟨y1, hy1, h⟩ := zag h
 refine gq (zal (m_dataspace_Valid_ok _ _ hy1) Tryz.func30 (by kernel_rfl) (lc lf ln) (gq (op_not rfl (zad (zaa (kb (p := !y1) rfl h (fun hc h => ?_) (fun hc h => ?_)))))))
 ·refine zac (kr (qa (.xs ([] : List UInt8)) rfl (qa (.xi 1) rfl (zad (zaa (zax (zba ?_)))))))
  obtain rfl := oi h
  refine ke (pt (pt AF0 4 (.xs ([] : List UInt8))) 5 (.xi 1)) [] rfl (s2 rfl rfl) ⟨rfl, rfl⟩
 ·refine zat (zaa (zac (kr (qa (.exact (.slice none 0 0)) rfl (zad (zaa (k_join1_1 h (fun (x6_j2 : List (List UInt8)) (v6_j2 : Value) => (pt (pt AF0 0 (.row 4 zaf a0)) 6 (.exact v6_j2))) (fun (x6_j2 : List (List UInt8)) (v6_j2 : Value) => [vecT Tryz.prog 23 1 zab v6_j2 x6_j2]) (fun k2 h => ?_) (fun x6_j2 v6_j2 h => ?_))))))))
  ·refine zac (kr (qm (.row 4 zaf a0) rfl (gq (zap (by kernel_rfl) rfl (qm (.xi 0) rfl (zad (zaa (zaw (k_loop2_1 (m_dataspace_Values_L2 a0 a1 k2) (m_dataspace_Values_B2 a0 a1 k2) (fun _ _ => rfl) (fun m _ _ => rfl) h (fun (x6_l2 : List (List UInt8)) (x14_l2 : Int) (v6_l2 : Value) => (pt (pt (pt (pt (pt (pt AF0 0 (.row 4 zaf a0)) 1 (.xi a1)) 6 (.exact v6_l2)) 12 (.row 4 zaf a0)) 13 (.xi (List.length a0 : Int))) 14 (.xi x14_l2))) (fun (x6_l2 : List (List UInt8)) (x14_l2 : Int) (v6_l2 : Value) => [vecT Tryz.prog 23 1 zab v6_l2 x6_l2]) (.slice none 0 0) ?_ (fun rec2 x6_l2 x14_l2 v6_l2 h => ?_))))))))))
   ·refine Sub.trans (SubU.to (SubU.nilT (P := Tryz.prog) (t := 23) (n := 1) (enc := zab))) (so (l4 rfl rfl rfl rfl (lq rfl (lq rfl lt0))))
   ·unfold m_dataspace_Values_B2 at h
    refine zac (kr (gq (op_lss rfl rfl (zad (zaa (zac (kd (p := x14_l2 < (List.length a0 : Int)) rfl h (fun hc h => ?_) (fun hc h => ?_))))))))
    ·refine zat (zaa (k_join1_1 h (fun (x6_j69 : List (List UInt8)) (v6_j69 : Value) => (pt (pt (pt (pt (pt (pt AF0 0 (.row 4 zaf a0)) 1 (.xi a1)) 6 (.exact v6_j69)) 12 (.row 4 zaf a0)) 13 (.xi (List.length a0 : Int))) 14 (.xi x14_l2))) (fun (x6_j69 : List (List UInt8)) (v6_j69 : Value) => [vecT Tryz.prog 23 1 zab v6_j69 x6_j69]) (fun k69 h => ?_) (fun x6_j69 v6_j69 h => ?_)))
     ·refine zaw (zac (kr (qm (.xi x14_l2) rfl ?_)))
      obtain ⟨n76, h⟩ := zah h
      refine gq (zao (by kernel_rfl) rfl rfl n76.1 n76.2 (gq (op_loadNp (m := 4) (c' := zaf (gi a0 x14_l2)) (by kernel_rfl) rfl rfl rfl (G_l rfl (op_alloc (c := [.xs ((([], 0, [], []) : (List UInt8) × Int × (List Int) × (List (List UInt8))).1), .xi ((([], 0, [], []) : (List UInt8) × Int × (List Int) × (List (List UInt8))).2.1), .row 1 c_int ((([], 0, [], []) : (List UInt8) × Int × (List Int) × (List (List UInt8))).2.2.1), .row 1 zab ((([], 0, [], []) : (List UInt8) × Int × (List Int) × (List (List UInt8))).2.2.2)]) rfl (lc lf (lc lf (lc (row_nil (by decide)) (lc (row_nil (by decide)) ln)))) (fun b77 => qa (.xi x14_l2) rfl (G_l rfl (op_store_box (c' := [.xs ((gi a0 x14_l2).1), .xi ((gi a0 x14_l2).2.1), .row 1 c_int ((gi a0 x14_l2).2.2.1), .row 1 zab ((gi a0 x14_l2).2.2.2)]) (c3 := [.xs ((gi a0 x14_l2).1), .xi ((gi a0 x14_l2).2.1), .row 1 c_int ((gi a0 x14_l2).2.2.1), .row 1 zab ((gi a0 x14_l2).2.2.2)]) rfl rfl CellsOf.agg (lc lf (lc lf (lc lf (lc lf ln)))) (oc_c_api_Info _) (by kernel_rfl) (Nat.le_of_ble_eq_true rfl) rfl (zad (zaa (zbc h (fun (x26_j78 : Bool) => (pt (pt (pt (pt (pt (pt (pt (pt AF0 0 (.row 4 zaf a0)) 1 (.xi a1)) 6 (.exact v6_l2)) 7 (.xi x14_l2)) 12 (.row 4 zaf a0)) 13 (.xi (List.length a0 : Int))) 14 (.xi x14_l2)) 26 (.xb x26_j78))) (fun (x26_j78 : Bool) => [vecT Tryz.prog 23 1 zab v6_l2 x6_l2]) (fun k78 h => ?_) (fun x26_j78 h => ?_))))))))))))
      ·refine kr (gq (op_fieldAddr (o := 1) (by kernel_rfl) rfl (G_r rfl (op_load_box1 (a := .xi ((gi a0 x14_l2).2.1)) (by kernel_rfl) rfl rfl (qm (.xi a1) rfl (gq (op_eql rfl rfl (qm (.xb (decide (((gi a0 x14_l2).2.1) = a1))) rfl (G_split (p := ((gi a0 x14_l2).2.1) = a1) 23 rfl (fun hc => ?_) (fun hc => ?_))))))))))
       ·replace h := ite_t h hc
        refine Gy_q rfl rfl rfl (zam (av := .xi a1) rfl (Gy_q rfl rfl rfl (op_geq rfl rfl (gq (zau rfl (av := .xb (decide (0 ≤ a1))) rfl (zad (zae ⟨_, h, ?_⟩)))))))
        refine Sub.trans (SubU.to SubU.drop) (so (l4 rfl rfl rfl rfl (l4 rfl rfl rfl rfl lt0)))
       ·replace h := ite_f h hc
        refine G_n rfl rfl (G_n rfl rfl (gq (zaj rfl (av := .xb false) rfl (zad (zae ⟨_, h, ?_⟩)))))
        refine Sub.trans (SubU.to SubU.drop) (so (l4 rfl rfl rfl rfl (l4 rfl rfl rfl rfl lt0)))
      ·refine kb (p := x26_j78) rfl h (fun hc h => ?_) (fun hc h => ?_)
       ·refine kr (qm (.exact v6_l2) rfl (qm (.xi x14_l2) rfl ?_))
        obtain ⟨y79, hy79, h⟩ := zag h
        refine gq (zal (m_value_Dot_ok _ _ _ hy79) Tryz.func40 (by kernel_rfl) (lc lf (lc (row_nil (by decide)) ln)) (gq (op_litT (n := 1) (enc := zab) [y79] (CellsAll.cons rfl CellsOf.str CellsAll.nil) rfl (by kernel_rfl) (LEss.cons (lc lf ln) LEss.nil) ?_)))
        obtain ⟨n80, h⟩ := zah h
        refine G_l rfl (op_appT (by kernel_rfl) rfl rfl zbe n80 (fun v81 => qa (.exact v81) rfl (zad (zaz (zae ⟨_, v81, h, so (l4 rfl rfl rfl rfl (lq rfl (lq rfl lt0)))⟩)))))
       ·refine zat (zaz (zae ⟨_, v6_l2, h, so (l4 rfl rfl rfl rfl (lq rfl (lq rfl lt0)))⟩))
     ·refine kr (gq (op_add rfl rfl rfl (qm (.xi (i64 (x14_l2 + 1))) rfl (zad (zae ⟨_, _, v6_j69, h, so (l4 rfl rfl rfl rfl (lq rfl (lq rfl lt0)))⟩)))))
    ·refine k_exit (kC_exit (kI_exit (kB_exit (zae ⟨_, v6_l2, h, s2 rfl rfl⟩))))
  ·refine zac (kr (qm (.row 4 zaf a0) rfl (qm (.exact v6_j2) rfl (G_sub rfl (SubU.freezeT2 (s1 := 6) (s2 := 34) rfl rfl zay) ?_))))
   obtain ⟨y82, hy82, h⟩ := zag h
   refine gq (zal (m_dataspace_all_ok _ _ _ hy82) Tryz.func44 (by kernel_rfl) (lc lf (lc lf ln)) (gq (zas (av := .xs y82.1) rfl rfl (gq (zas (av := .xi y82.2) rfl rfl (qa (.xs y82.1) rfl (qa (.xi y82.2) rfl (zad (zaa (zax ?_))))))))))
   obtain rfl := oi h
   refine ke (pt (pt AF0 4 (.xs y82.1)) 5 (.xi y82.2)) [] rfl (s2 rfl rfl) ⟨rfl, rfl⟩
end Go.Proofs.YtjlbdhicabgliaaGreat
/- The functions compute their models, by program. -/
namespace Go.Proofs.YtjlbdhicabgliaaGreat
open Go.RowKit
attribute [local irreducible] AV.exact AV.top AV.row AV.ptr AV.agg AV.tup AV.eptr AV.fn AV.nilq AV.nilqn opA opB opM opR Quiet Loud Reads wpG awp den Sub SubU Pure Fun vecI vecT boxI CellsAll CellsOf OneC LEs LEss
set_option maxRecDepth 100000

set_option maxHeartbeats 4000000
theorem m_ref9_bounded_ok (a0 : List (List UInt8)) (r : (List UInt8) × Int) (h : m_ref9_bounded a0 = some r) : Pure Tryz.prog 91 [(.row 1 zab a0)] (.tup [.exact (.string (bs r.1)), .exact (.int .i64 r.2)]) := by
 unfold m_ref9_bounded at h
 refine Pure.ofFun (zar Tryz.func91 rfl Tryz.ntmps91 (by simp) rfl (res2 rfl) fun E hE => k_end (zac (kr (qa (.xs ([] : List UInt8)) rfl (qa (.xi 0) rfl (zad (zaa (zac (kr (qm (.row 1 zab a0) rfl ?_))))))))))
 obtain ⟨y1, hy1, h⟩ := zag h
 refine gq (zal (m_ref9_Sort_ok _ _ hy1) Tryz.func26 (by kernel_rfl) (lc lf ln) (qa (.row 1 zab y1) rfl (zad (zaa (zac (zac (kr (qm (.row 1 zab y1) rfl (gq (zap (by kernel_rfl) rfl (gq (op_gtr rfl rfl (zad (zaa (kd (p := 4096 < (List.length y1 : Int)) rfl h (fun hc h => ?_) (fun hc h => ?_))))))))))))))))
 ·refine zac (kr (qa (.xs ([] : List UInt8)) rfl (qa (.xi 9) rfl (zad (zaa (zax (zba ?_)))))))
  obtain rfl := oi h
  refine ke (pt (pt AF0 2 (.xs ([] : List UInt8))) 3 (.xi 9)) [] rfl (s2 rfl rfl) ⟨rfl, rfl⟩
 ·refine zat (zaa (zac (kr (qm (.row 1 zab y1) rfl ?_))))
  obtain ⟨y2, hy2, h⟩ := zag h
  refine gq (zal (m_ref9_Set_ok _ _ hy2) Tryz.func6 (by kernel_rfl) (lc lf ln) (qa (.xs y2) rfl (zad (zaa (zac (zac (kr (qm (.xs y2) rfl (gq (op_eqlS rfl rfl (zad (zaa (kd (p := y2 = ([] : List UInt8)) rfl h (fun hc h => ?_) (fun hc h => ?_))))))))))))))
  ·refine zac (kr (qa (.xs ([] : List UInt8)) rfl (qa (.xi 9) rfl (zad (zaa (zax (zba ?_)))))))
   obtain rfl := oi h
   refine ke (pt (pt AF0 2 (.xs ([] : List UInt8))) 3 (.xi 9)) [] rfl (s2 rfl rfl) ⟨rfl, rfl⟩
  ·refine zat (zaa (zac (kr (qm (.xs y2) rfl (qa (.xs y2) rfl (qa (.xi 0) rfl (zad (zaa (zax ?_)))))))))
   obtain rfl := oi h
   refine ke (pt (pt AF0 2 (.xs y2)) 3 (.xi 0)) [] rfl (s2 rfl rfl) ⟨rfl, rfl⟩
theorem m_ref9_Range_ok (a0 : Int) (a1 : Int) (r : (List UInt8) × Int) (h : m_ref9_Range a0 a1 = some r) : Pure Tryz.prog 45 [(.exact (.int .i64 a0)), (.exact (.int .i64 a1))] (.tup [.exact (.string (bs r.1)), .exact (.int .i64 r.2)]) := by
 unfold m_ref9_Range at h
 refine Pure.ofFun (zar Tryz.func45 rfl Tryz.ntmps45 (by simp) rfl (res2 rfl) fun E hE => k_end (zac (kr (qa (.xs ([] : List UInt8)) rfl (qa (.xi 0) rfl (zad (zaa (zac (kr (qa (.exact (.slice none 0 0)) rfl (zad (zaa (k_join1_1 h (fun (x6_j1 : List (List UInt8)) (v6_j1 : Value) => (pt AF0 6 (.exact v6_j1))) (fun (x6_j1 : List (List UInt8)) (v6_j1 : Value) => [vecT Tryz.prog 23 1 zab v6_j1 x6_j1]) (fun k1 h => ?_) (fun x6_j1 v6_j1 h => ?_))))))))))))))
 ·refine zac (kr (qm (.xi a0) rfl (qa (.xi a0) rfl (zad (zaa (zaw (k_loop2_1 (m_ref9_Range_L2 a1 k1) (m_ref9_Range_B2 a1 k1) (fun _ _ => rfl) (fun m _ _ => rfl) h (fun (x6_l2 : List (List UInt8)) (x7_l2 : Int) (v6_l2 : Value) => (pt (pt (pt AF0 1 (.xi a1)) 6 (.exact v6_l2)) 7 (.xi x7_l2))) (fun (x6_l2 : List (List UInt8)) (x7_l2 : Int) (v6_l2 : Value) => [vecT Tryz.prog 23 1 zab v6_l2 x6_l2]) (.slice none 0 0) ?_ (fun rec2 x6_l2 x7_l2 v6_l2 h => ?_))))))))
  ·refine Sub.trans (SubU.to (SubU.nilT (P := Tryz.prog) (t := 23) (n := 1) (enc := zab))) (s3 rfl rfl rfl)
  ·unfold m_ref9_Range_B2 at h
   refine zac (zac (kr (qm (.xi x7_l2) rfl (qm (.xi a1) rfl (gq (op_leq rfl rfl (zad (zaa (kd (p := x7_l2 ≤ a1) rfl h (fun hc h => ?_) (fun hc h => ?_))))))))))
   ·refine zat (zaa (zac (zaw (zac (zac (kr (qm (.exact v6_l2) rfl (G_r rfl (op_len_vec (by kernel_rfl) rfl (gq (op_geq rfl rfl (zad (zaa (kd (p := 4096 ≤ (List.length x6_l2 : Int)) rfl h (fun hc h => ?_) (fun hc h => ?_)))))))))))))))
    ·refine zac (kr (qa (.xs ([] : List UInt8)) rfl (qa (.xi 9) rfl (zad (zaa (zax (zba (zbb (zba (zbj (zbb (zbj ?_))))))))))))
     obtain rfl := oi h
     refine ke (pt (pt AF0 4 (.xs ([] : List UInt8))) 5 (.xi 9)) [] rfl (Sub.trans (SubU.to SubU.drop) (s2 rfl rfl)) ⟨rfl, rfl⟩
    ·refine zat (zaa (zac (kr (qm (.exact v6_l2) rfl (qm (.xi x7_l2) rfl ?_)))))
     obtain ⟨y18, hy18, h⟩ := zag h
     refine gq (zal (m_ref9_Int_ok _ _ hy18) Tryz.func7 (by kernel_rfl) (lc lf ln) (gq (op_litT (n := 1) (enc := zab) [y18] (CellsAll.cons rfl CellsOf.str CellsAll.nil) rfl (by kernel_rfl) (LEss.cons (lc lf ln) LEss.nil) ?_)))
     obtain ⟨n19, h⟩ := zah h
     refine G_l rfl (op_appT (by kernel_rfl) rfl rfl zbe n19 (fun v20 => qa (.exact v20) rfl (zad (zaa (zac (kr (qm (.xi x7_l2) rfl (gq (op_eql rfl rfl (zad (zaa (kd (p := x7_l2 = 9223372036854775807) rfl h (fun hc h => ?_) (fun hc h => ?_)))))))))))))
     ·refine k_exit (kB_pass rfl (kC_exit (kI_exit (kB_exit (zae ⟨_, v20, h, s1 rfl⟩)))))
     ·refine zat (zaz (zaa (kr (qm (.xi x7_l2) rfl (gq (op_add rfl rfl rfl (qa (.xi (i64 (x7_l2 + 1))) rfl (zad (zae ⟨_, _, v20, h, s3 rfl rfl rfl⟩)))))))))
   ·refine k_exit (kC_exit (kI_exit (kB_exit (zae ⟨_, v6_l2, h, s1 rfl⟩))))
 ·refine zac (kr (qm (.exact v6_j1) rfl (G_sub rfl (SubU.freezeT2 (s1 := 6) (s2 := 24) rfl rfl zay) ?_)))
  obtain ⟨y21, hy21, h⟩ := zag h
  refine gq (zal (m_ref9_bounded_ok _ _ hy21) Tryz.func91 (by kernel_rfl) (lc lf ln) (gq (zas (av := .xs y21.1) rfl rfl (gq (zas (av := .xi y21.2) rfl rfl (qa (.xs y21.1) rfl (qa (.xi y21.2) rfl (zad (zaa (zax ?_))))))))))
  obtain rfl := oi h
  refine ke (pt (pt AF0 4 (.xs y21.1)) 5 (.xi y21.2)) [] rfl (s2 rfl rfl) ⟨rfl, rfl⟩
theorem m_dataspace_Complete_ok (a0 : List ((List UInt8) × Int × (List Int) × (List (List UInt8)))) (a1 : List UInt8) (r : Bool) (h : m_dataspace_Complete a0 a1 = some r) : Pure Tryz.prog 19 [(.row 4 zaf a0), (.exact (.string (bs a1)))] (.exact (.bool r)) := by
 unfold m_dataspace_Complete at h
 refine Pure.ofFun (zar Tryz.func19 rfl Tryz.ntmps19 (by simp) rfl (res1 rfl) fun E hE => k_end (zac (kr (qa (.xb false) rfl (zad (zaa (zbc h (fun (x4_j1 : Bool) => (pt AF0 4 (.xb x4_j1))) (fun (x4_j1 : Bool) => []) (fun k1 h => ?_) (fun x4_j1 h => ?_))))))))
 ·refine kr (qm (.row 4 zaf a0) rfl ?_)
  obtain ⟨y5, hy5, h⟩ := zag h
  refine gq (zal (m_dataspace_Valid_ok _ _ hy5) Tryz.func30 (by kernel_rfl) (lc lf ln) (qm (.xb y5) rfl (G_splitB (c := y5) 7 rfl (fun hc => ?_) (fun hc => ?_))))
  ·replace h := ite_t h hc
   refine Gy_q rfl rfl rfl (zam (av := .row 4 zaf a0) rfl (Gy_q rfl rfl rfl (zam (av := .xs a1) rfl ?_)))
   obtain ⟨y6, hy6, h⟩ := zag h
   refine Gy_q rfl rfl rfl (zal (m_dataspace_belongs_ok _ _ _ hy6) Tryz.func32 (by kernel_rfl) (lc lf (lc lf ln)) (gq (zau rfl (av := .xb y6) rfl (qm (.xb y6) rfl (G_splitB (c := y6) 12 rfl (fun hc => ?_) (fun hc => ?_))))))
   ·replace h := ite_t h hc
    refine Gy_q rfl rfl rfl (zam (av := .row 4 zaf a0) rfl (Gy_q rfl rfl rfl (zam (av := .xs a1) rfl ?_)))
    obtain ⟨y7, hy7, h⟩ := zag h
    refine Gy_q rfl rfl rfl (zal (m_dataspace_missing_ok _ _ _ hy7) Tryz.func35 (by kernel_rfl) (lc lf (lc lf ln)) (Gy_q rfl rfl rfl (zap (by kernel_rfl) rfl (Gy_q rfl rfl rfl (op_eql rfl rfl (gq (zau rfl (av := .xb (decide ((List.length y7 : Int) = 0))) rfl (qa (.xb (decide ((List.length y7 : Int) = 0))) rfl (zad (zae ⟨_, h, s1 rfl⟩))))))))))
   ·replace h := ite_f h hc
    refine G_n rfl rfl (G_n rfl rfl (G_n rfl rfl (G_n rfl rfl (G_n rfl rfl (gq (zaj rfl (av := .xb false) rfl (qa (.xb false) rfl (zad (zae ⟨_, h, s1 rfl⟩)))))))))
  ·replace h := ite_f h hc
   refine G_n rfl rfl (G_n rfl rfl (G_n rfl rfl (gq (zaj rfl (av := .xb false) rfl (qm (.xb false) rfl (G_n rfl rfl (G_n rfl rfl (G_n rfl rfl (G_n rfl rfl (G_n rfl rfl (gq (zaj rfl (av := .xb false) rfl (qa (.xb false) rfl (zad (zae ⟨_, h, s1 rfl⟩)))))))))))))))
 ·refine zax ?_
  obtain rfl := oi h
  refine ke (pt AF0 4 (.xb x4_j1)) [] rfl (s1 rfl) ⟨rfl, rfl⟩
theorem m_law11_awake_ok  (r : Bool) (h : m_law11_awake = some r) : Pure Tryz.prog 13 [] (.exact (.bool r)) := by
 unfold m_law11_awake at h
 refine Pure.ofFun (zar Tryz.func13 rfl Tryz.ntmps13 (by simp) rfl (res1 rfl) fun E hE => k_end (zac (kr (qa (.xb false) rfl (zad (zaa (zac (kr ?_))))))))
 obtain ⟨y1, hy1, h⟩ := zag h
 refine gq (zal (m_ref9_Range_ok _ _ _ hy1) Tryz.func45 (by kernel_rfl) (lc lf (lc lf ln)) (qm (.tup [.xs y1.1, .xi y1.2]) rfl (gq (zas (av := .xs y1.1) rfl rfl (gq (zas (av := .xi y1.2) rfl rfl (qa (.xs y1.1) rfl (qa (.xi y1.2) rfl (zad (zaa (zac (kr (qm (.xs y1.1) rfl (qm (.xs y1.1) rfl (gq (op_litT (n := 1) (enc := zab) [y1.1, y1.1] (CellsAll.cons rfl CellsOf.str (CellsAll.cons rfl CellsOf.str CellsAll.nil)) rfl (by kernel_rfl) (LEss.cons (lc lf ln) (LEss.cons (lc lf ln) LEss.nil)) (gq (op_bld (c' := zaf ([99], (-1), [], [y1.1, y1.1])) (CellsAll.cons rfl CellsOf.str (CellsAll.cons rfl CellsOf.int (CellsAll.cons rfl CellsOf.row CellsAll.nil))) rfl (lc lf (lc lf (lc (row_nil (by decide)) (lc lf ln)))) ?_))))))))))))))))))
 refine gq (op_litT (n := 4) (enc := zaf) [([99], (-1), [], [y1.1, y1.1])] (CellsAll.cons rfl CellsOf.agg CellsAll.nil) rfl (by kernel_rfl) (LEss.cons (lc lf (lc lf (lc lf (lc lf ln)))) LEss.nil) (qa (.row 4 zaf ([([99], (-1), [], [y1.1, y1.1])])) rfl (zad (zaa (zac (kr (qm (.row 4 zaf ([([99], (-1), [], [y1.1, y1.1])])) rfl ?_)))))))
 obtain ⟨y2, hy2, h⟩ := zag h
 refine gq (zal (m_dataspace_Events_ok _ _ hy2) Tryz.func11 (by kernel_rfl) (lc lf ln) (qm (.tup [.row 1 zab y2.1, .xi y2.2]) rfl (gq (zas (av := .row 1 zab y2.1) rfl rfl (gq (zas (av := .xi y2.2) rfl rfl (qa (.row 1 zab y2.1) rfl (qa (.xi y2.2) rfl (zad (zaa (zac (kr (qm (.row 4 zaf ([([99], (-1), [], [y1.1, y1.1])])) rfl ?_)))))))))))))
 obtain ⟨y3, hy3, h⟩ := zag h
 refine gq (zal (m_ref9_Dot_ok _ _ _ hy3) Tryz.func8 (by kernel_rfl) (lc lf (lc (row_nil (by decide)) ln)) ?_)
 obtain ⟨y4, hy4, h⟩ := zag h
 refine gq (zal (m_ref9_Int_ok _ _ hy4) Tryz.func7 (by kernel_rfl) (lc lf ln) ?_)
 obtain ⟨y5, hy5, h⟩ := zag h
 refine gq (zal (m_dataspace_Join_ok _ _ _ _ hy5) Tryz.func10 (by kernel_rfl) (lc lf (lc lf (lc lf ln))) (qm (.tup [.xs y5.1, .xi y5.2]) rfl (gq (zas (av := .xs y5.1) rfl rfl (gq (zas (av := .xi y5.2) rfl rfl (qa (.xs y5.1) rfl (qa (.xi y5.2) rfl (zad (zaa (zac (kr (qm (.row 4 zaf ([([99], (-1), [], [y1.1, y1.1])])) rfl ?_)))))))))))))
 obtain ⟨y6, hy6, h⟩ := zag h
 refine gq (zal (m_ref9_Dot_ok _ _ _ hy6) Tryz.func8 (by kernel_rfl) (lc lf (lc (row_nil (by decide)) ln)) ?_)
 obtain ⟨y7, hy7, h⟩ := zag h
 refine gq (zal (m_ref9_Int_ok _ _ hy7) Tryz.func7 (by kernel_rfl) (lc lf ln) ?_)
 obtain ⟨y8, hy8, h⟩ := zag h
 refine gq (zal (m_dataspace_Join_ok _ _ _ _ hy8) Tryz.func10 (by kernel_rfl) (lc lf (lc lf (lc lf ln))) (qm (.tup [.xs y8.1, .xi y8.2]) rfl (gq (zas (av := .xs y8.1) rfl rfl (gq (zas (av := .xi y8.2) rfl rfl (qa (.xs y8.1) rfl (qa (.xi y8.2) rfl (zad (zaa (zbc h (fun (x0_j9 : Bool) => (pt AF0 0 (.xb x0_j9))) (fun (x0_j9 : Bool) => []) (fun k9 h => ?_) (fun x0_j9 h => ?_))))))))))))
 ·refine kr (qm (.row 4 zaf ([([99], (-1), [], [y1.1, y1.1])])) rfl ?_)
  obtain ⟨y14, hy14, h⟩ := zag h
  refine gq (zal (m_dataspace_Valid_ok _ _ hy14) Tryz.func30 (by kernel_rfl) (lc lf ln) (qm (.xb y14) rfl (G_splitB (c := y14) 40 rfl (fun hc => ?_) (fun hc => ?_))))
  ·replace h := ite_t h hc
   refine Gy_q rfl rfl rfl (zam (av := .xi y2.2) rfl (Gy_q rfl rfl rfl (op_eql rfl rfl (gq (zau rfl (av := .xb (decide (y2.2 = 0))) rfl (qm (.xb (decide (y2.2 = 0))) rfl (G_split (p := y2.2 = 0) 44 rfl (fun hc => ?_) (fun hc => ?_))))))))
   ·replace h := ite_t h hc
    refine Gy_q rfl rfl rfl (zam (av := .row 1 zab y2.1) rfl (Gy_q rfl rfl rfl (zap (by kernel_rfl) rfl (Gy_q rfl rfl rfl (op_eql rfl rfl (gq (zau rfl (av := .xb (decide ((List.length y2.1 : Int) = 4))) rfl (qm (.xb (decide ((List.length y2.1 : Int) = 4))) rfl (G_split (p := (List.length y2.1 : Int) = 4) 49 rfl (fun hc => ?_) (fun hc => ?_))))))))))
    ·replace h := ite_t h hc
     refine Gy_q rfl rfl rfl (zam (av := .xi y5.2) rfl (Gy_q rfl rfl rfl (op_eql rfl rfl (gq (zau rfl (av := .xb (decide (y5.2 = 0))) rfl (qm (.xb (decide (y5.2 = 0))) rfl (G_split (p := y5.2 = 0) 53 rfl (fun hc => ?_) (fun hc => ?_))))))))
     ·replace h := ite_t h hc
      refine Gy_q rfl rfl rfl (zam (av := .xs y5.1) rfl ?_)
      obtain ⟨y15, hy15, h⟩ := zag h
      refine Gy_q rfl rfl rfl (zal (m_ref9_Int_ok _ _ hy15) Tryz.func7 (by kernel_rfl) (lc lf ln) (Gy_q rfl rfl rfl (op_litT (n := 1) (enc := zab) [y15] (CellsAll.cons rfl CellsOf.str CellsAll.nil) rfl (by kernel_rfl) (LEss.cons (lc lf ln) LEss.nil) ?_)))
      obtain ⟨y16, hy16, h⟩ := zag h
      refine Gy_q rfl rfl rfl (zal (m_ref9_Dot_ok _ _ _ hy16) Tryz.func8 (by kernel_rfl) (lc lf (lc lf ln)) (Gy_q rfl rfl rfl (op_eqlS rfl rfl (gq (zau rfl (av := .xb (decide (y5.1 = y16))) rfl (qm (.xb (decide (y5.1 = y16))) rfl (G_split (p := y5.1 = y16) 60 rfl (fun hc => ?_) (fun hc => ?_))))))))
      ·replace h := ite_t h hc
       refine Gy_q rfl rfl rfl (zam (av := .xi y8.2) rfl (Gy_q rfl rfl rfl (op_eql rfl rfl (gq (zau rfl (av := .xb (decide (y8.2 = 18))) rfl (qm (.xb (decide (y8.2 = 18))) rfl (G_split (p := y8.2 = 18) 64 rfl (fun hc => ?_) (fun hc => ?_))))))))
       ·replace h := ite_t h hc
        refine Gy_q rfl rfl rfl (zam (av := .row 4 zaf ([([99], (-1), [], [y1.1, y1.1])])) rfl (Gy_q rfl rfl rfl (zam (av := .xs y5.1) rfl ?_)))
        obtain ⟨y17, hy17, h⟩ := zag h
        refine Gy_q rfl rfl rfl (zal (m_dataspace_Complete_ok _ _ _ hy17) Tryz.func19 (by kernel_rfl) (lc lf (lc lf ln)) (Gy_q rfl rfl rfl (op_not rfl (gq (zau rfl (av := .xb (!y17)) rfl (qa (.xb (!y17)) rfl (zad (zae ⟨_, h, s1 rfl⟩))))))))
       ·replace h := ite_f h hc
        refine G_n rfl rfl (G_n rfl rfl (G_n rfl rfl (G_n rfl rfl (gq (zaj rfl (av := .xb false) rfl (qa (.xb false) rfl (zad (zae ⟨_, h, s1 rfl⟩))))))))
      ·replace h := ite_f h hc
       refine G_n rfl rfl (G_n rfl rfl (gq (zaj rfl (av := .xb false) rfl (qm (.xb false) rfl (G_n rfl rfl (G_n rfl rfl (G_n rfl rfl (G_n rfl rfl (gq (zaj rfl (av := .xb false) rfl (qa (.xb false) rfl (zad (zae ⟨_, h, s1 rfl⟩)))))))))))))
     ·replace h := ite_f h hc
      refine G_n rfl rfl (G_n rfl rfl (G_n rfl rfl (G_n rfl rfl (G_n rfl rfl (gq (zaj rfl (av := .xb false) rfl (qm (.xb false) rfl (G_n rfl rfl (G_n rfl rfl (gq (zaj rfl (av := .xb false) rfl (qm (.xb false) rfl (G_n rfl rfl (G_n rfl rfl (G_n rfl rfl (G_n rfl rfl (gq (zaj rfl (av := .xb false) rfl (qa (.xb false) rfl (zad (zae ⟨_, h, s1 rfl⟩)))))))))))))))))))))
    ·replace h := ite_f h hc
     refine G_n rfl rfl (G_n rfl rfl (gq (zaj rfl (av := .xb false) rfl (qm (.xb false) rfl (G_n rfl rfl (G_n rfl rfl (G_n rfl rfl (G_n rfl rfl (G_n rfl rfl (gq (zaj rfl (av := .xb false) rfl (qm (.xb false) rfl (G_n rfl rfl (G_n rfl rfl (gq (zaj rfl (av := .xb false) rfl (qm (.xb false) rfl (G_n rfl rfl (G_n rfl rfl (G_n rfl rfl (G_n rfl rfl (gq (zaj rfl (av := .xb false) rfl ?_)))))))))))))))))))))))
     refine qa (.xb false) rfl (zad (zae ⟨_, h, s1 rfl⟩))
   ·replace h := ite_f h hc
    refine G_n rfl rfl (G_n rfl rfl (G_n rfl rfl (gq (zaj rfl (av := .xb false) rfl (qm (.xb false) rfl (G_n rfl rfl (G_n rfl rfl (gq (zaj rfl (av := .xb false) rfl (qm (.xb false) rfl (G_n rfl rfl (G_n rfl rfl (G_n rfl rfl (G_n rfl rfl (G_n rfl rfl (gq (zaj rfl (av := .xb false) rfl (qm (.xb false) rfl (G_n rfl rfl (G_n rfl rfl (gq (zaj rfl (av := .xb false) rfl ?_))))))))))))))))))))))
    refine qm (.xb false) rfl (G_n rfl rfl (G_n rfl rfl (G_n rfl rfl (G_n rfl rfl (gq (zaj rfl (av := .xb false) rfl (qa (.xb false) rfl (zad (zae ⟨_, h, s1 rfl⟩)))))))))
  ·replace h := ite_f h hc
   refine G_n rfl rfl (G_n rfl rfl (gq (zaj rfl (av := .xb false) rfl (qm (.xb false) rfl (G_n rfl rfl (G_n rfl rfl (G_n rfl rfl (gq (zaj rfl (av := .xb false) rfl (qm (.xb false) rfl (G_n rfl rfl (G_n rfl rfl (gq (zaj rfl (av := .xb false) rfl (qm (.xb false) rfl (G_n rfl rfl (G_n rfl rfl (G_n rfl rfl (G_n rfl rfl (G_n rfl rfl (gq (zaj rfl (av := .xb false) rfl ?_))))))))))))))))))))))
   refine qm (.xb false) rfl (G_n rfl rfl (G_n rfl rfl (gq (zaj rfl (av := .xb false) rfl (qm (.xb false) rfl (G_n rfl rfl (G_n rfl rfl (G_n rfl rfl (G_n rfl rfl (gq (zaj rfl (av := .xb false) rfl (qa (.xb false) rfl (zad (zae ⟨_, h, s1 rfl⟩))))))))))))))
 ·refine zax ?_
  obtain rfl := oi h
  refine ke (pt AF0 0 (.xb x0_j9)) [] rfl (s1 rfl) ⟨rfl, rfl⟩
theorem m_gen_New_ok (a0 : List Int) (r : ((List Int) × Int)) (h : m_gen_New a0 = some r) : Fun Tryz.prog 14 [(.row 1 c_int a0)] [] (fun a s => ∃ z0, a = pA z0 0 ∧ s = [boxI 69 z0 [.row 1 c_int r.1, .exact (.int .i64 r.2)]]) := by
 unfold m_gen_New at h
 refine zar Tryz.func14 rfl Tryz.ntmps14 (by simp) rfl (res1 rfl) fun E hE => k_end (zac (kr (qa (.exact (.pointer none)) rfl (zad (zaa (zac (kr (qm (.row 1 c_int a0) rfl (gq (op_bld (c' := c_cspcheckgen_Choices (a0, 0)) (CellsAll.cons rfl CellsOf.row CellsAll.nil) rfl (lc lf (lc lf ln)) (G_l rfl (op_boxI (c := [.row 1 c_int ((a0, 0).1), .xi ((a0, 0).2)]) rfl CellsOf.agg (lc lf (lc lf ln)) (fun b1 => qa (pA b1 0) rfl (zad (zaa (zax ?_))))))))))))))))
 obtain rfl := oi h
 refine ke (pt AF0 2 (pA b1 0)) [boxI 69 b1 [.row 1 c_int ((a0, 0).1), .xi ((a0, 0).2)]] rfl (s1 rfl) ⟨b1, rfl, rfl⟩
theorem m_help_Mod_ok (a0 : Int) (a1 : Int) (r : Int) (h : m_help_Mod a0 a1 = some r) : Pure Tryz.prog 59 [(.exact (.int .i64 a0)), (.exact (.int .i64 a1))] (.exact (.int .i64 r)) := by
 unfold m_help_Mod at h
 refine Pure.ofFun (zar Tryz.func59 rfl Tryz.ntmps59 (by simp) rfl (res1 rfl) fun E hE => k_end (zac (kr (qa (.xi 0) rfl (zad (zaa (zac (kr (qm (.xi a0) rfl (gq (op_convInt (k := .u64) (by kernel_rfl) rfl rfl (qm (.xi a1) rfl (gq (op_convInt (k := .u64) (by kernel_rfl) rfl rfl ?_))))))))))))))
 obtain ⟨n1, h⟩ := zah h
 refine gq (op_rem rfl rfl n1 rfl (gq (op_convInt (k := .i64) (by kernel_rfl) rfl rfl (qa (.xi (i64 (Int.tmod (IntKind.u64.wrap (a0)) (IntKind.u64.wrap (a1))))) rfl (zad (zaa (zax ?_)))))))
 obtain rfl := oi h
 refine ke (pt AF0 4 (.xi (i64 (Int.tmod (IntKind.u64.wrap (a0)) (IntKind.u64.wrap (a1)))))) [] rfl (s1 rfl) ⟨rfl, rfl⟩
theorem zbi {w0 : Nat} (a0 : (List Int) × Int) (a1 : Int) (r : Int × ((List Int) × Int)) (h : zbd a0 a1 = some r) : Fun Tryz.prog 22 [(pA w0 0), (.exact (.int .i64 a1))] [boxI 69 w0 [.row 1 c_int a0.1, .exact (.int .i64 a0.2)]] (fun a s => a = .exact (.int .i64 r.1) ∧ s = [boxI 69 w0 [.row 1 c_int r.2.1, .exact (.int .i64 r.2.2)]]) := by
 unfold zbd at h
 refine zar Tryz.func22 rfl Tryz.ntmps22 (by simp) rfl (res1 rfl) fun E hE => k_end (zac (kr (qa (.xi 0) rfl (zad (zaa (zac (zac (k_plan [] [(0, 0), (0, 1), (0, 2), (0, 4), (0, 5), (0, 6), (1, 3), (1, 7), (0, 8), (0, 9)] hmixP (by kernel_rfl) (P_q zaq rfl (zam (av := pA w0 0) rfl (P_q zaq rfl (op_nilCheck rfl (P_q zaq rfl (op_fieldAddr (o := 1) (by kernel_rfl) rfl (P_q zaq rfl (zam (av := pA w0 0) rfl (P_q zaq rfl (op_nilCheck rfl (P_q zaq rfl (op_fieldAddr (o := 0) (by kernel_rfl) rfl ?_))))))))))))))))))))
 refine P_r rfl (op_load_box1 (a := .xi a0.2) (by kernel_rfl) rfl rfl (P_r rfl (op_load_box1 (a := .row 1 c_int a0.1) (by kernel_rfl) rfl rfl (P_q zaq rfl (zap (by kernel_rfl) rfl (P_q zaq rfl (op_geq rfl rfl (P_nil (zaa (kd (p := (List.length a0.1 : Int) ≤ a0.2) rfl h (fun hc h => ?_) (fun hc h => ?_)))))))))))
 ·refine zac (kr (qa (.xi 0) rfl (zad (zaa (zax (zba ?_))))))
  obtain rfl := oi h
  refine ke (pt AF0 4 (.xi 0)) [boxI 69 w0 [.row 1 c_int a0.1, .xi a0.2]] rfl (s1 rfl) ⟨rfl, rfl⟩
 ·refine zat (zaa (zac (kr (qm (pA w0 0) rfl (gq (op_nilCheck rfl (gq (op_fieldAddr (o := 1) (by kernel_rfl) rfl (G_r rfl (op_load_box1 (a := .xi a0.2) (by kernel_rfl) rfl rfl (gq (op_add rfl rfl rfl (gq (op_nilCheck rfl (gq (op_fieldAddr (o := 1) (by kernel_rfl) rfl (G_l rfl (op_store_box (c' := [.xi (i64 (a0.2 + 1))]) (c3 := [.row 1 c_int a0.1, .xi (i64 (a0.2 + 1))]) rfl rfl CellsOf.int (lc lf ln) (OneC.int OneC.nil) (by kernel_rfl) (Nat.le_of_ble_eq_true rfl) rfl (zad (zaa (zac (k_plan [] [(0, 0), (0, 1), (0, 2), (0, 4), (0, 5), (0, 6), (0, 11), (1, 3), (1, 7), (0, 8), (0, 9), (0, 10), (0, 12), (0, 13)] hmixP (by kernel_rfl) ?_))))))))))))))))))))))
  refine P_q zaq rfl (zam (av := pA w0 0) rfl (P_q zaq rfl (op_nilCheck rfl (P_q zaq rfl (op_fieldAddr (o := 0) (by kernel_rfl) rfl (P_q zaq rfl (zam (av := pA w0 0) rfl (P_q zaq rfl (op_nilCheck rfl (P_q zaq rfl (op_fieldAddr (o := 1) (by kernel_rfl) rfl (P_q zaq rfl (zam (av := .xi a1) rfl (P_r rfl (op_load_box1 (a := .row 1 c_int a0.1) (by kernel_rfl) rfl rfl (P_r rfl (op_load_box1 (a := .xi (i64 (a0.2 + 1))) (by kernel_rfl) rfl rfl (P_q zaq rfl (op_sub rfl rfl rfl ?_)))))))))))))))))))
  obtain ⟨n1, h⟩ := zah h
  refine P_q zaq rfl (zao (by kernel_rfl) rfl rfl n1.1 n1.2 (P_q zaq rfl (zav (a := .xi (gi a0.1 (i64 ((i64 (a0.2 + 1)) - 1)))) (by kernel_rfl) rfl rfl ?_)))
  obtain ⟨y2, hy2, h⟩ := zag h
  refine P_q zaq rfl (zal (m_help_Mod_ok _ _ _ hy2) Tryz.func59 (by kernel_rfl) (lc lf (lc lf ln)) (P_q zaq rfl (op_assign (av := .xi y2) rfl (P_nil (zaa (zax ?_))))))
  obtain rfl := oi h
  refine ke (pt AF0 4 (.xi y2)) [boxI 69 w0 [.row 1 c_int a0.1, .xi (i64 (a0.2 + 1))]] rfl (s1 rfl) ⟨rfl, rfl⟩
theorem m_gen_Choices_Ints_ok {w0 : Nat} (a0 : (List Int) × Int) (r : (List UInt8) × ((List Int) × Int)) (h : m_gen_Choices_Ints a0 = some r) : Fun Tryz.prog 46 [(pA w0 0)] [boxI 69 w0 [.row 1 c_int a0.1, .exact (.int .i64 a0.2)]] (fun a s => a = .exact (.string (bs r.1)) ∧ s = [boxI 69 w0 [.row 1 c_int r.2.1, .exact (.int .i64 r.2.2)]]) := by
 unfold m_gen_Choices_Ints at h
 refine zar Tryz.func46 rfl Tryz.ntmps46 (by simp) rfl (res1 rfl) fun E hE => k_end (zac (kr (qa (.xs ([] : List UInt8)) rfl (zad (zaa (zac (kr (qa (.exact (.slice none 0 0)) rfl (zad (zaa (k_join3_1 h (fun (x0_0_j1 : List Int) (x0_1_j1 : Int) (x3_j1 : List (List UInt8)) (v3_j1 : Value) => (pt (pt AF0 0 (pA w0 0)) 3 (.exact v3_j1))) (fun (x0_0_j1 : List Int) (x0_1_j1 : Int) (x3_j1 : List (List UInt8)) (v3_j1 : Value) => [boxI 69 w0 [.row 1 c_int x0_0_j1, .xi x0_1_j1], vecT Tryz.prog 23 1 zab v3_j1 x3_j1]) (fun k1 h => ?_) (fun x0_0_j1 x0_1_j1 x3_j1 v3_j1 h => ?_))))))))))))
 ·refine zac (kr (qm (pA w0 0) rfl ?_))
  obtain ⟨y16, hy16, h⟩ := zag h
  refine G_l rfl (zbl (zbi _ _ _ hy16) Tryz.func22 (by kernel_rfl) (lc lf (lc lf ln)) (qa (.xi y16.1) rfl (zad (zaa (zaw (k_loop4_1 (m_gen_Choices_Ints_L2 k1) (m_gen_Choices_Ints_B2 k1) (fun _ _ _ _ => rfl) (fun m _ _ _ _ => rfl) h (fun (x0_0_l2 : List Int) (x0_1_l2 : Int) (x3_l2 : List (List UInt8)) (x4_l2 : Int) (v3_l2 : Value) => (pt (pt (pt AF0 0 (pA w0 0)) 3 (.exact v3_l2)) 4 (.xi x4_l2))) (fun (x0_0_l2 : List Int) (x0_1_l2 : Int) (x3_l2 : List (List UInt8)) (x4_l2 : Int) (v3_l2 : Value) => [boxI 69 w0 [.row 1 c_int x0_0_l2, .xi x0_1_l2], vecT Tryz.prog 23 1 zab v3_l2 x3_l2]) (.slice none 0 0) ?_ (fun rec2 x0_0_l2 x0_1_l2 x3_l2 x4_l2 v3_l2 h => ?_)))))))
  ·refine Sub.trans (SubU.to (SubU.nilT (P := Tryz.prog) (t := 23) (n := 1) (enc := zab))) (Sub.trans (SubU.to SubU.f1) (s3 rfl rfl rfl))
  ·unfold m_gen_Choices_Ints_B2 at h
   refine zac (zac (kr (qm (.xi x4_l2) rfl (gq (op_gtr rfl rfl (zad (zaa (kd (p := 0 < x4_l2) rfl h (fun hc h => ?_) (fun hc h => ?_)))))))))
   ·refine zat (zaa (zac (zaw (kr (qm (.exact v3_l2) rfl (qm (pA w0 0) rfl ?_))))))
    obtain ⟨y25, hy25, h⟩ := zag h
    refine G_l rfl (zbl (zbi _ _ _ hy25) Tryz.func22 (by kernel_rfl) (lc lf (lc lf ln)) ?_)
    obtain ⟨y26, hy26, h⟩ := zag h
    refine gq (zal (m_ref9_Int_ok _ _ hy26) Tryz.func7 (by kernel_rfl) (lc lf ln) (gq (op_litT (n := 1) (enc := zab) [y26] (CellsAll.cons rfl CellsOf.str CellsAll.nil) rfl (by kernel_rfl) (LEss.cons (lc lf ln) LEss.nil) ?_)))
    obtain ⟨n27, h⟩ := zah h
    refine G_l rfl (opB_f1 (op_appT (by kernel_rfl) rfl rfl zbe n27 (fun v28 => qa (.exact v28) rfl (zad (zaz (zaa (kr (qm (.xi x4_l2) rfl (gq (op_sub rfl rfl rfl (qa (.xi (i64 (x4_l2 - 1))) rfl (zad (zae ⟨_, _, _, _, v28, h, ?_⟩)))))))))))))
    refine Sub.trans (SubU.to SubU.f1) (s3 rfl rfl rfl)
   ·refine k_exit (kC_exit (kI_exit (kB_exit (zae ⟨_, _, _, v3_l2, h, s2 rfl rfl⟩))))
 ·refine zac (kr (qm (.exact v3_j1) rfl (G_sub rfl (SubU.trans SubU.f1 (SubU.freezeT2 (s1 := 3) (s2 := 17) rfl rfl zay)) ?_)))
  obtain ⟨y29, hy29, h⟩ := zag h
  refine gq (zal (m_ref9_Set_ok _ _ hy29) Tryz.func6 (by kernel_rfl) (lc lf ln) (qa (.xs y29) rfl (zad (zaa (zax ?_)))))
  obtain rfl := oi h
  refine ke (pt AF0 2 (.xs y29)) [boxI 69 w0 [.row 1 c_int x0_0_j1, .xi x0_1_j1]] rfl (s1 rfl) ⟨rfl, rfl⟩
theorem m_law11_names_ok {w0 : Nat} (a0 : (List Int) × Int) (r : (List ((List UInt8) × Int × (List Int) × (List (List UInt8)))) × ((List Int) × Int)) (h : m_law11_names a0 = some r) : Fun Tryz.prog 15 [(pA w0 0)] [boxI 69 w0 [.row 1 c_int a0.1, .exact (.int .i64 a0.2)]] (fun a s => a = .row 4 zaf r.1 ∧ s = [boxI 69 w0 [.row 1 c_int r.2.1, .exact (.int .i64 r.2.2)]]) := by
 unfold m_law11_names at h
 refine zar Tryz.func15 rfl Tryz.ntmps15 (by simp) rfl (res1 rfl) fun E hE => k_end (zac (kr (qa (.exact (.slice none 0 0)) rfl (zad (zaa (zac (kr (qa (.exact (.slice none 0 0)) rfl (zad (zaa (k_join3_1 h (fun (x0_0_j1 : List Int) (x0_1_j1 : Int) (x3_j1 : List ((List UInt8) × Int × (List Int) × (List (List UInt8)))) (v3_j1 : Value) => (pt (pt AF0 0 (pA w0 0)) 3 (.exact v3_j1))) (fun (x0_0_j1 : List Int) (x0_1_j1 : Int) (x3_j1 : List ((List UInt8) × Int × (List Int) × (List (List UInt8)))) (v3_j1 : Value) => [boxI 69 w0 [.row 1 c_int x0_0_j1, .xi x0_1_j1], vecT Tryz.prog 29 4 zaf v3_j1 x3_j1]) (fun k1 h => ?_) (fun x0_0_j1 x0_1_j1 x3_j1 v3_j1 h => ?_))))))))))))
 ·refine zac (kr (qa (.xi 0) rfl (zad (zaa (zaw (k_loop4_1 (m_law11_names_L14 k1) (m_law11_names_B14 k1) (fun _ _ _ _ => rfl) (fun m _ _ _ _ => rfl) h (fun (x0_0_l14 : List Int) (x0_1_l14 : Int) (x3_l14 : List ((List UInt8) × Int × (List Int) × (List (List UInt8)))) (x4_l14 : Int) (v3_l14 : Value) => (pt (pt (pt AF0 0 (pA w0 0)) 3 (.exact v3_l14)) 4 (.xi x4_l14))) (fun (x0_0_l14 : List Int) (x0_1_l14 : Int) (x3_l14 : List ((List UInt8) × Int × (List Int) × (List (List UInt8)))) (x4_l14 : Int) (v3_l14 : Value) => [boxI 69 w0 [.row 1 c_int x0_0_l14, .xi x0_1_l14], vecT Tryz.prog 29 4 zaf v3_l14 x3_l14]) (.slice none 0 0) ?_ (fun rec14 x0_0_l14 x0_1_l14 x3_l14 x4_l14 v3_l14 h => ?_)))))))
  ·refine Sub.trans (SubU.to (SubU.nilT (P := Tryz.prog) (t := 29) (n := 4) (enc := zaf))) (Sub.trans (SubU.to SubU.f1) (s3 rfl rfl rfl))
  ·unfold m_law11_names_B14 at h
   refine zac (zac (kr (qm (.xi x4_l14) rfl (qm (pA w0 0) rfl ?_))))
   obtain ⟨y1133, hy1133, h⟩ := zag h
   refine G_l rfl (zbl (zbi _ _ _ hy1133) Tryz.func22 (by kernel_rfl) (lc lf (lc lf ln)) (gq (op_add rfl rfl rfl (gq (op_lss rfl rfl (zad (zaa (kd (p := x4_l14 < (i64 (1 + y1133.1))) rfl h (fun hc h => ?_) (fun hc h => ?_)))))))))
   ·refine zat (zaa (k_join3_1 h (fun (x0_0_j1134 : List Int) (x0_1_j1134 : Int) (x3_j1134 : List ((List UInt8) × Int × (List Int) × (List (List UInt8)))) (v3_j1134 : Value) => (pt (pt (pt AF0 0 (pA w0 0)) 3 (.exact v3_j1134)) 4 (.xi x4_l14))) (fun (x0_0_j1134 : List Int) (x0_1_j1134 : Int) (x3_j1134 : List ((List UInt8) × Int × (List Int) × (List (List UInt8)))) (v3_j1134 : Value) => [boxI 69 w0 [.row 1 c_int x0_0_j1134, .xi x0_1_j1134], vecT Tryz.prog 29 4 zaf v3_j1134 x3_j1134]) (fun k1134 h => ?_) (fun x0_0_j1134 x0_1_j1134 x3_j1134 v3_j1134 h => ?_)))
    ·refine zaw (zac (k_planE [] [.op 0 0, .op 0 1, .op 0 2, .op 0 3, .op 0 4, .op 2 5, .op 0 6, .op 0 7, .new 8 5 25 [.xs ((([], 0, [], []) : (List UInt8) × Int × (List Int) × (List (List UInt8))).1), .xi ((([], 0, [], []) : (List UInt8) × Int × (List Int) × (List (List UInt8))).2.1), .exact (.slice none 0 0), .exact (.slice none 0 0)], .op 2 9] hmixP (by kernel_rfl) (NewOK.many [(0, 0), (0, 1), (0, 2), (0, 3), (0, 4), (2, 5), (0, 6), (0, 7)] rfl (NewOK.fresh rfl rfl (lc lf (lc lf (lc lf (lc lf ln)))) (NewOK.many [(2, 9)] rfl NewOK.nil))) (S_go [(0, 0), (0, 1), (0, 2), (0, 3), (0, 4), (2, 5), (0, 6), (0, 7)] rfl (P_q zaq rfl (op_litT (n := 1) (enc := c_string) [[97], [75], [99], [76]] (CellsAll.cons rfl CellsOf.str (CellsAll.cons rfl CellsOf.str (CellsAll.cons rfl CellsOf.str (CellsAll.cons rfl CellsOf.str CellsAll.nil)))) rfl (by kernel_rfl) (LEss.cons (lc lf ln) (LEss.cons (lc lf ln) (LEss.cons (lc lf ln) (LEss.cons (lc lf ln) LEss.nil)))) (P_q zaq rfl (zam (av := .xi x4_l14) rfl ?_)))))))
     obtain ⟨n1247, h⟩ := zah h
     refine P_q zaq rfl (zao (by kernel_rfl) rfl rfl n1247.1 n1247.2 (P_q zaq rfl (zav (a := .xs (gi ([[97], [75], [99], [76]]) x4_l14)) (by kernel_rfl) rfl rfl (P_q zaq rfl (zam (av := pA w0 0) rfl ?_)))))
     obtain ⟨y1248, hy1248, h⟩ := zag h
     refine P_l rfl (zbl (zbi _ _ _ hy1248) Tryz.func22 (by kernel_rfl) (lc lf (lc lf ln)) (P_q zaq rfl (op_sub rfl rfl rfl (P_q zaq rfl (op_bld (c' := [.xs (gi ([[97], [75], [99], [76]]) x4_l14), .xi (i64 (y1248.1 - 1)), .exact (.slice none 0 0), .exact (.slice none 0 0)]) (CellsAll.cons rfl CellsOf.str (CellsAll.cons rfl CellsOf.int CellsAll.nil)) rfl (lc lf (lc lf (lc lf (lc lf ln)))) (S_new (fun b1249 => S_go [(2, 9)] rfl (P_l rfl (op_store_box (c' := [.xs (gi ([[97], [75], [99], [76]]) x4_l14), .xi (i64 (y1248.1 - 1)), .exact (.slice none 0 0), .exact (.slice none 0 0)]) (c3 := [.xs (gi ([[97], [75], [99], [76]]) x4_l14), .xi (i64 (y1248.1 - 1)), .exact (.slice none 0 0), .exact (.slice none 0 0)]) rfl rfl CellsOf.agg (lc lf (lc lf (lc lf (lc lf ln)))) (OneC.str (OneC.int (OneC.nilS (OneC.nilS OneC.nil)))) (by kernel_rfl) (Nat.le_of_ble_eq_true rfl) rfl (S_end (zaa (k_join4_2 h (fun (x0_0_j1250 : List Int) (x0_1_j1250 : Int) (x5_2_j1250 : List Int) (x5_3_j1250 : List (List UInt8)) (v5_2_j1250 : Value) (v5_3_j1250 : Value) => (pt (pt (pt (pt AF0 0 (pA w0 0)) 3 (.exact v3_l14)) 4 (.xi x4_l14)) 5 (pA b1249 0))) (fun (x0_0_j1250 : List Int) (x0_1_j1250 : Int) (x5_2_j1250 : List Int) (x5_3_j1250 : List (List UInt8)) (v5_2_j1250 : Value) (v5_3_j1250 : Value) => [boxI 69 w0 [.row 1 c_int x0_0_j1250, .xi x0_1_j1250], vecT Tryz.prog 29 4 zaf v3_l14 x3_l14, vecT Tryz.prog 22 1 c_int v5_2_j1250 x5_2_j1250, vecT Tryz.prog 23 1 zab v5_3_j1250 x5_3_j1250, boxI 25 b1249 ([.xs (gi ([[97], [75], [99], [76]]) x4_l14), .xi (i64 (y1248.1 - 1)), .exact v5_2_j1250, .exact v5_3_j1250])]) (fun k1250 h => ?_) (fun x0_0_j1250 x0_1_j1250 x5_2_j1250 x5_3_j1250 v5_2_j1250 v5_3_j1250 h => ?_)))))))))))))
     ·refine zac (kr (qm (pA w0 0) rfl ?_))
      obtain ⟨y1304, hy1304, h⟩ := zag h
      refine G_l rfl (opB_f1 (zbl (zbi _ _ _ hy1304) Tryz.func22 (by kernel_rfl) (lc lf (lc lf ln)) (qa (.xi y1304.1) rfl (zad (zaa (zaw (k_loop5_2 (m_law11_names_L26 k1250) (m_law11_names_B26 k1250) (fun _ _ _ _ _ => rfl) (fun m _ _ _ _ _ => rfl) h (fun (x0_0_l26 : List Int) (x0_1_l26 : Int) (x5_2_l26 : List Int) (x5_3_l26 : List (List UInt8)) (x6_l26 : Int) (v5_2_l26 : Value) (v5_3_l26 : Value) => (pt (pt (pt (pt (pt AF0 0 (pA w0 0)) 3 (.exact v3_l14)) 4 (.xi x4_l14)) 5 (pA b1249 0)) 6 (.xi x6_l26))) (fun (x0_0_l26 : List Int) (x0_1_l26 : Int) (x5_2_l26 : List Int) (x5_3_l26 : List (List UInt8)) (x6_l26 : Int) (v5_2_l26 : Value) (v5_3_l26 : Value) => [boxI 69 w0 [.row 1 c_int x0_0_l26, .xi x0_1_l26], vecT Tryz.prog 29 4 zaf v3_l14 x3_l14, vecT Tryz.prog 22 1 c_int v5_2_l26 x5_2_l26, vecT Tryz.prog 23 1 zab v5_3_l26 x5_3_l26, boxI 25 b1249 ([.xs (gi ([[97], [75], [99], [76]]) x4_l14), .xi (i64 (y1248.1 - 1)), .exact v5_2_l26, .exact v5_3_l26])]) (.slice none 0 0) (.slice none 0 0) ?_ (fun rec26 x0_0_l26 x0_1_l26 x5_2_l26 x5_3_l26 x6_l26 v5_2_l26 v5_3_l26 h => ?_))))))))
      ·refine Sub.trans (SubU.to (SubU.nilT (P := Tryz.prog) (t := 22) (n := 1) (enc := c_int))) (Sub.trans (SubU.to (SubU.nilT (P := Tryz.prog) (t := 23) (n := 1) (enc := zab))) (Sub.trans (SubU.to SubU.f3) (Sub.trans (SubU.to SubU.f1) (Sub.trans (SubU.to SubU.f2) (Sub.trans (SubU.to SubU.f4) (Sub.trans (SubU.to SubU.f4) (so (l4 rfl rfl rfl rfl (lq rfl lt0)))))))))
      ·unfold m_law11_names_B26 at h
       refine zac (zac (kr (qm (.xi x6_l26) rfl (gq (op_gtr rfl rfl (zad (zaa (kd (p := 0 < x6_l26) rfl h (fun hc h => ?_) (fun hc h => ?_)))))))))
       ·refine zat (zaa (zac (zaw (zac (kr (qm (pA w0 0) rfl ?_))))))
        obtain ⟨y1348, hy1348, h⟩ := zag h
        refine G_l rfl (zbl (m_gen_Choices_Ints_ok _ _ hy1348) Tryz.func46 (by kernel_rfl) (lc lf ln) (qa (.xs y1348.1) rfl (zad (zaa (k_join3_0 h (fun (x0_0_j1349 : List Int) (x0_1_j1349 : Int) (x7_j1349 : List UInt8) => (pt (pt (pt (pt (pt (pt AF0 0 (pA w0 0)) 3 (.exact v3_l14)) 4 (.xi x4_l14)) 5 (pA b1249 0)) 6 (.xi x6_l26)) 7 (.xs x7_j1349))) (fun (x0_0_j1349 : List Int) (x0_1_j1349 : Int) (x7_j1349 : List UInt8) => [boxI 69 w0 [.row 1 c_int x0_0_j1349, .xi x0_1_j1349], vecT Tryz.prog 29 4 zaf v3_l14 x3_l14, vecT Tryz.prog 22 1 c_int v5_2_l26 x5_2_l26, vecT Tryz.prog 23 1 zab v5_3_l26 x5_3_l26, boxI 25 b1249 ([.xs (gi ([[97], [75], [99], [76]]) x4_l14), .xi (i64 (y1248.1 - 1)), .exact v5_2_l26, .exact v5_3_l26])]) (fun k1349 h => ?_) (fun x0_0_j1349 x0_1_j1349 x7_j1349 h => ?_))))))
        ·refine zac (kr (qm (pA w0 0) rfl ?_))
         obtain ⟨y1351, hy1351, h⟩ := zag h
         refine G_l rfl (zbl (zbi _ _ _ hy1351) Tryz.func22 (by kernel_rfl) (lc lf (lc lf ln)) (gq (op_eql rfl rfl (zad (zaa (kd (p := y1351.1 = 11) rfl h (fun hc h => ?_) (fun hc h => ?_)))))))
         ·refine kr (qa (.xs ([] : List UInt8)) rfl (zad (zae ⟨_, _, _, h, so (l4 rfl rfl rfl rfl (lq rfl (lq rfl lt0)))⟩)))
         ·refine zat (zae ⟨_, _, _, h, so (l4 rfl rfl rfl rfl (lq rfl (lq rfl lt0)))⟩)
        ·refine zac (kr (gq (op_fieldAddr (o := 3) (by kernel_rfl) rfl (G_r rfl (opR_f4 (op_load_box1 (a := .exact v5_3_l26) (by kernel_rfl) rfl rfl (qm (.xs x7_j1349) rfl (gq (op_litT (n := 1) (enc := zab) [x7_j1349] (CellsAll.cons rfl CellsOf.str CellsAll.nil) rfl (by kernel_rfl) (LEss.cons (lc lf ln) LEss.nil) ?_)))))))))
         obtain ⟨n1352, h⟩ := zah h
         refine G_l rfl (opB_f3 (op_appT (by kernel_rfl) rfl rfl zbe n1352 (fun v1353 => gq (op_fieldAddr (o := 3) (by kernel_rfl) rfl (G_l rfl (opB_sl (List.Mem.head _) (fun hsl => (opB_f4 (op_store_box (c' := [.exact v1353]) (c3 := [.xs (gi ([[97], [75], [99], [76]]) x4_l14), .xi (i64 (y1248.1 - 1)), .exact v5_2_l26, .exact v1353]) rfl rfl (CellsOf.sl hsl) (lc lf ln) (OneC.sl hsl OneC.nil) (by kernel_rfl) (Nat.le_of_ble_eq_true rfl) rfl (zad (zaa (kr (gq (op_fieldAddr (o := 2) (by kernel_rfl) rfl (G_r rfl (op_load_box1 (a := .exact v5_2_l26) (by kernel_rfl) rfl rfl (gq (op_litT (n := 1) (enc := c_int) [0] (CellsAll.cons rfl CellsOf.int CellsAll.nil) rfl (by kernel_rfl) (LEss.cons (lc lf ln) LEss.nil) ?_))))))))))))))))))
         obtain ⟨n1354, h⟩ := zah h
         refine G_l rfl (opB_f4 (op_appT (by kernel_rfl) rfl rfl oc_c_int n1354 (fun v1355 => gq (op_fieldAddr (o := 2) (by kernel_rfl) rfl (G_l rfl (opB_sl (List.Mem.head _) (fun hsl => (opB_f1 (op_store_box (c' := [.exact v1355]) (c3 := [.xs (gi ([[97], [75], [99], [76]]) x4_l14), .xi (i64 (y1248.1 - 1)), .exact v1355, .exact v1353]) rfl rfl (CellsOf.sl hsl) (lc lf ln) (OneC.sl hsl OneC.nil) (by kernel_rfl) (Nat.le_of_ble_eq_true rfl) rfl (zad (zaz (zaa (kr (qm (.xi x6_l26) rfl (gq (op_sub rfl rfl rfl (qa (.xi (i64 (x6_l26 - 1))) rfl (zad (zae ⟨_, _, _, _, _, v1355, v1353, h, ?_⟩)))))))))))))))))))
         refine Sub.trans (SubU.to SubU.f2) (Sub.trans (SubU.to SubU.f2) (Sub.trans (SubU.to SubU.f4) (Sub.trans (SubU.to SubU.f4) (so (l4 rfl rfl rfl rfl (lq rfl lt0))))))
       ·refine k_exit (kC_exit (kI_exit (kB_exit (zae ⟨_, _, _, _, v5_2_l26, v5_3_l26, h, s4 rfl rfl rfl rfl⟩))))
     ·refine kr (qm (.exact v3_l14) rfl (G_sub rfl (SubU.trans (SubU.f2) (SubU.trans (SubU.know len_c_int) (SubU.trans (SubU.f4) (SubU.trans (SubU.f1) (SubU.trans (SubU.knowC (j := 2) (c' := [.xs (gi ([[97], [75], [99], [76]]) x4_l14), .xi (i64 (y1248.1 - 1)), .row 1 c_int x5_2_j1250, .exact v5_3_j1250]) rfl rfl) (SubU.drop)))))) (G_sub rfl (SubU.trans (SubU.f3) (SubU.trans (SubU.know zay) (SubU.trans (SubU.knowC (j := 3) (c' := [.xs (gi ([[97], [75], [99], [76]]) x4_l14), .xi (i64 (y1248.1 - 1)), .row 1 c_int x5_2_j1250, .row 1 zab x5_3_j1250]) rfl rfl) (SubU.drop)))) (G_r rfl (op_load_boxN (m := 4) (c' := zaf (gi ([[97], [75], [99], [76]]) x4_l14, i64 (y1248.1 - 1), x5_2_j1250, x5_3_j1250)) (by kernel_rfl) rfl rfl rfl (gq (op_litT (n := 4) (enc := zaf) [(gi ([[97], [75], [99], [76]]) x4_l14, i64 (y1248.1 - 1), x5_2_j1250, x5_3_j1250)] (CellsAll.cons rfl CellsOf.agg CellsAll.nil) rfl (by kernel_rfl) (LEss.cons (lc lf (lc lf (lc lf (lc lf ln)))) LEss.nil) ?_)))))))
      obtain ⟨n1356, h⟩ := zah h
      refine G_l rfl (opB_f2 (op_appT (by kernel_rfl) rfl rfl oc_c_api_Info n1356 (fun v1357 => qa (.exact v1357) rfl (zad (zaz (zae ⟨_, _, _, v1357, h, ?_⟩))))))
      refine Sub.trans (SubU.to SubU.f1) (Sub.trans (SubU.to SubU.drop) (Sub.trans (SubU.to SubU.f1) (s3 rfl rfl rfl)))
    ·refine kr (qm (.xi x4_l14) rfl (gq (op_add rfl rfl rfl (qa (.xi (i64 (x4_l14 + 1))) rfl (zad (zae ⟨_, _, _, _, v3_j1134, h, s3 rfl rfl rfl⟩))))))
   ·refine k_exit (kC_exit (kI_exit (kB_exit (zae ⟨_, _, _, v3_l14, h, s2 rfl rfl⟩))))
 ·refine zac (kr (qm (.exact v3_j1) rfl (qa (.exact v3_j1) rfl (zad (zaa (zax ?_))))))
  obtain rfl := oi h
  refine ke (pt AF0 2 (.row 4 zaf x3_j1)) [boxI 69 w0 [.row 1 c_int x0_0_j1, .xi x0_1_j1]] rfl (Sub.trans (SubU.to SubU.f1) (Sub.trans (SubU.to (SubU.freezeT (s := 2) rfl len_c_api_Info)) (s1 rfl))) ⟨rfl, rfl⟩
theorem m_ref9_Parts_ok (a0 : List UInt8) (r : (List (List UInt8))) (h : m_ref9_Parts a0 = some r) : Pure Tryz.prog 18 [(.exact (.string (bs a0)))] (.row 1 zab r) := by
 unfold m_ref9_Parts at h
 refine Pure.ofFun (zar Tryz.func18 rfl Tryz.ntmps18 (by simp) rfl (res1 rfl) fun E hE => k_end (zac (kr (qa (.exact (.slice none 0 0)) rfl (zad (zaa (zac (zac (kr (qm (.xs a0) rfl ?_))))))))))
 obtain ⟨y1, hy1, h⟩ := zag h
 refine gq (zal (m_ref9_Valid_ok _ _ hy1) Tryz.func50 (by kernel_rfl) (lc lf ln) (gq (op_not rfl (zad (zaa (kb (p := !y1) rfl h (fun hc h => ?_) (fun hc h => ?_)))))))
 ·refine zac (kr (qa (.exact (.slice none 0 0)) rfl (zad (zaa (zax (zba ?_))))))
  obtain rfl := oi h
  refine ke (pt AF0 2 (.row 1 zab [])) [] rfl (so (AF.le_put (row_nil (by decide)) lt0)) ⟨rfl, rfl⟩
 ·refine zat (zaa (zac (kr (qm (.xs a0) rfl ?_))))
  obtain ⟨y2, hy2, h⟩ := zag h
  refine gq (zal (m_ref9_walk_ok _ _ _ _ hy2) Tryz.func51 (by kernel_rfl) (lc lf (lc lf (lc lf ln))) (qm (.tup [.xi y2.1, .row 1 zab y2.2.1, .xi y2.2.2]) rfl (gq (zas (av := .xi y2.1) rfl rfl (gq (zas (av := .row 1 zab y2.2.1) rfl rfl (gq (zas (av := .xi y2.2.2) rfl rfl (qa (.xi y2.1) rfl (qa (.row 1 zab y2.2.1) rfl (qa (.xi y2.2.2) rfl (zad (zaa (zac (kr (qm (.row 1 zab y2.2.1) rfl (qa (.row 1 zab y2.2.1) rfl ?_)))))))))))))))))
  refine zad (zaa (zax ?_))
  obtain rfl := oi h
  refine ke (pt AF0 2 (.row 1 zab y2.2.1)) [] rfl (s1 rfl) ⟨rfl, rfl⟩
theorem m_ref9_Bool_ok (a0 : Bool) (r : (List UInt8)) (h : m_ref9_Bool a0 = some r) : Pure Tryz.prog 54 [(.exact (.bool a0))] (.exact (.string (bs r))) := by
 unfold m_ref9_Bool at h
 refine Pure.ofFun (zar Tryz.func54 rfl Tryz.ntmps54 (by simp) rfl (res1 rfl) fun E hE => k_end (zac (kr (qa (.xs ([] : List UInt8)) rfl (zad (zaa (zac (zac (kr (qm (.xb a0) rfl (zad (zaa (kb (p := a0) rfl h (fun hc h => ?_) (fun hc h => ?_))))))))))))))
 ·refine zac (kr (gq (op_litT (n := 1) (enc := c_uint8) [2, 1] (CellsAll.cons rfl CellsOf.int (CellsAll.cons rfl CellsOf.int CellsAll.nil)) rfl (by kernel_rfl) (LEss.cons (lc lf ln) (LEss.cons (lc lf ln) LEss.nil)) (gq (op_bytesS rfl (by kernel_rfl) rfl (qa (.exact (.string (bs [2, 1]))) rfl (zad (zaa (zax (zba ?_))))))))))
  obtain rfl := oi h
  refine ke (pt AF0 2 (.exact (.string (bs [2, 1])))) [] rfl (s1 rfl) ⟨rfl, rfl⟩
 ·refine zat (zaa (zac (kr (gq (op_litT (n := 1) (enc := c_uint8) [2, 0] (CellsAll.cons rfl CellsOf.int (CellsAll.cons rfl CellsOf.int CellsAll.nil)) rfl (by kernel_rfl) (LEss.cons (lc lf ln) (LEss.cons (lc lf ln) LEss.nil)) (gq (op_bytesS rfl (by kernel_rfl) rfl (qa (.exact (.string (bs [2, 0]))) rfl (zad (zaa (zax ?_)))))))))))
  obtain rfl := oi h
  refine ke (pt AF0 2 (.exact (.string (bs [2, 0])))) [] rfl (s1 rfl) ⟨rfl, rfl⟩
end Go.Proofs.YtjlbdhicabgliaaGreat
/- The functions compute their models, by program. -/
namespace Go.Proofs.YtjlbdhicabgliaaGreat
open Go.RowKit
attribute [local irreducible] AV.exact AV.top AV.row AV.ptr AV.agg AV.tup AV.eptr AV.fn AV.nilq AV.nilqn opA opB opM opR Quiet Loud Reads wpG awp den Sub SubU Pure Fun vecI vecT boxI CellsAll CellsOf OneC LEs LEss
set_option maxRecDepth 100000

set_option maxHeartbeats 4000000
theorem m_gen_Choices_Values_ok {w0 : Nat} (self_gen_Choices_Value : ((List Int) × Int) → Int → Option ((List UInt8) × ((List Int) × Int))) (hself_gen_Choices_Value : ∀ ⦃w0 : Nat⦄ (a0 : (List Int) × Int) (a1 : Int) (r : (List UInt8) × ((List Int) × Int)), self_gen_Choices_Value a0 a1 = some r → Fun Tryz.prog 21 [(pA w0 0), (.exact (.int .i64 a1))] [boxI 69 w0 [.row 1 c_int a0.1, .exact (.int .i64 a0.2)]] (fun a s => a = .exact (.string (bs r.1)) ∧ s = [boxI 69 w0 [.row 1 c_int r.2.1, .exact (.int .i64 r.2.2)]])) (a0 : (List Int) × Int) (a1 : Int) (a2 : Int) (r : (List (List UInt8)) × ((List Int) × Int)) (h : m_gen_Choices_Values self_gen_Choices_Value a0 a1 a2 = some r) : Fun Tryz.prog 55 [(pA w0 0), (.exact (.int .i64 a1)), (.exact (.int .i64 a2))] [boxI 69 w0 [.row 1 c_int a0.1, .exact (.int .i64 a0.2)]] (fun a s => a = .row 1 zab r.1 ∧ s = [boxI 69 w0 [.row 1 c_int r.2.1, .exact (.int .i64 r.2.2)]]) := by
 unfold m_gen_Choices_Values at h
 refine zar Tryz.func55 rfl Tryz.ntmps55 (by simp) rfl (res1 rfl) fun E hE => k_end (zac (kr (qa (.exact (.slice none 0 0)) rfl (zad (zaa (zac (kr (qa (.exact (.slice none 0 0)) rfl (zad (zaa (k_join3_1 h (fun (x0_0_j1 : List Int) (x0_1_j1 : Int) (x7_j1 : List (List UInt8)) (v7_j1 : Value) => (pt (pt AF0 0 (pA w0 0)) 7 (.exact v7_j1))) (fun (x0_0_j1 : List Int) (x0_1_j1 : Int) (x7_j1 : List (List UInt8)) (v7_j1 : Value) => [boxI 69 w0 [.row 1 c_int x0_0_j1, .xi x0_1_j1], vecT Tryz.prog 23 1 zab v7_j1 x7_j1]) (fun k1 h => ?_) (fun x0_0_j1 x0_1_j1 x7_j1 v7_j1 h => ?_))))))))))))
 ·refine zac (kr (qm (pA w0 0) rfl (qm (.xi a2) rfl ?_)))
  obtain ⟨y13, hy13, h⟩ := zag h
  refine G_l rfl (zbl (zbi _ _ _ hy13) Tryz.func22 (by kernel_rfl) (lc lf (lc lf ln)) (qa (.xi y13.1) rfl (zad (zaa (zaw (k_loop4_1 (m_gen_Choices_Values_L2 self_gen_Choices_Value a1 k1) (m_gen_Choices_Values_B2 self_gen_Choices_Value a1 k1) (fun _ _ _ _ => rfl) (fun m _ _ _ _ => rfl) h (fun (x0_0_l2 : List Int) (x0_1_l2 : Int) (x7_l2 : List (List UInt8)) (x8_l2 : Int) (v7_l2 : Value) => (pt (pt (pt (pt AF0 0 (pA w0 0)) 1 (.xi a1)) 7 (.exact v7_l2)) 8 (.xi x8_l2))) (fun (x0_0_l2 : List Int) (x0_1_l2 : Int) (x7_l2 : List (List UInt8)) (x8_l2 : Int) (v7_l2 : Value) => [boxI 69 w0 [.row 1 c_int x0_0_l2, .xi x0_1_l2], vecT Tryz.prog 23 1 zab v7_l2 x7_l2]) (.slice none 0 0) ?_ (fun rec2 x0_0_l2 x0_1_l2 x7_l2 x8_l2 v7_l2 h => ?_)))))))
  ·refine Sub.trans (SubU.to (SubU.nilT (P := Tryz.prog) (t := 23) (n := 1) (enc := zab))) (Sub.trans (SubU.to SubU.f1) (s4 rfl rfl rfl rfl))
  ·unfold m_gen_Choices_Values_B2 at h
   refine zac (zac (kr (qm (.xi x8_l2) rfl (gq (op_gtr rfl rfl (zad (zaa (kd (p := 0 < x8_l2) rfl h (fun hc h => ?_) (fun hc h => ?_)))))))))
   ·refine zat (zaa (zac (zaw (kr (qm (.exact v7_l2) rfl (qm (pA w0 0) rfl (qm (.xi a1) rfl ?_)))))))
    obtain ⟨y20, hy20, h⟩ := zag h
    refine G_l rfl (zbl (hself_gen_Choices_Value _ _ _ hy20) Tryz.func21 (by kernel_rfl) (lc lf (lc lf ln)) (gq (op_litT (n := 1) (enc := zab) [y20.1] (CellsAll.cons rfl CellsOf.str CellsAll.nil) rfl (by kernel_rfl) (LEss.cons (lc lf ln) LEss.nil) ?_)))
    obtain ⟨n21, h⟩ := zah h
    refine G_l rfl (opB_f1 (op_appT (by kernel_rfl) rfl rfl zbe n21 (fun v22 => qa (.exact v22) rfl (zad (zaz (zaa (kr (qm (.xi x8_l2) rfl (gq (op_sub rfl rfl rfl (qa (.xi (i64 (x8_l2 - 1))) rfl (zad (zae ⟨_, _, _, _, v22, h, ?_⟩)))))))))))))
    refine Sub.trans (SubU.to SubU.f1) (s4 rfl rfl rfl rfl)
   ·refine k_exit (kC_exit (kI_exit (kB_exit (zae ⟨_, _, _, v7_l2, h, s2 rfl rfl⟩))))
 ·refine zac (kr (qm (.exact v7_j1) rfl (qa (.exact v7_j1) rfl (zad (zaa (zax ?_))))))
  obtain rfl := oi h
  refine ke (pt AF0 6 (.row 1 zab x7_j1)) [boxI 69 w0 [.row 1 c_int x0_0_j1, .xi x0_1_j1]] rfl (Sub.trans (SubU.to SubU.f1) (Sub.trans (SubU.to (SubU.freezeT (s := 6) rfl zay)) (s1 rfl))) ⟨rfl, rfl⟩
theorem m_ref9_Map_ok (a0 : List (List UInt8)) (a1 : List (List UInt8)) (r : (List UInt8)) (h : m_ref9_Map a0 a1 = some r) : Pure Tryz.prog 56 [(.row 1 zab a0), (.row 1 zab a1)] (.exact (.string (bs r))) := by
 unfold m_ref9_Map at h
 refine Pure.ofFun (zar Tryz.func56 rfl Tryz.ntmps56 (by simp) rfl (res1 rfl) fun E hE => k_end (zac (kr (qa (.xs ([] : List UInt8)) rfl (zad (zaa (zac (zbc h (fun (x23_j7 : Bool) => (pt (pt (pt AF0 0 (.row 1 zab a0)) 1 (.row 1 zab a1)) 23 (.xb x23_j7))) (fun (x23_j7 : Bool) => []) (fun k7 h => ?_) (fun x23_j7 h => ?_)))))))))
 ·refine kr (qm (.row 1 zab a0) rfl (gq (zap (by kernel_rfl) rfl (qm (.row 1 zab a1) rfl (gq (zap (by kernel_rfl) rfl (gq (op_neq rfl rfl (qm (.xb (decide (¬ (List.length a0 : Int) = (List.length a1 : Int)))) rfl (G_split (p := ¬ (List.length a0 : Int) = (List.length a1 : Int)) 14 rfl (fun hc => ?_) (fun hc => ?_)))))))))))
  ·replace h := ite_t h hc
   refine G_n rfl rfl (G_n rfl rfl (G_n rfl rfl (gq (zau rfl (av := .xb true) rfl (qm (.xb true) rfl (G_n rfl rfl (G_n rfl rfl (G_n rfl rfl (gq (zau rfl (av := .xb true) rfl (zad (zae ⟨_, h, s3 rfl rfl rfl⟩))))))))))))
  ·replace h := ite_f h hc
   refine Gy_q rfl rfl rfl (zam (av := .row 1 zab a0) rfl ?_)
   obtain ⟨y10, hy10, h⟩ := zag h
   refine Gy_q rfl rfl rfl (zal (m_ref9_all_ok _ _ hy10) Tryz.func24 (by kernel_rfl) (lc lf ln) (Gy_q rfl rfl rfl (op_not rfl (gq (zaj rfl (av := .xb (!y10)) rfl (qm (.xb (!y10)) rfl (G_splitB (c := !y10) 19 rfl (fun hc => ?_) (fun hc => ?_))))))))
   ·replace h := ite_t h hc
    refine G_n rfl rfl (G_n rfl rfl (G_n rfl rfl (gq (zau rfl (av := .xb true) rfl (zad (zae ⟨_, h, s3 rfl rfl rfl⟩))))))
   ·replace h := ite_f h hc
    refine Gy_q rfl rfl rfl (zam (av := .row 1 zab a1) rfl ?_)
    obtain ⟨y11, hy11, h⟩ := zag h
    refine Gy_q rfl rfl rfl (zal (m_ref9_all_ok _ _ hy11) Tryz.func24 (by kernel_rfl) (lc lf ln) (Gy_q rfl rfl rfl (op_not rfl (gq (zaj rfl (av := .xb (!y11)) rfl (zad (zae ⟨_, h, s3 rfl rfl rfl⟩)))))))
 ·refine kb (p := x23_j7) rfl h (fun hc h => ?_) (fun hc h => ?_)
  ·refine zac (kr (qa (.xs ([] : List UInt8)) rfl (zad (zaa (zax (zba ?_))))))
   obtain rfl := oi h
   refine ke (pt AF0 4 (.xs ([] : List UInt8))) [] rfl (s1 rfl) ⟨rfl, rfl⟩
  ·refine zat (zaa (zac (kr (qm (.row 1 zab a0) rfl ?_))))
   obtain ⟨y12, hy12, h⟩ := zag h
   refine gq (zal (m_ref9_Sort_ok _ _ hy12) Tryz.func26 (by kernel_rfl) (lc lf ln) (qa (.row 1 zab y12) rfl (zad (zaa (zac (zac (kr (qm (.row 1 zab y12) rfl (gq (zap (by kernel_rfl) rfl (qm (.row 1 zab a0) rfl (gq (zap (by kernel_rfl) rfl (gq (op_neq rfl rfl (zad (zaa (kd (p := ¬ (List.length y12 : Int) = (List.length a0 : Int)) rfl h (fun hc h => ?_) (fun hc h => ?_)))))))))))))))))))
   ·refine zac (kr (qa (.xs ([] : List UInt8)) rfl (zad (zaa (zax (zba ?_))))))
    obtain rfl := oi h
    refine ke (pt AF0 4 (.xs ([] : List UInt8))) [] rfl (s1 rfl) ⟨rfl, rfl⟩
   ·refine zat (zaa (zac (kr (qa (.exact (.slice none 0 0)) rfl (zad (zaa (k_join1_1 h (fun (x6_j13 : List (List UInt8)) (v6_j13 : Value) => (pt AF0 6 (.exact v6_j13))) (fun (x6_j13 : List (List UInt8)) (v6_j13 : Value) => [vecT Tryz.prog 23 1 zab v6_j13 x6_j13]) (fun k13 h => ?_) (fun x6_j13 v6_j13 h => ?_))))))))
    ·refine zac (kr (qa (.xi 0) rfl (zad (zaa (zaw (k_loop2_1 (m_ref9_Map_L8 a0 a1 y12 k13) (m_ref9_Map_B8 a0 a1 y12 k13) (fun _ _ => rfl) (fun m _ _ => rfl) h (fun (x6_l8 : List (List UInt8)) (x7_l8 : Int) (v6_l8 : Value) => (pt (pt (pt (pt (pt AF0 0 (.row 1 zab a0)) 1 (.row 1 zab a1)) 5 (.row 1 zab y12)) 6 (.exact v6_l8)) 7 (.xi x7_l8))) (fun (x6_l8 : List (List UInt8)) (x7_l8 : Int) (v6_l8 : Value) => [vecT Tryz.prog 23 1 zab v6_l8 x6_l8]) (.slice none 0 0) ?_ (fun rec8 x6_l8 x7_l8 v6_l8 h => ?_)))))))
     ·refine Sub.trans (SubU.to (SubU.nilT (P := Tryz.prog) (t := 23) (n := 1) (enc := zab))) (so (l4 rfl rfl rfl rfl (lq rfl lt0)))
     ·unfold m_ref9_Map_B8 at h
      refine zac (zac (kr (qm (.xi x7_l8) rfl (qm (.row 1 zab y12) rfl (gq (zap (by kernel_rfl) rfl (gq (op_lss rfl rfl (zad (zaa (kd (p := x7_l8 < (List.length y12 : Int)) rfl h (fun hc h => ?_) (fun hc h => ?_))))))))))))
      ·refine zat (zaa (k_join1_1 h (fun (x6_j420 : List (List UInt8)) (v6_j420 : Value) => (pt (pt (pt (pt (pt AF0 0 (.row 1 zab a0)) 1 (.row 1 zab a1)) 5 (.row 1 zab y12)) 6 (.exact v6_j420)) 7 (.xi x7_l8))) (fun (x6_j420 : List (List UInt8)) (v6_j420 : Value) => [vecT Tryz.prog 23 1 zab v6_j420 x6_j420]) (fun k420 h => ?_) (fun x6_j420 v6_j420 h => ?_)))
       ·refine zaw (zac (kr (qa (.xi 0) rfl (zad (zaa (zaw (k_loop2_1 (m_ref9_Map_L14 a0 a1 y12 x7_l8 k420) (m_ref9_Map_B14 a0 a1 y12 x7_l8 k420) (fun _ _ => rfl) (fun m _ _ => rfl) h (fun (x6_l14 : List (List UInt8)) (x8_l14 : Int) (v6_l14 : Value) => (pt (pt (pt (pt (pt (pt AF0 0 (.row 1 zab a0)) 1 (.row 1 zab a1)) 5 (.row 1 zab y12)) 6 (.exact v6_l14)) 7 (.xi x7_l8)) 8 (.xi x8_l14))) (fun (x6_l14 : List (List UInt8)) (x8_l14 : Int) (v6_l14 : Value) => [vecT Tryz.prog 23 1 zab v6_l14 x6_l14]) v6_l8 ?_ (fun rec14 x6_l14 x8_l14 v6_l14 h => ?_))))))))
        ·exact so (l4 rfl rfl rfl rfl (lq rfl (lq rfl lt0)))
        ·unfold m_ref9_Map_B14 at h
         refine zac (zac (kr (qm (.xi x8_l14) rfl (qm (.row 1 zab a0) rfl (gq (zap (by kernel_rfl) rfl (gq (op_lss rfl rfl (zad (zaa (kd (p := x8_l14 < (List.length a0 : Int)) rfl h (fun hc h => ?_) (fun hc h => ?_))))))))))))
         ·refine zat (zaa (k_join1_1 h (fun (x6_j487 : List (List UInt8)) (v6_j487 : Value) => (pt (pt (pt (pt (pt (pt AF0 0 (.row 1 zab a0)) 1 (.row 1 zab a1)) 5 (.row 1 zab y12)) 6 (.exact v6_j487)) 7 (.xi x7_l8)) 8 (.xi x8_l14))) (fun (x6_j487 : List (List UInt8)) (v6_j487 : Value) => [vecT Tryz.prog 23 1 zab v6_j487 x6_j487]) (fun k487 h => ?_) (fun x6_j487 v6_j487 h => ?_)))
          ·refine zaw (zac (k_plan [] [(0, 0), (0, 1), (0, 2), (0, 3), (0, 4), (0, 5), (0, 6), (0, 7), (0, 8)] hmixP (by kernel_rfl) (P_q zaq rfl (zam (av := .row 1 zab a0) rfl (P_q zaq rfl (zam (av := .xi x8_l14) rfl ?_))))))
           obtain ⟨n494, h⟩ := zah h
           refine P_q zaq rfl (zao (by kernel_rfl) rfl rfl n494.1 n494.2 (P_q zaq rfl (zav (a := .xs (gi a0 x8_l14)) (by kernel_rfl) rfl rfl (P_q zaq rfl (zam (av := .row 1 zab y12) rfl (P_q zaq rfl (zam (av := .xi x7_l8) rfl ?_)))))))
           obtain ⟨n495, h⟩ := zah h
           refine P_q zaq rfl (zao (by kernel_rfl) rfl rfl n495.1 n495.2 (P_q zaq rfl (zav (a := .xs (gi y12 x7_l8)) (by kernel_rfl) rfl rfl (P_q zaq rfl (op_eqlS rfl rfl (P_nil (zaa (kd (p := (gi a0 x8_l14) = (gi y12 x7_l8)) rfl h (fun hc h => ?_) (fun hc h => ?_)))))))))
           ·refine k_plan [] [(0, 0), (0, 1), (0, 2), (0, 3), (0, 4), (0, 5), (0, 6), (0, 7), (0, 8), (0, 9), (2, 10), (0, 11)] hmixP (by kernel_rfl) (P_q zaq rfl (zam (av := .exact v6_l14) rfl (P_q zaq rfl (zam (av := .row 1 zab y12) rfl (P_q zaq rfl (zam (av := .xi x7_l8) rfl ?_))))))
            obtain ⟨n496, h⟩ := zah h
            refine P_q zaq rfl (zao (by kernel_rfl) rfl rfl n496.1 n496.2 (P_q zaq rfl (zav (a := .xs (gi y12 x7_l8)) (by kernel_rfl) rfl rfl (P_q zaq rfl (zam (av := .row 1 zab a1) rfl (P_q zaq rfl (zam (av := .xi x8_l14) rfl ?_)))))))
            obtain ⟨n497, h⟩ := zah h
            refine P_q zaq rfl (zao (by kernel_rfl) rfl rfl n497.1 n497.2 (P_q zaq rfl (zav (a := .xs (gi a1 x8_l14)) (by kernel_rfl) rfl rfl (P_q zaq rfl (op_litT (n := 1) (enc := zab) [gi y12 x7_l8, gi a1 x8_l14] (CellsAll.cons rfl CellsOf.str (CellsAll.cons rfl CellsOf.str CellsAll.nil)) rfl (by kernel_rfl) (LEss.cons (lc lf ln) (LEss.cons (lc lf ln) LEss.nil)) ?_)))))
            obtain ⟨n498, h⟩ := zah h
            refine P_l rfl (op_appT (by kernel_rfl) rfl rfl zbe n498 (fun v499 => P_q zaq rfl (op_assign (av := .exact v499) rfl (P_nil (zaz (zae ⟨_, v499, h, so (l4 rfl rfl rfl rfl (lq rfl (lq rfl lt0)))⟩))))))
           ·refine zat (zaz (zae ⟨_, v6_l14, h, so (l4 rfl rfl rfl rfl (lq rfl (lq rfl lt0)))⟩))
          ·refine kr (qm (.xi x8_l14) rfl (gq (op_add rfl rfl rfl (qa (.xi (i64 (x8_l14 + 1))) rfl (zad (zae ⟨_, _, v6_j487, h, so (l4 rfl rfl rfl rfl (lq rfl (lq rfl lt0)))⟩))))))
         ·refine k_exit (kC_exit (kI_exit (kB_exit (zaz (zae ⟨_, v6_l14, h, so (l4 rfl rfl rfl rfl (lq rfl lt0))⟩)))))
       ·refine kr (qm (.xi x7_l8) rfl (gq (op_add rfl rfl rfl (qa (.xi (i64 (x7_l8 + 1))) rfl (zad (zae ⟨_, _, v6_j420, h, so (l4 rfl rfl rfl rfl (lq rfl lt0))⟩))))))
      ·refine k_exit (kC_exit (kI_exit (kB_exit (zae ⟨_, v6_l8, h, s1 rfl⟩))))
    ·refine zac (kr (qm (.exact v6_j13) rfl (G_sub rfl (SubU.freezeT2 (s1 := 6) (s2 := 63) rfl rfl zay) ?_)))
     obtain ⟨y500, hy500, h⟩ := zag h
     refine gq (zal (m_ref9_compound_ok _ _ _ hy500) Tryz.func25 (by kernel_rfl) (lc lf (lc lf ln)) (qa (.xs y500) rfl (zad (zaa (zax ?_)))))
     obtain rfl := oi h
     refine ke (pt AF0 4 (.xs y500)) [] rfl (s1 rfl) ⟨rfl, rfl⟩
theorem m_ref9_Numbered_ok (a0 : Int) (a1 : Int) (a2 : List (List UInt8)) (r : (List UInt8)) (h : m_ref9_Numbered a0 a1 a2 = some r) : Pure Tryz.prog 57 [(.exact (.int .i64 a0)), (.exact (.int .i64 a1)), (.row 1 zab a2)] (.exact (.string (bs r))) := by
 unfold m_ref9_Numbered at h
 refine Pure.ofFun (zar Tryz.func57 rfl Tryz.ntmps57 (by simp) rfl (res1 rfl) fun E hE => k_end (zac (kr (qa (.xs ([] : List UInt8)) rfl (zad (zaa (zac (kr (qm (.xi a0) rfl (qm (.xi a1) rfl ?_))))))))))
 obtain ⟨y1, hy1, h⟩ := zag h
 refine gq (zal (m_ref9_Int_ok _ _ hy1) Tryz.func7 (by kernel_rfl) (lc lf ln) (G_l rfl (op_litI (n := 1) (enc := zab) [y1] (by kernel_rfl) (CellsAll.cons rfl CellsOf.str CellsAll.nil) rfl (by kernel_rfl) (LEss.cons (lc lf ln) LEss.nil) (fun v2 => qm (.row 1 zab a2) rfl ?_))))
 obtain ⟨n3, h⟩ := zah h
 refine G_l rfl (op_appT (by kernel_rfl) rfl rfl zbe n3 (fun v4 => G_sub rfl (SubU.freezeT (s := 12) rfl zay) ?_))
 obtain ⟨y5, hy5, h⟩ := zag h
 refine gq (zal (m_ref9_Make_ok _ _ _ hy5) Tryz.func28 (by kernel_rfl) (lc lf (lc lf ln)) (qa (.xs y5) rfl (zad (zaa (zax ?_)))))
 obtain rfl := oi h
 refine ke (pt AF0 6 (.xs y5)) [] rfl (s1 rfl) ⟨rfl, rfl⟩
theorem m_gen_Choices_Number_ok {w0 : Nat} (a0 : (List Int) × Int) (r : Int × ((List Int) × Int)) (h : m_gen_Choices_Number a0 = some r) : Fun Tryz.prog 58 [(pA w0 0)] [boxI 69 w0 [.row 1 c_int a0.1, .exact (.int .i64 a0.2)]] (fun a s => a = .exact (.int .i64 r.1) ∧ s = [boxI 69 w0 [.row 1 c_int r.2.1, .exact (.int .i64 r.2.2)]]) := by
 unfold m_gen_Choices_Number at h
 refine zar Tryz.func58 rfl Tryz.ntmps58 (by simp) rfl (res1 rfl) fun E hE => k_end (zac (kr (qa (.xi 0) rfl (zad (zaa (zac (zac (kr (qm (pA w0 0) rfl ?_)))))))))
 obtain ⟨y1, hy1, h⟩ := zag h
 refine G_l rfl (zbl (zbi _ _ _ hy1) Tryz.func22 (by kernel_rfl) (lc lf (lc lf ln)) (zad (zaa (zaw (zac (kr (gq (op_eql rfl rfl (qa (.xb (decide (y1.1 = 6))) rfl (zad (zaa (kd (p := y1.1 = 6) rfl h (fun hc h => ?_) (fun hc h => ?_)))))))))))))
 ·refine zac (kr (qa (.xi (-1)) rfl (zad (zaa (zax (zbb (zba ?_)))))))
  obtain rfl := oi h
  refine ke (pt AF0 2 (.xi (-1))) [boxI 69 w0 [.row 1 c_int y1.2.1, .xi y1.2.2]] rfl (s1 rfl) ⟨rfl, rfl⟩
 ·refine zac (kr (gq (op_eql rfl rfl (qa (.xb (decide (y1.1 = 7))) rfl (zad (zaa (kd (p := y1.1 = 7) rfl h (fun hc h => ?_) (fun hc h => ?_))))))))
  ·refine zac (kr (qm (pA w0 0) rfl ?_))
   obtain ⟨y2, hy2, h⟩ := zag h
   refine G_l rfl (zbl (zbi _ _ _ hy2) Tryz.func22 (by kernel_rfl) (lc lf (lc lf ln)) (gq (op_sub rfl rfl rfl (qa (.xi (i64 (9223372036854775807 - y2.1))) rfl (zad (zaa (zax (zbb (zba ?_)))))))))
   obtain rfl := oi h
   refine ke (pt AF0 2 (.xi (i64 (9223372036854775807 - y2.1)))) [boxI 69 w0 [.row 1 c_int y2.2.1, .xi y2.2.2]] rfl (s1 rfl) ⟨rfl, rfl⟩
  ·refine zac (kr (gq (op_eql rfl rfl (qa (.xb (decide (y1.1 = 8))) rfl (zad (zaa (kd (p := y1.1 = 8) rfl h (fun hc h => ?_) (fun hc h => ?_))))))))
   ·refine zac (kr (qm (pA w0 0) rfl ?_))
    obtain ⟨y3, hy3, h⟩ := zag h
    refine G_l rfl (zbl (zbi _ _ _ hy3) Tryz.func22 (by kernel_rfl) (lc lf (lc lf ln)) (gq (op_add rfl rfl rfl (qa (.xi (i64 ((-9223372036854775808) + y3.1))) rfl (zad (zaa (zax (zbb (zba ?_)))))))))
    obtain rfl := oi h
    refine ke (pt AF0 2 (.xi (i64 ((-9223372036854775808) + y3.1)))) [boxI 69 w0 [.row 1 c_int y3.2.1, .xi y3.2.2]] rfl (s1 rfl) ⟨rfl, rfl⟩
   ·refine zat (zaz (zaa (zac (kr (qm (pA w0 0) rfl ?_)))))
    obtain ⟨y4, hy4, h⟩ := zag h
    refine G_l rfl (zbl (zbi _ _ _ hy4) Tryz.func22 (by kernel_rfl) (lc lf (lc lf ln)) (gq (op_sub rfl rfl rfl (qa (.xi (i64 (y4.1 - 2))) rfl (zad (zaa (zax ?_)))))))
    obtain rfl := oi h
    refine ke (pt AF0 2 (.xi (i64 (y4.1 - 2)))) [boxI 69 w0 [.row 1 c_int y4.2.1, .xi y4.2.2]] rfl (s1 rfl) ⟨rfl, rfl⟩
theorem m_gen_Choices_Value_F_ok {w0 : Nat} (self_gen_Choices_Value : ((List Int) × Int) → Int → Option ((List UInt8) × ((List Int) × Int))) (hself_gen_Choices_Value : ∀ ⦃w0 : Nat⦄ (a0 : (List Int) × Int) (a1 : Int) (r : (List UInt8) × ((List Int) × Int)), self_gen_Choices_Value a0 a1 = some r → Fun Tryz.prog 21 [(pA w0 0), (.exact (.int .i64 a1))] [boxI 69 w0 [.row 1 c_int a0.1, .exact (.int .i64 a0.2)]] (fun a s => a = .exact (.string (bs r.1)) ∧ s = [boxI 69 w0 [.row 1 c_int r.2.1, .exact (.int .i64 r.2.2)]])) (a0 : (List Int) × Int) (a1 : Int) (r : (List UInt8) × ((List Int) × Int)) (h : m_gen_Choices_Value_F self_gen_Choices_Value a0 a1 = some r) : Fun Tryz.prog 21 [(pA w0 0), (.exact (.int .i64 a1))] [boxI 69 w0 [.row 1 c_int a0.1, .exact (.int .i64 a0.2)]] (fun a s => a = .exact (.string (bs r.1)) ∧ s = [boxI 69 w0 [.row 1 c_int r.2.1, .exact (.int .i64 r.2.2)]]) := by
 unfold m_gen_Choices_Value_F at h
 refine zar Tryz.func21 rfl Tryz.ntmps21 (by simp) rfl (res1 rfl) fun E hE => k_end (zac (kr (qa (.xs ([] : List UInt8)) rfl (zad (zaa (zac (kr (qm (pA w0 0) rfl ?_))))))))
 obtain ⟨y1, hy1, h⟩ := zag h
 refine G_l rfl (zbl (zbi _ _ _ hy1) Tryz.func22 (by kernel_rfl) (lc lf (lc lf ln)) (qa (.xi y1.1) rfl (zad (zaa (zbc h (fun (x5_j2 : Int) => (pt (pt (pt AF0 0 (pA w0 0)) 1 (.xi a1)) 5 (.xi x5_j2))) (fun (x5_j2 : Int) => [boxI 69 w0 [.row 1 c_int y1.2.1, .xi y1.2.2]]) (fun k2 h => ?_) (fun x5_j2 h => ?_))))))
 ·refine zac (kr (qm (.xi a1) rfl (gq (op_leq rfl rfl (zad (zaa (kd (p := a1 ≤ 1) rfl h (fun hc h => ?_) (fun hc h => ?_))))))))
  ·refine kr (qm (.xi y1.1) rfl (gq (op_rem rfl rfl (by decide) rfl (qa (.xi (Int.tmod y1.1 3)) rfl (zad (zae ⟨_, h, s3 rfl rfl rfl⟩))))))
  ·refine zat (zae ⟨_, h, s3 rfl rfl rfl⟩)
 ·refine k_join0_0 h ((pt AF0 0 (pA w0 0))) ([boxI 69 w0 [.row 1 c_int y1.2.1, .xi y1.2.2]]) (fun k3 h => ?_) (fun  h => ?_)
  ·refine zac (kr (qm (.xi x5_j2) rfl (zad (zaa (zaw (zac (kr (gq (op_eql rfl rfl (qa (.xb (decide (x5_j2 = 1))) rfl (zad (zaa (kd (p := x5_j2 = 1) rfl h (fun hc h => ?_) (fun hc h => ?_))))))))))))))
   ·refine zac (kr (qm (pA w0 0) rfl ?_))
    obtain ⟨y45, hy45, h⟩ := zag h
    refine G_l rfl (zbl (zbi _ _ _ hy45) Tryz.func22 (by kernel_rfl) (lc lf (lc lf ln)) (gq (op_eql rfl rfl ?_)))
    obtain ⟨y46, hy46, h⟩ := zag h
    refine gq (zal (m_ref9_Bool_ok _ _ hy46) Tryz.func54 (by kernel_rfl) (lc lf ln) (qa (.xs y46) rfl (zad (zaa (zax (zbb (zbj ?_)))))))
    obtain rfl := oi h
    refine ke (pt AF0 4 (.xs y46)) [boxI 69 w0 [.row 1 c_int y45.2.1, .xi y45.2.2]] rfl (s1 rfl) ⟨rfl, rfl⟩
   ·refine zac (kr (gq (op_eql rfl rfl (qa (.xb (decide (x5_j2 = 2))) rfl (zad (zaa (kd (p := x5_j2 = 2) rfl h (fun hc h => ?_) (fun hc h => ?_))))))))
    ·refine zac (kr (qm (pA w0 0) rfl ?_))
     obtain ⟨y47, hy47, h⟩ := zag h
     refine G_l rfl (zbl (zbi _ _ _ hy47) Tryz.func22 (by kernel_rfl) (lc lf (lc lf ln)) ?_)
     obtain ⟨y48, hy48, h⟩ := zag h
     refine gq (zal (m_ref9_Name_ok _ _ hy48) Tryz.func29 (by kernel_rfl) (lc lf ln) (qa (.xs y48) rfl (zad (zaa (zax (zbb (zbj ?_)))))))
     obtain rfl := oi h
     refine ke (pt AF0 4 (.xs y48)) [boxI 69 w0 [.row 1 c_int y47.2.1, .xi y47.2.2]] rfl (s1 rfl) ⟨rfl, rfl⟩
    ·refine zac (kr (gq (op_eql rfl rfl (qa (.xb (decide (x5_j2 = 3))) rfl (zad (zaa (kd (p := x5_j2 = 3) rfl h (fun hc h => ?_) (fun hc h => ?_))))))))
     ·refine zac (kr (qm (pA w0 0) rfl (qm (.xi a1) rfl (gq (op_sub rfl rfl rfl ?_)))))
      obtain ⟨y49, hy49, h⟩ := zag h
      refine G_l rfl (zbl (hself_gen_Choices_Value _ _ _ hy49) Tryz.func21 (by kernel_rfl) (lc lf (lc lf ln)) (qm (pA w0 0) rfl (qm (.xi a1) rfl (gq (op_sub rfl rfl rfl ?_)))))
      obtain ⟨y50, hy50, h⟩ := zag h
      refine G_l rfl (zbl (hself_gen_Choices_Value _ _ _ hy50) Tryz.func21 (by kernel_rfl) (lc lf (lc lf ln)) (gq (op_litT (n := 1) (enc := zab) [y49.1, y50.1] (CellsAll.cons rfl CellsOf.str (CellsAll.cons rfl CellsOf.str CellsAll.nil)) rfl (by kernel_rfl) (LEss.cons (lc lf ln) (LEss.cons (lc lf ln) LEss.nil)) ?_)))
      obtain ⟨y51, hy51, h⟩ := zag h
      refine gq (zal (m_ref9_Make_ok _ _ _ hy51) Tryz.func28 (by kernel_rfl) (lc lf (lc lf ln)) (qa (.xs y51) rfl (zad (zaa (zax (zbb (zbj ?_)))))))
      obtain rfl := oi h
      refine ke (pt AF0 4 (.xs y51)) [boxI 69 w0 [.row 1 c_int y50.2.1, .xi y50.2.2]] rfl (s1 rfl) ⟨rfl, rfl⟩
     ·refine zac (kr (gq (op_eql rfl rfl (qa (.xb (decide (x5_j2 = 4))) rfl (zad (zaa (kd (p := x5_j2 = 4) rfl h (fun hc h => ?_) (fun hc h => ?_))))))))
      ·refine zac (kr (qm (pA w0 0) rfl (qm (.xi a1) rfl (gq (op_sub rfl rfl rfl ?_)))))
       obtain ⟨y52, hy52, h⟩ := zag h
       refine G_l rfl (zbl (m_gen_Choices_Values_ok self_gen_Choices_Value hself_gen_Choices_Value _ _ _ _ hy52) Tryz.func55 (by kernel_rfl) (lc lf (lc lf (lc lf ln))) ?_)
       obtain ⟨y53, hy53, h⟩ := zag h
       refine gq (zal (m_ref9_Make_ok _ _ _ hy53) Tryz.func28 (by kernel_rfl) (lc lf (lc lf ln)) (qa (.xs y53) rfl (zad (zaa (zax (zbb (zbj ?_)))))))
       obtain rfl := oi h
       refine ke (pt AF0 4 (.xs y53)) [boxI 69 w0 [.row 1 c_int y52.2.1, .xi y52.2.2]] rfl (s1 rfl) ⟨rfl, rfl⟩
      ·refine zac (kr (gq (op_eql rfl rfl (qa (.xb (decide (x5_j2 = 5))) rfl (zad (zaa (kd (p := x5_j2 = 5) rfl h (fun hc h => ?_) (fun hc h => ?_))))))))
       ·refine zac (kr (qm (pA w0 0) rfl (qm (.xi a1) rfl (gq (op_sub rfl rfl rfl ?_)))))
        obtain ⟨y54, hy54, h⟩ := zag h
        refine G_l rfl (zbl (m_gen_Choices_Values_ok self_gen_Choices_Value hself_gen_Choices_Value _ _ _ _ hy54) Tryz.func55 (by kernel_rfl) (lc lf (lc lf (lc lf ln))) ?_)
        obtain ⟨y55, hy55, h⟩ := zag h
        refine gq (zal (m_ref9_Set_ok _ _ hy55) Tryz.func6 (by kernel_rfl) (lc lf ln) (qa (.xs y55) rfl (zad (zaa (zax (zbb (zbj ?_)))))))
        obtain rfl := oi h
        refine ke (pt AF0 4 (.xs y55)) [boxI 69 w0 [.row 1 c_int y54.2.1, .xi y54.2.2]] rfl (s1 rfl) ⟨rfl, rfl⟩
       ·refine zac (kr (gq (op_eql rfl rfl (qa (.xb (decide (x5_j2 = 6))) rfl (zad (zaa (kd (p := x5_j2 = 6) rfl h (fun hc h => ?_) (fun hc h => ?_))))))))
        ·refine zac (kr (qm (pA w0 0) rfl ?_))
         obtain ⟨y56, hy56, h⟩ := zag h
         refine G_l rfl (zbl (zbi _ _ _ hy56) Tryz.func22 (by kernel_rfl) (lc lf (lc lf ln)) (qm (pA w0 0) rfl (qm (.xi a1) rfl (gq (op_sub rfl rfl rfl ?_)))))
         obtain ⟨y57, hy57, h⟩ := zag h
         refine G_l rfl (zbl (m_gen_Choices_Values_ok self_gen_Choices_Value hself_gen_Choices_Value _ _ _ _ hy57) Tryz.func55 (by kernel_rfl) (lc lf (lc lf (lc lf ln))) ?_)
         obtain ⟨y58, hy58, h⟩ := zag h
         refine gq (zal (m_ref9_Dot_ok _ _ _ hy58) Tryz.func8 (by kernel_rfl) (lc lf (lc lf ln)) (qa (.xs y58) rfl (zad (zaa (zax (zbb (zbj ?_)))))))
         obtain rfl := oi h
         refine ke (pt AF0 4 (.xs y58)) [boxI 69 w0 [.row 1 c_int y57.2.1, .xi y57.2.2]] rfl (s1 rfl) ⟨rfl, rfl⟩
        ·refine zac (kr (gq (op_eql rfl rfl (qa (.xb (decide (x5_j2 = 7))) rfl (zad (zaa (kd (p := x5_j2 = 7) rfl h (fun hc h => ?_) (fun hc h => ?_))))))))
         ·refine zac (kr (qm (pA w0 0) rfl (qm (.xi a1) rfl (gq (op_sub rfl rfl rfl ?_)))))
          obtain ⟨y59, hy59, h⟩ := zag h
          refine G_l rfl (zbl (m_gen_Choices_Values_ok self_gen_Choices_Value hself_gen_Choices_Value _ _ _ _ hy59) Tryz.func55 (by kernel_rfl) (lc lf (lc lf (lc lf ln))) ?_)
          obtain ⟨y60, hy60, h⟩ := zag h
          refine gq (zal (m_ref9_Sort_ok _ _ hy60) Tryz.func26 (by kernel_rfl) (lc lf ln) (qa (.row 1 zab y60) rfl (zad (zaa (zac (kr (qa (.exact (.slice none 0 0)) rfl (zad (zaa (k_join3_1 h (fun (x0_0_j61 : List Int) (x0_1_j61 : Int) (x7_j61 : List (List UInt8)) (v7_j61 : Value) => (pt (pt (pt AF0 0 (pA w0 0)) 6 (.row 1 zab y60)) 7 (.exact v7_j61))) (fun (x0_0_j61 : List Int) (x0_1_j61 : Int) (x7_j61 : List (List UInt8)) (v7_j61 : Value) => [boxI 69 w0 [.row 1 c_int x0_0_j61, .xi x0_1_j61], vecT Tryz.prog 23 1 zab v7_j61 x7_j61]) (fun k61 h => ?_) (fun x0_0_j61 x0_1_j61 x7_j61 v7_j61 h => ?_)))))))))))
          ·refine zac (kr (qa (.xi 0) rfl (zad (zaa (zaw (k_loop4_1 (m_gen_Choices_Value_L4 self_gen_Choices_Value a1 y60 k61) (m_gen_Choices_Value_B4 self_gen_Choices_Value a1 y60 k61) (fun _ _ _ _ => rfl) (fun m _ _ _ _ => rfl) h (fun (x0_0_l4 : List Int) (x0_1_l4 : Int) (x7_l4 : List (List UInt8)) (x8_l4 : Int) (v7_l4 : Value) => (pt (pt (pt (pt (pt AF0 0 (pA w0 0)) 1 (.xi a1)) 6 (.row 1 zab y60)) 7 (.exact v7_l4)) 8 (.xi x8_l4))) (fun (x0_0_l4 : List Int) (x0_1_l4 : Int) (x7_l4 : List (List UInt8)) (x8_l4 : Int) (v7_l4 : Value) => [boxI 69 w0 [.row 1 c_int x0_0_l4, .xi x0_1_l4], vecT Tryz.prog 23 1 zab v7_l4 x7_l4]) (.slice none 0 0) ?_ (fun rec4 x0_0_l4 x0_1_l4 x7_l4 x8_l4 v7_l4 h => ?_)))))))
           ·refine Sub.trans (SubU.to (SubU.nilT (P := Tryz.prog) (t := 23) (n := 1) (enc := zab))) (Sub.trans (SubU.to SubU.f1) (so (l4 rfl rfl rfl rfl (lq rfl lt0))))
           ·unfold m_gen_Choices_Value_B4 at h
            refine zac (zac (kr (qm (.xi x8_l4) rfl (qm (.row 1 zab y60) rfl (gq (zap (by kernel_rfl) rfl (gq (op_lss rfl rfl (zad (zaa (kd (p := x8_l4 < (List.length y60 : Int)) rfl h (fun hc h => ?_) (fun hc h => ?_))))))))))))
            ·refine zat (zaa (zac (zaw (kr (qm (.exact v7_l4) rfl (qm (pA w0 0) rfl (qm (.xi a1) rfl (gq (op_sub rfl rfl rfl ?_)))))))))
             obtain ⟨y78, hy78, h⟩ := zag h
             refine G_l rfl (zbl (hself_gen_Choices_Value _ _ _ hy78) Tryz.func21 (by kernel_rfl) (lc lf (lc lf ln)) (gq (op_litT (n := 1) (enc := zab) [y78.1] (CellsAll.cons rfl CellsOf.str CellsAll.nil) rfl (by kernel_rfl) (LEss.cons (lc lf ln) LEss.nil) ?_)))
             obtain ⟨n79, h⟩ := zah h
             refine G_l rfl (opB_f1 (op_appT (by kernel_rfl) rfl rfl zbe n79 (fun v80 => qa (.exact v80) rfl (zad (zaz (zaa (kr (qm (.xi x8_l4) rfl (gq (op_add rfl rfl rfl (qa (.xi (i64 (x8_l4 + 1))) rfl (zad (zae ⟨_, _, _, _, v80, h, ?_⟩)))))))))))))
             refine Sub.trans (SubU.to SubU.f1) (so (l4 rfl rfl rfl rfl (lq rfl lt0)))
            ·refine k_exit (kC_exit (kI_exit (kB_exit (zae ⟨_, _, _, v7_l4, h, s3 rfl rfl rfl⟩))))
          ·refine zac (kr (qm (.row 1 zab y60) rfl (qm (.exact v7_j61) rfl (G_sub rfl (SubU.trans SubU.f1 (SubU.freezeT2 (s1 := 7) (s2 := 83) rfl rfl zay)) ?_))))
           obtain ⟨y81, hy81, h⟩ := zag h
           refine gq (zal (m_ref9_Map_ok _ _ _ hy81) Tryz.func56 (by kernel_rfl) (lc lf (lc lf ln)) (qa (.xs y81) rfl (zad (zaa (zax (zbb (zbj ?_)))))))
           obtain rfl := oi h
           refine ke (pt AF0 4 (.xs y81)) [boxI 69 w0 [.row 1 c_int x0_0_j61, .xi x0_1_j61]] rfl (s1 rfl) ⟨rfl, rfl⟩
         ·refine zac (kr (gq (op_eql rfl rfl (qa (.xb (decide (x5_j2 = 8))) rfl (zad (zaa (kd (p := x5_j2 = 8) rfl h (fun hc h => ?_) (fun hc h => ?_))))))))
          ·refine zac (kr (qm (pA w0 0) rfl ?_))
           obtain ⟨y82, hy82, h⟩ := zag h
           refine G_l rfl (zbl (zbi _ _ _ hy82) Tryz.func22 (by kernel_rfl) (lc lf (lc lf ln)) (qm (pA w0 0) rfl (qm (.xi a1) rfl (gq (op_sub rfl rfl rfl ?_)))))
           obtain ⟨y83, hy83, h⟩ := zag h
           refine G_l rfl (zbl (m_gen_Choices_Values_ok self_gen_Choices_Value hself_gen_Choices_Value _ _ _ _ hy83) Tryz.func55 (by kernel_rfl) (lc lf (lc lf (lc lf ln))) ?_)
           obtain ⟨y84, hy84, h⟩ := zag h
           refine gq (zal (m_ref9_Numbered_ok _ _ _ _ hy84) Tryz.func57 (by kernel_rfl) (lc lf (lc lf (lc lf ln))) (qa (.xs y84) rfl (zad (zaa (zax (zbb (zbj ?_)))))))
           obtain rfl := oi h
           refine ke (pt AF0 4 (.xs y84)) [boxI 69 w0 [.row 1 c_int y83.2.1, .xi y83.2.2]] rfl (s1 rfl) ⟨rfl, rfl⟩
          ·refine zat (zaz (zae ⟨h, s1 rfl⟩))
  ·refine zac (kr (qm (pA w0 0) rfl ?_))
   obtain ⟨y85, hy85, h⟩ := zag h
   refine G_l rfl (zbl (m_gen_Choices_Number_ok _ _ hy85) Tryz.func58 (by kernel_rfl) (lc lf ln) ?_)
   obtain ⟨y86, hy86, h⟩ := zag h
   refine gq (zal (m_ref9_Int_ok _ _ hy86) Tryz.func7 (by kernel_rfl) (lc lf ln) (qa (.xs y86) rfl (zad (zaa (zax ?_)))))
   obtain rfl := oi h
   refine ke (pt AF0 4 (.xs y86)) [boxI 69 w0 [.row 1 c_int y85.2.1, .xi y85.2.2]] rfl (s1 rfl) ⟨rfl, rfl⟩
theorem m_gen_Choices_Value_S_ok : ∀ n : Nat, (∀ ⦃w0 : Nat⦄ (a0 : (List Int) × Int) (a1 : Int) (r : (List UInt8) × ((List Int) × Int)), m_gen_Choices_Value_S n a0 a1 = some r → Fun Tryz.prog 21 [(pA w0 0), (.exact (.int .i64 a1))] [boxI 69 w0 [.row 1 c_int a0.1, .exact (.int .i64 a0.2)]] (fun a s => a = .exact (.string (bs r.1)) ∧ s = [boxI 69 w0 [.row 1 c_int r.2.1, .exact (.int .i64 r.2.2)]]))
  | 0 => (fun _ _ _ _ h => by have h' : (none : Option _) = some _ := h; cases h')
  | n + 1 => by
    have ih := m_gen_Choices_Value_S_ok n
    exact fun w0 a0 a1 r h => m_gen_Choices_Value_F_ok (m_gen_Choices_Value_S n) ih a0 a1 r h
theorem m_gen_Choices_Value_ok {w0 : Nat} (a0 : (List Int) × Int) (a1 : Int) (r : (List UInt8) × ((List Int) × Int)) (h : m_gen_Choices_Value a0 a1 = some r) : Fun Tryz.prog 21 [(pA w0 0), (.exact (.int .i64 a1))] [boxI 69 w0 [.row 1 c_int a0.1, .exact (.int .i64 a0.2)]] (fun a s => a = .exact (.string (bs r.1)) ∧ s = [boxI 69 w0 [.row 1 c_int r.2.1, .exact (.int .i64 r.2.2)]]) := (m_gen_Choices_Value_S_ok FU) a0 a1 r h
theorem m_law11_dotted_ok {w0 : Nat} (a0 : (List Int) × Int) (a1 : List ((List UInt8) × Int × (List Int) × (List (List UInt8)))) (r : (List UInt8) × ((List Int) × Int)) (h : m_law11_dotted a0 a1 = some r) : Fun Tryz.prog 16 [(pA w0 0), (.row 4 zaf a1)] [boxI 69 w0 [.row 1 c_int a0.1, .exact (.int .i64 a0.2)]] (fun a s => a = .exact (.string (bs r.1)) ∧ s = [boxI 69 w0 [.row 1 c_int r.2.1, .exact (.int .i64 r.2.2)]]) := by
 unfold m_law11_dotted at h
 refine zar Tryz.func16 rfl Tryz.ntmps16 (by simp) rfl (res1 rfl) fun E hE => k_end (zac (kr (qa (.xs ([] : List UInt8)) rfl (zad (zaa (zac (kr (qm (pA w0 0) rfl (qm (.row 4 zaf a1) rfl (gq (zap (by kernel_rfl) rfl ?_)))))))))))
 obtain ⟨y1, hy1, h⟩ := zag h
 refine G_l rfl (zbl (zbi _ _ _ hy1) Tryz.func22 (by kernel_rfl) (lc lf (lc lf ln)) (qa (.xi y1.1) rfl (zad (zaa (zac (kr (qa (.exact (.slice none 0 0)) rfl (zad (zaa (k_join3_1 h (fun (x0_0_j2 : List Int) (x0_1_j2 : Int) (x6_j2 : List (List UInt8)) (v6_j2 : Value) => (pt (pt (pt AF0 0 (pA w0 0)) 5 (.xi y1.1)) 6 (.exact v6_j2))) (fun (x0_0_j2 : List Int) (x0_1_j2 : Int) (x6_j2 : List (List UInt8)) (v6_j2 : Value) => [boxI 69 w0 [.row 1 c_int x0_0_j2, .xi x0_1_j2], vecT Tryz.prog 23 1 zab v6_j2 x6_j2]) (fun k2 h => ?_) (fun x0_0_j2 x0_1_j2 x6_j2 v6_j2 h => ?_)))))))))))
 ·refine zac (kr (qa (.xi 0) rfl (zad (zaa (zaw (k_loop4_1 (m_law11_dotted_L2 a1 y1 k2) (m_law11_dotted_B2 a1 y1 k2) (fun _ _ _ _ => rfl) (fun m _ _ _ _ => rfl) h (fun (x0_0_l2 : List Int) (x0_1_l2 : Int) (x6_l2 : List (List UInt8)) (x7_l2 : Int) (v6_l2 : Value) => (pt (pt (pt (pt (pt AF0 0 (pA w0 0)) 1 (.row 4 zaf a1)) 5 (.xi y1.1)) 6 (.exact v6_l2)) 7 (.xi x7_l2))) (fun (x0_0_l2 : List Int) (x0_1_l2 : Int) (x6_l2 : List (List UInt8)) (x7_l2 : Int) (v6_l2 : Value) => [boxI 69 w0 [.row 1 c_int x0_0_l2, .xi x0_1_l2], vecT Tryz.prog 23 1 zab v6_l2 x6_l2]) (.slice none 0 0) ?_ (fun rec2 x0_0_l2 x0_1_l2 x6_l2 x7_l2 v6_l2 h => ?_)))))))
  ·refine Sub.trans (SubU.to (SubU.nilT (P := Tryz.prog) (t := 23) (n := 1) (enc := zab))) (Sub.trans (SubU.to SubU.f1) (so (l4 rfl rfl rfl rfl (lq rfl lt0))))
  ·unfold m_law11_dotted_B2 at h
   refine zac (k_join3_0 h (fun (x0_0_j270 : List Int) (x0_1_j270 : Int) (x25_j270 : Bool) => (pt (pt (pt (pt (pt (pt AF0 0 (pA w0 0)) 1 (.row 4 zaf a1)) 5 (.xi y1.1)) 6 (.exact v6_l2)) 7 (.xi x7_l2)) 25 (.xb x25_j270))) (fun (x0_0_j270 : List Int) (x0_1_j270 : Int) (x25_j270 : Bool) => [boxI 69 w0 [.row 1 c_int x0_0_j270, .xi x0_1_j270], vecT Tryz.prog 23 1 zab v6_l2 x6_l2]) (fun k270 h => ?_) (fun x0_0_j270 x0_1_j270 x25_j270 h => ?_))
   ·refine kr (qm (.xi x7_l2) rfl (qm (.row 4 zaf a1) rfl (qm (.xi y1.1) rfl ?_)))
    obtain ⟨n273, h⟩ := zah h
    refine gq (zao (by kernel_rfl) rfl rfl n273.1 n273.2 (gq (zbm (o := 3) (c' := (List.drop 3 (zaf (gi a1 y1.1)))) (by kernel_rfl) rfl rfl (gq (zav (a := .row 1 zab ((gi a1 y1.1).2.2.2)) (by kernel_rfl) rfl rfl (gq (zap (by kernel_rfl) rfl (gq (op_lss rfl rfl (qm (.xb (decide (x7_l2 < (List.length ((gi a1 y1.1).2.2.2) : Int)))) rfl (G_split (p := x7_l2 < (List.length ((gi a1 y1.1).2.2.2) : Int)) 21 rfl (fun hc => ?_) (fun hc => ?_))))))))))))
    ·replace h := ite_t h hc
     refine Gy_q rfl rfl rfl (zam (av := pA w0 0) rfl ?_)
     obtain ⟨y274, hy274, h⟩ := zag h
     refine Gy_l rfl rfl rfl (zbl (zbi _ _ _ hy274) Tryz.func22 (by kernel_rfl) (lc lf (lc lf ln)) (Gy_q rfl rfl rfl (op_gtr rfl rfl (gq (zau rfl (av := .xb (decide (0 < y274.1))) rfl (zad (zae ⟨_, _, _, h, so (l4 rfl rfl rfl rfl (lq rfl (lq rfl lt0)))⟩)))))))
    ·replace h := ite_f h hc
     refine G_n rfl rfl (G_n rfl rfl (G_n rfl rfl (gq (zaj rfl (av := .xb false) rfl (zad (zae ⟨_, _, _, h, so (l4 rfl rfl rfl rfl (lq rfl (lq rfl lt0)))⟩))))))
   ·refine kb (p := x25_j270) rfl h (fun hc h => ?_) (fun hc h => ?_)
    ·refine zat (zaa (k_join3_1 h (fun (x0_0_j275 : List Int) (x0_1_j275 : Int) (x6_j275 : List (List UInt8)) (v6_j275 : Value) => (pt (pt (pt (pt (pt AF0 0 (pA w0 0)) 1 (.row 4 zaf a1)) 5 (.xi y1.1)) 6 (.exact v6_j275)) 7 (.xi x7_l2))) (fun (x0_0_j275 : List Int) (x0_1_j275 : Int) (x6_j275 : List (List UInt8)) (v6_j275 : Value) => [boxI 69 w0 [.row 1 c_int x0_0_j275, .xi x0_1_j275], vecT Tryz.prog 23 1 zab v6_j275 x6_j275]) (fun k275 h => ?_) (fun x0_0_j275 x0_1_j275 x6_j275 v6_j275 h => ?_)))
     ·refine zaw (zac (kr (qm (.row 4 zaf a1) rfl (qm (.xi y1.1) rfl ?_))))
      obtain ⟨n296, h⟩ := zah h
      refine gq (zao (by kernel_rfl) rfl rfl n296.1 n296.2 (gq (zbm (o := 3) (c' := (List.drop 3 (zaf (gi a1 y1.1)))) (by kernel_rfl) rfl rfl (gq (zav (a := .row 1 zab ((gi a1 y1.1).2.2.2)) (by kernel_rfl) rfl rfl (qm (.xi x7_l2) rfl ?_))))))
      obtain ⟨n297, h⟩ := zah h
      refine gq (zao (by kernel_rfl) rfl rfl n297.1 n297.2 (gq (zav (a := .xs (gi ((gi a1 y1.1).2.2.2) x7_l2)) (by kernel_rfl) rfl rfl ?_)))
      obtain ⟨y298, hy298, h⟩ := zag h
      refine gq (zal (m_ref9_Parts_ok _ _ hy298) Tryz.func18 (by kernel_rfl) (lc lf ln) (qa (.row 1 zab y298) rfl (zad (zaa (zac (k_join3_0 h (fun (x0_0_j306 : List Int) (x0_1_j306 : Int) (x44_j306 : Bool) => (pt (pt (pt (pt (pt (pt (pt AF0 0 (pA w0 0)) 1 (.row 4 zaf a1)) 5 (.xi y1.1)) 6 (.exact v6_l2)) 7 (.xi x7_l2)) 8 (.row 1 zab y298)) 44 (.xb x44_j306))) (fun (x0_0_j306 : List Int) (x0_1_j306 : Int) (x44_j306 : Bool) => [boxI 69 w0 [.row 1 c_int x0_0_j306, .xi x0_1_j306], vecT Tryz.prog 23 1 zab v6_l2 x6_l2]) (fun k306 h => ?_) (fun x0_0_j306 x0_1_j306 x44_j306 h => ?_)))))))
      ·refine kr (qm (.row 1 zab y298) rfl (gq (zap (by kernel_rfl) rfl (gq (op_eql rfl rfl (qm (.xb (decide ((List.length y298 : Int) = 0))) rfl (G_split (p := (List.length y298 : Int) = 0) 40 rfl (fun hc => ?_) (fun hc => ?_))))))))
       ·replace h := ite_t h hc
        refine G_n rfl rfl (G_n rfl rfl (G_n rfl rfl (gq (zau rfl (av := .xb true) rfl (zad (zae ⟨_, _, _, h, so (l4 rfl rfl rfl rfl (lq rfl (lq rfl (lq rfl lt0))))⟩))))))
       ·replace h := ite_f h hc
        refine Gy_q rfl rfl rfl (zam (av := pA w0 0) rfl ?_)
        obtain ⟨y308, hy308, h⟩ := zag h
        refine Gy_l rfl rfl rfl (zbl (zbi _ _ _ hy308) Tryz.func22 (by kernel_rfl) (lc lf (lc lf ln)) (Gy_q rfl rfl rfl (op_eql rfl rfl (gq (zaj rfl (av := .xb (decide (y308.1 = 11))) rfl (zad (zae ⟨_, _, _, h, so (l4 rfl rfl rfl rfl (lq rfl (lq rfl (lq rfl lt0))))⟩)))))))
      ·refine kb (p := x44_j306) rfl h (fun hc h => ?_) (fun hc h => ?_)
       ·refine zac (kr (qm (.exact v6_l2) rfl (qm (pA w0 0) rfl ?_)))
        obtain ⟨y309, hy309, h⟩ := zag h
        refine G_l rfl (zbl (m_gen_Choices_Value_ok _ _ _ hy309) Tryz.func21 (by kernel_rfl) (lc lf (lc lf ln)) (gq (op_litT (n := 1) (enc := zab) [y309.1] (CellsAll.cons rfl CellsOf.str CellsAll.nil) rfl (by kernel_rfl) (LEss.cons (lc lf ln) LEss.nil) ?_)))
        obtain ⟨n310, h⟩ := zah h
        refine G_l rfl (opB_f1 (op_appT (by kernel_rfl) rfl rfl zbe n310 (fun v311 => qa (.exact v311) rfl (zad (zaa (k_exit (kC_exit (kB_exit (zae ⟨_, _, _, v311, h, ?_⟩)))))))))
        refine Sub.trans (SubU.to SubU.f1) (so (l4 rfl rfl rfl rfl (lq rfl lt0)))
       ·refine zat (zaa (kr (qm (.exact v6_l2) rfl (qm (.row 1 zab y298) rfl (qm (pA w0 0) rfl (qm (.row 1 zab y298) rfl (gq (zap (by kernel_rfl) rfl ?_))))))))
        obtain ⟨y312, hy312, h⟩ := zag h
        refine G_l rfl (zbl (zbi _ _ _ hy312) Tryz.func22 (by kernel_rfl) (lc lf (lc lf ln)) ?_)
        obtain ⟨n313, h⟩ := zah h
        refine gq (zao (by kernel_rfl) rfl rfl n313.1 n313.2 (gq (zav (a := .xs (gi y298 y312.1)) (by kernel_rfl) rfl rfl (gq (op_litT (n := 1) (enc := zab) [gi y298 y312.1] (CellsAll.cons rfl CellsOf.str CellsAll.nil) rfl (by kernel_rfl) (LEss.cons (lc lf ln) LEss.nil) ?_)))))
        obtain ⟨n314, h⟩ := zah h
        refine G_l rfl (opB_f1 (op_appT (by kernel_rfl) rfl rfl zbe n314 (fun v315 => qa (.exact v315) rfl (zad (zaz (zae ⟨_, _, _, v315, h, ?_⟩))))))
        refine Sub.trans (SubU.to SubU.f1) (so (l4 rfl rfl rfl rfl (lq rfl lt0)))
     ·refine kr (qm (.xi x7_l2) rfl (gq (op_add rfl rfl rfl (qa (.xi (i64 (x7_l2 + 1))) rfl (zad (zae ⟨_, _, _, _, v6_j275, h, so (l4 rfl rfl rfl rfl (lq rfl lt0))⟩))))))
    ·refine k_exit (kC_exit (kI_exit (kB_exit (zae ⟨_, _, _, v6_l2, h, s3 rfl rfl rfl⟩))))
 ·refine k_join3_1 h (fun (x0_0_j316 : List Int) (x0_1_j316 : Int) (x6_j316 : List (List UInt8)) (v6_j316 : Value) => (pt (pt (pt AF0 0 (pA w0 0)) 5 (.xi y1.1)) 6 (.exact v6_j316))) (fun (x0_0_j316 : List Int) (x0_1_j316 : Int) (x6_j316 : List (List UInt8)) (v6_j316 : Value) => [boxI 69 w0 [.row 1 c_int x0_0_j316, .xi x0_1_j316], vecT Tryz.prog 23 1 zab v6_j316 x6_j316]) (fun k316 h => ?_) (fun x0_0_j316 x0_1_j316 x6_j316 v6_j316 h => ?_)
  ·refine zac (kr (qm (pA w0 0) rfl ?_))
   obtain ⟨y321, hy321, h⟩ := zag h
   refine G_l rfl (zbl (zbi _ _ _ hy321) Tryz.func22 (by kernel_rfl) (lc lf (lc lf ln)) (gq (op_eql rfl rfl (zad (zaa (kd (p := y321.1 = 14) rfl h (fun hc h => ?_) (fun hc h => ?_)))))))
   ·refine kr (qm (.exact v6_j2) rfl (qm (pA w0 0) rfl ?_))
    obtain ⟨y322, hy322, h⟩ := zag h
    refine G_l rfl (zbl (m_gen_Choices_Value_ok _ _ _ hy322) Tryz.func21 (by kernel_rfl) (lc lf (lc lf ln)) (gq (op_litT (n := 1) (enc := zab) [y322.1] (CellsAll.cons rfl CellsOf.str CellsAll.nil) rfl (by kernel_rfl) (LEss.cons (lc lf ln) LEss.nil) ?_)))
    obtain ⟨n323, h⟩ := zah h
    refine G_l rfl (opB_f1 (op_appT (by kernel_rfl) rfl rfl zbe n323 (fun v324 => qa (.exact v324) rfl (zad (zae ⟨_, _, _, v324, h, ?_⟩)))))
    refine Sub.trans (SubU.to SubU.f1) (s3 rfl rfl rfl)
   ·refine zat (zae ⟨_, _, _, v6_j2, h, s3 rfl rfl rfl⟩)
  ·refine zac (kr (qm (.xi y1.1) rfl (qm (.exact v6_j316) rfl (G_sub rfl (SubU.trans SubU.f1 (SubU.freezeT2 (s1 := 6) (s2 := 69) rfl rfl zay)) ?_))))
   obtain ⟨y325, hy325, h⟩ := zag h
   refine gq (zal (m_ref9_Dot_ok _ _ _ hy325) Tryz.func8 (by kernel_rfl) (lc lf (lc lf ln)) (qa (.xs y325) rfl (zad (zaa (zax ?_)))))
   obtain rfl := oi h
   refine ke (pt AF0 4 (.xs y325)) [boxI 69 w0 [.row 1 c_int x0_0_j316, .xi x0_1_j316]] rfl (s1 rfl) ⟨rfl, rfl⟩
theorem m_dataspace_Productions_1_ok (a0 : List UInt8) (r : Bool) (h : m_dataspace_Productions_1 a0 = some r) : Pure Tryz.prog 48 [(.exact (.string (bs a0)))] (.exact (.bool r)) := by
 unfold m_dataspace_Productions_1 at h
 refine Pure.ofFun (zar Tryz.func48 rfl Tryz.ntmps48 (by simp) rfl (res1 rfl) fun E hE => k_end (zac (kr (qa (.xb false) rfl (zad (zaa (zac (kr (qm (.xs a0) rfl ?_)))))))))
 obtain ⟨y1, hy1, h⟩ := zag h
 refine gq (zal (m_value_Kind_ok _ _ hy1) Tryz.func31 (by kernel_rfl) (lc lf ln) (gq (op_neq rfl rfl (qa (.xb (decide (¬ y1 = 7))) rfl (zad (zaa (zax ?_)))))))
 obtain rfl := oi h
 refine ke (pt AF0 2 (.xb (decide (¬ y1 = 7)))) [] rfl (s1 rfl) ⟨rfl, rfl⟩
theorem m_dataspace_Productions_2_ok (a0 : List UInt8) (a1 : List ((List UInt8) × Int × (List Int) × (List (List UInt8)))) (r : Bool) (h : m_dataspace_Productions_2 a0 a1 = some r) : Pure Tryz.prog 49 [(.exact (.string (bs a0))), (.ptr [.row 4 zaf a1])] (.exact (.bool r)) := by
 unfold m_dataspace_Productions_2 at h
 refine Pure.ofFun (zar Tryz.func49 rfl Tryz.ntmps49 (by simp) rfl (res1 rfl) fun E hE => k_end (zac (kr (qa (.xb false) rfl (zad (zaa (zac (kr (gq (zav (a := .row 4 zaf a1) (by kernel_rfl) rfl rfl (qm (.xs a0) rfl ?_)))))))))))
 obtain ⟨y1, hy1, h⟩ := zag h
 refine gq (zal (m_dataspace_belongs_ok _ _ _ hy1) Tryz.func32 (by kernel_rfl) (lc lf (lc lf ln)) (gq (op_not rfl (qa (.xb (!y1)) rfl (zad (zaa (zax ?_)))))))
 obtain rfl := oi h
 refine ke (pt AF0 3 (.xb (!y1))) [] rfl (s1 rfl) ⟨rfl, rfl⟩
theorem m_dataspace_Productions_ok (a0 : List ((List UInt8) × Int × (List Int) × (List (List UInt8)))) (a1 : List UInt8) (r : (List UInt8) × Int) (h : m_dataspace_Productions a0 a1 = some r) : Pure Tryz.prog 17 [(.row 4 zaf a0), (.exact (.string (bs a1)))] (.tup [.exact (.string (bs r.1)), .exact (.int .i64 r.2)]) := by
 unfold m_dataspace_Productions at h
 refine Pure.ofFun (zar Tryz.func17 rfl Tryz.ntmps17 (by simp) rfl (res2 rfl) fun E hE => k_end (zac (kr (G_l rfl (op_boxI (c := [.row 4 zaf a0]) rfl CellsOf.row (lc lf ln) (fun b1 => qa (.xs ([] : List UInt8)) rfl (qa (.xi 0) rfl (zad (zaa (zac (zac (kr (G_r rfl (op_load_box1 (a := .row 4 zaf a0) (by kernel_rfl) rfl rfl ?_))))))))))))))
 obtain ⟨y2, hy2, h⟩ := zag h
 refine gq (zal (m_dataspace_Valid_ok _ _ hy2) Tryz.func30 (by kernel_rfl) (lc lf ln) (gq (op_not rfl (zad (zaa (kb (p := !y2) rfl h (fun hc h => ?_) (fun hc h => ?_)))))))
 ·refine zac (kr (qa (.xs ([] : List UInt8)) rfl (qa (.xi 1) rfl (zad (zaa (zax (zba ?_)))))))
  obtain rfl := oi h
  refine ke (pt (pt AF0 4 (.xs ([] : List UInt8))) 5 (.xi 1)) [] rfl (Sub.trans (SubU.to SubU.drop) (s2 rfl rfl)) ⟨rfl, rfl⟩
 ·refine zat (zaa (zac (kr (qm (.xs a1) rfl ?_))))
  obtain ⟨y3, hy3, h⟩ := zag h
  refine gq (zal (m_value_Parts_ok _ _ hy3) Tryz.func39 (by kernel_rfl) (lc lf ln) (qa (.row 1 zab y3) rfl (zad (zaa (zac (zbc h (fun (x18_j10 : Bool) => (pt (pt (pt AF0 2 (pA b1 0)) 6 (.row 1 zab y3)) 18 (.xb x18_j10))) (fun (x18_j10 : Bool) => [boxI 29 b1 [.row 4 zaf a0]]) (fun k10 h => ?_) (fun x18_j10 h => ?_)))))))
  ·refine kr (qm (.xs a1) rfl ?_)
   obtain ⟨y13, hy13, h⟩ := zag h
   refine gq (zal (m_value_Kind_ok _ _ hy13) Tryz.func31 (by kernel_rfl) (lc lf ln) (gq (op_neq rfl rfl (qm (.xb (decide (¬ y13 = 5))) rfl (G_split (p := ¬ y13 = 5) 15 rfl (fun hc => ?_) (fun hc => ?_))))))
   ·replace h := ite_t h hc
    refine G_n rfl rfl (G_n rfl rfl (gq (zau rfl (av := .xb true) rfl (zad (zae ⟨_, h, s3 rfl rfl rfl⟩)))))
   ·replace h := ite_f h hc
    refine Gy_q rfl rfl rfl (zam (av := .row 1 zab y3) rfl ?_)
    obtain ⟨y14, hy14, h⟩ := zag h
    refine Gy_q rfl rfl rfl (zal (m_slices_ContainsFunc_L_api_Value_api_Value_ok _ _ _ hy14) Tryz.func47 (by kernel_rfl) (lc lf (lc ((fn_le Tryz.func48 (by kernel_rfl) (fun i r h => m_dataspace_Productions_1_ok i r h))) ln)) (gq (zaj rfl (av := .xb y14) rfl (zad (zae ⟨_, h, s3 rfl rfl rfl⟩)))))
  ·refine kb (p := x18_j10) rfl h (fun hc h => ?_) (fun hc h => ?_)
   ·refine zac (kr (qa (.xs ([] : List UInt8)) rfl (qa (.xi 6) rfl (zad (zaa (zax (zba ?_)))))))
    obtain rfl := oi h
    refine ke (pt (pt AF0 4 (.xs ([] : List UInt8))) 5 (.xi 6)) [] rfl (Sub.trans (SubU.to SubU.drop) (s2 rfl rfl)) ⟨rfl, rfl⟩
   ·refine zat (zaa (zac (zac (kr (qm (.row 1 zab y3) rfl (G_sub rfl (SubU.freezeBox (s := 2) rfl) (gq (op_makeFunc (args := (fun (i : (List UInt8)) => [.xs i])) (f := (fun (i : (List UInt8)) => (fun (x0 : List UInt8) => m_dataspace_Productions_2 x0 a0) i)) (res := (fun (r : Bool) => .xb r)) Tryz.func49 (by kernel_rfl) [.ptr [.row 4 zaf a0]] (lc lf ln) (fun i r h => m_dataspace_Productions_2_ok i a0 r h) ?_))))))))
    obtain ⟨y15, hy15, h⟩ := zag h
    refine gq (zal (m_slices_ContainsFunc_L_api_Value_api_Value_ok _ _ _ hy15) Tryz.func47 (by kernel_rfl) (lc lf (lc lf ln)) (zad (zaa (kb (p := y15) rfl h (fun hc h => ?_) (fun hc h => ?_)))))
    ·refine zac (kr (qa (.xs ([] : List UInt8)) rfl (qa (.xi 18) rfl (zad (zaa (zax (zba ?_)))))))
     obtain rfl := oi h
     refine ke (pt (pt AF0 4 (.xs ([] : List UInt8))) 5 (.xi 18)) [] rfl (s2 rfl rfl) ⟨rfl, rfl⟩
    ·refine zat (zaa (zac (kr (gq (zav (a := .row 4 zaf a0) (by kernel_rfl) rfl rfl (qm (.row 1 zab y3) rfl ?_))))))
     obtain ⟨y16, hy16, h⟩ := zag h
     refine gq (zal (m_dataspace_all_ok _ _ _ hy16) Tryz.func44 (by kernel_rfl) (lc lf (lc lf ln)) (gq (zas (av := .xs y16.1) rfl rfl (gq (zas (av := .xi y16.2) rfl rfl (qa (.xs y16.1) rfl (qa (.xi y16.2) rfl (zad (zaa (zax ?_))))))))))
     obtain rfl := oi h
     refine ke (pt (pt AF0 4 (.xs y16.1)) 5 (.xi y16.2)) [] rfl (s2 rfl rfl) ⟨rfl, rfl⟩
theorem m_ref9_Kind_ok (a0 : List UInt8) (r : Int) (h : m_ref9_Kind a0 = some r) : Pure Tryz.prog 94 [(.exact (.string (bs a0)))] (.exact (.int .i64 r)) := by
 unfold m_ref9_Kind at h
 refine Pure.ofFun (zar Tryz.func94 rfl Tryz.ntmps94 (by simp) rfl (res1 rfl) fun E hE => k_end (zac (kr (qa (.xi 0) rfl (zad (zaa (zac (zac (kr (qm (.xs a0) rfl ?_))))))))))
 obtain ⟨y1, hy1, h⟩ := zag h
 refine gq (zal (m_ref9_Valid_ok _ _ hy1) Tryz.func50 (by kernel_rfl) (lc lf ln) (gq (op_not rfl (zad (zaa (kb (p := !y1) rfl h (fun hc h => ?_) (fun hc h => ?_)))))))
 ·refine zac (kr (qa (.xi 0) rfl (zad (zaa (zax (zba ?_))))))
  obtain rfl := oi h
  refine ke (pt AF0 2 (.xi 0)) [] rfl (s1 rfl) ⟨rfl, rfl⟩
 ·refine zat (zaa (zac (kr (qm (.xs a0) rfl ?_))))
  obtain ⟨n2, h⟩ := zah h
  refine gq (op_index_str (by kernel_rfl) rfl rfl n2.1 n2.2 (gq (op_convInt (k := .i64) (r := (UInt8.toNat (gi a0 0) : Int)) (by kernel_rfl) rfl (wrap_u8 rfl _) (qa (.xi (UInt8.toNat (gi a0 0) : Int)) rfl (zad (zaa (zax ?_)))))))
  obtain rfl := oi h
  refine ke (pt AF0 2 (.xi (UInt8.toNat (gi a0 0) : Int))) [] rfl (s1 rfl) ⟨rfl, rfl⟩
end Go.Proofs.YtjlbdhicabgliaaGreat
/- The functions compute their models, by program. -/
namespace Go.Proofs.YtjlbdhicabgliaaGreat
open Go.RowKit
attribute [local irreducible] AV.exact AV.top AV.row AV.ptr AV.agg AV.tup AV.eptr AV.fn AV.nilq AV.nilqn opA opB opM opR Quiet Loud Reads wpG awp den Sub SubU Pure Fun vecI vecT boxI CellsAll CellsOf OneC LEs LEss
set_option maxRecDepth 100000

set_option maxHeartbeats 4000000
theorem m_ref9_Number_ok (a0 : List UInt8) (r : Int) (h : m_ref9_Number a0 = some r) : Pure Tryz.prog 95 [(.exact (.string (bs a0)))] (.exact (.int .i64 r)) := by
 unfold m_ref9_Number at h
 refine Pure.ofFun (zar Tryz.func95 rfl Tryz.ntmps95 (by simp) rfl (res1 rfl) fun E hE => k_end (zac (kr (qa (.xi 0) rfl (zad (zaa (zac (zac (kr (qm (.xs a0) rfl ?_))))))))))
 obtain ⟨y1, hy1, h⟩ := zag h
 refine gq (zal (m_ref9_Kind_ok _ _ hy1) Tryz.func94 (by kernel_rfl) (lc lf ln) (zad (zaa (zaw (zac (kr (gq (op_eql rfl rfl (qa (.xb (decide (y1 = 1))) rfl (zad (zaa (kd (p := y1 = 1) rfl h (fun hc h => ?_) (fun hc h => ?_)))))))))))))
 ·refine zac (kr (qm (.xs a0) rfl ?_))
  obtain ⟨n2, h⟩ := zah h
  refine gq (op_slice_strd (by kernel_rfl) rfl (bnd_some rfl) bnd_none (by decide) n2 (Int.le_refl _) ?_)
  obtain ⟨y3, hy3, h⟩ := zag h
  refine gq (zal (m_ref9_number_ok _ _ hy3) Tryz.func118 (by kernel_rfl) (lc lf ln) (qa (.xi y3) rfl (zad (zaa (zax (zbb (zba ?_)))))))
  obtain rfl := oi h
  refine ke (pt AF0 2 (.xi y3)) [] rfl (s1 rfl) ⟨rfl, rfl⟩
 ·refine zac (kr (gq (op_eql rfl rfl (qa (.xb (decide (y1 = 2))) rfl (zad (zaa (kd (p := y1 = 2) rfl h (fun hc h => ?_) (fun hc h => ?_))))))))
  ·refine zac (kr (qm (.xs a0) rfl ?_))
   obtain ⟨n4, h⟩ := zah h
   refine gq (op_index_str (by kernel_rfl) rfl rfl n4.1 n4.2 (gq (op_convInt (k := .i64) (r := (UInt8.toNat (gi a0 1) : Int)) (by kernel_rfl) rfl (wrap_u8 rfl _) (qa (.xi (UInt8.toNat (gi a0 1) : Int)) rfl (zad (zaa (zax (zbb (zba ?_)))))))))
   obtain rfl := oi h
   refine ke (pt AF0 2 (.xi (UInt8.toNat (gi a0 1) : Int))) [] rfl (s1 rfl) ⟨rfl, rfl⟩
  ·refine zac (kr (gq (op_eql rfl rfl (qa (.xb (decide (y1 = 10))) rfl (zad (zaa (kd (p := y1 = 10) rfl h (fun hc h => ?_) (fun hc h => ?_))))))))
   ·refine zac (k_plan [] [(0, 0), (0, 1), (0, 2), (0, 3), (0, 4), (0, 5), (0, 6), (0, 7), (0, 8)] hmixP (by kernel_rfl) (P_q zaq rfl (zam (av := .xs a0) rfl ?_)))
    obtain ⟨n5, h⟩ := zah h
    refine P_q zaq rfl (op_index_str (by kernel_rfl) rfl rfl n5.1 n5.2 (P_q zaq rfl (op_convInt (k := .i64) (r := (UInt8.toNat (gi a0 1) : Int)) (by kernel_rfl) rfl (wrap_u8 rfl _) (P_q zaq rfl (op_shl rfl rfl (by decide) rfl (P_q zaq rfl (zam (av := .xs a0) rfl ?_)))))))
    obtain ⟨n6, h⟩ := zah h
    refine P_q zaq rfl (op_index_str (by kernel_rfl) rfl rfl n6.1 n6.2 (P_q zaq rfl (op_convInt (k := .i64) (r := (UInt8.toNat (gi a0 2) : Int)) (by kernel_rfl) rfl (wrap_u8 rfl _) (P_q zaq rfl (op_or rfl rfl rfl (P_q zaq rfl (op_assign (av := .xi (bOr .i64 (i64 ((UInt8.toNat (gi a0 1) : Int) * 2 ^ min (Int.toNat 8) IntKind.i64.bits)) (UInt8.toNat (gi a0 2) : Int))) rfl (P_nil (zaa (zax (zbb (zba ?_))))))))))))
    obtain rfl := oi h
    refine ke (pt AF0 2 (.xi (bOr .i64 (i64 ((UInt8.toNat (gi a0 1) : Int) * 2 ^ min (Int.toNat 8) IntKind.i64.bits)) (UInt8.toNat (gi a0 2) : Int)))) [] rfl (s1 rfl) ⟨rfl, rfl⟩
   ·refine zat (zaz (zaa (zac (kr (qa (.xi 0) rfl (zad (zaa (zax ?_))))))))
    obtain rfl := oi h
    refine ke (pt AF0 2 (.xi 0)) [] rfl (s1 rfl) ⟨rfl, rfl⟩
theorem m_ref9_sets_ok (a0 : List (List UInt8)) (r : Bool) (h : m_ref9_sets a0 = some r) : Pure Tryz.prog 120 [(.row 1 zab a0)] (.exact (.bool r)) := by
 unfold m_ref9_sets at h
 refine Pure.ofFun (zar Tryz.func120 rfl Tryz.ntmps120 (by simp) rfl (res1 rfl) fun E hE => k_end (zac (kr (qa (.xb false) rfl (zad (zaa (k_join0_0 h (AF0) ([]) (fun k1 h => ?_) (fun  h => ?_))))))))
 ·refine zac (kr (qa (.xi 0) rfl (zad (zaa (zaw (k_loop1_0 (m_ref9_sets_L2 a0 k1) (m_ref9_sets_B2 a0 k1) (fun _ => rfl) (fun m _ => rfl) h (fun (x3_l2 : Int) => (pt (pt AF0 0 (.row 1 zab a0)) 3 (.xi x3_l2))) (fun (x3_l2 : Int) => []) ?_ (fun rec2 x3_l2 h => ?_)))))))
  ·exact s2 rfl rfl
  ·unfold m_ref9_sets_B2 at h
   refine zac (zac (kr (qm (.xi x3_l2) rfl (qm (.row 1 zab a0) rfl (gq (zap (by kernel_rfl) rfl (gq (op_lss rfl rfl (zad (zaa (kd (p := x3_l2 < (List.length a0 : Int)) rfl h (fun hc h => ?_) (fun hc h => ?_))))))))))))
   ·refine zat (zaa (zac (zaw (zac (kr (qm (.row 1 zab a0) rfl (qm (.xi x3_l2) rfl ?_)))))))
    obtain ⟨n13, h⟩ := zah h
    refine gq (zao (by kernel_rfl) rfl rfl n13.1 n13.2 (gq (zav (a := .xs (gi a0 x3_l2)) (by kernel_rfl) rfl rfl ?_)))
    obtain ⟨y14, hy14, h⟩ := zag h
    refine gq (zal (m_ref9_Kind_ok _ _ hy14) Tryz.func94 (by kernel_rfl) (lc lf ln) (gq (op_neq rfl rfl (zad (zaa (kd (p := ¬ y14 = 5) rfl h (fun hc h => ?_) (fun hc h => ?_)))))))
    ·refine zac (kr (qa (.xb false) rfl (zad (zaa (zax (zbb (zba (zbj (zbb (zbj ?_))))))))))
     obtain rfl := oi h
     refine ke (pt AF0 2 (.xb false)) [] rfl (s1 rfl) ⟨rfl, rfl⟩
    ·refine zat (zaz (zaa (kr (qm (.xi x3_l2) rfl (gq (op_add rfl rfl rfl (qa (.xi (i64 (x3_l2 + 1))) rfl (zad (zae ⟨_, h, s2 rfl rfl⟩)))))))))
   ·refine k_exit (kC_exit (kI_exit (kB_exit (zae ⟨h, Sub.of_le lt0⟩))))
 ·refine zac (kr (qa (.xb true) rfl (zad (zaa (zax ?_)))))
  obtain rfl := oi h
  refine ke (pt AF0 2 (.xb true)) [] rfl (s1 rfl) ⟨rfl, rfl⟩
theorem m_ref9_has_ok (a0 : List (List UInt8)) (a1 : List UInt8) (r : Bool) (h : m_ref9_has a0 a1 = some r) : Pure Tryz.prog 126 [(.row 1 zab a0), (.exact (.string (bs a1)))] (.exact (.bool r)) := by
 unfold m_ref9_has at h
 refine Pure.ofFun (zar Tryz.func126 rfl Tryz.ntmps126 (by simp) rfl (res1 rfl) fun E hE => k_end (zac (kr (qa (.xb false) rfl (zad (zaa (k_join0_0 h (AF0) ([]) (fun k1 h => ?_) (fun  h => ?_))))))))
 ·refine zac (kr (qa (.xi 0) rfl (zad (zaa (zaw (k_loop1_0 (m_ref9_has_L2 a0 a1 k1) (m_ref9_has_B2 a0 a1 k1) (fun _ => rfl) (fun m _ => rfl) h (fun (x5_l2 : Int) => (pt (pt (pt AF0 0 (.row 1 zab a0)) 1 (.xs a1)) 5 (.xi x5_l2))) (fun (x5_l2 : Int) => []) ?_ (fun rec2 x5_l2 h => ?_)))))))
  ·exact s3 rfl rfl rfl
  ·unfold m_ref9_has_B2 at h
   refine zac (zac (kr (qm (.xi x5_l2) rfl (qm (.row 1 zab a0) rfl (gq (zap (by kernel_rfl) rfl (gq (op_lss rfl rfl (zad (zaa (kd (p := x5_l2 < (List.length a0 : Int)) rfl h (fun hc h => ?_) (fun hc h => ?_))))))))))))
   ·refine zat (zaa (zac (zaw (zac (kr (qm (.row 1 zab a0) rfl (qm (.xi x5_l2) rfl ?_)))))))
    obtain ⟨n8, h⟩ := zah h
    refine gq (zao (by kernel_rfl) rfl rfl n8.1 n8.2 (gq (zav (a := .xs (gi a0 x5_l2)) (by kernel_rfl) rfl rfl (qm (.xs a1) rfl (gq (op_eqlS rfl rfl (zad (zaa (kd (p := (gi a0 x5_l2) = a1) rfl h (fun hc h => ?_) (fun hc h => ?_))))))))))
    ·refine zac (kr (qa (.xb true) rfl (zad (zaa (zax (zbb (zba (zbj (zbb (zbj ?_))))))))))
     obtain rfl := oi h
     refine ke (pt AF0 4 (.xb true)) [] rfl (s1 rfl) ⟨rfl, rfl⟩
    ·refine zat (zaz (zaa (kr (qm (.xi x5_l2) rfl (gq (op_add rfl rfl rfl (qa (.xi (i64 (x5_l2 + 1))) rfl (zad (zae ⟨_, h, s3 rfl rfl rfl⟩)))))))))
   ·refine k_exit (kC_exit (kI_exit (kB_exit (zae ⟨h, Sub.of_le lt0⟩))))
 ·refine zac (kr (qa (.xb false) rfl (zad (zaa (zax ?_)))))
  obtain rfl := oi h
  refine ke (pt AF0 4 (.xb false)) [] rfl (s1 rfl) ⟨rfl, rfl⟩
theorem m_ref9_Member_ok (a0 : List UInt8) (a1 : List UInt8) (r : Bool × Int) (h : m_ref9_Member a0 a1 = some r) : Pure Tryz.prog 119 [(.exact (.string (bs a0))), (.exact (.string (bs a1)))] (.tup [.exact (.bool r.1), .exact (.int .i64 r.2)]) := by
 unfold m_ref9_Member at h
 refine Pure.ofFun (zar Tryz.func119 rfl Tryz.ntmps119 (by simp) rfl (res2 rfl) fun E hE => k_end (zac (kr (qa (.xb false) rfl (qa (.xi 0) rfl (zad (zaa (zac (zbc h (fun (x14_j7 : Bool) => (pt (pt (pt AF0 0 (.xs a0)) 1 (.xs a1)) 14 (.xb x14_j7))) (fun (x14_j7 : Bool) => []) (fun k7 h => ?_) (fun x14_j7 h => ?_))))))))))
 ·refine kr (qm (.xs a0) rfl ?_)
  obtain ⟨y10, hy10, h⟩ := zag h
  refine gq (zal (m_ref9_Valid_ok _ _ hy10) Tryz.func50 (by kernel_rfl) (lc lf ln) (gq (op_not rfl (qm (.xb (!y10)) rfl (G_splitB (c := !y10) 9 rfl (fun hc => ?_) (fun hc => ?_))))))
  ·replace h := ite_t h hc
   refine G_n rfl rfl (G_n rfl rfl (G_n rfl rfl (G_n rfl rfl (gq (zau rfl (av := .xb true) rfl (zad (zae ⟨_, h, s3 rfl rfl rfl⟩)))))))
  ·replace h := ite_f h hc
   refine Gy_q rfl rfl rfl (zam (av := .xs a1) rfl (Gy_q rfl rfl rfl (op_litT (n := 1) (enc := zab) [a1] (CellsAll.cons rfl CellsOf.str CellsAll.nil) rfl (by kernel_rfl) (LEss.cons (lc lf ln) LEss.nil) ?_)))
   obtain ⟨y11, hy11, h⟩ := zag h
   refine Gy_q rfl rfl rfl (zal (m_ref9_sets_ok _ _ hy11) Tryz.func120 (by kernel_rfl) (lc lf ln) (Gy_q rfl rfl rfl (op_not rfl (gq (zaj rfl (av := .xb (!y11)) rfl (zad (zae ⟨_, h, s3 rfl rfl rfl⟩)))))))
 ·refine kb (p := x14_j7) rfl h (fun hc h => ?_) (fun hc h => ?_)
  ·refine zac (kr (qa (.xb false) rfl (qa (.xi 6) rfl (zad (zaa (zax (zba ?_)))))))
   obtain rfl := oi h
   refine ke (pt (pt AF0 4 (.xb false)) 5 (.xi 6)) [] rfl (s2 rfl rfl) ⟨rfl, rfl⟩
  ·refine zat (zaa (zac (kr (qm (.xs a1) rfl ?_))))
   obtain ⟨y12, hy12, h⟩ := zag h
   refine gq (zal (m_ref9_Parts_ok _ _ hy12) Tryz.func18 (by kernel_rfl) (lc lf ln) (qm (.xs a0) rfl ?_))
   obtain ⟨y13, hy13, h⟩ := zag h
   refine gq (zal (m_ref9_has_ok _ _ _ hy13) Tryz.func126 (by kernel_rfl) (lc lf (lc lf ln)) (qa (.xb y13) rfl (qa (.xi 0) rfl (zad (zaa (zax ?_))))))
   obtain rfl := oi h
   refine ke (pt (pt AF0 4 (.xb y13)) 5 (.xi 0)) [] rfl (s2 rfl rfl) ⟨rfl, rfl⟩
theorem m_ref11_in_ok (a0 : List UInt8) (a1 : List UInt8) (r : Bool) (h : m_ref11_in a0 a1 = some r) : Pure Tryz.prog 96 [(.exact (.string (bs a0))), (.exact (.string (bs a1)))] (.exact (.bool r)) := by
 unfold m_ref11_in at h
 refine Pure.ofFun (zar Tryz.func96 rfl Tryz.ntmps96 (by simp) rfl (res1 rfl) fun E hE => k_end (zac (kr (qa (.xb false) rfl (zad (zaa (zac (kr (qm (.xs a0) rfl (qm (.xs a1) rfl ?_))))))))))
 obtain ⟨y1, hy1, h⟩ := zag h
 refine gq (zal (m_ref9_Member_ok _ _ _ hy1) Tryz.func119 (by kernel_rfl) (lc lf (lc lf ln)) (qm (.tup [.xb y1.1, .xi y1.2]) rfl (gq (zas (av := .xb y1.1) rfl rfl (gq (zas (av := .xi y1.2) rfl rfl (qa (.xb y1.1) rfl (qa (.xi y1.2) rfl (zad (zaa (zbc h (fun (x4_j2 : Bool) => (pt AF0 4 (.xb x4_j2))) (fun (x4_j2 : Bool) => []) (fun k2 h => ?_) (fun x4_j2 h => ?_))))))))))))
 ·refine kr (qm (.xs a1) rfl (gq (op_eqlS rfl rfl (qm (.xb (decide (a1 = ([] : List UInt8)))) rfl (G_split (p := a1 = ([] : List UInt8)) 15 rfl (fun hc => ?_) (fun hc => ?_))))))
  ·replace h := ite_t h hc
   refine G_n rfl rfl (G_n rfl rfl (G_n rfl rfl (G_u rfl rfl (G_n rfl rfl (gq (zau rfl (av := .xb true) rfl (qa (.xb true) rfl (zad (zae ⟨_, h, s1 rfl⟩)))))))))
  ·replace h := ite_f h hc
   refine Gy_q rfl rfl rfl (zam (av := .xi y1.2) rfl (Gy_q rfl rfl rfl (op_eql rfl rfl (Gy_q rfl rfl rfl (zam (av := .xb (decide (y1.2 = 0))) rfl (G_split (p := y1.2 = 0) 18 rfl (fun hc => ?_) (fun hc => ?_)))))))
   ·replace h := ite_t h hc
    refine Gy_q rfl rfl rfl (zam (av := .xb y1.1) rfl (Gy_q rfl rfl rfl (zau rfl (av := .xb y1.1) rfl (gq (zaj rfl (av := .xb y1.1) rfl (qa (.xb y1.1) rfl (zad (zae ⟨_, h, s1 rfl⟩))))))))
   ·replace h := ite_f h hc
    refine G_n rfl rfl (Gy_q rfl rfl rfl (zaj rfl (av := .xb false) rfl (gq (zaj rfl (av := .xb false) rfl (qa (.xb false) rfl (zad (zae ⟨_, h, s1 rfl⟩)))))))
 ·refine zax ?_
  obtain rfl := oi h
  refine ke (pt AF0 4 (.xb x4_j2)) [] rfl (s1 rfl) ⟨rfl, rfl⟩
theorem m_ref11_belongs_ok (a0 : List ((List UInt8) × Int × (List Int) × (List (List UInt8)))) (a1 : List UInt8) (r : Int × (List (List UInt8)) × Bool) (h : m_ref11_belongs a0 a1 = some r) : Pure Tryz.prog 52 [(.row 4 zaf a0), (.exact (.string (bs a1)))] (.tup [.exact (.int .i64 r.1), .row 1 zab r.2.1, .exact (.bool r.2.2)]) := by
 unfold m_ref11_belongs at h
 refine Pure.ofFun (zar Tryz.func52 rfl Tryz.ntmps52 (by simp) rfl (res3 rfl) fun E hE => k_end (zac (kr (qa (.xi 0) rfl (qa (.exact (.slice none 0 0)) rfl (qa (.xb false) rfl (zad (zaa (zac (zac (kr (qm (.xs a1) rfl ?_))))))))))))
 obtain ⟨y1, hy1, h⟩ := zag h
 refine gq (zal (m_ref9_Kind_ok _ _ hy1) Tryz.func94 (by kernel_rfl) (lc lf ln) (gq (op_neq rfl rfl (zad (zaa (kd (p := ¬ y1 = 7) rfl h (fun hc h => ?_) (fun hc h => ?_)))))))
 ·refine zac (kr (qa (.xi 0) rfl (qa (.exact (.slice none 0 0)) rfl (qa (.xb false) rfl (zad (zaa (zax (zba ?_))))))))
  obtain rfl := oi h
  refine ke (pt (pt (pt AF0 4 (.xi 0)) 5 (.row 1 zab [])) 6 (.xb false)) [] rfl (so (lq rfl (AF.le_put (row_nil (by decide)) (lq rfl lt0)))) ⟨rfl, rfl⟩
 ·refine zat (zaa (zac (kr (qm (.xs a1) rfl ?_))))
  obtain ⟨y2, hy2, h⟩ := zag h
  refine gq (zal (m_ref9_Parts_ok _ _ hy2) Tryz.func18 (by kernel_rfl) (lc lf ln) (qa (.row 1 zab y2) rfl (zad (zaa (zac (kr (qm (.row 1 zab y2) rfl ?_)))))))
  obtain ⟨n3, h⟩ := zah h
  refine gq (zao (by kernel_rfl) rfl rfl n3.1 n3.2 (gq (zav (a := .xs (gi y2 0)) (by kernel_rfl) rfl rfl ?_)))
  obtain ⟨y4, hy4, h⟩ := zag h
  refine gq (zal (m_ref9_Number_ok _ _ hy4) Tryz.func95 (by kernel_rfl) (lc lf ln) (qa (.xi y4) rfl (zad (zaa (zac (kr (qm (.row 1 zab y2) rfl ?_)))))))
  obtain ⟨n5, h⟩ := zah h
  refine gq (op_slice_rowd (by kernel_rfl) rfl (bnd_some rfl) bnd_none (by decide) n5 (Int.le_refl _) (qa (.row 1 zab (List.drop (Int.toNat 1) y2)) rfl (zad (zaa (zac (zbc h (fun (x36_j10 : Bool) => (pt (pt (pt (pt AF0 0 (.row 4 zaf a0)) 8 (.xi y4)) 9 (.row 1 zab (List.drop (Int.toNat 1) y2))) 36 (.xb x36_j10))) (fun (x36_j10 : Bool) => []) (fun k10 h => ?_) (fun x36_j10 h => ?_)))))))
  ·refine kr (qm (.xi y4) rfl (qm (.row 4 zaf a0) rfl (gq (zap (by kernel_rfl) rfl (gq (op_geq rfl rfl (qm (.xb (decide ((List.length a0 : Int) ≤ y4))) rfl (G_split (p := (List.length a0 : Int) ≤ y4) 26 rfl (fun hc => ?_) (fun hc => ?_)))))))))
   ·replace h := ite_t h hc
    refine G_n rfl rfl (G_n rfl rfl (G_n rfl rfl (G_n rfl rfl (G_n rfl rfl (G_n rfl rfl (G_n rfl rfl (G_n rfl rfl (G_n rfl rfl (gq (zau rfl (av := .xb true) rfl (zad (zae ⟨_, h, s4 rfl rfl rfl rfl⟩))))))))))))
   ·replace h := ite_f h hc
    refine Gy_q rfl rfl rfl (zam (av := .row 1 zab (List.drop (Int.toNat 1) y2)) rfl (Gy_q rfl rfl rfl (zap (by kernel_rfl) rfl (Gy_q rfl rfl rfl (zam (av := .row 4 zaf a0) rfl (Gy_q rfl rfl rfl (zam (av := .xi y4) rfl ?_)))))))
    obtain ⟨n12, h⟩ := zah h
    refine Gy_q rfl rfl rfl (zao (by kernel_rfl) rfl rfl n12.1 n12.2 (Gy_q rfl rfl rfl (zbm (o := 3) (c' := (List.drop 3 (zaf (gi a0 y4)))) (by kernel_rfl) rfl rfl (Gy_q rfl rfl rfl (zav (a := .row 1 zab ((gi a0 y4).2.2.2)) (by kernel_rfl) rfl rfl (Gy_q rfl rfl rfl (zap (by kernel_rfl) rfl (Gy_q rfl rfl rfl (op_gtr rfl rfl (gq (zaj rfl (av := .xb (decide ((List.length ((gi a0 y4).2.2.2) : Int) < (List.length (List.drop (Int.toNat 1) y2) : Int)))) rfl (zad (zae ⟨_, h, s4 rfl rfl rfl rfl⟩)))))))))))))
  ·refine kb (p := x36_j10) rfl h (fun hc h => ?_) (fun hc h => ?_)
   ·refine zac (kr (qa (.xi 0) rfl (qa (.exact (.slice none 0 0)) rfl (qa (.xb false) rfl (zad (zaa (zax (zba ?_))))))))
    obtain rfl := oi h
    refine ke (pt (pt (pt AF0 4 (.xi 0)) 5 (.row 1 zab [])) 6 (.xb false)) [] rfl (so (lq rfl (AF.le_put (row_nil (by decide)) (lq rfl lt0)))) ⟨rfl, rfl⟩
   ·refine zat (zaa (k_join0_0 h ((pt (pt AF0 8 (.xi y4)) 9 (.row 1 zab (List.drop (Int.toNat 1) y2)))) ([]) (fun k13 h => ?_) (fun  h => ?_)))
    ·refine zac (kr (qa (.xi 0) rfl (zad (zaa (zaw (k_loop1_0 (m_ref11_belongs_L2 a0 y2 y4 k13) (m_ref11_belongs_B2 a0 y2 y4 k13) (fun _ => rfl) (fun m _ => rfl) h (fun (x10_l2 : Int) => (pt (pt (pt (pt AF0 0 (.row 4 zaf a0)) 8 (.xi y4)) 9 (.row 1 zab (List.drop (Int.toNat 1) y2))) 10 (.xi x10_l2))) (fun (x10_l2 : Int) => []) ?_ (fun rec2 x10_l2 h => ?_)))))))
     ·exact s4 rfl rfl rfl rfl
     ·unfold m_ref11_belongs_B2 at h
      refine zac (zac (kr (qm (.xi x10_l2) rfl (qm (.row 1 zab (List.drop (Int.toNat 1) y2)) rfl (gq (zap (by kernel_rfl) rfl (gq (op_lss rfl rfl (zad (zaa (kd (p := x10_l2 < (List.length (List.drop (Int.toNat 1) y2) : Int)) rfl h (fun hc h => ?_) (fun hc h => ?_))))))))))))
      ·refine zat (zaa (zac (zaw (zac (k_plan [] [(0, 0), (0, 1), (0, 2), (0, 3), (0, 4), (0, 5), (0, 6), (0, 7), (0, 8), (0, 9), (0, 10), (0, 11), (0, 12), (0, 13)] hmixP (by kernel_rfl) (P_q zaq rfl (zam (av := .row 1 zab (List.drop (Int.toNat 1) y2)) rfl (P_q zaq rfl (zam (av := .xi x10_l2) rfl ?_)))))))))
       obtain ⟨n35, h⟩ := zah h
       refine P_q zaq rfl (zao (by kernel_rfl) rfl rfl n35.1 n35.2 (P_q zaq rfl (zav (a := .xs (gi (List.drop (Int.toNat 1) y2) x10_l2)) (by kernel_rfl) rfl rfl (P_q zaq rfl (zam (av := .row 4 zaf a0) rfl (P_q zaq rfl (zam (av := .xi y4) rfl ?_)))))))
       obtain ⟨n36, h⟩ := zah h
       refine P_q zaq rfl (zao (by kernel_rfl) rfl rfl n36.1 n36.2 (P_q zaq rfl (zbm (o := 3) (c' := (List.drop 3 (zaf (gi a0 y4)))) (by kernel_rfl) rfl rfl (P_q zaq rfl (zav (a := .row 1 zab ((gi a0 y4).2.2.2)) (by kernel_rfl) rfl rfl (P_q zaq rfl (zam (av := .xi x10_l2) rfl ?_)))))))
       obtain ⟨n37, h⟩ := zah h
       refine P_q zaq rfl (zao (by kernel_rfl) rfl rfl n37.1 n37.2 (P_q zaq rfl (zav (a := .xs (gi ((gi a0 y4).2.2.2) x10_l2)) (by kernel_rfl) rfl rfl ?_)))
       obtain ⟨y38, hy38, h⟩ := zag h
       refine P_q zaq rfl (zal (m_ref11_in_ok _ _ _ hy38) Tryz.func96 (by kernel_rfl) (lc lf (lc lf ln)) (P_q zaq rfl (op_not rfl (P_nil (zaa (kb (p := !y38) rfl h (fun hc h => ?_) (fun hc h => ?_)))))))
       ·refine zac (kr (qa (.xi 0) rfl (qa (.exact (.slice none 0 0)) rfl (qa (.xb false) rfl (zad (zaa (zax (zbb (zba (zbj (zbb (zbj ?_))))))))))))
        obtain rfl := oi h
        refine ke (pt (pt (pt AF0 4 (.xi 0)) 5 (.row 1 zab [])) 6 (.xb false)) [] rfl (so (lq rfl (AF.le_put (row_nil (by decide)) (lq rfl lt0)))) ⟨rfl, rfl⟩
       ·refine zat (zaz (zaa (kr (qm (.xi x10_l2) rfl (gq (op_add rfl rfl rfl (qa (.xi (i64 (x10_l2 + 1))) rfl (zad (zae ⟨_, h, s4 rfl rfl rfl rfl⟩)))))))))
      ·refine k_exit (kC_exit (kI_exit (kB_exit (zae ⟨h, s2 rfl rfl⟩))))
    ·refine zac (kr (qm (.xi y4) rfl (qm (.row 1 zab (List.drop (Int.toNat 1) y2)) rfl (qa (.xi y4) rfl (qa (.row 1 zab (List.drop (Int.toNat 1) y2)) rfl (qa (.xb true) rfl (zad (zaa (zax ?_)))))))))
     obtain rfl := oi h
     refine ke (pt (pt (pt AF0 4 (.xi y4)) 5 (.row 1 zab (List.drop (Int.toNat 1) y2))) 6 (.xb true)) [] rfl (s3 rfl rfl rfl) ⟨rfl, rfl⟩
theorem m_ref11_ValidNames_ok (a0 : List ((List UInt8) × Int × (List Int) × (List (List UInt8)))) (r : Bool) (h : m_ref11_ValidNames a0 = some r) : Pure Tryz.prog 53 [(.row 4 zaf a0)] (.exact (.bool r)) := by
 unfold m_ref11_ValidNames at h
 refine Pure.ofFun (zar Tryz.func53 rfl Tryz.ntmps53 (by simp) rfl (res1 rfl) fun E hE => k_end (zac (kr (qa (.xb false) rfl (zad (zaa (zac (zac (kr (qm (.row 4 zaf a0) rfl (gq (zap (by kernel_rfl) rfl (gq (op_gtr rfl rfl (zad (zaa (kd (p := 65536 < (List.length a0 : Int)) rfl h (fun hc h => ?_) (fun hc h => ?_))))))))))))))))))
 ·refine zac (kr (qa (.xb false) rfl (zad (zaa (zax (zba ?_))))))
  obtain rfl := oi h
  refine ke (pt AF0 2 (.xb false)) [] rfl (s1 rfl) ⟨rfl, rfl⟩
 ·refine zat (zaa (k_join0_0 h (AF0) ([]) (fun k1 h => ?_) (fun  h => ?_)))
  ·refine zac (kr (qa (.xi 0) rfl (zad (zaa (zaw (k_loop1_0 (m_ref11_ValidNames_L8 a0 k1) (m_ref11_ValidNames_B8 a0 k1) (fun _ => rfl) (fun m _ => rfl) h (fun (x3_l8 : Int) => (pt (pt AF0 0 (.row 4 zaf a0)) 3 (.xi x3_l8))) (fun (x3_l8 : Int) => []) ?_ (fun rec8 x3_l8 h => ?_)))))))
   ·exact s2 rfl rfl
   ·unfold m_ref11_ValidNames_B8 at h
    refine zac (zac (kr (qm (.xi x3_l8) rfl (qm (.row 4 zaf a0) rfl (gq (zap (by kernel_rfl) rfl (gq (op_lss rfl rfl (zad (zaa (kd (p := x3_l8 < (List.length a0 : Int)) rfl h (fun hc h => ?_) (fun hc h => ?_))))))))))))
    ·refine zat (zaa (k_join0_0 h ((pt (pt AF0 0 (.row 4 zaf a0)) 3 (.xi x3_l8))) ([]) (fun k488 h => ?_) (fun  h => ?_)))
     ·refine zaw (zac (zbc h (fun (x29_j543 : Bool) => (pt (pt (pt AF0 0 (.row 4 zaf a0)) 3 (.xi x3_l8)) 29 (.xb x29_j543))) (fun (x29_j543 : Bool) => []) (fun k543 h => ?_) (fun x29_j543 h => ?_)))
      ·refine kr (qm (.row 4 zaf a0) rfl (qm (.xi x3_l8) rfl ?_))
       obtain ⟨n546, h⟩ := zah h
       refine gq (zao (by kernel_rfl) rfl rfl n546.1 n546.2 (gq (zbm (o := 3) (c' := (List.drop 3 (zaf (gi a0 x3_l8)))) (by kernel_rfl) rfl rfl (gq (zav (a := .row 1 zab ((gi a0 x3_l8).2.2.2)) (by kernel_rfl) rfl rfl (gq (zap (by kernel_rfl) rfl (gq (op_gtr rfl rfl (qm (.xb (decide (8 < (List.length ((gi a0 x3_l8).2.2.2) : Int)))) rfl (G_split (p := 8 < (List.length ((gi a0 x3_l8).2.2.2) : Int)) 22 rfl (fun hc => ?_) (fun hc => ?_))))))))))))
       ·replace h := ite_t h hc
        refine G_n rfl rfl (G_n rfl rfl (G_n rfl rfl (G_n rfl rfl (G_n rfl rfl (G_n rfl rfl (gq (zau rfl (av := .xb true) rfl (zad (zae ⟨_, h, s3 rfl rfl rfl⟩)))))))))
       ·replace h := ite_f h hc
        refine Gy_q rfl rfl rfl (zam (av := .row 4 zaf a0) rfl (Gy_q rfl rfl rfl (zam (av := .xi x3_l8) rfl ?_)))
        obtain ⟨n547, h⟩ := zah h
        refine Gy_q rfl rfl rfl (zao (by kernel_rfl) rfl rfl n547.1 n547.2 (Gy_q rfl rfl rfl (zbm (o := 1) (c' := (List.drop 1 (zaf (gi a0 x3_l8)))) (by kernel_rfl) rfl rfl (Gy_q rfl rfl rfl (zav (a := .xi ((gi a0 x3_l8).2.1)) (by kernel_rfl) rfl rfl (Gy_q rfl rfl rfl (op_lss rfl rfl (gq (zaj rfl (av := .xb (decide (((gi a0 x3_l8).2.1) < (-1)))) rfl (zad (zae ⟨_, h, s3 rfl rfl rfl⟩)))))))))))
      ·refine kb (p := x29_j543) rfl h (fun hc h => ?_) (fun hc h => ?_)
       ·refine zac (kr (qa (.xb false) rfl (zad (zaa (zax (zba (zbb (zbj (zbj (zbb (zbj ?_)))))))))))
        obtain rfl := oi h
        refine ke (pt AF0 2 (.xb false)) [] rfl (s1 rfl) ⟨rfl, rfl⟩
       ·refine zat (zaa (zac (kr (qa (.xi 0) rfl (zad (zaa (zaw (k_loop1_0 (m_ref11_ValidNames_L14 a0 x3_l8 k488) (m_ref11_ValidNames_B14 a0 x3_l8 k488) (fun _ => rfl) (fun m _ => rfl) h (fun (x4_l14 : Int) => (pt (pt (pt AF0 0 (.row 4 zaf a0)) 3 (.xi x3_l8)) 4 (.xi x4_l14))) (fun (x4_l14 : Int) => []) ?_ (fun rec14 x4_l14 h => ?_)))))))))
        ·exact s3 rfl rfl rfl
        ·unfold m_ref11_ValidNames_B14 at h
         refine zac (zac (kr (qm (.xi x4_l14) rfl (qm (.row 4 zaf a0) rfl (qm (.xi x3_l8) rfl ?_)))))
         obtain ⟨n572, h⟩ := zah h
         refine gq (zao (by kernel_rfl) rfl rfl n572.1 n572.2 (gq (zbm (o := 3) (c' := (List.drop 3 (zaf (gi a0 x3_l8)))) (by kernel_rfl) rfl rfl (gq (zav (a := .row 1 zab ((gi a0 x3_l8).2.2.2)) (by kernel_rfl) rfl rfl (gq (zap (by kernel_rfl) rfl (gq (op_lss rfl rfl (zad (zaa (kd (p := x4_l14 < (List.length ((gi a0 x3_l8).2.2.2) : Int)) rfl h (fun hc h => ?_) (fun hc h => ?_)))))))))))))
         ·refine zat (zaa (zac (zaw (zac (kr (qm (.row 4 zaf a0) rfl (qm (.xi x3_l8) rfl ?_)))))))
          obtain ⟨n579, h⟩ := zah h
          refine gq (zao (by kernel_rfl) rfl rfl n579.1 n579.2 (gq (zbm (o := 3) (c' := (List.drop 3 (zaf (gi a0 x3_l8)))) (by kernel_rfl) rfl rfl (gq (zav (a := .row 1 zab ((gi a0 x3_l8).2.2.2)) (by kernel_rfl) rfl rfl (qm (.xi x4_l14) rfl ?_))))))
          obtain ⟨n580, h⟩ := zah h
          refine gq (zao (by kernel_rfl) rfl rfl n580.1 n580.2 (gq (zav (a := .xs (gi ((gi a0 x3_l8).2.2.2) x4_l14)) (by kernel_rfl) rfl rfl (qa (.xs (gi ((gi a0 x3_l8).2.2.2) x4_l14)) rfl (zad (zaa (zbc h (fun (x54_j581 : Bool) => (pt (pt (pt (pt AF0 0 (.row 4 zaf a0)) 3 (.xi x3_l8)) 4 (.xi x4_l14)) 54 (.xb x54_j581))) (fun (x54_j581 : Bool) => []) (fun k581 h => ?_) (fun x54_j581 h => ?_))))))))
          ·refine kr (qm (.xs (gi ((gi a0 x3_l8).2.2.2) x4_l14)) rfl (gq (op_neqS rfl rfl (qm (.xb (decide (¬ (gi ((gi a0 x3_l8).2.2.2) x4_l14) = ([] : List UInt8)))) rfl (G_split (p := ¬ (gi ((gi a0 x3_l8).2.2.2) x4_l14) = ([] : List UInt8)) 50 rfl (fun hc => ?_) (fun hc => ?_))))))
           ·replace h := ite_t h hc
            refine Gy_q rfl rfl rfl (zam (av := .xs (gi ((gi a0 x3_l8).2.2.2) x4_l14)) rfl ?_)
            obtain ⟨y583, hy583, h⟩ := zag h
            refine Gy_q rfl rfl rfl (zal (m_ref9_Kind_ok _ _ hy583) Tryz.func94 (by kernel_rfl) (lc lf ln) (Gy_q rfl rfl rfl (op_neq rfl rfl (gq (zau rfl (av := .xb (decide (¬ y583 = 5))) rfl (zad (zae ⟨_, h, s4 rfl rfl rfl rfl⟩)))))))
           ·replace h := ite_f h hc
            refine G_n rfl rfl (G_n rfl rfl (G_n rfl rfl (gq (zaj rfl (av := .xb false) rfl (zad (zae ⟨_, h, s4 rfl rfl rfl rfl⟩))))))
          ·refine kb (p := x54_j581) rfl h (fun hc h => ?_) (fun hc h => ?_)
           ·refine zac (kr (qa (.xb false) rfl (zad (zaa (zax (zbb (zba (zbj (zbb (zbb (zbj (zbj (zbb (zbj ?_))))))))))))))
            obtain rfl := oi h
            refine ke (pt AF0 2 (.xb false)) [] rfl (s1 rfl) ⟨rfl, rfl⟩
           ·refine zat (zaz (zaa (kr (qm (.xi x4_l14) rfl (gq (op_add rfl rfl rfl (qa (.xi (i64 (x4_l14 + 1))) rfl (zad (zae ⟨_, h, s3 rfl rfl rfl⟩)))))))))
         ·refine k_exit (kC_exit (kI_exit (kB_exit (zaz (zae ⟨h, s2 rfl rfl⟩)))))
     ·refine kr (qm (.xi x3_l8) rfl (gq (op_add rfl rfl rfl (qa (.xi (i64 (x3_l8 + 1))) rfl (zad (zae ⟨_, h, s2 rfl rfl⟩))))))
    ·refine k_exit (kC_exit (kI_exit (kB_exit (zae ⟨h, Sub.of_le lt0⟩))))
  ·refine zac (kr (qa (.xb true) rfl (zad (zaa (zax ?_)))))
   obtain rfl := oi h
   refine ke (pt AF0 2 (.xb true)) [] rfl (s1 rfl) ⟨rfl, rfl⟩
theorem m_ref11_Next_ok (a0 : List ((List UInt8) × Int × (List Int) × (List (List UInt8)))) (a1 : List UInt8) (r : (List UInt8) × Bool) (h : m_ref11_Next a0 a1 = some r) : Pure Tryz.prog 20 [(.row 4 zaf a0), (.exact (.string (bs a1)))] (.tup [.exact (.string (bs r.1)), .exact (.bool r.2)]) := by
 unfold m_ref11_Next at h
 refine Pure.ofFun (zar Tryz.func20 rfl Tryz.ntmps20 (by simp) rfl (res2 rfl) fun E hE => k_end (zac (kr (qa (.xs ([] : List UInt8)) rfl (qa (.xb false) rfl (zad (zaa (zac (kr (qm (.row 4 zaf a0) rfl (qm (.xs a1) rfl ?_)))))))))))
 obtain ⟨y1, hy1, h⟩ := zag h
 refine gq (zal (m_ref11_belongs_ok _ _ _ hy1) Tryz.func52 (by kernel_rfl) (lc lf (lc lf ln)) (qm (.tup [.xi y1.1, .row 1 zab y1.2.1, .xb y1.2.2]) rfl (gq (zas (av := .xi y1.1) rfl rfl (gq (zas (av := .row 1 zab y1.2.1) rfl rfl (gq (zas (av := .xb y1.2.2) rfl rfl (qa (.xi y1.1) rfl (qa (.row 1 zab y1.2.1) rfl (qa (.xb y1.2.2) rfl (zad (zaa (zac (zbc h (fun (x33_j8 : Bool) => (pt (pt (pt (pt AF0 0 (.row 4 zaf a0)) 6 (.xi y1.1)) 7 (.row 1 zab y1.2.1)) 33 (.xb x33_j8))) (fun (x33_j8 : Bool) => []) (fun k8 h => ?_) (fun x33_j8 h => ?_))))))))))))))))
 ·refine kr (qm (.row 4 zaf a0) rfl ?_)
  obtain ⟨y11, hy11, h⟩ := zag h
  refine gq (zal (m_ref11_ValidNames_ok _ _ hy11) Tryz.func53 (by kernel_rfl) (lc lf ln) (gq (op_not rfl (qm (.xb (!y11)) rfl (G_splitB (c := !y11) 19 rfl (fun hc => ?_) (fun hc => ?_))))))
  ·replace h := ite_t h hc
   refine G_n rfl rfl (G_n rfl rfl (gq (zau rfl (av := .xb true) rfl (qm (.xb true) rfl (G_n rfl rfl (G_n rfl rfl (G_n rfl rfl (G_n rfl rfl (G_n rfl rfl (G_n rfl rfl (G_n rfl rfl (G_n rfl rfl (G_n rfl rfl (gq (zau rfl (av := .xb true) rfl (zad (zae ⟨_, h, s4 rfl rfl rfl rfl⟩)))))))))))))))))
  ·replace h := ite_f h hc
   refine Gy_q rfl rfl rfl (zam (av := .xb y1.2.2) rfl (Gy_q rfl rfl rfl (op_not rfl (gq (zaj rfl (av := .xb (!y1.2.2)) rfl (qm (.xb (!y1.2.2)) rfl (G_splitB (c := !y1.2.2) 23 rfl (fun hc => ?_) (fun hc => ?_))))))))
   ·replace h := ite_t h hc
    refine G_n rfl rfl (G_n rfl rfl (G_n rfl rfl (G_n rfl rfl (G_n rfl rfl (G_n rfl rfl (G_n rfl rfl (G_n rfl rfl (G_n rfl rfl (gq (zau rfl (av := .xb true) rfl (zad (zae ⟨_, h, s4 rfl rfl rfl rfl⟩))))))))))))
   ·replace h := ite_f h hc
    refine Gy_q rfl rfl rfl (zam (av := .row 1 zab y1.2.1) rfl (Gy_q rfl rfl rfl (zap (by kernel_rfl) rfl (Gy_q rfl rfl rfl (zam (av := .row 4 zaf a0) rfl (Gy_q rfl rfl rfl (zam (av := .xi y1.1) rfl ?_)))))))
    obtain ⟨n12, h⟩ := zah h
    refine Gy_q rfl rfl rfl (zao (by kernel_rfl) rfl rfl n12.1 n12.2 (Gy_q rfl rfl rfl (zbm (o := 3) (c' := (List.drop 3 (zaf (gi a0 y1.1)))) (by kernel_rfl) rfl rfl (Gy_q rfl rfl rfl (zav (a := .row 1 zab ((gi a0 y1.1).2.2.2)) (by kernel_rfl) rfl rfl (Gy_q rfl rfl rfl (zap (by kernel_rfl) rfl (Gy_q rfl rfl rfl (op_eql rfl rfl (gq (zaj rfl (av := .xb (decide ((List.length y1.2.1 : Int) = (List.length ((gi a0 y1.1).2.2.2) : Int)))) rfl (zad (zae ⟨_, h, s4 rfl rfl rfl rfl⟩)))))))))))))
 ·refine kb (p := x33_j8) rfl h (fun hc h => ?_) (fun hc h => ?_)
  ·refine zac (kr (qa (.xs ([] : List UInt8)) rfl (qa (.xb false) rfl (zad (zaa (zax (zba ?_)))))))
   obtain rfl := oi h
   refine ke (pt (pt AF0 4 (.xs ([] : List UInt8))) 5 (.xb false)) [] rfl (s2 rfl rfl) ⟨rfl, rfl⟩
  ·refine zat (zaa (zac (kr (qm (.row 4 zaf a0) rfl (qm (.xi y1.1) rfl ?_)))))
   obtain ⟨n13, h⟩ := zah h
   refine gq (zao (by kernel_rfl) rfl rfl n13.1 n13.2 (gq (zbm (o := 3) (c' := (List.drop 3 (zaf (gi a0 y1.1)))) (by kernel_rfl) rfl rfl (gq (zav (a := .row 1 zab ((gi a0 y1.1).2.2.2)) (by kernel_rfl) rfl rfl (qm (.row 1 zab y1.2.1) rfl (gq (zap (by kernel_rfl) rfl ?_))))))))
   obtain ⟨n14, h⟩ := zah h
   refine gq (zao (by kernel_rfl) rfl rfl n14.1 n14.2 (gq (zav (a := .xs (gi ((gi a0 y1.1).2.2.2) (List.length y1.2.1 : Int))) (by kernel_rfl) rfl rfl (qa (.xs (gi ((gi a0 y1.1).2.2.2) (List.length y1.2.1 : Int))) rfl (qa (.xb true) rfl (zad (zaa (zax ?_))))))))
   obtain rfl := oi h
   refine ke (pt (pt AF0 4 (.xs (gi ((gi a0 y1.1).2.2.2) (List.length y1.2.1 : Int)))) 5 (.xb true)) [] rfl (s2 rfl rfl) ⟨rfl, rfl⟩
theorem m_ref11_unbounded_ok (a0 : (List UInt8) × Int × (List Int) × (List (List UInt8))) (a1 : Int) (r : Bool) (h : m_ref11_unbounded a0 a1 = some r) : Pure Tryz.prog 97 [(.agg (zaf a0)), (.exact (.int .i64 a1))] (.exact (.bool r)) := by
 unfold m_ref11_unbounded at h
 refine Pure.ofFun (zar Tryz.func97 rfl Tryz.ntmps97 (by simp) rfl (res1 rfl) fun E hE => k_end (zac (kr (gq (op_box (c := zaf a0) rfl CellsOf.agg (qa (.xb false) rfl (zad (zaa (k_join0_0 h (AF0) ([]) (fun k1 h => ?_) (fun  h => ?_))))))))))
 ·refine zaw (k_loop1_0 (m_ref11_unbounded_L2 a0 k1) (m_ref11_unbounded_B2 a0 k1) (fun _ => rfl) (fun m _ => rfl) h (fun (x1_l2 : Int) => (pt (pt AF0 1 (.xi x1_l2)) 2 (.ptr (zaf a0)))) (fun (x1_l2 : Int) => []) ?_ (fun rec2 x1_l2 h => ?_))
  ·exact s2 rfl rfl
  ·unfold m_ref11_unbounded_B2 at h
   refine zac (zac (kr (qm (.xi x1_l2) rfl (gq (zbm (o := 3) (c' := (List.drop 3 (zaf a0))) (by kernel_rfl) rfl rfl (gq (zav (a := .row 1 zab a0.2.2.2) (by kernel_rfl) rfl rfl (gq (zap (by kernel_rfl) rfl (gq (op_lss rfl rfl (zad (zaa (kd (p := x1_l2 < (List.length a0.2.2.2 : Int)) rfl h (fun hc h => ?_) (fun hc h => ?_)))))))))))))))
   ·refine zat (zaa (zac (zaw (zac (kr (gq (zbm (o := 3) (c' := (List.drop 3 (zaf a0))) (by kernel_rfl) rfl rfl (gq (zav (a := .row 1 zab a0.2.2.2) (by kernel_rfl) rfl rfl (qm (.xi x1_l2) rfl ?_))))))))))
    obtain ⟨n8, h⟩ := zah h
    refine gq (zao (by kernel_rfl) rfl rfl n8.1 n8.2 (gq (zav (a := .xs (gi a0.2.2.2 x1_l2)) (by kernel_rfl) rfl rfl (gq (op_eqlS rfl rfl (zad (zaa (kd (p := (gi a0.2.2.2 x1_l2) = ([] : List UInt8)) rfl h (fun hc h => ?_) (fun hc h => ?_)))))))))
    ·refine zac (kr (qa (.xb true) rfl (zad (zaa (zax (zbb (zba (zbj (zbb (zbj ?_))))))))))
     obtain rfl := oi h
     refine ke (pt AF0 4 (.xb true)) [] rfl (s1 rfl) ⟨rfl, rfl⟩
    ·refine zat (zaz (zaa (kr (qm (.xi x1_l2) rfl (gq (op_add rfl rfl rfl (qa (.xi (i64 (x1_l2 + 1))) rfl (zad (zae ⟨_, h, s2 rfl rfl⟩)))))))))
   ·refine k_exit (kC_exit (kI_exit (kB_exit (zae ⟨h, Sub.of_le lt0⟩))))
 ·refine zac (kr (qa (.xb false) rfl (zad (zaa (zax ?_)))))
  obtain rfl := oi h
  refine ke (pt AF0 4 (.xb false)) [] rfl (s1 rfl) ⟨rfl, rfl⟩
theorem m_ref9_Product_ok (a0 : List (List UInt8)) (r : (List UInt8) × Int) (h : m_ref9_Product a0 = some r) : Pure Tryz.prog 100 [(.row 1 zab a0)] (.tup [.exact (.string (bs r.1)), .exact (.int .i64 r.2)]) := by
 unfold m_ref9_Product at h
 refine Pure.ofFun (zar Tryz.func100 rfl Tryz.ntmps100 (by simp) rfl (res2 rfl) fun E hE => k_end (zac (kr (qa (.xs ([] : List UInt8)) rfl (qa (.xi 0) rfl (zad (zaa (zac (zac (kr (qm (.row 1 zab a0) rfl ?_)))))))))))
 obtain ⟨y1, hy1, h⟩ := zag h
 refine gq (zal (m_ref9_sets_ok _ _ hy1) Tryz.func120 (by kernel_rfl) (lc lf ln) (gq (op_not rfl (zad (zaa (kb (p := !y1) rfl h (fun hc h => ?_) (fun hc h => ?_)))))))
 ·refine zac (kr (qa (.xs ([] : List UInt8)) rfl (qa (.xi 6) rfl (zad (zaa (zax (zba ?_)))))))
  obtain rfl := oi h
  refine ke (pt (pt AF0 2 (.xs ([] : List UInt8))) 3 (.xi 6)) [] rfl (s2 rfl rfl) ⟨rfl, rfl⟩
 ·refine zat (zaa (zac (kr (gq (op_litT (n := 1) (enc := zan) [([] : List (List UInt8))] (CellsAll.cons rfl CellsOf.slice CellsAll.nil) rfl (by kernel_rfl) (LEss.cons (lc (row_nil (by decide)) ln) LEss.nil) (qa (.row 1 zan ([([] : List (List UInt8))])) rfl (zad (zaa (k_join0_0 h ((pt (pt AF0 0 (.row 1 zab a0)) 4 (.row 1 zan ([([] : List (List UInt8))])))) ([]) (fun k2 h => ?_) (fun  h => ?_))))))))))
  ·refine zac (kr (qa (.xi 0) rfl (zad (zaa (zaw (k_loop1_0 (m_ref9_Product_L2 a0 k2) (m_ref9_Product_B2 a0 k2) (fun _ => rfl) (fun m _ => rfl) h (fun (x5_l2 : Int) => (pt (pt (pt AF0 0 (.row 1 zab a0)) 4 (.row 1 zan ([([] : List (List UInt8))]))) 5 (.xi x5_l2))) (fun (x5_l2 : Int) => []) ?_ (fun rec2 x5_l2 h => ?_)))))))
   ·exact s3 rfl rfl rfl
   ·unfold m_ref9_Product_B2 at h
    refine zac (zac (kr (qm (.xi x5_l2) rfl (qm (.row 1 zab a0) rfl (gq (zap (by kernel_rfl) rfl (gq (op_lss rfl rfl (zad (zaa (kd (p := x5_l2 < (List.length a0 : Int)) rfl h (fun hc h => ?_) (fun hc h => ?_))))))))))))
    ·refine zat (zaa (zac (zaw (zac (kr (qm (.row 1 zab a0) rfl (qm (.xi x5_l2) rfl ?_)))))))
     obtain ⟨n19, h⟩ := zah h
     refine gq (zao (by kernel_rfl) rfl rfl n19.1 n19.2 (gq (zav (a := .xs (gi a0 x5_l2)) (by kernel_rfl) rfl rfl ?_)))
     obtain ⟨y20, hy20, h⟩ := zag h
     refine gq (zal (m_ref9_Parts_ok _ _ hy20) Tryz.func18 (by kernel_rfl) (lc lf ln) (gq (zap (by kernel_rfl) rfl (gq (op_eql rfl rfl (zad (zaa (kd (p := (List.length y20 : Int) = 0) rfl h (fun hc h => ?_) (fun hc h => ?_)))))))))
     ·refine zac (kr ?_)
      obtain ⟨y21, hy21, h⟩ := zag h
      refine gq (zal (m_ref9_Set_ok _ _ hy21) Tryz.func6 (by kernel_rfl) (lc (row_nil (by decide)) ln) (qa (.xs y21) rfl (qa (.xi 0) rfl (zad (zaa (zax (zbb (zba (zbj (zbb (zbj ?_)))))))))))
      obtain rfl := oi h
      refine ke (pt (pt AF0 2 (.xs y21)) 3 (.xi 0)) [] rfl (s2 rfl rfl) ⟨rfl, rfl⟩
     ·refine zat (zaz (zaa (kr (qm (.xi x5_l2) rfl (gq (op_add rfl rfl rfl (qa (.xi (i64 (x5_l2 + 1))) rfl (zad (zae ⟨_, h, s3 rfl rfl rfl⟩)))))))))
    ·refine k_exit (kC_exit (kI_exit (kB_exit (zae ⟨h, s2 rfl rfl⟩))))
  ·refine zbc h (fun (x4_j22 : List (List (List UInt8))) => (pt AF0 4 (.row 1 zan x4_j22))) (fun (x4_j22 : List (List (List UInt8))) => []) (fun k22 h => ?_) (fun x4_j22 h => ?_)
   ·refine zac (kr (qa (.xi 0) rfl (zad (zaa (zaw (k_loop2_0 (m_ref9_Product_L88 a0 k22) (m_ref9_Product_B88 a0 k22) (fun _ _ => rfl) (fun m _ _ => rfl) h (fun (x4_l88 : List (List (List UInt8))) (x6_l88 : Int) => (pt (pt (pt AF0 0 (.row 1 zab a0)) 4 (.row 1 zan x4_l88)) 6 (.xi x6_l88))) (fun (x4_l88 : List (List (List UInt8))) (x6_l88 : Int) => []) ?_ (fun rec88 x4_l88 x6_l88 h => ?_)))))))
    ·exact s3 rfl rfl rfl
    ·unfold m_ref9_Product_B88 at h
     refine zac (zac (kr (qm (.xi x6_l88) rfl (qm (.row 1 zab a0) rfl (gq (zap (by kernel_rfl) rfl (gq (op_lss rfl rfl (zad (zaa (kd (p := x6_l88 < (List.length a0 : Int)) rfl h (fun hc h => ?_) (fun hc h => ?_))))))))))))
     ·refine zat (zaa (k_join1_1 h (fun (x4_j3139 : List (List (List UInt8))) (v4_j3139 : Value) => (pt (pt (pt AF0 0 (.row 1 zab a0)) 4 (.exact v4_j3139)) 6 (.xi x6_l88))) (fun (x4_j3139 : List (List (List UInt8))) (v4_j3139 : Value) => [vecT Tryz.prog 91 1 zan v4_j3139 x4_j3139]) (fun k3139 h => ?_) (fun x4_j3139 v4_j3139 h => ?_)))
      ·refine zaw (zac (kr (qm (.row 1 zab a0) rfl (qm (.xi x6_l88) rfl ?_))))
       obtain ⟨n3451, h⟩ := zah h
       refine gq (zao (by kernel_rfl) rfl rfl n3451.1 n3451.2 (gq (zav (a := .xs (gi a0 x6_l88)) (by kernel_rfl) rfl rfl ?_)))
       obtain ⟨y3452, hy3452, h⟩ := zag h
       refine gq (zal (m_ref9_Parts_ok _ _ hy3452) Tryz.func18 (by kernel_rfl) (lc lf ln) (qa (.row 1 zab y3452) rfl (zad (zaa (zac (kr (qa (.exact (.slice none 0 0)) rfl (zad (zaa (k_join1_1 h (fun (x8_j3453 : List (List (List UInt8))) (v8_j3453 : Value) => (pt (pt (pt AF0 0 (.row 1 zab a0)) 6 (.xi x6_l88)) 8 (.exact v8_j3453))) (fun (x8_j3453 : List (List (List UInt8))) (v8_j3453 : Value) => [vecT Tryz.prog 91 1 zan v8_j3453 x8_j3453]) (fun k3453 h => ?_) (fun x8_j3453 v8_j3453 h => ?_)))))))))))
       ·refine zac (kr (qa (.xi 0) rfl (zad (zaa (zaw (k_loop2_1 (m_ref9_Product_L166 x4_l88 y3452 k3453) (m_ref9_Product_B166 x4_l88 y3452 k3453) (fun _ _ => rfl) (fun m _ _ => rfl) h (fun (x8_l166 : List (List (List UInt8))) (x9_l166 : Int) (v8_l166 : Value) => (pt (pt (pt (pt (pt (pt AF0 0 (.row 1 zab a0)) 4 (.row 1 zan x4_l88)) 6 (.xi x6_l88)) 7 (.row 1 zab y3452)) 8 (.exact v8_l166)) 9 (.xi x9_l166))) (fun (x8_l166 : List (List (List UInt8))) (x9_l166 : Int) (v8_l166 : Value) => [vecT Tryz.prog 91 1 zan v8_l166 x8_l166]) (.slice none 0 0) ?_ (fun rec166 x8_l166 x9_l166 v8_l166 h => ?_)))))))
        ·refine Sub.trans (SubU.to (SubU.nilT (P := Tryz.prog) (t := 91) (n := 1) (enc := zan))) (so (l4 rfl rfl rfl rfl (lq rfl (lq rfl lt0))))
        ·unfold m_ref9_Product_B166 at h
         refine zac (zac (kr (qm (.xi x9_l166) rfl (qm (.row 1 zan x4_l88) rfl (gq (zap (by kernel_rfl) rfl (gq (op_lss rfl rfl (zad (zaa (kd (p := x9_l166 < (List.length x4_l88 : Int)) rfl h (fun hc h => ?_) (fun hc h => ?_))))))))))))
         ·refine zat (zaa (k_join1_1 h (fun (x8_j3710 : List (List (List UInt8))) (v8_j3710 : Value) => (pt (pt (pt (pt (pt (pt AF0 0 (.row 1 zab a0)) 4 (.row 1 zan x4_l88)) 6 (.xi x6_l88)) 7 (.row 1 zab y3452)) 8 (.exact v8_j3710)) 9 (.xi x9_l166))) (fun (x8_j3710 : List (List (List UInt8))) (v8_j3710 : Value) => [vecT Tryz.prog 91 1 zan v8_j3710 x8_j3710]) (fun k3710 h => ?_) (fun x8_j3710 v8_j3710 h => ?_)))
          ·refine zaw (zac (kr (qa (.xi 0) rfl (zad (zaa (zaw (k_loop2_1 (m_ref9_Product_L172 x4_l88 y3452 x9_l166 k3710) (m_ref9_Product_B172 x4_l88 y3452 x9_l166 k3710) (fun _ _ => rfl) (fun m _ _ => rfl) h (fun (x8_l172 : List (List (List UInt8))) (x10_l172 : Int) (v8_l172 : Value) => (pt (pt (pt (pt (pt (pt (pt AF0 0 (.row 1 zab a0)) 4 (.row 1 zan x4_l88)) 6 (.xi x6_l88)) 7 (.row 1 zab y3452)) 8 (.exact v8_l172)) 9 (.xi x9_l166)) 10 (.xi x10_l172))) (fun (x8_l172 : List (List (List UInt8))) (x10_l172 : Int) (v8_l172 : Value) => [vecT Tryz.prog 91 1 zan v8_l172 x8_l172]) v8_l166 ?_ (fun rec172 x8_l172 x10_l172 v8_l172 h => ?_))))))))
           ·exact so (l4 rfl rfl rfl rfl (lq rfl (lq rfl (lq rfl lt0))))
           ·unfold m_ref9_Product_B172 at h
            refine zac (zac (kr (qm (.xi x10_l172) rfl (qm (.row 1 zab y3452) rfl (gq (zap (by kernel_rfl) rfl (gq (op_lss rfl rfl (zad (zaa (kd (p := x10_l172 < (List.length y3452 : Int)) rfl h (fun hc h => ?_) (fun hc h => ?_))))))))))))
            ·refine zat (zaa (zac (zaw (zac (zac (kr (qm (.exact v8_l172) rfl (G_r rfl (op_len_vec (by kernel_rfl) rfl (gq (op_geq rfl rfl (zad (zaa (kd (p := 4096 ≤ (List.length x8_l172 : Int)) rfl h (fun hc h => ?_) (fun hc h => ?_)))))))))))))))
             ·refine zac (kr (qa (.xs ([] : List UInt8)) rfl (qa (.xi 9) rfl (zad (zaa (zax (zba (zbb (zba (zbj (zbb (zbb (zbj (zbj (zbb (zbj (zbb (zbj (zbj (zbb (zbj ?_)))))))))))))))))))))
              obtain rfl := oi h
              refine ke (pt (pt AF0 2 (.xs ([] : List UInt8))) 3 (.xi 9)) [] rfl (Sub.trans (SubU.to SubU.drop) (s2 rfl rfl)) ⟨rfl, rfl⟩
             ·refine zat (zaa (k_plan [] [(0, 0), (0, 1), (0, 2), (0, 3), (0, 4), (0, 6), (0, 7), (0, 8), (0, 9), (0, 10), (2, 5), (2, 11), (0, 12), (2, 13), (0, 14)] hmixP (by kernel_rfl) (P_q zaq rfl (zam (av := .exact v8_l172) rfl (P_q zaq rfl (zam (av := .row 1 zan x4_l88) rfl (P_q zaq rfl (zam (av := .xi x9_l166) rfl ?_))))))))
              obtain ⟨n3752, h⟩ := zah h
              refine P_q zaq rfl (zao (by kernel_rfl) rfl rfl n3752.1 n3752.2 (P_q zaq rfl (zav (a := .row 1 zab (gi x4_l88 x9_l166)) (by kernel_rfl) rfl rfl (P_q zaq rfl (zam (av := .row 1 zab y3452) rfl (P_q zaq rfl (zam (av := .xi x10_l172) rfl ?_)))))))
              obtain ⟨n3753, h⟩ := zah h
              refine P_q zaq rfl (zao (by kernel_rfl) rfl rfl n3753.1 n3753.2 (P_q zaq rfl (zav (a := .xs (gi y3452 x10_l172)) (by kernel_rfl) rfl rfl (P_q zaq rfl (op_litT (n := 1) (enc := zab) [gi y3452 x10_l172] (CellsAll.cons rfl CellsOf.str CellsAll.nil) rfl (by kernel_rfl) (LEss.cons (lc lf ln) LEss.nil) ?_)))))
              obtain ⟨n3754, h⟩ := zah h
              refine P_l rfl (op_appN (enc := zab) (by kernel_rfl) rfl rfl zbe n3754 (fun v3755 => ?_))
              obtain ⟨n3756, h⟩ := zah h
              refine P_l rfl (opB_frz (t := 23) (n := 1) (enc := zab) rfl zay (op_appT (by kernel_rfl) rfl rfl zbe n3756 (fun v3757 => ⟨v3757, _, _, rfl, rfl, ?_⟩)))
              refine P_q zaq rfl (op_litT (n := 1) (enc := zan) [(gi x4_l88 x9_l166 ++ [gi y3452 x10_l172])] (CellsAll.cons rfl CellsOf.row CellsAll.nil) rfl (by kernel_rfl) (LEss.cons (lc lf ln) LEss.nil) ?_)
              obtain ⟨n3758, h⟩ := zah h
              refine P_l rfl (op_appT (by kernel_rfl) rfl rfl oc_c_L_api_Value n3758 (fun v3759 => P_q zaq rfl (op_assign (av := .exact v3759) rfl (P_nil (zaz (zaa (kr (qm (.xi x10_l172) rfl (gq (op_add rfl rfl rfl (qa (.xi (i64 (x10_l172 + 1))) rfl (zad (zae ⟨_, _, v3759, h, so (l4 rfl rfl rfl rfl (lq rfl (lq rfl (lq rfl lt0))))⟩)))))))))))))
            ·refine k_exit (kC_exit (kI_exit (kB_exit (zaz (zae ⟨_, v8_l172, h, so (l4 rfl rfl rfl rfl (lq rfl (lq rfl lt0)))⟩)))))
          ·refine kr (qm (.xi x9_l166) rfl (gq (op_add rfl rfl rfl (qa (.xi (i64 (x9_l166 + 1))) rfl (zad (zae ⟨_, _, v8_j3710, h, so (l4 rfl rfl rfl rfl (lq rfl (lq rfl lt0)))⟩))))))
         ·refine k_exit (kC_exit (kI_exit (kB_exit (zae ⟨_, v8_l166, h, s3 rfl rfl rfl⟩))))
       ·refine kr (qm (.exact v8_j3453) rfl (qa (.exact v8_j3453) rfl (zad (zaz (zae ⟨_, v8_j3453, h, s3 rfl rfl rfl⟩)))))
      ·refine kr (qm (.xi x6_l88) rfl (gq (op_add rfl rfl rfl (qa (.xi (i64 (x6_l88 + 1))) rfl (zad (zae ⟨_, _, h, ?_⟩))))))
       refine Sub.trans (SubU.to (SubU.freezeT (s := 4) rfl len_c_L_api_Value)) (s3 rfl rfl rfl)
     ·refine k_exit (kC_exit (kI_exit (kB_exit (zae ⟨_, h, s1 rfl⟩))))
   ·refine zac (kr (qa (.exact (.slice none 0 0)) rfl (zad (zaa (k_join1_1 h (fun (x11_j3760 : List (List UInt8)) (v11_j3760 : Value) => (pt AF0 11 (.exact v11_j3760))) (fun (x11_j3760 : List (List UInt8)) (v11_j3760 : Value) => [vecT Tryz.prog 23 1 zab v11_j3760 x11_j3760]) (fun k3760 h => ?_) (fun x11_j3760 v11_j3760 h => ?_))))))
    ·refine zac (kr (qa (.xi 0) rfl (zad (zaa (zaw (k_loop2_1 (m_ref9_Product_L174 x4_j22 k3760) (m_ref9_Product_B174 x4_j22 k3760) (fun _ _ => rfl) (fun m _ _ => rfl) h (fun (x11_l174 : List (List UInt8)) (x12_l174 : Int) (v11_l174 : Value) => (pt (pt (pt AF0 4 (.row 1 zan x4_j22)) 11 (.exact v11_l174)) 12 (.xi x12_l174))) (fun (x11_l174 : List (List UInt8)) (x12_l174 : Int) (v11_l174 : Value) => [vecT Tryz.prog 23 1 zab v11_l174 x11_l174]) (.slice none 0 0) ?_ (fun rec174 x11_l174 x12_l174 v11_l174 h => ?_)))))))
     ·refine Sub.trans (SubU.to (SubU.nilT (P := Tryz.prog) (t := 23) (n := 1) (enc := zab))) (s3 rfl rfl rfl)
     ·unfold m_ref9_Product_B174 at h
      refine zac (zac (kr (qm (.xi x12_l174) rfl (qm (.row 1 zan x4_j22) rfl (gq (zap (by kernel_rfl) rfl (gq (op_lss rfl rfl (zad (zaa (kd (p := x12_l174 < (List.length x4_j22 : Int)) rfl h (fun hc h => ?_) (fun hc h => ?_))))))))))))
      ·refine zat (zaa (zac (zaw (zac (kr (qm (.row 1 zan x4_j22) rfl (qm (.xi x12_l174) rfl ?_)))))))
       obtain ⟨n3782, h⟩ := zah h
       refine gq (zao (by kernel_rfl) rfl rfl n3782.1 n3782.2 (gq (zav (a := .row 1 zab (gi x4_j22 x12_l174)) (by kernel_rfl) rfl rfl ?_)))
       obtain ⟨y3783, hy3783, h⟩ := zag h
       refine gq (zal (m_ref9_Make_ok _ _ _ hy3783) Tryz.func28 (by kernel_rfl) (lc lf (lc lf ln)) (qa (.xs y3783) rfl (zad (zaa (zac (zac (kr (qm (.xs y3783) rfl (gq (op_eqlS rfl rfl (zad (zaa (kd (p := y3783 = ([] : List UInt8)) rfl h (fun hc h => ?_) (fun hc h => ?_))))))))))))))
       ·refine zac (kr (qa (.xs ([] : List UInt8)) rfl (qa (.xi 9) rfl (zad (zaa (zax (zba (zbb (zba (zbj (zbb (zbj ?_))))))))))))
        obtain rfl := oi h
        refine ke (pt (pt AF0 2 (.xs ([] : List UInt8))) 3 (.xi 9)) [] rfl (Sub.trans (SubU.to SubU.drop) (s2 rfl rfl)) ⟨rfl, rfl⟩
       ·refine zat (zaa (kr (qm (.exact v11_l174) rfl (qm (.xs y3783) rfl (gq (op_litT (n := 1) (enc := zab) [y3783] (CellsAll.cons rfl CellsOf.str CellsAll.nil) rfl (by kernel_rfl) (LEss.cons (lc lf ln) LEss.nil) ?_))))))
        obtain ⟨n3784, h⟩ := zah h
        refine G_l rfl (op_appT (by kernel_rfl) rfl rfl zbe n3784 (fun v3785 => qa (.exact v3785) rfl (zad (zaz (zaa (kr (qm (.xi x12_l174) rfl (gq (op_add rfl rfl rfl (qa (.xi (i64 (x12_l174 + 1))) rfl (zad (zae ⟨_, _, v3785, h, s3 rfl rfl rfl⟩))))))))))))
      ·refine k_exit (kC_exit (kI_exit (kB_exit (zae ⟨_, v11_l174, h, s1 rfl⟩))))
    ·refine zac (kr (qm (.exact v11_j3760) rfl (G_sub rfl (SubU.freezeT2 (s1 := 11) (s2 := 90) rfl rfl zay) ?_)))
     obtain ⟨y3786, hy3786, h⟩ := zag h
     refine gq (zal (m_ref9_bounded_ok _ _ hy3786) Tryz.func91 (by kernel_rfl) (lc lf ln) (gq (zas (av := .xs y3786.1) rfl rfl (gq (zas (av := .xi y3786.2) rfl rfl (qa (.xs y3786.1) rfl (qa (.xi y3786.2) rfl (zad (zaa (zax ?_))))))))))
     obtain rfl := oi h
     refine ke (pt (pt AF0 2 (.xs y3786.1)) 3 (.xi y3786.2)) [] rfl (s2 rfl rfl) ⟨rfl, rfl⟩
theorem m_ref11_completions_ok (a0 : List ((List UInt8) × Int × (List Int) × (List (List UInt8)))) (a1 : Int) (a2 : List (List UInt8)) (r : (List (List UInt8)) × Int) (h : m_ref11_completions a0 a1 a2 = some r) : Pure Tryz.prog 98 [(.row 4 zaf a0), (.exact (.int .i64 a1)), (.row 1 zab a2)] (.tup [.row 1 zab r.1, .exact (.int .i64 r.2)]) := by
 unfold m_ref11_completions at h
 refine Pure.ofFun (zar Tryz.func98 rfl Tryz.ntmps98 (by simp) rfl (res2 rfl) fun E hE => k_end (zac (kr (qa (.exact (.slice none 0 0)) rfl (qa (.xi 0) rfl (zad (zaa (zac (zac (kr (qm (.row 4 zaf a0) rfl (qm (.xi a1) rfl ?_))))))))))))
 obtain ⟨n1, h⟩ := zah h
 refine gq (zao (by kernel_rfl) rfl rfl n1.1 n1.2 (gq (op_loadNp (m := 4) (c' := zaf (gi a0 a1)) (by kernel_rfl) rfl rfl rfl (qm (.row 1 zab a2) rfl (gq (zap (by kernel_rfl) rfl ?_))))))
 obtain ⟨y2, hy2, h⟩ := zag h
 refine gq (zal (m_ref11_unbounded_ok _ _ _ hy2) Tryz.func97 (by kernel_rfl) (lc lf (lc lf ln)) (zad (zaa (kb (p := y2) rfl h (fun hc h => ?_) (fun hc h => ?_)))))
 ·refine zac (kr (qa (.exact (.slice none 0 0)) rfl (qa (.xi 17) rfl (zad (zaa (zax (zba ?_)))))))
  obtain rfl := oi h
  refine ke (pt (pt AF0 6 (.row 1 zab [])) 7 (.xi 17)) [] rfl (so (lq rfl (AF.le_put (row_nil (by decide)) lt0))) ⟨rfl, rfl⟩
 ·refine zat (zaa (zac (kr (qm (.row 4 zaf a0) rfl (qm (.xi a1) rfl ?_)))))
  obtain ⟨n3, h⟩ := zah h
  refine gq (zao (by kernel_rfl) rfl rfl n3.1 n3.2 (gq (zbm (o := 3) (c' := (List.drop 3 (zaf (gi a0 a1)))) (by kernel_rfl) rfl rfl (gq (zav (a := .row 1 zab ((gi a0 a1).2.2.2)) (by kernel_rfl) rfl rfl (qm (.row 1 zab a2) rfl (gq (zap (by kernel_rfl) rfl ?_))))))))
  obtain ⟨n4, h⟩ := zah h
  refine gq (op_slice_rowd (by kernel_rfl) rfl (bnd_some rfl) bnd_none n4.1 n4.2 (Int.le_refl _) ?_)
  obtain ⟨y5, hy5, h⟩ := zag h
  refine gq (zal (m_ref9_Product_ok _ _ hy5) Tryz.func100 (by kernel_rfl) (lc lf ln) (qm (.tup [.xs y5.1, .xi y5.2]) rfl (gq (zas (av := .xs y5.1) rfl rfl (gq (zas (av := .xi y5.2) rfl rfl (qa (.xs y5.1) rfl (qa (.xi y5.2) rfl (zad (zaa (zac (zac (kr (qm (.xi y5.2) rfl (gq (op_neq rfl rfl (zad (zaa (kd (p := ¬ y5.2 = 0) rfl h (fun hc h => ?_) (fun hc h => ?_))))))))))))))))))))
  ·refine zac (kr (qm (.xi y5.2) rfl (qa (.exact (.slice none 0 0)) rfl (qa (.xi y5.2) rfl (zad (zaa (zax (zba ?_))))))))
   obtain rfl := oi h
   refine ke (pt (pt AF0 6 (.row 1 zab [])) 7 (.xi y5.2)) [] rfl (so (lq rfl (AF.le_put (row_nil (by decide)) lt0))) ⟨rfl, rfl⟩
  ·refine zat (zaa (zac (kr (qa (.exact (.slice none 0 0)) rfl (zad (zaa (zac (kr (qm (.xs y5.1) rfl ?_)))))))))
   obtain ⟨y6, hy6, h⟩ := zag h
   refine gq (zal (m_ref9_Parts_ok _ _ hy6) Tryz.func18 (by kernel_rfl) (lc lf ln) (qa (.row 1 zab y6) rfl (zad (zaa (k_join1_1 h (fun (x10_j7 : List (List UInt8)) (v10_j7 : Value) => (pt AF0 10 (.exact v10_j7))) (fun (x10_j7 : List (List UInt8)) (v10_j7 : Value) => [vecT Tryz.prog 23 1 zab v10_j7 x10_j7]) (fun k7 h => ?_) (fun x10_j7 v10_j7 h => ?_))))))
   ·refine zac (kr (qa (.xi 0) rfl (zad (zaa (zaw (k_loop2_1 (m_ref11_completions_L2 a1 a2 y6 k7) (m_ref11_completions_B2 a1 a2 y6 k7) (fun _ _ => rfl) (fun m _ _ => rfl) h (fun (x10_l2 : List (List UInt8)) (x12_l2 : Int) (v10_l2 : Value) => (pt (pt (pt (pt (pt AF0 1 (.xi a1)) 2 (.row 1 zab a2)) 10 (.exact v10_l2)) 11 (.row 1 zab y6)) 12 (.xi x12_l2))) (fun (x10_l2 : List (List UInt8)) (x12_l2 : Int) (v10_l2 : Value) => [vecT Tryz.prog 23 1 zab v10_l2 x10_l2]) (.slice none 0 0) ?_ (fun rec2 x10_l2 x12_l2 v10_l2 h => ?_)))))))
    ·refine Sub.trans (SubU.to (SubU.nilT (P := Tryz.prog) (t := 23) (n := 1) (enc := zab))) (so (l4 rfl rfl rfl rfl (lq rfl lt0)))
    ·unfold m_ref11_completions_B2 at h
     refine zac (zac (kr (qm (.xi x12_l2) rfl (qm (.row 1 zab y6) rfl (gq (zap (by kernel_rfl) rfl (gq (op_lss rfl rfl (zad (zaa (kd (p := x12_l2 < (List.length y6 : Int)) rfl h (fun hc h => ?_) (fun hc h => ?_))))))))))))
     ·refine zat (zaa (zac (zaw (zac (k_plan [] [(0, 0), (0, 1), (0, 3), (0, 4), (0, 5), (0, 6), (2, 2), (0, 7), (2, 8), (0, 9), (0, 10)] hmixP (by kernel_rfl) (P_q zaq rfl (zam (av := .xi a1) rfl (P_q zaq rfl (zam (av := .row 1 zab a2) rfl (P_q zaq rfl (zam (av := .row 1 zab y6) rfl (P_q zaq rfl (zam (av := .xi x12_l2) rfl ?_)))))))))))))
      obtain ⟨n54, h⟩ := zah h
      refine P_q zaq rfl (zao (by kernel_rfl) rfl rfl n54.1 n54.2 (P_q zaq rfl (zav (a := .xs (gi y6 x12_l2)) (by kernel_rfl) rfl rfl ?_)))
      obtain ⟨n55, h⟩ := zah h
      refine P_l rfl (op_appN (enc := zab) (by kernel_rfl) rfl rfl zbe n55 (fun v56 => ?_))
      obtain ⟨y57, hy57, h⟩ := zag h
      refine P_q zaq rfl (zal (m_ref9_Parts_ok _ _ hy57) Tryz.func18 (by kernel_rfl) (lc lf ln) ?_)
      obtain ⟨n58, h⟩ := zah h
      refine P_l rfl (opB_frz (t := 23) (n := 1) (enc := zab) rfl zay (op_appT (by kernel_rfl) rfl rfl zbe n58 (fun v59 => ⟨v59, _, _, rfl, rfl, ?_⟩)))
      obtain ⟨y60, hy60, h⟩ := zag h
      refine P_q zaq rfl (zal (m_ref9_Dot_ok _ _ _ hy60) Tryz.func8 (by kernel_rfl) (lc lf (lc lf ln)) (P_q zaq rfl (op_assign (av := .xs y60) rfl (P_nil (zaa (zac (zac (kr (qm (.xs y60) rfl (gq (op_eqlS rfl rfl (zad (zaa (kd (p := y60 = ([] : List UInt8)) rfl h (fun hc h => ?_) (fun hc h => ?_)))))))))))))))
      ·refine zac (kr (qa (.exact (.slice none 0 0)) rfl (qa (.xi 9) rfl (zad (zaa (zax (zba (zbb (zba (zbj (zbb (zbj ?_))))))))))))
       obtain rfl := oi h
       refine ke (pt (pt AF0 6 (.row 1 zab [])) 7 (.xi 9)) [] rfl (Sub.trans (SubU.to SubU.drop) (so (lq rfl (AF.le_put (row_nil (by decide)) lt0)))) ⟨rfl, rfl⟩
      ·refine zat (zaa (kr (qm (.exact v10_l2) rfl (qm (.xs y60) rfl (gq (op_litT (n := 1) (enc := zab) [y60] (CellsAll.cons rfl CellsOf.str CellsAll.nil) rfl (by kernel_rfl) (LEss.cons (lc lf ln) LEss.nil) ?_))))))
       obtain ⟨n61, h⟩ := zah h
       refine G_l rfl (op_appT (by kernel_rfl) rfl rfl zbe n61 (fun v62 => qa (.exact v62) rfl (zad (zaz (zaa (kr (qm (.xi x12_l2) rfl (gq (op_add rfl rfl rfl (qa (.xi (i64 (x12_l2 + 1))) rfl (zad (zae ⟨_, _, v62, h, so (l4 rfl rfl rfl rfl (lq rfl lt0))⟩))))))))))))
     ·refine k_exit (kC_exit (kI_exit (kB_exit (zae ⟨_, v10_l2, h, s1 rfl⟩))))
   ·refine zac (kr (qm (.exact v10_j7) rfl (qa (.exact v10_j7) rfl (qa (.xi 0) rfl (zad (zaa (zax ?_)))))))
    obtain rfl := oi h
    refine ke (pt (pt AF0 6 (.row 1 zab x10_j7)) 7 (.xi 0)) [] rfl (Sub.trans (SubU.to (SubU.freezeT (s := 6) rfl zay)) (s2 rfl rfl)) ⟨rfl, rfl⟩
theorem m_ref11_setOf_ok (a0 : List (List UInt8)) (r : (List UInt8) × Int) (h : m_ref11_setOf a0 = some r) : Pure Tryz.prog 99 [(.row 1 zab a0)] (.tup [.exact (.string (bs r.1)), .exact (.int .i64 r.2)]) := by
 unfold m_ref11_setOf at h
 refine Pure.ofFun (zar Tryz.func99 rfl Tryz.ntmps99 (by simp) rfl (res2 rfl) fun E hE => k_end (zac (kr (qa (.xs ([] : List UInt8)) rfl (qa (.xi 0) rfl (zad (zaa (zac (kr (qm (.row 1 zab a0) rfl ?_))))))))))
 obtain ⟨y1, hy1, h⟩ := zag h
 refine gq (zal (m_ref9_Sort_ok _ _ hy1) Tryz.func26 (by kernel_rfl) (lc lf ln) (qa (.row 1 zab y1) rfl (zad (zaa (zac (kr (qm (.row 1 zab y1) rfl ?_)))))))
 obtain ⟨y2, hy2, h⟩ := zag h
 refine gq (zal (m_ref9_Set_ok _ _ hy2) Tryz.func6 (by kernel_rfl) (lc lf ln) (qa (.xs y2) rfl (zad (zaa (zac (zbc h (fun (x16_j5 : Bool) => (pt (pt AF0 5 (.xs y2)) 16 (.xb x16_j5))) (fun (x16_j5 : Bool) => []) (fun k5 h => ?_) (fun x16_j5 h => ?_)))))))
 ·refine kr (qm (.row 1 zab y1) rfl (gq (zap (by kernel_rfl) rfl (gq (op_gtr rfl rfl (qm (.xb (decide (4096 < (List.length y1 : Int)))) rfl (G_split (p := 4096 < (List.length y1 : Int)) 13 rfl (fun hc => ?_) (fun hc => ?_))))))))
  ·replace h := ite_t h hc
   refine G_n rfl rfl (G_n rfl rfl (gq (zau rfl (av := .xb true) rfl (zad (zae ⟨_, h, s2 rfl rfl⟩)))))
  ·replace h := ite_f h hc
   refine Gy_q rfl rfl rfl (zam (av := .xs y2) rfl (Gy_q rfl rfl rfl (op_eqlS rfl rfl (gq (zaj rfl (av := .xb (decide (y2 = ([] : List UInt8)))) rfl (zad (zae ⟨_, h, s2 rfl rfl⟩)))))))
 ·refine kb (p := x16_j5) rfl h (fun hc h => ?_) (fun hc h => ?_)
  ·refine zac (kr (qa (.xs ([] : List UInt8)) rfl (qa (.xi 9) rfl (zad (zaa (zax (zba ?_)))))))
   obtain rfl := oi h
   refine ke (pt (pt AF0 2 (.xs ([] : List UInt8))) 3 (.xi 9)) [] rfl (s2 rfl rfl) ⟨rfl, rfl⟩
  ·refine zat (zaa (zac (kr (qm (.xs y2) rfl (qa (.xs y2) rfl (qa (.xi 0) rfl (zad (zaa (zax ?_)))))))))
   obtain rfl := oi h
   refine ke (pt (pt AF0 2 (.xs y2)) 3 (.xi 0)) [] rfl (s2 rfl rfl) ⟨rfl, rfl⟩
end Go.Proofs.YtjlbdhicabgliaaGreat
