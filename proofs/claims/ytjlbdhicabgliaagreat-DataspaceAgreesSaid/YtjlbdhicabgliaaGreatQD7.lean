/- The functions compute their models, by program. -/
import Derived.Test.YtjlbdhicabgliaaGreatQD6
namespace Go.Proofs.YtjlbdhicabgliaaGreat
open Go.RowKit
attribute [local irreducible] AV.exact AV.top AV.row AV.ptr AV.agg AV.tup AV.eptr AV.fn AV.nilq AV.nilqn opA opB opM opR Quiet Loud Reads wpG awp den Sub SubU Pure Fun vecI vecT boxI CellsAll CellsOf OneC LEs LEss
set_option maxRecDepth 100000

set_option maxHeartbeats 4000000
theorem m_ref11_Values_ok (a0 : List ((List UInt8) × Int × (List Int) × (List (List UInt8)))) (a1 : Int) (r : (List UInt8) × Int) (h : m_ref11_Values a0 a1 = some r) : Pure Tryz.prog 60 [(.row 4 zaf a0), (.exact (.int .i64 a1))] (.tup [.exact (.string (bs r.1)), .exact (.int .i64 r.2)]) := by
 unfold m_ref11_Values at h
 refine Pure.ofFun (zar Tryz.func60 rfl Tryz.ntmps60 (by simp) rfl (res2 rfl) fun E hE => k_end (zac (kr (qa (.xs ([] : List UInt8)) rfl (qa (.xi 0) rfl (zad (zaa (zac (zac (kr (qm (.row 4 zaf a0) rfl ?_)))))))))))
 obtain ⟨y1, hy1, h⟩ := zag h
 refine gq (zal (m_ref11_ValidNames_ok _ _ hy1) Tryz.func53 (by kernel_rfl) (lc lf ln) (gq (op_not rfl (zad (zaa (kb (p := !y1) rfl h (fun hc h => ?_) (fun hc h => ?_)))))))
 ·refine zac (kr (qa (.xs ([] : List UInt8)) rfl (qa (.xi 1) rfl (zad (zaa (zax (zba ?_)))))))
  obtain rfl := oi h
  refine ke (pt (pt AF0 4 (.xs ([] : List UInt8))) 5 (.xi 1)) [] rfl (s2 rfl rfl) ⟨rfl, rfl⟩
 ·refine zat (zaa (zac (kr (qa (.exact (.slice none 0 0)) rfl (zad (zaa (k_join0_0 h ((pt (pt (pt AF0 0 (.row 4 zaf a0)) 1 (.xi a1)) 6 (.exact (.slice none 0 0)))) ([]) (fun k2 h => ?_) (fun  h => ?_))))))))
  ·refine zac (kr (qa (.xi 0) rfl (zad (zaa (zaw (k_loop1_0 (m_ref11_Values_L2 a0 a1 k2) (m_ref11_Values_B2 a0 a1 k2) (fun _ => rfl) (fun m _ => rfl) h (fun (x7_l2 : Int) => (pt (pt (pt (pt AF0 0 (.row 4 zaf a0)) 1 (.xi a1)) 6 (.exact (.slice none 0 0))) 7 (.xi x7_l2))) (fun (x7_l2 : Int) => []) ?_ (fun rec2 x7_l2 h => ?_)))))))
   ·exact s4 rfl rfl rfl rfl
   ·unfold m_ref11_Values_B2 at h
    refine zac (zac (kr (qm (.xi x7_l2) rfl (qm (.row 4 zaf a0) rfl (gq (zap (by kernel_rfl) rfl (gq (op_lss rfl rfl (zad (zaa (kd (p := x7_l2 < (List.length a0 : Int)) rfl h (fun hc h => ?_) (fun hc h => ?_))))))))))))
    ·refine zat (zaa (zac (zaw (zbc h (fun (x37_j87 : Bool) => (pt (pt (pt (pt (pt AF0 0 (.row 4 zaf a0)) 1 (.xi a1)) 6 (.exact (.slice none 0 0))) 7 (.xi x7_l2)) 37 (.xb x37_j87))) (fun (x37_j87 : Bool) => []) (fun k87 h => ?_) (fun x37_j87 h => ?_)))))
     ·refine kr (qm (.row 4 zaf a0) rfl (qm (.xi x7_l2) rfl ?_))
      obtain ⟨n91, h⟩ := zah h
      refine gq (zao (by kernel_rfl) rfl rfl n91.1 n91.2 (gq (zbm (o := 1) (c' := (List.drop 1 (zaf (gi a0 x7_l2)))) (by kernel_rfl) rfl rfl (gq (zav (a := .xi ((gi a0 x7_l2).2.1)) (by kernel_rfl) rfl rfl (qm (.xi a1) rfl (gq (op_eql rfl rfl (qm (.xb (decide (((gi a0 x7_l2).2.1) = a1))) rfl (G_split (p := ((gi a0 x7_l2).2.1) = a1) 27 rfl (fun hc => ?_) (fun hc => ?_)))))))))))
      ·replace h := ite_t h hc
       refine Gy_q rfl rfl rfl (zam (av := .xi a1) rfl (Gy_q rfl rfl rfl (op_geq rfl rfl (gq (zau rfl (av := .xb (decide (0 ≤ a1))) rfl (qm (.xb (decide (0 ≤ a1))) rfl (G_split (p := 0 ≤ a1) 31 rfl (fun hc => ?_) (fun hc => ?_))))))))
       ·replace h := ite_t h hc
        refine Gy_q rfl rfl rfl (zam (av := .row 4 zaf a0) rfl (Gy_q rfl rfl rfl (zam (av := .xi x7_l2) rfl ?_)))
        obtain ⟨n92, h⟩ := zah h
        refine Gy_q rfl rfl rfl (zao (by kernel_rfl) rfl rfl n92.1 n92.2 (Gy_q rfl rfl rfl (op_loadNp (m := 4) (c' := zaf (gi a0 x7_l2)) (by kernel_rfl) rfl rfl rfl ?_)))
        obtain ⟨y93, hy93, h⟩ := zag h
        refine Gy_q rfl rfl rfl (zal (m_ref11_unbounded_ok _ _ _ hy93) Tryz.func97 (by kernel_rfl) (lc lf (lc lf ln)) (gq (zau rfl (av := .xb y93) rfl (zad (zae ⟨_, h, so (l4 rfl rfl rfl rfl (lq rfl lt0))⟩)))))
       ·replace h := ite_f h hc
        refine G_n rfl rfl (G_n rfl rfl (G_n rfl rfl (G_n rfl rfl (G_n rfl rfl (gq (zaj rfl (av := .xb false) rfl (zad (zae ⟨_, h, so (l4 rfl rfl rfl rfl (lq rfl lt0))⟩))))))))
      ·replace h := ite_f h hc
       refine G_n rfl rfl (G_n rfl rfl (gq (zaj rfl (av := .xb false) rfl (qm (.xb false) rfl (G_n rfl rfl (G_n rfl rfl (G_n rfl rfl (G_n rfl rfl (G_n rfl rfl (gq (zaj rfl (av := .xb false) rfl (zad (zae ⟨_, h, so (l4 rfl rfl rfl rfl (lq rfl lt0))⟩)))))))))))))
     ·refine kb (p := x37_j87) rfl h (fun hc h => ?_) (fun hc h => ?_)
      ·refine zac (kr (qa (.xs ([] : List UInt8)) rfl (qa (.xi 17) rfl (zad (zaa (zax (zbb (zba (zbj (zbb (zbj ?_)))))))))))
       obtain rfl := oi h
       refine ke (pt (pt AF0 4 (.xs ([] : List UInt8))) 5 (.xi 17)) [] rfl (s2 rfl rfl) ⟨rfl, rfl⟩
      ·refine zat (zaz (zaa (kr (qm (.xi x7_l2) rfl (gq (op_add rfl rfl rfl (qa (.xi (i64 (x7_l2 + 1))) rfl (zad (zae ⟨_, h, s4 rfl rfl rfl rfl⟩)))))))))
    ·refine k_exit (kC_exit (kI_exit (kB_exit (zae ⟨h, s3 rfl rfl rfl⟩))))
  ·refine k_join1_1 h (fun (x6_j94 : List (List UInt8)) (v6_j94 : Value) => (pt AF0 6 (.exact v6_j94))) (fun (x6_j94 : List (List UInt8)) (v6_j94 : Value) => [vecT Tryz.prog 23 1 zab v6_j94 x6_j94]) (fun k94 h => ?_) (fun x6_j94 v6_j94 h => ?_)
   ·refine zac (kr (qa (.xi 0) rfl (zad (zaa (zaw (k_loop2_1 (m_ref11_Values_L4 a0 a1 k94) (m_ref11_Values_B4 a0 a1 k94) (fun _ _ => rfl) (fun m _ _ => rfl) h (fun (x6_l4 : List (List UInt8)) (x8_l4 : Int) (v6_l4 : Value) => (pt (pt (pt (pt AF0 0 (.row 4 zaf a0)) 1 (.xi a1)) 6 (.exact v6_l4)) 8 (.xi x8_l4))) (fun (x6_l4 : List (List UInt8)) (x8_l4 : Int) (v6_l4 : Value) => [vecT Tryz.prog 23 1 zab v6_l4 x6_l4]) (.slice none 0 0) ?_ (fun rec4 x6_l4 x8_l4 v6_l4 h => ?_)))))))
    ·refine Sub.trans (SubU.to (SubU.nilT (P := Tryz.prog) (t := 23) (n := 1) (enc := zab))) (s4 rfl rfl rfl rfl)
    ·unfold m_ref11_Values_B4 at h
     refine zac (zac (kr (qm (.xi x8_l4) rfl (qm (.row 4 zaf a0) rfl (gq (zap (by kernel_rfl) rfl (gq (op_lss rfl rfl (zad (zaa (kd (p := x8_l4 < (List.length a0 : Int)) rfl h (fun hc h => ?_) (fun hc h => ?_))))))))))))
     ·refine zat (zaa (k_join1_1 h (fun (x6_j201 : List (List UInt8)) (v6_j201 : Value) => (pt (pt (pt (pt AF0 0 (.row 4 zaf a0)) 1 (.xi a1)) 6 (.exact v6_j201)) 8 (.xi x8_l4))) (fun (x6_j201 : List (List UInt8)) (v6_j201 : Value) => [vecT Tryz.prog 23 1 zab v6_j201 x6_j201]) (fun k201 h => ?_) (fun x6_j201 v6_j201 h => ?_)))
      ·refine zaw (zac (zbc h (fun (x54_j216 : Bool) => (pt (pt (pt (pt (pt AF0 0 (.row 4 zaf a0)) 1 (.xi a1)) 6 (.exact v6_l4)) 8 (.xi x8_l4)) 54 (.xb x54_j216))) (fun (x54_j216 : Bool) => [vecT Tryz.prog 23 1 zab v6_l4 x6_l4]) (fun k216 h => ?_) (fun x54_j216 h => ?_)))
       ·refine kr (qm (.row 4 zaf a0) rfl (qm (.xi x8_l4) rfl ?_))
        obtain ⟨n218, h⟩ := zah h
        refine gq (zao (by kernel_rfl) rfl rfl n218.1 n218.2 (gq (zbm (o := 1) (c' := (List.drop 1 (zaf (gi a0 x8_l4)))) (by kernel_rfl) rfl rfl (gq (zav (a := .xi ((gi a0 x8_l4).2.1)) (by kernel_rfl) rfl rfl (qm (.xi a1) rfl (gq (op_neq rfl rfl (qm (.xb (decide (¬ ((gi a0 x8_l4).2.1) = a1))) rfl (G_split (p := ¬ ((gi a0 x8_l4).2.1) = a1) 51 rfl (fun hc => ?_) (fun hc => ?_)))))))))))
        ·replace h := ite_t h hc
         refine G_n rfl rfl (G_n rfl rfl (gq (zau rfl (av := .xb true) rfl (zad (zae ⟨_, h, so (l4 rfl rfl rfl rfl (lq rfl lt0))⟩)))))
        ·replace h := ite_f h hc
         refine Gy_q rfl rfl rfl (zam (av := .xi a1) rfl (Gy_q rfl rfl rfl (op_lss rfl rfl (gq (zaj rfl (av := .xb (decide (a1 < 0))) rfl (zad (zae ⟨_, h, so (l4 rfl rfl rfl rfl (lq rfl lt0))⟩)))))))
       ·refine kb (p := x54_j216) rfl h (fun hc h => ?_) (fun hc h => ?_)
        ·refine k_exit (kC_exit (kB_exit (zae ⟨_, v6_l4, h, s4 rfl rfl rfl rfl⟩)))
        ·refine zat (zaa (zac (kr (qm (.row 4 zaf a0) rfl (qm (.xi x8_l4) rfl ?_)))))
         obtain ⟨y219, hy219, h⟩ := zag h
         refine gq (zal (m_ref11_completions_ok _ _ _ _ hy219) Tryz.func98 (by kernel_rfl) (lc lf (lc lf (lc (row_nil (by decide)) ln))) (qm (.tup [.row 1 zab y219.1, .xi y219.2]) rfl (gq (zas (av := .row 1 zab y219.1) rfl rfl (gq (zas (av := .xi y219.2) rfl rfl (qa (.row 1 zab y219.1) rfl (qa (.xi y219.2) rfl (zad (zaa (zac (zac (kr (qm (.xi y219.2) rfl (gq (op_neq rfl rfl (zad (zaa (kd (p := ¬ y219.2 = 0) rfl h (fun hc h => ?_) (fun hc h => ?_))))))))))))))))))))
         ·refine zac (kr (qm (.xi y219.2) rfl (qa (.xs ([] : List UInt8)) rfl (qa (.xi y219.2) rfl (zad (zaa (zax (zba (zbb (zbj (zbj (zbb (zbj ?_)))))))))))))
          obtain rfl := oi h
          refine ke (pt (pt AF0 4 (.xs ([] : List UInt8))) 5 (.xi y219.2)) [] rfl (Sub.trans (SubU.to SubU.drop) (s2 rfl rfl)) ⟨rfl, rfl⟩
         ·refine zat (zaa (kr (qm (.exact v6_l4) rfl (qm (.row 1 zab y219.1) rfl ?_))))
          obtain ⟨n220, h⟩ := zah h
          refine G_l rfl (op_appT (by kernel_rfl) rfl rfl zbe n220 (fun v221 => qa (.exact v221) rfl (zad (zaz (zae ⟨_, v221, h, s4 rfl rfl rfl rfl⟩)))))
      ·refine kr (qm (.xi x8_l4) rfl (gq (op_add rfl rfl rfl (qa (.xi (i64 (x8_l4 + 1))) rfl (zad (zae ⟨_, _, v6_j201, h, s4 rfl rfl rfl rfl⟩))))))
     ·refine k_exit (kC_exit (kI_exit (kB_exit (zae ⟨_, v6_l4, h, s1 rfl⟩))))
   ·refine zac (kr (qm (.exact v6_j94) rfl (G_sub rfl (SubU.freezeT2 (s1 := 6) (s2 := 67) rfl rfl zay) ?_)))
    obtain ⟨y222, hy222, h⟩ := zag h
    refine gq (zal (m_ref11_setOf_ok _ _ hy222) Tryz.func99 (by kernel_rfl) (lc lf ln) (gq (zas (av := .xs y222.1) rfl rfl (gq (zas (av := .xi y222.2) rfl rfl (qa (.xs y222.1) rfl (qa (.xi y222.2) rfl (zad (zaa (zax ?_))))))))))
    obtain rfl := oi h
    refine ke (pt (pt AF0 4 (.xs y222.1)) 5 (.xi y222.2)) [] rfl (s2 rfl rfl) ⟨rfl, rfl⟩
theorem m_ref11_Extensions_ok (a0 : List ((List UInt8) × Int × (List Int) × (List (List UInt8)))) (a1 : List UInt8) (r : (List UInt8) × Int) (h : m_ref11_Extensions a0 a1 = some r) : Pure Tryz.prog 61 [(.row 4 zaf a0), (.exact (.string (bs a1)))] (.tup [.exact (.string (bs r.1)), .exact (.int .i64 r.2)]) := by
 unfold m_ref11_Extensions at h
 refine Pure.ofFun (zar Tryz.func61 rfl Tryz.ntmps61 (by simp) rfl (res2 rfl) fun E hE => k_end (zac (kr (qa (.xs ([] : List UInt8)) rfl (qa (.xi 0) rfl (zad (zaa (zac (zac (kr (qm (.row 4 zaf a0) rfl ?_)))))))))))
 obtain ⟨y1, hy1, h⟩ := zag h
 refine gq (zal (m_ref11_ValidNames_ok _ _ hy1) Tryz.func53 (by kernel_rfl) (lc lf ln) (gq (op_not rfl (zad (zaa (kb (p := !y1) rfl h (fun hc h => ?_) (fun hc h => ?_)))))))
 ·refine zac (kr (qa (.xs ([] : List UInt8)) rfl (qa (.xi 1) rfl (zad (zaa (zax (zba ?_)))))))
  obtain rfl := oi h
  refine ke (pt (pt AF0 4 (.xs ([] : List UInt8))) 5 (.xi 1)) [] rfl (s2 rfl rfl) ⟨rfl, rfl⟩
 ·refine zat (zaa (zac (zac (kr (qm (.xs a1) rfl ?_)))))
  obtain ⟨y2, hy2, h⟩ := zag h
  refine gq (zal (m_ref9_Kind_ok _ _ hy2) Tryz.func94 (by kernel_rfl) (lc lf ln) (gq (op_neq rfl rfl (zad (zaa (kd (p := ¬ y2 = 7) rfl h (fun hc h => ?_) (fun hc h => ?_)))))))
  ·refine zac (kr (qa (.xs ([] : List UInt8)) rfl (qa (.xi 6) rfl (zad (zaa (zax (zba ?_)))))))
   obtain rfl := oi h
   refine ke (pt (pt AF0 4 (.xs ([] : List UInt8))) 5 (.xi 6)) [] rfl (s2 rfl rfl) ⟨rfl, rfl⟩
  ·refine zat (zaa (zac (kr (qm (.row 4 zaf a0) rfl (qm (.xs a1) rfl ?_)))))
   obtain ⟨y3, hy3, h⟩ := zag h
   refine gq (zal (m_ref11_belongs_ok _ _ _ hy3) Tryz.func52 (by kernel_rfl) (lc lf (lc lf ln)) (qm (.tup [.xi y3.1, .row 1 zab y3.2.1, .xb y3.2.2]) rfl (gq (zas (av := .xi y3.1) rfl rfl (gq (zas (av := .row 1 zab y3.2.1) rfl rfl (gq (zas (av := .xb y3.2.2) rfl rfl (qa (.xi y3.1) rfl (qa (.row 1 zab y3.2.1) rfl (qa (.xb y3.2.2) rfl (zad (zaa (zac (zac (kr (qm (.xb y3.2.2) rfl (gq (op_not rfl ?_)))))))))))))))))))
   refine zad (zaa (kb (p := !y3.2.2) rfl h (fun hc h => ?_) (fun hc h => ?_)))
   ·refine zac (kr (qa (.xs ([] : List UInt8)) rfl (qa (.xi 18) rfl (zad (zaa (zax (zba ?_)))))))
    obtain rfl := oi h
    refine ke (pt (pt AF0 4 (.xs ([] : List UInt8))) 5 (.xi 18)) [] rfl (s2 rfl rfl) ⟨rfl, rfl⟩
   ·refine zat (zaa (zac (zac (kr (qm (.row 4 zaf a0) rfl (qm (.xi y3.1) rfl ?_))))))
    obtain ⟨n4, h⟩ := zah h
    refine gq (zao (by kernel_rfl) rfl rfl n4.1 n4.2 (gq (op_loadNp (m := 4) (c' := zaf (gi a0 y3.1)) (by kernel_rfl) rfl rfl rfl (qm (.row 1 zab y3.2.1) rfl (gq (zap (by kernel_rfl) rfl ?_))))))
    obtain ⟨y5, hy5, h⟩ := zag h
    refine gq (zal (m_ref11_unbounded_ok _ _ _ hy5) Tryz.func97 (by kernel_rfl) (lc lf (lc lf ln)) (zad (zaa (kb (p := y5) rfl h (fun hc h => ?_) (fun hc h => ?_)))))
    ·refine zac (kr (qa (.xs ([] : List UInt8)) rfl (qa (.xi 17) rfl (zad (zaa (zax (zba ?_)))))))
     obtain rfl := oi h
     refine ke (pt (pt AF0 4 (.xs ([] : List UInt8))) 5 (.xi 17)) [] rfl (s2 rfl rfl) ⟨rfl, rfl⟩
    ·refine zat (zaa (zac (kr (qm (.row 4 zaf a0) rfl (qm (.xi y3.1) rfl ?_)))))
     obtain ⟨n6, h⟩ := zah h
     refine gq (zao (by kernel_rfl) rfl rfl n6.1 n6.2 (gq (zbm (o := 3) (c' := (List.drop 3 (zaf (gi a0 y3.1)))) (by kernel_rfl) rfl rfl (gq (zav (a := .row 1 zab ((gi a0 y3.1).2.2.2)) (by kernel_rfl) rfl rfl (qm (.row 1 zab y3.2.1) rfl (gq (zap (by kernel_rfl) rfl ?_))))))))
     obtain ⟨n7, h⟩ := zah h
     refine gq (op_slice_rowd (by kernel_rfl) rfl (bnd_some rfl) bnd_none n7.1 n7.2 (Int.le_refl _) ?_)
     obtain ⟨y8, hy8, h⟩ := zag h
     refine gq (zal (m_ref9_Product_ok _ _ hy8) Tryz.func100 (by kernel_rfl) (lc lf ln) (gq (zas (av := .xs y8.1) rfl rfl (gq (zas (av := .xi y8.2) rfl rfl (qa (.xs y8.1) rfl (qa (.xi y8.2) rfl (zad (zaa (zax ?_))))))))))
     obtain rfl := oi h
     refine ke (pt (pt AF0 4 (.xs y8.1)) 5 (.xi y8.2)) [] rfl (s2 rfl rfl) ⟨rfl, rfl⟩
theorem m_ref11_Productions_ok (a0 : List ((List UInt8) × Int × (List Int) × (List (List UInt8)))) (a1 : List UInt8) (r : (List UInt8) × Int) (h : m_ref11_Productions a0 a1 = some r) : Pure Tryz.prog 62 [(.row 4 zaf a0), (.exact (.string (bs a1)))] (.tup [.exact (.string (bs r.1)), .exact (.int .i64 r.2)]) := by
 unfold m_ref11_Productions at h
 refine Pure.ofFun (zar Tryz.func62 rfl Tryz.ntmps62 (by simp) rfl (res2 rfl) fun E hE => k_end (zac (kr (qa (.xs ([] : List UInt8)) rfl (qa (.xi 0) rfl (zad (zaa (zac (zac (kr (qm (.row 4 zaf a0) rfl ?_)))))))))))
 obtain ⟨y1, hy1, h⟩ := zag h
 refine gq (zal (m_ref11_ValidNames_ok _ _ hy1) Tryz.func53 (by kernel_rfl) (lc lf ln) (gq (op_not rfl (zad (zaa (kb (p := !y1) rfl h (fun hc h => ?_) (fun hc h => ?_)))))))
 ·refine zac (kr (qa (.xs ([] : List UInt8)) rfl (qa (.xi 1) rfl (zad (zaa (zax (zba ?_)))))))
  obtain rfl := oi h
  refine ke (pt (pt AF0 4 (.xs ([] : List UInt8))) 5 (.xi 1)) [] rfl (s2 rfl rfl) ⟨rfl, rfl⟩
 ·refine zat (zaa (zac (zac (kr (qm (.xs a1) rfl ?_)))))
  obtain ⟨y2, hy2, h⟩ := zag h
  refine gq (zal (m_ref9_Kind_ok _ _ hy2) Tryz.func94 (by kernel_rfl) (lc lf ln) (gq (op_neq rfl rfl (zad (zaa (kd (p := ¬ y2 = 5) rfl h (fun hc h => ?_) (fun hc h => ?_)))))))
  ·refine zac (kr (qa (.xs ([] : List UInt8)) rfl (qa (.xi 6) rfl (zad (zaa (zax (zba ?_)))))))
   obtain rfl := oi h
   refine ke (pt (pt AF0 4 (.xs ([] : List UInt8))) 5 (.xi 6)) [] rfl (s2 rfl rfl) ⟨rfl, rfl⟩
  ·refine zat (zaa (zac (kr (qm (.xs a1) rfl ?_))))
   obtain ⟨y3, hy3, h⟩ := zag h
   refine gq (zal (m_ref9_Parts_ok _ _ hy3) Tryz.func18 (by kernel_rfl) (lc lf ln) (qa (.row 1 zab y3) rfl (zad (zaa (k_join0_0 h ((pt (pt AF0 0 (.row 4 zaf a0)) 6 (.row 1 zab y3))) ([]) (fun k4 h => ?_) (fun  h => ?_))))))
   ·refine zac (kr (qa (.xi 0) rfl (zad (zaa (zaw (k_loop1_0 (m_ref11_Productions_L8 a0 y3 k4) (m_ref11_Productions_B8 a0 y3 k4) (fun _ => rfl) (fun m _ => rfl) h (fun (x7_l8 : Int) => (pt (pt (pt AF0 0 (.row 4 zaf a0)) 6 (.row 1 zab y3)) 7 (.xi x7_l8))) (fun (x7_l8 : Int) => []) ?_ (fun rec8 x7_l8 h => ?_)))))))
    ·exact s3 rfl rfl rfl
    ·unfold m_ref11_Productions_B8 at h
     refine zac (zac (kr (qm (.xi x7_l8) rfl (gq (op_lss rfl rfl (zad (zaa (kd (p := x7_l8 < 3) rfl h (fun hc h => ?_) (fun hc h => ?_)))))))))
     ·refine zat (zaa (k_join0_0 h ((pt (pt (pt AF0 0 (.row 4 zaf a0)) 6 (.row 1 zab y3)) 7 (.xi x7_l8))) ([]) (fun k831 h => ?_) (fun  h => ?_)))
      ·refine zaw (zac (kr (qa (.xi 0) rfl (zad (zaa (zaw (k_loop1_0 (zbh a0 y3 x7_l8 k831) (m_ref11_Productions_B14 a0 y3 x7_l8 k831) (fun _ => rfl) (fun m _ => rfl) h (fun (x8_l14 : Int) => (pt (pt (pt (pt AF0 0 (.row 4 zaf a0)) 6 (.row 1 zab y3)) 7 (.xi x7_l8)) 8 (.xi x8_l14))) (fun (x8_l14 : Int) => []) ?_ (fun rec14 x8_l14 h => ?_))))))))
       ·exact s4 rfl rfl rfl rfl
       ·unfold m_ref11_Productions_B14 at h
        refine zac (zac (kr (qm (.xi x8_l14) rfl (qm (.row 1 zab y3) rfl (gq (zap (by kernel_rfl) rfl (gq (op_lss rfl rfl (zad (zaa (kd (p := x8_l14 < (List.length y3 : Int)) rfl h (fun hc h => ?_) (fun hc h => ?_))))))))))))
        ·refine zat (zaa (zac (zaw (zac (kr (qm (.row 4 zaf a0) rfl (qm (.row 1 zab y3) rfl (qm (.xi x8_l14) rfl ?_))))))))
         obtain ⟨n982, h⟩ := zah h
         refine gq (zao (by kernel_rfl) rfl rfl n982.1 n982.2 (gq (zav (a := .xs (gi y3 x8_l14)) (by kernel_rfl) rfl rfl ?_)))
         obtain ⟨y983, hy983, h⟩ := zag h
         refine gq (zal (m_ref11_belongs_ok _ _ _ hy983) Tryz.func52 (by kernel_rfl) (lc lf (lc lf ln)) (qm (.tup [.xi y983.1, .row 1 zab y983.2.1, .xb y983.2.2]) rfl (gq (zas (av := .xi y983.1) rfl rfl (gq (zas (av := .row 1 zab y983.2.1) rfl rfl (gq (zas (av := .xb y983.2.2) rfl rfl (qa (.xi y983.1) rfl (qa (.row 1 zab y983.2.1) rfl (qa (.xb y983.2.2) rfl (zad (zaa (zaw (zbc h (fun (x47_j984 : Bool) => (pt (pt (pt (pt (pt (pt (pt (pt AF0 0 (.row 4 zaf a0)) 6 (.row 1 zab y3)) 7 (.xi x7_l8)) 8 (.xi x8_l14)) 9 (.xi y983.1)) 10 (.row 1 zab y983.2.1)) 11 (.xb y983.2.2)) 47 (.xb x47_j984))) (fun (x47_j984 : Bool) => []) (fun k984 h => ?_) (fun x47_j984 h => ?_))))))))))))))))
         ·refine kr (qm (.xi x7_l8) rfl (gq (op_eql rfl rfl (qm (.xb (decide (x7_l8 = 0))) rfl (G_split (p := x7_l8 = 0) 50 rfl (fun hc => ?_) (fun hc => ?_))))))
          ·replace h := ite_t h hc
           refine Gy_q rfl rfl rfl (zam (av := .row 1 zab y3) rfl (Gy_q rfl rfl rfl (zam (av := .xi x8_l14) rfl ?_)))
           obtain ⟨n987, h⟩ := zah h
           refine Gy_q rfl rfl rfl (zao (by kernel_rfl) rfl rfl n987.1 n987.2 (Gy_q rfl rfl rfl (zav (a := .xs (gi y3 x8_l14)) (by kernel_rfl) rfl rfl ?_)))
           obtain ⟨y988, hy988, h⟩ := zag h
           refine Gy_q rfl rfl rfl (zal (m_ref9_Kind_ok _ _ hy988) Tryz.func94 (by kernel_rfl) (lc lf ln) (Gy_q rfl rfl rfl (op_neq rfl rfl (gq (zau rfl (av := .xb (decide (¬ y988 = 7))) rfl (qa (.xb (decide (¬ y988 = 7))) rfl (zad (zae ⟨_, h, so (l4 rfl rfl rfl rfl (l4 rfl rfl rfl rfl lt0))⟩))))))))
          ·replace h := ite_f h hc
           refine G_n rfl rfl (G_n rfl rfl (G_n rfl rfl (G_n rfl rfl (G_n rfl rfl (G_n rfl rfl (gq (zaj rfl (av := .xb false) rfl (qa (.xb false) rfl (zad (zae ⟨_, h, so (l4 rfl rfl rfl rfl (l4 rfl rfl rfl rfl lt0))⟩))))))))))
         ·refine kb (p := x47_j984) rfl h (fun hc h => ?_) (fun hc h => ?_)
          ·refine zac (kr (qa (.xs ([] : List UInt8)) rfl (qa (.xi 6) rfl (zad (zaa (zax (zbb (zbb (zba (zbj (zbb (zbb (zbj (zbj (zbb (zbj ?_))))))))))))))))
           obtain rfl := oi h
           refine ke (pt (pt AF0 4 (.xs ([] : List UInt8))) 5 (.xi 6)) [] rfl (s2 rfl rfl) ⟨rfl, rfl⟩
          ·refine zbc h (fun (x58_j989 : Bool) => (pt (pt (pt (pt (pt (pt (pt AF0 0 (.row 4 zaf a0)) 6 (.row 1 zab y3)) 7 (.xi x7_l8)) 8 (.xi x8_l14)) 9 (.xi y983.1)) 10 (.row 1 zab y983.2.1)) 58 (.xb x58_j989))) (fun (x58_j989 : Bool) => []) (fun k989 h => ?_) (fun x58_j989 h => ?_)
           ·refine kr (qm (.xi x7_l8) rfl (gq (op_eql rfl rfl (qm (.xb (decide (x7_l8 = 1))) rfl (G_split (p := x7_l8 = 1) 61 rfl (fun hc => ?_) (fun hc => ?_))))))
            ·replace h := ite_t h hc
             refine Gy_q rfl rfl rfl (zam (av := .xb y983.2.2) rfl (Gy_q rfl rfl rfl (op_not rfl (gq (zau rfl (av := .xb (!y983.2.2)) rfl (qa (.xb (!y983.2.2)) rfl (zad (zae ⟨_, h, so (l4 rfl rfl rfl rfl (lq rfl (lq rfl (lq rfl lt0))))⟩))))))))
            ·replace h := ite_f h hc
             refine G_n rfl rfl (G_n rfl rfl (gq (zaj rfl (av := .xb false) rfl (qa (.xb false) rfl (zad (zae ⟨_, h, so (l4 rfl rfl rfl rfl (lq rfl (lq rfl (lq rfl lt0))))⟩))))))
           ·refine kb (p := x58_j989) rfl h (fun hc h => ?_) (fun hc h => ?_)
            ·refine zac (kr (qa (.xs ([] : List UInt8)) rfl (qa (.xi 18) rfl (zad (zaa (zax (zbb (zbb (zba (zbj (zbb (zbb (zbj (zbj (zbb (zbj ?_))))))))))))))))
             obtain rfl := oi h
             refine ke (pt (pt AF0 4 (.xs ([] : List UInt8))) 5 (.xi 18)) [] rfl (s2 rfl rfl) ⟨rfl, rfl⟩
            ·refine zbc h (fun (x65_j990 : Bool) => (pt (pt (pt (pt (pt AF0 0 (.row 4 zaf a0)) 6 (.row 1 zab y3)) 7 (.xi x7_l8)) 8 (.xi x8_l14)) 65 (.xb x65_j990))) (fun (x65_j990 : Bool) => []) (fun k990 h => ?_) (fun x65_j990 h => ?_)
             ·refine kr (qm (.xi x7_l8) rfl (gq (op_eql rfl rfl (qm (.xb (decide (x7_l8 = 2))) rfl (G_split (p := x7_l8 = 2) 68 rfl (fun hc => ?_) (fun hc => ?_))))))
              ·replace h := ite_t h hc
               refine Gy_q rfl rfl rfl (zam (av := .row 4 zaf a0) rfl (Gy_q rfl rfl rfl (zam (av := .xi y983.1) rfl ?_)))
               obtain ⟨n993, h⟩ := zah h
               refine Gy_q rfl rfl rfl (zao (by kernel_rfl) rfl rfl n993.1 n993.2 (Gy_q rfl rfl rfl (op_loadNp (m := 4) (c' := zaf (gi a0 y983.1)) (by kernel_rfl) rfl rfl rfl (Gy_q rfl rfl rfl (zam (av := .row 1 zab y983.2.1) rfl (Gy_q rfl rfl rfl (zap (by kernel_rfl) rfl ?_)))))))
               obtain ⟨y994, hy994, h⟩ := zag h
               refine Gy_q rfl rfl rfl (zal (m_ref11_unbounded_ok _ _ _ hy994) Tryz.func97 (by kernel_rfl) (lc lf (lc lf ln)) (gq (zau rfl (av := .xb y994) rfl (qa (.xb y994) rfl (zad (zae ⟨_, h, so (l4 rfl rfl rfl rfl (lq rfl lt0))⟩))))))
              ·replace h := ite_f h hc
               refine G_n rfl rfl (G_n rfl rfl (G_n rfl rfl (G_n rfl rfl (G_n rfl rfl (G_n rfl rfl (G_n rfl rfl (gq (zaj rfl (av := .xb false) rfl (qa (.xb false) rfl (zad (zae ⟨_, h, so (l4 rfl rfl rfl rfl (lq rfl lt0))⟩)))))))))))
             ·refine kb (p := x65_j990) rfl h (fun hc h => ?_) (fun hc h => ?_)
              ·refine zac (kr (qa (.xs ([] : List UInt8)) rfl (qa (.xi 17) rfl (zad (zaa (zax (zbb (zbb (zba (zbj (zbb (zbb (zbj (zbj (zbb (zbj ?_))))))))))))))))
               obtain rfl := oi h
               refine ke (pt (pt AF0 4 (.xs ([] : List UInt8))) 5 (.xi 17)) [] rfl (s2 rfl rfl) ⟨rfl, rfl⟩
              ·refine zat (zaz (zaz (zaa (kr (qm (.xi x8_l14) rfl (gq (op_add rfl rfl rfl (qa (.xi (i64 (x8_l14 + 1))) rfl (zad (zae ⟨_, h, s4 rfl rfl rfl rfl⟩))))))))))
        ·refine k_exit (kC_exit (kI_exit (kB_exit (zaz (zae ⟨h, s3 rfl rfl rfl⟩)))))
      ·refine kr (qm (.xi x7_l8) rfl (gq (op_add rfl rfl rfl (qa (.xi (i64 (x7_l8 + 1))) rfl (zad (zae ⟨_, h, s3 rfl rfl rfl⟩))))))
     ·refine k_exit (kC_exit (kI_exit (kB_exit (zae ⟨h, s2 rfl rfl⟩))))
   ·refine zac (kr (qa (.exact (.slice none 0 0)) rfl (zad (zaa (k_join1_1 h (fun (x12_j995 : List (List UInt8)) (v12_j995 : Value) => (pt AF0 12 (.exact v12_j995))) (fun (x12_j995 : List (List UInt8)) (v12_j995 : Value) => [vecT Tryz.prog 23 1 zab v12_j995 x12_j995]) (fun k995 h => ?_) (fun x12_j995 v12_j995 h => ?_))))))
    ·refine zac (kr (qa (.xi 0) rfl (zad (zaa (zaw (k_loop2_1 (m_ref11_Productions_L16 a0 y3 k995) (m_ref11_Productions_B16 a0 y3 k995) (fun _ _ => rfl) (fun m _ _ => rfl) h (fun (x12_l16 : List (List UInt8)) (x13_l16 : Int) (v12_l16 : Value) => (pt (pt (pt (pt AF0 0 (.row 4 zaf a0)) 6 (.row 1 zab y3)) 12 (.exact v12_l16)) 13 (.xi x13_l16))) (fun (x12_l16 : List (List UInt8)) (x13_l16 : Int) (v12_l16 : Value) => [vecT Tryz.prog 23 1 zab v12_l16 x12_l16]) (.slice none 0 0) ?_ (fun rec16 x12_l16 x13_l16 v12_l16 h => ?_)))))))
     ·refine Sub.trans (SubU.to (SubU.nilT (P := Tryz.prog) (t := 23) (n := 1) (enc := zab))) (s4 rfl rfl rfl rfl)
     ·unfold m_ref11_Productions_B16 at h
      refine zac (zac (kr (qm (.xi x13_l16) rfl (qm (.row 1 zab y3) rfl (gq (zap (by kernel_rfl) rfl (gq (op_lss rfl rfl (zad (zaa (kd (p := x13_l16 < (List.length y3 : Int)) rfl h (fun hc h => ?_) (fun hc h => ?_))))))))))))
      ·refine zat (zaa (zac (zaw (zac (kr (qm (.row 4 zaf a0) rfl (qm (.row 1 zab y3) rfl (qm (.xi x13_l16) rfl ?_))))))))
       obtain ⟨n1022, h⟩ := zah h
       refine gq (zao (by kernel_rfl) rfl rfl n1022.1 n1022.2 (gq (zav (a := .xs (gi y3 x13_l16)) (by kernel_rfl) rfl rfl ?_)))
       obtain ⟨y1023, hy1023, h⟩ := zag h
       refine gq (zal (m_ref11_belongs_ok _ _ _ hy1023) Tryz.func52 (by kernel_rfl) (lc lf (lc lf ln)) (qm (.tup [.xi y1023.1, .row 1 zab y1023.2.1, .xb y1023.2.2]) rfl (gq (zas (av := .xi y1023.1) rfl rfl (gq (zas (av := .row 1 zab y1023.2.1) rfl rfl (gq (zas (av := .xb y1023.2.2) rfl rfl (qa (.xi y1023.1) rfl (qa (.row 1 zab y1023.2.1) rfl (qa (.xb y1023.2.2) rfl (zad (zaa (zac (kr (qm (.row 4 zaf a0) rfl (qm (.xi y1023.1) rfl ?_)))))))))))))))))
       refine qm (.row 1 zab y1023.2.1) rfl ?_
       obtain ⟨y1024, hy1024, h⟩ := zag h
       refine gq (zal (m_ref11_completions_ok _ _ _ _ hy1024) Tryz.func98 (by kernel_rfl) (lc lf (lc lf (lc lf ln))) (qm (.tup [.row 1 zab y1024.1, .xi y1024.2]) rfl (gq (zas (av := .row 1 zab y1024.1) rfl rfl (gq (zas (av := .xi y1024.2) rfl rfl (qa (.row 1 zab y1024.1) rfl (qa (.xi y1024.2) rfl (zad (zaa (zac (zac (kr (qm (.xi y1024.2) rfl (gq (op_neq rfl rfl (zad (zaa (kd (p := ¬ y1024.2 = 0) rfl h (fun hc h => ?_) (fun hc h => ?_))))))))))))))))))))
       ·refine zac (kr (qm (.xi y1024.2) rfl (qa (.xs ([] : List UInt8)) rfl (qa (.xi y1024.2) rfl (zad (zaa (zax (zba (zbb (zba (zbj (zbb (zbj ?_)))))))))))))
        obtain rfl := oi h
        refine ke (pt (pt AF0 4 (.xs ([] : List UInt8))) 5 (.xi y1024.2)) [] rfl (Sub.trans (SubU.to SubU.drop) (s2 rfl rfl)) ⟨rfl, rfl⟩
       ·refine zat (zaa (kr (qm (.exact v12_l16) rfl (qm (.row 1 zab y1024.1) rfl ?_))))
        obtain ⟨n1025, h⟩ := zah h
        refine G_l rfl (op_appT (by kernel_rfl) rfl rfl zbe n1025 (fun v1026 => qa (.exact v1026) rfl (zad (zaz (zaa (kr (qm (.xi x13_l16) rfl (gq (op_add rfl rfl rfl (qa (.xi (i64 (x13_l16 + 1))) rfl (zad (zae ⟨_, _, v1026, h, s4 rfl rfl rfl rfl⟩))))))))))))
      ·refine k_exit (kC_exit (kI_exit (kB_exit (zae ⟨_, v12_l16, h, s1 rfl⟩))))
    ·refine zac (kr (qm (.exact v12_j995) rfl (G_sub rfl (SubU.freezeT2 (s1 := 12) (s2 := 106) rfl rfl zay) ?_)))
     obtain ⟨y1027, hy1027, h⟩ := zag h
     refine gq (zal (m_ref11_setOf_ok _ _ hy1027) Tryz.func99 (by kernel_rfl) (lc lf ln) (gq (zas (av := .xs y1027.1) rfl rfl (gq (zas (av := .xi y1027.2) rfl rfl (qa (.xs y1027.1) rfl (qa (.xi y1027.2) rfl (zad (zaa (zax ?_))))))))))
     obtain rfl := oi h
     refine ke (pt (pt AF0 4 (.xs y1027.1)) 5 (.xi y1027.2)) [] rfl (s2 rfl rfl) ⟨rfl, rfl⟩
theorem m_ref11_Events_ok (a0 : List ((List UInt8) × Int × (List Int) × (List (List UInt8)))) (r : (List (List UInt8)) × Int) (h : m_ref11_Events a0 = some r) : Pure Tryz.prog 63 [(.row 4 zaf a0)] (.tup [.row 1 zab r.1, .exact (.int .i64 r.2)]) := by
 unfold m_ref11_Events at h
 refine Pure.ofFun (zar Tryz.func63 rfl Tryz.ntmps63 (by simp) rfl (res2 rfl) fun E hE => k_end (zac (kr (qa (.exact (.slice none 0 0)) rfl (qa (.xi 0) rfl (zad (zaa (zac (zac (kr (qm (.row 4 zaf a0) rfl ?_)))))))))))
 obtain ⟨y1, hy1, h⟩ := zag h
 refine gq (zal (m_ref11_ValidNames_ok _ _ hy1) Tryz.func53 (by kernel_rfl) (lc lf ln) (gq (op_not rfl (zad (zaa (kb (p := !y1) rfl h (fun hc h => ?_) (fun hc h => ?_)))))))
 ·refine zac (kr (qa (.exact (.slice none 0 0)) rfl (qa (.xi 1) rfl (zad (zaa (zax (zba ?_)))))))
  obtain rfl := oi h
  refine ke (pt (pt AF0 2 (.row 1 zab [])) 3 (.xi 1)) [] rfl (so (lq rfl (AF.le_put (row_nil (by decide)) lt0))) ⟨rfl, rfl⟩
 ·refine zat (zaa (k_join0_0 h ((pt AF0 0 (.row 4 zaf a0))) ([]) (fun k2 h => ?_) (fun  h => ?_)))
  ·refine zac (kr (qa (.xi 0) rfl (zad (zaa (zaw (k_loop1_0 (m_ref11_Events_L2 a0 k2) (m_ref11_Events_B2 a0 k2) (fun _ => rfl) (fun m _ => rfl) h (fun (x4_l2 : Int) => (pt (pt AF0 0 (.row 4 zaf a0)) 4 (.xi x4_l2))) (fun (x4_l2 : Int) => []) ?_ (fun rec2 x4_l2 h => ?_)))))))
   ·exact s2 rfl rfl
   ·unfold m_ref11_Events_B2 at h
    refine zac (zac (kr (qm (.xi x4_l2) rfl (qm (.row 4 zaf a0) rfl (gq (zap (by kernel_rfl) rfl (gq (op_lss rfl rfl (zad (zaa (kd (p := x4_l2 < (List.length a0 : Int)) rfl h (fun hc h => ?_) (fun hc h => ?_))))))))))))
    ·refine zat (zaa (zac (zaw (zbc h (fun (x37_j87 : Bool) => (pt (pt (pt AF0 0 (.row 4 zaf a0)) 4 (.xi x4_l2)) 37 (.xb x37_j87))) (fun (x37_j87 : Bool) => []) (fun k87 h => ?_) (fun x37_j87 h => ?_)))))
     ·refine kr (qm (.row 4 zaf a0) rfl (qm (.xi x4_l2) rfl ?_))
      obtain ⟨n91, h⟩ := zah h
      refine gq (zao (by kernel_rfl) rfl rfl n91.1 n91.2 (gq (zbm (o := 1) (c' := (List.drop 1 (zaf (gi a0 x4_l2)))) (by kernel_rfl) rfl rfl (gq (zav (a := .xi ((gi a0 x4_l2).2.1)) (by kernel_rfl) rfl rfl (gq (op_lss rfl rfl (qm (.xb (decide (((gi a0 x4_l2).2.1) < 0))) rfl (G_split (p := ((gi a0 x4_l2).2.1) < 0) 31 rfl (fun hc => ?_) (fun hc => ?_))))))))))
      ·replace h := ite_t h hc
       refine Gy_q rfl rfl rfl (zam (av := .row 4 zaf a0) rfl (Gy_q rfl rfl rfl (zam (av := .xi x4_l2) rfl ?_)))
       obtain ⟨n92, h⟩ := zah h
       refine Gy_q rfl rfl rfl (zao (by kernel_rfl) rfl rfl n92.1 n92.2 (Gy_q rfl rfl rfl (op_loadNp (m := 4) (c' := zaf (gi a0 x4_l2)) (by kernel_rfl) rfl rfl rfl ?_)))
       obtain ⟨y93, hy93, h⟩ := zag h
       refine Gy_q rfl rfl rfl (zal (m_ref11_unbounded_ok _ _ _ hy93) Tryz.func97 (by kernel_rfl) (lc lf (lc lf ln)) (gq (zau rfl (av := .xb y93) rfl (zad (zae ⟨_, h, s3 rfl rfl rfl⟩)))))
      ·replace h := ite_f h hc
       refine G_n rfl rfl (G_n rfl rfl (G_n rfl rfl (G_n rfl rfl (G_n rfl rfl (gq (zaj rfl (av := .xb false) rfl (zad (zae ⟨_, h, s3 rfl rfl rfl⟩))))))))
     ·refine kb (p := x37_j87) rfl h (fun hc h => ?_) (fun hc h => ?_)
      ·refine zac (kr (qa (.exact (.slice none 0 0)) rfl (qa (.xi 17) rfl (zad (zaa (zax (zbb (zba (zbj (zbb (zbj ?_)))))))))))
       obtain rfl := oi h
       refine ke (pt (pt AF0 2 (.row 1 zab [])) 3 (.xi 17)) [] rfl (so (lq rfl (AF.le_put (row_nil (by decide)) lt0))) ⟨rfl, rfl⟩
      ·refine zat (zaz (zaa (kr (qm (.xi x4_l2) rfl (gq (op_add rfl rfl rfl (qa (.xi (i64 (x4_l2 + 1))) rfl (zad (zae ⟨_, h, s2 rfl rfl⟩)))))))))
    ·refine k_exit (kC_exit (kI_exit (kB_exit (zae ⟨h, s1 rfl⟩))))
  ·refine zac (kr (qa (.exact (.slice none 0 0)) rfl (zad (zaa (k_join1_1 h (fun (x5_j94 : List (List UInt8)) (v5_j94 : Value) => (pt AF0 5 (.exact v5_j94))) (fun (x5_j94 : List (List UInt8)) (v5_j94 : Value) => [vecT Tryz.prog 23 1 zab v5_j94 x5_j94]) (fun k94 h => ?_) (fun x5_j94 v5_j94 h => ?_))))))
   ·refine zac (kr (qa (.xi 0) rfl (zad (zaa (zaw (k_loop2_1 (m_ref11_Events_L1042 a0 k94) (m_ref11_Events_B1042 a0 k94) (fun _ _ => rfl) (fun m _ _ => rfl) h (fun (x5_l1042 : List (List UInt8)) (x6_l1042 : Int) (v5_l1042 : Value) => (pt (pt (pt AF0 0 (.row 4 zaf a0)) 5 (.exact v5_l1042)) 6 (.xi x6_l1042))) (fun (x5_l1042 : List (List UInt8)) (x6_l1042 : Int) (v5_l1042 : Value) => [vecT Tryz.prog 23 1 zab v5_l1042 x5_l1042]) (.slice none 0 0) ?_ (fun rec1042 x5_l1042 x6_l1042 v5_l1042 h => ?_)))))))
    ·refine Sub.trans (SubU.to (SubU.nilT (P := Tryz.prog) (t := 23) (n := 1) (enc := zab))) (s3 rfl rfl rfl)
    ·unfold m_ref11_Events_B1042 at h
     refine zac (zac (kr (qm (.xi x6_l1042) rfl (qm (.row 4 zaf a0) rfl (gq (zap (by kernel_rfl) rfl (gq (op_lss rfl rfl (zad (zaa (kd (p := x6_l1042 < (List.length a0 : Int)) rfl h (fun hc h => ?_) (fun hc h => ?_))))))))))))
     ·refine zat (zaa (k_join1_1 h (fun (x5_j38991 : List (List UInt8)) (v5_j38991 : Value) => (pt (pt (pt AF0 0 (.row 4 zaf a0)) 5 (.exact v5_j38991)) 6 (.xi x6_l1042))) (fun (x5_j38991 : List (List UInt8)) (v5_j38991 : Value) => [vecT Tryz.prog 23 1 zab v5_j38991 x5_j38991]) (fun k38991 h => ?_) (fun x5_j38991 v5_j38991 h => ?_)))
      ·refine zaw (zac (zac (kr (qm (.row 4 zaf a0) rfl (qm (.xi x6_l1042) rfl ?_)))))
       obtain ⟨n42881, h⟩ := zah h
       refine gq (zao (by kernel_rfl) rfl rfl n42881.1 n42881.2 (gq (zbm (o := 1) (c' := (List.drop 1 (zaf (gi a0 x6_l1042)))) (by kernel_rfl) rfl rfl (gq (zav (a := .xi ((gi a0 x6_l1042).2.1)) (by kernel_rfl) rfl rfl (gq (op_geq rfl rfl (zad (zaa (kd (p := 0 ≤ ((gi a0 x6_l1042).2.1)) rfl h (fun hc h => ?_) (fun hc h => ?_)))))))))))
       ·refine k_exit (kC_exit (kB_exit (zae ⟨_, v5_l1042, h, s3 rfl rfl rfl⟩)))
       ·refine zat (zaa (zac (kr (gq (op_litT (n := 1) (enc := zan) [([] : List (List UInt8))] (CellsAll.cons rfl CellsOf.slice CellsAll.nil) rfl (by kernel_rfl) (LEss.cons (lc (row_nil (by decide)) ln) LEss.nil) (qa (.row 1 zan ([([] : List (List UInt8))])) rfl (zad (zaa (zbc h (fun (x7_j42882 : List (List (List UInt8))) => (pt (pt (pt (pt AF0 0 (.row 4 zaf a0)) 5 (.exact v5_l1042)) 6 (.xi x6_l1042)) 7 (.row 1 zan x7_j42882))) (fun (x7_j42882 : List (List (List UInt8))) => [vecT Tryz.prog 23 1 zab v5_l1042 x5_l1042]) (fun k42882 h => ?_) (fun x7_j42882 h => ?_))))))))))
        ·refine zac (kr (qm (.row 4 zaf a0) rfl (qm (.xi x6_l1042) rfl ?_)))
         obtain ⟨n42906, h⟩ := zah h
         refine gq (zao (by kernel_rfl) rfl rfl n42906.1 n42906.2 (gq (zbm (o := 3) (c' := (List.drop 3 (zaf (gi a0 x6_l1042)))) (by kernel_rfl) rfl rfl (gq (zav (a := .row 1 zab ((gi a0 x6_l1042).2.2.2)) (by kernel_rfl) rfl rfl (gq (zap (by kernel_rfl) rfl (gq (op_sub rfl rfl rfl (qa (.xi (i64 ((List.length ((gi a0 x6_l1042).2.2.2) : Int) - 1))) rfl (zad (zaa (zaw (k_loop2_0 (m_ref11_Events_L1909 a0 x6_l1042 k42882) (m_ref11_Events_B1909 a0 x6_l1042 k42882) (fun _ _ => rfl) (fun m _ _ => rfl) h (fun (x7_l1909 : List (List (List UInt8))) (x8_l1909 : Int) => (pt (pt (pt (pt (pt AF0 0 (.row 4 zaf a0)) 5 (.exact v5_l1042)) 6 (.xi x6_l1042)) 7 (.row 1 zan x7_l1909)) 8 (.xi x8_l1909))) (fun (x7_l1909 : List (List (List UInt8))) (x8_l1909 : Int) => [vecT Tryz.prog 23 1 zab v5_l1042 x5_l1042]) ?_ (fun rec1909 x7_l1909 x8_l1909 h => ?_)))))))))))))))
         ·exact so (l4 rfl rfl rfl rfl (lq rfl lt0))
         ·unfold m_ref11_Events_B1909 at h
          refine zac (zac (kr (qm (.xi x8_l1909) rfl (gq (op_geq rfl rfl (zad (zaa (kd (p := 0 ≤ x8_l1909) rfl h (fun hc h => ?_) (fun hc h => ?_)))))))))
          ·refine zat (zaa (zbc h (fun (x7_j42921 : List (List (List UInt8))) => (pt (pt (pt (pt (pt AF0 0 (.row 4 zaf a0)) 5 (.exact v5_l1042)) 6 (.xi x6_l1042)) 7 (.row 1 zan x7_j42921)) 8 (.xi x8_l1909))) (fun (x7_j42921 : List (List (List UInt8))) => [vecT Tryz.prog 23 1 zab v5_l1042 x5_l1042]) (fun k42921 h => ?_) (fun x7_j42921 h => ?_)))
           ·refine zaw (zac (kr (qm (.row 4 zaf a0) rfl (qm (.xi x6_l1042) rfl ?_))))
            obtain ⟨n42925, h⟩ := zah h
            refine gq (zao (by kernel_rfl) rfl rfl n42925.1 n42925.2 (gq (zbm (o := 3) (c' := (List.drop 3 (zaf (gi a0 x6_l1042)))) (by kernel_rfl) rfl rfl (gq (zav (a := .row 1 zab ((gi a0 x6_l1042).2.2.2)) (by kernel_rfl) rfl rfl (qm (.xi x8_l1909) rfl ?_))))))
            obtain ⟨n42926, h⟩ := zah h
            refine gq (zao (by kernel_rfl) rfl rfl n42926.1 n42926.2 (gq (zav (a := .xs (gi ((gi a0 x6_l1042).2.2.2) x8_l1909)) (by kernel_rfl) rfl rfl ?_)))
            obtain ⟨y42927, hy42927, h⟩ := zag h
            refine gq (zal (m_ref9_Parts_ok _ _ hy42927) Tryz.func18 (by kernel_rfl) (lc lf ln) (gq (zap (by kernel_rfl) rfl (gq (op_eql rfl rfl (zad (zaa (kd (p := (List.length y42927 : Int) = 0) rfl h (fun hc h => ?_) (fun hc h => ?_)))))))))
            ·refine kr (qa (.exact (.slice none 0 0)) rfl (zad (zaz (zae ⟨_, h, so (lq rfl (AF.le_put (row_nil (by decide)) (lq rfl (lq rfl (lq rfl lt0)))))⟩))))
            ·refine zat (zaz (zae ⟨_, h, so (l4 rfl rfl rfl rfl (lq rfl lt0))⟩))
           ·refine kr (qm (.xi x8_l1909) rfl (gq (op_sub rfl rfl rfl (qa (.xi (i64 (x8_l1909 - 1))) rfl (zad (zae ⟨_, _, h, so (l4 rfl rfl rfl rfl (lq rfl lt0))⟩))))))
          ·refine k_exit (kC_exit (kI_exit (kB_exit (zae ⟨_, h, s4 rfl rfl rfl rfl⟩))))
        ·refine zbc h (fun (x7_j42928 : List (List (List UInt8))) => (pt (pt (pt (pt AF0 0 (.row 4 zaf a0)) 5 (.exact v5_l1042)) 6 (.xi x6_l1042)) 7 (.row 1 zan x7_j42928))) (fun (x7_j42928 : List (List (List UInt8))) => [vecT Tryz.prog 23 1 zab v5_l1042 x5_l1042]) (fun k42928 h => ?_) (fun x7_j42928 h => ?_)
         ·refine zac (kr (qa (.xi 0) rfl (zad (zaa (zaw (k_loop2_0 (m_ref11_Events_L1995 a0 x6_l1042 k42928) (m_ref11_Events_B1995 a0 x6_l1042 k42928) (fun _ _ => rfl) (fun m _ _ => rfl) h (fun (x7_l1995 : List (List (List UInt8))) (x9_l1995 : Int) => (pt (pt (pt (pt (pt AF0 0 (.row 4 zaf a0)) 5 (.exact v5_l1042)) 6 (.xi x6_l1042)) 7 (.row 1 zan x7_l1995)) 9 (.xi x9_l1995))) (fun (x7_l1995 : List (List (List UInt8))) (x9_l1995 : Int) => [vecT Tryz.prog 23 1 zab v5_l1042 x5_l1042]) ?_ (fun rec1995 x7_l1995 x9_l1995 h => ?_)))))))
          ·exact so (l4 rfl rfl rfl rfl (lq rfl lt0))
          ·unfold m_ref11_Events_B1995 at h
           refine zac (zbc h (fun (x85_j46094 : Bool) => (pt (pt (pt (pt (pt (pt AF0 0 (.row 4 zaf a0)) 5 (.exact v5_l1042)) 6 (.xi x6_l1042)) 7 (.row 1 zan x7_l1995)) 9 (.xi x9_l1995)) 85 (.xb x85_j46094))) (fun (x85_j46094 : Bool) => [vecT Tryz.prog 23 1 zab v5_l1042 x5_l1042]) (fun k46094 h => ?_) (fun x85_j46094 h => ?_))
           ·refine kr (qm (.xi x9_l1995) rfl (qm (.row 4 zaf a0) rfl (qm (.xi x6_l1042) rfl ?_)))
            obtain ⟨n46096, h⟩ := zah h
            refine gq (zao (by kernel_rfl) rfl rfl n46096.1 n46096.2 (gq (zbm (o := 3) (c' := (List.drop 3 (zaf (gi a0 x6_l1042)))) (by kernel_rfl) rfl rfl (gq (zav (a := .row 1 zab ((gi a0 x6_l1042).2.2.2)) (by kernel_rfl) rfl rfl (gq (zap (by kernel_rfl) rfl (gq (op_lss rfl rfl (qm (.xb (decide (x9_l1995 < (List.length ((gi a0 x6_l1042).2.2.2) : Int)))) rfl (G_split (p := x9_l1995 < (List.length ((gi a0 x6_l1042).2.2.2) : Int)) 81 rfl (fun hc => ?_) (fun hc => ?_))))))))))))
            ·replace h := ite_t h hc
             refine Gy_q rfl rfl rfl (zam (av := .row 1 zan x7_l1995) rfl (Gy_q rfl rfl rfl (zap (by kernel_rfl) rfl (Gy_q rfl rfl rfl (op_gtr rfl rfl (gq (zau rfl (av := .xb (decide (0 < (List.length x7_l1995 : Int)))) rfl (zad (zae ⟨_, h, so (l4 rfl rfl rfl rfl (lq rfl (lq rfl lt0)))⟩)))))))))
            ·replace h := ite_f h hc
             refine G_n rfl rfl (G_n rfl rfl (G_n rfl rfl (gq (zaj rfl (av := .xb false) rfl (zad (zae ⟨_, h, so (l4 rfl rfl rfl rfl (lq rfl (lq rfl lt0)))⟩))))))
           ·refine kb (p := x85_j46094) rfl h (fun hc h => ?_) (fun hc h => ?_)
            ·refine zat (zaa (k_join1_1 h (fun (x7_j46097 : List (List (List UInt8))) (v7_j46097 : Value) => (pt (pt (pt (pt (pt AF0 0 (.row 4 zaf a0)) 5 (.exact v5_l1042)) 6 (.xi x6_l1042)) 7 (.exact v7_j46097)) 9 (.xi x9_l1995))) (fun (x7_j46097 : List (List (List UInt8))) (v7_j46097 : Value) => [vecT Tryz.prog 23 1 zab v5_l1042 x5_l1042, vecT Tryz.prog 91 1 zan v7_j46097 x7_j46097]) (fun k46097 h => ?_) (fun x7_j46097 v7_j46097 h => ?_)))
             ·refine zaw (zac (kr (qm (.row 4 zaf a0) rfl (qm (.xi x6_l1042) rfl ?_))))
              obtain ⟨n46410, h⟩ := zah h
              refine gq (zao (by kernel_rfl) rfl rfl n46410.1 n46410.2 (gq (zbm (o := 3) (c' := (List.drop 3 (zaf (gi a0 x6_l1042)))) (by kernel_rfl) rfl rfl (gq (zav (a := .row 1 zab ((gi a0 x6_l1042).2.2.2)) (by kernel_rfl) rfl rfl (qm (.xi x9_l1995) rfl ?_))))))
              obtain ⟨n46411, h⟩ := zah h
              refine gq (zao (by kernel_rfl) rfl rfl n46411.1 n46411.2 (gq (zav (a := .xs (gi ((gi a0 x6_l1042).2.2.2) x9_l1995)) (by kernel_rfl) rfl rfl ?_)))
              obtain ⟨y46412, hy46412, h⟩ := zag h
              refine gq (zal (m_ref9_Parts_ok _ _ hy46412) Tryz.func18 (by kernel_rfl) (lc lf ln) (qa (.row 1 zab y46412) rfl (zad (zaa (zac (kr (qa (.exact (.slice none 0 0)) rfl (zad (zaa (zac (zac (kr (qm (.row 1 zan x7_l1995) rfl (gq (zap (by kernel_rfl) rfl (qm (.row 1 zab y46412) rfl (gq (zap (by kernel_rfl) rfl (gq (op_mul rfl rfl rfl (gq (op_gtr rfl rfl ?_))))))))))))))))))))))
              refine zad (zaa (kd (p := 1024 < (i64 ((List.length x7_l1995 : Int) * (List.length y46412 : Int)))) rfl h (fun hc h => ?_) (fun hc h => ?_)))
              ·refine zac (kr (qa (.exact (.slice none 0 0)) rfl (qa (.xi 9) rfl (zad (zaa (zax (zba (zbb (zbj (zbj (zbb (zbj (zbb (zbj (zbj (zbb (zbj ?_)))))))))))))))))
               obtain rfl := oi h
               refine ke (pt (pt AF0 2 (.row 1 zab [])) 3 (.xi 9)) [] rfl (Sub.trans (SubU.to SubU.drop) (so (lq rfl (AF.le_put (row_nil (by decide)) lt0)))) ⟨rfl, rfl⟩
              ·refine zat (zaa (k_join1_1 h (fun (x11_j46413 : List (List (List UInt8))) (v11_j46413 : Value) => (pt (pt (pt (pt (pt AF0 0 (.row 4 zaf a0)) 5 (.exact v5_l1042)) 6 (.xi x6_l1042)) 9 (.xi x9_l1995)) 11 (.exact v11_j46413))) (fun (x11_j46413 : List (List (List UInt8))) (v11_j46413 : Value) => [vecT Tryz.prog 23 1 zab v5_l1042 x5_l1042, vecT Tryz.prog 91 1 zan v11_j46413 x11_j46413]) (fun k46413 h => ?_) (fun x11_j46413 v11_j46413 h => ?_)))
               ·refine zac (kr (qa (.xi 0) rfl (zad (zaa (zaw (k_loop2_1 (m_ref11_Events_L2073 x7_l1995 y46412 k46413) (m_ref11_Events_B2073 x7_l1995 y46412 k46413) (fun _ _ => rfl) (fun m _ _ => rfl) h (fun (x11_l2073 : List (List (List UInt8))) (x12_l2073 : Int) (v11_l2073 : Value) => (pt (pt (pt (pt (pt (pt (pt (pt AF0 0 (.row 4 zaf a0)) 5 (.exact v5_l1042)) 6 (.xi x6_l1042)) 7 (.row 1 zan x7_l1995)) 9 (.xi x9_l1995)) 10 (.row 1 zab y46412)) 11 (.exact v11_l2073)) 12 (.xi x12_l2073))) (fun (x11_l2073 : List (List (List UInt8))) (x12_l2073 : Int) (v11_l2073 : Value) => [vecT Tryz.prog 23 1 zab v5_l1042 x5_l1042, vecT Tryz.prog 91 1 zan v11_l2073 x11_l2073]) (.slice none 0 0) ?_ (fun rec2073 x11_l2073 x12_l2073 v11_l2073 h => ?_)))))))
                ·refine Sub.trans (SubU.to (SubU.nilT (P := Tryz.prog) (t := 91) (n := 1) (enc := zan))) (Sub.trans (SubU.to SubU.f1) (so (l4 rfl rfl rfl rfl (l4 rfl rfl rfl rfl lt0))))
                ·unfold m_ref11_Events_B2073 at h
                 refine zac (zac (kr (qm (.xi x12_l2073) rfl (qm (.row 1 zan x7_l1995) rfl (gq (zap (by kernel_rfl) rfl (gq (op_lss rfl rfl (zad (zaa (kd (p := x12_l2073 < (List.length x7_l1995 : Int)) rfl h (fun hc h => ?_) (fun hc h => ?_))))))))))))
                 ·refine zat (zaa (k_join1_1 h (fun (x11_j46670 : List (List (List UInt8))) (v11_j46670 : Value) => (pt (pt (pt (pt (pt (pt (pt (pt AF0 0 (.row 4 zaf a0)) 5 (.exact v5_l1042)) 6 (.xi x6_l1042)) 7 (.row 1 zan x7_l1995)) 9 (.xi x9_l1995)) 10 (.row 1 zab y46412)) 11 (.exact v11_j46670)) 12 (.xi x12_l2073))) (fun (x11_j46670 : List (List (List UInt8))) (v11_j46670 : Value) => [vecT Tryz.prog 23 1 zab v5_l1042 x5_l1042, vecT Tryz.prog 91 1 zan v11_j46670 x11_j46670]) (fun k46670 h => ?_) (fun x11_j46670 v11_j46670 h => ?_)))
                  ·refine zaw (zac (kr (qa (.xi 0) rfl (zad (zaa (zaw (k_loop2_1 (m_ref11_Events_L2079 x7_l1995 y46412 x12_l2073 k46670) (m_ref11_Events_B2079 x7_l1995 y46412 x12_l2073 k46670) (fun _ _ => rfl) (fun m _ _ => rfl) h (fun (x11_l2079 : List (List (List UInt8))) (x13_l2079 : Int) (v11_l2079 : Value) => (pt (pt (pt (pt (pt (pt (pt (pt (pt AF0 0 (.row 4 zaf a0)) 5 (.exact v5_l1042)) 6 (.xi x6_l1042)) 7 (.row 1 zan x7_l1995)) 9 (.xi x9_l1995)) 10 (.row 1 zab y46412)) 11 (.exact v11_l2079)) 12 (.xi x12_l2073)) 13 (.xi x13_l2079))) (fun (x11_l2079 : List (List (List UInt8))) (x13_l2079 : Int) (v11_l2079 : Value) => [vecT Tryz.prog 23 1 zab v5_l1042 x5_l1042, vecT Tryz.prog 91 1 zan v11_l2079 x11_l2079]) v11_l2073 ?_ (fun rec2079 x11_l2079 x13_l2079 v11_l2079 h => ?_))))))))
                   ·exact so (l4 rfl rfl rfl rfl (l4 rfl rfl rfl rfl (lq rfl lt0)))
                   ·unfold m_ref11_Events_B2079 at h
                    refine zac (zac (kr (qm (.xi x13_l2079) rfl (qm (.row 1 zab y46412) rfl (gq (zap (by kernel_rfl) rfl (gq (op_lss rfl rfl (zad (zaa (kd (p := x13_l2079 < (List.length y46412 : Int)) rfl h (fun hc h => ?_) (fun hc h => ?_))))))))))))
                    ·refine zat (zaa (zac (zaw (k_plan [] [(0, 0), (0, 1), (0, 2), (0, 3), (0, 4), (0, 6), (0, 7), (0, 8), (0, 9), (0, 10), (2, 5), (2, 11), (0, 12), (2, 13), (0, 14)] hmixP (by kernel_rfl) (P_q zaq rfl (zam (av := .exact v11_l2079) rfl (P_q zaq rfl (zam (av := .row 1 zan x7_l1995) rfl (P_q zaq rfl (zam (av := .xi x12_l2073) rfl ?_))))))))))
                     obtain ⟨n46712, h⟩ := zah h
                     refine P_q zaq rfl (zao (by kernel_rfl) rfl rfl n46712.1 n46712.2 (P_q zaq rfl (zav (a := .row 1 zab (gi x7_l1995 x12_l2073)) (by kernel_rfl) rfl rfl (P_q zaq rfl (zam (av := .row 1 zab y46412) rfl (P_q zaq rfl (zam (av := .xi x13_l2079) rfl ?_)))))))
                     obtain ⟨n46713, h⟩ := zah h
                     refine P_q zaq rfl (zao (by kernel_rfl) rfl rfl n46713.1 n46713.2 (P_q zaq rfl (zav (a := .xs (gi y46412 x13_l2079)) (by kernel_rfl) rfl rfl (P_q zaq rfl (op_litT (n := 1) (enc := zab) [gi y46412 x13_l2079] (CellsAll.cons rfl CellsOf.str CellsAll.nil) rfl (by kernel_rfl) (LEss.cons (lc lf ln) LEss.nil) ?_)))))
                     obtain ⟨n46714, h⟩ := zah h
                     refine P_l rfl (op_appN (enc := zab) (by kernel_rfl) rfl rfl zbe n46714 (fun v46715 => ?_))
                     obtain ⟨n46716, h⟩ := zah h
                     refine P_l rfl (opB_frz (t := 23) (n := 1) (enc := zab) rfl zay (op_appT (by kernel_rfl) rfl rfl zbe n46716 (fun v46717 => ⟨v46717, _, _, rfl, rfl, ?_⟩)))
                     refine P_q zaq rfl (op_litT (n := 1) (enc := zan) [(gi x7_l1995 x12_l2073 ++ [gi y46412 x13_l2079])] (CellsAll.cons rfl CellsOf.row CellsAll.nil) rfl (by kernel_rfl) (LEss.cons (lc lf ln) LEss.nil) ?_)
                     obtain ⟨n46718, h⟩ := zah h
                     refine P_l rfl (opB_f1 (op_appT (by kernel_rfl) rfl rfl oc_c_L_api_Value n46718 (fun v46719 => P_q zaq rfl (op_assign (av := .exact v46719) rfl (P_nil (zaz (zaa (kr (qm (.xi x13_l2079) rfl (gq (op_add rfl rfl rfl (qa (.xi (i64 (x13_l2079 + 1))) rfl (zad (zae ⟨_, _, v46719, h, ?_⟩))))))))))))))
                     refine Sub.trans (SubU.to SubU.f1) (so (l4 rfl rfl rfl rfl (l4 rfl rfl rfl rfl (lq rfl lt0))))
                    ·refine k_exit (kC_exit (kI_exit (kB_exit (zaz (zae ⟨_, v11_l2079, h, so (l4 rfl rfl rfl rfl (l4 rfl rfl rfl rfl lt0))⟩)))))
                  ·refine kr (qm (.xi x12_l2073) rfl (gq (op_add rfl rfl rfl (qa (.xi (i64 (x12_l2073 + 1))) rfl (zad (zae ⟨_, _, v11_j46670, h, so (l4 rfl rfl rfl rfl (l4 rfl rfl rfl rfl lt0))⟩))))))
                 ·refine k_exit (kC_exit (kI_exit (kB_exit (zae ⟨_, v11_l2073, h, so (l4 rfl rfl rfl rfl (lq rfl lt0))⟩))))
               ·refine kr (qm (.exact v11_j46413) rfl (qa (.exact v11_j46413) rfl (zad (zaz (zae ⟨_, v11_j46413, h, so (l4 rfl rfl rfl rfl (lq rfl lt0))⟩)))))
             ·refine kr (qm (.xi x9_l1995) rfl (gq (op_add rfl rfl rfl (qa (.xi (i64 (x9_l1995 + 1))) rfl (zad (zae ⟨_, _, h, ?_⟩))))))
              refine Sub.trans (SubU.to SubU.f1) (Sub.trans (SubU.to (SubU.freezeT (s := 7) rfl len_c_L_api_Value)) (so (l4 rfl rfl rfl rfl (lq rfl lt0))))
            ·refine k_exit (kC_exit (kI_exit (kB_exit (zae ⟨_, h, s4 rfl rfl rfl rfl⟩))))
         ·refine zac (kr (qa (.xi 0) rfl (zad (zaa (zaw (k_loop2_1 (m_ref11_Events_L2080 x6_l1042 k38991 x7_j42928) (m_ref11_Events_B2080 x6_l1042 k38991 x7_j42928) (fun _ _ => rfl) (fun m _ _ => rfl) h (fun (x5_l2080 : List (List UInt8)) (x14_l2080 : Int) (v5_l2080 : Value) => (pt (pt (pt (pt (pt AF0 0 (.row 4 zaf a0)) 5 (.exact v5_l2080)) 6 (.xi x6_l1042)) 7 (.row 1 zan x7_j42928)) 14 (.xi x14_l2080))) (fun (x5_l2080 : List (List UInt8)) (x14_l2080 : Int) (v5_l2080 : Value) => [vecT Tryz.prog 23 1 zab v5_l2080 x5_l2080]) v5_l1042 ?_ (fun rec2080 x5_l2080 x14_l2080 v5_l2080 h => ?_)))))))
          ·exact so (l4 rfl rfl rfl rfl (lq rfl lt0))
          ·unfold m_ref11_Events_B2080 at h
           refine zac (zac (kr (qm (.xi x14_l2080) rfl (qm (.row 1 zan x7_j42928) rfl (gq (zap (by kernel_rfl) rfl (gq (op_lss rfl rfl (zad (zaa (kd (p := x14_l2080 < (List.length x7_j42928 : Int)) rfl h (fun hc h => ?_) (fun hc h => ?_))))))))))))
           ·refine zat (zaa (zac (zaw (zac (kr (qm (.xi x6_l1042) rfl (qm (.row 1 zan x7_j42928) rfl (qm (.xi x14_l2080) rfl ?_))))))))
            obtain ⟨n46758, h⟩ := zah h
            refine gq (zao (by kernel_rfl) rfl rfl n46758.1 n46758.2 (gq (zav (a := .row 1 zab (gi x7_j42928 x14_l2080)) (by kernel_rfl) rfl rfl ?_)))
            obtain ⟨y46759, hy46759, h⟩ := zag h
            refine gq (zal (m_ref9_Dot_ok _ _ _ hy46759) Tryz.func8 (by kernel_rfl) (lc lf (lc lf ln)) (qa (.xs y46759) rfl (zad (zaa (zac (zbc h (fun (x148_j46762 : Bool) => (pt (pt (pt (pt (pt (pt (pt AF0 0 (.row 4 zaf a0)) 5 (.exact v5_l2080)) 6 (.xi x6_l1042)) 7 (.row 1 zan x7_j42928)) 14 (.xi x14_l2080)) 15 (.xs y46759)) 148 (.xb x148_j46762))) (fun (x148_j46762 : Bool) => [vecT Tryz.prog 23 1 zab v5_l2080 x5_l2080]) (fun k46762 h => ?_) (fun x148_j46762 h => ?_)))))))
            ·refine kr (qm (.xs y46759) rfl (gq (op_eqlS rfl rfl (qm (.xb (decide (y46759 = ([] : List UInt8)))) rfl (G_split (p := y46759 = ([] : List UInt8)) 144 rfl (fun hc => ?_) (fun hc => ?_))))))
             ·replace h := ite_t h hc
              refine G_n rfl rfl (G_n rfl rfl (G_n rfl rfl (gq (zau rfl (av := .xb true) rfl (zad (zae ⟨_, h, so (l4 rfl rfl rfl rfl (lq rfl (lq rfl (lq rfl lt0))))⟩))))))
             ·replace h := ite_f h hc
              refine Gy_q rfl rfl rfl (zam (av := .exact v5_l2080) rfl (Gy_r rfl rfl rfl (op_len_vec (by kernel_rfl) rfl (Gy_q rfl rfl rfl (op_geq rfl rfl (gq (zaj rfl (av := .xb (decide (1024 ≤ (List.length x5_l2080 : Int)))) rfl (zad (zae ⟨_, h, so (l4 rfl rfl rfl rfl (lq rfl (lq rfl (lq rfl lt0))))⟩)))))))))
            ·refine kb (p := x148_j46762) rfl h (fun hc h => ?_) (fun hc h => ?_)
             ·refine zac (kr (qa (.exact (.slice none 0 0)) rfl (qa (.xi 9) rfl (zad (zaa (zax (zba (zbb (zba (zbj (zbb (zbb (zbj (zbj (zbb (zbj ?_))))))))))))))))
              obtain rfl := oi h
              refine ke (pt (pt AF0 2 (.row 1 zab [])) 3 (.xi 9)) [] rfl (Sub.trans (SubU.to SubU.drop) (so (lq rfl (AF.le_put (row_nil (by decide)) lt0)))) ⟨rfl, rfl⟩
             ·refine zat (zaa (kr (qm (.exact v5_l2080) rfl (qm (.xs y46759) rfl (gq (op_litT (n := 1) (enc := zab) [y46759] (CellsAll.cons rfl CellsOf.str CellsAll.nil) rfl (by kernel_rfl) (LEss.cons (lc lf ln) LEss.nil) ?_))))))
              obtain ⟨n46763, h⟩ := zah h
              refine G_l rfl (op_appT (by kernel_rfl) rfl rfl zbe n46763 (fun v46764 => qa (.exact v46764) rfl (zad (zaz (zaa (kr (qm (.xi x14_l2080) rfl (gq (op_add rfl rfl rfl (qa (.xi (i64 (x14_l2080 + 1))) rfl (zad (zae ⟨_, _, v46764, h, so (l4 rfl rfl rfl rfl (lq rfl lt0))⟩))))))))))))
           ·refine k_exit (kC_exit (kI_exit (kB_exit (zaz (zae ⟨_, v5_l2080, h, s3 rfl rfl rfl⟩)))))
      ·refine kr (qm (.xi x6_l1042) rfl (gq (op_add rfl rfl rfl (qa (.xi (i64 (x6_l1042 + 1))) rfl (zad (zae ⟨_, _, v5_j38991, h, s3 rfl rfl rfl⟩))))))
     ·refine k_exit (kC_exit (kI_exit (kB_exit (zae ⟨_, v5_l1042, h, s1 rfl⟩))))
   ·refine zac (kr (qm (.exact v5_j94) rfl (qa (.exact v5_j94) rfl (qa (.xi 0) rfl (zad (zaa (zax ?_)))))))
    obtain rfl := oi h
    refine ke (pt (pt AF0 2 (.row 1 zab x5_j94)) 3 (.xi 0)) [] rfl (Sub.trans (SubU.to (SubU.freezeT (s := 2) rfl zay)) (s2 rfl rfl)) ⟨rfl, rfl⟩
theorem m_dataspace_Next_ok (a0 : List ((List UInt8) × Int × (List Int) × (List (List UInt8)))) (a1 : List UInt8) (r : (List UInt8) × Bool) (h : m_dataspace_Next a0 a1 = some r) : Pure Tryz.prog 64 [(.row 4 zaf a0), (.exact (.string (bs a1)))] (.tup [.exact (.string (bs r.1)), .exact (.bool r.2)]) := by
 unfold m_dataspace_Next at h
 refine Pure.ofFun (zar Tryz.func64 rfl Tryz.ntmps64 (by simp) rfl (res2 rfl) fun E hE => k_end (zac (kr (qa (.xs ([] : List UInt8)) rfl (qa (.xb false) rfl (zad (zaa (zac (zbc h (fun (x21_j9 : Bool) => (pt (pt (pt AF0 0 (.row 4 zaf a0)) 1 (.xs a1)) 21 (.xb x21_j9))) (fun (x21_j9 : Bool) => []) (fun k9 h => ?_) (fun x21_j9 h => ?_))))))))))
 ·refine kr (qm (.row 4 zaf a0) rfl ?_)
  obtain ⟨y13, hy13, h⟩ := zag h
  refine gq (zal (m_dataspace_Valid_ok _ _ hy13) Tryz.func30 (by kernel_rfl) (lc lf ln) (gq (op_not rfl (qm (.xb (!y13)) rfl (G_splitB (c := !y13) 9 rfl (fun hc => ?_) (fun hc => ?_))))))
  ·replace h := ite_t h hc
   refine G_n rfl rfl (G_n rfl rfl (G_n rfl rfl (G_n rfl rfl (gq (zau rfl (av := .xb true) rfl (qm (.xb true) rfl (G_n rfl rfl (G_n rfl rfl (G_n rfl rfl (G_n rfl rfl (G_n rfl rfl (gq (zau rfl (av := .xb true) rfl (zad (zae ⟨_, h, s3 rfl rfl rfl⟩)))))))))))))))
  ·replace h := ite_f h hc
   refine Gy_q rfl rfl rfl (zam (av := .row 4 zaf a0) rfl (Gy_q rfl rfl rfl (zam (av := .xs a1) rfl ?_)))
   obtain ⟨y14, hy14, h⟩ := zag h
   refine Gy_q rfl rfl rfl (zal (m_dataspace_belongs_ok _ _ _ hy14) Tryz.func32 (by kernel_rfl) (lc lf (lc lf ln)) (Gy_q rfl rfl rfl (op_not rfl (gq (zaj rfl (av := .xb (!y14)) rfl (qm (.xb (!y14)) rfl (G_splitB (c := !y14) 15 rfl (fun hc => ?_) (fun hc => ?_))))))))
   ·replace h := ite_t h hc
    refine G_n rfl rfl (G_n rfl rfl (G_n rfl rfl (G_n rfl rfl (G_n rfl rfl (gq (zau rfl (av := .xb true) rfl (zad (zae ⟨_, h, s3 rfl rfl rfl⟩))))))))
   ·replace h := ite_f h hc
    refine Gy_q rfl rfl rfl (zam (av := .row 4 zaf a0) rfl (Gy_q rfl rfl rfl (zam (av := .xs a1) rfl ?_)))
    obtain ⟨y15, hy15, h⟩ := zag h
    refine Gy_q rfl rfl rfl (zal (m_dataspace_missing_ok _ _ _ hy15) Tryz.func35 (by kernel_rfl) (lc lf (lc lf ln)) (Gy_q rfl rfl rfl (zap (by kernel_rfl) rfl (Gy_q rfl rfl rfl (op_eql rfl rfl (gq (zaj rfl (av := .xb (decide ((List.length y15 : Int) = 0))) rfl (zad (zae ⟨_, h, s3 rfl rfl rfl⟩)))))))))
 ·refine kb (p := x21_j9) rfl h (fun hc h => ?_) (fun hc h => ?_)
  ·refine zac (kr (qa (.xs ([] : List UInt8)) rfl (qa (.xb false) rfl (zad (zaa (zax (zba ?_)))))))
   obtain rfl := oi h
   refine ke (pt (pt AF0 4 (.xs ([] : List UInt8))) 5 (.xb false)) [] rfl (s2 rfl rfl) ⟨rfl, rfl⟩
  ·refine zat (zaa (zac (kr (qm (.row 4 zaf a0) rfl (qm (.xs a1) rfl ?_)))))
   obtain ⟨y16, hy16, h⟩ := zag h
   refine gq (zal (m_dataspace_missing_ok _ _ _ hy16) Tryz.func35 (by kernel_rfl) (lc lf (lc lf ln)) ?_)
   obtain ⟨n17, h⟩ := zah h
   refine gq (zao (by kernel_rfl) rfl rfl n17.1 n17.2 (gq (zav (a := .xs (gi y16 0)) (by kernel_rfl) rfl rfl (qa (.xs (gi y16 0)) rfl (qa (.xb true) rfl (zad (zaa (zax ?_))))))))
   obtain rfl := oi h
   refine ke (pt (pt AF0 4 (.xs (gi y16 0))) 5 (.xb true)) [] rfl (s2 rfl rfl) ⟨rfl, rfl⟩
theorem m_ref11_Join_ok (a0 : List ((List UInt8) × Int × (List Int) × (List (List UInt8)))) (a1 : List UInt8) (a2 : List UInt8) (r : (List UInt8) × Int) (h : m_ref11_Join a0 a1 a2 = some r) : Pure Tryz.prog 65 [(.row 4 zaf a0), (.exact (.string (bs a1))), (.exact (.string (bs a2)))] (.tup [.exact (.string (bs r.1)), .exact (.int .i64 r.2)]) := by
 unfold m_ref11_Join at h
 refine Pure.ofFun (zar Tryz.func65 rfl Tryz.ntmps65 (by simp) rfl (res2 rfl) fun E hE => k_end (zac (kr (qa (.xs ([] : List UInt8)) rfl (qa (.xi 0) rfl (zad (zaa (zac (zac (kr (qm (.row 4 zaf a0) rfl ?_)))))))))))
 obtain ⟨y1, hy1, h⟩ := zag h
 refine gq (zal (m_ref11_ValidNames_ok _ _ hy1) Tryz.func53 (by kernel_rfl) (lc lf ln) (gq (op_not rfl (zad (zaa (kb (p := !y1) rfl h (fun hc h => ?_) (fun hc h => ?_)))))))
 ·refine zac (kr (qa (.xs ([] : List UInt8)) rfl (qa (.xi 1) rfl (zad (zaa (zax (zba ?_)))))))
  obtain rfl := oi h
  refine ke (pt (pt AF0 6 (.xs ([] : List UInt8))) 7 (.xi 1)) [] rfl (s2 rfl rfl) ⟨rfl, rfl⟩
 ·refine zat (zaa (zac (zbc h (fun (x22_j8 : Bool) => (pt (pt (pt (pt AF0 0 (.row 4 zaf a0)) 1 (.xs a1)) 2 (.xs a2)) 22 (.xb x22_j8))) (fun (x22_j8 : Bool) => []) (fun k8 h => ?_) (fun x22_j8 h => ?_))))
  ·refine kr (qm (.xs a1) rfl ?_)
   obtain ⟨y11, hy11, h⟩ := zag h
   refine gq (zal (m_ref9_Kind_ok _ _ hy11) Tryz.func94 (by kernel_rfl) (lc lf ln) (gq (op_neq rfl rfl (qm (.xb (decide (¬ y11 = 7))) rfl (G_split (p := ¬ y11 = 7) 18 rfl (fun hc => ?_) (fun hc => ?_))))))
   ·replace h := ite_t h hc
    refine G_n rfl rfl (G_n rfl rfl (G_n rfl rfl (gq (zau rfl (av := .xb true) rfl (zad (zae ⟨_, h, s4 rfl rfl rfl rfl⟩))))))
   ·replace h := ite_f h hc
    refine Gy_q rfl rfl rfl (zam (av := .xs a2) rfl ?_)
    obtain ⟨y12, hy12, h⟩ := zag h
    refine Gy_q rfl rfl rfl (zal (m_ref9_Valid_ok _ _ hy12) Tryz.func50 (by kernel_rfl) (lc lf ln) (Gy_q rfl rfl rfl (op_not rfl (gq (zaj rfl (av := .xb (!y12)) rfl (zad (zae ⟨_, h, s4 rfl rfl rfl rfl⟩)))))))
  ·refine kb (p := x22_j8) rfl h (fun hc h => ?_) (fun hc h => ?_)
   ·refine zac (kr (qa (.xs ([] : List UInt8)) rfl (qa (.xi 6) rfl (zad (zaa (zax (zba ?_)))))))
    obtain rfl := oi h
    refine ke (pt (pt AF0 6 (.xs ([] : List UInt8))) 7 (.xi 6)) [] rfl (s2 rfl rfl) ⟨rfl, rfl⟩
   ·refine zat (zaa (zac (kr (qm (.row 4 zaf a0) rfl (qm (.xs a1) rfl ?_)))))
    obtain ⟨y13, hy13, h⟩ := zag h
    refine gq (zal (m_ref11_belongs_ok _ _ _ hy13) Tryz.func52 (by kernel_rfl) (lc lf (lc lf ln)) (qm (.tup [.xi y13.1, .row 1 zab y13.2.1, .xb y13.2.2]) rfl (gq (zas (av := .xi y13.1) rfl rfl (gq (zas (av := .row 1 zab y13.2.1) rfl rfl (gq (zas (av := .xb y13.2.2) rfl rfl (qa (.xi y13.1) rfl (qa (.row 1 zab y13.2.1) rfl (qa (.xb y13.2.2) rfl (zad (zaa (zac (zaw (zac (kr (qm (.xb y13.2.2) rfl (gq (op_not rfl ?_))))))))))))))))))))
    refine qa (.xb (!y13.2.2)) rfl (zad (zaa (kb (p := !y13.2.2) rfl h (fun hc h => ?_) (fun hc h => ?_))))
    ·refine zac (kr (qa (.xs ([] : List UInt8)) rfl (qa (.xi 18) rfl (zad (zaa (zax (zbb (zba ?_))))))))
     obtain rfl := oi h
     refine ke (pt (pt AF0 6 (.xs ([] : List UInt8))) 7 (.xi 18)) [] rfl (s2 rfl rfl) ⟨rfl, rfl⟩
    ·refine zac (kr (qm (.row 1 zab y13.2.1) rfl (gq (zap (by kernel_rfl) rfl (qm (.row 4 zaf a0) rfl (qm (.xi y13.1) rfl ?_))))))
     obtain ⟨n14, h⟩ := zah h
     refine gq (zao (by kernel_rfl) rfl rfl n14.1 n14.2 (gq (zbm (o := 3) (c' := (List.drop 3 (zaf (gi a0 y13.1)))) (by kernel_rfl) rfl rfl (gq (zav (a := .row 1 zab ((gi a0 y13.1).2.2.2)) (by kernel_rfl) rfl rfl (gq (zap (by kernel_rfl) rfl (gq (op_eql rfl rfl (qa (.xb (decide ((List.length y13.2.1 : Int) = (List.length ((gi a0 y13.1).2.2.2) : Int)))) rfl (zad (zaa (kd (p := (List.length y13.2.1 : Int) = (List.length ((gi a0 y13.1).2.2.2) : Int)) rfl h (fun hc h => ?_) (fun hc h => ?_))))))))))))))
     ·refine zac (kr (qa (.xs ([] : List UInt8)) rfl (qa (.xi 6) rfl (zad (zaa (zax (zbb (zba ?_))))))))
      obtain rfl := oi h
      refine ke (pt (pt AF0 6 (.xs ([] : List UInt8))) 7 (.xi 6)) [] rfl (s2 rfl rfl) ⟨rfl, rfl⟩
     ·refine zac (kr (qm (.xs a2) rfl (qm (.row 4 zaf a0) rfl (qm (.xi y13.1) rfl ?_))))
      obtain ⟨n15, h⟩ := zah h
      refine gq (zao (by kernel_rfl) rfl rfl n15.1 n15.2 (gq (zbm (o := 3) (c' := (List.drop 3 (zaf (gi a0 y13.1)))) (by kernel_rfl) rfl rfl (gq (zav (a := .row 1 zab ((gi a0 y13.1).2.2.2)) (by kernel_rfl) rfl rfl (qm (.row 1 zab y13.2.1) rfl (gq (zap (by kernel_rfl) rfl ?_))))))))
      obtain ⟨n16, h⟩ := zah h
      refine gq (zao (by kernel_rfl) rfl rfl n16.1 n16.2 (gq (zav (a := .xs (gi ((gi a0 y13.1).2.2.2) (List.length y13.2.1 : Int))) (by kernel_rfl) rfl rfl ?_)))
      obtain ⟨y17, hy17, h⟩ := zag h
      refine gq (zal (m_ref11_in_ok _ _ _ hy17) Tryz.func96 (by kernel_rfl) (lc lf (lc lf ln)) (gq (op_not rfl (qa (.xb (!y17)) rfl (zad (zaa (kb (p := !y17) rfl h (fun hc h => ?_) (fun hc h => ?_))))))))
      ·refine zac (kr (qa (.xs ([] : List UInt8)) rfl (qa (.xi 18) rfl (zad (zaa (zax (zbb (zba ?_))))))))
       obtain rfl := oi h
       refine ke (pt (pt AF0 6 (.xs ([] : List UInt8))) 7 (.xi 18)) [] rfl (s2 rfl rfl) ⟨rfl, rfl⟩
      ·refine zat (zaz (zaa (zac (kr (qm (.xi y13.1) rfl (qm (.row 1 zab y13.2.1) rfl ?_))))))
       obtain ⟨n18, h⟩ := zah h
       refine G_l rfl (op_appN (enc := zab) (by kernel_rfl) rfl rfl zbe n18 (fun v19 => qm (.xs a2) rfl (gq (op_litT (n := 1) (enc := zab) [a2] (CellsAll.cons rfl CellsOf.str CellsAll.nil) rfl (by kernel_rfl) (LEss.cons (lc lf ln) LEss.nil) ?_))))
       obtain ⟨n20, h⟩ := zah h
       refine G_l rfl (op_appT (by kernel_rfl) rfl rfl zbe n20 (fun v21 => G_sub rfl (SubU.freezeT (s := 61) rfl zay) ?_))
       obtain ⟨y22, hy22, h⟩ := zag h
       refine gq (zal (m_ref9_Dot_ok _ _ _ hy22) Tryz.func8 (by kernel_rfl) (lc lf (lc lf ln)) (qa (.xs y22) rfl (zad (zaa (zac (zac (kr (qm (.xs y22) rfl (gq (op_eqlS rfl rfl (zad (zaa (kd (p := y22 = ([] : List UInt8)) rfl h (fun hc h => ?_) (fun hc h => ?_))))))))))))))
       ·refine zac (kr (qa (.xs ([] : List UInt8)) rfl (qa (.xi 9) rfl (zad (zaa (zax (zba ?_)))))))
        obtain rfl := oi h
        refine ke (pt (pt AF0 6 (.xs ([] : List UInt8))) 7 (.xi 9)) [] rfl (s2 rfl rfl) ⟨rfl, rfl⟩
       ·refine zat (zaa (zac (kr (qm (.xs y22) rfl (qa (.xs y22) rfl (qa (.xi 0) rfl (zad (zaa (zax ?_)))))))))
        obtain rfl := oi h
        refine ke (pt (pt AF0 6 (.xs y22)) 7 (.xi 0)) [] rfl (s2 rfl rfl) ⟨rfl, rfl⟩
theorem m_help_Equal_api_Value_ok (a0 : List (List UInt8)) (a1 : List (List UInt8)) (r : Bool) (h : m_help_Equal_api_Value a0 a1 = some r) : Pure Tryz.prog 66 [(.row 1 zab a0), (.row 1 zab a1)] (.exact (.bool r)) := by
 unfold m_help_Equal_api_Value at h
 refine Pure.ofFun (zar Tryz.func66 rfl Tryz.ntmps66 (by simp) rfl (res1 rfl) fun E hE => k_end (zac (kr (qa (.xb false) rfl (zad (zaa (zac (zac (kr (qm (.row 1 zab a0) rfl (gq (zap (by kernel_rfl) rfl (qm (.row 1 zab a1) rfl (gq (zap (by kernel_rfl) rfl (gq (op_neq rfl rfl (zad (zaa (kd (p := ¬ (List.length a0 : Int) = (List.length a1 : Int)) rfl h (fun hc h => ?_) (fun hc h => ?_)))))))))))))))))))))
 ·refine zac (kr (qa (.xb false) rfl (zad (zaa (zax (zba ?_))))))
  obtain rfl := oi h
  refine ke (pt AF0 4 (.xb false)) [] rfl (s1 rfl) ⟨rfl, rfl⟩
 ·refine zat (zaa (k_join0_0 h (AF0) ([]) (fun k1 h => ?_) (fun  h => ?_)))
  ·refine zac (kr (qa (.xi 0) rfl (zad (zaa (zaw (k_loop1_0 (m_help_Equal_api_Value_L2 a0 a1 k1) (m_help_Equal_api_Value_B2 a0 a1 k1) (fun _ => rfl) (fun m _ => rfl) h (fun (x5_l2 : Int) => (pt (pt (pt AF0 0 (.row 1 zab a0)) 1 (.row 1 zab a1)) 5 (.xi x5_l2))) (fun (x5_l2 : Int) => []) ?_ (fun rec2 x5_l2 h => ?_)))))))
   ·exact s3 rfl rfl rfl
   ·unfold m_help_Equal_api_Value_B2 at h
    refine zac (zac (kr (qm (.xi x5_l2) rfl (qm (.row 1 zab a0) rfl (gq (zap (by kernel_rfl) rfl (gq (op_lss rfl rfl (zad (zaa (kd (p := x5_l2 < (List.length a0 : Int)) rfl h (fun hc h => ?_) (fun hc h => ?_))))))))))))
    ·refine zat (zaa (zac (zaw (zac (k_plan [] [(0, 0), (0, 1), (0, 2), (0, 3), (0, 4), (0, 5), (0, 6), (0, 7), (0, 8)] hmixP (by kernel_rfl) (P_q zaq rfl (zam (av := .row 1 zab a0) rfl (P_q zaq rfl (zam (av := .xi x5_l2) rfl ?_)))))))))
     obtain ⟨n13, h⟩ := zah h
     refine P_q zaq rfl (zao (by kernel_rfl) rfl rfl n13.1 n13.2 (P_q zaq rfl (zav (a := .xs (gi a0 x5_l2)) (by kernel_rfl) rfl rfl (P_q zaq rfl (zam (av := .row 1 zab a1) rfl (P_q zaq rfl (zam (av := .xi x5_l2) rfl ?_)))))))
     obtain ⟨n14, h⟩ := zah h
     refine P_q zaq rfl (zao (by kernel_rfl) rfl rfl n14.1 n14.2 (P_q zaq rfl (zav (a := .xs (gi a1 x5_l2)) (by kernel_rfl) rfl rfl (P_q zaq rfl (op_neqS rfl rfl (P_nil (zaa (kd (p := ¬ (gi a0 x5_l2) = (gi a1 x5_l2)) rfl h (fun hc h => ?_) (fun hc h => ?_)))))))))
     ·refine zac (kr (qa (.xb false) rfl (zad (zaa (zax (zbb (zba (zbj (zbb (zbj ?_))))))))))
      obtain rfl := oi h
      refine ke (pt AF0 4 (.xb false)) [] rfl (s1 rfl) ⟨rfl, rfl⟩
     ·refine zat (zaz (zaa (kr (qm (.xi x5_l2) rfl (gq (op_add rfl rfl rfl (qa (.xi (i64 (x5_l2 + 1))) rfl (zad (zae ⟨_, h, s3 rfl rfl rfl⟩)))))))))
    ·refine k_exit (kC_exit (kI_exit (kB_exit (zae ⟨h, Sub.of_le lt0⟩))))
  ·refine zac (kr (qa (.xb true) rfl (zad (zaa (zax ?_)))))
   obtain rfl := oi h
   refine ke (pt AF0 4 (.xb true)) [] rfl (s1 rfl) ⟨rfl, rfl⟩
theorem m_ref11_Complete_ok (a0 : List ((List UInt8) × Int × (List Int) × (List (List UInt8)))) (a1 : List UInt8) (r : Bool) (h : m_ref11_Complete a0 a1 = some r) : Pure Tryz.prog 67 [(.row 4 zaf a0), (.exact (.string (bs a1)))] (.exact (.bool r)) := by
 unfold m_ref11_Complete at h
 refine Pure.ofFun (zar Tryz.func67 rfl Tryz.ntmps67 (by simp) rfl (res1 rfl) fun E hE => k_end (zac (kr (qa (.xb false) rfl (zad (zaa (zac (kr (qm (.row 4 zaf a0) rfl (qm (.xs a1) rfl ?_))))))))))
 obtain ⟨y1, hy1, h⟩ := zag h
 refine gq (zal (m_ref11_belongs_ok _ _ _ hy1) Tryz.func52 (by kernel_rfl) (lc lf (lc lf ln)) (qm (.tup [.xi y1.1, .row 1 zab y1.2.1, .xb y1.2.2]) rfl (gq (zas (av := .xi y1.1) rfl rfl (gq (zas (av := .row 1 zab y1.2.1) rfl rfl (gq (zas (av := .xb y1.2.2) rfl rfl (qa (.xi y1.1) rfl (qa (.row 1 zab y1.2.1) rfl (qa (.xb y1.2.2) rfl (zad (zaa (zbc h (fun (x4_j2 : Bool) => (pt AF0 4 (.xb x4_j2))) (fun (x4_j2 : Bool) => []) (fun k2 h => ?_) (fun x4_j2 h => ?_)))))))))))))))
 ·refine kr (qm (.row 4 zaf a0) rfl ?_)
  obtain ⟨y5, hy5, h⟩ := zag h
  refine gq (zal (m_ref11_ValidNames_ok _ _ hy5) Tryz.func53 (by kernel_rfl) (lc lf ln) (qm (.xb y5) rfl (G_splitB (c := y5) 17 rfl (fun hc => ?_) (fun hc => ?_))))
  ·replace h := ite_t h hc
   refine Gy_q rfl rfl rfl (zam (av := .xb y1.2.2) rfl (gq (zau rfl (av := .xb y1.2.2) rfl (qm (.xb y1.2.2) rfl (G_splitB (c := y1.2.2) 20 rfl (fun hc => ?_) (fun hc => ?_))))))
   ·replace h := ite_t h hc
    refine Gy_q rfl rfl rfl (zam (av := .row 1 zab y1.2.1) rfl (Gy_q rfl rfl rfl (zap (by kernel_rfl) rfl (Gy_q rfl rfl rfl (zam (av := .row 4 zaf a0) rfl (Gy_q rfl rfl rfl (zam (av := .xi y1.1) rfl ?_)))))))
    obtain ⟨n6, h⟩ := zah h
    refine Gy_q rfl rfl rfl (zao (by kernel_rfl) rfl rfl n6.1 n6.2 (Gy_q rfl rfl rfl (zbm (o := 3) (c' := (List.drop 3 (zaf (gi a0 y1.1)))) (by kernel_rfl) rfl rfl (Gy_q rfl rfl rfl (zav (a := .row 1 zab ((gi a0 y1.1).2.2.2)) (by kernel_rfl) rfl rfl (Gy_q rfl rfl rfl (zap (by kernel_rfl) rfl (Gy_q rfl rfl rfl (op_eql rfl rfl (gq (zau rfl (av := .xb (decide ((List.length y1.2.1 : Int) = (List.length ((gi a0 y1.1).2.2.2) : Int)))) rfl (qa (.xb (decide ((List.length y1.2.1 : Int) = (List.length ((gi a0 y1.1).2.2.2) : Int)))) rfl (zad (zae ⟨_, h, s1 rfl⟩))))))))))))))
   ·replace h := ite_f h hc
    refine G_n rfl rfl (G_n rfl rfl (G_n rfl rfl (G_n rfl rfl (G_n rfl rfl (G_n rfl rfl (G_n rfl rfl (G_n rfl rfl (G_n rfl rfl (gq (zaj rfl (av := .xb false) rfl (qa (.xb false) rfl (zad (zae ⟨_, h, s1 rfl⟩)))))))))))))
  ·replace h := ite_f h hc
   refine G_n rfl rfl (gq (zaj rfl (av := .xb false) rfl (qm (.xb false) rfl (G_n rfl rfl (G_n rfl rfl (G_n rfl rfl (G_n rfl rfl (G_n rfl rfl (G_n rfl rfl (G_n rfl rfl (G_n rfl rfl (G_n rfl rfl (gq (zaj rfl (av := .xb false) rfl (qa (.xb false) rfl (zad (zae ⟨_, h, s1 rfl⟩)))))))))))))))))
 ·refine zax ?_
  obtain rfl := oi h
  refine ke (pt AF0 4 (.xb x4_j2)) [] rfl (s1 rfl) ⟨rfl, rfl⟩
theorem m_slices_Clip_L_string_string_ok (a0 : List (List UInt8)) (r : (List (List UInt8))) (h : m_slices_Clip_L_string_string a0 = some r) : Pure Tryz.prog 101 [(.row 1 c_string a0)] (.row 1 c_string r) := by
 unfold m_slices_Clip_L_string_string at h
 refine Pure.ofFun (zar Tryz.func101 rfl Tryz.ntmps101 (by simp) rfl (res1 rfl) fun E hE => k_end (zac (kr (qa (.exact (.slice none 0 0)) rfl (zad (zaa (zac (kr (qm (.row 1 c_string a0) rfl (qm (.row 1 c_string a0) rfl (gq (zap (by kernel_rfl) rfl (qm (.row 1 c_string a0) rfl (gq (zap (by kernel_rfl) rfl ?_)))))))))))))))
 obtain ⟨n1, h⟩ := zah h
 refine gq (op_slice_row3 (by kernel_rfl) rfl bnd_none rfl rfl (Int.le_refl 0) n1 (Int.le_refl _) (Int.le_refl _) (qa (.row 1 c_string (List.take (Int.toNat (List.length a0 : Int)) a0)) rfl (zad (zaa (zax ?_)))))
 obtain rfl := oi h
 refine ke (pt AF0 2 (.row 1 c_string (List.take (Int.toNat (List.length a0 : Int)) a0))) [] rfl (s1 rfl) ⟨rfl, rfl⟩
theorem m_dataspace_Names_ok (a0 : List ((List UInt8) × Int × (List Int) × (List (List UInt8)))) (r : (List (List UInt8))) (h : m_dataspace_Names a0 = some r) : Pure Tryz.prog 69 [(.row 4 zaf a0)] (.row 1 c_string r) := by
 unfold m_dataspace_Names at h
 refine Pure.ofFun (zar Tryz.func69 rfl Tryz.ntmps69 (by simp) rfl (res1 rfl) fun E hE => k_end (zac (kr (qa (.exact (.slice none 0 0)) rfl (zad (zaa (zac (zac (kr (qm (.row 4 zaf a0) rfl ?_))))))))))
 obtain ⟨y1, hy1, h⟩ := zag h
 refine gq (zal (m_dataspace_Valid_ok _ _ hy1) Tryz.func30 (by kernel_rfl) (lc lf ln) (gq (op_not rfl (zad (zaa (kb (p := !y1) rfl h (fun hc h => ?_) (fun hc h => ?_)))))))
 ·refine zac (kr (qa (.exact (.slice none 0 0)) rfl (zad (zaa (zax (zba ?_))))))
  obtain rfl := oi h
  refine ke (pt AF0 2 (.row 1 c_string [])) [] rfl (so (AF.le_put (row_nil (by decide)) lt0)) ⟨rfl, rfl⟩
 ·refine zat (zaa (zac (kr (qa (.exact (.slice none 0 0)) rfl (zad (zaa (k_join1_1 h (fun (x3_j2 : List (List UInt8)) (v3_j2 : Value) => (pt AF0 3 (.exact v3_j2))) (fun (x3_j2 : List (List UInt8)) (v3_j2 : Value) => [vecT Tryz.prog 70 1 c_string v3_j2 x3_j2]) (fun k2 h => ?_) (fun x3_j2 v3_j2 h => ?_))))))))
  ·refine zac (kr (qm (.row 4 zaf a0) rfl (gq (zap (by kernel_rfl) rfl (qm (.xi 0) rfl (zad (zaa (zaw (k_loop2_1 (m_dataspace_Names_L2 a0 k2) (m_dataspace_Names_B2 a0 k2) (fun _ _ => rfl) (fun m _ _ => rfl) h (fun (x3_l2 : List (List UInt8)) (x11_l2 : Int) (v3_l2 : Value) => (pt (pt (pt (pt AF0 3 (.exact v3_l2)) 9 (.row 4 zaf a0)) 10 (.xi (List.length a0 : Int))) 11 (.xi x11_l2))) (fun (x3_l2 : List (List UInt8)) (x11_l2 : Int) (v3_l2 : Value) => [vecT Tryz.prog 70 1 c_string v3_l2 x3_l2]) (.slice none 0 0) ?_ (fun rec2 x3_l2 x11_l2 v3_l2 h => ?_))))))))))
   ·refine Sub.trans (SubU.to (SubU.nilT (P := Tryz.prog) (t := 70) (n := 1) (enc := c_string))) (s4 rfl rfl rfl rfl)
   ·unfold m_dataspace_Names_B2 at h
    refine zac (kr (gq (op_lss rfl rfl (zad (zaa (zac (kd (p := x11_l2 < (List.length a0 : Int)) rfl h (fun hc h => ?_) (fun hc h => ?_))))))))
    ·refine zat (zaa (zac (zaw (zac (kr ?_)))))
     obtain ⟨n24, h⟩ := zah h
     refine gq (zao (by kernel_rfl) rfl rfl n24.1 n24.2 (gq (op_loadNp (m := 4) (c' := zaf (gi a0 x11_l2)) (by kernel_rfl) rfl rfl rfl (G_l rfl (op_alloc (c := [.xs ((([], 0, [], []) : (List UInt8) × Int × (List Int) × (List (List UInt8))).1), .xi ((([], 0, [], []) : (List UInt8) × Int × (List Int) × (List (List UInt8))).2.1), .row 1 c_int ((([], 0, [], []) : (List UInt8) × Int × (List Int) × (List (List UInt8))).2.2.1), .row 1 zab ((([], 0, [], []) : (List UInt8) × Int × (List Int) × (List (List UInt8))).2.2.2)]) rfl (lc lf (lc lf (lc (row_nil (by decide)) (lc (row_nil (by decide)) ln)))) (fun b25 => G_l rfl (op_store_box (c' := [.xs ((gi a0 x11_l2).1), .xi ((gi a0 x11_l2).2.1), .row 1 c_int ((gi a0 x11_l2).2.2.1), .row 1 zab ((gi a0 x11_l2).2.2.2)]) (c3 := [.xs ((gi a0 x11_l2).1), .xi ((gi a0 x11_l2).2.1), .row 1 c_int ((gi a0 x11_l2).2.2.1), .row 1 zab ((gi a0 x11_l2).2.2.2)]) rfl rfl CellsOf.agg (lc lf (lc lf (lc lf (lc lf ln)))) (oc_c_api_Info _) (by kernel_rfl) (Nat.le_of_ble_eq_true rfl) rfl (zad (zaa (kr (qm (.exact v3_l2) rfl (gq (op_fieldAddr (o := 0) (by kernel_rfl) rfl (G_r rfl (op_load_box1 (a := .xs ((gi a0 x11_l2).1)) (by kernel_rfl) rfl rfl (gq (op_litT (n := 1) (enc := c_string) [(gi a0 x11_l2).1] (CellsAll.cons rfl CellsOf.str CellsAll.nil) rfl (by kernel_rfl) (LEss.cons (lc lf ln) LEss.nil) ?_)))))))))))))))))
     obtain ⟨n26, h⟩ := zah h
     refine G_l rfl (opB_f1 (op_appT (by kernel_rfl) rfl rfl oc_c_string n26 (fun v27 => qa (.exact v27) rfl (zad (zaz (zaa (kr (gq (op_add rfl rfl rfl (qm (.xi (i64 (x11_l2 + 1))) rfl (zad (zae ⟨_, _, v27, h, ?_⟩))))))))))))
     refine Sub.trans (SubU.to SubU.f1) (Sub.trans (SubU.to SubU.drop) (s4 rfl rfl rfl rfl))
    ·refine k_exit (kC_exit (kI_exit (kB_exit (zae ⟨_, v3_l2, h, s1 rfl⟩))))
  ·refine zac (kr (qm (.exact v3_j2) rfl (G_sub rfl (SubU.freezeT2 (s1 := 3) (s2 := 21) rfl rfl len_c_string) ?_)))
   obtain ⟨y28, hy28, h⟩ := zag h
   refine gq (zal (m_slices_Clip_L_string_string_ok _ _ hy28) Tryz.func101 (by kernel_rfl) (lc lf ln) (qa (.row 1 c_string y28) rfl (zad (zaa (zax ?_)))))
   obtain rfl := oi h
   refine ke (pt AF0 2 (.row 1 c_string y28)) [] rfl (s1 rfl) ⟨rfl, rfl⟩
theorem m_ref11_Names_ok (a0 : List ((List UInt8) × Int × (List Int) × (List (List UInt8)))) (r : (List (List UInt8))) (h : m_ref11_Names a0 = some r) : Pure Tryz.prog 70 [(.row 4 zaf a0)] (.row 1 c_string r) := by
 unfold m_ref11_Names at h
 refine Pure.ofFun (zar Tryz.func70 rfl Tryz.ntmps70 (by simp) rfl (res1 rfl) fun E hE => k_end (zac (kr (qa (.exact (.slice none 0 0)) rfl (zad (zaa (zac (kr (qa (.exact (.slice none 0 0)) rfl (zad (zaa (k_join1_1 h (fun (x3_j1 : List (List UInt8)) (v3_j1 : Value) => (pt AF0 3 (.exact v3_j1))) (fun (x3_j1 : List (List UInt8)) (v3_j1 : Value) => [vecT Tryz.prog 70 1 c_string v3_j1 x3_j1]) (fun k1 h => ?_) (fun x3_j1 v3_j1 h => ?_)))))))))))))
 ·refine zac (kr (qa (.xi 0) rfl (zad (zaa (zaw (k_loop2_1 (m_ref11_Names_L2 a0 k1) (m_ref11_Names_B2 a0 k1) (fun _ _ => rfl) (fun m _ _ => rfl) h (fun (x3_l2 : List (List UInt8)) (x4_l2 : Int) (v3_l2 : Value) => (pt (pt (pt AF0 0 (.row 4 zaf a0)) 3 (.exact v3_l2)) 4 (.xi x4_l2))) (fun (x3_l2 : List (List UInt8)) (x4_l2 : Int) (v3_l2 : Value) => [vecT Tryz.prog 70 1 c_string v3_l2 x3_l2]) (.slice none 0 0) ?_ (fun rec2 x3_l2 x4_l2 v3_l2 h => ?_)))))))
  ·refine Sub.trans (SubU.to (SubU.nilT (P := Tryz.prog) (t := 70) (n := 1) (enc := c_string))) (s3 rfl rfl rfl)
  ·unfold m_ref11_Names_B2 at h
   refine zac (zbc h (fun (x12_j57 : Bool) => (pt (pt (pt (pt AF0 0 (.row 4 zaf a0)) 3 (.exact v3_l2)) 4 (.xi x4_l2)) 12 (.xb x12_j57))) (fun (x12_j57 : Bool) => [vecT Tryz.prog 70 1 c_string v3_l2 x3_l2]) (fun k57 h => ?_) (fun x12_j57 h => ?_))
   ·refine kr (qm (.row 4 zaf a0) rfl ?_)
    obtain ⟨y59, hy59, h⟩ := zag h
    refine gq (zal (m_ref11_ValidNames_ok _ _ hy59) Tryz.func53 (by kernel_rfl) (lc lf ln) (qm (.xb y59) rfl (G_splitB (c := y59) 7 rfl (fun hc => ?_) (fun hc => ?_))))
    ·replace h := ite_t h hc
     refine Gy_q rfl rfl rfl (zam (av := .xi x4_l2) rfl (Gy_q rfl rfl rfl (zam (av := .row 4 zaf a0) rfl (Gy_q rfl rfl rfl (zap (by kernel_rfl) rfl (Gy_q rfl rfl rfl (op_lss rfl rfl (gq (zau rfl (av := .xb (decide (x4_l2 < (List.length a0 : Int)))) rfl (zad (zae ⟨_, h, s4 rfl rfl rfl rfl⟩)))))))))))
    ·replace h := ite_f h hc
     refine G_n rfl rfl (G_n rfl rfl (G_n rfl rfl (G_n rfl rfl (gq (zaj rfl (av := .xb false) rfl (zad (zae ⟨_, h, s4 rfl rfl rfl rfl⟩)))))))
   ·refine kb (p := x12_j57) rfl h (fun hc h => ?_) (fun hc h => ?_)
    ·refine zat (zaa (zac (zaw (kr (qm (.exact v3_l2) rfl (qm (.row 4 zaf a0) rfl (qm (.xi x4_l2) rfl ?_)))))))
     obtain ⟨n60, h⟩ := zah h
     refine gq (zao (by kernel_rfl) rfl rfl n60.1 n60.2 (gq (zbm (o := 0) (c' := (List.drop 0 (zaf (gi a0 x4_l2)))) (by kernel_rfl) rfl rfl (gq (zav (a := .xs ((gi a0 x4_l2).1)) (by kernel_rfl) rfl rfl (gq (op_litT (n := 1) (enc := c_string) [(gi a0 x4_l2).1] (CellsAll.cons rfl CellsOf.str CellsAll.nil) rfl (by kernel_rfl) (LEss.cons (lc lf ln) LEss.nil) ?_)))))))
     obtain ⟨n61, h⟩ := zah h
     refine G_l rfl (op_appT (by kernel_rfl) rfl rfl oc_c_string n61 (fun v62 => qa (.exact v62) rfl (zad (zaz (zaa (kr (qm (.xi x4_l2) rfl (gq (op_add rfl rfl rfl (qa (.xi (i64 (x4_l2 + 1))) rfl (zad (zae ⟨_, _, v62, h, s3 rfl rfl rfl⟩))))))))))))
    ·refine k_exit (kC_exit (kI_exit (kB_exit (zae ⟨_, v3_l2, h, s1 rfl⟩))))
 ·refine zac (kr (qm (.exact v3_j1) rfl (qa (.exact v3_j1) rfl (zad (zaa (zax ?_))))))
  obtain rfl := oi h
  refine ke (pt AF0 2 (.row 1 c_string x3_j1)) [] rfl (Sub.trans (SubU.to (SubU.freezeT (s := 2) rfl len_c_string)) (s1 rfl)) ⟨rfl, rfl⟩
theorem m_help_Equal_string_ok (a0 : List (List UInt8)) (a1 : List (List UInt8)) (r : Bool) (h : m_help_Equal_string a0 a1 = some r) : Pure Tryz.prog 68 [(.row 1 c_string a0), (.row 1 c_string a1)] (.exact (.bool r)) := by
 unfold m_help_Equal_string at h
 refine Pure.ofFun (zar Tryz.func68 rfl Tryz.ntmps68 (by simp) rfl (res1 rfl) fun E hE => k_end (zac (kr (qa (.xb false) rfl (zad (zaa (zac (zac (kr (qm (.row 1 c_string a0) rfl (gq (zap (by kernel_rfl) rfl (qm (.row 1 c_string a1) rfl (gq (zap (by kernel_rfl) rfl (gq (op_neq rfl rfl (zad (zaa (kd (p := ¬ (List.length a0 : Int) = (List.length a1 : Int)) rfl h (fun hc h => ?_) (fun hc h => ?_)))))))))))))))))))))
 ·refine zac (kr (qa (.xb false) rfl (zad (zaa (zax (zba ?_))))))
  obtain rfl := oi h
  refine ke (pt AF0 4 (.xb false)) [] rfl (s1 rfl) ⟨rfl, rfl⟩
 ·refine zat (zaa (k_join0_0 h (AF0) ([]) (fun k1 h => ?_) (fun  h => ?_)))
  ·refine zac (kr (qa (.xi 0) rfl (zad (zaa (zaw (k_loop1_0 (m_help_Equal_string_L2 a0 a1 k1) (m_help_Equal_string_B2 a0 a1 k1) (fun _ => rfl) (fun m _ => rfl) h (fun (x5_l2 : Int) => (pt (pt (pt AF0 0 (.row 1 c_string a0)) 1 (.row 1 c_string a1)) 5 (.xi x5_l2))) (fun (x5_l2 : Int) => []) ?_ (fun rec2 x5_l2 h => ?_)))))))
   ·exact s3 rfl rfl rfl
   ·unfold m_help_Equal_string_B2 at h
    refine zac (zac (kr (qm (.xi x5_l2) rfl (qm (.row 1 c_string a0) rfl (gq (zap (by kernel_rfl) rfl (gq (op_lss rfl rfl (zad (zaa (kd (p := x5_l2 < (List.length a0 : Int)) rfl h (fun hc h => ?_) (fun hc h => ?_))))))))))))
    ·refine zat (zaa (zac (zaw (zac (k_plan [] [(0, 0), (0, 1), (0, 2), (0, 3), (0, 4), (0, 5), (0, 6), (0, 7), (0, 8)] hmixP (by kernel_rfl) (P_q zaq rfl (zam (av := .row 1 c_string a0) rfl (P_q zaq rfl (zam (av := .xi x5_l2) rfl ?_)))))))))
     obtain ⟨n13, h⟩ := zah h
     refine P_q zaq rfl (zao (by kernel_rfl) rfl rfl n13.1 n13.2 (P_q zaq rfl (zav (a := .xs (gi a0 x5_l2)) (by kernel_rfl) rfl rfl (P_q zaq rfl (zam (av := .row 1 c_string a1) rfl (P_q zaq rfl (zam (av := .xi x5_l2) rfl ?_)))))))
     obtain ⟨n14, h⟩ := zah h
     refine P_q zaq rfl (zao (by kernel_rfl) rfl rfl n14.1 n14.2 (P_q zaq rfl (zav (a := .xs (gi a1 x5_l2)) (by kernel_rfl) rfl rfl (P_q zaq rfl (op_neqS rfl rfl (P_nil (zaa (kd (p := ¬ (gi a0 x5_l2) = (gi a1 x5_l2)) rfl h (fun hc h => ?_) (fun hc h => ?_)))))))))
     ·refine zac (kr (qa (.xb false) rfl (zad (zaa (zax (zbb (zba (zbj (zbb (zbj ?_))))))))))
      obtain rfl := oi h
      refine ke (pt AF0 4 (.xb false)) [] rfl (s1 rfl) ⟨rfl, rfl⟩
     ·refine zat (zaz (zaa (kr (qm (.xi x5_l2) rfl (gq (op_add rfl rfl rfl (qa (.xi (i64 (x5_l2 + 1))) rfl (zad (zae ⟨_, h, s3 rfl rfl rfl⟩)))))))))
    ·refine k_exit (kC_exit (kI_exit (kB_exit (zae ⟨h, Sub.of_le lt0⟩))))
  ·refine zac (kr (qa (.xb true) rfl (zad (zaa (zax ?_)))))
   obtain rfl := oi h
   refine ke (pt AF0 4 (.xb true)) [] rfl (s1 rfl) ⟨rfl, rfl⟩
end Go.Proofs.YtjlbdhicabgliaaGreat
/- The functions compute their models, by program. -/
namespace Go.Proofs.YtjlbdhicabgliaaGreat
open Go.RowKit
attribute [local irreducible] AV.exact AV.top AV.row AV.ptr AV.agg AV.tup AV.eptr AV.fn AV.nilq AV.nilqn opA opB opM opR Quiet Loud Reads wpG awp den Sub SubU Pure Fun vecI vecT boxI CellsAll CellsOf OneC LEs LEss
set_option maxRecDepth 100000

set_option maxHeartbeats 4000000
theorem m_law11_agrees_ok (a0 : List ((List UInt8) × Int × (List Int) × (List (List UInt8)))) (a1 : List UInt8) (a2 : List UInt8) (a3 : Int) (r : Bool) (h : m_law11_agrees a0 a1 a2 a3 = some r) : Pure Tryz.prog 23 [(.row 4 zaf a0), (.exact (.string (bs a1))), (.exact (.string (bs a2))), (.exact (.int .i64 a3))] (.exact (.bool r)) := by
 unfold m_law11_agrees at h
 refine Pure.ofFun (zar Tryz.func23 rfl Tryz.ntmps23 (by simp) rfl (res1 rfl) fun E hE => k_end (zac (kr (qa (.xb false) rfl (zad (zaa (zac (kr (qm (.row 4 zaf a0) rfl (qm (.xi a3) rfl ?_))))))))))
 obtain ⟨y1, hy1, h⟩ := zag h
 refine gq (zal (m_dataspace_Values_ok _ _ _ hy1) Tryz.func12 (by kernel_rfl) (lc lf (lc lf ln)) (qm (.tup [.xs y1.1, .xi y1.2]) rfl (gq (zas (av := .xs y1.1) rfl rfl (gq (zas (av := .xi y1.2) rfl rfl (qa (.xs y1.1) rfl (qa (.xi y1.2) rfl (zad (zaa (zac (kr (qm (.row 4 zaf a0) rfl (qm (.xi a3) rfl ?_))))))))))))))
 obtain ⟨y2, hy2, h⟩ := zag h
 refine gq (zal (m_ref11_Values_ok _ _ _ hy2) Tryz.func60 (by kernel_rfl) (lc lf (lc lf ln)) (qm (.tup [.xs y2.1, .xi y2.2]) rfl (gq (zas (av := .xs y2.1) rfl rfl (gq (zas (av := .xi y2.2) rfl rfl (qa (.xs y2.1) rfl (qa (.xi y2.2) rfl (zad (zaa (zac (kr (qm (.row 4 zaf a0) rfl (qm (.xs a1) rfl ?_))))))))))))))
 obtain ⟨y3, hy3, h⟩ := zag h
 refine gq (zal (m_dataspace_Extensions_ok _ _ _ hy3) Tryz.func9 (by kernel_rfl) (lc lf (lc lf ln)) (qm (.tup [.xs y3.1, .xi y3.2]) rfl (gq (zas (av := .xs y3.1) rfl rfl (gq (zas (av := .xi y3.2) rfl rfl (qa (.xs y3.1) rfl (qa (.xi y3.2) rfl (zad (zaa (zac (kr (qm (.row 4 zaf a0) rfl (qm (.xs a1) rfl ?_))))))))))))))
 obtain ⟨y4, hy4, h⟩ := zag h
 refine gq (zal (m_ref11_Extensions_ok _ _ _ hy4) Tryz.func61 (by kernel_rfl) (lc lf (lc lf ln)) (qm (.tup [.xs y4.1, .xi y4.2]) rfl (gq (zas (av := .xs y4.1) rfl rfl (gq (zas (av := .xi y4.2) rfl rfl (qa (.xs y4.1) rfl (qa (.xi y4.2) rfl (zad (zaa (zac (kr (qm (.row 4 zaf a0) rfl (qm (.xs a2) rfl ?_))))))))))))))
 obtain ⟨y5, hy5, h⟩ := zag h
 refine gq (zal (m_dataspace_Productions_ok _ _ _ hy5) Tryz.func17 (by kernel_rfl) (lc lf (lc lf ln)) (qm (.tup [.xs y5.1, .xi y5.2]) rfl (gq (zas (av := .xs y5.1) rfl rfl (gq (zas (av := .xi y5.2) rfl rfl (qa (.xs y5.1) rfl (qa (.xi y5.2) rfl (zad (zaa (zac (kr (qm (.row 4 zaf a0) rfl (qm (.xs a2) rfl ?_))))))))))))))
 obtain ⟨y6, hy6, h⟩ := zag h
 refine gq (zal (m_ref11_Productions_ok _ _ _ hy6) Tryz.func62 (by kernel_rfl) (lc lf (lc lf ln)) (qm (.tup [.xs y6.1, .xi y6.2]) rfl (gq (zas (av := .xs y6.1) rfl rfl (gq (zas (av := .xi y6.2) rfl rfl (qa (.xs y6.1) rfl (qa (.xi y6.2) rfl (zad (zaa (zac (kr (qm (.row 4 zaf a0) rfl ?_)))))))))))))
 obtain ⟨y7, hy7, h⟩ := zag h
 refine gq (zal (m_dataspace_Events_ok _ _ hy7) Tryz.func11 (by kernel_rfl) (lc lf ln) (qm (.tup [.row 1 zab y7.1, .xi y7.2]) rfl (gq (zas (av := .row 1 zab y7.1) rfl rfl (gq (zas (av := .xi y7.2) rfl rfl (qa (.row 1 zab y7.1) rfl (qa (.xi y7.2) rfl (zad (zaa (zac (kr (qm (.row 4 zaf a0) rfl ?_)))))))))))))
 obtain ⟨y8, hy8, h⟩ := zag h
 refine gq (zal (m_ref11_Events_ok _ _ hy8) Tryz.func63 (by kernel_rfl) (lc lf ln) (qm (.tup [.row 1 zab y8.1, .xi y8.2]) rfl (gq (zas (av := .row 1 zab y8.1) rfl rfl (gq (zas (av := .xi y8.2) rfl rfl (qa (.row 1 zab y8.1) rfl (qa (.xi y8.2) rfl (zad (zaa (zac (kr (qm (.row 4 zaf a0) rfl (qm (.xs a1) rfl ?_))))))))))))))
 obtain ⟨y9, hy9, h⟩ := zag h
 refine gq (zal (m_dataspace_Next_ok _ _ _ hy9) Tryz.func64 (by kernel_rfl) (lc lf (lc lf ln)) (qm (.tup [.xs y9.1, .xb y9.2]) rfl (gq (zas (av := .xs y9.1) rfl rfl (gq (zas (av := .xb y9.2) rfl rfl (qa (.xs y9.1) rfl (qa (.xb y9.2) rfl (zad (zaa (zac (kr (qm (.row 4 zaf a0) rfl (qm (.xs a1) rfl ?_))))))))))))))
 obtain ⟨y10, hy10, h⟩ := zag h
 refine gq (zal (m_ref11_Next_ok _ _ _ hy10) Tryz.func20 (by kernel_rfl) (lc lf (lc lf ln)) (qm (.tup [.xs y10.1, .xb y10.2]) rfl (gq (zas (av := .xs y10.1) rfl rfl (gq (zas (av := .xb y10.2) rfl rfl (qa (.xs y10.1) rfl (qa (.xb y10.2) rfl (zad (zaa (zac (kr (qm (.row 4 zaf a0) rfl (qm (.xs a1) rfl (qm (.xs a2) rfl ?_)))))))))))))))
 obtain ⟨y11, hy11, h⟩ := zag h
 refine gq (zal (m_dataspace_Join_ok _ _ _ _ hy11) Tryz.func10 (by kernel_rfl) (lc lf (lc lf (lc lf ln))) (qm (.tup [.xs y11.1, .xi y11.2]) rfl (gq (zas (av := .xs y11.1) rfl rfl (gq (zas (av := .xi y11.2) rfl rfl (qa (.xs y11.1) rfl (qa (.xi y11.2) rfl (zad (zaa (zac (kr (qm (.row 4 zaf a0) rfl (qm (.xs a1) rfl (qm (.xs a2) rfl ?_)))))))))))))))
 obtain ⟨y12, hy12, h⟩ := zag h
 refine gq (zal (m_ref11_Join_ok _ _ _ _ hy12) Tryz.func65 (by kernel_rfl) (lc lf (lc lf (lc lf ln))) (qm (.tup [.xs y12.1, .xi y12.2]) rfl (gq (zas (av := .xs y12.1) rfl rfl (gq (zas (av := .xi y12.2) rfl rfl (qa (.xs y12.1) rfl (qa (.xi y12.2) rfl (zad (zaa (zbc h (fun (x8_j13 : Bool) => (pt AF0 8 (.xb x8_j13))) (fun (x8_j13 : Bool) => []) (fun k13 h => ?_) (fun x8_j13 h => ?_))))))))))))
 ·refine kr (qm (.row 4 zaf a0) rfl ?_)
  obtain ⟨y22, hy22, h⟩ := zag h
  refine gq (zal (m_dataspace_Valid_ok _ _ hy22) Tryz.func30 (by kernel_rfl) (lc lf ln) (qm (.row 4 zaf a0) rfl ?_))
  obtain ⟨y23, hy23, h⟩ := zag h
  refine gq (zal (m_ref11_ValidNames_ok _ _ hy23) Tryz.func53 (by kernel_rfl) (lc lf ln) (gq (op_eqlB (a := y22) (b := y23) (by kernel_rfl) rfl rfl (qm (.xb (decide (y22 = y23))) rfl (G_split (p := y22 = y23) 110 rfl (fun hc => ?_) (fun hc => ?_))))))
  ·replace h := ite_t h hc
   refine Gy_q rfl rfl rfl (zam (av := .xs y1.1) rfl (Gy_q rfl rfl rfl (zam (av := .xs y2.1) rfl (Gy_q rfl rfl rfl (op_eqlS rfl rfl (gq (zau rfl (av := .xb (decide (y1.1 = y2.1))) rfl (qm (.xb (decide (y1.1 = y2.1))) rfl (G_split (p := y1.1 = y2.1) 115 rfl (fun hc => ?_) (fun hc => ?_))))))))))
   ·replace h := ite_t h hc
    refine Gy_q rfl rfl rfl (zam (av := .xi y1.2) rfl (Gy_q rfl rfl rfl (zam (av := .xi y2.2) rfl (Gy_q rfl rfl rfl (op_eql rfl rfl (gq (zau rfl (av := .xb (decide (y1.2 = y2.2))) rfl (qm (.xb (decide (y1.2 = y2.2))) rfl (G_split (p := y1.2 = y2.2) 120 rfl (fun hc => ?_) (fun hc => ?_))))))))))
    ·replace h := ite_t h hc
     refine Gy_q rfl rfl rfl (zam (av := .xs y3.1) rfl (Gy_q rfl rfl rfl (zam (av := .xs y4.1) rfl (Gy_q rfl rfl rfl (op_eqlS rfl rfl (gq (zau rfl (av := .xb (decide (y3.1 = y4.1))) rfl (qm (.xb (decide (y3.1 = y4.1))) rfl (G_split (p := y3.1 = y4.1) 125 rfl (fun hc => ?_) (fun hc => ?_))))))))))
     ·replace h := ite_t h hc
      refine Gy_q rfl rfl rfl (zam (av := .xi y3.2) rfl (Gy_q rfl rfl rfl (zam (av := .xi y4.2) rfl (Gy_q rfl rfl rfl (op_eql rfl rfl (gq (zau rfl (av := .xb (decide (y3.2 = y4.2))) rfl (qm (.xb (decide (y3.2 = y4.2))) rfl (G_split (p := y3.2 = y4.2) 130 rfl (fun hc => ?_) (fun hc => ?_))))))))))
      ·replace h := ite_t h hc
       refine Gy_q rfl rfl rfl (zam (av := .xs y5.1) rfl (Gy_q rfl rfl rfl (zam (av := .xs y6.1) rfl (Gy_q rfl rfl rfl (op_eqlS rfl rfl (gq (zau rfl (av := .xb (decide (y5.1 = y6.1))) rfl (qm (.xb (decide (y5.1 = y6.1))) rfl (G_split (p := y5.1 = y6.1) 135 rfl (fun hc => ?_) (fun hc => ?_))))))))))
       ·replace h := ite_t h hc
        refine Gy_q rfl rfl rfl (zam (av := .xi y5.2) rfl (Gy_q rfl rfl rfl (zam (av := .xi y6.2) rfl (Gy_q rfl rfl rfl (op_eql rfl rfl (gq (zau rfl (av := .xb (decide (y5.2 = y6.2))) rfl (qm (.xb (decide (y5.2 = y6.2))) rfl (G_split (p := y5.2 = y6.2) 140 rfl (fun hc => ?_) (fun hc => ?_))))))))))
        ·replace h := ite_t h hc
         refine Gy_q rfl rfl rfl (zam (av := .row 1 zab y7.1) rfl (Gy_q rfl rfl rfl (zam (av := .row 1 zab y8.1) rfl ?_)))
         obtain ⟨y24, hy24, h⟩ := zag h
         refine Gy_q rfl rfl rfl (zal (m_help_Equal_api_Value_ok _ _ _ hy24) Tryz.func66 (by kernel_rfl) (lc lf (lc lf ln)) (gq (zau rfl (av := .xb y24) rfl (qm (.xb y24) rfl (G_splitB (c := y24) 145 rfl (fun hc => ?_) (fun hc => ?_))))))
         ·replace h := ite_t h hc
          refine Gy_q rfl rfl rfl (zam (av := .xi y7.2) rfl (Gy_q rfl rfl rfl (zam (av := .xi y8.2) rfl (Gy_q rfl rfl rfl (op_eql rfl rfl (gq (zau rfl (av := .xb (decide (y7.2 = y8.2))) rfl (qm (.xb (decide (y7.2 = y8.2))) rfl (G_split (p := y7.2 = y8.2) 150 rfl (fun hc => ?_) (fun hc => ?_))))))))))
          ·replace h := ite_t h hc
           refine Gy_q rfl rfl rfl (zam (av := .xs y9.1) rfl (Gy_q rfl rfl rfl (zam (av := .xs y10.1) rfl (Gy_q rfl rfl rfl (op_eqlS rfl rfl (gq (zau rfl (av := .xb (decide (y9.1 = y10.1))) rfl (qm (.xb (decide (y9.1 = y10.1))) rfl (G_split (p := y9.1 = y10.1) 155 rfl (fun hc => ?_) (fun hc => ?_))))))))))
           ·replace h := ite_t h hc
            refine Gy_q rfl rfl rfl (zam (av := .xb y9.2) rfl (Gy_q rfl rfl rfl (zam (av := .xb y10.2) rfl (Gy_q rfl rfl rfl (op_eqlB (a := y9.2) (b := y10.2) (by kernel_rfl) rfl rfl (gq (zau rfl (av := .xb (decide (y9.2 = y10.2))) rfl (qm (.xb (decide (y9.2 = y10.2))) rfl (G_split (p := y9.2 = y10.2) 160 rfl (fun hc => ?_) (fun hc => ?_))))))))))
            ·replace h := ite_t h hc
             refine Gy_q rfl rfl rfl (zam (av := .xs y11.1) rfl (Gy_q rfl rfl rfl (zam (av := .xs y12.1) rfl (Gy_q rfl rfl rfl (op_eqlS rfl rfl (gq (zau rfl (av := .xb (decide (y11.1 = y12.1))) rfl (qm (.xb (decide (y11.1 = y12.1))) rfl (G_split (p := y11.1 = y12.1) 165 rfl (fun hc => ?_) (fun hc => ?_))))))))))
             ·replace h := ite_t h hc
              refine Gy_q rfl rfl rfl (zam (av := .xi y11.2) rfl (Gy_q rfl rfl rfl (zam (av := .xi y12.2) rfl (Gy_q rfl rfl rfl (op_eql rfl rfl (gq (zau rfl (av := .xb (decide (y11.2 = y12.2))) rfl (qm (.xb (decide (y11.2 = y12.2))) rfl (G_split (p := y11.2 = y12.2) 170 rfl (fun hc => ?_) (fun hc => ?_))))))))))
              ·replace h := ite_t h hc
               refine Gy_q rfl rfl rfl (zam (av := .row 4 zaf a0) rfl (Gy_q rfl rfl rfl (zam (av := .xs a1) rfl ?_)))
               obtain ⟨y25, hy25, h⟩ := zag h
               refine Gy_q rfl rfl rfl (zal (m_dataspace_Complete_ok _ _ _ hy25) Tryz.func19 (by kernel_rfl) (lc lf (lc lf ln)) (Gy_q rfl rfl rfl (zam (av := .row 4 zaf a0) rfl (Gy_q rfl rfl rfl (zam (av := .xs a1) rfl ?_)))))
               obtain ⟨y26, hy26, h⟩ := zag h
               refine Gy_q rfl rfl rfl (zal (m_ref11_Complete_ok _ _ _ hy26) Tryz.func67 (by kernel_rfl) (lc lf (lc lf ln)) (Gy_q rfl rfl rfl (op_eqlB (a := y25) (b := y26) (by kernel_rfl) rfl rfl (gq (zau rfl (av := .xb (decide (y25 = y26))) rfl (qm (.xb (decide (y25 = y26))) rfl (G_split (p := y25 = y26) 179 rfl (fun hc => ?_) (fun hc => ?_))))))))
               ·replace h := ite_t h hc
                refine Gy_q rfl rfl rfl (zam (av := .row 4 zaf a0) rfl ?_)
                obtain ⟨y27, hy27, h⟩ := zag h
                refine Gy_q rfl rfl rfl (zal (m_dataspace_Names_ok _ _ hy27) Tryz.func69 (by kernel_rfl) (lc lf ln) (Gy_q rfl rfl rfl (zam (av := .row 4 zaf a0) rfl ?_)))
                obtain ⟨y28, hy28, h⟩ := zag h
                refine Gy_q rfl rfl rfl (zal (m_ref11_Names_ok _ _ hy28) Tryz.func70 (by kernel_rfl) (lc lf ln) ?_)
                obtain ⟨y29, hy29, h⟩ := zag h
                refine Gy_q rfl rfl rfl (zal (m_help_Equal_string_ok _ _ _ hy29) Tryz.func68 (by kernel_rfl) (lc lf (lc lf ln)) (gq (zau rfl (av := .xb y29) rfl (qa (.xb y29) rfl (zad (zae ⟨_, h, s1 rfl⟩))))))
               ·replace h := ite_f h hc
                refine G_n rfl rfl (G_n rfl rfl (G_n rfl rfl (G_n rfl rfl (G_n rfl rfl (gq (zaj rfl (av := .xb false) rfl (qa (.xb false) rfl (zad (zae ⟨_, h, s1 rfl⟩)))))))))
              ·replace h := ite_f h hc
               refine G_n rfl rfl (G_n rfl rfl (G_n rfl rfl (G_n rfl rfl (G_n rfl rfl (G_n rfl rfl (G_n rfl rfl (gq (zaj rfl (av := .xb false) rfl (qm (.xb false) rfl (G_n rfl rfl (G_n rfl rfl (G_n rfl rfl (G_n rfl rfl (G_n rfl rfl (gq (zaj rfl (av := .xb false) rfl (qa (.xb false) rfl (zad (zae ⟨_, h, s1 rfl⟩)))))))))))))))))))
             ·replace h := ite_f h hc
              refine G_n rfl rfl (G_n rfl rfl (G_n rfl rfl (gq (zaj rfl (av := .xb false) rfl (qm (.xb false) rfl (G_n rfl rfl (G_n rfl rfl (G_n rfl rfl (G_n rfl rfl (G_n rfl rfl (G_n rfl rfl (G_n rfl rfl (gq (zaj rfl (av := .xb false) rfl (qm (.xb false) rfl (G_n rfl rfl (G_n rfl rfl (G_n rfl rfl (G_n rfl rfl (G_n rfl rfl (gq (zaj rfl (av := .xb false) rfl (qa (.xb false) rfl (zad (zae ⟨_, h, s1 rfl⟩)))))))))))))))))))))))))
            ·replace h := ite_f h hc
             refine G_n rfl rfl (G_n rfl rfl (G_n rfl rfl (gq (zaj rfl (av := .xb false) rfl (qm (.xb false) rfl (G_n rfl rfl (G_n rfl rfl (G_n rfl rfl (gq (zaj rfl (av := .xb false) rfl (qm (.xb false) rfl (G_n rfl rfl (G_n rfl rfl (G_n rfl rfl (G_n rfl rfl (G_n rfl rfl (G_n rfl rfl (G_n rfl rfl (gq (zaj rfl (av := .xb false) rfl (qm (.xb false) rfl (G_n rfl rfl (G_n rfl rfl (G_n rfl rfl (G_n rfl rfl (G_n rfl rfl (gq (zaj rfl (av := .xb false) rfl ?_))))))))))))))))))))))))))))
             refine qa (.xb false) rfl (zad (zae ⟨_, h, s1 rfl⟩))
           ·replace h := ite_f h hc
            refine G_n rfl rfl (G_n rfl rfl (G_n rfl rfl (gq (zaj rfl (av := .xb false) rfl (qm (.xb false) rfl (G_n rfl rfl (G_n rfl rfl (G_n rfl rfl (gq (zaj rfl (av := .xb false) rfl (qm (.xb false) rfl (G_n rfl rfl (G_n rfl rfl (G_n rfl rfl (gq (zaj rfl (av := .xb false) rfl (qm (.xb false) rfl (G_n rfl rfl (G_n rfl rfl (G_n rfl rfl (G_n rfl rfl (G_n rfl rfl (G_n rfl rfl (G_n rfl rfl (gq (zaj rfl (av := .xb false) rfl ?_))))))))))))))))))))))))))
            refine qm (.xb false) rfl (G_n rfl rfl (G_n rfl rfl (G_n rfl rfl (G_n rfl rfl (G_n rfl rfl (gq (zaj rfl (av := .xb false) rfl (qa (.xb false) rfl (zad (zae ⟨_, h, s1 rfl⟩))))))))))
          ·replace h := ite_f h hc
           refine G_n rfl rfl (G_n rfl rfl (G_n rfl rfl (gq (zaj rfl (av := .xb false) rfl (qm (.xb false) rfl (G_n rfl rfl (G_n rfl rfl (G_n rfl rfl (gq (zaj rfl (av := .xb false) rfl (qm (.xb false) rfl (G_n rfl rfl (G_n rfl rfl (G_n rfl rfl (gq (zaj rfl (av := .xb false) rfl (qm (.xb false) rfl (G_n rfl rfl (G_n rfl rfl (G_n rfl rfl (gq (zaj rfl (av := .xb false) rfl ?_))))))))))))))))))))))
           refine qm (.xb false) rfl (G_n rfl rfl (G_n rfl rfl (G_n rfl rfl (G_n rfl rfl (G_n rfl rfl (G_n rfl rfl (G_n rfl rfl (gq (zaj rfl (av := .xb false) rfl (qm (.xb false) rfl (G_n rfl rfl (G_n rfl rfl (G_n rfl rfl (G_n rfl rfl (G_n rfl rfl (gq (zaj rfl (av := .xb false) rfl (qa (.xb false) rfl (zad (zae ⟨_, h, s1 rfl⟩))))))))))))))))))))
         ·replace h := ite_f h hc
          refine G_n rfl rfl (G_n rfl rfl (G_n rfl rfl (gq (zaj rfl (av := .xb false) rfl (qm (.xb false) rfl (G_n rfl rfl (G_n rfl rfl (G_n rfl rfl (gq (zaj rfl (av := .xb false) rfl (qm (.xb false) rfl (G_n rfl rfl (G_n rfl rfl (G_n rfl rfl (gq (zaj rfl (av := .xb false) rfl (qm (.xb false) rfl (G_n rfl rfl (G_n rfl rfl (G_n rfl rfl (gq (zaj rfl (av := .xb false) rfl ?_))))))))))))))))))))))
          refine qm (.xb false) rfl (G_n rfl rfl (G_n rfl rfl (G_n rfl rfl (gq (zaj rfl (av := .xb false) rfl (qm (.xb false) rfl (G_n rfl rfl (G_n rfl rfl (G_n rfl rfl (G_n rfl rfl (G_n rfl rfl (G_n rfl rfl (G_n rfl rfl (gq (zaj rfl (av := .xb false) rfl (qm (.xb false) rfl (G_n rfl rfl (G_n rfl rfl (G_n rfl rfl (G_n rfl rfl (G_n rfl rfl (gq (zaj rfl (av := .xb false) rfl (qa (.xb false) rfl (zad ?_)))))))))))))))))))))))))
          refine zae ⟨_, h, s1 rfl⟩
        ·replace h := ite_f h hc
         refine G_n rfl rfl (G_n rfl rfl (G_n rfl rfl (gq (zaj rfl (av := .xb false) rfl (qm (.xb false) rfl (G_n rfl rfl (G_n rfl rfl (G_n rfl rfl (gq (zaj rfl (av := .xb false) rfl (qm (.xb false) rfl (G_n rfl rfl (G_n rfl rfl (G_n rfl rfl (gq (zaj rfl (av := .xb false) rfl (qm (.xb false) rfl (G_n rfl rfl (G_n rfl rfl (G_n rfl rfl (gq (zaj rfl (av := .xb false) rfl ?_))))))))))))))))))))))
         refine qm (.xb false) rfl (G_n rfl rfl (G_n rfl rfl (G_n rfl rfl (gq (zaj rfl (av := .xb false) rfl (qm (.xb false) rfl (G_n rfl rfl (G_n rfl rfl (G_n rfl rfl (gq (zaj rfl (av := .xb false) rfl (qm (.xb false) rfl (G_n rfl rfl (G_n rfl rfl (G_n rfl rfl (G_n rfl rfl (G_n rfl rfl (G_n rfl rfl (G_n rfl rfl (gq (zaj rfl (av := .xb false) rfl (qm (.xb false) rfl (G_n rfl rfl (G_n rfl rfl (G_n rfl rfl (G_n rfl rfl (G_n rfl rfl ?_)))))))))))))))))))))))))))
         refine gq (zaj rfl (av := .xb false) rfl (qa (.xb false) rfl (zad (zae ⟨_, h, s1 rfl⟩))))
       ·replace h := ite_f h hc
        refine G_n rfl rfl (G_n rfl rfl (G_n rfl rfl (gq (zaj rfl (av := .xb false) rfl (qm (.xb false) rfl (G_n rfl rfl (G_n rfl rfl (G_n rfl rfl (gq (zaj rfl (av := .xb false) rfl (qm (.xb false) rfl (G_n rfl rfl (G_n rfl rfl (G_n rfl rfl (gq (zaj rfl (av := .xb false) rfl (qm (.xb false) rfl (G_n rfl rfl (G_n rfl rfl (G_n rfl rfl (gq (zaj rfl (av := .xb false) rfl ?_))))))))))))))))))))))
        refine qm (.xb false) rfl (G_n rfl rfl (G_n rfl rfl (G_n rfl rfl (gq (zaj rfl (av := .xb false) rfl (qm (.xb false) rfl (G_n rfl rfl (G_n rfl rfl (G_n rfl rfl (gq (zaj rfl (av := .xb false) rfl (qm (.xb false) rfl (G_n rfl rfl (G_n rfl rfl (G_n rfl rfl (gq (zaj rfl (av := .xb false) rfl (qm (.xb false) rfl (G_n rfl rfl (G_n rfl rfl (G_n rfl rfl (G_n rfl rfl (G_n rfl rfl (G_n rfl rfl (G_n rfl rfl ?_)))))))))))))))))))))))))
        refine gq (zaj rfl (av := .xb false) rfl (qm (.xb false) rfl (G_n rfl rfl (G_n rfl rfl (G_n rfl rfl (G_n rfl rfl (G_n rfl rfl (gq (zaj rfl (av := .xb false) rfl (qa (.xb false) rfl (zad (zae ⟨_, h, s1 rfl⟩))))))))))))
      ·replace h := ite_f h hc
       refine G_n rfl rfl (G_n rfl rfl (G_n rfl rfl (gq (zaj rfl (av := .xb false) rfl (qm (.xb false) rfl (G_n rfl rfl (G_n rfl rfl (G_n rfl rfl (gq (zaj rfl (av := .xb false) rfl (qm (.xb false) rfl (G_n rfl rfl (G_n rfl rfl (G_n rfl rfl (gq (zaj rfl (av := .xb false) rfl (qm (.xb false) rfl (G_n rfl rfl (G_n rfl rfl (G_n rfl rfl (gq (zaj rfl (av := .xb false) rfl ?_))))))))))))))))))))))
       refine qm (.xb false) rfl (G_n rfl rfl (G_n rfl rfl (G_n rfl rfl (gq (zaj rfl (av := .xb false) rfl (qm (.xb false) rfl (G_n rfl rfl (G_n rfl rfl (G_n rfl rfl (gq (zaj rfl (av := .xb false) rfl (qm (.xb false) rfl (G_n rfl rfl (G_n rfl rfl (G_n rfl rfl (gq (zaj rfl (av := .xb false) rfl (qm (.xb false) rfl (G_n rfl rfl (G_n rfl rfl (G_n rfl rfl ?_)))))))))))))))))))))
       refine gq (zaj rfl (av := .xb false) rfl (qm (.xb false) rfl (G_n rfl rfl (G_n rfl rfl (G_n rfl rfl (G_n rfl rfl (G_n rfl rfl (G_n rfl rfl (G_n rfl rfl (gq (zaj rfl (av := .xb false) rfl (qm (.xb false) rfl (G_n rfl rfl (G_n rfl rfl (G_n rfl rfl (G_n rfl rfl (G_n rfl rfl (gq (zaj rfl (av := .xb false) rfl (qa (.xb false) rfl (zad (zae ⟨_, h, s1 rfl⟩))))))))))))))))))))))
     ·replace h := ite_f h hc
      refine G_n rfl rfl (G_n rfl rfl (G_n rfl rfl (gq (zaj rfl (av := .xb false) rfl (qm (.xb false) rfl (G_n rfl rfl (G_n rfl rfl (G_n rfl rfl (gq (zaj rfl (av := .xb false) rfl (qm (.xb false) rfl (G_n rfl rfl (G_n rfl rfl (G_n rfl rfl (gq (zaj rfl (av := .xb false) rfl (qm (.xb false) rfl (G_n rfl rfl (G_n rfl rfl (G_n rfl rfl (gq (zaj rfl (av := .xb false) rfl ?_))))))))))))))))))))))
      refine qm (.xb false) rfl (G_n rfl rfl (G_n rfl rfl (G_n rfl rfl (gq (zaj rfl (av := .xb false) rfl (qm (.xb false) rfl (G_n rfl rfl (G_n rfl rfl (G_n rfl rfl (gq (zaj rfl (av := .xb false) rfl (qm (.xb false) rfl (G_n rfl rfl (G_n rfl rfl (G_n rfl rfl (gq (zaj rfl (av := .xb false) rfl (qm (.xb false) rfl (G_n rfl rfl (G_n rfl rfl (G_n rfl rfl ?_)))))))))))))))))))))
      refine gq (zaj rfl (av := .xb false) rfl (qm (.xb false) rfl (G_n rfl rfl (G_n rfl rfl (G_n rfl rfl (gq (zaj rfl (av := .xb false) rfl (qm (.xb false) rfl (G_n rfl rfl (G_n rfl rfl (G_n rfl rfl (G_n rfl rfl (G_n rfl rfl (G_n rfl rfl (G_n rfl rfl (gq (zaj rfl (av := .xb false) rfl (qm (.xb false) rfl (G_n rfl rfl (G_n rfl rfl (G_n rfl rfl (G_n rfl rfl (G_n rfl rfl (gq (zaj rfl (av := .xb false) rfl (qa (.xb false) rfl ?_))))))))))))))))))))))))))
      refine zad (zae ⟨_, h, s1 rfl⟩)
    ·replace h := ite_f h hc
     refine G_n rfl rfl (G_n rfl rfl (G_n rfl rfl (gq (zaj rfl (av := .xb false) rfl (qm (.xb false) rfl (G_n rfl rfl (G_n rfl rfl (G_n rfl rfl (gq (zaj rfl (av := .xb false) rfl (qm (.xb false) rfl (G_n rfl rfl (G_n rfl rfl (G_n rfl rfl (gq (zaj rfl (av := .xb false) rfl (qm (.xb false) rfl (G_n rfl rfl (G_n rfl rfl (G_n rfl rfl (gq (zaj rfl (av := .xb false) rfl ?_))))))))))))))))))))))
     refine qm (.xb false) rfl (G_n rfl rfl (G_n rfl rfl (G_n rfl rfl (gq (zaj rfl (av := .xb false) rfl (qm (.xb false) rfl (G_n rfl rfl (G_n rfl rfl (G_n rfl rfl (gq (zaj rfl (av := .xb false) rfl (qm (.xb false) rfl (G_n rfl rfl (G_n rfl rfl (G_n rfl rfl (gq (zaj rfl (av := .xb false) rfl (qm (.xb false) rfl (G_n rfl rfl (G_n rfl rfl (G_n rfl rfl ?_)))))))))))))))))))))
     refine gq (zaj rfl (av := .xb false) rfl (qm (.xb false) rfl (G_n rfl rfl (G_n rfl rfl (G_n rfl rfl (gq (zaj rfl (av := .xb false) rfl (qm (.xb false) rfl (G_n rfl rfl (G_n rfl rfl (G_n rfl rfl (gq (zaj rfl (av := .xb false) rfl (qm (.xb false) rfl (G_n rfl rfl (G_n rfl rfl (G_n rfl rfl (G_n rfl rfl (G_n rfl rfl (G_n rfl rfl (G_n rfl rfl (gq (zaj rfl (av := .xb false) rfl (qm (.xb false) rfl ?_))))))))))))))))))))))))
     refine G_n rfl rfl (G_n rfl rfl (G_n rfl rfl (G_n rfl rfl (G_n rfl rfl (gq (zaj rfl (av := .xb false) rfl (qa (.xb false) rfl (zad (zae ⟨_, h, s1 rfl⟩)))))))))
   ·replace h := ite_f h hc
    refine G_n rfl rfl (G_n rfl rfl (G_n rfl rfl (gq (zaj rfl (av := .xb false) rfl (qm (.xb false) rfl (G_n rfl rfl (G_n rfl rfl (G_n rfl rfl (gq (zaj rfl (av := .xb false) rfl (qm (.xb false) rfl (G_n rfl rfl (G_n rfl rfl (G_n rfl rfl (gq (zaj rfl (av := .xb false) rfl (qm (.xb false) rfl (G_n rfl rfl (G_n rfl rfl (G_n rfl rfl (gq (zaj rfl (av := .xb false) rfl ?_))))))))))))))))))))))
    refine qm (.xb false) rfl (G_n rfl rfl (G_n rfl rfl (G_n rfl rfl (gq (zaj rfl (av := .xb false) rfl (qm (.xb false) rfl (G_n rfl rfl (G_n rfl rfl (G_n rfl rfl (gq (zaj rfl (av := .xb false) rfl (qm (.xb false) rfl (G_n rfl rfl (G_n rfl rfl (G_n rfl rfl (gq (zaj rfl (av := .xb false) rfl (qm (.xb false) rfl (G_n rfl rfl (G_n rfl rfl (G_n rfl rfl ?_)))))))))))))))))))))
    refine gq (zaj rfl (av := .xb false) rfl (qm (.xb false) rfl (G_n rfl rfl (G_n rfl rfl (G_n rfl rfl (gq (zaj rfl (av := .xb false) rfl (qm (.xb false) rfl (G_n rfl rfl (G_n rfl rfl (G_n rfl rfl (gq (zaj rfl (av := .xb false) rfl (qm (.xb false) rfl (G_n rfl rfl (G_n rfl rfl (G_n rfl rfl (gq (zaj rfl (av := .xb false) rfl (qm (.xb false) rfl ?_))))))))))))))))))))
    refine G_n rfl rfl (G_n rfl rfl (G_n rfl rfl (G_n rfl rfl (G_n rfl rfl (G_n rfl rfl (G_n rfl rfl (gq (zaj rfl (av := .xb false) rfl (qm (.xb false) rfl (G_n rfl rfl (G_n rfl rfl (G_n rfl rfl (G_n rfl rfl (G_n rfl rfl (gq (zaj rfl (av := .xb false) rfl (qa (.xb false) rfl (zad (zae ⟨_, h, s1 rfl⟩)))))))))))))))))))
  ·replace h := ite_f h hc
   refine G_n rfl rfl (G_n rfl rfl (G_n rfl rfl (gq (zaj rfl (av := .xb false) rfl (qm (.xb false) rfl (G_n rfl rfl (G_n rfl rfl (G_n rfl rfl (gq (zaj rfl (av := .xb false) rfl (qm (.xb false) rfl (G_n rfl rfl (G_n rfl rfl (G_n rfl rfl (gq (zaj rfl (av := .xb false) rfl (qm (.xb false) rfl (G_n rfl rfl (G_n rfl rfl (G_n rfl rfl (gq (zaj rfl (av := .xb false) rfl ?_))))))))))))))))))))))
   refine qm (.xb false) rfl (G_n rfl rfl (G_n rfl rfl (G_n rfl rfl (gq (zaj rfl (av := .xb false) rfl (qm (.xb false) rfl (G_n rfl rfl (G_n rfl rfl (G_n rfl rfl (gq (zaj rfl (av := .xb false) rfl (qm (.xb false) rfl (G_n rfl rfl (G_n rfl rfl (G_n rfl rfl (gq (zaj rfl (av := .xb false) rfl (qm (.xb false) rfl (G_n rfl rfl (G_n rfl rfl (G_n rfl rfl ?_)))))))))))))))))))))
   refine gq (zaj rfl (av := .xb false) rfl (qm (.xb false) rfl (G_n rfl rfl (G_n rfl rfl (G_n rfl rfl (gq (zaj rfl (av := .xb false) rfl (qm (.xb false) rfl (G_n rfl rfl (G_n rfl rfl (G_n rfl rfl (gq (zaj rfl (av := .xb false) rfl (qm (.xb false) rfl (G_n rfl rfl (G_n rfl rfl (G_n rfl rfl (gq (zaj rfl (av := .xb false) rfl (qm (.xb false) rfl ?_))))))))))))))))))))
   refine G_n rfl rfl (G_n rfl rfl (G_n rfl rfl (gq (zaj rfl (av := .xb false) rfl (qm (.xb false) rfl (G_n rfl rfl (G_n rfl rfl (G_n rfl rfl (G_n rfl rfl (G_n rfl rfl (G_n rfl rfl (G_n rfl rfl (gq (zaj rfl (av := .xb false) rfl (qm (.xb false) rfl (G_n rfl rfl (G_n rfl rfl (G_n rfl rfl (G_n rfl rfl (G_n rfl rfl (gq (zaj rfl (av := .xb false) rfl (qa (.xb false) rfl (zad (zae ⟨_, h, s1 rfl⟩)))))))))))))))))))))))))
 ·refine zax ?_
  obtain rfl := oi h
  refine ke (pt AF0 8 (.xb x8_j13)) [] rfl (s1 rfl) ⟨rfl, rfl⟩
theorem m_law11_DataspaceAgrees_ok (a0 : List ((List UInt8) × Int × (List Int) × (List (List UInt8)))) (a1 : List UInt8) (a2 : List UInt8) (a3 : Int) (a4 : List Int) (r : Bool) (h : m_law11_DataspaceAgrees a0 a1 a2 a3 a4 = some r) : Pure Tryz.prog 5 [(.row 4 zaf a0), (.exact (.string (bs a1))), (.exact (.string (bs a2))), (.exact (.int .i64 a3)), (.row 1 c_int a4)] (.exact (.bool r)) := by
 unfold m_law11_DataspaceAgrees at h
 refine Pure.ofFun (zar Tryz.func5 rfl Tryz.ntmps5 (by simp) rfl (res1 rfl) fun E hE => k_end (zac (kr (qa (.xb false) rfl (zad (zaa (zac (kr (qm (.row 1 c_int a4) rfl ?_)))))))))
 obtain ⟨y1, hy1, h⟩ := zag h
 refine G_l rfl (op_fun_0_1_1 (m_gen_New_ok _ _ hy1) Tryz.func14 (by kernel_rfl) (lc lf ln) (fun b2 => qa (pA b2 0) rfl (zad (zaa (zac (kr (qm (pA b2 0) rfl ?_)))))))
 obtain ⟨y3, hy3, h⟩ := zag h
 refine G_l rfl (zbl (m_law11_names_ok _ _ hy3) Tryz.func15 (by kernel_rfl) (lc lf ln) (qa (.row 4 zaf y3.1) rfl (zad (zaa (zac (kr (qm (pA b2 0) rfl (qm (.row 4 zaf y3.1) rfl ?_))))))))
 obtain ⟨y4, hy4, h⟩ := zag h
 refine G_l rfl (zbl (m_law11_dotted_ok _ _ _ hy4) Tryz.func16 (by kernel_rfl) (lc lf (lc lf ln)) (qa (.xs y4.1) rfl (zad (zaa (zac (kr (qm (pA b2 0) rfl (qm (.row 4 zaf y3.1) rfl ?_))))))))
 obtain ⟨y5, hy5, h⟩ := zag h
 refine G_l rfl (zbl (m_law11_dotted_ok _ _ _ hy5) Tryz.func16 (by kernel_rfl) (lc lf (lc lf ln)) (qm (pA b2 0) rfl (qm (.row 4 zaf y3.1) rfl ?_)))
 obtain ⟨y6, hy6, h⟩ := zag h
 refine G_l rfl (zbl (m_law11_dotted_ok _ _ _ hy6) Tryz.func16 (by kernel_rfl) (lc lf (lc lf ln)) (gq (op_litT (n := 1) (enc := zab) [y5.1, y6.1] (CellsAll.cons rfl CellsOf.str (CellsAll.cons rfl CellsOf.str CellsAll.nil)) rfl (by kernel_rfl) (LEss.cons (lc lf ln) (LEss.cons (lc lf ln) LEss.nil)) ?_)))
 obtain ⟨y7, hy7, h⟩ := zag h
 refine gq (zal (m_ref9_Set_ok _ _ hy7) Tryz.func6 (by kernel_rfl) (lc lf ln) (qa (.xs y7) rfl (zad (zaa (zac (kr (qm (.row 4 zaf y3.1) rfl (qm (.xs y4.1) rfl ?_))))))))
 obtain ⟨y8, hy8, h⟩ := zag h
 refine gq (zal (m_ref11_Next_ok _ _ _ hy8) Tryz.func20 (by kernel_rfl) (lc lf (lc lf ln)) (qm (.tup [.xs y8.1, .xb y8.2]) rfl (gq (zas (av := .xs y8.1) rfl rfl (gq (zas (av := .xb y8.2) rfl rfl (qa (.xs y8.1) rfl (qa (.xb y8.2) rfl (zad (zaa (zac (kr (qm (pA b2 0) rfl ?_)))))))))))))
 obtain ⟨y9, hy9, h⟩ := zag h
 refine G_l rfl (zbl (m_gen_Choices_Value_ok _ _ _ hy9) Tryz.func21 (by kernel_rfl) (lc lf (lc lf ln)) (qa (.xs y9.1) rfl (zad (zaa (k_join3_0 h (fun (x11_0_j10 : List Int) (x11_1_j10 : Int) (x17_j10 : List UInt8) => (pt (pt (pt (pt (pt (pt (pt (pt (pt AF0 0 (.row 4 zaf a0)) 1 (.xs a1)) 2 (.xs a2)) 3 (.xi a3)) 11 (pA b2 0)) 12 (.row 4 zaf y3.1)) 13 (.xs y4.1)) 14 (.xs y7)) 17 (.xs x17_j10))) (fun (x11_0_j10 : List Int) (x11_1_j10 : Int) (x17_j10 : List UInt8) => [boxI 69 b2 [.row 1 c_int x11_0_j10, .xi x11_1_j10]]) (fun k10 h => ?_) (fun x11_0_j10 x11_1_j10 x17_j10 h => ?_))))))
 ·refine zac (kr (qm (.xs y8.1) rfl ?_))
  obtain ⟨y14, hy14, h⟩ := zag h
  refine gq (zal (m_ref9_Parts_ok _ _ hy14) Tryz.func18 (by kernel_rfl) (lc lf ln) (qa (.row 1 zab y14) rfl (zad (zaa (zac (kr (qm (.row 1 zab y14) rfl (gq (zap (by kernel_rfl) rfl (gq (op_gtr rfl rfl (zad (zaa (kd (p := 0 < (List.length y14 : Int)) rfl h (fun hc h => ?_) (fun hc h => ?_)))))))))))))))
  ·refine kr (qm (.row 1 zab y14) rfl (qm (pA b2 0) rfl (qm (.row 1 zab y14) rfl (gq (zap (by kernel_rfl) rfl ?_)))))
   obtain ⟨y15, hy15, h⟩ := zag h
   refine G_l rfl (zbl (zbi _ _ _ hy15) Tryz.func22 (by kernel_rfl) (lc lf (lc lf ln)) ?_)
   obtain ⟨n16, h⟩ := zah h
   refine gq (zao (by kernel_rfl) rfl rfl n16.1 n16.2 (gq (zav (a := .xs (gi y14 y15.1)) (by kernel_rfl) rfl rfl (qa (.xs (gi y14 y15.1)) rfl (zad (zae ⟨_, _, _, h, so (l4 rfl rfl rfl rfl (l4 rfl rfl rfl rfl (lq rfl lt0)))⟩))))))
  ·refine zat (zae ⟨_, _, _, h, so (l4 rfl rfl rfl rfl (l4 rfl rfl rfl rfl (lq rfl lt0)))⟩)
 ·refine zbc h (fun (x10_j17 : Bool) => (pt AF0 10 (.xb x10_j17))) (fun (x10_j17 : Bool) => []) (fun k17 h => ?_) (fun x10_j17 h => ?_)
  ·refine kr ?_
   obtain ⟨y27, hy27, h⟩ := zag h
   refine gq (zal (m_law11_awake_ok _ hy27) Tryz.func13 (by kernel_rfl) ln (qm (.xb y27) rfl (G_splitB (c := y27) 55 rfl (fun hc => ?_) (fun hc => ?_))))
   ·replace h := ite_t h hc
    refine Gy_q rfl rfl rfl (zam (av := .row 4 zaf a0) rfl (Gy_q rfl rfl rfl (zam (av := .xs a1) rfl (Gy_q rfl rfl rfl (zam (av := .xs a2) rfl (Gy_q rfl rfl rfl (zam (av := .xi a3) rfl ?_)))))))
    obtain ⟨y28, hy28, h⟩ := zag h
    refine Gy_q rfl rfl rfl (zal (m_law11_agrees_ok _ _ _ _ _ hy28) Tryz.func23 (by kernel_rfl) (lc lf (lc lf (lc lf (lc lf ln)))) (gq (zau rfl (av := .xb y28) rfl (qm (.xb y28) rfl (G_splitB (c := y28) 62 rfl (fun hc => ?_) (fun hc => ?_))))))
    ·replace h := ite_t h hc
     refine Gy_q rfl rfl rfl (zam (av := .row 4 zaf y3.1) rfl (Gy_q rfl rfl rfl (zam (av := .xs y4.1) rfl (Gy_q rfl rfl rfl (zam (av := .xs y7) rfl (Gy_q rfl rfl rfl (zam (av := pA b2 0) rfl ?_)))))))
     obtain ⟨y29, hy29, h⟩ := zag h
     refine Gy_l rfl rfl rfl (zbl (zbi _ _ _ hy29) Tryz.func22 (by kernel_rfl) (lc lf (lc lf ln)) (Gy_q rfl rfl rfl (op_sub rfl rfl rfl ?_)))
     obtain ⟨y30, hy30, h⟩ := zag h
     refine Gy_q rfl rfl rfl (zal (m_law11_agrees_ok _ _ _ _ _ hy30) Tryz.func23 (by kernel_rfl) (lc lf (lc lf (lc lf (lc lf ln)))) (gq (zau rfl (av := .xb y30) rfl (qm (.xb y30) rfl (G_splitB (c := y30) 71 rfl (fun hc => ?_) (fun hc => ?_))))))
     ·replace h := ite_t h hc
      refine Gy_q rfl rfl rfl (zam (av := .row 4 zaf y3.1) rfl (Gy_q rfl rfl rfl (zam (av := .xs y4.1) rfl (Gy_q rfl rfl rfl (zam (av := .xs x17_j10) rfl ?_)))))
      obtain ⟨y31, hy31, h⟩ := zag h
      refine Gy_q rfl rfl rfl (zal (m_law11_agrees_ok _ _ _ _ _ hy31) Tryz.func23 (by kernel_rfl) (lc lf (lc lf (lc lf (lc lf ln)))) (gq (zau rfl (av := .xb y31) rfl (qm (.xb y31) rfl (G_splitB (c := y31) 77 rfl (fun hc => ?_) (fun hc => ?_))))))
      ·replace h := ite_t h hc
       refine Gy_q rfl rfl rfl (zam (av := .row 4 zaf y3.1) rfl (Gy_q rfl rfl rfl (zam (av := .xs y4.1) rfl (Gy_q rfl rfl rfl (zam (av := .xs y4.1) rfl (Gy_q rfl rfl rfl (zam (av := pA b2 0) rfl ?_)))))))
       obtain ⟨y32, hy32, h⟩ := zag h
       refine Gy_l rfl rfl rfl (zbl (m_gen_Choices_Value_ok _ _ _ hy32) Tryz.func21 (by kernel_rfl) (lc lf (lc lf ln)) (Gy_q rfl rfl rfl (op_litT (n := 1) (enc := zab) [y4.1, y32.1] (CellsAll.cons rfl CellsOf.str (CellsAll.cons rfl CellsOf.str CellsAll.nil)) rfl (by kernel_rfl) (LEss.cons (lc lf ln) (LEss.cons (lc lf ln) LEss.nil)) ?_)))
       obtain ⟨y33, hy33, h⟩ := zag h
       refine Gy_q rfl rfl rfl (zal (m_ref9_Set_ok _ _ hy33) Tryz.func6 (by kernel_rfl) (lc lf ln) ?_)
       obtain ⟨y34, hy34, h⟩ := zag h
       refine Gy_q rfl rfl rfl (zal (m_law11_agrees_ok _ _ _ _ _ hy34) Tryz.func23 (by kernel_rfl) (lc lf (lc lf (lc lf (lc lf ln)))) (gq (zau rfl (av := .xb y34) rfl (qm (.xb y34) rfl (G_splitB (c := y34) 87 rfl (fun hc => ?_) (fun hc => ?_))))))
       ·replace h := ite_t h hc
        refine Gy_q rfl rfl rfl (zam (av := .row 4 zaf y3.1) rfl (Gy_q rfl rfl rfl (zam (av := .xs a1) rfl (Gy_q rfl rfl rfl (zam (av := .xs a2) rfl (Gy_q rfl rfl rfl (zam (av := .xi a3) rfl ?_)))))))
        obtain ⟨y35, hy35, h⟩ := zag h
        refine Gy_q rfl rfl rfl (zal (m_law11_agrees_ok _ _ _ _ _ hy35) Tryz.func23 (by kernel_rfl) (lc lf (lc lf (lc lf (lc lf ln)))) (gq (zau rfl (av := .xb y35) rfl (qa (.xb y35) rfl (zad (zae ⟨_, h, ?_⟩))))))
        refine Sub.trans (SubU.to SubU.drop) (s1 rfl)
       ·replace h := ite_f h hc
        refine G_n rfl rfl (G_n rfl rfl (G_n rfl rfl (G_n rfl rfl (G_n rfl rfl (gq (zaj rfl (av := .xb false) rfl (qa (.xb false) rfl (zad (zae ⟨_, h, ?_⟩)))))))))
        refine Sub.trans (SubU.to SubU.drop) (s1 rfl)
      ·replace h := ite_f h hc
       refine G_n rfl rfl (G_n rfl rfl (G_n rfl rfl (G_n rfl rfl (G_n rfl rfl (G_n rfl rfl (G_n rfl rfl (G_n rfl rfl (gq (zaj rfl (av := .xb false) rfl (qm (.xb false) rfl (G_n rfl rfl (G_n rfl rfl (G_n rfl rfl (G_n rfl rfl (G_n rfl rfl (gq (zaj rfl (av := .xb false) rfl (qa (.xb false) rfl (zad (zae ⟨_, h, ?_⟩))))))))))))))))))))
       refine Sub.trans (SubU.to SubU.drop) (s1 rfl)
     ·replace h := ite_f h hc
      refine G_n rfl rfl (G_n rfl rfl (G_n rfl rfl (G_n rfl rfl (gq (zaj rfl (av := .xb false) rfl (qm (.xb false) rfl (G_n rfl rfl (G_n rfl rfl (G_n rfl rfl (G_n rfl rfl (G_n rfl rfl (G_n rfl rfl (G_n rfl rfl (G_n rfl rfl (gq (zaj rfl (av := .xb false) rfl (qm (.xb false) rfl (G_n rfl rfl (G_n rfl rfl (G_n rfl rfl (G_n rfl rfl (G_n rfl rfl (gq (zaj rfl (av := .xb false) rfl (qa (.xb false) rfl (zad (zae ⟨_, h, ?_⟩)))))))))))))))))))))))))))
      refine Sub.trans (SubU.to SubU.drop) (s1 rfl)
    ·replace h := ite_f h hc
     refine G_n rfl rfl (G_n rfl rfl (G_n rfl rfl (G_n rfl rfl (G_n rfl rfl (G_n rfl rfl (G_n rfl rfl (gq (zaj rfl (av := .xb false) rfl (qm (.xb false) rfl (G_n rfl rfl (G_n rfl rfl (G_n rfl rfl (G_n rfl rfl (gq (zaj rfl (av := .xb false) rfl (qm (.xb false) rfl (G_n rfl rfl (G_n rfl rfl (G_n rfl rfl (G_n rfl rfl (G_n rfl rfl (G_n rfl rfl (G_n rfl rfl (G_n rfl rfl (gq (zaj rfl (av := .xb false) rfl (qm (.xb false) rfl (G_n rfl rfl (G_n rfl rfl (G_n rfl rfl (G_n rfl rfl (G_n rfl rfl (gq (zaj rfl (av := .xb false) rfl ?_))))))))))))))))))))))))))))))))))
     refine qa (.xb false) rfl (zad (zae ⟨_, h, ?_⟩))
     refine Sub.trans (SubU.to SubU.drop) (s1 rfl)
   ·replace h := ite_f h hc
    refine G_n rfl rfl (G_n rfl rfl (G_n rfl rfl (G_n rfl rfl (G_n rfl rfl (gq (zaj rfl (av := .xb false) rfl (qm (.xb false) rfl (G_n rfl rfl (G_n rfl rfl (G_n rfl rfl (G_n rfl rfl (G_n rfl rfl (G_n rfl rfl (G_n rfl rfl (gq (zaj rfl (av := .xb false) rfl (qm (.xb false) rfl (G_n rfl rfl (G_n rfl rfl (G_n rfl rfl (G_n rfl rfl (gq (zaj rfl (av := .xb false) rfl (qm (.xb false) rfl (G_n rfl rfl (G_n rfl rfl (G_n rfl rfl (G_n rfl rfl (G_n rfl rfl (G_n rfl rfl (G_n rfl rfl (G_n rfl rfl (gq (zaj rfl (av := .xb false) rfl ?_))))))))))))))))))))))))))))))))))
    refine qm (.xb false) rfl (G_n rfl rfl (G_n rfl rfl (G_n rfl rfl (G_n rfl rfl (G_n rfl rfl (gq (zaj rfl (av := .xb false) rfl (qa (.xb false) rfl (zad (zae ⟨_, h, ?_⟩))))))))))
    refine Sub.trans (SubU.to SubU.drop) (s1 rfl)
  ·refine zax ?_
   obtain rfl := oi h
   refine ke (pt AF0 10 (.xb x10_j17)) [] rfl (s1 rfl) ⟨rfl, rfl⟩
end Go.Proofs.YtjlbdhicabgliaaGreat
