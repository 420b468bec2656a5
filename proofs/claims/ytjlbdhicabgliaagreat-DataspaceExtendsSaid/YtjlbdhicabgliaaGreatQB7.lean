/- The functions compute their models, by program. -/
import Derived.Test.YtjlbdhicabgliaaGreatQB6
namespace Go.Proofs.YtjlbdhicabgliaaGreat
open Go.RowKit
attribute [local irreducible] AV.exact AV.top AV.row AV.ptr AV.agg AV.tup AV.eptr AV.fn AV.nilq AV.nilqn opA opB opM opR Quiet Loud Reads wpG awp den Sub SubU Pure Fun vecI vecT boxI CellsAll CellsOf OneC LEs LEss
set_option maxRecDepth 100000

set_option maxHeartbeats 4000000 in
theorem m_gen_Choices_Values_ok {w0 : Nat} (self_gen_Choices_Value : ((List Int) × Int) → Int → Option ((List UInt8) × ((List Int) × Int))) (hself_gen_Choices_Value : ∀ ⦃w0 : Nat⦄ (a0 : (List Int) × Int) (a1 : Int) (r : (List UInt8) × ((List Int) × Int)), self_gen_Choices_Value a0 a1 = some r → Fun Tryz.prog 21 [(pA w0 0), (.exact (.int .i64 a1))] [boxI 69 w0 [.row 1 c_int a0.1, .exact (.int .i64 a0.2)]] (fun a s => a = .exact (.string (bs r.1)) ∧ s = [boxI 69 w0 [.row 1 c_int r.2.1, .exact (.int .i64 r.2.2)]])) (a0 : (List Int) × Int) (a1 : Int) (a2 : Int) (r : (List (List UInt8)) × ((List Int) × Int)) (h : m_gen_Choices_Values self_gen_Choices_Value a0 a1 a2 = some r) : Fun Tryz.prog 55 [(pA w0 0), (.exact (.int .i64 a1)), (.exact (.int .i64 a2))] [boxI 69 w0 [.row 1 c_int a0.1, .exact (.int .i64 a0.2)]] (fun a s => a = .row 1 zab r.1 ∧ s = [boxI 69 w0 [.row 1 c_int r.2.1, .exact (.int .i64 r.2.2)]]) := by
 unfold m_gen_Choices_Values at h
 refine fun_of_awp Tryz.func55 rfl Tryz.ntmps55 (by simp) rfl (res1 rfl) fun E hE => k_end ?_
 refine zac (kr ?_)
 refine qa (.exact (.slice none 0 0)) rfl ?_
 refine G_nil (zaa (zac (kr ?_)))
 refine qa (.exact (.slice none 0 0)) rfl ?_
 refine G_nil (zaa ?_)
 refine k_join3_1 h (fun (x0_0_j1 : List Int) (x0_1_j1 : Int) (x7_j1 : List (List UInt8)) (v7_j1 : Value) => (pt (pt AF0 0 (pA w0 0)) 7 (.exact v7_j1))) (fun (x0_0_j1 : List Int) (x0_1_j1 : Int) (x7_j1 : List (List UInt8)) (v7_j1 : Value) => [boxI 69 w0 [.row 1 c_int x0_0_j1, .xi x0_1_j1], vecT Tryz.prog 23 1 zab v7_j1 x7_j1]) (fun k1 h => ?_) (fun x0_0_j1 x0_1_j1 x7_j1 v7_j1 h => ?_)
 ·refine zac (kr ?_)
  refine qm (pA w0 0) rfl ?_
  refine qm (.xi a2) rfl ?_
  obtain ⟨y13, hy13, h⟩ := bnd1_some h
  refine G_l rfl (op_fun_1_0_1 (m_gen_Choices_Next_ok _ _ _ hy13) Tryz.func22 (by kernel_rfl) (LEs.cons (AV.le_eq rfl) (LEs.cons (AV.le_eq rfl) LEs.nil)) ?_)
  refine qa (.xi y13.1) rfl ?_
  refine G_nil (zaa (k_block ?_))
  refine k_loop4_1 (m_gen_Choices_Values_L2 self_gen_Choices_Value a1 k1) (m_gen_Choices_Values_B2 self_gen_Choices_Value a1 k1) (fun _ _ _ _ => rfl) (fun m _ _ _ _ => rfl) h (fun (x0_0_l2 : List Int) (x0_1_l2 : Int) (x7_l2 : List (List UInt8)) (x8_l2 : Int) (v7_l2 : Value) => (pt (pt (pt (pt AF0 0 (pA w0 0)) 1 (.xi a1)) 7 (.exact v7_l2)) 8 (.xi x8_l2))) (fun (x0_0_l2 : List Int) (x0_1_l2 : Int) (x7_l2 : List (List UInt8)) (x8_l2 : Int) (v7_l2 : Value) => [boxI 69 w0 [.row 1 c_int x0_0_l2, .xi x0_1_l2], vecT Tryz.prog 23 1 zab v7_l2 x7_l2]) (.slice none 0 0) ?_ (fun rec2 x0_0_l2 x0_1_l2 x7_l2 x8_l2 v7_l2 h => ?_)
  ·refine Sub.trans (SubU.to (SubU.nilT (P := Tryz.prog) (t := 23) (n := 1) (enc := zab))) ?_
   refine Sub.trans (SubU.to SubU.f1) ?_
   exact so (l4 rfl rfl rfl rfl lt0)
  ·unfold m_gen_Choices_Values_B2 at h
   refine zac (zac (kr ?_))
   refine qm (.xi x8_l2) rfl ?_
   refine G_q rfl (op_gtr rfl rfl ?_)
   refine G_nil (zaa ?_)
   refine kd (p := 0 < x8_l2) rfl h (fun hc h => ?_) (fun hc h => ?_)
   ·refine k_skip (zaa (zac (k_block (kr ?_))))
    refine qm (.exact v7_l2) rfl ?_
    refine qm (pA w0 0) rfl ?_
    refine qm (.xi a1) rfl ?_
    obtain ⟨y20, hy20, h⟩ := bnd1_some h
    refine G_l rfl (op_fun_1_0_1 (hself_gen_Choices_Value _ _ _ hy20) Tryz.func21 (by kernel_rfl) (LEs.cons (AV.le_eq rfl) (LEs.cons (AV.le_eq rfl) LEs.nil)) ?_)
    refine G_q rfl (op_litT (n := 1) (enc := zab) [y20.1] (CellsAll.cons rfl CellsOf.str CellsAll.nil) rfl (by kernel_rfl) (LEss.cons (LEs.cons (AV.le_eq rfl) LEs.nil) LEss.nil) ?_)
    obtain ⟨n21, h⟩ := need_some h
    refine G_l rfl (opB_f1 (op_appT (by kernel_rfl) rfl rfl oc_c_api_Value n21 (fun v22 => ?_)))
    refine qa (.exact v22) rfl ?_
    refine G_nil (kB_normal (zaa (kr ?_)))
    refine qm (.xi x8_l2) rfl ?_
    refine G_q rfl (op_sub rfl rfl rfl ?_)
    refine qa (.xi (i64 (x8_l2 - 1))) rfl ?_
    refine G_nil ?_
    refine zad ⟨_, _, _, _, v22, h, ?_⟩
    refine Sub.trans (SubU.to SubU.f1) ?_
    exact so (l4 rfl rfl rfl rfl lt0)
   ·refine k_exit (kC_exit (kI_exit (kB_exit ?_)))
    refine zad ⟨_, _, _, v7_l2, h, ?_⟩
    exact so (lq rfl (lq rfl lt0))
 ·refine zac (kr ?_)
  refine qm (.exact v7_j1) rfl ?_
  refine qa (.exact v7_j1) rfl ?_
  refine G_nil (zaa (k_ret ?_))
  obtain rfl := Option.some.inj h
  refine ke (pt AF0 6 (.row 1 zab x7_j1)) [boxI 69 w0 [.row 1 c_int x0_0_j1, .xi x0_1_j1]] rfl ?_ ⟨rfl, rfl⟩
  refine Sub.trans (SubU.to SubU.f1) ?_
  refine Sub.trans (SubU.to (SubU.freezeT (s := 6) rfl len_c_api_Value)) ?_
  exact so (lq rfl lt0)
set_option maxHeartbeats 4000000 in
theorem m_ref9_Map_ok (a0 : List (List UInt8)) (a1 : List (List UInt8)) (r : (List UInt8)) (h : m_ref9_Map a0 a1 = some r) : Pure Tryz.prog 56 [(.row 1 zab a0), (.row 1 zab a1)] (.exact (.string (bs r))) := by
 unfold m_ref9_Map at h
 refine Pure.ofFun (fun_of_awp Tryz.func56 rfl Tryz.ntmps56 (by simp) rfl (res1 rfl) fun E hE => k_end ?_)
 refine zac (kr ?_)
 refine qa (.xs ([] : List UInt8)) rfl ?_
 refine G_nil (zaa (zac ?_))
 refine k_join1_0 h (fun (x23_j7 : Bool) => (pt (pt (pt AF0 0 (.row 1 zab a0)) 1 (.row 1 zab a1)) 23 (.xb x23_j7))) (fun (x23_j7 : Bool) => []) (fun k7 h => ?_) (fun x23_j7 h => ?_)
 ·refine kr ?_
  refine qm (.row 1 zab a0) rfl ?_
  refine G_q rfl (zai (by kernel_rfl) rfl ?_)
  refine qm (.row 1 zab a1) rfl ?_
  refine G_q rfl (zai (by kernel_rfl) rfl ?_)
  refine G_q rfl (op_neq rfl rfl ?_)
  refine qm (.xb (decide (¬ (List.length a0 : Int) = (List.length a1 : Int)))) rfl ?_
  refine G_split (p := ¬ (List.length a0 : Int) = (List.length a1 : Int)) 14 rfl (fun hc => ?_) (fun hc => ?_)
  ·replace h := ite_t h hc
   refine G_n rfl rfl (G_n rfl rfl (G_n rfl rfl ?_))
   refine G_q rfl (op_pick_t rfl (av := .xb true) rfl ?_)
   refine qm (.xb true) rfl ?_
   refine G_n rfl rfl (G_n rfl rfl (G_n rfl rfl ?_))
   refine G_q rfl (op_pick_t rfl (av := .xb true) rfl ?_)
   refine G_nil ?_
   refine zad ⟨_, h, ?_⟩
   exact so (lq rfl (lq rfl (lq rfl lt0)))
  ·replace h := ite_f h hc
   refine Gy_q rfl rfl rfl (zag (av := .row 1 zab a0) rfl ?_)
   obtain ⟨y10, hy10, h⟩ := bnd1_some h
   refine Gy_q rfl rfl rfl (zaf (m_ref9_all_ok _ _ hy10) Tryz.func24 (by kernel_rfl) (LEs.cons (AV.le_eq rfl) LEs.nil) ?_)
   refine Gy_q rfl rfl rfl (op_not rfl ?_)
   refine G_q rfl (zak rfl (av := .xb (!y10)) rfl ?_)
   refine qm (.xb (!y10)) rfl ?_
   refine G_splitB (c := !y10) 19 rfl (fun hc => ?_) (fun hc => ?_)
   ·replace h := ite_t h hc
    refine G_n rfl rfl (G_n rfl rfl (G_n rfl rfl ?_))
    refine G_q rfl (op_pick_t rfl (av := .xb true) rfl ?_)
    refine G_nil ?_
    refine zad ⟨_, h, ?_⟩
    exact so (lq rfl (lq rfl (lq rfl lt0)))
   ·replace h := ite_f h hc
    refine Gy_q rfl rfl rfl (zag (av := .row 1 zab a1) rfl ?_)
    obtain ⟨y11, hy11, h⟩ := bnd1_some h
    refine Gy_q rfl rfl rfl (zaf (m_ref9_all_ok _ _ hy11) Tryz.func24 (by kernel_rfl) (LEs.cons (AV.le_eq rfl) LEs.nil) ?_)
    refine Gy_q rfl rfl rfl (op_not rfl ?_)
    refine G_q rfl (zak rfl (av := .xb (!y11)) rfl ?_)
    refine G_nil ?_
    refine zad ⟨_, h, ?_⟩
    exact so (lq rfl (lq rfl (lq rfl lt0)))
 ·refine kb (p := x23_j7) rfl h (fun hc h => ?_) (fun hc h => ?_)
  ·refine zac (kr ?_)
   refine qa (.xs ([] : List UInt8)) rfl ?_
   refine G_nil (zaa (k_ret (kC_ret ?_)))
   obtain rfl := Option.some.inj h
   refine ke (pt AF0 4 (.xs ([] : List UInt8))) [] rfl ?_ ⟨rfl, rfl⟩
   exact so (lq rfl lt0)
  ·refine k_skip (zaa (zac (kr ?_)))
   refine qm (.row 1 zab a0) rfl ?_
   obtain ⟨y12, hy12, h⟩ := bnd1_some h
   refine G_q rfl (zaf (m_ref9_Sort_ok _ _ hy12) Tryz.func26 (by kernel_rfl) (LEs.cons (AV.le_eq rfl) LEs.nil) ?_)
   refine qa (.row 1 zab y12) rfl ?_
   refine G_nil (zaa (zac (zac (kr ?_))))
   refine qm (.row 1 zab y12) rfl ?_
   refine G_q rfl (zai (by kernel_rfl) rfl ?_)
   refine qm (.row 1 zab a0) rfl ?_
   refine G_q rfl (zai (by kernel_rfl) rfl ?_)
   refine G_q rfl (op_neq rfl rfl ?_)
   refine G_nil (zaa ?_)
   refine kd (p := ¬ (List.length y12 : Int) = (List.length a0 : Int)) rfl h (fun hc h => ?_) (fun hc h => ?_)
   ·refine zac (kr ?_)
    refine qa (.xs ([] : List UInt8)) rfl ?_
    refine G_nil (zaa (k_ret (kC_ret ?_)))
    obtain rfl := Option.some.inj h
    refine ke (pt AF0 4 (.xs ([] : List UInt8))) [] rfl ?_ ⟨rfl, rfl⟩
    exact so (lq rfl lt0)
   ·refine k_skip (zaa (zac (kr ?_)))
    refine qa (.exact (.slice none 0 0)) rfl ?_
    refine G_nil (zaa ?_)
    refine k_join1_1 h (fun (x6_j13 : List (List UInt8)) (v6_j13 : Value) => (pt AF0 6 (.exact v6_j13))) (fun (x6_j13 : List (List UInt8)) (v6_j13 : Value) => [vecT Tryz.prog 23 1 zab v6_j13 x6_j13]) (fun k13 h => ?_) (fun x6_j13 v6_j13 h => ?_)
    ·refine zac (kr ?_)
     refine qa (.xi 0) rfl ?_
     refine G_nil (zaa (k_block ?_))
     refine k_loop2_1 (m_ref9_Map_L8 a0 a1 y12 k13) (m_ref9_Map_B8 a0 a1 y12 k13) (fun _ _ => rfl) (fun m _ _ => rfl) h (fun (x6_l8 : List (List UInt8)) (x7_l8 : Int) (v6_l8 : Value) => (pt (pt (pt (pt (pt AF0 0 (.row 1 zab a0)) 1 (.row 1 zab a1)) 5 (.row 1 zab y12)) 6 (.exact v6_l8)) 7 (.xi x7_l8))) (fun (x6_l8 : List (List UInt8)) (x7_l8 : Int) (v6_l8 : Value) => [vecT Tryz.prog 23 1 zab v6_l8 x6_l8]) (.slice none 0 0) ?_ (fun rec8 x6_l8 x7_l8 v6_l8 h => ?_)
     ·refine Sub.trans (SubU.to (SubU.nilT (P := Tryz.prog) (t := 23) (n := 1) (enc := zab))) ?_
      exact so (l4 rfl rfl rfl rfl (lq rfl lt0))
     ·unfold m_ref9_Map_B8 at h
      refine zac (zac (kr ?_))
      refine qm (.xi x7_l8) rfl ?_
      refine qm (.row 1 zab y12) rfl ?_
      refine G_q rfl (zai (by kernel_rfl) rfl ?_)
      refine G_q rfl (op_lss rfl rfl ?_)
      refine G_nil (zaa ?_)
      refine kd (p := x7_l8 < (List.length y12 : Int)) rfl h (fun hc h => ?_) (fun hc h => ?_)
      ·refine k_skip (zaa ?_)
       refine k_join1_1 h (fun (x6_j420 : List (List UInt8)) (v6_j420 : Value) => (pt (pt (pt (pt (pt AF0 0 (.row 1 zab a0)) 1 (.row 1 zab a1)) 5 (.row 1 zab y12)) 6 (.exact v6_j420)) 7 (.xi x7_l8))) (fun (x6_j420 : List (List UInt8)) (v6_j420 : Value) => [vecT Tryz.prog 23 1 zab v6_j420 x6_j420]) (fun k420 h => ?_) (fun x6_j420 v6_j420 h => ?_)
       ·refine k_block (zac (kr ?_))
        refine qa (.xi 0) rfl ?_
        refine G_nil (zaa (k_block ?_))
        refine k_loop2_1 (m_ref9_Map_L14 a0 a1 y12 x7_l8 k420) (m_ref9_Map_B14 a0 a1 y12 x7_l8 k420) (fun _ _ => rfl) (fun m _ _ => rfl) h (fun (x6_l14 : List (List UInt8)) (x8_l14 : Int) (v6_l14 : Value) => (pt (pt (pt (pt (pt (pt AF0 0 (.row 1 zab a0)) 1 (.row 1 zab a1)) 5 (.row 1 zab y12)) 6 (.exact v6_l14)) 7 (.xi x7_l8)) 8 (.xi x8_l14))) (fun (x6_l14 : List (List UInt8)) (x8_l14 : Int) (v6_l14 : Value) => [vecT Tryz.prog 23 1 zab v6_l14 x6_l14]) v6_l8 ?_ (fun rec14 x6_l14 x8_l14 v6_l14 h => ?_)
        ·exact so (l4 rfl rfl rfl rfl (lq rfl (lq rfl lt0)))
        ·unfold m_ref9_Map_B14 at h
         refine zac (zac (kr ?_))
         refine qm (.xi x8_l14) rfl ?_
         refine qm (.row 1 zab a0) rfl ?_
         refine G_q rfl (zai (by kernel_rfl) rfl ?_)
         refine G_q rfl (op_lss rfl rfl ?_)
         refine G_nil (zaa ?_)
         refine kd (p := x8_l14 < (List.length a0 : Int)) rfl h (fun hc h => ?_) (fun hc h => ?_)
         ·refine k_skip (zaa ?_)
          refine k_join1_1 h (fun (x6_j487 : List (List UInt8)) (v6_j487 : Value) => (pt (pt (pt (pt (pt (pt AF0 0 (.row 1 zab a0)) 1 (.row 1 zab a1)) 5 (.row 1 zab y12)) 6 (.exact v6_j487)) 7 (.xi x7_l8)) 8 (.xi x8_l14))) (fun (x6_j487 : List (List UInt8)) (v6_j487 : Value) => [vecT Tryz.prog 23 1 zab v6_j487 x6_j487]) (fun k487 h => ?_) (fun x6_j487 v6_j487 h => ?_)
          ·refine k_block (zac ?_)
           refine k_plan [] [(0, 0), (0, 1), (0, 2), (0, 3), (0, 4), (0, 5), (0, 6), (0, 7), (0, 8)] hmixP (by kernel_rfl) ?_
           refine P_q no34_0 rfl (zag (av := .row 1 zab a0) rfl ?_)
           refine P_q no34_0 rfl (zag (av := .xi x8_l14) rfl ?_)
           obtain ⟨n494, h⟩ := need_some h
           refine P_q no34_0 rfl (zaj (by kernel_rfl) rfl rfl n494.1 n494.2 ?_)
           refine P_q no34_0 rfl (op_load1p (a := .xs (gi a0 x8_l14)) (by kernel_rfl) rfl rfl ?_)
           refine P_q no34_0 rfl (zag (av := .row 1 zab y12) rfl ?_)
           refine P_q no34_0 rfl (zag (av := .xi x7_l8) rfl ?_)
           obtain ⟨n495, h⟩ := need_some h
           refine P_q no34_0 rfl (zaj (by kernel_rfl) rfl rfl n495.1 n495.2 ?_)
           refine P_q no34_0 rfl (op_load1p (a := .xs (gi y12 x7_l8)) (by kernel_rfl) rfl rfl ?_)
           refine P_q no34_0 rfl (op_eqlS rfl rfl ?_)
           refine P_nil (zaa ?_)
           refine kd (p := (gi a0 x8_l14) = (gi y12 x7_l8)) rfl h (fun hc h => ?_) (fun hc h => ?_)
           ·refine k_plan [] [(0, 0), (0, 1), (0, 2), (0, 3), (0, 4), (0, 5), (0, 6), (0, 7), (0, 8), (0, 9), (2, 10), (0, 11)] hmixP (by kernel_rfl) ?_
            refine P_q no34_0 rfl (zag (av := .exact v6_l14) rfl ?_)
            refine P_q no34_0 rfl (zag (av := .row 1 zab y12) rfl ?_)
            refine P_q no34_0 rfl (zag (av := .xi x7_l8) rfl ?_)
            obtain ⟨n496, h⟩ := need_some h
            refine P_q no34_0 rfl (zaj (by kernel_rfl) rfl rfl n496.1 n496.2 ?_)
            refine P_q no34_0 rfl (op_load1p (a := .xs (gi y12 x7_l8)) (by kernel_rfl) rfl rfl ?_)
            refine P_q no34_0 rfl (zag (av := .row 1 zab a1) rfl ?_)
            refine P_q no34_0 rfl (zag (av := .xi x8_l14) rfl ?_)
            obtain ⟨n497, h⟩ := need_some h
            refine P_q no34_0 rfl (zaj (by kernel_rfl) rfl rfl n497.1 n497.2 ?_)
            refine P_q no34_0 rfl (op_load1p (a := .xs (gi a1 x8_l14)) (by kernel_rfl) rfl rfl ?_)
            refine P_q no34_0 rfl (op_litT (n := 1) (enc := zab) [gi y12 x7_l8, gi a1 x8_l14] (CellsAll.cons rfl CellsOf.str (CellsAll.cons rfl CellsOf.str CellsAll.nil)) rfl (by kernel_rfl) (LEss.cons (LEs.cons (AV.le_eq rfl) LEs.nil) (LEss.cons (LEs.cons (AV.le_eq rfl) LEs.nil) LEss.nil)) ?_)
            obtain ⟨n498, h⟩ := need_some h
            refine P_l rfl (op_appT (by kernel_rfl) rfl rfl oc_c_api_Value n498 (fun v499 => ?_))
            refine P_q no34_0 rfl (op_assign (av := .exact v499) rfl ?_)
            refine P_nil (kB_normal ?_)
            refine zad ⟨_, v499, h, ?_⟩
            exact so (l4 rfl rfl rfl rfl (lq rfl (lq rfl lt0)))
           ·refine k_skip (kB_normal ?_)
            refine zad ⟨_, v6_l14, h, ?_⟩
            exact so (l4 rfl rfl rfl rfl (lq rfl (lq rfl lt0)))
          ·refine kr ?_
           refine qm (.xi x8_l14) rfl ?_
           refine G_q rfl (op_add rfl rfl rfl ?_)
           refine qa (.xi (i64 (x8_l14 + 1))) rfl ?_
           refine G_nil ?_
           refine zad ⟨_, _, v6_j487, h, ?_⟩
           exact so (l4 rfl rfl rfl rfl (lq rfl (lq rfl lt0)))
         ·refine k_exit (kC_exit (kI_exit (kB_exit (kB_normal ?_))))
          refine zad ⟨_, v6_l14, h, ?_⟩
          exact so (l4 rfl rfl rfl rfl (lq rfl lt0))
       ·refine kr ?_
        refine qm (.xi x7_l8) rfl ?_
        refine G_q rfl (op_add rfl rfl rfl ?_)
        refine qa (.xi (i64 (x7_l8 + 1))) rfl ?_
        refine G_nil ?_
        refine zad ⟨_, _, v6_j420, h, ?_⟩
        exact so (l4 rfl rfl rfl rfl (lq rfl lt0))
      ·refine k_exit (kC_exit (kI_exit (kB_exit ?_)))
       refine zad ⟨_, v6_l8, h, ?_⟩
       exact so (lq rfl lt0)
    ·refine zac (kr ?_)
     refine qm (.exact v6_j13) rfl ?_
     refine G_sub rfl (SubU.freezeT2 (s1 := 6) (s2 := 63) rfl rfl len_c_api_Value) ?_
     obtain ⟨y500, hy500, h⟩ := bnd1_some h
     refine G_q rfl (zaf (m_ref9_compound_ok _ _ _ hy500) Tryz.func25 (by kernel_rfl) (LEs.cons (AV.le_eq rfl) (LEs.cons (AV.le_eq rfl) LEs.nil)) ?_)
     refine qa (.xs y500) rfl ?_
     refine G_nil (zaa (k_ret ?_))
     obtain rfl := Option.some.inj h
     refine ke (pt AF0 4 (.xs y500)) [] rfl ?_ ⟨rfl, rfl⟩
     exact so (lq rfl lt0)
set_option maxHeartbeats 4000000 in
theorem m_ref9_Numbered_ok (a0 : Int) (a1 : Int) (a2 : List (List UInt8)) (r : (List UInt8)) (h : m_ref9_Numbered a0 a1 a2 = some r) : Pure Tryz.prog 57 [(.exact (.int .i64 a0)), (.exact (.int .i64 a1)), (.row 1 zab a2)] (.exact (.string (bs r))) := by
 unfold m_ref9_Numbered at h
 refine Pure.ofFun (fun_of_awp Tryz.func57 rfl Tryz.ntmps57 (by simp) rfl (res1 rfl) fun E hE => k_end ?_)
 refine zac (kr ?_)
 refine qa (.xs ([] : List UInt8)) rfl ?_
 refine G_nil (zaa (zac (kr ?_)))
 refine qm (.xi a0) rfl ?_
 refine qm (.xi a1) rfl ?_
 obtain ⟨y1, hy1, h⟩ := bnd1_some h
 refine G_q rfl (zaf (m_ref9_Int_ok _ _ hy1) Tryz.func7 (by kernel_rfl) (LEs.cons (AV.le_eq rfl) LEs.nil) ?_)
 refine G_l rfl (op_litI (n := 1) (enc := zab) [y1] (by kernel_rfl) (CellsAll.cons rfl CellsOf.str CellsAll.nil) rfl (by kernel_rfl) (LEss.cons (LEs.cons (AV.le_eq rfl) LEs.nil) LEss.nil) (fun v2 => ?_))
 refine qm (.row 1 zab a2) rfl ?_
 obtain ⟨n3, h⟩ := need_some h
 refine G_l rfl (op_appT (by kernel_rfl) rfl rfl oc_c_api_Value n3 (fun v4 => ?_))
 refine G_sub rfl (SubU.freezeT (s := 12) rfl len_c_api_Value) ?_
 obtain ⟨y5, hy5, h⟩ := bnd1_some h
 refine G_q rfl (zaf (m_ref9_Make_ok _ _ _ hy5) Tryz.func28 (by kernel_rfl) (LEs.cons (AV.le_eq rfl) (LEs.cons (AV.le_eq rfl) LEs.nil)) ?_)
 refine qa (.xs y5) rfl ?_
 refine G_nil (zaa (k_ret ?_))
 obtain rfl := Option.some.inj h
 refine ke (pt AF0 6 (.xs y5)) [] rfl ?_ ⟨rfl, rfl⟩
 exact so (lq rfl lt0)
set_option maxHeartbeats 4000000 in
theorem m_gen_Choices_Number_ok {w0 : Nat} (a0 : (List Int) × Int) (r : Int × ((List Int) × Int)) (h : m_gen_Choices_Number a0 = some r) : Fun Tryz.prog 58 [(pA w0 0)] [boxI 69 w0 [.row 1 c_int a0.1, .exact (.int .i64 a0.2)]] (fun a s => a = .exact (.int .i64 r.1) ∧ s = [boxI 69 w0 [.row 1 c_int r.2.1, .exact (.int .i64 r.2.2)]]) := by
 unfold m_gen_Choices_Number at h
 refine fun_of_awp Tryz.func58 rfl Tryz.ntmps58 (by simp) rfl (res1 rfl) fun E hE => k_end ?_
 refine zac (kr ?_)
 refine qa (.xi 0) rfl ?_
 refine G_nil (zaa (zac (zac (kr ?_))))
 refine qm (pA w0 0) rfl ?_
 obtain ⟨y1, hy1, h⟩ := bnd1_some h
 refine G_l rfl (op_fun_1_0_1 (m_gen_Choices_Next_ok _ _ _ hy1) Tryz.func22 (by kernel_rfl) (LEs.cons (AV.le_eq rfl) (LEs.cons (AV.le_eq rfl) LEs.nil)) ?_)
 refine G_nil (zaa (k_block (zac (kr ?_))))
 refine G_q rfl (op_eql rfl rfl ?_)
 refine qa (.xb (decide (y1.1 = 6))) rfl ?_
 refine G_nil (zaa ?_)
 refine kd (p := y1.1 = 6) rfl h (fun hc h => ?_) (fun hc h => ?_)
 ·refine zac (kr ?_)
  refine qa (.xi (-1)) rfl ?_
  refine G_nil (zaa (k_ret (kB_ret (kC_ret ?_))))
  obtain rfl := Option.some.inj h
  refine ke (pt AF0 2 (.xi (-1))) [boxI 69 w0 [.row 1 c_int y1.2.1, .xi y1.2.2]] rfl ?_ ⟨rfl, rfl⟩
  exact so (lq rfl lt0)
 ·refine zac (kr ?_)
  refine G_q rfl (op_eql rfl rfl ?_)
  refine qa (.xb (decide (y1.1 = 7))) rfl ?_
  refine G_nil (zaa ?_)
  refine kd (p := y1.1 = 7) rfl h (fun hc h => ?_) (fun hc h => ?_)
  ·refine zac (kr ?_)
   refine qm (pA w0 0) rfl ?_
   obtain ⟨y2, hy2, h⟩ := bnd1_some h
   refine G_l rfl (op_fun_1_0_1 (m_gen_Choices_Next_ok _ _ _ hy2) Tryz.func22 (by kernel_rfl) (LEs.cons (AV.le_eq rfl) (LEs.cons (AV.le_eq rfl) LEs.nil)) ?_)
   refine G_q rfl (op_sub rfl rfl rfl ?_)
   refine qa (.xi (i64 (9223372036854775807 - y2.1))) rfl ?_
   refine G_nil (zaa (k_ret (kB_ret (kC_ret ?_))))
   obtain rfl := Option.some.inj h
   refine ke (pt AF0 2 (.xi (i64 (9223372036854775807 - y2.1)))) [boxI 69 w0 [.row 1 c_int y2.2.1, .xi y2.2.2]] rfl ?_ ⟨rfl, rfl⟩
   exact so (lq rfl lt0)
  ·refine zac (kr ?_)
   refine G_q rfl (op_eql rfl rfl ?_)
   refine qa (.xb (decide (y1.1 = 8))) rfl ?_
   refine G_nil (zaa ?_)
   refine kd (p := y1.1 = 8) rfl h (fun hc h => ?_) (fun hc h => ?_)
   ·refine zac (kr ?_)
    refine qm (pA w0 0) rfl ?_
    obtain ⟨y3, hy3, h⟩ := bnd1_some h
    refine G_l rfl (op_fun_1_0_1 (m_gen_Choices_Next_ok _ _ _ hy3) Tryz.func22 (by kernel_rfl) (LEs.cons (AV.le_eq rfl) (LEs.cons (AV.le_eq rfl) LEs.nil)) ?_)
    refine G_q rfl (op_add rfl rfl rfl ?_)
    refine qa (.xi (i64 ((-9223372036854775808) + y3.1))) rfl ?_
    refine G_nil (zaa (k_ret (kB_ret (kC_ret ?_))))
    obtain rfl := Option.some.inj h
    refine ke (pt AF0 2 (.xi (i64 ((-9223372036854775808) + y3.1)))) [boxI 69 w0 [.row 1 c_int y3.2.1, .xi y3.2.2]] rfl ?_ ⟨rfl, rfl⟩
    exact so (lq rfl lt0)
   ·refine k_skip (kB_normal (zaa (zac (kr ?_))))
    refine qm (pA w0 0) rfl ?_
    obtain ⟨y4, hy4, h⟩ := bnd1_some h
    refine G_l rfl (op_fun_1_0_1 (m_gen_Choices_Next_ok _ _ _ hy4) Tryz.func22 (by kernel_rfl) (LEs.cons (AV.le_eq rfl) (LEs.cons (AV.le_eq rfl) LEs.nil)) ?_)
    refine G_q rfl (op_sub rfl rfl rfl ?_)
    refine qa (.xi (i64 (y4.1 - 2))) rfl ?_
    refine G_nil (zaa (k_ret ?_))
    obtain rfl := Option.some.inj h
    refine ke (pt AF0 2 (.xi (i64 (y4.1 - 2)))) [boxI 69 w0 [.row 1 c_int y4.2.1, .xi y4.2.2]] rfl ?_ ⟨rfl, rfl⟩
    exact so (lq rfl lt0)
set_option maxHeartbeats 4000000 in
theorem m_gen_Choices_Value_F_ok {w0 : Nat} (self_gen_Choices_Value : ((List Int) × Int) → Int → Option ((List UInt8) × ((List Int) × Int))) (hself_gen_Choices_Value : ∀ ⦃w0 : Nat⦄ (a0 : (List Int) × Int) (a1 : Int) (r : (List UInt8) × ((List Int) × Int)), self_gen_Choices_Value a0 a1 = some r → Fun Tryz.prog 21 [(pA w0 0), (.exact (.int .i64 a1))] [boxI 69 w0 [.row 1 c_int a0.1, .exact (.int .i64 a0.2)]] (fun a s => a = .exact (.string (bs r.1)) ∧ s = [boxI 69 w0 [.row 1 c_int r.2.1, .exact (.int .i64 r.2.2)]])) (a0 : (List Int) × Int) (a1 : Int) (r : (List UInt8) × ((List Int) × Int)) (h : m_gen_Choices_Value_F self_gen_Choices_Value a0 a1 = some r) : Fun Tryz.prog 21 [(pA w0 0), (.exact (.int .i64 a1))] [boxI 69 w0 [.row 1 c_int a0.1, .exact (.int .i64 a0.2)]] (fun a s => a = .exact (.string (bs r.1)) ∧ s = [boxI 69 w0 [.row 1 c_int r.2.1, .exact (.int .i64 r.2.2)]]) := by
 unfold m_gen_Choices_Value_F at h
 refine fun_of_awp Tryz.func21 rfl Tryz.ntmps21 (by simp) rfl (res1 rfl) fun E hE => k_end ?_
 refine zac (kr ?_)
 refine qa (.xs ([] : List UInt8)) rfl ?_
 refine G_nil (zaa (zac (kr ?_)))
 refine qm (pA w0 0) rfl ?_
 obtain ⟨y1, hy1, h⟩ := bnd1_some h
 refine G_l rfl (op_fun_1_0_1 (m_gen_Choices_Next_ok _ _ _ hy1) Tryz.func22 (by kernel_rfl) (LEs.cons (AV.le_eq rfl) (LEs.cons (AV.le_eq rfl) LEs.nil)) ?_)
 refine qa (.xi y1.1) rfl ?_
 refine G_nil (zaa ?_)
 refine k_join1_0 h (fun (x5_j2 : Int) => (pt (pt (pt AF0 0 (pA w0 0)) 1 (.xi a1)) 5 (.xi x5_j2))) (fun (x5_j2 : Int) => [boxI 69 w0 [.row 1 c_int y1.2.1, .xi y1.2.2]]) (fun k2 h => ?_) (fun x5_j2 h => ?_)
 ·refine zac (kr ?_)
  refine qm (.xi a1) rfl ?_
  refine G_q rfl (op_leq rfl rfl ?_)
  refine G_nil (zaa ?_)
  refine kd (p := a1 ≤ 1) rfl h (fun hc h => ?_) (fun hc h => ?_)
  ·refine kr ?_
   refine qm (.xi y1.1) rfl ?_
   refine G_q rfl (op_rem rfl rfl (by decide) rfl ?_)
   refine qa (.xi (Int.tmod y1.1 3)) rfl ?_
   refine G_nil ?_
   refine zad ⟨_, h, ?_⟩
   exact so (lq rfl (lq rfl (lq rfl lt0)))
  ·refine k_skip ?_
   refine zad ⟨_, h, ?_⟩
   exact so (lq rfl (lq rfl (lq rfl lt0)))
 ·refine k_join0_0 h ((pt AF0 0 (pA w0 0))) ([boxI 69 w0 [.row 1 c_int y1.2.1, .xi y1.2.2]]) (fun k3 h => ?_) (fun  h => ?_)
  ·refine zac (kr ?_)
   refine qm (.xi x5_j2) rfl ?_
   refine G_nil (zaa (k_block (zac (kr ?_))))
   refine G_q rfl (op_eql rfl rfl ?_)
   refine qa (.xb (decide (x5_j2 = 1))) rfl ?_
   refine G_nil (zaa ?_)
   refine kd (p := x5_j2 = 1) rfl h (fun hc h => ?_) (fun hc h => ?_)
   ·refine zac (kr ?_)
    refine qm (pA w0 0) rfl ?_
    obtain ⟨y45, hy45, h⟩ := bnd1_some h
    refine G_l rfl (op_fun_1_0_1 (m_gen_Choices_Next_ok _ _ _ hy45) Tryz.func22 (by kernel_rfl) (LEs.cons (AV.le_eq rfl) (LEs.cons (AV.le_eq rfl) LEs.nil)) ?_)
    refine G_q rfl (op_eql rfl rfl ?_)
    obtain ⟨y46, hy46, h⟩ := bnd1_some h
    refine G_q rfl (zaf (m_ref9_Bool_ok _ _ hy46) Tryz.func54 (by kernel_rfl) (LEs.cons (AV.le_eq rfl) LEs.nil) ?_)
    refine qa (.xs y46) rfl ?_
    refine G_nil (zaa (k_ret (kB_ret (kI_ret ?_))))
    obtain rfl := Option.some.inj h
    refine ke (pt AF0 4 (.xs y46)) [boxI 69 w0 [.row 1 c_int y45.2.1, .xi y45.2.2]] rfl ?_ ⟨rfl, rfl⟩
    exact so (lq rfl lt0)
   ·refine zac (kr ?_)
    refine G_q rfl (op_eql rfl rfl ?_)
    refine qa (.xb (decide (x5_j2 = 2))) rfl ?_
    refine G_nil (zaa ?_)
    refine kd (p := x5_j2 = 2) rfl h (fun hc h => ?_) (fun hc h => ?_)
    ·refine zac (kr ?_)
     refine qm (pA w0 0) rfl ?_
     obtain ⟨y47, hy47, h⟩ := bnd1_some h
     refine G_l rfl (op_fun_1_0_1 (m_gen_Choices_Next_ok _ _ _ hy47) Tryz.func22 (by kernel_rfl) (LEs.cons (AV.le_eq rfl) (LEs.cons (AV.le_eq rfl) LEs.nil)) ?_)
     obtain ⟨y48, hy48, h⟩ := bnd1_some h
     refine G_q rfl (zaf (m_ref9_Name_ok _ _ hy48) Tryz.func29 (by kernel_rfl) (LEs.cons (AV.le_eq rfl) LEs.nil) ?_)
     refine qa (.xs y48) rfl ?_
     refine G_nil (zaa (k_ret (kB_ret (kI_ret ?_))))
     obtain rfl := Option.some.inj h
     refine ke (pt AF0 4 (.xs y48)) [boxI 69 w0 [.row 1 c_int y47.2.1, .xi y47.2.2]] rfl ?_ ⟨rfl, rfl⟩
     exact so (lq rfl lt0)
    ·refine zac (kr ?_)
     refine G_q rfl (op_eql rfl rfl ?_)
     refine qa (.xb (decide (x5_j2 = 3))) rfl ?_
     refine G_nil (zaa ?_)
     refine kd (p := x5_j2 = 3) rfl h (fun hc h => ?_) (fun hc h => ?_)
     ·refine zac (kr ?_)
      refine qm (pA w0 0) rfl ?_
      refine qm (.xi a1) rfl ?_
      refine G_q rfl (op_sub rfl rfl rfl ?_)
      obtain ⟨y49, hy49, h⟩ := bnd1_some h
      refine G_l rfl (op_fun_1_0_1 (hself_gen_Choices_Value _ _ _ hy49) Tryz.func21 (by kernel_rfl) (LEs.cons (AV.le_eq rfl) (LEs.cons (AV.le_eq rfl) LEs.nil)) ?_)
      refine qm (pA w0 0) rfl ?_
      refine qm (.xi a1) rfl ?_
      refine G_q rfl (op_sub rfl rfl rfl ?_)
      obtain ⟨y50, hy50, h⟩ := bnd1_some h
      refine G_l rfl (op_fun_1_0_1 (hself_gen_Choices_Value _ _ _ hy50) Tryz.func21 (by kernel_rfl) (LEs.cons (AV.le_eq rfl) (LEs.cons (AV.le_eq rfl) LEs.nil)) ?_)
      refine G_q rfl (op_litT (n := 1) (enc := zab) [y49.1, y50.1] (CellsAll.cons rfl CellsOf.str (CellsAll.cons rfl CellsOf.str CellsAll.nil)) rfl (by kernel_rfl) (LEss.cons (LEs.cons (AV.le_eq rfl) LEs.nil) (LEss.cons (LEs.cons (AV.le_eq rfl) LEs.nil) LEss.nil)) ?_)
      obtain ⟨y51, hy51, h⟩ := bnd1_some h
      refine G_q rfl (zaf (m_ref9_Make_ok _ _ _ hy51) Tryz.func28 (by kernel_rfl) (LEs.cons (AV.le_eq rfl) (LEs.cons (AV.le_eq rfl) LEs.nil)) ?_)
      refine qa (.xs y51) rfl ?_
      refine G_nil (zaa (k_ret (kB_ret (kI_ret ?_))))
      obtain rfl := Option.some.inj h
      refine ke (pt AF0 4 (.xs y51)) [boxI 69 w0 [.row 1 c_int y50.2.1, .xi y50.2.2]] rfl ?_ ⟨rfl, rfl⟩
      exact so (lq rfl lt0)
     ·refine zac (kr ?_)
      refine G_q rfl (op_eql rfl rfl ?_)
      refine qa (.xb (decide (x5_j2 = 4))) rfl ?_
      refine G_nil (zaa ?_)
      refine kd (p := x5_j2 = 4) rfl h (fun hc h => ?_) (fun hc h => ?_)
      ·refine zac (kr ?_)
       refine qm (pA w0 0) rfl ?_
       refine qm (.xi a1) rfl ?_
       refine G_q rfl (op_sub rfl rfl rfl ?_)
       obtain ⟨y52, hy52, h⟩ := bnd1_some h
       refine G_l rfl (op_fun_1_0_1 (m_gen_Choices_Values_ok self_gen_Choices_Value hself_gen_Choices_Value _ _ _ _ hy52) Tryz.func55 (by kernel_rfl) (LEs.cons (AV.le_eq rfl) (LEs.cons (AV.le_eq rfl) (LEs.cons (AV.le_eq rfl) LEs.nil))) ?_)
       obtain ⟨y53, hy53, h⟩ := bnd1_some h
       refine G_q rfl (zaf (m_ref9_Make_ok _ _ _ hy53) Tryz.func28 (by kernel_rfl) (LEs.cons (AV.le_eq rfl) (LEs.cons (AV.le_eq rfl) LEs.nil)) ?_)
       refine qa (.xs y53) rfl ?_
       refine G_nil (zaa (k_ret (kB_ret (kI_ret ?_))))
       obtain rfl := Option.some.inj h
       refine ke (pt AF0 4 (.xs y53)) [boxI 69 w0 [.row 1 c_int y52.2.1, .xi y52.2.2]] rfl ?_ ⟨rfl, rfl⟩
       exact so (lq rfl lt0)
      ·refine zac (kr ?_)
       refine G_q rfl (op_eql rfl rfl ?_)
       refine qa (.xb (decide (x5_j2 = 5))) rfl ?_
       refine G_nil (zaa ?_)
       refine kd (p := x5_j2 = 5) rfl h (fun hc h => ?_) (fun hc h => ?_)
       ·refine zac (kr ?_)
        refine qm (pA w0 0) rfl ?_
        refine qm (.xi a1) rfl ?_
        refine G_q rfl (op_sub rfl rfl rfl ?_)
        obtain ⟨y54, hy54, h⟩ := bnd1_some h
        refine G_l rfl (op_fun_1_0_1 (m_gen_Choices_Values_ok self_gen_Choices_Value hself_gen_Choices_Value _ _ _ _ hy54) Tryz.func55 (by kernel_rfl) (LEs.cons (AV.le_eq rfl) (LEs.cons (AV.le_eq rfl) (LEs.cons (AV.le_eq rfl) LEs.nil))) ?_)
        obtain ⟨y55, hy55, h⟩ := bnd1_some h
        refine G_q rfl (zaf (m_ref9_Set_ok _ _ hy55) Tryz.func6 (by kernel_rfl) (LEs.cons (AV.le_eq rfl) LEs.nil) ?_)
        refine qa (.xs y55) rfl ?_
        refine G_nil (zaa (k_ret (kB_ret (kI_ret ?_))))
        obtain rfl := Option.some.inj h
        refine ke (pt AF0 4 (.xs y55)) [boxI 69 w0 [.row 1 c_int y54.2.1, .xi y54.2.2]] rfl ?_ ⟨rfl, rfl⟩
        exact so (lq rfl lt0)
       ·refine zac (kr ?_)
        refine G_q rfl (op_eql rfl rfl ?_)
        refine qa (.xb (decide (x5_j2 = 6))) rfl ?_
        refine G_nil (zaa ?_)
        refine kd (p := x5_j2 = 6) rfl h (fun hc h => ?_) (fun hc h => ?_)
        ·refine zac (kr ?_)
         refine qm (pA w0 0) rfl ?_
         obtain ⟨y56, hy56, h⟩ := bnd1_some h
         refine G_l rfl (op_fun_1_0_1 (m_gen_Choices_Next_ok _ _ _ hy56) Tryz.func22 (by kernel_rfl) (LEs.cons (AV.le_eq rfl) (LEs.cons (AV.le_eq rfl) LEs.nil)) ?_)
         refine qm (pA w0 0) rfl ?_
         refine qm (.xi a1) rfl ?_
         refine G_q rfl (op_sub rfl rfl rfl ?_)
         obtain ⟨y57, hy57, h⟩ := bnd1_some h
         refine G_l rfl (op_fun_1_0_1 (m_gen_Choices_Values_ok self_gen_Choices_Value hself_gen_Choices_Value _ _ _ _ hy57) Tryz.func55 (by kernel_rfl) (LEs.cons (AV.le_eq rfl) (LEs.cons (AV.le_eq rfl) (LEs.cons (AV.le_eq rfl) LEs.nil))) ?_)
         obtain ⟨y58, hy58, h⟩ := bnd1_some h
         refine G_q rfl (zaf (m_ref9_Dot_ok _ _ _ hy58) Tryz.func8 (by kernel_rfl) (LEs.cons (AV.le_eq rfl) (LEs.cons (AV.le_eq rfl) LEs.nil)) ?_)
         refine qa (.xs y58) rfl ?_
         refine G_nil (zaa (k_ret (kB_ret (kI_ret ?_))))
         obtain rfl := Option.some.inj h
         refine ke (pt AF0 4 (.xs y58)) [boxI 69 w0 [.row 1 c_int y57.2.1, .xi y57.2.2]] rfl ?_ ⟨rfl, rfl⟩
         exact so (lq rfl lt0)
        ·refine zac (kr ?_)
         refine G_q rfl (op_eql rfl rfl ?_)
         refine qa (.xb (decide (x5_j2 = 7))) rfl ?_
         refine G_nil (zaa ?_)
         refine kd (p := x5_j2 = 7) rfl h (fun hc h => ?_) (fun hc h => ?_)
         ·refine zac (kr ?_)
          refine qm (pA w0 0) rfl ?_
          refine qm (.xi a1) rfl ?_
          refine G_q rfl (op_sub rfl rfl rfl ?_)
          obtain ⟨y59, hy59, h⟩ := bnd1_some h
          refine G_l rfl (op_fun_1_0_1 (m_gen_Choices_Values_ok self_gen_Choices_Value hself_gen_Choices_Value _ _ _ _ hy59) Tryz.func55 (by kernel_rfl) (LEs.cons (AV.le_eq rfl) (LEs.cons (AV.le_eq rfl) (LEs.cons (AV.le_eq rfl) LEs.nil))) ?_)
          obtain ⟨y60, hy60, h⟩ := bnd1_some h
          refine G_q rfl (zaf (m_ref9_Sort_ok _ _ hy60) Tryz.func26 (by kernel_rfl) (LEs.cons (AV.le_eq rfl) LEs.nil) ?_)
          refine qa (.row 1 zab y60) rfl ?_
          refine G_nil (zaa (zac (kr ?_)))
          refine qa (.exact (.slice none 0 0)) rfl ?_
          refine G_nil (zaa ?_)
          refine k_join3_1 h (fun (x0_0_j61 : List Int) (x0_1_j61 : Int) (x7_j61 : List (List UInt8)) (v7_j61 : Value) => (pt (pt (pt AF0 0 (pA w0 0)) 6 (.row 1 zab y60)) 7 (.exact v7_j61))) (fun (x0_0_j61 : List Int) (x0_1_j61 : Int) (x7_j61 : List (List UInt8)) (v7_j61 : Value) => [boxI 69 w0 [.row 1 c_int x0_0_j61, .xi x0_1_j61], vecT Tryz.prog 23 1 zab v7_j61 x7_j61]) (fun k61 h => ?_) (fun x0_0_j61 x0_1_j61 x7_j61 v7_j61 h => ?_)
          ·refine zac (kr ?_)
           refine qa (.xi 0) rfl ?_
           refine G_nil (zaa (k_block ?_))
           refine k_loop4_1 (m_gen_Choices_Value_L4 self_gen_Choices_Value a1 y60 k61) (m_gen_Choices_Value_B4 self_gen_Choices_Value a1 y60 k61) (fun _ _ _ _ => rfl) (fun m _ _ _ _ => rfl) h (fun (x0_0_l4 : List Int) (x0_1_l4 : Int) (x7_l4 : List (List UInt8)) (x8_l4 : Int) (v7_l4 : Value) => (pt (pt (pt (pt (pt AF0 0 (pA w0 0)) 1 (.xi a1)) 6 (.row 1 zab y60)) 7 (.exact v7_l4)) 8 (.xi x8_l4))) (fun (x0_0_l4 : List Int) (x0_1_l4 : Int) (x7_l4 : List (List UInt8)) (x8_l4 : Int) (v7_l4 : Value) => [boxI 69 w0 [.row 1 c_int x0_0_l4, .xi x0_1_l4], vecT Tryz.prog 23 1 zab v7_l4 x7_l4]) (.slice none 0 0) ?_ (fun rec4 x0_0_l4 x0_1_l4 x7_l4 x8_l4 v7_l4 h => ?_)
           ·refine Sub.trans (SubU.to (SubU.nilT (P := Tryz.prog) (t := 23) (n := 1) (enc := zab))) ?_
            refine Sub.trans (SubU.to SubU.f1) ?_
            exact so (l4 rfl rfl rfl rfl (lq rfl lt0))
           ·unfold m_gen_Choices_Value_B4 at h
            refine zac (zac (kr ?_))
            refine qm (.xi x8_l4) rfl ?_
            refine qm (.row 1 zab y60) rfl ?_
            refine G_q rfl (zai (by kernel_rfl) rfl ?_)
            refine G_q rfl (op_lss rfl rfl ?_)
            refine G_nil (zaa ?_)
            refine kd (p := x8_l4 < (List.length y60 : Int)) rfl h (fun hc h => ?_) (fun hc h => ?_)
            ·refine k_skip (zaa (zac (k_block (kr ?_))))
             refine qm (.exact v7_l4) rfl ?_
             refine qm (pA w0 0) rfl ?_
             refine qm (.xi a1) rfl ?_
             refine G_q rfl (op_sub rfl rfl rfl ?_)
             obtain ⟨y78, hy78, h⟩ := bnd1_some h
             refine G_l rfl (op_fun_1_0_1 (hself_gen_Choices_Value _ _ _ hy78) Tryz.func21 (by kernel_rfl) (LEs.cons (AV.le_eq rfl) (LEs.cons (AV.le_eq rfl) LEs.nil)) ?_)
             refine G_q rfl (op_litT (n := 1) (enc := zab) [y78.1] (CellsAll.cons rfl CellsOf.str CellsAll.nil) rfl (by kernel_rfl) (LEss.cons (LEs.cons (AV.le_eq rfl) LEs.nil) LEss.nil) ?_)
             obtain ⟨n79, h⟩ := need_some h
             refine G_l rfl (opB_f1 (op_appT (by kernel_rfl) rfl rfl oc_c_api_Value n79 (fun v80 => ?_)))
             refine qa (.exact v80) rfl ?_
             refine G_nil (kB_normal (zaa (kr ?_)))
             refine qm (.xi x8_l4) rfl ?_
             refine G_q rfl (op_add rfl rfl rfl ?_)
             refine qa (.xi (i64 (x8_l4 + 1))) rfl ?_
             refine G_nil ?_
             refine zad ⟨_, _, _, _, v80, h, ?_⟩
             refine Sub.trans (SubU.to SubU.f1) ?_
             exact so (l4 rfl rfl rfl rfl (lq rfl lt0))
            ·refine k_exit (kC_exit (kI_exit (kB_exit ?_)))
             refine zad ⟨_, _, _, v7_l4, h, ?_⟩
             exact so (lq rfl (lq rfl (lq rfl lt0)))
          ·refine zac (kr ?_)
           refine qm (.row 1 zab y60) rfl ?_
           refine qm (.exact v7_j61) rfl ?_
           refine G_sub rfl (SubU.trans SubU.f1 (SubU.freezeT2 (s1 := 7) (s2 := 83) rfl rfl len_c_api_Value)) ?_
           obtain ⟨y81, hy81, h⟩ := bnd1_some h
           refine G_q rfl (zaf (m_ref9_Map_ok _ _ _ hy81) Tryz.func56 (by kernel_rfl) (LEs.cons (AV.le_eq rfl) (LEs.cons (AV.le_eq rfl) LEs.nil)) ?_)
           refine qa (.xs y81) rfl ?_
           refine G_nil (zaa (k_ret (kB_ret (kI_ret ?_))))
           obtain rfl := Option.some.inj h
           refine ke (pt AF0 4 (.xs y81)) [boxI 69 w0 [.row 1 c_int x0_0_j61, .xi x0_1_j61]] rfl ?_ ⟨rfl, rfl⟩
           exact so (lq rfl lt0)
         ·refine zac (kr ?_)
          refine G_q rfl (op_eql rfl rfl ?_)
          refine qa (.xb (decide (x5_j2 = 8))) rfl ?_
          refine G_nil (zaa ?_)
          refine kd (p := x5_j2 = 8) rfl h (fun hc h => ?_) (fun hc h => ?_)
          ·refine zac (kr ?_)
           refine qm (pA w0 0) rfl ?_
           obtain ⟨y82, hy82, h⟩ := bnd1_some h
           refine G_l rfl (op_fun_1_0_1 (m_gen_Choices_Next_ok _ _ _ hy82) Tryz.func22 (by kernel_rfl) (LEs.cons (AV.le_eq rfl) (LEs.cons (AV.le_eq rfl) LEs.nil)) ?_)
           refine qm (pA w0 0) rfl ?_
           refine qm (.xi a1) rfl ?_
           refine G_q rfl (op_sub rfl rfl rfl ?_)
           obtain ⟨y83, hy83, h⟩ := bnd1_some h
           refine G_l rfl (op_fun_1_0_1 (m_gen_Choices_Values_ok self_gen_Choices_Value hself_gen_Choices_Value _ _ _ _ hy83) Tryz.func55 (by kernel_rfl) (LEs.cons (AV.le_eq rfl) (LEs.cons (AV.le_eq rfl) (LEs.cons (AV.le_eq rfl) LEs.nil))) ?_)
           obtain ⟨y84, hy84, h⟩ := bnd1_some h
           refine G_q rfl (zaf (m_ref9_Numbered_ok _ _ _ _ hy84) Tryz.func57 (by kernel_rfl) (LEs.cons (AV.le_eq rfl) (LEs.cons (AV.le_eq rfl) (LEs.cons (AV.le_eq rfl) LEs.nil))) ?_)
           refine qa (.xs y84) rfl ?_
           refine G_nil (zaa (k_ret (kB_ret (kI_ret ?_))))
           obtain rfl := Option.some.inj h
           refine ke (pt AF0 4 (.xs y84)) [boxI 69 w0 [.row 1 c_int y83.2.1, .xi y83.2.2]] rfl ?_ ⟨rfl, rfl⟩
           exact so (lq rfl lt0)
          ·refine k_skip (kB_normal ?_)
           refine zad ⟨h, ?_⟩
           exact so (lq rfl lt0)
  ·refine zac (kr ?_)
   refine qm (pA w0 0) rfl ?_
   obtain ⟨y85, hy85, h⟩ := bnd1_some h
   refine G_l rfl (op_fun_1_0_1 (m_gen_Choices_Number_ok _ _ hy85) Tryz.func58 (by kernel_rfl) (LEs.cons (AV.le_eq rfl) LEs.nil) ?_)
   obtain ⟨y86, hy86, h⟩ := bnd1_some h
   refine G_q rfl (zaf (m_ref9_Int_ok _ _ hy86) Tryz.func7 (by kernel_rfl) (LEs.cons (AV.le_eq rfl) LEs.nil) ?_)
   refine qa (.xs y86) rfl ?_
   refine G_nil (zaa (k_ret ?_))
   obtain rfl := Option.some.inj h
   refine ke (pt AF0 4 (.xs y86)) [boxI 69 w0 [.row 1 c_int y85.2.1, .xi y85.2.2]] rfl ?_ ⟨rfl, rfl⟩
   exact so (lq rfl lt0)
set_option maxHeartbeats 4000000 in
theorem m_gen_Choices_Value_S_ok : ∀ n : Nat, (∀ ⦃w0 : Nat⦄ (a0 : (List Int) × Int) (a1 : Int) (r : (List UInt8) × ((List Int) × Int)), m_gen_Choices_Value_S n a0 a1 = some r → Fun Tryz.prog 21 [(pA w0 0), (.exact (.int .i64 a1))] [boxI 69 w0 [.row 1 c_int a0.1, .exact (.int .i64 a0.2)]] (fun a s => a = .exact (.string (bs r.1)) ∧ s = [boxI 69 w0 [.row 1 c_int r.2.1, .exact (.int .i64 r.2.2)]]))
  | 0 => (fun _ _ _ _ h => by have h' : (none : Option _) = some _ := h; cases h')
  | n + 1 => by
    have ih := m_gen_Choices_Value_S_ok n
    exact fun w0 a0 a1 r h => m_gen_Choices_Value_F_ok (m_gen_Choices_Value_S n) ih a0 a1 r h
theorem m_gen_Choices_Value_ok {w0 : Nat} (a0 : (List Int) × Int) (a1 : Int) (r : (List UInt8) × ((List Int) × Int)) (h : m_gen_Choices_Value a0 a1 = some r) : Fun Tryz.prog 21 [(pA w0 0), (.exact (.int .i64 a1))] [boxI 69 w0 [.row 1 c_int a0.1, .exact (.int .i64 a0.2)]] (fun a s => a = .exact (.string (bs r.1)) ∧ s = [boxI 69 w0 [.row 1 c_int r.2.1, .exact (.int .i64 r.2.2)]]) := (m_gen_Choices_Value_S_ok FU) a0 a1 r h
set_option maxHeartbeats 4000000 in
theorem m_law11_dotted_ok {w0 : Nat} (a0 : (List Int) × Int) (a1 : List ((List UInt8) × Int × (List Int) × (List (List UInt8)))) (r : (List UInt8) × ((List Int) × Int)) (h : m_law11_dotted a0 a1 = some r) : Fun Tryz.prog 16 [(pA w0 0), (.row 4 zae a1)] [boxI 69 w0 [.row 1 c_int a0.1, .exact (.int .i64 a0.2)]] (fun a s => a = .exact (.string (bs r.1)) ∧ s = [boxI 69 w0 [.row 1 c_int r.2.1, .exact (.int .i64 r.2.2)]]) := by
 unfold m_law11_dotted at h
 refine fun_of_awp Tryz.func16 rfl Tryz.ntmps16 (by simp) rfl (res1 rfl) fun E hE => k_end ?_
 refine zac (kr ?_)
 refine qa (.xs ([] : List UInt8)) rfl ?_
 refine G_nil (zaa (zac (kr ?_)))
 refine qm (pA w0 0) rfl ?_
 refine qm (.row 4 zae a1) rfl ?_
 refine G_q rfl (zai (by kernel_rfl) rfl ?_)
 obtain ⟨y1, hy1, h⟩ := bnd1_some h
 refine G_l rfl (op_fun_1_0_1 (m_gen_Choices_Next_ok _ _ _ hy1) Tryz.func22 (by kernel_rfl) (LEs.cons (AV.le_eq rfl) (LEs.cons (AV.le_eq rfl) LEs.nil)) ?_)
 refine qa (.xi y1.1) rfl ?_
 refine G_nil (zaa (zac (kr ?_)))
 refine qa (.exact (.slice none 0 0)) rfl ?_
 refine G_nil (zaa ?_)
 refine k_join3_1 h (fun (x0_0_j2 : List Int) (x0_1_j2 : Int) (x6_j2 : List (List UInt8)) (v6_j2 : Value) => (pt (pt (pt AF0 0 (pA w0 0)) 5 (.xi y1.1)) 6 (.exact v6_j2))) (fun (x0_0_j2 : List Int) (x0_1_j2 : Int) (x6_j2 : List (List UInt8)) (v6_j2 : Value) => [boxI 69 w0 [.row 1 c_int x0_0_j2, .xi x0_1_j2], vecT Tryz.prog 23 1 zab v6_j2 x6_j2]) (fun k2 h => ?_) (fun x0_0_j2 x0_1_j2 x6_j2 v6_j2 h => ?_)
 ·refine zac (kr ?_)
  refine qa (.xi 0) rfl ?_
  refine G_nil (zaa (k_block ?_))
  refine k_loop4_1 (m_law11_dotted_L2 a1 y1 k2) (m_law11_dotted_B2 a1 y1 k2) (fun _ _ _ _ => rfl) (fun m _ _ _ _ => rfl) h (fun (x0_0_l2 : List Int) (x0_1_l2 : Int) (x6_l2 : List (List UInt8)) (x7_l2 : Int) (v6_l2 : Value) => (pt (pt (pt (pt (pt AF0 0 (pA w0 0)) 1 (.row 4 zae a1)) 5 (.xi y1.1)) 6 (.exact v6_l2)) 7 (.xi x7_l2))) (fun (x0_0_l2 : List Int) (x0_1_l2 : Int) (x6_l2 : List (List UInt8)) (x7_l2 : Int) (v6_l2 : Value) => [boxI 69 w0 [.row 1 c_int x0_0_l2, .xi x0_1_l2], vecT Tryz.prog 23 1 zab v6_l2 x6_l2]) (.slice none 0 0) ?_ (fun rec2 x0_0_l2 x0_1_l2 x6_l2 x7_l2 v6_l2 h => ?_)
  ·refine Sub.trans (SubU.to (SubU.nilT (P := Tryz.prog) (t := 23) (n := 1) (enc := zab))) ?_
   refine Sub.trans (SubU.to SubU.f1) ?_
   exact so (l4 rfl rfl rfl rfl (lq rfl lt0))
  ·unfold m_law11_dotted_B2 at h
   refine zac ?_
   refine k_join3_0 h (fun (x0_0_j270 : List Int) (x0_1_j270 : Int) (x25_j270 : Bool) => (pt (pt (pt (pt (pt (pt AF0 0 (pA w0 0)) 1 (.row 4 zae a1)) 5 (.xi y1.1)) 6 (.exact v6_l2)) 7 (.xi x7_l2)) 25 (.xb x25_j270))) (fun (x0_0_j270 : List Int) (x0_1_j270 : Int) (x25_j270 : Bool) => [boxI 69 w0 [.row 1 c_int x0_0_j270, .xi x0_1_j270], vecT Tryz.prog 23 1 zab v6_l2 x6_l2]) (fun k270 h => ?_) (fun x0_0_j270 x0_1_j270 x25_j270 h => ?_)
   ·refine kr ?_
    refine qm (.xi x7_l2) rfl ?_
    refine qm (.row 4 zae a1) rfl ?_
    refine qm (.xi y1.1) rfl ?_
    obtain ⟨n273, h⟩ := need_some h
    refine G_q rfl (zaj (by kernel_rfl) rfl rfl n273.1 n273.2 ?_)
    refine G_q rfl (op_fieldAddr_ptr (o := 3) (c' := (List.drop 3 (zae (gi a1 y1.1)))) (by kernel_rfl) rfl rfl ?_)
    refine G_q rfl (op_load1p (a := .row 1 zab ((gi a1 y1.1).2.2.2)) (by kernel_rfl) rfl rfl ?_)
    refine G_q rfl (zai (by kernel_rfl) rfl ?_)
    refine G_q rfl (op_lss rfl rfl ?_)
    refine qm (.xb (decide (x7_l2 < (List.length ((gi a1 y1.1).2.2.2) : Int)))) rfl ?_
    refine G_split (p := x7_l2 < (List.length ((gi a1 y1.1).2.2.2) : Int)) 21 rfl (fun hc => ?_) (fun hc => ?_)
    ·replace h := ite_t h hc
     refine Gy_q rfl rfl rfl (zag (av := pA w0 0) rfl ?_)
     obtain ⟨y274, hy274, h⟩ := bnd1_some h
     refine Gy_l rfl rfl rfl (op_fun_1_0_1 (m_gen_Choices_Next_ok _ _ _ hy274) Tryz.func22 (by kernel_rfl) (LEs.cons (AV.le_eq rfl) (LEs.cons (AV.le_eq rfl) LEs.nil)) ?_)
     refine Gy_q rfl rfl rfl (op_gtr rfl rfl ?_)
     refine G_q rfl (op_pick_t rfl (av := .xb (decide (0 < y274.1))) rfl ?_)
     refine G_nil ?_
     refine zad ⟨_, _, _, h, ?_⟩
     exact so (l4 rfl rfl rfl rfl (lq rfl (lq rfl lt0)))
    ·replace h := ite_f h hc
     refine G_n rfl rfl (G_n rfl rfl (G_n rfl rfl ?_))
     refine G_q rfl (zak rfl (av := .xb false) rfl ?_)
     refine G_nil ?_
     refine zad ⟨_, _, _, h, ?_⟩
     exact so (l4 rfl rfl rfl rfl (lq rfl (lq rfl lt0)))
   ·refine kb (p := x25_j270) rfl h (fun hc h => ?_) (fun hc h => ?_)
    ·refine k_skip (zaa ?_)
     refine k_join3_1 h (fun (x0_0_j275 : List Int) (x0_1_j275 : Int) (x6_j275 : List (List UInt8)) (v6_j275 : Value) => (pt (pt (pt (pt (pt AF0 0 (pA w0 0)) 1 (.row 4 zae a1)) 5 (.xi y1.1)) 6 (.exact v6_j275)) 7 (.xi x7_l2))) (fun (x0_0_j275 : List Int) (x0_1_j275 : Int) (x6_j275 : List (List UInt8)) (v6_j275 : Value) => [boxI 69 w0 [.row 1 c_int x0_0_j275, .xi x0_1_j275], vecT Tryz.prog 23 1 zab v6_j275 x6_j275]) (fun k275 h => ?_) (fun x0_0_j275 x0_1_j275 x6_j275 v6_j275 h => ?_)
     ·refine k_block (zac (kr ?_))
      refine qm (.row 4 zae a1) rfl ?_
      refine qm (.xi y1.1) rfl ?_
      obtain ⟨n296, h⟩ := need_some h
      refine G_q rfl (zaj (by kernel_rfl) rfl rfl n296.1 n296.2 ?_)
      refine G_q rfl (op_fieldAddr_ptr (o := 3) (c' := (List.drop 3 (zae (gi a1 y1.1)))) (by kernel_rfl) rfl rfl ?_)
      refine G_q rfl (op_load1p (a := .row 1 zab ((gi a1 y1.1).2.2.2)) (by kernel_rfl) rfl rfl ?_)
      refine qm (.xi x7_l2) rfl ?_
      obtain ⟨n297, h⟩ := need_some h
      refine G_q rfl (zaj (by kernel_rfl) rfl rfl n297.1 n297.2 ?_)
      refine G_q rfl (op_load1p (a := .xs (gi ((gi a1 y1.1).2.2.2) x7_l2)) (by kernel_rfl) rfl rfl ?_)
      obtain ⟨y298, hy298, h⟩ := bnd1_some h
      refine G_q rfl (zaf (m_ref9_Parts_ok _ _ hy298) Tryz.func18 (by kernel_rfl) (LEs.cons (AV.le_eq rfl) LEs.nil) ?_)
      refine qa (.row 1 zab y298) rfl ?_
      refine G_nil (zaa (zac ?_))
      refine k_join3_0 h (fun (x0_0_j306 : List Int) (x0_1_j306 : Int) (x44_j306 : Bool) => (pt (pt (pt (pt (pt (pt (pt AF0 0 (pA w0 0)) 1 (.row 4 zae a1)) 5 (.xi y1.1)) 6 (.exact v6_l2)) 7 (.xi x7_l2)) 8 (.row 1 zab y298)) 44 (.xb x44_j306))) (fun (x0_0_j306 : List Int) (x0_1_j306 : Int) (x44_j306 : Bool) => [boxI 69 w0 [.row 1 c_int x0_0_j306, .xi x0_1_j306], vecT Tryz.prog 23 1 zab v6_l2 x6_l2]) (fun k306 h => ?_) (fun x0_0_j306 x0_1_j306 x44_j306 h => ?_)
      ·refine kr ?_
       refine qm (.row 1 zab y298) rfl ?_
       refine G_q rfl (zai (by kernel_rfl) rfl ?_)
       refine G_q rfl (op_eql rfl rfl ?_)
       refine qm (.xb (decide ((List.length y298 : Int) = 0))) rfl ?_
       refine G_split (p := (List.length y298 : Int) = 0) 40 rfl (fun hc => ?_) (fun hc => ?_)
       ·replace h := ite_t h hc
        refine G_n rfl rfl (G_n rfl rfl (G_n rfl rfl ?_))
        refine G_q rfl (op_pick_t rfl (av := .xb true) rfl ?_)
        refine G_nil ?_
        refine zad ⟨_, _, _, h, ?_⟩
        exact so (l4 rfl rfl rfl rfl (lq rfl (lq rfl (lq rfl lt0))))
       ·replace h := ite_f h hc
        refine Gy_q rfl rfl rfl (zag (av := pA w0 0) rfl ?_)
        obtain ⟨y308, hy308, h⟩ := bnd1_some h
        refine Gy_l rfl rfl rfl (op_fun_1_0_1 (m_gen_Choices_Next_ok _ _ _ hy308) Tryz.func22 (by kernel_rfl) (LEs.cons (AV.le_eq rfl) (LEs.cons (AV.le_eq rfl) LEs.nil)) ?_)
        refine Gy_q rfl rfl rfl (op_eql rfl rfl ?_)
        refine G_q rfl (zak rfl (av := .xb (decide (y308.1 = 11))) rfl ?_)
        refine G_nil ?_
        refine zad ⟨_, _, _, h, ?_⟩
        exact so (l4 rfl rfl rfl rfl (lq rfl (lq rfl (lq rfl lt0))))
      ·refine kb (p := x44_j306) rfl h (fun hc h => ?_) (fun hc h => ?_)
       ·refine zac (kr ?_)
        refine qm (.exact v6_l2) rfl ?_
        refine qm (pA w0 0) rfl ?_
        obtain ⟨y309, hy309, h⟩ := bnd1_some h
        refine G_l rfl (op_fun_1_0_1 (m_gen_Choices_Value_ok _ _ _ hy309) Tryz.func21 (by kernel_rfl) (LEs.cons (AV.le_eq rfl) (LEs.cons (AV.le_eq rfl) LEs.nil)) ?_)
        refine G_q rfl (op_litT (n := 1) (enc := zab) [y309.1] (CellsAll.cons rfl CellsOf.str CellsAll.nil) rfl (by kernel_rfl) (LEss.cons (LEs.cons (AV.le_eq rfl) LEs.nil) LEss.nil) ?_)
        obtain ⟨n310, h⟩ := need_some h
        refine G_l rfl (opB_f1 (op_appT (by kernel_rfl) rfl rfl oc_c_api_Value n310 (fun v311 => ?_)))
        refine qa (.exact v311) rfl ?_
        refine G_nil (zaa (k_exit (kC_exit (kB_exit ?_))))
        refine zad ⟨_, _, _, v311, h, ?_⟩
        refine Sub.trans (SubU.to SubU.f1) ?_
        exact so (l4 rfl rfl rfl rfl (lq rfl lt0))
       ·refine k_skip (zaa (kr ?_))
        refine qm (.exact v6_l2) rfl ?_
        refine qm (.row 1 zab y298) rfl ?_
        refine qm (pA w0 0) rfl ?_
        refine qm (.row 1 zab y298) rfl ?_
        refine G_q rfl (zai (by kernel_rfl) rfl ?_)
        obtain ⟨y312, hy312, h⟩ := bnd1_some h
        refine G_l rfl (op_fun_1_0_1 (m_gen_Choices_Next_ok _ _ _ hy312) Tryz.func22 (by kernel_rfl) (LEs.cons (AV.le_eq rfl) (LEs.cons (AV.le_eq rfl) LEs.nil)) ?_)
        obtain ⟨n313, h⟩ := need_some h
        refine G_q rfl (zaj (by kernel_rfl) rfl rfl n313.1 n313.2 ?_)
        refine G_q rfl (op_load1p (a := .xs (gi y298 y312.1)) (by kernel_rfl) rfl rfl ?_)
        refine G_q rfl (op_litT (n := 1) (enc := zab) [gi y298 y312.1] (CellsAll.cons rfl CellsOf.str CellsAll.nil) rfl (by kernel_rfl) (LEss.cons (LEs.cons (AV.le_eq rfl) LEs.nil) LEss.nil) ?_)
        obtain ⟨n314, h⟩ := need_some h
        refine G_l rfl (opB_f1 (op_appT (by kernel_rfl) rfl rfl oc_c_api_Value n314 (fun v315 => ?_)))
        refine qa (.exact v315) rfl ?_
        refine G_nil (kB_normal ?_)
        refine zad ⟨_, _, _, v315, h, ?_⟩
        refine Sub.trans (SubU.to SubU.f1) ?_
        exact so (l4 rfl rfl rfl rfl (lq rfl lt0))
     ·refine kr ?_
      refine qm (.xi x7_l2) rfl ?_
      refine G_q rfl (op_add rfl rfl rfl ?_)
      refine qa (.xi (i64 (x7_l2 + 1))) rfl ?_
      refine G_nil ?_
      refine zad ⟨_, _, _, _, v6_j275, h, ?_⟩
      exact so (l4 rfl rfl rfl rfl (lq rfl lt0))
    ·refine k_exit (kC_exit (kI_exit (kB_exit ?_)))
     refine zad ⟨_, _, _, v6_l2, h, ?_⟩
     exact so (lq rfl (lq rfl (lq rfl lt0)))
 ·refine k_join3_1 h (fun (x0_0_j316 : List Int) (x0_1_j316 : Int) (x6_j316 : List (List UInt8)) (v6_j316 : Value) => (pt (pt (pt AF0 0 (pA w0 0)) 5 (.xi y1.1)) 6 (.exact v6_j316))) (fun (x0_0_j316 : List Int) (x0_1_j316 : Int) (x6_j316 : List (List UInt8)) (v6_j316 : Value) => [boxI 69 w0 [.row 1 c_int x0_0_j316, .xi x0_1_j316], vecT Tryz.prog 23 1 zab v6_j316 x6_j316]) (fun k316 h => ?_) (fun x0_0_j316 x0_1_j316 x6_j316 v6_j316 h => ?_)
  ·refine zac (kr ?_)
   refine qm (pA w0 0) rfl ?_
   obtain ⟨y321, hy321, h⟩ := bnd1_some h
   refine G_l rfl (op_fun_1_0_1 (m_gen_Choices_Next_ok _ _ _ hy321) Tryz.func22 (by kernel_rfl) (LEs.cons (AV.le_eq rfl) (LEs.cons (AV.le_eq rfl) LEs.nil)) ?_)
   refine G_q rfl (op_eql rfl rfl ?_)
   refine G_nil (zaa ?_)
   refine kd (p := y321.1 = 14) rfl h (fun hc h => ?_) (fun hc h => ?_)
   ·refine kr ?_
    refine qm (.exact v6_j2) rfl ?_
    refine qm (pA w0 0) rfl ?_
    obtain ⟨y322, hy322, h⟩ := bnd1_some h
    refine G_l rfl (op_fun_1_0_1 (m_gen_Choices_Value_ok _ _ _ hy322) Tryz.func21 (by kernel_rfl) (LEs.cons (AV.le_eq rfl) (LEs.cons (AV.le_eq rfl) LEs.nil)) ?_)
    refine G_q rfl (op_litT (n := 1) (enc := zab) [y322.1] (CellsAll.cons rfl CellsOf.str CellsAll.nil) rfl (by kernel_rfl) (LEss.cons (LEs.cons (AV.le_eq rfl) LEs.nil) LEss.nil) ?_)
    obtain ⟨n323, h⟩ := need_some h
    refine G_l rfl (opB_f1 (op_appT (by kernel_rfl) rfl rfl oc_c_api_Value n323 (fun v324 => ?_)))
    refine qa (.exact v324) rfl ?_
    refine G_nil ?_
    refine zad ⟨_, _, _, v324, h, ?_⟩
    refine Sub.trans (SubU.to SubU.f1) ?_
    exact so (lq rfl (lq rfl (lq rfl lt0)))
   ·refine k_skip ?_
    refine zad ⟨_, _, _, v6_j2, h, ?_⟩
    exact so (lq rfl (lq rfl (lq rfl lt0)))
  ·refine zac (kr ?_)
   refine qm (.xi y1.1) rfl ?_
   refine qm (.exact v6_j316) rfl ?_
   refine G_sub rfl (SubU.trans SubU.f1 (SubU.freezeT2 (s1 := 6) (s2 := 69) rfl rfl len_c_api_Value)) ?_
   obtain ⟨y325, hy325, h⟩ := bnd1_some h
   refine G_q rfl (zaf (m_ref9_Dot_ok _ _ _ hy325) Tryz.func8 (by kernel_rfl) (LEs.cons (AV.le_eq rfl) (LEs.cons (AV.le_eq rfl) LEs.nil)) ?_)
   refine qa (.xs y325) rfl ?_
   refine G_nil (zaa (k_ret ?_))
   obtain rfl := Option.some.inj h
   refine ke (pt AF0 4 (.xs y325)) [boxI 69 w0 [.row 1 c_int x0_0_j316, .xi x0_1_j316]] rfl ?_ ⟨rfl, rfl⟩
   exact so (lq rfl lt0)
set_option maxHeartbeats 4000000 in
theorem m_dataspace_Productions_1_ok (a0 : List UInt8) (r : Bool) (h : m_dataspace_Productions_1 a0 = some r) : Pure Tryz.prog 48 [(.exact (.string (bs a0)))] (.exact (.bool r)) := by
 unfold m_dataspace_Productions_1 at h
 refine Pure.ofFun (fun_of_awp Tryz.func48 rfl Tryz.ntmps48 (by simp) rfl (res1 rfl) fun E hE => k_end ?_)
 refine zac (kr ?_)
 refine qa (.xb false) rfl ?_
 refine G_nil (zaa (zac (kr ?_)))
 refine qm (.xs a0) rfl ?_
 obtain ⟨y1, hy1, h⟩ := bnd1_some h
 refine G_q rfl (zaf (m_value_Kind_ok _ _ hy1) Tryz.func31 (by kernel_rfl) (LEs.cons (AV.le_eq rfl) LEs.nil) ?_)
 refine G_q rfl (op_neq rfl rfl ?_)
 refine qa (.xb (decide (¬ y1 = 7))) rfl ?_
 refine G_nil (zaa (k_ret ?_))
 obtain rfl := Option.some.inj h
 refine ke (pt AF0 2 (.xb (decide (¬ y1 = 7)))) [] rfl ?_ ⟨rfl, rfl⟩
 exact so (lq rfl lt0)
set_option maxHeartbeats 4000000 in
theorem m_dataspace_Productions_2_ok (a0 : List UInt8) (a1 : List ((List UInt8) × Int × (List Int) × (List (List UInt8)))) (r : Bool) (h : m_dataspace_Productions_2 a0 a1 = some r) : Pure Tryz.prog 49 [(.exact (.string (bs a0))), (.ptr [.row 4 zae a1])] (.exact (.bool r)) := by
 unfold m_dataspace_Productions_2 at h
 refine Pure.ofFun (fun_of_awp Tryz.func49 rfl Tryz.ntmps49 (by simp) rfl (res1 rfl) fun E hE => k_end ?_)
 refine zac (kr ?_)
 refine qa (.xb false) rfl ?_
 refine G_nil (zaa (zac (kr ?_)))
 refine G_q rfl (op_load1p (a := .row 4 zae a1) (by kernel_rfl) rfl rfl ?_)
 refine qm (.xs a0) rfl ?_
 obtain ⟨y1, hy1, h⟩ := bnd1_some h
 refine G_q rfl (zaf (m_dataspace_belongs_ok _ _ _ hy1) Tryz.func32 (by kernel_rfl) (LEs.cons (AV.le_eq rfl) (LEs.cons (AV.le_eq rfl) LEs.nil)) ?_)
 refine G_q rfl (op_not rfl ?_)
 refine qa (.xb (!y1)) rfl ?_
 refine G_nil (zaa (k_ret ?_))
 obtain rfl := Option.some.inj h
 refine ke (pt AF0 3 (.xb (!y1))) [] rfl ?_ ⟨rfl, rfl⟩
 exact so (lq rfl lt0)
set_option maxHeartbeats 4000000 in
theorem m_dataspace_Productions_ok (a0 : List ((List UInt8) × Int × (List Int) × (List (List UInt8)))) (a1 : List UInt8) (r : (List UInt8) × Int) (h : m_dataspace_Productions a0 a1 = some r) : Pure Tryz.prog 17 [(.row 4 zae a0), (.exact (.string (bs a1)))] (.tup [.exact (.string (bs r.1)), .exact (.int .i64 r.2)]) := by
 unfold m_dataspace_Productions at h
 refine Pure.ofFun (fun_of_awp Tryz.func17 rfl Tryz.ntmps17 (by simp) rfl (res2 rfl) fun E hE => k_end ?_)
 refine zac (kr ?_)
 refine G_l rfl (op_boxI (c := [.row 4 zae a0]) rfl CellsOf.row (LEs.cons (AV.le_eq rfl) LEs.nil) (fun b1 => ?_))
 refine qa (.xs ([] : List UInt8)) rfl ?_
 refine qa (.xi 0) rfl ?_
 refine G_nil (zaa (zac (zac (kr ?_))))
 refine G_r rfl (op_load_box1 (a := .row 4 zae a0) (by kernel_rfl) rfl rfl ?_)
 obtain ⟨y2, hy2, h⟩ := bnd1_some h
 refine G_q rfl (zaf (m_dataspace_Valid_ok _ _ hy2) Tryz.func30 (by kernel_rfl) (LEs.cons (AV.le_eq rfl) LEs.nil) ?_)
 refine G_q rfl (op_not rfl ?_)
 refine G_nil (zaa ?_)
 refine kb (p := !y2) rfl h (fun hc h => ?_) (fun hc h => ?_)
 ·refine zac (kr ?_)
  refine qa (.xs ([] : List UInt8)) rfl ?_
  refine qa (.xi 1) rfl ?_
  refine G_nil (zaa (k_ret (kC_ret ?_)))
  obtain rfl := Option.some.inj h
  refine ke (pt (pt AF0 4 (.xs ([] : List UInt8))) 5 (.xi 1)) [] rfl ?_ ⟨rfl, rfl⟩
  refine Sub.trans (SubU.to SubU.drop) ?_
  exact so (lq rfl (lq rfl lt0))
 ·refine k_skip (zaa (zac (kr ?_)))
  refine qm (.xs a1) rfl ?_
  obtain ⟨y3, hy3, h⟩ := bnd1_some h
  refine G_q rfl (zaf (m_value_Parts_ok _ _ hy3) Tryz.func39 (by kernel_rfl) (LEs.cons (AV.le_eq rfl) LEs.nil) ?_)
  refine qa (.row 1 zab y3) rfl ?_
  refine G_nil (zaa (zac ?_))
  refine k_join1_0 h (fun (x18_j10 : Bool) => (pt (pt (pt AF0 2 (pA b1 0)) 6 (.row 1 zab y3)) 18 (.xb x18_j10))) (fun (x18_j10 : Bool) => [boxI 29 b1 [.row 4 zae a0]]) (fun k10 h => ?_) (fun x18_j10 h => ?_)
  ·refine kr ?_
   refine qm (.xs a1) rfl ?_
   obtain ⟨y13, hy13, h⟩ := bnd1_some h
   refine G_q rfl (zaf (m_value_Kind_ok _ _ hy13) Tryz.func31 (by kernel_rfl) (LEs.cons (AV.le_eq rfl) LEs.nil) ?_)
   refine G_q rfl (op_neq rfl rfl ?_)
   refine qm (.xb (decide (¬ y13 = 5))) rfl ?_
   refine G_split (p := ¬ y13 = 5) 15 rfl (fun hc => ?_) (fun hc => ?_)
   ·replace h := ite_t h hc
    refine G_n rfl rfl (G_n rfl rfl ?_)
    refine G_q rfl (op_pick_t rfl (av := .xb true) rfl ?_)
    refine G_nil ?_
    refine zad ⟨_, h, ?_⟩
    exact so (lq rfl (lq rfl (lq rfl lt0)))
   ·replace h := ite_f h hc
    refine Gy_q rfl rfl rfl (zag (av := .row 1 zab y3) rfl ?_)
    obtain ⟨y14, hy14, h⟩ := bnd1_some h
    refine Gy_q rfl rfl rfl (zaf (m_slices_ContainsFunc_L_api_Value_api_Value_ok _ _ _ hy14) Tryz.func47 (by kernel_rfl) (LEs.cons (AV.le_eq rfl) (LEs.cons ((fn_le Tryz.func48 (by kernel_rfl) (fun i r h => m_dataspace_Productions_1_ok i r h))) LEs.nil)) ?_)
    refine G_q rfl (zak rfl (av := .xb y14) rfl ?_)
    refine G_nil ?_
    refine zad ⟨_, h, ?_⟩
    exact so (lq rfl (lq rfl (lq rfl lt0)))
  ·refine kb (p := x18_j10) rfl h (fun hc h => ?_) (fun hc h => ?_)
   ·refine zac (kr ?_)
    refine qa (.xs ([] : List UInt8)) rfl ?_
    refine qa (.xi 6) rfl ?_
    refine G_nil (zaa (k_ret (kC_ret ?_)))
    obtain rfl := Option.some.inj h
    refine ke (pt (pt AF0 4 (.xs ([] : List UInt8))) 5 (.xi 6)) [] rfl ?_ ⟨rfl, rfl⟩
    refine Sub.trans (SubU.to SubU.drop) ?_
    exact so (lq rfl (lq rfl lt0))
   ·refine k_skip (zaa (zac (zac (kr ?_))))
    refine qm (.row 1 zab y3) rfl ?_
    refine G_sub rfl (SubU.freezeBox (s := 2) rfl) ?_
    refine G_q rfl (op_makeFunc (args := (fun (i : (List UInt8)) => [.xs i])) (f := (fun (i : (List UInt8)) => (fun (x0 : List UInt8) => m_dataspace_Productions_2 x0 a0) i)) (res := (fun (r : Bool) => .xb r)) Tryz.func49 (by kernel_rfl) [.ptr [.row 4 zae a0]] (LEs.cons (AV.le_eq rfl) LEs.nil) (fun i r h => m_dataspace_Productions_2_ok i a0 r h) ?_)
    obtain ⟨y15, hy15, h⟩ := bnd1_some h
    refine G_q rfl (zaf (m_slices_ContainsFunc_L_api_Value_api_Value_ok _ _ _ hy15) Tryz.func47 (by kernel_rfl) (LEs.cons (AV.le_eq rfl) (LEs.cons (AV.le_eq rfl) LEs.nil)) ?_)
    refine G_nil (zaa ?_)
    refine kb (p := y15) rfl h (fun hc h => ?_) (fun hc h => ?_)
    ·refine zac (kr ?_)
     refine qa (.xs ([] : List UInt8)) rfl ?_
     refine qa (.xi 18) rfl ?_
     refine G_nil (zaa (k_ret (kC_ret ?_)))
     obtain rfl := Option.some.inj h
     refine ke (pt (pt AF0 4 (.xs ([] : List UInt8))) 5 (.xi 18)) [] rfl ?_ ⟨rfl, rfl⟩
     exact so (lq rfl (lq rfl lt0))
    ·refine k_skip (zaa (zac (kr ?_)))
     refine G_q rfl (op_load1p (a := .row 4 zae a0) (by kernel_rfl) rfl rfl ?_)
     refine qm (.row 1 zab y3) rfl ?_
     obtain ⟨y16, hy16, h⟩ := bnd1_some h
     refine G_q rfl (zaf (m_dataspace_all_ok _ _ _ hy16) Tryz.func44 (by kernel_rfl) (LEs.cons (AV.le_eq rfl) (LEs.cons (AV.le_eq rfl) LEs.nil)) ?_)
     refine G_q rfl (op_extract (av := .xs y16.1) rfl rfl ?_)
     refine G_q rfl (op_extract (av := .xi y16.2) rfl rfl ?_)
     refine qa (.xs y16.1) rfl ?_
     refine qa (.xi y16.2) rfl ?_
     refine G_nil (zaa (k_ret ?_))
     obtain rfl := Option.some.inj h
     refine ke (pt (pt AF0 4 (.xs y16.1)) 5 (.xi y16.2)) [] rfl ?_ ⟨rfl, rfl⟩
     exact so (lq rfl (lq rfl lt0))
set_option maxHeartbeats 4000000 in
theorem m_law11_DataspaceExtends_ok (a0 : List Int) (r : Bool) (h : m_law11_DataspaceExtends a0 = some r) : Pure Tryz.prog 4 [(.row 1 c_int a0)] (.exact (.bool r)) := by
 unfold m_law11_DataspaceExtends at h
 refine Pure.ofFun (fun_of_awp Tryz.func4 rfl Tryz.ntmps4 (by simp) rfl (res1 rfl) fun E hE => k_end ?_)
 refine zac (kr ?_)
 refine qa (.xb false) rfl ?_
 refine G_nil (zaa (zac (kr ?_)))
 refine qm (.row 1 c_int a0) rfl ?_
 obtain ⟨y1, hy1, h⟩ := bnd1_some h
 refine G_l rfl (op_fun_0_1_1 (m_gen_New_ok _ _ hy1) Tryz.func14 (by kernel_rfl) (LEs.cons (AV.le_eq rfl) LEs.nil) (fun b2 => ?_))
 refine qa (pA b2 0) rfl ?_
 refine G_nil (zaa (zac (kr ?_)))
 refine qm (pA b2 0) rfl ?_
 obtain ⟨y3, hy3, h⟩ := bnd1_some h
 refine G_l rfl (op_fun_1_0_1 (m_law11_names_ok _ _ hy3) Tryz.func15 (by kernel_rfl) (LEs.cons (AV.le_eq rfl) LEs.nil) ?_)
 refine qa (.row 4 zae y3.1) rfl ?_
 refine G_nil (zaa (zac (kr ?_)))
 refine qm (pA b2 0) rfl ?_
 refine qm (.row 4 zae y3.1) rfl ?_
 obtain ⟨y4, hy4, h⟩ := bnd1_some h
 refine G_l rfl (op_fun_1_0_1 (m_law11_dotted_ok _ _ _ hy4) Tryz.func16 (by kernel_rfl) (LEs.cons (AV.le_eq rfl) (LEs.cons (AV.le_eq rfl) LEs.nil)) ?_)
 refine qa (.xs y4.1) rfl ?_
 refine G_nil (zaa (zac (kr ?_)))
 refine qm (.row 4 zae y3.1) rfl ?_
 refine qm (.xs y4.1) rfl ?_
 obtain ⟨y5, hy5, h⟩ := bnd1_some h
 refine G_q rfl (zaf (m_dataspace_Extensions_ok _ _ _ hy5) Tryz.func9 (by kernel_rfl) (LEs.cons (AV.le_eq rfl) (LEs.cons (AV.le_eq rfl) LEs.nil)) ?_)
 refine qm (.tup [.xs y5.1, .xi y5.2]) rfl ?_
 refine G_q rfl (op_extract (av := .xs y5.1) rfl rfl ?_)
 refine G_q rfl (op_extract (av := .xi y5.2) rfl rfl ?_)
 refine qa (.xs y5.1) rfl ?_
 refine qa (.xi y5.2) rfl ?_
 refine G_nil (zaa (zac (kr ?_)))
 refine qm (.row 4 zae y3.1) rfl ?_
 refine qm (.xs y4.1) rfl ?_
 refine G_q rfl (op_litT (n := 1) (enc := zab) [y4.1] (CellsAll.cons rfl CellsOf.str CellsAll.nil) rfl (by kernel_rfl) (LEss.cons (LEs.cons (AV.le_eq rfl) LEs.nil) LEss.nil) ?_)
 obtain ⟨y6, hy6, h⟩ := bnd1_some h
 refine G_q rfl (zaf (m_ref9_Set_ok _ _ hy6) Tryz.func6 (by kernel_rfl) (LEs.cons (AV.le_eq rfl) LEs.nil) ?_)
 obtain ⟨y7, hy7, h⟩ := bnd1_some h
 refine G_q rfl (zaf (m_dataspace_Productions_ok _ _ _ hy7) Tryz.func17 (by kernel_rfl) (LEs.cons (AV.le_eq rfl) (LEs.cons (AV.le_eq rfl) LEs.nil)) ?_)
 refine qm (.tup [.xs y7.1, .xi y7.2]) rfl ?_
 refine G_q rfl (op_extract (av := .xs y7.1) rfl rfl ?_)
 refine G_q rfl (op_extract (av := .xi y7.2) rfl rfl ?_)
 refine qa (.xs y7.1) rfl ?_
 refine qa (.xi y7.2) rfl ?_
 refine G_nil (zaa (zac ?_))
 refine k_join1_0 h (fun (x43_j13 : Bool) => (pt (pt (pt (pt (pt (pt (pt AF0 4 (.row 4 zae y3.1)) 5 (.xs y4.1)) 6 (.xs y5.1)) 7 (.xi y5.2)) 8 (.xs y7.1)) 9 (.xi y7.2)) 43 (.xb x43_j13))) (fun (x43_j13 : Bool) => []) (fun k13 h => ?_) (fun x43_j13 h => ?_)
 ·refine kr ?_
  refine qm (.xi y5.2) rfl ?_
  refine G_q rfl (op_neq rfl rfl ?_)
  refine qm (.xb (decide (¬ y5.2 = 0))) rfl ?_
  refine G_split (p := ¬ y5.2 = 0) 40 rfl (fun hc => ?_) (fun hc => ?_)
  ·replace h := ite_t h hc
   refine G_n rfl rfl (G_n rfl rfl ?_)
   refine G_q rfl (op_pick_t rfl (av := .xb true) rfl ?_)
   refine G_nil ?_
   refine zad ⟨_, h, ?_⟩
   refine Sub.trans (SubU.to SubU.drop) ?_
   exact so (l4 rfl rfl rfl rfl (lq rfl (lq rfl (lq rfl lt0))))
  ·replace h := ite_f h hc
   refine Gy_q rfl rfl rfl (zag (av := .xi y7.2) rfl ?_)
   refine Gy_q rfl rfl rfl (op_neq rfl rfl ?_)
   refine G_q rfl (zak rfl (av := .xb (decide (¬ y7.2 = 0))) rfl ?_)
   refine G_nil ?_
   refine zad ⟨_, h, ?_⟩
   refine Sub.trans (SubU.to SubU.drop) ?_
   exact so (l4 rfl rfl rfl rfl (lq rfl (lq rfl (lq rfl lt0))))
 ·refine kb (p := x43_j13) rfl h (fun hc h => ?_) (fun hc h => ?_)
  ·refine k_join1_0 h (fun (x2_j14 : Bool) => (pt AF0 2 (.xb x2_j14))) (fun (x2_j14 : Bool) => []) (fun k14 h => ?_) (fun x2_j14 h => ?_)
   ·refine kr ?_
    obtain ⟨y16, hy16, h⟩ := bnd1_some h
    refine G_q rfl (zaf (m_law11_awake_ok _ hy16) Tryz.func13 (by kernel_rfl) LEs.nil ?_)
    refine qm (.xb y16) rfl ?_
    refine G_splitB (c := y16) 45 rfl (fun hc => ?_) (fun hc => ?_)
    ·replace h := ite_t h hc
     refine Gy_q rfl rfl rfl (zag (av := .xi y5.2) rfl ?_)
     refine Gy_q rfl rfl rfl (op_neq rfl rfl ?_)
     refine Gy_q rfl rfl rfl (zag (av := .xi y7.2) rfl ?_)
     refine Gy_q rfl rfl rfl (op_neq rfl rfl ?_)
     refine Gy_q rfl rfl rfl (op_eqlB (a := (decide (¬ y5.2 = 0))) (b := (decide (¬ y7.2 = 0))) (by kernel_rfl) rfl rfl ?_)
     refine G_q rfl (op_pick_t rfl (av := .xb (decide ((decide (¬ y5.2 = 0)) = (decide (¬ y7.2 = 0))))) rfl ?_)
     refine qa (.xb (decide ((decide (¬ y5.2 = 0)) = (decide (¬ y7.2 = 0))))) rfl ?_
     refine G_nil ?_
     refine zad ⟨_, h, ?_⟩
     exact so (lq rfl lt0)
    ·replace h := ite_f h hc
     refine G_n rfl rfl (G_n rfl rfl (G_n rfl rfl (G_n rfl rfl (G_n rfl rfl ?_))))
     refine G_q rfl (zak rfl (av := .xb false) rfl ?_)
     refine qa (.xb false) rfl ?_
     refine G_nil ?_
     refine zad ⟨_, h, ?_⟩
     exact so (lq rfl lt0)
   ·refine k_ret (kC_ret ?_)
    obtain rfl := Option.some.inj h
    refine ke (pt AF0 2 (.xb x2_j14)) [] rfl ?_ ⟨rfl, rfl⟩
    exact so (lq rfl lt0)
  ·refine k_skip (zaa (zac (kr ?_)))
   refine qm (.xs y5.1) rfl ?_
   obtain ⟨y17, hy17, h⟩ := bnd1_some h
   refine G_q rfl (zaf (m_ref9_Parts_ok _ _ hy17) Tryz.func18 (by kernel_rfl) (LEs.cons (AV.le_eq rfl) LEs.nil) ?_)
   refine qa (.row 1 zab y17) rfl ?_
   refine G_nil (zaa (zac (kr ?_)))
   refine qa (.exact (.slice none 0 0)) rfl ?_
   refine G_nil (zaa ?_)
   refine k_join1_1 h (fun (x11_j18 : List (List UInt8)) (v11_j18 : Value) => (pt (pt AF0 8 (.xs y7.1)) 11 (.exact v11_j18))) (fun (x11_j18 : List (List UInt8)) (v11_j18 : Value) => [vecT Tryz.prog 23 1 zab v11_j18 x11_j18]) (fun k18 h => ?_) (fun x11_j18 v11_j18 h => ?_)
   ·refine zac (kr ?_)
    refine qa (.xi 0) rfl ?_
    refine G_nil (zaa (k_block ?_))
    refine k_loop2_1 (m_law11_DataspaceExtends_L14 y3 y4 y17 k18) (m_law11_DataspaceExtends_B14 y3 y4 y17 k18) (fun _ _ => rfl) (fun m _ _ => rfl) h (fun (x11_l14 : List (List UInt8)) (x12_l14 : Int) (v11_l14 : Value) => (pt (pt (pt (pt (pt (pt AF0 4 (.row 4 zae y3.1)) 5 (.xs y4.1)) 8 (.xs y7.1)) 10 (.row 1 zab y17)) 11 (.exact v11_l14)) 12 (.xi x12_l14))) (fun (x11_l14 : List (List UInt8)) (x12_l14 : Int) (v11_l14 : Value) => [vecT Tryz.prog 23 1 zab v11_l14 x11_l14]) (.slice none 0 0) ?_ (fun rec14 x11_l14 x12_l14 v11_l14 h => ?_)
    ·refine Sub.trans (SubU.to (SubU.nilT (P := Tryz.prog) (t := 23) (n := 1) (enc := zab))) ?_
     exact so (l4 rfl rfl rfl rfl (lq rfl (lq rfl lt0)))
    ·unfold m_law11_DataspaceExtends_B14 at h
     refine zac (zac (kr ?_))
     refine qm (.xi x12_l14) rfl ?_
     refine qm (.row 1 zab y17) rfl ?_
     refine G_q rfl (zai (by kernel_rfl) rfl ?_)
     refine G_q rfl (op_lss rfl rfl ?_)
     refine G_nil (zaa ?_)
     refine kd (p := x12_l14 < (List.length y17 : Int)) rfl h (fun hc h => ?_) (fun hc h => ?_)
     ·refine k_skip (zaa ?_)
      refine k_join1_1 h (fun (x11_j225 : List (List UInt8)) (v11_j225 : Value) => (pt (pt (pt (pt (pt (pt AF0 4 (.row 4 zae y3.1)) 5 (.xs y4.1)) 8 (.xs y7.1)) 10 (.row 1 zab y17)) 11 (.exact v11_j225)) 12 (.xi x12_l14))) (fun (x11_j225 : List (List UInt8)) (v11_j225 : Value) => [vecT Tryz.prog 23 1 zab v11_j225 x11_j225]) (fun k225 h => ?_) (fun x11_j225 v11_j225 h => ?_)
      ·refine k_block (zac (kr ?_))
       refine qm (.xs y4.1) rfl ?_
       refine qa (.xs y4.1) rfl ?_
       refine G_nil (zaa (zac (kr ?_)))
       refine qm (.row 1 zab y17) rfl ?_
       refine qm (.xi x12_l14) rfl ?_
       obtain ⟨n246, h⟩ := need_some h
       refine G_q rfl (zaj (by kernel_rfl) rfl rfl n246.1 n246.2 ?_)
       refine G_q rfl (op_load1p (a := .xs (gi y17 x12_l14)) (by kernel_rfl) rfl rfl ?_)
       obtain ⟨y247, hy247, h⟩ := bnd1_some h
       refine G_q rfl (zaf (m_ref9_Parts_ok _ _ hy247) Tryz.func18 (by kernel_rfl) (LEs.cons (AV.le_eq rfl) LEs.nil) ?_)
       refine qa (.row 1 zab y247) rfl ?_
       refine G_nil (zaa ?_)
       refine k_join1_0 h (fun (x13_j248 : List UInt8) => (pt (pt (pt (pt (pt (pt (pt AF0 4 (.row 4 zae y3.1)) 5 (.xs y4.1)) 8 (.xs y7.1)) 10 (.row 1 zab y17)) 11 (.exact v11_l14)) 12 (.xi x12_l14)) 13 (.xs x13_j248))) (fun (x13_j248 : List UInt8) => [vecT Tryz.prog 23 1 zab v11_l14 x11_l14]) (fun k248 h => ?_) (fun x13_j248 h => ?_)
       ·refine zac (kr ?_)
        refine qa (.xi 0) rfl ?_
        refine G_nil (zaa (k_block ?_))
        refine k_loop2_0 (m_law11_DataspaceExtends_L26 y3 y247 k248) (m_law11_DataspaceExtends_B26 y3 y247 k248) (fun _ _ => rfl) (fun m _ _ => rfl) h (fun (x13_l26 : List UInt8) (x15_l26 : Int) => (pt (pt (pt (pt (pt (pt (pt (pt (pt AF0 4 (.row 4 zae y3.1)) 5 (.xs y4.1)) 8 (.xs y7.1)) 10 (.row 1 zab y17)) 11 (.exact v11_l14)) 12 (.xi x12_l14)) 13 (.xs x13_l26)) 14 (.row 1 zab y247)) 15 (.xi x15_l26))) (fun (x13_l26 : List UInt8) (x15_l26 : Int) => [vecT Tryz.prog 23 1 zab v11_l14 x11_l14]) ?_ (fun rec26 x13_l26 x15_l26 h => ?_)
        ·exact so (l4 rfl rfl rfl rfl (l4 rfl rfl rfl rfl (lq rfl lt0)))
        ·unfold m_law11_DataspaceExtends_B26 at h
         refine zac (zac (kr ?_))
         refine qm (.xi x15_l26) rfl ?_
         refine qm (.row 1 zab y247) rfl ?_
         refine G_q rfl (zai (by kernel_rfl) rfl ?_)
         refine G_q rfl (op_lss rfl rfl ?_)
         refine G_nil (zaa ?_)
         refine kd (p := x15_l26 < (List.length y247 : Int)) rfl h (fun hc h => ?_) (fun hc h => ?_)
         ·refine k_skip (zaa (zac (k_block (zac (kr ?_)))))
          refine qa (.xi 0) rfl ?_
          refine G_nil (zaa (zac (kr ?_)))
          refine qm (.row 4 zae y3.1) rfl ?_
          refine qm (.xs x13_l26) rfl ?_
          refine qm (.row 1 zab y247) rfl ?_
          refine qm (.xi x15_l26) rfl ?_
          obtain ⟨n260, h⟩ := need_some h
          refine G_q rfl (zaj (by kernel_rfl) rfl rfl n260.1 n260.2 ?_)
          refine G_q rfl (op_load1p (a := .xs (gi y247 x15_l26)) (by kernel_rfl) rfl rfl ?_)
          obtain ⟨y261, hy261, h⟩ := bnd1_some h
          refine G_q rfl (zaf (m_dataspace_Join_ok _ _ _ _ hy261) Tryz.func10 (by kernel_rfl) (LEs.cons (AV.le_eq rfl) (LEs.cons (AV.le_eq rfl) (LEs.cons (AV.le_eq rfl) LEs.nil))) ?_)
          refine qm (.tup [.xs y261.1, .xi y261.2]) rfl ?_
          refine G_q rfl (op_extract (av := .xs y261.1) rfl rfl ?_)
          refine G_q rfl (op_extract (av := .xi y261.2) rfl rfl ?_)
          refine qa (.xs y261.1) rfl ?_
          refine qa (.xi y261.2) rfl ?_
          refine G_nil (zaa (zac (kr ?_)))
          refine qm (.xi y261.2) rfl ?_
          refine G_q rfl (op_neq rfl rfl ?_)
          refine G_nil (zaa ?_)
          refine kd (p := ¬ y261.2 = 0) rfl h (fun hc h => ?_) (fun hc h => ?_)
          ·refine zac (kr ?_)
           refine qa (.xb false) rfl ?_
           refine G_nil (zaa (k_ret (kB_ret (kC_ret (kI_ret (kB_ret (kI_ret (kB_ret (kI_ret (kI_ret (kB_ret (kI_ret ?_))))))))))))
           obtain rfl := Option.some.inj h
           refine ke (pt AF0 2 (.xb false)) [] rfl ?_ ⟨rfl, rfl⟩
           refine Sub.trans (SubU.to SubU.drop) ?_
           exact so (lq rfl lt0)
          ·refine k_skip (kB_normal (zaa (kr ?_)))
           refine qm (.xi x15_l26) rfl ?_
           refine G_q rfl (op_add rfl rfl rfl ?_)
           refine qa (.xi (i64 (x15_l26 + 1))) rfl ?_
           refine G_nil ?_
           refine zad ⟨_, _, h, ?_⟩
           exact so (l4 rfl rfl rfl rfl (l4 rfl rfl rfl rfl (lq rfl lt0)))
         ·refine k_exit (kC_exit (kI_exit (kB_exit ?_)))
          refine zad ⟨_, h, ?_⟩
          exact so (l4 rfl rfl rfl rfl (lq rfl (lq rfl (lq rfl lt0))))
       ·refine zac (zac (kr ?_))
        refine qm (.row 4 zae y3.1) rfl ?_
        refine qm (.xs x13_j248) rfl ?_
        obtain ⟨y262, hy262, h⟩ := bnd1_some h
        refine G_q rfl (zaf (m_dataspace_Complete_ok _ _ _ hy262) Tryz.func19 (by kernel_rfl) (LEs.cons (AV.le_eq rfl) (LEs.cons (AV.le_eq rfl) LEs.nil)) ?_)
        refine G_q rfl (op_not rfl ?_)
        refine G_nil (zaa ?_)
        refine kb (p := !y262) rfl h (fun hc h => ?_) (fun hc h => ?_)
        ·refine zac (kr ?_)
         refine qa (.xb false) rfl ?_
         refine G_nil (zaa (k_ret (kC_ret (kB_ret (kI_ret (kI_ret (kB_ret (kI_ret ?_))))))))
         obtain rfl := Option.some.inj h
         refine ke (pt AF0 2 (.xb false)) [] rfl ?_ ⟨rfl, rfl⟩
         refine Sub.trans (SubU.to SubU.drop) ?_
         exact so (lq rfl lt0)
        ·refine k_skip (zaa (kr ?_))
         refine qm (.exact v11_l14) rfl ?_
         refine qm (.xs x13_j248) rfl ?_
         refine G_q rfl (op_litT (n := 1) (enc := zab) [x13_j248] (CellsAll.cons rfl CellsOf.str CellsAll.nil) rfl (by kernel_rfl) (LEss.cons (LEs.cons (AV.le_eq rfl) LEs.nil) LEss.nil) ?_)
         obtain ⟨n263, h⟩ := need_some h
         refine G_l rfl (op_appT (by kernel_rfl) rfl rfl oc_c_api_Value n263 (fun v264 => ?_))
         refine qa (.exact v264) rfl ?_
         refine G_nil (kB_normal ?_)
         refine zad ⟨_, v264, h, ?_⟩
         exact so (l4 rfl rfl rfl rfl (lq rfl (lq rfl lt0)))
      ·refine kr ?_
       refine qm (.xi x12_l14) rfl ?_
       refine G_q rfl (op_add rfl rfl rfl ?_)
       refine qa (.xi (i64 (x12_l14 + 1))) rfl ?_
       refine G_nil ?_
       refine zad ⟨_, _, v11_j225, h, ?_⟩
       exact so (l4 rfl rfl rfl rfl (lq rfl (lq rfl lt0)))
     ·refine k_exit (kC_exit (kI_exit (kB_exit ?_)))
      refine zad ⟨_, v11_l14, h, ?_⟩
      exact so (lq rfl (lq rfl lt0))
   ·refine k_join1_0 h (fun (x2_j265 : Bool) => (pt AF0 2 (.xb x2_j265))) (fun (x2_j265 : Bool) => []) (fun k265 h => ?_) (fun x2_j265 h => ?_)
    ·refine kr ?_
     obtain ⟨y268, hy268, h⟩ := bnd1_some h
     refine G_q rfl (zaf (m_law11_awake_ok _ hy268) Tryz.func13 (by kernel_rfl) LEs.nil ?_)
     refine qm (.xb y268) rfl ?_
     refine G_splitB (c := y268) 93 rfl (fun hc => ?_) (fun hc => ?_)
     ·replace h := ite_t h hc
      refine Gy_q rfl rfl rfl (zag (av := .xs y7.1) rfl ?_)
      refine Gy_q rfl rfl rfl (zag (av := .exact v11_j18) rfl ?_)
      refine G_sub rfl (SubU.freezeT2 (s1 := 11) (s2 := 95) rfl rfl len_c_api_Value) ?_
      obtain ⟨y269, hy269, h⟩ := bnd1_some h
      refine Gy_q rfl rfl rfl (zaf (m_ref9_Set_ok _ _ hy269) Tryz.func6 (by kernel_rfl) (LEs.cons (AV.le_eq rfl) LEs.nil) ?_)
      refine Gy_q rfl rfl rfl (op_eqlS rfl rfl ?_)
      refine G_q rfl (op_pick_t rfl (av := .xb (decide (y7.1 = y269))) rfl ?_)
      refine qa (.xb (decide (y7.1 = y269))) rfl ?_
      refine G_nil ?_
      refine zad ⟨_, h, ?_⟩
      exact so (lq rfl lt0)
     ·replace h := ite_f h hc
      refine G_n rfl rfl (G_n rfl rfl (G_n rfl rfl (G_n rfl rfl ?_)))
      refine G_q rfl (zak rfl (av := .xb false) rfl ?_)
      refine qa (.xb false) rfl ?_
      refine G_nil ?_
      refine zad ⟨_, h, ?_⟩
      refine Sub.trans (SubU.to SubU.drop) ?_
      exact so (lq rfl lt0)
    ·refine k_ret ?_
     obtain rfl := Option.some.inj h
     refine ke (pt AF0 2 (.xb x2_j265)) [] rfl ?_ ⟨rfl, rfl⟩
     exact so (lq rfl lt0)
end Go.Proofs.YtjlbdhicabgliaaGreat
/- The functions compute their models, by program. -/
namespace Go.Proofs.YtjlbdhicabgliaaGreat
open Go.RowKit
attribute [local irreducible] AV.exact AV.top AV.row AV.ptr AV.agg AV.tup AV.eptr AV.fn AV.nilq AV.nilqn opA opB opM opR Quiet Loud Reads wpG awp den Sub SubU Pure Fun vecI vecT boxI CellsAll CellsOf OneC LEs LEss
set_option maxRecDepth 100000

end Go.Proofs.YtjlbdhicabgliaaGreat
/- The functions compute their models, by program. -/
namespace Go.Proofs.YtjlbdhicabgliaaGreat
open Go.RowKit
attribute [local irreducible] AV.exact AV.top AV.row AV.ptr AV.agg AV.tup AV.eptr AV.fn AV.nilq AV.nilqn opA opB opM opR Quiet Loud Reads wpG awp den Sub SubU Pure Fun vecI vecT boxI CellsAll CellsOf OneC LEs LEss
set_option maxRecDepth 100000

end Go.Proofs.YtjlbdhicabgliaaGreat
/- The functions compute their models, by program. -/
namespace Go.Proofs.YtjlbdhicabgliaaGreat
open Go.RowKit
attribute [local irreducible] AV.exact AV.top AV.row AV.ptr AV.agg AV.tup AV.eptr AV.fn AV.nilq AV.nilqn opA opB opM opR Quiet Loud Reads wpG awp den Sub SubU Pure Fun vecI vecT boxI CellsAll CellsOf OneC LEs LEss
set_option maxRecDepth 100000

end Go.Proofs.YtjlbdhicabgliaaGreat
