/- The functions compute their models, by program. -/
import Derived.Test.YtpfdeahcjlfijaaGreatQB6
namespace Go.Proofs.YtpfdeahcjlfijaaGreat
open Go.RowKit
attribute [local irreducible] AV.exact AV.top AV.row AV.ptr AV.agg AV.tup AV.eptr AV.fn AV.nilq AV.nilqn opA opB opM opR Quiet Loud Reads wpG awp den Sub SubU Pure Fun vecI vecT boxI CellsAll CellsOf OneC LEs LEss
set_option maxRecDepth 100000

set_option maxHeartbeats 4000000 in
theorem m_ref11_formed_F_ok (self_ref11_formed : (List (Int × Int × Int)) → Int → Int → Option Bool) (hself_ref11_formed : ∀ (a0 : List (Int × Int × Int)) (a1 : Int) (a2 : Int) (r : Bool), self_ref11_formed a0 a1 a2 = some r → Pure Tryz.prog 68 [(.row 3 zae a0), (.exact (.int .i64 a1)), (.exact (.int .i64 a2))] (.exact (.bool r))) (a0 : List (Int × Int × Int)) (a1 : Int) (a2 : Int) (r : Bool) (h : m_ref11_formed_F self_ref11_formed a0 a1 a2 = some r) : Pure Tryz.prog 68 [(.row 3 zae a0), (.exact (.int .i64 a1)), (.exact (.int .i64 a2))] (.exact (.bool r)) := by
 unfold m_ref11_formed_F at h
 refine Pure.ofFun (fun_of_awp Tryz.func68 rfl Tryz.ntmps68 (by simp) rfl (res1 rfl) fun E hE => k_end ?_)
 refine zad (kr ?_)
 refine qa (.xb false) rfl ?_
 refine G_nil (zaa (zad (kr ?_)))
 refine qm (.row 3 zae a0) rfl ?_
 refine qm (.xi a1) rfl ?_
 obtain ⟨n1, h⟩ := need_some h
 refine G_q rfl (zam (by kernel_rfl) rfl rfl n1.1 n1.2 ?_)
 refine G_q rfl (op_loadNp (m := 3) (c' := zae (gi a0 a1)) (by kernel_rfl) rfl rfl rfl ?_)
 refine G_l rfl (op_alloc (c := [.xi ((0, 0, 0).1), .xi ((0, 0, 0).2.1), .xi ((0, 0, 0).2.2)]) rfl (LEs.cons (AV.le_eq rfl) (LEs.cons (AV.le_eq rfl) (LEs.cons (AV.le_eq rfl) LEs.nil))) (fun b2 => ?_))
 refine G_l rfl (op_store_box (c' := [.xi ((gi a0 a1).1), .xi ((gi a0 a1).2.1), .xi ((gi a0 a1).2.2)]) (c3 := [.xi ((gi a0 a1).1), .xi ((gi a0 a1).2.1), .xi ((gi a0 a1).2.2)]) rfl rfl CellsOf.agg (LEs.cons (AV.le_eq rfl) (LEs.cons (AV.le_eq rfl) (LEs.cons (AV.le_eq rfl) LEs.nil))) (oc_c_api_Code _) (by kernel_rfl) (Nat.le_of_ble_eq_true rfl) rfl ?_)
 refine G_nil (zaa (zad (kr ?_)))
 refine G_q rfl (op_fieldAddr (o := 1) (by kernel_rfl) rfl ?_)
 refine G_r rfl (op_load_box1 (a := .xi ((gi a0 a1).2.1)) (by kernel_rfl) rfl rfl ?_)
 refine G_q rfl (op_eql rfl rfl ?_)
 refine qa (.xb (decide (((gi a0 a1).2.1) = 0))) rfl ?_
 refine G_nil (zaa ?_)
 refine k_join1_0 h (fun (x8_j3 : Bool) => (pt (pt (pt (pt (pt AF0 0 (.row 3 zae a0)) 1 (.xi a1)) 2 (.xi a2)) 7 (pA b2 0)) 8 (.xb x8_j3))) (fun (x8_j3 : Bool) => [boxI 29 b2 [.xi ((gi a0 a1).1), .xi ((gi a0 a1).2.1), .xi ((gi a0 a1).2.2)]]) (fun k3 h => ?_) (fun x8_j3 h => ?_)
 ·refine zad (kr ?_)
  refine G_q rfl (op_fieldAddr (o := 0) (by kernel_rfl) rfl ?_)
  refine G_r rfl (op_load_box1 (a := .xi ((gi a0 a1).1)) (by kernel_rfl) rfl rfl ?_)
  refine G_nil (zaa (k_block ?_))
  refine k_join1_0 h (fun (x20_j6 : Bool) => (pt (pt (pt (pt (pt (pt (pt AF0 0 (.row 3 zae a0)) 1 (.xi a1)) 2 (.xi a2)) 7 (pA b2 0)) 8 (.xb (decide (((gi a0 a1).2.1) = 0)))) 19 (.xi ((gi a0 a1).1))) 20 (.xb x20_j6))) (fun (x20_j6 : Bool) => [boxI 29 b2 [.xi ((gi a0 a1).1), .xi ((gi a0 a1).2.1), .xi ((gi a0 a1).2.2)]]) (fun k6 h => ?_) (fun x20_j6 h => ?_)
  ·refine zad (kr ?_)
   refine G_q rfl (op_eql rfl rfl ?_)
   refine qa (.xb (decide (((gi a0 a1).1) = 30))) rfl ?_
   refine G_nil (zaa ?_)
   refine kd (p := ((gi a0 a1).1) = 30) rfl h (fun hc h => ?_) (fun hc h => ?_)
   ·refine k_skip ?_
    refine zac ⟨_, h, ?_⟩
    exact so (l4 rfl rfl rfl rfl (lq rfl (lq rfl (lq rfl lt0))))
   ·refine kr ?_
    refine G_q rfl (op_eql rfl rfl ?_)
    refine qa (.xb (decide (((gi a0 a1).1) = 31))) rfl ?_
    refine G_nil ?_
    refine zac ⟨_, h, ?_⟩
    exact so (l4 rfl rfl rfl rfl (lq rfl (lq rfl (lq rfl lt0))))
  ·refine kb (p := x20_j6) rfl h (fun hc h => ?_) (fun hc h => ?_)
   ·refine kr ?_
    refine qm (.xb (decide (((gi a0 a1).2.1) = 0))) rfl ?_
    refine qm (.xb (decide (((gi a0 a1).2.1) = 0))) rfl ?_
    refine G_split (p := ((gi a0 a1).2.1) = 0) 24 rfl (fun hc => ?_) (fun hc => ?_)
    ·replace h := ite_t h hc
     refine Gy_q rfl rfl rfl (op_fieldAddr (o := 2) (by kernel_rfl) rfl ?_)
     refine Gy_r rfl rfl rfl (op_load_box1 (a := .xi ((gi a0 a1).2.2)) (by kernel_rfl) rfl rfl ?_)
     refine Gy_q rfl rfl rfl (op_eql rfl rfl ?_)
     refine G_q rfl (zak rfl (av := .xb (decide (((gi a0 a1).2.2) = 0))) rfl ?_)
     refine qa (.xb (decide (((gi a0 a1).2.2) = 0))) rfl ?_
     refine G_nil (kB_normal ?_)
     refine zac ⟨_, h, ?_⟩
     exact so (l4 rfl rfl rfl rfl (lq rfl lt0))
    ·replace h := ite_f h hc
     refine G_n rfl rfl (G_n rfl rfl (G_n rfl rfl ?_))
     refine G_q rfl (zah rfl (av := .xb false) rfl ?_)
     refine qa (.xb false) rfl ?_
     refine G_nil (kB_normal ?_)
     refine zac ⟨_, h, ?_⟩
     exact so (l4 rfl rfl rfl rfl (lq rfl lt0))
   ·refine zad (kr ?_)
    refine G_q rfl (op_eql rfl rfl ?_)
    refine qa (.xb (decide (((gi a0 a1).1) = 32))) rfl ?_
    refine G_nil (zaa ?_)
    refine kd (p := ((gi a0 a1).1) = 32) rfl h (fun hc h => ?_) (fun hc h => ?_)
    ·refine kr ?_
     refine G_q rfl (op_fieldAddr (o := 2) (by kernel_rfl) rfl ?_)
     refine G_r rfl (op_load_box1 (a := .xi ((gi a0 a1).2.2)) (by kernel_rfl) rfl rfl ?_)
     refine G_q rfl (op_eql rfl rfl ?_)
     refine qa (.xb (decide (((gi a0 a1).2.2) = 0))) rfl ?_
     refine G_nil (kB_normal ?_)
     refine zac ⟨_, h, ?_⟩
     exact so (l4 rfl rfl rfl rfl (lq rfl lt0))
    ·refine zad (kr ?_)
     refine G_q rfl (op_eql rfl rfl ?_)
     refine qa (.xb (decide (((gi a0 a1).1) = 33))) rfl ?_
     refine G_nil (zaa ?_)
     refine kd (p := ((gi a0 a1).1) = 33) rfl h (fun hc h => ?_) (fun hc h => ?_)
     ·refine kr ?_
      refine G_q rfl (op_fieldAddr (o := 2) (by kernel_rfl) rfl ?_)
      refine G_r rfl (op_load_box1 (a := .xi ((gi a0 a1).2.2)) (by kernel_rfl) rfl rfl ?_)
      refine G_q rfl (op_eql rfl rfl ?_)
      refine qm (.xb (decide (((gi a0 a1).2.2) = 0))) rfl ?_
      refine G_split (p := ((gi a0 a1).2.2) = 0) 39 rfl (fun hc => ?_) (fun hc => ?_)
      ·replace h := ite_t h hc
       refine Gy_q rfl rfl rfl (op_fieldAddr (o := 1) (by kernel_rfl) rfl ?_)
       refine Gy_r rfl rfl rfl (op_load_box1 (a := .xi ((gi a0 a1).2.1)) (by kernel_rfl) rfl rfl ?_)
       refine Gy_q rfl rfl rfl (op_eql rfl rfl ?_)
       refine Gy_q rfl rfl rfl (zaf (av := .xb (decide (((gi a0 a1).2.1) = 0))) rfl ?_)
       refine G_split (p := ((gi a0 a1).2.1) = 0) 43 rfl (fun hc => ?_) (fun hc => ?_)
       ·replace h := ite_t h hc
        refine G_n rfl rfl (G_n rfl rfl (G_n rfl rfl ?_))
        refine Gy_q rfl rfl rfl (zak rfl (av := .xb true) rfl ?_)
        refine G_q rfl (zak rfl (av := .xb true) rfl ?_)
        refine qa (.xb true) rfl ?_
        refine G_nil (kB_normal ?_)
        refine zac ⟨_, h, ?_⟩
        exact so (l4 rfl rfl rfl rfl (lq rfl lt0))
       ·replace h := ite_f h hc
        refine Gy_q rfl rfl rfl (op_fieldAddr (o := 1) (by kernel_rfl) rfl ?_)
        refine Gy_r rfl rfl rfl (op_load_box1 (a := .xi ((gi a0 a1).2.1)) (by kernel_rfl) rfl rfl ?_)
        refine Gy_q rfl rfl rfl (op_eql rfl rfl ?_)
        refine Gy_q rfl rfl rfl (zah rfl (av := .xb (decide (((gi a0 a1).2.1) = 1))) rfl ?_)
        refine G_q rfl (zak rfl (av := .xb (decide (((gi a0 a1).2.1) = 1))) rfl ?_)
        refine qa (.xb (decide (((gi a0 a1).2.1) = 1))) rfl ?_
        refine G_nil (kB_normal ?_)
        refine zac ⟨_, h, ?_⟩
        exact so (l4 rfl rfl rfl rfl (lq rfl lt0))
      ·replace h := ite_f h hc
       refine G_n rfl rfl (G_n rfl rfl (G_n rfl rfl (G_n rfl rfl ?_)))
       refine G_u rfl rfl ?_
       refine G_u rfl rfl ?_
       refine G_u rfl rfl ?_
       refine G_n rfl rfl ?_
       refine G_q rfl (zah rfl (av := .xb false) rfl ?_)
       refine qa (.xb false) rfl ?_
       refine G_nil (kB_normal ?_)
       refine zac ⟨_, h, ?_⟩
       exact so (l4 rfl rfl rfl rfl (lq rfl lt0))
     ·refine zad (kr ?_)
      refine G_q rfl (op_eql rfl rfl ?_)
      refine qa (.xb (decide (((gi a0 a1).1) = 34))) rfl ?_
      refine G_nil (zaa ?_)
      refine kd (p := ((gi a0 a1).1) = 34) rfl h (fun hc h => ?_) (fun hc h => ?_)
      ·refine kr ?_
       refine qm (.xb (decide (((gi a0 a1).2.1) = 0))) rfl ?_
       refine qm (.xb (decide (((gi a0 a1).2.1) = 0))) rfl ?_
       refine G_split (p := ((gi a0 a1).2.1) = 0) 52 rfl (fun hc => ?_) (fun hc => ?_)
       ·replace h := ite_t h hc
        refine Gy_q rfl rfl rfl (op_fieldAddr (o := 2) (by kernel_rfl) rfl ?_)
        refine Gy_r rfl rfl rfl (op_load_box1 (a := .xi ((gi a0 a1).2.2)) (by kernel_rfl) rfl rfl ?_)
        refine Gy_q rfl rfl rfl (op_geq rfl rfl ?_)
        refine G_q rfl (zak rfl (av := .xb (decide (2 ≤ ((gi a0 a1).2.2)))) rfl ?_)
        refine qm (.xb (decide (2 ≤ ((gi a0 a1).2.2)))) rfl ?_
        refine G_split (p := 2 ≤ ((gi a0 a1).2.2)) 57 rfl (fun hc => ?_) (fun hc => ?_)
        ·replace h := ite_t h hc
         refine Gy_q rfl rfl rfl (op_fieldAddr (o := 2) (by kernel_rfl) rfl ?_)
         refine Gy_r rfl rfl rfl (op_load_box1 (a := .xi ((gi a0 a1).2.2)) (by kernel_rfl) rfl rfl ?_)
         refine Gy_q rfl rfl rfl (op_leq rfl rfl ?_)
         refine G_q rfl (zak rfl (av := .xb (decide (((gi a0 a1).2.2) ≤ 8))) rfl ?_)
         refine qa (.xb (decide (((gi a0 a1).2.2) ≤ 8))) rfl ?_
         refine G_nil (kB_normal ?_)
         refine zac ⟨_, h, ?_⟩
         exact so (l4 rfl rfl rfl rfl (lq rfl lt0))
        ·replace h := ite_f h hc
         refine G_n rfl rfl (G_n rfl rfl (G_n rfl rfl ?_))
         refine G_q rfl (zah rfl (av := .xb false) rfl ?_)
         refine qa (.xb false) rfl ?_
         refine G_nil (kB_normal ?_)
         refine zac ⟨_, h, ?_⟩
         exact so (l4 rfl rfl rfl rfl (lq rfl lt0))
       ·replace h := ite_f h hc
        refine G_n rfl rfl (G_n rfl rfl (G_n rfl rfl ?_))
        refine G_q rfl (zah rfl (av := .xb false) rfl ?_)
        refine qm (.xb false) rfl ?_
        refine G_n rfl rfl (G_n rfl rfl (G_n rfl rfl ?_))
        refine G_q rfl (zah rfl (av := .xb false) rfl ?_)
        refine qa (.xb false) rfl ?_
        refine G_nil (kB_normal ?_)
        refine zac ⟨_, h, ?_⟩
        exact so (l4 rfl rfl rfl rfl (lq rfl lt0))
      ·refine zad (kr ?_)
       refine G_q rfl (op_eql rfl rfl ?_)
       refine qa (.xb (decide (((gi a0 a1).1) = 35))) rfl ?_
       refine G_nil (zaa ?_)
       refine kd (p := ((gi a0 a1).1) = 35) rfl h (fun hc h => ?_) (fun hc h => ?_)
       ·refine k_skip (kB_normal ?_)
        refine zac ⟨_, h, ?_⟩
        exact so (l4 rfl rfl rfl rfl (lq rfl lt0))
       ·refine zad (kr ?_)
        refine G_q rfl (op_eql rfl rfl ?_)
        refine qa (.xb (decide (((gi a0 a1).1) = 36))) rfl ?_
        refine G_nil (zaa ?_)
        refine kd (p := ((gi a0 a1).1) = 36) rfl h (fun hc h => ?_) (fun hc h => ?_)
        ·refine kr ?_
         refine G_q rfl (op_fieldAddr (o := 1) (by kernel_rfl) rfl ?_)
         refine G_r rfl (op_load_box1 (a := .xi ((gi a0 a1).2.1)) (by kernel_rfl) rfl rfl ?_)
         refine G_q rfl (op_geq rfl rfl ?_)
         refine qm (.xb (decide (0 ≤ ((gi a0 a1).2.1)))) rfl ?_
         refine G_split (p := 0 ≤ ((gi a0 a1).2.1)) 69 rfl (fun hc => ?_) (fun hc => ?_)
         ·replace h := ite_t h hc
          refine Gy_q rfl rfl rfl (op_fieldAddr (o := 1) (by kernel_rfl) rfl ?_)
          refine Gy_r rfl rfl rfl (op_load_box1 (a := .xi ((gi a0 a1).2.1)) (by kernel_rfl) rfl rfl ?_)
          refine Gy_q rfl rfl rfl (op_fieldAddr (o := 2) (by kernel_rfl) rfl ?_)
          refine Gy_r rfl rfl rfl (op_load_box1 (a := .xi ((gi a0 a1).2.2)) (by kernel_rfl) rfl rfl ?_)
          refine Gy_q rfl rfl rfl (op_lss rfl rfl ?_)
          refine G_q rfl (zak rfl (av := .xb (decide (((gi a0 a1).2.1) < ((gi a0 a1).2.2)))) rfl ?_)
          refine qa (.xb (decide (((gi a0 a1).2.1) < ((gi a0 a1).2.2)))) rfl ?_
          refine G_nil (kB_normal ?_)
          refine zac ⟨_, h, ?_⟩
          exact so (l4 rfl rfl rfl rfl (lq rfl lt0))
         ·replace h := ite_f h hc
          refine G_n rfl rfl (G_n rfl rfl (G_n rfl rfl (G_n rfl rfl (G_n rfl rfl ?_))))
          refine G_q rfl (zah rfl (av := .xb false) rfl ?_)
          refine qa (.xb false) rfl ?_
          refine G_nil (kB_normal ?_)
          refine zac ⟨_, h, ?_⟩
          exact so (l4 rfl rfl rfl rfl (lq rfl lt0))
        ·refine zad (kr ?_)
         refine G_q rfl (op_eql rfl rfl ?_)
         refine qa (.xb (decide (((gi a0 a1).1) = 37))) rfl ?_
         refine G_nil (zaa ?_)
         refine kd (p := ((gi a0 a1).1) = 37) rfl h (fun hc h => ?_) (fun hc h => ?_)
         ·refine kr ?_
          refine qm (.xb (decide (((gi a0 a1).2.1) = 0))) rfl ?_
          refine qm (.xb (decide (((gi a0 a1).2.1) = 0))) rfl ?_
          refine G_split (p := ((gi a0 a1).2.1) = 0) 79 rfl (fun hc => ?_) (fun hc => ?_)
          ·replace h := ite_t h hc
           refine Gy_q rfl rfl rfl (op_fieldAddr (o := 2) (by kernel_rfl) rfl ?_)
           refine Gy_r rfl rfl rfl (op_load_box1 (a := .xi ((gi a0 a1).2.2)) (by kernel_rfl) rfl rfl ?_)
           refine Gy_q rfl rfl rfl (op_leq rfl rfl ?_)
           refine G_q rfl (zak rfl (av := .xb (decide (((gi a0 a1).2.2) ≤ 1))) rfl ?_)
           refine qa (.xb (decide (((gi a0 a1).2.2) ≤ 1))) rfl ?_
           refine G_nil (kB_normal ?_)
           refine zac ⟨_, h, ?_⟩
           exact so (l4 rfl rfl rfl rfl (lq rfl lt0))
          ·replace h := ite_f h hc
           refine G_n rfl rfl (G_n rfl rfl (G_n rfl rfl ?_))
           refine G_q rfl (zah rfl (av := .xb false) rfl ?_)
           refine qa (.xb false) rfl ?_
           refine G_nil (kB_normal ?_)
           refine zac ⟨_, h, ?_⟩
           exact so (l4 rfl rfl rfl rfl (lq rfl lt0))
         ·refine zad (kr ?_)
          refine G_q rfl (op_eql rfl rfl ?_)
          refine qa (.xb (decide (((gi a0 a1).1) = 38))) rfl ?_
          refine G_nil (zaa ?_)
          refine kd (p := ((gi a0 a1).1) = 38) rfl h (fun hc h => ?_) (fun hc h => ?_)
          ·refine kr ?_
           refine qa (.xb true) rfl ?_
           refine G_nil (kB_normal ?_)
           refine zac ⟨_, h, ?_⟩
           exact so (l4 rfl rfl rfl rfl (lq rfl lt0))
          ·refine k_join1_0 h (fun (x86_j7 : Bool) => (pt (pt (pt (pt (pt (pt AF0 0 (.row 3 zae a0)) 1 (.xi a1)) 2 (.xi a2)) 7 (pA b2 0)) 8 (.xb (decide (((gi a0 a1).2.1) = 0)))) 86 (.xb x86_j7))) (fun (x86_j7 : Bool) => [boxI 29 b2 [.xi ((gi a0 a1).1), .xi ((gi a0 a1).2.1), .xi ((gi a0 a1).2.2)]]) (fun k7 h => ?_) (fun x86_j7 h => ?_)
           ·refine zad (kr ?_)
            refine G_q rfl (op_eql rfl rfl ?_)
            refine qa (.xb (decide (((gi a0 a1).1) = 39))) rfl ?_
            refine G_nil (zaa ?_)
            refine kd (p := ((gi a0 a1).1) = 39) rfl h (fun hc h => ?_) (fun hc h => ?_)
            ·refine k_skip ?_
             refine zac ⟨_, h, ?_⟩
             exact so (l4 rfl rfl rfl rfl (lq rfl (lq rfl lt0)))
            ·refine kr ?_
             refine G_q rfl (op_eql rfl rfl ?_)
             refine qa (.xb (decide (((gi a0 a1).1) = 40))) rfl ?_
             refine G_nil ?_
             refine zac ⟨_, h, ?_⟩
             exact so (l4 rfl rfl rfl rfl (lq rfl (lq rfl lt0)))
           ·refine kb (p := x86_j7) rfl h (fun hc h => ?_) (fun hc h => ?_)
            ·refine kr ?_
             refine qm (.xb (decide (((gi a0 a1).2.1) = 0))) rfl ?_
             refine qm (.xb (decide (((gi a0 a1).2.1) = 0))) rfl ?_
             refine G_split (p := ((gi a0 a1).2.1) = 0) 90 rfl (fun hc => ?_) (fun hc => ?_)
             ·replace h := ite_t h hc
              refine Gy_q rfl rfl rfl (op_fieldAddr (o := 2) (by kernel_rfl) rfl ?_)
              refine Gy_r rfl rfl rfl (op_load_box1 (a := .xi ((gi a0 a1).2.2)) (by kernel_rfl) rfl rfl ?_)
              refine Gy_q rfl rfl rfl (op_eql rfl rfl ?_)
              refine G_q rfl (zak rfl (av := .xb (decide (((gi a0 a1).2.2) = 2))) rfl ?_)
              refine qa (.xb (decide (((gi a0 a1).2.2) = 2))) rfl ?_
              refine G_nil (kB_normal ?_)
              refine zac ⟨_, h, ?_⟩
              exact so (l4 rfl rfl rfl rfl (lq rfl lt0))
             ·replace h := ite_f h hc
              refine G_n rfl rfl (G_n rfl rfl (G_n rfl rfl ?_))
              refine G_q rfl (zah rfl (av := .xb false) rfl ?_)
              refine qa (.xb false) rfl ?_
              refine G_nil (kB_normal ?_)
              refine zac ⟨_, h, ?_⟩
              exact so (l4 rfl rfl rfl rfl (lq rfl lt0))
            ·refine zad (kr ?_)
             refine qa (.xb false) rfl ?_
             refine G_nil (zaa (k_ret (kB_ret (kI_ret ?_))))
             obtain rfl := Option.some.inj h
             refine ke (pt AF0 6 (.xb false)) [] rfl ?_ ⟨rfl, rfl⟩
             refine Sub.trans (SubU.to SubU.drop) ?_
             exact so (lq rfl lt0)
 ·refine zad ?_
  refine k_join1_0 h (fun (x100_j10 : Bool) => (pt (pt (pt (pt (pt AF0 0 (.row 3 zae a0)) 1 (.xi a1)) 2 (.xi a2)) 7 (pA b2 0)) 100 (.xb x100_j10))) (fun (x100_j10 : Bool) => [boxI 29 b2 [.xi ((gi a0 a1).1), .xi ((gi a0 a1).2.1), .xi ((gi a0 a1).2.2)]]) (fun k10 h => ?_) (fun x100_j10 h => ?_)
  ·refine kr ?_
   refine qm (.xb x8_j3) rfl ?_
   refine G_q rfl (op_not rfl ?_)
   refine qm (.xb (!x8_j3)) rfl ?_
   refine G_splitB (c := !x8_j3) 97 rfl (fun hc => ?_) (fun hc => ?_)
   ·replace h := ite_t h hc
    refine G_n rfl rfl (G_n rfl rfl ?_)
    refine G_q rfl (zak rfl (av := .xb true) rfl ?_)
    refine G_nil ?_
    refine zac ⟨_, h, ?_⟩
    exact so (l4 rfl rfl rfl rfl (lq rfl lt0))
   ·replace h := ite_f h hc
    refine Gy_q rfl rfl rfl (zaf (av := .xi a2) rfl ?_)
    refine Gy_q rfl rfl rfl (op_gtr rfl rfl ?_)
    refine G_q rfl (zah rfl (av := .xb (decide (64 < a2))) rfl ?_)
    refine G_nil ?_
    refine zac ⟨_, h, ?_⟩
    exact so (l4 rfl rfl rfl rfl (lq rfl lt0))
  ·refine kb (p := x100_j10) rfl h (fun hc h => ?_) (fun hc h => ?_)
   ·refine zad (kr ?_)
    refine qa (.xb false) rfl ?_
    refine G_nil (zaa (k_ret (kC_ret ?_)))
    obtain rfl := Option.some.inj h
    refine ke (pt AF0 6 (.xb false)) [] rfl ?_ ⟨rfl, rfl⟩
    refine Sub.trans (SubU.to SubU.drop) ?_
    exact so (lq rfl lt0)
   ·refine k_skip (zaa (zad (kr ?_)))
    refine qm (.row 3 zae a0) rfl ?_
    refine qm (.xi a1) rfl ?_
    obtain ⟨y11, hy11, h⟩ := bnd1_some h
    refine G_q rfl (zai (m_ref11_kids_ok _ _ _ hy11) Tryz.func69 (by kernel_rfl) (LEs.cons (AV.le_eq rfl) (LEs.cons (AV.le_eq rfl) LEs.nil)) ?_)
    refine qa (.row 1 c_int y11) rfl ?_
    refine G_nil (zaa ?_)
    refine k_join0_0 h (AF0) ([]) (fun k12 h => ?_) (fun  h => ?_)
    ·refine zad (kr ?_)
     refine qa (.xi 0) rfl ?_
     refine G_nil (zaa (k_block ?_))
     refine k_loop1_0 (m_ref11_formed_L2 self_ref11_formed a0 a1 a2 y11 k12) (m_ref11_formed_B2 self_ref11_formed a0 a1 a2 y11 k12) (fun _ => rfl) (fun m _ => rfl) h (fun (x10_l2 : Int) => (pt (pt (pt (pt (pt AF0 0 (.row 3 zae a0)) 2 (.xi a2)) 7 (pA b2 0)) 9 (.row 1 c_int y11)) 10 (.xi x10_l2))) (fun (x10_l2 : Int) => [boxI 29 b2 [.xi ((gi a0 a1).1), .xi ((gi a0 a1).2.1), .xi ((gi a0 a1).2.2)]]) ?_ (fun rec2 x10_l2 h => ?_)
     ·exact so (l4 rfl rfl rfl rfl (lq rfl lt0))
     ·unfold m_ref11_formed_B2 at h
      refine zad (zad (kr ?_))
      refine qm (.xi x10_l2) rfl ?_
      refine qm (.row 1 c_int y11) rfl ?_
      refine G_q rfl (op_len_row (by kernel_rfl) rfl ?_)
      refine G_q rfl (op_lss rfl rfl ?_)
      refine G_nil (zaa ?_)
      refine kd (p := x10_l2 < (List.length y11 : Int)) rfl h (fun hc h => ?_) (fun hc h => ?_)
      ·refine k_skip (zaa (zad (k_block ?_)))
       refine k_join1_0 h (fun (x151_j295 : Bool) => (pt (pt (pt (pt (pt (pt AF0 0 (.row 3 zae a0)) 2 (.xi a2)) 7 (pA b2 0)) 9 (.row 1 c_int y11)) 10 (.xi x10_l2)) 151 (.xb x151_j295))) (fun (x151_j295 : Bool) => [boxI 29 b2 [.xi ((gi a0 a1).1), .xi ((gi a0 a1).2.1), .xi ((gi a0 a1).2.2)]]) (fun k295 h => ?_) (fun x151_j295 h => ?_)
       ·refine kr ?_
        refine G_q rfl (op_fieldAddr (o := 0) (by kernel_rfl) rfl ?_)
        refine G_r rfl (op_load_box1 (a := .xi ((gi a0 a1).1)) (by kernel_rfl) rfl rfl ?_)
        refine G_q rfl (op_eql rfl rfl ?_)
        refine qm (.xb (decide (((gi a0 a1).1) = 36))) rfl ?_
        refine G_split (p := ((gi a0 a1).1) = 36) 113 rfl (fun hc => ?_) (fun hc => ?_)
        ·replace h := ite_t h hc
         refine Gy_q rfl rfl rfl (zaf (av := .xi x10_l2) rfl ?_)
         refine Gy_q rfl rfl rfl (op_fieldAddr (o := 1) (by kernel_rfl) rfl ?_)
         refine Gy_r rfl rfl rfl (op_load_box1 (a := .xi ((gi a0 a1).2.1)) (by kernel_rfl) rfl rfl ?_)
         refine Gy_q rfl rfl rfl (op_eql rfl rfl ?_)
         refine G_q rfl (zak rfl (av := .xb (decide (x10_l2 = ((gi a0 a1).2.1)))) rfl ?_)
         refine qm (.xb (decide (x10_l2 = ((gi a0 a1).2.1)))) rfl ?_
         refine G_split (p := x10_l2 = ((gi a0 a1).2.1)) 119 rfl (fun hc => ?_) (fun hc => ?_)
         ·replace h := ite_t h hc
          refine Gy_q rfl rfl rfl (zaf (av := .row 3 zae a0) rfl ?_)
          refine Gy_q rfl rfl rfl (zaf (av := .row 1 c_int y11) rfl ?_)
          refine Gy_q rfl rfl rfl (zaf (av := .xi x10_l2) rfl ?_)
          obtain ⟨n308, h⟩ := need_some h
          refine Gy_q rfl rfl rfl (zam (by kernel_rfl) rfl rfl n308.1 n308.2 ?_)
          refine Gy_q rfl rfl rfl (zal (a := .xi (gi y11 x10_l2)) (by kernel_rfl) rfl rfl ?_)
          obtain ⟨n309, h⟩ := need_some h
          refine Gy_q rfl rfl rfl (zam (by kernel_rfl) rfl rfl n309.1 n309.2 ?_)
          refine Gy_q rfl rfl rfl (zaj (o := 0) (c' := (List.drop 0 (zae (gi a0 (gi y11 x10_l2))))) (by kernel_rfl) rfl rfl ?_)
          refine Gy_q rfl rfl rfl (zal (a := .xi ((gi a0 (gi y11 x10_l2)).1)) (by kernel_rfl) rfl rfl ?_)
          refine Gy_q rfl rfl rfl (op_neq rfl rfl ?_)
          refine G_q rfl (zak rfl (av := .xb (decide (¬ ((gi a0 (gi y11 x10_l2)).1) = 30))) rfl ?_)
          refine qm (.xb (decide (¬ ((gi a0 (gi y11 x10_l2)).1) = 30))) rfl ?_
          refine G_split (p := ¬ ((gi a0 (gi y11 x10_l2)).1) = 30) 130 rfl (fun hc => ?_) (fun hc => ?_)
          ·replace h := ite_t h hc
           refine Gy_q rfl rfl rfl (zaf (av := .row 3 zae a0) rfl ?_)
           refine Gy_q rfl rfl rfl (zaf (av := .row 1 c_int y11) rfl ?_)
           refine Gy_q rfl rfl rfl (zaf (av := .xi x10_l2) rfl ?_)
           obtain ⟨n310, h⟩ := need_some h
           refine Gy_q rfl rfl rfl (zam (by kernel_rfl) rfl rfl n310.1 n310.2 ?_)
           refine Gy_q rfl rfl rfl (zal (a := .xi (gi y11 x10_l2)) (by kernel_rfl) rfl rfl ?_)
           obtain ⟨n311, h⟩ := need_some h
           refine Gy_q rfl rfl rfl (zam (by kernel_rfl) rfl rfl n311.1 n311.2 ?_)
           refine Gy_q rfl rfl rfl (zaj (o := 0) (c' := (List.drop 0 (zae (gi a0 (gi y11 x10_l2))))) (by kernel_rfl) rfl rfl ?_)
           refine Gy_q rfl rfl rfl (zal (a := .xi ((gi a0 (gi y11 x10_l2)).1)) (by kernel_rfl) rfl rfl ?_)
           refine Gy_q rfl rfl rfl (op_neq rfl rfl ?_)
           refine G_q rfl (zak rfl (av := .xb (decide (¬ ((gi a0 (gi y11 x10_l2)).1) = 31))) rfl ?_)
           refine qm (.xb (decide (¬ ((gi a0 (gi y11 x10_l2)).1) = 31))) rfl ?_
           refine G_split (p := ¬ ((gi a0 (gi y11 x10_l2)).1) = 31) 141 rfl (fun hc => ?_) (fun hc => ?_)
           ·replace h := ite_t h hc
            refine G_n rfl rfl (G_n rfl rfl (G_n rfl rfl (G_n rfl rfl (G_n rfl rfl (G_n rfl rfl (G_n rfl rfl (G_n rfl rfl (G_n rfl rfl ?_))))))))
            refine G_q rfl (zak rfl (av := .xb true) rfl ?_)
            refine G_nil ?_
            refine zac ⟨_, h, ?_⟩
            exact so (l4 rfl rfl rfl rfl (lq rfl (lq rfl lt0)))
           ·replace h := ite_f h hc
            refine Gy_q rfl rfl rfl (zaf (av := .row 3 zae a0) rfl ?_)
            refine Gy_q rfl rfl rfl (zaf (av := .row 1 c_int y11) rfl ?_)
            refine Gy_q rfl rfl rfl (zaf (av := .xi x10_l2) rfl ?_)
            obtain ⟨n312, h⟩ := need_some h
            refine Gy_q rfl rfl rfl (zam (by kernel_rfl) rfl rfl n312.1 n312.2 ?_)
            refine Gy_q rfl rfl rfl (zal (a := .xi (gi y11 x10_l2)) (by kernel_rfl) rfl rfl ?_)
            refine Gy_q rfl rfl rfl (zaf (av := .xi a2) rfl ?_)
            refine Gy_q rfl rfl rfl (op_add rfl rfl rfl ?_)
            obtain ⟨y313, hy313, h⟩ := bnd1_some h
            refine Gy_q rfl rfl rfl (zai (hself_ref11_formed _ _ _ _ hy313) Tryz.func68 (by kernel_rfl) (LEs.cons (AV.le_eq rfl) (LEs.cons (AV.le_eq rfl) (LEs.cons (AV.le_eq rfl) LEs.nil))) ?_)
            refine Gy_q rfl rfl rfl (op_not rfl ?_)
            refine G_q rfl (zah rfl (av := .xb (!y313)) rfl ?_)
            refine G_nil ?_
            refine zac ⟨_, h, ?_⟩
            exact so (l4 rfl rfl rfl rfl (lq rfl (lq rfl lt0)))
          ·replace h := ite_f h hc
           refine G_n rfl rfl (G_n rfl rfl (G_n rfl rfl (G_n rfl rfl (G_n rfl rfl (G_n rfl rfl (G_n rfl rfl (G_n rfl rfl (G_n rfl rfl ?_))))))))
           refine G_q rfl (zah rfl (av := .xb false) rfl ?_)
           refine qm (.xb false) rfl ?_
           refine Gy_q rfl rfl rfl (zaf (av := .row 3 zae a0) rfl ?_)
           refine Gy_q rfl rfl rfl (zaf (av := .row 1 c_int y11) rfl ?_)
           refine Gy_q rfl rfl rfl (zaf (av := .xi x10_l2) rfl ?_)
           obtain ⟨n314, h⟩ := need_some h
           refine Gy_q rfl rfl rfl (zam (by kernel_rfl) rfl rfl n314.1 n314.2 ?_)
           refine Gy_q rfl rfl rfl (zal (a := .xi (gi y11 x10_l2)) (by kernel_rfl) rfl rfl ?_)
           refine Gy_q rfl rfl rfl (zaf (av := .xi a2) rfl ?_)
           refine Gy_q rfl rfl rfl (op_add rfl rfl rfl ?_)
           obtain ⟨y315, hy315, h⟩ := bnd1_some h
           refine Gy_q rfl rfl rfl (zai (hself_ref11_formed _ _ _ _ hy315) Tryz.func68 (by kernel_rfl) (LEs.cons (AV.le_eq rfl) (LEs.cons (AV.le_eq rfl) (LEs.cons (AV.le_eq rfl) LEs.nil))) ?_)
           refine Gy_q rfl rfl rfl (op_not rfl ?_)
           refine G_q rfl (zah rfl (av := .xb (!y315)) rfl ?_)
           refine G_nil ?_
           refine zac ⟨_, h, ?_⟩
           exact so (l4 rfl rfl rfl rfl (lq rfl (lq rfl lt0)))
         ·replace h := ite_f h hc
          refine G_n rfl rfl (G_n rfl rfl (G_n rfl rfl (G_n rfl rfl (G_n rfl rfl (G_n rfl rfl (G_n rfl rfl (G_n rfl rfl (G_n rfl rfl ?_))))))))
          refine G_q rfl (zah rfl (av := .xb false) rfl ?_)
          refine qm (.xb false) rfl ?_
          refine G_n rfl rfl (G_n rfl rfl (G_n rfl rfl (G_n rfl rfl (G_n rfl rfl (G_n rfl rfl (G_n rfl rfl (G_n rfl rfl (G_n rfl rfl ?_))))))))
          refine G_q rfl (zah rfl (av := .xb false) rfl ?_)
          refine qm (.xb false) rfl ?_
          refine Gy_q rfl rfl rfl (zaf (av := .row 3 zae a0) rfl ?_)
          refine Gy_q rfl rfl rfl (zaf (av := .row 1 c_int y11) rfl ?_)
          refine Gy_q rfl rfl rfl (zaf (av := .xi x10_l2) rfl ?_)
          obtain ⟨n316, h⟩ := need_some h
          refine Gy_q rfl rfl rfl (zam (by kernel_rfl) rfl rfl n316.1 n316.2 ?_)
          refine Gy_q rfl rfl rfl (zal (a := .xi (gi y11 x10_l2)) (by kernel_rfl) rfl rfl ?_)
          refine Gy_q rfl rfl rfl (zaf (av := .xi a2) rfl ?_)
          refine Gy_q rfl rfl rfl (op_add rfl rfl rfl ?_)
          obtain ⟨y317, hy317, h⟩ := bnd1_some h
          refine Gy_q rfl rfl rfl (zai (hself_ref11_formed _ _ _ _ hy317) Tryz.func68 (by kernel_rfl) (LEs.cons (AV.le_eq rfl) (LEs.cons (AV.le_eq rfl) (LEs.cons (AV.le_eq rfl) LEs.nil))) ?_)
          refine Gy_q rfl rfl rfl (op_not rfl ?_)
          refine G_q rfl (zah rfl (av := .xb (!y317)) rfl ?_)
          refine G_nil ?_
          refine zac ⟨_, h, ?_⟩
          exact so (l4 rfl rfl rfl rfl (lq rfl (lq rfl lt0)))
        ·replace h := ite_f h hc
         refine G_n rfl rfl (G_n rfl rfl (G_n rfl rfl (G_n rfl rfl ?_)))
         refine G_q rfl (zah rfl (av := .xb false) rfl ?_)
         refine qm (.xb false) rfl ?_
         refine G_n rfl rfl (G_n rfl rfl (G_n rfl rfl (G_n rfl rfl (G_n rfl rfl (G_n rfl rfl (G_n rfl rfl (G_n rfl rfl (G_n rfl rfl ?_))))))))
         refine G_q rfl (zah rfl (av := .xb false) rfl ?_)
         refine qm (.xb false) rfl ?_
         refine G_n rfl rfl (G_n rfl rfl (G_n rfl rfl (G_n rfl rfl (G_n rfl rfl (G_n rfl rfl (G_n rfl rfl (G_n rfl rfl (G_n rfl rfl ?_))))))))
         refine G_q rfl (zah rfl (av := .xb false) rfl ?_)
         refine qm (.xb false) rfl ?_
         refine Gy_q rfl rfl rfl (zaf (av := .row 3 zae a0) rfl ?_)
         refine Gy_q rfl rfl rfl (zaf (av := .row 1 c_int y11) rfl ?_)
         refine Gy_q rfl rfl rfl (zaf (av := .xi x10_l2) rfl ?_)
         obtain ⟨n318, h⟩ := need_some h
         refine Gy_q rfl rfl rfl (zam (by kernel_rfl) rfl rfl n318.1 n318.2 ?_)
         refine Gy_q rfl rfl rfl (zal (a := .xi (gi y11 x10_l2)) (by kernel_rfl) rfl rfl ?_)
         refine Gy_q rfl rfl rfl (zaf (av := .xi a2) rfl ?_)
         refine Gy_q rfl rfl rfl (op_add rfl rfl rfl ?_)
         obtain ⟨y319, hy319, h⟩ := bnd1_some h
         refine Gy_q rfl rfl rfl (zai (hself_ref11_formed _ _ _ _ hy319) Tryz.func68 (by kernel_rfl) (LEs.cons (AV.le_eq rfl) (LEs.cons (AV.le_eq rfl) (LEs.cons (AV.le_eq rfl) LEs.nil))) ?_)
         refine Gy_q rfl rfl rfl (op_not rfl ?_)
         refine G_q rfl (zah rfl (av := .xb (!y319)) rfl ?_)
         refine G_nil ?_
         refine zac ⟨_, h, ?_⟩
         exact so (l4 rfl rfl rfl rfl (lq rfl (lq rfl lt0)))
       ·refine kb (p := x151_j295) rfl h (fun hc h => ?_) (fun hc h => ?_)
        ·refine zad (kr ?_)
         refine qa (.xb false) rfl ?_
         refine G_nil (zaa (k_ret (kB_ret (kC_ret (kI_ret (kB_ret (kI_ret ?_)))))))
         obtain rfl := Option.some.inj h
         refine ke (pt AF0 6 (.xb false)) [] rfl ?_ ⟨rfl, rfl⟩
         refine Sub.trans (SubU.to SubU.drop) ?_
         exact so (lq rfl lt0)
        ·refine k_skip (kB_normal (zaa (kr ?_)))
         refine qm (.xi x10_l2) rfl ?_
         refine G_q rfl (op_add rfl rfl rfl ?_)
         refine qa (.xi (i64 (x10_l2 + 1))) rfl ?_
         refine G_nil ?_
         refine zac ⟨_, h, ?_⟩
         exact so (l4 rfl rfl rfl rfl (lq rfl lt0))
      ·refine k_exit (kC_exit (kI_exit (kB_exit ?_)))
       refine zac ⟨h, ?_⟩
       refine Sub.trans (SubU.to SubU.drop) ?_
       exact Sub.of_le lt0
    ·refine zad (kr ?_)
     refine qa (.xb true) rfl ?_
     refine G_nil (zaa (k_ret ?_))
     obtain rfl := Option.some.inj h
     refine ke (pt AF0 6 (.xb true)) [] rfl ?_ ⟨rfl, rfl⟩
     exact so (lq rfl lt0)
set_option maxHeartbeats 4000000 in
theorem m_ref11_formed_S_ok : ∀ n : Nat, (∀ (a0 : List (Int × Int × Int)) (a1 : Int) (a2 : Int) (r : Bool), m_ref11_formed_S n a0 a1 a2 = some r → Pure Tryz.prog 68 [(.row 3 zae a0), (.exact (.int .i64 a1)), (.exact (.int .i64 a2))] (.exact (.bool r)))
  | 0 => (fun _ _ _ _ h => by have h' : (none : Option _) = some _ := h; cases h')
  | n + 1 => by
    have ih := m_ref11_formed_S_ok n
    exact fun a0 a1 a2 r h => m_ref11_formed_F_ok (m_ref11_formed_S n) ih a0 a1 a2 r h
theorem m_ref11_formed_ok (a0 : List (Int × Int × Int)) (a1 : Int) (a2 : Int) (r : Bool) (h : m_ref11_formed a0 a1 a2 = some r) : Pure Tryz.prog 68 [(.row 3 zae a0), (.exact (.int .i64 a1)), (.exact (.int .i64 a2))] (.exact (.bool r)) := (m_ref11_formed_S_ok FU) a0 a1 a2 r h
set_option maxHeartbeats 4000000 in
theorem m_ref11_Pattern_ok (a0 : List (Int × Int × Int)) (r : Bool) (h : m_ref11_Pattern a0 = some r) : Pure Tryz.prog 39 [(.row 3 zae a0)] (.exact (.bool r)) := by
 unfold m_ref11_Pattern at h
 refine Pure.ofFun (fun_of_awp Tryz.func39 rfl Tryz.ntmps39 (by simp) rfl (res1 rfl) fun E hE => k_end ?_)
 refine zad (kr ?_)
 refine qa (.xb false) rfl ?_
 refine G_nil (zaa ?_)
 refine k_join1_0 h (fun (x2_j1 : Bool) => (pt AF0 2 (.xb x2_j1))) (fun (x2_j1 : Bool) => []) (fun k1 h => ?_) (fun x2_j1 h => ?_)
 ·refine kr ?_
  refine qm (.row 3 zae a0) rfl ?_
  refine G_q rfl (op_len_row (by kernel_rfl) rfl ?_)
  refine G_q rfl (op_gtr rfl rfl ?_)
  refine qm (.xb (decide (0 < (List.length a0 : Int)))) rfl ?_
  refine G_split (p := 0 < (List.length a0 : Int)) 6 rfl (fun hc => ?_) (fun hc => ?_)
  ·replace h := ite_t h hc
   refine Gy_q rfl rfl rfl (zaf (av := .row 3 zae a0) rfl ?_)
   refine Gy_q rfl rfl rfl (op_len_row (by kernel_rfl) rfl ?_)
   refine Gy_q rfl rfl rfl (op_leq rfl rfl ?_)
   refine G_q rfl (zak rfl (av := .xb (decide ((List.length a0 : Int) ≤ 8192))) rfl ?_)
   refine qm (.xb (decide ((List.length a0 : Int) ≤ 8192))) rfl ?_
   refine G_split (p := (List.length a0 : Int) ≤ 8192) 11 rfl (fun hc => ?_) (fun hc => ?_)
   ·replace h := ite_t h hc
    refine Gy_q rfl rfl rfl (zaf (av := .row 3 zae a0) rfl ?_)
    obtain ⟨y4, hy4, h⟩ := bnd1_some h
    refine Gy_q rfl rfl rfl (zai (m_ref11_end_ok _ _ _ hy4) Tryz.func67 (by kernel_rfl) (LEs.cons (AV.le_eq rfl) (LEs.cons (AV.le_eq rfl) LEs.nil)) ?_)
    refine Gy_q rfl rfl rfl (zaf (av := .row 3 zae a0) rfl ?_)
    refine Gy_q rfl rfl rfl (op_len_row (by kernel_rfl) rfl ?_)
    refine Gy_q rfl rfl rfl (op_eql rfl rfl ?_)
    refine G_q rfl (zak rfl (av := .xb (decide (y4 = (List.length a0 : Int)))) rfl ?_)
    refine qm (.xb (decide (y4 = (List.length a0 : Int)))) rfl ?_
    refine G_split (p := y4 = (List.length a0 : Int)) 18 rfl (fun hc => ?_) (fun hc => ?_)
    ·replace h := ite_t h hc
     refine Gy_q rfl rfl rfl (zaf (av := .row 3 zae a0) rfl ?_)
     obtain ⟨y5, hy5, h⟩ := bnd1_some h
     refine Gy_q rfl rfl rfl (zai (m_ref11_formed_ok _ _ _ _ hy5) Tryz.func68 (by kernel_rfl) (LEs.cons (AV.le_eq rfl) (LEs.cons (AV.le_eq rfl) (LEs.cons (AV.le_eq rfl) LEs.nil))) ?_)
     refine G_q rfl (zak rfl (av := .xb y5) rfl ?_)
     refine qa (.xb y5) rfl ?_
     refine G_nil ?_
     refine zac ⟨_, h, ?_⟩
     exact so (lq rfl lt0)
    ·replace h := ite_f h hc
     refine G_n rfl rfl (G_n rfl rfl ?_)
     refine G_q rfl (zah rfl (av := .xb false) rfl ?_)
     refine qa (.xb false) rfl ?_
     refine G_nil ?_
     refine zac ⟨_, h, ?_⟩
     exact so (lq rfl lt0)
   ·replace h := ite_f h hc
    refine G_n rfl rfl (G_n rfl rfl (G_n rfl rfl (G_n rfl rfl (G_n rfl rfl ?_))))
    refine G_q rfl (zah rfl (av := .xb false) rfl ?_)
    refine qm (.xb false) rfl ?_
    refine G_n rfl rfl (G_n rfl rfl ?_)
    refine G_q rfl (zah rfl (av := .xb false) rfl ?_)
    refine qa (.xb false) rfl ?_
    refine G_nil ?_
    refine zac ⟨_, h, ?_⟩
    exact so (lq rfl lt0)
  ·replace h := ite_f h hc
   refine G_n rfl rfl (G_n rfl rfl (G_n rfl rfl ?_))
   refine G_q rfl (zah rfl (av := .xb false) rfl ?_)
   refine qm (.xb false) rfl ?_
   refine G_n rfl rfl (G_n rfl rfl (G_n rfl rfl (G_n rfl rfl (G_n rfl rfl ?_))))
   refine G_q rfl (zah rfl (av := .xb false) rfl ?_)
   refine qm (.xb false) rfl ?_
   refine G_n rfl rfl (G_n rfl rfl ?_)
   refine G_q rfl (zah rfl (av := .xb false) rfl ?_)
   refine qa (.xb false) rfl ?_
   refine G_nil ?_
   refine zac ⟨_, h, ?_⟩
   exact so (lq rfl lt0)
 ·refine k_ret ?_
  obtain rfl := Option.some.inj h
  refine ke (pt AF0 2 (.xb x2_j1)) [] rfl ?_ ⟨rfl, rfl⟩
  exact so (lq rfl lt0)
set_option maxHeartbeats 4000000 in
theorem m_ref11_Vars_ok (a0 : List (Int × Int × Int)) (r : Int) (h : m_ref11_Vars a0 = some r) : Pure Tryz.prog 15 [(.row 3 zae a0)] (.exact (.int .i64 r)) := by
 unfold m_ref11_Vars at h
 refine Pure.ofFun (fun_of_awp Tryz.func15 rfl Tryz.ntmps15 (by simp) rfl (res1 rfl) fun E hE => k_end ?_)
 refine zad (kr ?_)
 refine qa (.xi 0) rfl ?_
 refine G_nil (zaa (zad (kr ?_)))
 refine qa (.xi 0) rfl ?_
 refine G_nil (zaa ?_)
 refine k_join1_0 h (fun (x3_j1 : Int) => (pt AF0 3 (.xi x3_j1))) (fun (x3_j1 : Int) => []) (fun k1 h => ?_) (fun x3_j1 h => ?_)
 ·refine zad (kr ?_)
  refine qa (.xi 0) rfl ?_
  refine G_nil (zaa (k_block ?_))
  refine k_loop2_0 (m_ref11_Vars_L2 a0 k1) (m_ref11_Vars_B2 a0 k1) (fun _ _ => rfl) (fun m _ _ => rfl) h (fun (x3_l2 : Int) (x4_l2 : Int) => (pt (pt (pt AF0 0 (.row 3 zae a0)) 3 (.xi x3_l2)) 4 (.xi x4_l2))) (fun (x3_l2 : Int) (x4_l2 : Int) => []) ?_ (fun rec2 x3_l2 x4_l2 h => ?_)
  ·exact so (lq rfl (lq rfl (lq rfl lt0)))
  ·unfold m_ref11_Vars_B2 at h
   refine zad (zad (kr ?_))
   refine qm (.xi x4_l2) rfl ?_
   refine qm (.row 3 zae a0) rfl ?_
   refine G_q rfl (op_len_row (by kernel_rfl) rfl ?_)
   refine G_q rfl (op_lss rfl rfl ?_)
   refine G_nil (zaa ?_)
   refine kd (p := x4_l2 < (List.length a0 : Int)) rfl h (fun hc h => ?_) (fun hc h => ?_)
   ·refine k_skip (zaa ?_)
    refine k_join1_0 h (fun (x3_j18 : Int) => (pt (pt (pt AF0 0 (.row 3 zae a0)) 3 (.xi x3_j18)) 4 (.xi x4_l2))) (fun (x3_j18 : Int) => []) (fun k18 h => ?_) (fun x3_j18 h => ?_)
    ·refine k_block (zad (kr ?_))
     refine qm (.row 3 zae a0) rfl ?_
     refine qm (.xi x4_l2) rfl ?_
     obtain ⟨n20, h⟩ := need_some h
     refine G_q rfl (zam (by kernel_rfl) rfl rfl n20.1 n20.2 ?_)
     refine G_q rfl (zaj (o := 0) (c' := (List.drop 0 (zae (gi a0 x4_l2)))) (by kernel_rfl) rfl rfl ?_)
     refine G_q rfl (zal (a := .xi ((gi a0 x4_l2).1)) (by kernel_rfl) rfl rfl ?_)
     refine G_q rfl (op_eql rfl rfl ?_)
     refine G_nil (zaa ?_)
     refine kd (p := ((gi a0 x4_l2).1) = 30) rfl h (fun hc h => ?_) (fun hc h => ?_)
     ·refine kr ?_
      refine qm (.xi x3_l2) rfl ?_
      refine G_q rfl (op_add rfl rfl rfl ?_)
      refine qa (.xi (i64 (x3_l2 + 1))) rfl ?_
      refine G_nil (kB_normal ?_)
      refine zac ⟨_, h, ?_⟩
      exact so (lq rfl (lq rfl (lq rfl lt0)))
     ·refine k_skip (kB_normal ?_)
      refine zac ⟨_, h, ?_⟩
      exact so (lq rfl (lq rfl (lq rfl lt0)))
    ·refine kr ?_
     refine qm (.xi x4_l2) rfl ?_
     refine G_q rfl (op_add rfl rfl rfl ?_)
     refine qa (.xi (i64 (x4_l2 + 1))) rfl ?_
     refine G_nil ?_
     refine zac ⟨_, _, h, ?_⟩
     exact so (lq rfl (lq rfl (lq rfl lt0)))
   ·refine k_exit (kC_exit (kI_exit (kB_exit ?_)))
    refine zac ⟨_, h, ?_⟩
    exact so (lq rfl lt0)
 ·refine zad (kr ?_)
  refine qm (.xi x3_j1) rfl ?_
  refine qa (.xi x3_j1) rfl ?_
  refine G_nil (zaa (k_ret ?_))
  obtain rfl := Option.some.inj h
  refine ke (pt AF0 2 (.xi x3_j1)) [] rfl ?_ ⟨rfl, rfl⟩
  exact so (lq rfl lt0)
set_option maxHeartbeats 4000000 in
theorem m_ref9_Kind_ok (a0 : List UInt8) (r : Int) (h : m_ref9_Kind a0 = some r) : Pure Tryz.prog 70 [(.exact (.string (bs a0)))] (.exact (.int .i64 r)) := by
 unfold m_ref9_Kind at h
 refine Pure.ofFun (fun_of_awp Tryz.func70 rfl Tryz.ntmps70 (by simp) rfl (res1 rfl) fun E hE => k_end ?_)
 refine zad (kr ?_)
 refine qa (.xi 0) rfl ?_
 refine G_nil (zaa (zad (zad (kr ?_))))
 refine qm (.xs a0) rfl ?_
 obtain ⟨y1, hy1, h⟩ := bnd1_some h
 refine G_q rfl (zai (m_ref9_Valid_ok _ _ hy1) Tryz.func21 (by kernel_rfl) (LEs.cons (AV.le_eq rfl) LEs.nil) ?_)
 refine G_q rfl (op_not rfl ?_)
 refine G_nil (zaa ?_)
 refine kb (p := !y1) rfl h (fun hc h => ?_) (fun hc h => ?_)
 ·refine zad (kr ?_)
  refine qa (.xi 0) rfl ?_
  refine G_nil (zaa (k_ret (kC_ret ?_)))
  obtain rfl := Option.some.inj h
  refine ke (pt AF0 2 (.xi 0)) [] rfl ?_ ⟨rfl, rfl⟩
  exact so (lq rfl lt0)
 ·refine k_skip (zaa (zad (kr ?_)))
  refine qm (.xs a0) rfl ?_
  obtain ⟨n2, h⟩ := need_some h
  refine G_q rfl (op_index_str (by kernel_rfl) rfl rfl n2.1 n2.2 ?_)
  refine G_q rfl (op_convInt (k := .i64) (r := (UInt8.toNat (gi a0 0) : Int)) (by kernel_rfl) rfl (wrap_u8 rfl _) ?_)
  refine qa (.xi (UInt8.toNat (gi a0 0) : Int)) rfl ?_
  refine G_nil (zaa (k_ret ?_))
  obtain rfl := Option.some.inj h
  refine ke (pt AF0 2 (.xi (UInt8.toNat (gi a0 0) : Int))) [] rfl ?_ ⟨rfl, rfl⟩
  exact so (lq rfl lt0)
set_option maxHeartbeats 4000000 in
theorem m_ref9_Parts_ok (a0 : List UInt8) (r : (List (List UInt8))) (h : m_ref9_Parts a0 = some r) : Pure Tryz.prog 71 [(.exact (.string (bs a0)))] (.row 1 zab r) := by
 unfold m_ref9_Parts at h
 refine Pure.ofFun (fun_of_awp Tryz.func71 rfl Tryz.ntmps71 (by simp) rfl (res1 rfl) fun E hE => k_end ?_)
 refine zad (kr ?_)
 refine qa (.exact (.slice none 0 0)) rfl ?_
 refine G_nil (zaa (zad (zad (kr ?_))))
 refine qm (.xs a0) rfl ?_
 obtain ⟨y1, hy1, h⟩ := bnd1_some h
 refine G_q rfl (zai (m_ref9_Valid_ok _ _ hy1) Tryz.func21 (by kernel_rfl) (LEs.cons (AV.le_eq rfl) LEs.nil) ?_)
 refine G_q rfl (op_not rfl ?_)
 refine G_nil (zaa ?_)
 refine kb (p := !y1) rfl h (fun hc h => ?_) (fun hc h => ?_)
 ·refine zad (kr ?_)
  refine qa (.exact (.slice none 0 0)) rfl ?_
  refine G_nil (zaa (k_ret (kC_ret ?_)))
  obtain rfl := Option.some.inj h
  refine ke (pt AF0 2 (.row 1 zab [])) [] rfl ?_ ⟨rfl, rfl⟩
  exact so (AF.le_put (row_nil (by decide)) lt0)
 ·refine k_skip (zaa (zad (kr ?_)))
  refine qm (.xs a0) rfl ?_
  obtain ⟨y2, hy2, h⟩ := bnd1_some h
  refine G_q rfl (zai (m_ref9_walk_ok _ _ _ _ hy2) Tryz.func76 (by kernel_rfl) (LEs.cons (AV.le_eq rfl) (LEs.cons (AV.le_eq rfl) (LEs.cons (AV.le_eq rfl) LEs.nil))) ?_)
  refine qm (.tup [.xi y2.1, .row 1 zab y2.2.1, .xi y2.2.2]) rfl ?_
  refine G_q rfl (op_extract (av := .xi y2.1) rfl rfl ?_)
  refine G_q rfl (op_extract (av := .row 1 zab y2.2.1) rfl rfl ?_)
  refine G_q rfl (op_extract (av := .xi y2.2.2) rfl rfl ?_)
  refine qa (.xi y2.1) rfl ?_
  refine qa (.row 1 zab y2.2.1) rfl ?_
  refine qa (.xi y2.2.2) rfl ?_
  refine G_nil (zaa (zad (kr ?_)))
  refine qm (.row 1 zab y2.2.1) rfl ?_
  refine qa (.row 1 zab y2.2.1) rfl ?_
  refine G_nil (zaa (k_ret ?_))
  obtain rfl := Option.some.inj h
  refine ke (pt AF0 2 (.row 1 zab y2.2.1)) [] rfl ?_ ⟨rfl, rfl⟩
  exact so (lq rfl lt0)
set_option maxHeartbeats 4000000 in
theorem m_ref11_build_F_ok {w2 : Nat} (self_ref11_build : (List (Int × Int × Int)) → Int → (List (List UInt8)) → Option ((List UInt8) × Bool × (List (List UInt8)))) (hself_ref11_build : ∀ ⦃w2 : Nat⦄ (a0 : List (Int × Int × Int)) (a1 : Int) (a2 : List (List UInt8)) (r : (List UInt8) × Bool × (List (List UInt8))), self_ref11_build a0 a1 a2 = some r → Fun Tryz.prog 40 [(.row 3 zae a0), (.exact (.int .i64 a1)), (pA w2 0)] [boxI 27 w2 [.row 1 zab a2]] (fun a s => a = .tup [.exact (.string (bs r.1)), .exact (.bool r.2.1)] ∧ s = [boxI 27 w2 [.row 1 zab r.2.2]])) (a0 : List (Int × Int × Int)) (a1 : Int) (a2 : List (List UInt8)) (r : (List UInt8) × Bool × (List (List UInt8))) (h : m_ref11_build_F self_ref11_build a0 a1 a2 = some r) : Fun Tryz.prog 40 [(.row 3 zae a0), (.exact (.int .i64 a1)), (pA w2 0)] [boxI 27 w2 [.row 1 zab a2]] (fun a s => a = .tup [.exact (.string (bs r.1)), .exact (.bool r.2.1)] ∧ s = [boxI 27 w2 [.row 1 zab r.2.2]]) := by
 unfold m_ref11_build_F at h
 refine fun_of_awp Tryz.func40 rfl Tryz.ntmps40 (by simp) rfl (res2 rfl) fun E hE => k_end ?_
 refine zad (kr ?_)
 refine qa (.xs ([] : List UInt8)) rfl ?_
 refine qa (.xb false) rfl ?_
 refine G_nil (zaa (zad (kr ?_)))
 refine qm (.row 3 zae a0) rfl ?_
 refine qm (.xi a1) rfl ?_
 obtain ⟨n1, h⟩ := need_some h
 refine G_q rfl (zam (by kernel_rfl) rfl rfl n1.1 n1.2 ?_)
 refine G_q rfl (op_loadNp (m := 3) (c' := zae (gi a0 a1)) (by kernel_rfl) rfl rfl rfl ?_)
 refine G_l rfl (op_alloc (c := [.xi ((0, 0, 0).1), .xi ((0, 0, 0).2.1), .xi ((0, 0, 0).2.2)]) rfl (LEs.cons (AV.le_eq rfl) (LEs.cons (AV.le_eq rfl) (LEs.cons (AV.le_eq rfl) LEs.nil))) (fun b2 => ?_))
 refine G_l rfl (op_store_box (c' := [.xi ((gi a0 a1).1), .xi ((gi a0 a1).2.1), .xi ((gi a0 a1).2.2)]) (c3 := [.xi ((gi a0 a1).1), .xi ((gi a0 a1).2.1), .xi ((gi a0 a1).2.2)]) rfl rfl CellsOf.agg (LEs.cons (AV.le_eq rfl) (LEs.cons (AV.le_eq rfl) (LEs.cons (AV.le_eq rfl) LEs.nil))) (oc_c_api_Code _) (by kernel_rfl) (Nat.le_of_ble_eq_true rfl) rfl ?_)
 refine G_nil (zaa (zad (zad (kr ?_))))
 refine G_q rfl (op_fieldAddr (o := 0) (by kernel_rfl) rfl ?_)
 refine G_r rfl (op_load_box1 (a := .xi ((gi a0 a1).1)) (by kernel_rfl) rfl rfl ?_)
 refine G_nil (zaa (k_block (zad (kr ?_))))
 refine G_q rfl (op_eql rfl rfl ?_)
 refine qa (.xb (decide (((gi a0 a1).1) = 30))) rfl ?_
 refine G_nil (zaa ?_)
 refine kd (p := ((gi a0 a1).1) = 30) rfl h (fun hc h => ?_) (fun hc h => ?_)
 ·refine zad (kr ?_)
  refine qm (pA w2 0) rfl ?_
  refine G_q rfl (op_nilCheck rfl ?_)
  refine G_r rfl (opR_f1 (op_load_box1 (a := .row 1 zab a2) (by kernel_rfl) rfl rfl ?_))
  obtain ⟨n10, h⟩ := need_some h
  refine G_q rfl (zam (by kernel_rfl) rfl rfl n10.1 n10.2 ?_)
  refine G_q rfl (zal (a := .xs (gi a2 0)) (by kernel_rfl) rfl rfl ?_)
  refine qa (.xs (gi a2 0)) rfl ?_
  refine G_nil (zaa (zad (kr ?_)))
  refine qm (pA w2 0) rfl ?_
  refine qm (pA w2 0) rfl ?_
  refine G_q rfl (op_nilCheck rfl ?_)
  refine G_r rfl (opR_f1 (op_load_box1 (a := .row 1 zab a2) (by kernel_rfl) rfl rfl ?_))
  obtain ⟨n11, h⟩ := need_some h
  refine G_q rfl (op_slice_rowd (by kernel_rfl) rfl (bnd_some rfl) bnd_none (by decide) n11 (Int.le_refl _) ?_)
  refine G_q rfl (op_nilCheck rfl ?_)
  refine G_l rfl (opB_f1 (op_store_box (c' := [.row 1 zab (List.drop (Int.toNat 1) a2)]) (c3 := [.row 1 zab (List.drop (Int.toNat 1) a2)]) rfl rfl CellsOf.row (LEs.cons (AV.le_eq rfl) LEs.nil) (OneC.row OneC.nil) (by kernel_rfl) (Nat.le_of_ble_eq_true rfl) rfl ?_))
  refine G_nil (zaa (zad (kr ?_)))
  refine qm (.xs (gi a2 0)) rfl ?_
  refine qm (.xs (gi a2 0)) rfl ?_
  obtain ⟨y12, hy12, h⟩ := bnd1_some h
  refine G_q rfl (zai (m_ref9_Valid_ok _ _ hy12) Tryz.func21 (by kernel_rfl) (LEs.cons (AV.le_eq rfl) LEs.nil) ?_)
  refine qa (.xs (gi a2 0)) rfl ?_
  refine qa (.xb y12) rfl ?_
  refine G_nil (zaa (k_ret (kB_ret (kC_ret ?_))))
  obtain rfl := Option.some.inj h
  refine ke (pt (pt AF0 6 (.xs (gi a2 0))) 7 (.xb y12)) [boxI 27 w2 [.row 1 zab (List.drop (Int.toNat 1) a2)]] rfl ?_ ⟨rfl, rfl⟩
  refine Sub.trans (SubU.to SubU.f1) ?_
  refine Sub.trans (SubU.to SubU.drop) ?_
  exact so (lq rfl (lq rfl lt0))
 ·refine zad (kr ?_)
  refine G_q rfl (op_eql rfl rfl ?_)
  refine qa (.xb (decide (((gi a0 a1).1) = 32))) rfl ?_
  refine G_nil (zaa ?_)
  refine kd (p := ((gi a0 a1).1) = 32) rfl h (fun hc h => ?_) (fun hc h => ?_)
  ·refine zad (kr ?_)
   refine G_q rfl (op_fieldAddr (o := 1) (by kernel_rfl) rfl ?_)
   refine G_r rfl (op_load_box1 (a := .xi ((gi a0 a1).2.1)) (by kernel_rfl) rfl rfl ?_)
   obtain ⟨y13, hy13, h⟩ := bnd1_some h
   refine G_q rfl (zai (m_ref9_Int_ok _ _ hy13) Tryz.func33 (by kernel_rfl) (LEs.cons (AV.le_eq rfl) LEs.nil) ?_)
   refine qa (.xs y13) rfl ?_
   refine qa (.xb true) rfl ?_
   refine G_nil (zaa (k_ret (kB_ret (kC_ret ?_))))
   obtain rfl := Option.some.inj h
   refine ke (pt (pt AF0 6 (.xs y13)) 7 (.xb true)) [boxI 27 w2 [.row 1 zab a2]] rfl ?_ ⟨rfl, rfl⟩
   refine Sub.trans (SubU.to SubU.drop) ?_
   exact so (lq rfl (lq rfl lt0))
  ·refine zad (kr ?_)
   refine G_q rfl (op_eql rfl rfl ?_)
   refine qa (.xb (decide (((gi a0 a1).1) = 33))) rfl ?_
   refine G_nil (zaa ?_)
   refine kd (p := ((gi a0 a1).1) = 33) rfl h (fun hc h => ?_) (fun hc h => ?_)
   ·refine zad (kr ?_)
    refine G_q rfl (op_fieldAddr (o := 1) (by kernel_rfl) rfl ?_)
    refine G_r rfl (op_load_box1 (a := .xi ((gi a0 a1).2.1)) (by kernel_rfl) rfl rfl ?_)
    refine G_q rfl (op_eql rfl rfl ?_)
    obtain ⟨y14, hy14, h⟩ := bnd1_some h
    refine G_q rfl (zai (m_ref9_Bool_ok _ _ hy14) Tryz.func25 (by kernel_rfl) (LEs.cons (AV.le_eq rfl) LEs.nil) ?_)
    refine qa (.xs y14) rfl ?_
    refine qa (.xb true) rfl ?_
    refine G_nil (zaa (k_ret (kB_ret (kC_ret ?_))))
    obtain rfl := Option.some.inj h
    refine ke (pt (pt AF0 6 (.xs y14)) 7 (.xb true)) [boxI 27 w2 [.row 1 zab a2]] rfl ?_ ⟨rfl, rfl⟩
    refine Sub.trans (SubU.to SubU.drop) ?_
    exact so (lq rfl (lq rfl lt0))
   ·refine k_join1_0 h (fun (x49_j15 : Bool) => (pt (pt (pt (pt (pt AF0 0 (.row 3 zae a0)) 1 (.xi a1)) 2 (pA w2 0)) 8 (pA b2 0)) 49 (.xb x49_j15))) (fun (x49_j15 : Bool) => [boxI 27 w2 [.row 1 zab a2], boxI 29 b2 [.xi ((gi a0 a1).1), .xi ((gi a0 a1).2.1), .xi ((gi a0 a1).2.2)]]) (fun k15 h => ?_) (fun x49_j15 h => ?_)
    ·refine zad (kr ?_)
     refine G_q rfl (op_eql rfl rfl ?_)
     refine qa (.xb (decide (((gi a0 a1).1) = 31))) rfl ?_
     refine G_nil (zaa ?_)
     refine kd (p := ((gi a0 a1).1) = 31) rfl h (fun hc h => ?_) (fun hc h => ?_)
     ·refine k_skip ?_
      refine zac ⟨_, h, ?_⟩
      refine Sub.trans (SubU.to SubU.f1) ?_
      exact so (l4 rfl rfl rfl rfl (lq rfl lt0))
     ·refine zad (kr ?_)
      refine G_q rfl (op_eql rfl rfl ?_)
      refine qa (.xb (decide (((gi a0 a1).1) = 40))) rfl ?_
      refine G_nil (zaa ?_)
      refine kd (p := ((gi a0 a1).1) = 40) rfl h (fun hc h => ?_) (fun hc h => ?_)
      ·refine k_skip ?_
       refine zac ⟨_, h, ?_⟩
       refine Sub.trans (SubU.to SubU.f1) ?_
       exact so (l4 rfl rfl rfl rfl (lq rfl lt0))
      ·refine kr ?_
       refine G_q rfl (op_eql rfl rfl ?_)
       refine qa (.xb (decide (((gi a0 a1).1) = 39))) rfl ?_
       refine G_nil ?_
       refine zac ⟨_, h, ?_⟩
       refine Sub.trans (SubU.to SubU.f1) ?_
       exact so (l4 rfl rfl rfl rfl (lq rfl lt0))
    ·refine kb (p := x49_j15) rfl h (fun hc h => ?_) (fun hc h => ?_)
     ·refine zad (kr ?_)
      refine qa (.xs ([] : List UInt8)) rfl ?_
      refine qa (.xb false) rfl ?_
      refine G_nil (zaa (k_ret (kB_ret (kC_ret ?_))))
      obtain rfl := Option.some.inj h
      refine ke (pt (pt AF0 6 (.xs ([] : List UInt8))) 7 (.xb false)) [boxI 27 w2 [.row 1 zab a2]] rfl ?_ ⟨rfl, rfl⟩
      refine Sub.trans (SubU.to SubU.f1) ?_
      refine Sub.trans (SubU.to SubU.drop) ?_
      exact so (lq rfl (lq rfl lt0))
     ·refine k_skip (kB_normal (zaa (zad (kr ?_))))
      refine qa (.exact (.slice none 0 0)) rfl ?_
      refine G_nil (zaa (zad (kr ?_)))
      refine qm (.row 3 zae a0) rfl ?_
      refine qm (.xi a1) rfl ?_
      obtain ⟨y16, hy16, h⟩ := bnd1_some h
      refine G_q rfl (zai (m_ref11_kids_ok _ _ _ hy16) Tryz.func69 (by kernel_rfl) (LEs.cons (AV.le_eq rfl) (LEs.cons (AV.le_eq rfl) LEs.nil)) ?_)
      refine qa (.row 1 c_int y16) rfl ?_
      refine G_nil (zaa ?_)
      refine k_join2_1 h (fun (x2_0_j17 : List (List UInt8)) (x10_j17 : List (List UInt8)) (v10_j17 : Value) => (pt (pt (pt AF0 2 (pA w2 0)) 8 (pA b2 0)) 10 (.exact v10_j17))) (fun (x2_0_j17 : List (List UInt8)) (x10_j17 : List (List UInt8)) (v10_j17 : Value) => [boxI 27 w2 [.row 1 zab x2_0_j17], boxI 29 b2 [.xi ((gi a0 a1).1), .xi ((gi a0 a1).2.1), .xi ((gi a0 a1).2.2)], vecT Tryz.prog 27 1 zab v10_j17 x10_j17]) (fun k17 h => ?_) (fun x2_0_j17 x10_j17 v10_j17 h => ?_)
      ·refine zad (kr ?_)
       refine qa (.xi 0) rfl ?_
       refine G_nil (zaa (k_block ?_))
       refine k_loop3_1 (m_ref11_build_L2 self_ref11_build a0 a1 y16 k17) (m_ref11_build_B2 self_ref11_build a0 a1 y16 k17) (fun _ _ _ => rfl) (fun m _ _ _ => rfl) h (fun (x2_0_l2 : List (List UInt8)) (x10_l2 : List (List UInt8)) (x12_l2 : Int) (v10_l2 : Value) => (pt (pt (pt (pt (pt (pt AF0 0 (.row 3 zae a0)) 2 (pA w2 0)) 8 (pA b2 0)) 10 (.exact v10_l2)) 11 (.row 1 c_int y16)) 12 (.xi x12_l2))) (fun (x2_0_l2 : List (List UInt8)) (x10_l2 : List (List UInt8)) (x12_l2 : Int) (v10_l2 : Value) => [boxI 27 w2 [.row 1 zab x2_0_l2], boxI 29 b2 [.xi ((gi a0 a1).1), .xi ((gi a0 a1).2.1), .xi ((gi a0 a1).2.2)], vecT Tryz.prog 27 1 zab v10_l2 x10_l2]) (.slice none 0 0) ?_ (fun rec2 x2_0_l2 x10_l2 x12_l2 v10_l2 h => ?_)
       ·refine Sub.trans (SubU.to (SubU.nilT (P := Tryz.prog) (t := 27) (n := 1) (enc := zab))) ?_
        refine Sub.trans (SubU.to SubU.f2) ?_
        refine Sub.trans (SubU.to SubU.f2) ?_
        exact so (l4 rfl rfl rfl rfl (lq rfl (lq rfl lt0)))
       ·unfold m_ref11_build_B2 at h
        refine zad (zad (kr ?_))
        refine qm (.xi x12_l2) rfl ?_
        refine qm (.row 1 c_int y16) rfl ?_
        refine G_q rfl (op_len_row (by kernel_rfl) rfl ?_)
        refine G_q rfl (op_lss rfl rfl ?_)
        refine G_nil (zaa ?_)
        refine kd (p := x12_l2 < (List.length y16 : Int)) rfl h (fun hc h => ?_) (fun hc h => ?_)
        ·refine k_skip (zaa ?_)
         refine k_join2_1 h (fun (x2_0_j174 : List (List UInt8)) (x10_j174 : List (List UInt8)) (v10_j174 : Value) => (pt (pt (pt (pt (pt (pt AF0 0 (.row 3 zae a0)) 2 (pA w2 0)) 8 (pA b2 0)) 10 (.exact v10_j174)) 11 (.row 1 c_int y16)) 12 (.xi x12_l2))) (fun (x2_0_j174 : List (List UInt8)) (x10_j174 : List (List UInt8)) (v10_j174 : Value) => [boxI 27 w2 [.row 1 zab x2_0_j174], boxI 29 b2 [.xi ((gi a0 a1).1), .xi ((gi a0 a1).2.1), .xi ((gi a0 a1).2.2)], vecT Tryz.prog 27 1 zab v10_j174 x10_j174]) (fun k174 h => ?_) (fun x2_0_j174 x10_j174 v10_j174 h => ?_)
         ·refine k_block (zad (kr ?_))
          refine qm (.row 3 zae a0) rfl ?_
          refine qm (.row 1 c_int y16) rfl ?_
          refine qm (.xi x12_l2) rfl ?_
          obtain ⟨n190, h⟩ := need_some h
          refine G_q rfl (zam (by kernel_rfl) rfl rfl n190.1 n190.2 ?_)
          refine G_q rfl (zal (a := .xi (gi y16 x12_l2)) (by kernel_rfl) rfl rfl ?_)
          refine qm (pA w2 0) rfl ?_
          obtain ⟨y191, hy191, h⟩ := bnd1_some h
          refine G_l rfl (op_fun_1_0_1 (hself_ref11_build _ _ _ _ hy191) Tryz.func40 (by kernel_rfl) (LEs.cons (AV.le_eq rfl) (LEs.cons (AV.le_eq rfl) (LEs.cons (AV.le_eq rfl) LEs.nil))) ?_)
          refine qm (.tup [.xs y191.1, .xb y191.2.1]) rfl ?_
          refine G_q rfl (op_extract (av := .xs y191.1) rfl rfl ?_)
          refine G_q rfl (op_extract (av := .xb y191.2.1) rfl rfl ?_)
          refine qa (.xs y191.1) rfl ?_
          refine qa (.xb y191.2.1) rfl ?_
          refine G_nil (zaa (zad (zad (kr ?_))))
          refine qm (.xb y191.2.1) rfl ?_
          refine G_q rfl (op_not rfl ?_)
          refine G_nil (zaa ?_)
          refine kb (p := !y191.2.1) rfl h (fun hc h => ?_) (fun hc h => ?_)
          ·refine zad (kr ?_)
           refine qa (.xs ([] : List UInt8)) rfl ?_
           refine qa (.xb false) rfl ?_
           refine G_nil (zaa (k_ret (kC_ret (kB_ret (kI_ret (kI_ret (kB_ret (kI_ret ?_))))))))
           obtain rfl := Option.some.inj h
           refine ke (pt (pt AF0 6 (.xs ([] : List UInt8))) 7 (.xb false)) [boxI 27 w2 [.row 1 zab y191.2.2]] rfl ?_ ⟨rfl, rfl⟩
           refine Sub.trans (SubU.to SubU.f1) ?_
           refine Sub.trans (SubU.to SubU.drop) ?_
           refine Sub.trans (SubU.to SubU.f1) ?_
           refine Sub.trans (SubU.to SubU.drop) ?_
           exact so (lq rfl (lq rfl lt0))
          ·refine k_skip (zaa (zad ?_))
           refine k_join1_0 h (fun (x82_j198 : Bool) => (pt (pt (pt (pt (pt (pt (pt (pt AF0 0 (.row 3 zae a0)) 2 (pA w2 0)) 8 (pA b2 0)) 10 (.exact v10_l2)) 11 (.row 1 c_int y16)) 12 (.xi x12_l2)) 13 (.xs y191.1)) 82 (.xb x82_j198))) (fun (x82_j198 : Bool) => [boxI 27 w2 [.row 1 zab y191.2.2], boxI 29 b2 [.xi ((gi a0 a1).1), .xi ((gi a0 a1).2.1), .xi ((gi a0 a1).2.2)], vecT Tryz.prog 27 1 zab v10_l2 x10_l2]) (fun k198 h => ?_) (fun x82_j198 h => ?_)
           ·refine kr ?_
            refine G_q rfl (op_fieldAddr (o := 0) (by kernel_rfl) rfl ?_)
            refine G_r rfl (opR_f1 (op_load_box1 (a := .xi ((gi a0 a1).1)) (by kernel_rfl) rfl rfl ?_))
            refine G_q rfl (op_eql rfl rfl ?_)
            refine qm (.xb (decide (((gi a0 a1).1) = 36))) rfl ?_
            refine G_split (p := ((gi a0 a1).1) = 36) 77 rfl (fun hc => ?_) (fun hc => ?_)
            ·replace h := ite_t h hc
             refine Gy_q rfl rfl rfl (zaf (av := .xi x12_l2) rfl ?_)
             refine Gy_q rfl rfl rfl (op_fieldAddr (o := 1) (by kernel_rfl) rfl ?_)
             refine Gy_r rfl rfl rfl (opR_f1 (op_load_box1 (a := .xi ((gi a0 a1).2.1)) (by kernel_rfl) rfl rfl ?_))
             refine Gy_q rfl rfl rfl (op_eql rfl rfl ?_)
             refine G_q rfl (zak rfl (av := .xb (decide (x12_l2 = ((gi a0 a1).2.1)))) rfl ?_)
             refine G_nil ?_
             refine zac ⟨_, h, ?_⟩
             exact so (l4 rfl rfl rfl rfl (l4 rfl rfl rfl rfl lt0))
            ·replace h := ite_f h hc
             refine G_n rfl rfl (G_n rfl rfl (G_n rfl rfl (G_n rfl rfl ?_)))
             refine G_q rfl (zah rfl (av := .xb false) rfl ?_)
             refine G_nil ?_
             refine zac ⟨_, h, ?_⟩
             exact so (l4 rfl rfl rfl rfl (l4 rfl rfl rfl rfl lt0))
           ·refine kb (p := x82_j198) rfl h (fun hc h => ?_) (fun hc h => ?_)
            ·refine zad (zad (kr ?_))
             refine qm (.xs y191.1) rfl ?_
             obtain ⟨y199, hy199, h⟩ := bnd1_some h
             refine G_q rfl (zai (m_ref9_Kind_ok _ _ hy199) Tryz.func70 (by kernel_rfl) (LEs.cons (AV.le_eq rfl) LEs.nil) ?_)
             refine G_q rfl (op_neq rfl rfl ?_)
             refine G_nil (zaa ?_)
             refine kd (p := ¬ y199 = 4) rfl h (fun hc h => ?_) (fun hc h => ?_)
             ·refine zad (kr ?_)
              refine qa (.xs ([] : List UInt8)) rfl ?_
              refine qa (.xb false) rfl ?_
              refine G_nil (zaa (k_ret (kC_ret (kC_ret (kB_ret (kI_ret (kI_ret (kB_ret (kI_ret ?_)))))))))
              obtain rfl := Option.some.inj h
              refine ke (pt (pt AF0 6 (.xs ([] : List UInt8))) 7 (.xb false)) [boxI 27 w2 [.row 1 zab y191.2.2]] rfl ?_ ⟨rfl, rfl⟩
              refine Sub.trans (SubU.to SubU.f1) ?_
              refine Sub.trans (SubU.to SubU.drop) ?_
              refine Sub.trans (SubU.to SubU.f1) ?_
              refine Sub.trans (SubU.to SubU.drop) ?_
              exact so (lq rfl (lq rfl lt0))
             ·refine k_skip (zaa (zad (kr ?_)))
              refine qm (.exact v10_l2) rfl ?_
              refine qm (.xs y191.1) rfl ?_
              obtain ⟨y200, hy200, h⟩ := bnd1_some h
              refine G_q rfl (zai (m_ref9_Parts_ok _ _ hy200) Tryz.func71 (by kernel_rfl) (LEs.cons (AV.le_eq rfl) LEs.nil) ?_)
              obtain ⟨n201, h⟩ := need_some h
              refine G_l rfl (opB_f2 (op_appT (by kernel_rfl) rfl rfl oc_c_api_Value n201 (fun v202 => ?_)))
              refine qa (.exact v202) rfl ?_
              refine G_nil (zaa (k_exit (kC_exit (kB_exit ?_))))
              refine zac ⟨_, _, v202, h, ?_⟩
              refine Sub.trans (SubU.to SubU.f2) ?_
              refine Sub.trans (SubU.to SubU.f2) ?_
              exact so (l4 rfl rfl rfl rfl (lq rfl (lq rfl lt0)))
            ·refine k_skip (zaa (kr ?_))
             refine qm (.exact v10_l2) rfl ?_
             refine qm (.xs y191.1) rfl ?_
             refine G_q rfl (op_litT (n := 1) (enc := zab) [y191.1] (CellsAll.cons rfl CellsOf.str CellsAll.nil) rfl (by kernel_rfl) (LEss.cons (LEs.cons (AV.le_eq rfl) LEs.nil) LEss.nil) ?_)
             obtain ⟨n203, h⟩ := need_some h
             refine G_l rfl (opB_f2 (op_appT (by kernel_rfl) rfl rfl oc_c_api_Value n203 (fun v204 => ?_)))
             refine qa (.exact v204) rfl ?_
             refine G_nil (kB_normal ?_)
             refine zac ⟨_, _, v204, h, ?_⟩
             refine Sub.trans (SubU.to SubU.f2) ?_
             refine Sub.trans (SubU.to SubU.f2) ?_
             exact so (l4 rfl rfl rfl rfl (lq rfl (lq rfl lt0)))
         ·refine kr ?_
          refine qm (.xi x12_l2) rfl ?_
          refine G_q rfl (op_add rfl rfl rfl ?_)
          refine qa (.xi (i64 (x12_l2 + 1))) rfl ?_
          refine G_nil ?_
          refine zac ⟨_, _, _, v10_j174, h, ?_⟩
          exact so (l4 rfl rfl rfl rfl (lq rfl (lq rfl lt0)))
        ·refine k_exit (kC_exit (kI_exit (kB_exit ?_)))
         refine zac ⟨_, _, v10_l2, h, ?_⟩
         exact so (lq rfl (lq rfl (lq rfl lt0)))
      ·refine zad (kr ?_)
       refine qa (.xs ([] : List UInt8)) rfl ?_
       refine G_nil (zaa ?_)
       refine k_join1_0 h (fun (x15_j205 : List UInt8) => (pt (pt AF0 2 (pA w2 0)) 15 (.xs x15_j205))) (fun (x15_j205 : List UInt8) => [boxI 27 w2 [.row 1 zab x2_0_j17]]) (fun k205 h => ?_) (fun x15_j205 h => ?_)
       ·refine zad (kr ?_)
        refine G_q rfl (op_fieldAddr (o := 0) (by kernel_rfl) rfl ?_)
        refine G_r rfl (opR_f1 (op_load_box1 (a := .xi ((gi a0 a1).1)) (by kernel_rfl) rfl rfl ?_))
        refine G_nil (zaa (k_block (zad (kr ?_))))
        refine G_q rfl (op_eql rfl rfl ?_)
        refine qa (.xb (decide (((gi a0 a1).1) = 34))) rfl ?_
        refine G_nil (zaa ?_)
        refine kd (p := ((gi a0 a1).1) = 34) rfl h (fun hc h => ?_) (fun hc h => ?_)
        ·refine kr ?_
         refine qm (.exact v10_j17) rfl ?_
         refine G_sub rfl (SubU.trans SubU.f2 (SubU.freezeT2 (s1 := 10) (s2 := 98) rfl rfl len_c_api_Value)) ?_
         obtain ⟨y214, hy214, h⟩ := bnd1_some h
         refine G_q rfl (zai (m_ref9_Make_ok _ _ _ hy214) Tryz.func19 (by kernel_rfl) (LEs.cons (AV.le_eq rfl) (LEs.cons (AV.le_eq rfl) LEs.nil)) ?_)
         refine qa (.xs y214) rfl ?_
         refine G_nil (kB_normal ?_)
         refine zac ⟨_, h, ?_⟩
         refine Sub.trans (SubU.to SubU.f1) ?_
         refine Sub.trans (SubU.to SubU.drop) ?_
         exact so (lq rfl (lq rfl lt0))
        ·refine k_join1_0 h (fun (x100_j215 : Bool) => (pt (pt (pt (pt (pt (pt AF0 2 (pA w2 0)) 8 (pA b2 0)) 10 (.exact v10_j17)) 15 (.xs ([] : List UInt8))) 95 (.xi ((gi a0 a1).1))) 100 (.xb x100_j215))) (fun (x100_j215 : Bool) => [boxI 27 w2 [.row 1 zab x2_0_j17], boxI 29 b2 [.xi ((gi a0 a1).1), .xi ((gi a0 a1).2.1), .xi ((gi a0 a1).2.2)], vecT Tryz.prog 27 1 zab v10_j17 x10_j17]) (fun k215 h => ?_) (fun x100_j215 h => ?_)
         ·refine zad (kr ?_)
          refine G_q rfl (op_eql rfl rfl ?_)
          refine qa (.xb (decide (((gi a0 a1).1) = 35))) rfl ?_
          refine G_nil (zaa ?_)
          refine kd (p := ((gi a0 a1).1) = 35) rfl h (fun hc h => ?_) (fun hc h => ?_)
          ·refine k_skip ?_
           refine zac ⟨_, h, ?_⟩
           exact so (l4 rfl rfl rfl rfl (lq rfl (lq rfl lt0)))
          ·refine kr ?_
           refine G_q rfl (op_eql rfl rfl ?_)
           refine qa (.xb (decide (((gi a0 a1).1) = 36))) rfl ?_
           refine G_nil ?_
           refine zac ⟨_, h, ?_⟩
           exact so (l4 rfl rfl rfl rfl (lq rfl (lq rfl lt0)))
         ·refine kb (p := x100_j215) rfl h (fun hc h => ?_) (fun hc h => ?_)
          ·refine kr ?_
           refine qm (.exact v10_j17) rfl ?_
           refine G_sub rfl (SubU.trans SubU.f2 (SubU.freezeT2 (s1 := 10) (s2 := 103) rfl rfl len_c_api_Value)) ?_
           obtain ⟨y216, hy216, h⟩ := bnd1_some h
           refine G_q rfl (zai (m_ref9_Make_ok _ _ _ hy216) Tryz.func19 (by kernel_rfl) (LEs.cons (AV.le_eq rfl) (LEs.cons (AV.le_eq rfl) LEs.nil)) ?_)
           refine qa (.xs y216) rfl ?_
           refine G_nil (kB_normal ?_)
           refine zac ⟨_, h, ?_⟩
           refine Sub.trans (SubU.to SubU.f1) ?_
           refine Sub.trans (SubU.to SubU.drop) ?_
           exact so (lq rfl (lq rfl lt0))
          ·refine zad (kr ?_)
           refine G_q rfl (op_eql rfl rfl ?_)
           refine qa (.xb (decide (((gi a0 a1).1) = 37))) rfl ?_
           refine G_nil (zaa ?_)
           refine kd (p := ((gi a0 a1).1) = 37) rfl h (fun hc h => ?_) (fun hc h => ?_)
           ·refine kr ?_
            refine qm (.exact v10_j17) rfl ?_
            refine G_sub rfl (SubU.trans SubU.f2 (SubU.freezeT2 (s1 := 10) (s2 := 107) rfl rfl len_c_api_Value)) ?_
            obtain ⟨y217, hy217, h⟩ := bnd1_some h
            refine G_q rfl (zai (m_ref9_Set_ok _ _ hy217) Tryz.func28 (by kernel_rfl) (LEs.cons (AV.le_eq rfl) LEs.nil) ?_)
            refine qa (.xs y217) rfl ?_
            refine G_nil (kB_normal ?_)
            refine zac ⟨_, h, ?_⟩
            refine Sub.trans (SubU.to SubU.f1) ?_
            refine Sub.trans (SubU.to SubU.drop) ?_
            exact so (lq rfl (lq rfl lt0))
           ·refine zad (kr ?_)
            refine G_q rfl (op_eql rfl rfl ?_)
            refine qa (.xb (decide (((gi a0 a1).1) = 38))) rfl ?_
            refine G_nil (zaa ?_)
            refine kd (p := ((gi a0 a1).1) = 38) rfl h (fun hc h => ?_) (fun hc h => ?_)
            ·refine zad ?_
             refine k_join1_0 h (fun (x118_j220 : Bool) => (pt (pt (pt (pt AF0 2 (pA w2 0)) 8 (pA b2 0)) 10 (.exact v10_j17)) 118 (.xb x118_j220))) (fun (x118_j220 : Bool) => [boxI 27 w2 [.row 1 zab x2_0_j17], boxI 29 b2 [.xi ((gi a0 a1).1), .xi ((gi a0 a1).2.1), .xi ((gi a0 a1).2.2)], vecT Tryz.prog 27 1 zab v10_j17 x10_j17]) (fun k220 h => ?_) (fun x118_j220 h => ?_)
             ·refine kr ?_
              refine G_q rfl (op_fieldAddr (o := 1) (by kernel_rfl) rfl ?_)
              refine G_r rfl (opR_f1 (op_load_box1 (a := .xi ((gi a0 a1).2.1)) (by kernel_rfl) rfl rfl ?_))
              refine G_q rfl (op_lss rfl rfl ?_)
              refine qm (.xb (decide (((gi a0 a1).2.1) < 0))) rfl ?_
              refine G_split (p := ((gi a0 a1).2.1) < 0) 114 rfl (fun hc => ?_) (fun hc => ?_)
              ·replace h := ite_t h hc
               refine G_n rfl rfl (G_n rfl rfl (G_n rfl rfl ?_))
               refine G_q rfl (zak rfl (av := .xb true) rfl ?_)
               refine G_nil ?_
               refine zac ⟨_, h, ?_⟩
               exact so (l4 rfl rfl rfl rfl lt0)
              ·replace h := ite_f h hc
               refine Gy_q rfl rfl rfl (op_fieldAddr (o := 1) (by kernel_rfl) rfl ?_)
               refine Gy_r rfl rfl rfl (opR_f1 (op_load_box1 (a := .xi ((gi a0 a1).2.1)) (by kernel_rfl) rfl rfl ?_))
               refine Gy_q rfl rfl rfl (op_gtr rfl rfl ?_)
               refine G_q rfl (zah rfl (av := .xb (decide (65535 < ((gi a0 a1).2.1)))) rfl ?_)
               refine G_nil ?_
               refine zac ⟨_, h, ?_⟩
               exact so (l4 rfl rfl rfl rfl lt0)
             ·refine kb (p := x118_j220) rfl h (fun hc h => ?_) (fun hc h => ?_)
              ·refine zad (kr ?_)
               refine qa (.xs ([] : List UInt8)) rfl ?_
               refine qa (.xb false) rfl ?_
               refine G_nil (zaa (k_ret (kC_ret (kB_ret (kI_ret ?_)))))
               obtain rfl := Option.some.inj h
               refine ke (pt (pt AF0 6 (.xs ([] : List UInt8))) 7 (.xb false)) [boxI 27 w2 [.row 1 zab x2_0_j17]] rfl ?_ ⟨rfl, rfl⟩
               refine Sub.trans (SubU.to SubU.f1) ?_
               refine Sub.trans (SubU.to SubU.drop) ?_
               refine Sub.trans (SubU.to SubU.f1) ?_
               refine Sub.trans (SubU.to SubU.drop) ?_
               exact so (lq rfl (lq rfl lt0))
              ·refine k_skip (zaa (kr ?_))
               refine G_q rfl (op_fieldAddr (o := 1) (by kernel_rfl) rfl ?_)
               refine G_r rfl (opR_f1 (op_load_box1 (a := .xi ((gi a0 a1).2.1)) (by kernel_rfl) rfl rfl ?_))
               refine qm (.exact v10_j17) rfl ?_
               refine G_sub rfl (SubU.trans SubU.f2 (SubU.freezeT2 (s1 := 10) (s2 := 121) rfl rfl len_c_api_Value)) ?_
               obtain ⟨y221, hy221, h⟩ := bnd1_some h
               refine G_q rfl (zai (m_ref9_Dot_ok _ _ _ hy221) Tryz.func29 (by kernel_rfl) (LEs.cons (AV.le_eq rfl) (LEs.cons (AV.le_eq rfl) LEs.nil)) ?_)
               refine qa (.xs y221) rfl ?_
               refine G_nil (kB_normal ?_)
               refine zac ⟨_, h, ?_⟩
               refine Sub.trans (SubU.to SubU.f1) ?_
               refine Sub.trans (SubU.to SubU.drop) ?_
               exact so (lq rfl (lq rfl lt0))
            ·refine k_skip (kB_normal ?_)
             refine zac ⟨_, h, ?_⟩
             refine Sub.trans (SubU.to SubU.f1) ?_
             refine Sub.trans (SubU.to SubU.drop) ?_
             refine Sub.trans (SubU.to SubU.f1) ?_
             refine Sub.trans (SubU.to SubU.drop) ?_
             exact so (lq rfl (lq rfl lt0))
       ·refine zad (kr ?_)
        refine qm (.xs x15_j205) rfl ?_
        refine qm (.xs x15_j205) rfl ?_
        refine G_q rfl (op_neqS rfl rfl ?_)
        refine qa (.xs x15_j205) rfl ?_
        refine qa (.xb (decide (¬ x15_j205 = ([] : List UInt8)))) rfl ?_
        refine G_nil (zaa (k_ret ?_))
        obtain rfl := Option.some.inj h
        refine ke (pt (pt AF0 6 (.xs x15_j205)) 7 (.xb (decide (¬ x15_j205 = ([] : List UInt8))))) [boxI 27 w2 [.row 1 zab x2_0_j17]] rfl ?_ ⟨rfl, rfl⟩
        exact so (lq rfl (lq rfl lt0))
set_option maxHeartbeats 4000000 in
theorem m_ref11_build_S_ok : ∀ n : Nat, (∀ ⦃w2 : Nat⦄ (a0 : List (Int × Int × Int)) (a1 : Int) (a2 : List (List UInt8)) (r : (List UInt8) × Bool × (List (List UInt8))), m_ref11_build_S n a0 a1 a2 = some r → Fun Tryz.prog 40 [(.row 3 zae a0), (.exact (.int .i64 a1)), (pA w2 0)] [boxI 27 w2 [.row 1 zab a2]] (fun a s => a = .tup [.exact (.string (bs r.1)), .exact (.bool r.2.1)] ∧ s = [boxI 27 w2 [.row 1 zab r.2.2]]))
  | 0 => (fun _ _ _ _ _ h => by have h' : (none : Option _) = some _ := h; cases h')
  | n + 1 => by
    have ih := m_ref11_build_S_ok n
    exact fun w2 a0 a1 a2 r h => m_ref11_build_F_ok (m_ref11_build_S n) ih a0 a1 a2 r h
theorem m_ref11_build_ok {w2 : Nat} (a0 : List (Int × Int × Int)) (a1 : Int) (a2 : List (List UInt8)) (r : (List UInt8) × Bool × (List (List UInt8))) (h : m_ref11_build a0 a1 a2 = some r) : Fun Tryz.prog 40 [(.row 3 zae a0), (.exact (.int .i64 a1)), (pA w2 0)] [boxI 27 w2 [.row 1 zab a2]] (fun a s => a = .tup [.exact (.string (bs r.1)), .exact (.bool r.2.1)] ∧ s = [boxI 27 w2 [.row 1 zab r.2.2]]) := (m_ref11_build_S_ok FU) a0 a1 a2 r h
set_option maxHeartbeats 4000000 in
theorem m_ref11_Build_ok (a0 : List (Int × Int × Int)) (a1 : List (List UInt8)) (r : (List UInt8) × Bool) (h : m_ref11_Build a0 a1 = some r) : Pure Tryz.prog 11 [(.row 3 zae a0), (.row 1 zab a1)] (.tup [.exact (.string (bs r.1)), .exact (.bool r.2)]) := by
 unfold m_ref11_Build at h
 refine Pure.ofFun (fun_of_awp Tryz.func11 rfl Tryz.ntmps11 (by simp) rfl (res2 rfl) fun E hE => k_end ?_)
 refine zad (kr ?_)
 refine qa (.xs ([] : List UInt8)) rfl ?_
 refine qa (.xb false) rfl ?_
 refine G_nil (zaa (zad ?_))
 refine k_join1_0 h (fun (x18_j7 : Bool) => (pt (pt (pt AF0 0 (.row 3 zae a0)) 1 (.row 1 zab a1)) 18 (.xb x18_j7))) (fun (x18_j7 : Bool) => []) (fun k7 h => ?_) (fun x18_j7 h => ?_)
 ·refine kr ?_
  refine qm (.row 3 zae a0) rfl ?_
  obtain ⟨y10, hy10, h⟩ := bnd1_some h
  refine G_q rfl (zai (m_ref11_Pattern_ok _ _ hy10) Tryz.func39 (by kernel_rfl) (LEs.cons (AV.le_eq rfl) LEs.nil) ?_)
  refine G_q rfl (op_not rfl ?_)
  refine qm (.xb (!y10)) rfl ?_
  refine G_splitB (c := !y10) 12 rfl (fun hc => ?_) (fun hc => ?_)
  ·replace h := ite_t h hc
   refine G_n rfl rfl (G_n rfl rfl (G_n rfl rfl (G_n rfl rfl (G_n rfl rfl ?_))))
   refine G_q rfl (zak rfl (av := .xb true) rfl ?_)
   refine G_nil ?_
   refine zac ⟨_, h, ?_⟩
   exact so (lq rfl (lq rfl (lq rfl lt0)))
  ·replace h := ite_f h hc
   refine Gy_q rfl rfl rfl (zaf (av := .row 1 zab a1) rfl ?_)
   refine Gy_q rfl rfl rfl (op_len_row (by kernel_rfl) rfl ?_)
   refine Gy_q rfl rfl rfl (zaf (av := .row 3 zae a0) rfl ?_)
   obtain ⟨y11, hy11, h⟩ := bnd1_some h
   refine Gy_q rfl rfl rfl (zai (m_ref11_Vars_ok _ _ hy11) Tryz.func15 (by kernel_rfl) (LEs.cons (AV.le_eq rfl) LEs.nil) ?_)
   refine Gy_q rfl rfl rfl (op_neq rfl rfl ?_)
   refine G_q rfl (zah rfl (av := .xb (decide (¬ (List.length a1 : Int) = y11))) rfl ?_)
   refine G_nil ?_
   refine zac ⟨_, h, ?_⟩
   exact so (lq rfl (lq rfl (lq rfl lt0)))
 ·refine kb (p := x18_j7) rfl h (fun hc h => ?_) (fun hc h => ?_)
  ·refine zad (kr ?_)
   refine qa (.xs ([] : List UInt8)) rfl ?_
   refine qa (.xb false) rfl ?_
   refine G_nil (zaa (k_ret (kC_ret ?_)))
   obtain rfl := Option.some.inj h
   refine ke (pt (pt AF0 4 (.xs ([] : List UInt8))) 5 (.xb false)) [] rfl ?_ ⟨rfl, rfl⟩
   exact so (lq rfl (lq rfl lt0))
  ·refine k_skip (zaa (zad (kr ?_)))
   refine qm (.row 1 zab a1) rfl ?_
   obtain ⟨n12, h⟩ := need_some h
   refine G_l rfl (op_appN (enc := zab) (by kernel_rfl) rfl rfl oc_c_api_Value n12 (fun v13 => ?_))
   refine G_l rfl (op_alloc (c := [.row 1 zab []]) rfl (LEs.cons (row_nil (by decide)) LEs.nil) (fun b14 => ?_))
   refine G_sub rfl (SubU.trans SubU.f1 (SubU.freezeT (s := 20) rfl len_c_api_Value)) ?_
   refine G_l rfl (op_store_box (c' := [.row 1 zab a1]) (c3 := [.row 1 zab a1]) rfl rfl CellsOf.row (LEs.cons (AV.le_eq rfl) LEs.nil) (OneC.row OneC.nil) (by kernel_rfl) (Nat.le_of_ble_eq_true rfl) rfl ?_)
   refine G_nil (zaa (zad (kr ?_)))
   refine qm (.row 3 zae a0) rfl ?_
   obtain ⟨y15, hy15, h⟩ := bnd1_some h
   refine G_l rfl (op_fun_1_0_1 (m_ref11_build_ok _ _ _ _ hy15) Tryz.func40 (by kernel_rfl) (LEs.cons (AV.le_eq rfl) (LEs.cons (AV.le_eq rfl) (LEs.cons (AV.le_eq rfl) LEs.nil))) ?_)
   refine qm (.tup [.xs y15.1, .xb y15.2.1]) rfl ?_
   refine G_q rfl (op_extract (av := .xs y15.1) rfl rfl ?_)
   refine G_q rfl (op_extract (av := .xb y15.2.1) rfl rfl ?_)
   refine qa (.xs y15.1) rfl ?_
   refine qa (.xb y15.2.1) rfl ?_
   refine G_nil (zaa (zad (zad (kr ?_))))
   refine qm (.xb y15.2.1) rfl ?_
   refine G_q rfl (op_not rfl ?_)
   refine G_nil (zaa ?_)
   refine kb (p := !y15.2.1) rfl h (fun hc h => ?_) (fun hc h => ?_)
   ·refine zad (kr ?_)
    refine qa (.xs ([] : List UInt8)) rfl ?_
    refine qa (.xb false) rfl ?_
    refine G_nil (zaa (k_ret (kC_ret ?_)))
    obtain rfl := Option.some.inj h
    refine ke (pt (pt AF0 4 (.xs ([] : List UInt8))) 5 (.xb false)) [] rfl ?_ ⟨rfl, rfl⟩
    refine Sub.trans (SubU.to SubU.drop) ?_
    exact so (lq rfl (lq rfl lt0))
   ·refine k_skip (zaa (zad (kr ?_)))
    refine qm (.xs y15.1) rfl ?_
    refine qa (.xs y15.1) rfl ?_
    refine qa (.xb true) rfl ?_
    refine G_nil (zaa (k_ret ?_))
    obtain rfl := Option.some.inj h
    refine ke (pt (pt AF0 4 (.xs y15.1)) 5 (.xb true)) [] rfl ?_ ⟨rfl, rfl⟩
    refine Sub.trans (SubU.to SubU.drop) ?_
    exact so (lq rfl (lq rfl lt0))
set_option maxHeartbeats 4000000 in
theorem m_value_Number_ok (a0 : List UInt8) (r : Int) (h : m_value_Number a0 = some r) : Pure Tryz.prog 72 [(.exact (.string (bs a0)))] (.exact (.int .i64 r)) := by
 unfold m_value_Number at h
 refine Pure.ofFun (fun_of_awp Tryz.func72 rfl Tryz.ntmps72 (by simp) rfl (res1 rfl) fun E hE => k_end ?_)
 refine zad (kr ?_)
 refine qa (.xi 0) rfl ?_
 refine G_nil (zaa (zad (zad (kr ?_))))
 refine qm (.xs a0) rfl ?_
 obtain ⟨y1, hy1, h⟩ := bnd1_some h
 refine G_q rfl (zai (m_value_Kind_ok _ _ hy1) Tryz.func63 (by kernel_rfl) (LEs.cons (AV.le_eq rfl) LEs.nil) ?_)
 refine G_nil (zaa (k_block (zad (kr ?_))))
 refine G_q rfl (op_eql rfl rfl ?_)
 refine qa (.xb (decide (y1 = 1))) rfl ?_
 refine G_nil (zaa ?_)
 refine kd (p := y1 = 1) rfl h (fun hc h => ?_) (fun hc h => ?_)
 ·refine zad (kr ?_)
  refine qm (.xs a0) rfl ?_
  obtain ⟨y2, hy2, h⟩ := bnd1_some h
  refine G_q rfl (zai (m_value_integer_ok _ _ hy2) Tryz.func91 (by kernel_rfl) (LEs.cons (AV.le_eq rfl) LEs.nil) ?_)
  refine qa (.xi y2) rfl ?_
  refine G_nil (zaa (k_ret (kB_ret (kC_ret ?_))))
  obtain rfl := Option.some.inj h
  refine ke (pt AF0 2 (.xi y2)) [] rfl ?_ ⟨rfl, rfl⟩
  exact so (lq rfl lt0)
 ·refine zad (kr ?_)
  refine G_q rfl (op_eql rfl rfl ?_)
  refine qa (.xb (decide (y1 = 2))) rfl ?_
  refine G_nil (zaa ?_)
  refine kd (p := y1 = 2) rfl h (fun hc h => ?_) (fun hc h => ?_)
  ·refine zad (kr ?_)
   refine qm (.xs a0) rfl ?_
   obtain ⟨n3, h⟩ := need_some h
   refine G_q rfl (op_index_str (by kernel_rfl) rfl rfl n3.1 n3.2 ?_)
   refine G_q rfl (op_convInt (k := .i64) (r := (UInt8.toNat (gi a0 1) : Int)) (by kernel_rfl) rfl (wrap_u8 rfl _) ?_)
   refine qa (.xi (UInt8.toNat (gi a0 1) : Int)) rfl ?_
   refine G_nil (zaa (k_ret (kB_ret (kC_ret ?_))))
   obtain rfl := Option.some.inj h
   refine ke (pt AF0 2 (.xi (UInt8.toNat (gi a0 1) : Int))) [] rfl ?_ ⟨rfl, rfl⟩
   exact so (lq rfl lt0)
  ·refine zad (kr ?_)
   refine G_q rfl (op_eql rfl rfl ?_)
   refine qa (.xb (decide (y1 = 10))) rfl ?_
   refine G_nil (zaa ?_)
   refine kd (p := y1 = 10) rfl h (fun hc h => ?_) (fun hc h => ?_)
   ·refine zad ?_
    refine k_plan [] [(0, 0), (0, 1), (0, 2), (0, 3), (0, 4), (0, 5), (0, 6), (0, 7), (0, 8)] hmixP (by kernel_rfl) ?_
    refine P_q no34_0 rfl (zaf (av := .xs a0) rfl ?_)
    obtain ⟨n4, h⟩ := need_some h
    refine P_q no34_0 rfl (op_index_str (by kernel_rfl) rfl rfl n4.1 n4.2 ?_)
    refine P_q no34_0 rfl (op_convInt (k := .i64) (r := (UInt8.toNat (gi a0 1) : Int)) (by kernel_rfl) rfl (wrap_u8 rfl _) ?_)
    refine P_q no34_0 rfl (op_shl rfl rfl (by decide) rfl ?_)
    refine P_q no34_0 rfl (zaf (av := .xs a0) rfl ?_)
    obtain ⟨n5, h⟩ := need_some h
    refine P_q no34_0 rfl (op_index_str (by kernel_rfl) rfl rfl n5.1 n5.2 ?_)
    refine P_q no34_0 rfl (op_convInt (k := .i64) (r := (UInt8.toNat (gi a0 2) : Int)) (by kernel_rfl) rfl (wrap_u8 rfl _) ?_)
    refine P_q no34_0 rfl (op_or rfl rfl rfl ?_)
    refine P_q no34_0 rfl (op_assign (av := .xi (bOr .i64 (i64 ((UInt8.toNat (gi a0 1) : Int) * 2 ^ min (Int.toNat 8) IntKind.i64.bits)) (UInt8.toNat (gi a0 2) : Int))) rfl ?_)
    refine P_nil (zaa (k_ret (kB_ret (kC_ret ?_))))
    obtain rfl := Option.some.inj h
    refine ke (pt AF0 2 (.xi (bOr .i64 (i64 ((UInt8.toNat (gi a0 1) : Int) * 2 ^ min (Int.toNat 8) IntKind.i64.bits)) (UInt8.toNat (gi a0 2) : Int)))) [] rfl ?_ ⟨rfl, rfl⟩
    exact so (lq rfl lt0)
   ·refine k_skip (kB_normal (zaa (zad (kr ?_))))
    refine qa (.xi 0) rfl ?_
    refine G_nil (zaa (k_ret ?_))
    obtain rfl := Option.some.inj h
    refine ke (pt AF0 2 (.xi 0)) [] rfl ?_ ⟨rfl, rfl⟩
    exact so (lq rfl lt0)
set_option maxHeartbeats 4000000 in
theorem m_pattern_each_ok {w2 : Value} (self_pattern_node_match : Nd → (List UInt8) → (List (List UInt8)) → Option ((List (List UInt8)) × Bool)) (hself_pattern_node_match : ∀ ⦃w2 : Value⦄ (a0 : Nd) (a1 : List UInt8) (a2 : List (List UInt8)) (r : (List (List UInt8)) × Bool), self_pattern_node_match a0 a1 a2 = some r → Fun Tryz.prog 41 [(ndA a0), (.exact (.string (bs a1))), (.exact w2)] [vecT Tryz.prog 27 1 zab w2 a2] (fun a s => ∃ z0, a = .tup [.exact z0, .exact (.bool r.2)] ∧ s = [vecT Tryz.prog 27 1 zab z0 r.1])) (a0 : List Nd) (a1 : List (List UInt8)) (a2 : List (List UInt8)) (r : (List (List UInt8)) × Bool) (h : m_pattern_each self_pattern_node_match a0 a1 a2 = some r) : Fun Tryz.prog 74 [(.row 1 c_P_pattern_node a0), (.row 1 zab a1), (.exact w2)] [vecT Tryz.prog 27 1 zab w2 a2] (fun a s => ∃ z0, a = .tup [.exact z0, .exact (.bool r.2)] ∧ s = [vecT Tryz.prog 27 1 zab z0 r.1]) := by
 unfold m_pattern_each at h
 refine fun_of_awp Tryz.func74 rfl Tryz.ntmps74 (by simp) rfl (res2 rfl) fun E hE => k_end ?_
 refine zad (kr ?_)
 refine qa (.exact (.slice none 0 0)) rfl ?_
 refine qa (.xb false) rfl ?_
 refine G_nil (zaa (zad (zad (kr ?_))))
 refine qm (.row 1 c_P_pattern_node a0) rfl ?_
 refine G_q rfl (op_len_row (by kernel_rfl) rfl ?_)
 refine qm (.row 1 zab a1) rfl ?_
 refine G_q rfl (op_len_row (by kernel_rfl) rfl ?_)
 refine G_q rfl (op_neq rfl rfl ?_)
 refine G_nil (zaa ?_)
 refine kd (p := ¬ (List.length a0 : Int) = (List.length a1 : Int)) rfl h (fun hc h => ?_) (fun hc h => ?_)
 ·refine zad (kr ?_)
  refine qa (.exact (.slice none 0 0)) rfl ?_
  refine qa (.xb false) rfl ?_
  refine G_nil (zaa (k_ret (kC_ret ?_)))
  obtain rfl := Option.some.inj h
  refine ke (pt (pt AF0 6 (.exact (.slice none 0 0))) 7 (.xb false)) [vecT Tryz.prog 27 1 zab (.slice none 0 0) []] rfl ?_ ⟨(.slice none 0 0), rfl, rfl⟩
  refine Sub.trans (SubU.to SubU.drop) ?_
  refine Sub.trans (SubU.to (SubU.nilT (P := Tryz.prog) (t := 27) (n := 1) (enc := zab))) ?_
  exact so (lq rfl (lq rfl lt0))
 ·refine k_skip (zaa (zad (kr ?_)))
  refine qa (.xb true) rfl ?_
  refine G_nil (zaa ?_)
  refine k_join1_1 h (fun (x2_j1 : List (List UInt8)) (v2_j1 : Value) => (pt AF0 2 (.exact v2_j1))) (fun (x2_j1 : List (List UInt8)) (v2_j1 : Value) => [vecT Tryz.prog 27 1 zab v2_j1 x2_j1]) (fun k1 h => ?_) (fun x2_j1 v2_j1 h => ?_)
  ·refine zad (kr ?_)
   refine qm (.row 1 c_P_pattern_node a0) rfl ?_
   refine G_q rfl (op_len_row (by kernel_rfl) rfl ?_)
   refine qm (.xi 0) rfl ?_
   refine G_nil (zaa (k_block ?_))
   refine k_loop2_1 (m_pattern_each_L2 self_pattern_node_match a0 a1 k1) (m_pattern_each_B2 self_pattern_node_match a0 a1 k1) (fun _ _ => rfl) (fun m _ _ => rfl) h (fun (x2_l2 : List (List UInt8)) (x18_l2 : Int) (v2_l2 : Value) => (pt (pt (pt (pt (pt AF0 1 (.row 1 zab a1)) 2 (.exact v2_l2)) 16 (.row 1 c_P_pattern_node a0)) 17 (.xi (List.length a0 : Int))) 18 (.xi x18_l2))) (fun (x2_l2 : List (List UInt8)) (x18_l2 : Int) (v2_l2 : Value) => [vecT Tryz.prog 27 1 zab v2_l2 x2_l2]) w2 ?_ (fun rec2 x2_l2 x18_l2 v2_l2 h => ?_)
   ·exact so (l4 rfl rfl rfl rfl (lq rfl lt0))
   ·unfold m_pattern_each_B2 at h
    refine zad (kr ?_)
    refine G_q rfl (op_lss rfl rfl ?_)
    refine G_nil (zaa (zad ?_))
    refine kd (p := x18_l2 < (List.length a0 : Int)) rfl h (fun hc h => ?_) (fun hc h => ?_)
    ·refine k_skip (zaa (zad (k_block (zad (kr ?_)))))
     refine qm (.xi x18_l2) rfl ?_
     obtain ⟨n23, h⟩ := need_some h
     refine G_q rfl (zam (by kernel_rfl) rfl rfl n23.1 n23.2 ?_)
     refine G_q rfl (zal (a := ndA (gi a0 x18_l2)) (by kernel_rfl) rfl rfl ?_)
     refine qa (.xi x18_l2) rfl ?_
     refine qa (ndA (gi a0 x18_l2)) rfl ?_
     refine G_nil (zaa (zad (kr ?_)))
     refine qm (ndA (gi a0 x18_l2)) rfl ?_
     refine qm (.row 1 zab a1) rfl ?_
     refine qm (.xi x18_l2) rfl ?_
     obtain ⟨n24, h⟩ := need_some h
     refine G_q rfl (zam (by kernel_rfl) rfl rfl n24.1 n24.2 ?_)
     refine G_q rfl (zal (a := .xs (gi a1 x18_l2)) (by kernel_rfl) rfl rfl ?_)
     refine qm (.exact v2_l2) rfl ?_
     obtain ⟨y25, hy25, h⟩ := bnd1_some h
     refine G_l rfl (op_fun_1_1_1 (hself_pattern_node_match _ _ _ _ hy25) Tryz.func41 (by kernel_rfl) (LEs.cons (AV.le_eq rfl) (LEs.cons (AV.le_eq rfl) (LEs.cons (AV.le_eq rfl) LEs.nil))) (fun v26 => ?_))
     refine qm (.tup [.exact v26, .xb y25.2]) rfl ?_
     refine G_q rfl (op_extract (av := .exact v26) rfl rfl ?_)
     refine G_q rfl (op_extract (av := .xb y25.2) rfl rfl ?_)
     refine qa (.exact v26) rfl ?_
     refine qa (.xb y25.2) rfl ?_
     refine G_nil (zaa (zad (kr ?_)))
     refine qm (.xb y25.2) rfl ?_
     refine G_q rfl (op_not rfl ?_)
     refine G_nil (zaa ?_)
     refine kb (p := !y25.2) rfl h (fun hc h => ?_) (fun hc h => ?_)
     ·refine zad (kr ?_)
      refine qa (.exact (.slice none 0 0)) rfl ?_
      refine qa (.xb false) rfl ?_
      refine G_nil (zaa (k_ret (kB_ret (kC_ret (kI_ret (kB_ret (kI_ret ?_)))))))
      obtain rfl := Option.some.inj h
      refine ke (pt (pt AF0 6 (.exact (.slice none 0 0))) 7 (.xb false)) [vecT Tryz.prog 27 1 zab (.slice none 0 0) []] rfl ?_ ⟨(.slice none 0 0), rfl, rfl⟩
      refine Sub.trans (SubU.to SubU.drop) ?_
      refine Sub.trans (SubU.to (SubU.nilT (P := Tryz.prog) (t := 27) (n := 1) (enc := zab))) ?_
      exact so (lq rfl (lq rfl lt0))
     ·refine k_skip (kB_normal (zaa (kr ?_)))
      refine G_q rfl (op_add rfl rfl rfl ?_)
      refine qm (.xi (i64 (x18_l2 + 1))) rfl ?_
      refine G_nil ?_
      refine zac ⟨_, _, v26, h, ?_⟩
      exact so (l4 rfl rfl rfl rfl (lq rfl lt0))
    ·refine k_exit (kC_exit (kI_exit (kB_exit ?_)))
     refine zac ⟨_, v2_l2, h, ?_⟩
     exact so (lq rfl lt0)
  ·refine zad (kr ?_)
   refine qm (.exact v2_j1) rfl ?_
   refine qa (.exact v2_j1) rfl ?_
   refine qa (.xb true) rfl ?_
   refine G_nil (zaa (k_ret ?_))
   obtain rfl := Option.some.inj h
   refine ke (pt (pt AF0 6 (.exact v2_j1)) 7 (.xb true)) [vecT Tryz.prog 27 1 zab v2_j1 x2_j1] rfl ?_ ⟨v2_j1, rfl, rfl⟩
   exact so (lq rfl (lq rfl lt0))
set_option maxHeartbeats 4000000 in
theorem m_pattern_node_compound_ok {w3 : Value} (self_pattern_node_match : Nd → (List UInt8) → (List (List UInt8)) → Option ((List (List UInt8)) × Bool)) (hself_pattern_node_match : ∀ ⦃w2 : Value⦄ (a0 : Nd) (a1 : List UInt8) (a2 : List (List UInt8)) (r : (List (List UInt8)) × Bool), self_pattern_node_match a0 a1 a2 = some r → Fun Tryz.prog 41 [(ndA a0), (.exact (.string (bs a1))), (.exact w2)] [vecT Tryz.prog 27 1 zab w2 a2] (fun a s => ∃ z0, a = .tup [.exact z0, .exact (.bool r.2)] ∧ s = [vecT Tryz.prog 27 1 zab z0 r.1])) (a0 : Nd) (a1 : Bool) (a2 : List (List UInt8)) (a3 : List (List UInt8)) (r : (List (List UInt8)) × Bool) (h : m_pattern_node_compound self_pattern_node_match a0 a1 a2 a3 = some r) : Fun Tryz.prog 73 [(ndA a0), (.exact (.bool a1)), (.row 1 zab a2), (.exact w3)] [vecT Tryz.prog 27 1 zab w3 a3] (fun a s => ∃ z0, a = .tup [.exact z0, .exact (.bool r.2)] ∧ s = [vecT Tryz.prog 27 1 zab z0 r.1]) := by
 unfold m_pattern_node_compound at h
 refine fun_of_awp Tryz.func73 rfl Tryz.ntmps73 (by simp) rfl (res2 rfl) fun E hE => k_end ?_
 refine zad (kr ?_)
 refine qa (.exact (.slice none 0 0)) rfl ?_
 refine qa (.xb false) rfl ?_
 refine G_nil (zaa (zad (zad (kr ?_))))
 refine qm (.xb a1) rfl ?_
 refine G_q rfl (op_not rfl ?_)
 refine G_nil (zaa ?_)
 refine kb (p := !a1) rfl h (fun hc h => ?_) (fun hc h => ?_)
 ·refine zad (kr ?_)
  refine qa (.exact (.slice none 0 0)) rfl ?_
  refine qa (.xb false) rfl ?_
  refine G_nil (zaa (k_ret (kC_ret ?_)))
  obtain rfl := Option.some.inj h
  refine ke (pt (pt AF0 8 (.exact (.slice none 0 0))) 9 (.xb false)) [vecT Tryz.prog 27 1 zab (.slice none 0 0) []] rfl ?_ ⟨(.slice none 0 0), rfl, rfl⟩
  refine Sub.trans (SubU.to SubU.drop) ?_
  refine Sub.trans (SubU.to (SubU.nilT (P := Tryz.prog) (t := 27) (n := 1) (enc := zab))) ?_
  exact so (lq rfl (lq rfl lt0))
 ·refine k_skip (zaa (zad (kr ?_)))
  refine qm (ndA a0) rfl ?_
  obtain ⟨y1, hy1, h⟩ := bnd1_some h
  refine G_q rfl (zan (c := zag y1) (ndA_un hy1) ?_)
  refine G_q rfl (zaj (o := 2) (c' := (List.drop 2 (zag y1))) (by kernel_rfl) rfl rfl ?_)
  refine G_q rfl (zal (a := .row 1 c_P_pattern_node y1.2.2) (by kernel_rfl) rfl rfl ?_)
  refine qm (.row 1 zab a2) rfl ?_
  refine qm (.exact w3) rfl ?_
  obtain ⟨y2, hy2, h⟩ := bnd1_some h
  refine G_l rfl (op_fun_1_1_1 (m_pattern_each_ok self_pattern_node_match hself_pattern_node_match _ _ _ _ hy2) Tryz.func74 (by kernel_rfl) (LEs.cons (AV.le_eq rfl) (LEs.cons (AV.le_eq rfl) (LEs.cons (AV.le_eq rfl) LEs.nil))) (fun v3 => ?_))
  refine G_q rfl (op_extract (av := .exact v3) rfl rfl ?_)
  refine G_q rfl (op_extract (av := .xb y2.2) rfl rfl ?_)
  refine qa (.exact v3) rfl ?_
  refine qa (.xb y2.2) rfl ?_
  refine G_nil (zaa (k_ret ?_))
  obtain rfl := Option.some.inj h
  refine ke (pt (pt AF0 8 (.exact v3)) 9 (.xb y2.2)) [vecT Tryz.prog 27 1 zab v3 y2.1] rfl ?_ ⟨v3, rfl, rfl⟩
  exact so (lq rfl (lq rfl lt0))
end Go.Proofs.YtpfdeahcjlfijaaGreat
/- The functions compute their models, by program. -/
namespace Go.Proofs.YtpfdeahcjlfijaaGreat
open Go.RowKit
attribute [local irreducible] AV.exact AV.top AV.row AV.ptr AV.agg AV.tup AV.eptr AV.fn AV.nilq AV.nilqn opA opB opM opR Quiet Loud Reads wpG awp den Sub SubU Pure Fun vecI vecT boxI CellsAll CellsOf OneC LEs LEss
set_option maxRecDepth 100000

set_option maxHeartbeats 4000000 in
theorem m_pattern_node_match_F_ok {w2 : Value} (self_pattern_node_match : Nd → (List UInt8) → (List (List UInt8)) → Option ((List (List UInt8)) × Bool)) (hself_pattern_node_match : ∀ ⦃w2 : Value⦄ (a0 : Nd) (a1 : List UInt8) (a2 : List (List UInt8)) (r : (List (List UInt8)) × Bool), self_pattern_node_match a0 a1 a2 = some r → Fun Tryz.prog 41 [(ndA a0), (.exact (.string (bs a1))), (.exact w2)] [vecT Tryz.prog 27 1 zab w2 a2] (fun a s => ∃ z0, a = .tup [.exact z0, .exact (.bool r.2)] ∧ s = [vecT Tryz.prog 27 1 zab z0 r.1])) (a0 : Nd) (a1 : List UInt8) (a2 : List (List UInt8)) (r : (List (List UInt8)) × Bool) (h : m_pattern_node_match_F self_pattern_node_match a0 a1 a2 = some r) : Fun Tryz.prog 41 [(ndA a0), (.exact (.string (bs a1))), (.exact w2)] [vecT Tryz.prog 27 1 zab w2 a2] (fun a s => ∃ z0, a = .tup [.exact z0, .exact (.bool r.2)] ∧ s = [vecT Tryz.prog 27 1 zab z0 r.1]) := by
 unfold m_pattern_node_match_F at h
 refine fun_of_awp Tryz.func41 rfl Tryz.ntmps41 (by simp) rfl (res2 rfl) fun E hE => k_end ?_
 refine zad (kr ?_)
 refine qa (.exact (.slice none 0 0)) rfl ?_
 refine qa (.xb false) rfl ?_
 refine G_nil (zaa (zad (kr ?_)))
 refine qm (.xs a1) rfl ?_
 obtain ⟨y1, hy1, h⟩ := bnd1_some h
 refine G_q rfl (zai (m_value_Kind_ok _ _ hy1) Tryz.func63 (by kernel_rfl) (LEs.cons (AV.le_eq rfl) LEs.nil) ?_)
 refine qm (.xs a1) rfl ?_
 obtain ⟨y2, hy2, h⟩ := bnd1_some h
 refine G_q rfl (zai (m_value_Parts_ok _ _ hy2) Tryz.func65 (by kernel_rfl) (LEs.cons (AV.le_eq rfl) LEs.nil) ?_)
 refine qa (.xi y1) rfl ?_
 refine qa (.row 1 zab y2) rfl ?_
 refine G_nil (zaa (zad (zad (kr ?_))))
 refine qm (ndA a0) rfl ?_
 obtain ⟨y3, hy3, h⟩ := bnd1_some h
 refine G_q rfl (zan (c := zag y3) (ndA_un hy3) ?_)
 refine G_q rfl (zaj (o := 0) (c' := (List.drop 0 (zag y3))) (by kernel_rfl) rfl rfl ?_)
 refine G_q rfl (zal (a := .xi y3.1) (by kernel_rfl) rfl rfl ?_)
 refine G_nil (zaa (k_block (zad (kr ?_))))
 refine G_q rfl (op_eql rfl rfl ?_)
 refine qa (.xb (decide (y3.1 = 30))) rfl ?_
 refine G_nil (zaa ?_)
 refine kd (p := y3.1 = 30) rfl h (fun hc h => ?_) (fun hc h => ?_)
 ·refine zad (kr ?_)
  refine qm (.exact w2) rfl ?_
  refine qm (.xs a1) rfl ?_
  refine G_q rfl (op_litT (n := 1) (enc := zab) [a1] (CellsAll.cons rfl CellsOf.str CellsAll.nil) rfl (by kernel_rfl) (LEss.cons (LEs.cons (AV.le_eq rfl) LEs.nil) LEss.nil) ?_)
  obtain ⟨n4, h⟩ := need_some h
  refine G_l rfl (op_appT (by kernel_rfl) rfl rfl oc_c_api_Value n4 (fun v5 => ?_))
  refine qa (.exact v5) rfl ?_
  refine qa (.xb true) rfl ?_
  refine G_nil (zaa (k_ret (kB_ret (kC_ret ?_))))
  obtain rfl := Option.some.inj h
  refine ke (pt (pt AF0 6 (.exact v5)) 7 (.xb true)) [vecT Tryz.prog 27 1 zab v5 (a2 ++ [a1])] rfl ?_ ⟨v5, rfl, rfl⟩
  exact so (lq rfl (lq rfl lt0))
 ·refine zad (kr ?_)
  refine G_q rfl (op_eql rfl rfl ?_)
  refine qa (.xb (decide (y3.1 = 31))) rfl ?_
  refine G_nil (zaa ?_)
  refine kd (p := y3.1 = 31) rfl h (fun hc h => ?_) (fun hc h => ?_)
  ·refine zad (kr ?_)
   refine qm (.exact w2) rfl ?_
   refine qa (.exact w2) rfl ?_
   refine qa (.xb true) rfl ?_
   refine G_nil (zaa (k_ret (kB_ret (kC_ret ?_))))
   obtain rfl := Option.some.inj h
   refine ke (pt (pt AF0 6 (.exact w2)) 7 (.xb true)) [vecT Tryz.prog 27 1 zab w2 a2] rfl ?_ ⟨w2, rfl, rfl⟩
   exact so (lq rfl (lq rfl lt0))
  ·refine zad (kr ?_)
   refine G_q rfl (op_eql rfl rfl ?_)
   refine qa (.xb (decide (y3.1 = 32))) rfl ?_
   refine G_nil (zaa ?_)
   refine kd (p := y3.1 = 32) rfl h (fun hc h => ?_) (fun hc h => ?_)
   ·refine k_join1_0 h (fun (x7_j6 : Bool) => (pt (pt AF0 6 (.exact w2)) 7 (.xb x7_j6))) (fun (x7_j6 : Bool) => [vecT Tryz.prog 27 1 zab w2 a2]) (fun k6 h => ?_) (fun x7_j6 h => ?_)
    ·refine k_plan [] [(0, 0), (0, 1), (0, 2), (0, 3), (0, 4), (0, 5), (0, 6), (0, 7), (0, 8), (0, 9), (0, 10), (0, 11), (0, 12), (0, 13)] hmixP (by kernel_rfl) ?_
     refine P_q no34_0 rfl (zaf (av := .exact w2) rfl ?_)
     refine P_q no34_0 rfl (zaf (av := .xi y1) rfl ?_)
     refine P_q no34_0 rfl (op_eql rfl rfl ?_)
     refine P_q no34_0 rfl (zaf (av := .xb (decide (y1 = 1))) rfl ?_)
     refine P_split (p := y1 = 1) 34 rfl (fun hc => ?_) (fun hc => ?_)
     ·replace h := ite_t h hc
      refine Py_q no34_0 rfl rfl rfl (zaf (av := .xs a1) rfl ?_)
      obtain ⟨y9, hy9, h⟩ := bnd1_some h
      refine Py_q no34_0 rfl rfl rfl (zai (m_value_Number_ok _ _ hy9) Tryz.func72 (by kernel_rfl) (LEs.cons (AV.le_eq rfl) LEs.nil) ?_)
      refine Py_q no34_0 rfl rfl rfl (zaf (av := ndA a0) rfl ?_)
      obtain ⟨y10, hy10, h⟩ := bnd1_some h
      refine Py_q no34_0 rfl rfl rfl (zan (c := zag y10) (ndA_un hy10) ?_)
      refine Py_q no34_0 rfl rfl rfl (zaj (o := 1) (c' := (List.drop 1 (zag y10))) (by kernel_rfl) rfl rfl ?_)
      refine Py_q no34_0 rfl rfl rfl (zal (a := .xi y10.2.1) (by kernel_rfl) rfl rfl ?_)
      refine Py_q no34_0 rfl rfl rfl (op_eql rfl rfl ?_)
      refine P_q no34_0 rfl (zak rfl (av := .xb (decide (y9 = y10.2.1))) rfl ?_)
      refine P_q no34_0 rfl (op_assign (av := .exact w2) rfl ?_)
      refine P_q no34_0 rfl (op_assign (av := .xb (decide (y9 = y10.2.1))) rfl ?_)
      refine P_nil ?_
      refine zac ⟨_, h, ?_⟩
      exact so (lq rfl (lq rfl lt0))
     ·replace h := ite_f h hc
      refine P_n no34_0 rfl rfl rfl ?_
      refine P_n no34_0 rfl rfl rfl ?_
      refine P_n no34_0 rfl rfl rfl ?_
      refine P_n no34_0 rfl rfl rfl ?_
      refine P_n no34_0 rfl rfl rfl ?_
      refine P_n no34_0 rfl rfl rfl ?_
      refine P_n no34_0 rfl rfl rfl ?_
      refine P_q no34_0 rfl (zah rfl (av := .xb false) rfl ?_)
      refine P_q no34_0 rfl (op_assign (av := .exact w2) rfl ?_)
      refine P_q no34_0 rfl (op_assign (av := .xb false) rfl ?_)
      refine P_nil ?_
      refine zac ⟨_, h, ?_⟩
      exact so (lq rfl (lq rfl lt0))
    ·refine k_ret (kB_ret (kC_ret ?_))
     obtain rfl := Option.some.inj h
     refine ke (pt (pt AF0 6 (.exact w2)) 7 (.xb x7_j6)) [vecT Tryz.prog 27 1 zab w2 a2] rfl ?_ ⟨w2, rfl, rfl⟩
     exact so (lq rfl (lq rfl lt0))
   ·refine zad (kr ?_)
    refine G_q rfl (op_eql rfl rfl ?_)
    refine qa (.xb (decide (y3.1 = 33))) rfl ?_
    refine G_nil (zaa ?_)
    refine kd (p := y3.1 = 33) rfl h (fun hc h => ?_) (fun hc h => ?_)
    ·refine k_join1_0 h (fun (x7_j11 : Bool) => (pt (pt AF0 6 (.exact w2)) 7 (.xb x7_j11))) (fun (x7_j11 : Bool) => [vecT Tryz.prog 27 1 zab w2 a2]) (fun k11 h => ?_) (fun x7_j11 h => ?_)
     ·refine k_plan [] [(0, 0), (0, 1), (0, 2), (0, 3), (0, 4), (0, 5), (0, 6), (0, 7), (0, 8), (0, 9), (0, 10), (0, 11), (0, 12), (0, 13)] hmixP (by kernel_rfl) ?_
      refine P_q no34_0 rfl (zaf (av := .exact w2) rfl ?_)
      refine P_q no34_0 rfl (zaf (av := .xi y1) rfl ?_)
      refine P_q no34_0 rfl (op_eql rfl rfl ?_)
      refine P_q no34_0 rfl (zaf (av := .xb (decide (y1 = 2))) rfl ?_)
      refine P_split (p := y1 = 2) 48 rfl (fun hc => ?_) (fun hc => ?_)
      ·replace h := ite_t h hc
       refine Py_q no34_0 rfl rfl rfl (zaf (av := .xs a1) rfl ?_)
       obtain ⟨y14, hy14, h⟩ := bnd1_some h
       refine Py_q no34_0 rfl rfl rfl (zai (m_value_Number_ok _ _ hy14) Tryz.func72 (by kernel_rfl) (LEs.cons (AV.le_eq rfl) LEs.nil) ?_)
       refine Py_q no34_0 rfl rfl rfl (zaf (av := ndA a0) rfl ?_)
       obtain ⟨y15, hy15, h⟩ := bnd1_some h
       refine Py_q no34_0 rfl rfl rfl (zan (c := zag y15) (ndA_un hy15) ?_)
       refine Py_q no34_0 rfl rfl rfl (zaj (o := 1) (c' := (List.drop 1 (zag y15))) (by kernel_rfl) rfl rfl ?_)
       refine Py_q no34_0 rfl rfl rfl (zal (a := .xi y15.2.1) (by kernel_rfl) rfl rfl ?_)
       refine Py_q no34_0 rfl rfl rfl (op_eql rfl rfl ?_)
       refine P_q no34_0 rfl (zak rfl (av := .xb (decide (y14 = y15.2.1))) rfl ?_)
       refine P_q no34_0 rfl (op_assign (av := .exact w2) rfl ?_)
       refine P_q no34_0 rfl (op_assign (av := .xb (decide (y14 = y15.2.1))) rfl ?_)
       refine P_nil ?_
       refine zac ⟨_, h, ?_⟩
       exact so (lq rfl (lq rfl lt0))
      ·replace h := ite_f h hc
       refine P_n no34_0 rfl rfl rfl ?_
       refine P_n no34_0 rfl rfl rfl ?_
       refine P_n no34_0 rfl rfl rfl ?_
       refine P_n no34_0 rfl rfl rfl ?_
       refine P_n no34_0 rfl rfl rfl ?_
       refine P_n no34_0 rfl rfl rfl ?_
       refine P_n no34_0 rfl rfl rfl ?_
       refine P_q no34_0 rfl (zah rfl (av := .xb false) rfl ?_)
       refine P_q no34_0 rfl (op_assign (av := .exact w2) rfl ?_)
       refine P_q no34_0 rfl (op_assign (av := .xb false) rfl ?_)
       refine P_nil ?_
       refine zac ⟨_, h, ?_⟩
       exact so (lq rfl (lq rfl lt0))
     ·refine k_ret (kB_ret (kC_ret ?_))
      obtain rfl := Option.some.inj h
      refine ke (pt (pt AF0 6 (.exact w2)) 7 (.xb x7_j11)) [vecT Tryz.prog 27 1 zab w2 a2] rfl ?_ ⟨w2, rfl, rfl⟩
      exact so (lq rfl (lq rfl lt0))
    ·refine zad (kr ?_)
     refine G_q rfl (op_eql rfl rfl ?_)
     refine qa (.xb (decide (y3.1 = 34))) rfl ?_
     refine G_nil (zaa ?_)
     refine kd (p := y3.1 = 34) rfl h (fun hc h => ?_) (fun hc h => ?_)
     ·refine zad (kr ?_)
      refine qm (ndA a0) rfl ?_
      refine qm (.xi y1) rfl ?_
      refine G_q rfl (op_eql rfl rfl ?_)
      refine qm (.row 1 zab y2) rfl ?_
      refine qm (.exact w2) rfl ?_
      obtain ⟨y16, hy16, h⟩ := bnd1_some h
      refine G_l rfl (op_fun_1_1_1 (m_pattern_node_compound_ok self_pattern_node_match hself_pattern_node_match _ _ _ _ _ hy16) Tryz.func73 (by kernel_rfl) (LEs.cons (AV.le_eq rfl) (LEs.cons (AV.le_eq rfl) (LEs.cons (AV.le_eq rfl) (LEs.cons (AV.le_eq rfl) LEs.nil)))) (fun v17 => ?_))
      refine G_q rfl (op_extract (av := .exact v17) rfl rfl ?_)
      refine G_q rfl (op_extract (av := .xb y16.2) rfl rfl ?_)
      refine qa (.exact v17) rfl ?_
      refine qa (.xb y16.2) rfl ?_
      refine G_nil (zaa (k_ret (kB_ret (kC_ret ?_))))
      obtain rfl := Option.some.inj h
      refine ke (pt (pt AF0 6 (.exact v17)) 7 (.xb y16.2)) [vecT Tryz.prog 27 1 zab v17 y16.1] rfl ?_ ⟨v17, rfl, rfl⟩
      exact so (lq rfl (lq rfl lt0))
     ·refine zad (kr ?_)
      refine G_q rfl (op_eql rfl rfl ?_)
      refine qa (.xb (decide (y3.1 = 35))) rfl ?_
      refine G_nil (zaa ?_)
      refine kd (p := y3.1 = 35) rfl h (fun hc h => ?_) (fun hc h => ?_)
      ·refine zad (kr ?_)
       refine qm (ndA a0) rfl ?_
       refine qm (.xi y1) rfl ?_
       refine G_q rfl (op_eql rfl rfl ?_)
       refine qm (.row 1 zab y2) rfl ?_
       refine qm (.exact w2) rfl ?_
       obtain ⟨y18, hy18, h⟩ := bnd1_some h
       refine G_l rfl (op_fun_1_1_1 (m_pattern_node_compound_ok self_pattern_node_match hself_pattern_node_match _ _ _ _ _ hy18) Tryz.func73 (by kernel_rfl) (LEs.cons (AV.le_eq rfl) (LEs.cons (AV.le_eq rfl) (LEs.cons (AV.le_eq rfl) (LEs.cons (AV.le_eq rfl) LEs.nil)))) (fun v19 => ?_))
       refine G_q rfl (op_extract (av := .exact v19) rfl rfl ?_)
       refine G_q rfl (op_extract (av := .xb y18.2) rfl rfl ?_)
       refine qa (.exact v19) rfl ?_
       refine qa (.xb y18.2) rfl ?_
       refine G_nil (zaa (k_ret (kB_ret (kC_ret ?_))))
       obtain rfl := Option.some.inj h
       refine ke (pt (pt AF0 6 (.exact v19)) 7 (.xb y18.2)) [vecT Tryz.prog 27 1 zab v19 y18.1] rfl ?_ ⟨v19, rfl, rfl⟩
       exact so (lq rfl (lq rfl lt0))
      ·refine zad (kr ?_)
       refine G_q rfl (op_eql rfl rfl ?_)
       refine qa (.xb (decide (y3.1 = 37))) rfl ?_
       refine G_nil (zaa ?_)
       refine kd (p := y3.1 = 37) rfl h (fun hc h => ?_) (fun hc h => ?_)
       ·refine zad (kr ?_)
        refine qm (ndA a0) rfl ?_
        refine qm (.xi y1) rfl ?_
        refine G_q rfl (op_eql rfl rfl ?_)
        refine qm (.row 1 zab y2) rfl ?_
        refine qm (.exact w2) rfl ?_
        obtain ⟨y20, hy20, h⟩ := bnd1_some h
        refine G_l rfl (op_fun_1_1_1 (m_pattern_node_compound_ok self_pattern_node_match hself_pattern_node_match _ _ _ _ _ hy20) Tryz.func73 (by kernel_rfl) (LEs.cons (AV.le_eq rfl) (LEs.cons (AV.le_eq rfl) (LEs.cons (AV.le_eq rfl) (LEs.cons (AV.le_eq rfl) LEs.nil)))) (fun v21 => ?_))
        refine G_q rfl (op_extract (av := .exact v21) rfl rfl ?_)
        refine G_q rfl (op_extract (av := .xb y20.2) rfl rfl ?_)
        refine qa (.exact v21) rfl ?_
        refine qa (.xb y20.2) rfl ?_
        refine G_nil (zaa (k_ret (kB_ret (kC_ret ?_))))
        obtain rfl := Option.some.inj h
        refine ke (pt (pt AF0 6 (.exact v21)) 7 (.xb y20.2)) [vecT Tryz.prog 27 1 zab v21 y20.1] rfl ?_ ⟨v21, rfl, rfl⟩
        exact so (lq rfl (lq rfl lt0))
       ·refine zad (kr ?_)
        refine G_q rfl (op_eql rfl rfl ?_)
        refine qa (.xb (decide (y3.1 = 38))) rfl ?_
        refine G_nil (zaa ?_)
        refine kd (p := y3.1 = 38) rfl h (fun hc h => ?_) (fun hc h => ?_)
        ·refine zad ?_
         refine k_join1_0 h (fun (x101_j30 : Bool) => (pt (pt (pt (pt AF0 0 (ndA a0)) 2 (.exact w2)) 9 (.row 1 zab y2)) 101 (.xb x101_j30))) (fun (x101_j30 : Bool) => [vecT Tryz.prog 27 1 zab w2 a2]) (fun k30 h => ?_) (fun x101_j30 h => ?_)
         ·refine k_plan [] [(0, 0), (0, 1), (0, 2), (0, 3), (0, 4), (0, 5), (0, 6), (0, 7), (0, 8), (0, 9), (0, 10), (0, 11), (0, 12)] hmixP (by kernel_rfl) ?_
          refine P_q no34_0 rfl (zaf (av := .xi y1) rfl ?_)
          refine P_q no34_0 rfl (op_neq rfl rfl ?_)
          refine P_q no34_0 rfl (zaf (av := .xb (decide (¬ y1 = 7))) rfl ?_)
          refine P_split (p := ¬ y1 = 7) 91 rfl (fun hc => ?_) (fun hc => ?_)
          ·replace h := ite_t h hc
           refine P_n no34_0 rfl rfl rfl ?_
           refine P_n no34_0 rfl rfl rfl ?_
           refine P_n no34_0 rfl rfl rfl ?_
           refine P_n no34_0 rfl rfl rfl ?_
           refine P_n no34_0 rfl rfl rfl ?_
           refine P_n no34_0 rfl rfl rfl ?_
           refine P_n no34_0 rfl rfl rfl ?_
           refine P_n no34_0 rfl rfl rfl ?_
           refine P_n no34_0 rfl rfl rfl ?_
           refine P_q no34_0 rfl (zak rfl (av := .xb true) rfl ?_)
           refine P_nil ?_
           refine zac ⟨_, h, ?_⟩
           exact so (l4 rfl rfl rfl rfl lt0)
          ·replace h := ite_f h hc
           refine Py_q no34_0 rfl rfl rfl (zaf (av := .row 1 zab y2) rfl ?_)
           obtain ⟨n34, h⟩ := need_some h
           refine Py_q no34_0 rfl rfl rfl (zam (by kernel_rfl) rfl rfl n34.1 n34.2 ?_)
           refine Py_q no34_0 rfl rfl rfl (zal (a := .xs (gi y2 0)) (by kernel_rfl) rfl rfl ?_)
           obtain ⟨y35, hy35, h⟩ := bnd1_some h
           refine Py_q no34_0 rfl rfl rfl (zai (m_value_Number_ok _ _ hy35) Tryz.func72 (by kernel_rfl) (LEs.cons (AV.le_eq rfl) LEs.nil) ?_)
           refine Py_q no34_0 rfl rfl rfl (zaf (av := ndA a0) rfl ?_)
           obtain ⟨y36, hy36, h⟩ := bnd1_some h
           refine Py_q no34_0 rfl rfl rfl (zan (c := zag y36) (ndA_un hy36) ?_)
           refine Py_q no34_0 rfl rfl rfl (zaj (o := 1) (c' := (List.drop 1 (zag y36))) (by kernel_rfl) rfl rfl ?_)
           refine Py_q no34_0 rfl rfl rfl (zal (a := .xi y36.2.1) (by kernel_rfl) rfl rfl ?_)
           refine Py_q no34_0 rfl rfl rfl (op_neq rfl rfl ?_)
           refine P_q no34_0 rfl (zah rfl (av := .xb (decide (¬ y35 = y36.2.1))) rfl ?_)
           refine P_nil ?_
           refine zac ⟨_, h, ?_⟩
           exact so (l4 rfl rfl rfl rfl lt0)
         ·refine kb (p := x101_j30) rfl h (fun hc h => ?_) (fun hc h => ?_)
          ·refine zad (kr ?_)
           refine qa (.exact (.slice none 0 0)) rfl ?_
           refine qa (.xb false) rfl ?_
           refine G_nil (zaa (k_ret (kC_ret (kB_ret (kC_ret ?_)))))
           obtain rfl := Option.some.inj h
           refine ke (pt (pt AF0 6 (.exact (.slice none 0 0))) 7 (.xb false)) [vecT Tryz.prog 27 1 zab (.slice none 0 0) []] rfl ?_ ⟨(.slice none 0 0), rfl, rfl⟩
           refine Sub.trans (SubU.to SubU.drop) ?_
           refine Sub.trans (SubU.to (SubU.nilT (P := Tryz.prog) (t := 27) (n := 1) (enc := zab))) ?_
           exact so (lq rfl (lq rfl lt0))
          ·refine k_skip (zaa (zad ?_))
           refine k_plan [] [(0, 0), (0, 1), (0, 2), (0, 3), (0, 4), (0, 5), (0, 6), (2, 7), (0, 8), (0, 9), (0, 10), (0, 11)] hmixP (by kernel_rfl) ?_
           refine P_q no34_0 rfl (zaf (av := ndA a0) rfl ?_)
           obtain ⟨y37, hy37, h⟩ := bnd1_some h
           refine P_q no34_0 rfl (zan (c := zag y37) (ndA_un hy37) ?_)
           refine P_q no34_0 rfl (zaj (o := 2) (c' := (List.drop 2 (zag y37))) (by kernel_rfl) rfl rfl ?_)
           refine P_q no34_0 rfl (zal (a := .row 1 c_P_pattern_node y37.2.2) (by kernel_rfl) rfl rfl ?_)
           refine P_q no34_0 rfl (zaf (av := .row 1 zab y2) rfl ?_)
           obtain ⟨n38, h⟩ := need_some h
           refine P_q no34_0 rfl (op_slice_rowd (by kernel_rfl) rfl (bnd_some rfl) bnd_none (by decide) n38 (Int.le_refl _) ?_)
           refine P_q no34_0 rfl (zaf (av := .exact w2) rfl ?_)
           obtain ⟨y39, hy39, h⟩ := bnd1_some h
           refine P_l rfl (op_fun_1_1_1 (m_pattern_each_ok self_pattern_node_match hself_pattern_node_match _ _ _ _ hy39) Tryz.func74 (by kernel_rfl) (LEs.cons (AV.le_eq rfl) (LEs.cons (AV.le_eq rfl) (LEs.cons (AV.le_eq rfl) LEs.nil))) (fun v40 => ?_))
           refine P_q no34_0 rfl (op_extract (av := .exact v40) rfl rfl ?_)
           refine P_q no34_0 rfl (op_extract (av := .xb y39.2) rfl rfl ?_)
           refine P_q no34_0 rfl (op_assign (av := .exact v40) rfl ?_)
           refine P_q no34_0 rfl (op_assign (av := .xb y39.2) rfl ?_)
           refine P_nil (zaa (k_ret (kB_ret (kC_ret ?_))))
           obtain rfl := Option.some.inj h
           refine ke (pt (pt AF0 6 (.exact v40)) 7 (.xb y39.2)) [vecT Tryz.prog 27 1 zab v40 y39.1] rfl ?_ ⟨v40, rfl, rfl⟩
           exact so (lq rfl (lq rfl lt0))
        ·refine zad (kr ?_)
         refine G_q rfl (op_eql rfl rfl ?_)
         refine qa (.xb (decide (y3.1 = 36))) rfl ?_
         refine G_nil (zaa ?_)
         refine kd (p := y3.1 = 36) rfl h (fun hc h => ?_) (fun hc h => ?_)
         ·refine zad ?_
          refine k_join1_0 h (fun (x126_j45 : Bool) => (pt (pt (pt (pt AF0 0 (ndA a0)) 2 (.exact w2)) 9 (.row 1 zab y2)) 126 (.xb x126_j45))) (fun (x126_j45 : Bool) => [vecT Tryz.prog 27 1 zab w2 a2]) (fun k45 h => ?_) (fun x126_j45 h => ?_)
          ·refine kr ?_
           refine qm (.xi y1) rfl ?_
           refine G_q rfl (op_neq rfl rfl ?_)
           refine qm (.xb (decide (¬ y1 = 4))) rfl ?_
           refine G_split (p := ¬ y1 = 4) 116 rfl (fun hc => ?_) (fun hc => ?_)
           ·replace h := ite_t h hc
            refine G_n rfl rfl (G_n rfl rfl (G_n rfl rfl (G_n rfl rfl (G_n rfl rfl (G_n rfl rfl (G_n rfl rfl (G_n rfl rfl (G_n rfl rfl ?_))))))))
            refine G_q rfl (zak rfl (av := .xb true) rfl ?_)
            refine G_nil ?_
            refine zac ⟨_, h, ?_⟩
            exact so (l4 rfl rfl rfl rfl lt0)
           ·replace h := ite_f h hc
            refine Gy_q rfl rfl rfl (zaf (av := .row 1 zab y2) rfl ?_)
            refine Gy_q rfl rfl rfl (op_len_row (by kernel_rfl) rfl ?_)
            refine Gy_q rfl rfl rfl (zaf (av := ndA a0) rfl ?_)
            obtain ⟨y47, hy47, h⟩ := bnd1_some h
            refine Gy_q rfl rfl rfl (zan (c := zag y47) (ndA_un hy47) ?_)
            refine Gy_q rfl rfl rfl (zaj (o := 2) (c' := (List.drop 2 (zag y47))) (by kernel_rfl) rfl rfl ?_)
            refine Gy_q rfl rfl rfl (zal (a := .row 1 c_P_pattern_node y47.2.2) (by kernel_rfl) rfl rfl ?_)
            refine Gy_q rfl rfl rfl (op_len_row (by kernel_rfl) rfl ?_)
            refine Gy_q rfl rfl rfl (op_sub rfl rfl rfl ?_)
            refine Gy_q rfl rfl rfl (op_lss rfl rfl ?_)
            refine G_q rfl (zah rfl (av := .xb (decide ((List.length y2 : Int) < (i64 ((List.length y47.2.2 : Int) - 1))))) rfl ?_)
            refine G_nil ?_
            refine zac ⟨_, h, ?_⟩
            exact so (l4 rfl rfl rfl rfl lt0)
          ·refine kb (p := x126_j45) rfl h (fun hc h => ?_) (fun hc h => ?_)
           ·refine zad (kr ?_)
            refine qa (.exact (.slice none 0 0)) rfl ?_
            refine qa (.xb false) rfl ?_
            refine G_nil (zaa (k_ret (kC_ret (kB_ret (kC_ret ?_)))))
            obtain rfl := Option.some.inj h
            refine ke (pt (pt AF0 6 (.exact (.slice none 0 0))) 7 (.xb false)) [vecT Tryz.prog 27 1 zab (.slice none 0 0) []] rfl ?_ ⟨(.slice none 0 0), rfl, rfl⟩
            refine Sub.trans (SubU.to SubU.drop) ?_
            refine Sub.trans (SubU.to (SubU.nilT (P := Tryz.prog) (t := 27) (n := 1) (enc := zab))) ?_
            exact so (lq rfl (lq rfl lt0))
           ·refine k_skip (zaa (zad ?_))
            refine k_plan [] [(0, 0), (0, 1), (0, 2), (0, 3), (0, 4), (0, 5), (0, 6), (0, 7), (0, 8), (0, 9), (0, 10), (0, 11), (0, 12), (0, 13), (0, 14), (0, 15), (0, 16), (0, 17), (0, 18), (0, 19)] hmixP (by kernel_rfl) ?_
            refine P_q no34_0 rfl (zaf (av := ndA a0) rfl ?_)
            obtain ⟨y48, hy48, h⟩ := bnd1_some h
            refine P_q no34_0 rfl (zan (c := zag y48) (ndA_un hy48) ?_)
            refine P_q no34_0 rfl (zaj (o := 1) (c' := (List.drop 1 (zag y48))) (by kernel_rfl) rfl rfl ?_)
            refine P_q no34_0 rfl (zal (a := .xi y48.2.1) (by kernel_rfl) rfl rfl ?_)
            refine P_q no34_0 rfl (zaf (av := .row 1 zab y2) rfl ?_)
            refine P_q no34_0 rfl (op_len_row (by kernel_rfl) rfl ?_)
            refine P_q no34_0 rfl (zaf (av := ndA a0) rfl ?_)
            obtain ⟨y49, hy49, h⟩ := bnd1_some h
            refine P_q no34_0 rfl (zan (c := zag y49) (ndA_un hy49) ?_)
            refine P_q no34_0 rfl (zaj (o := 2) (c' := (List.drop 2 (zag y49))) (by kernel_rfl) rfl rfl ?_)
            refine P_q no34_0 rfl (zal (a := .row 1 c_P_pattern_node y49.2.2) (by kernel_rfl) rfl rfl ?_)
            refine P_q no34_0 rfl (op_len_row (by kernel_rfl) rfl ?_)
            refine P_q no34_0 rfl (op_sub rfl rfl rfl ?_)
            refine P_q no34_0 rfl (zaf (av := ndA a0) rfl ?_)
            obtain ⟨y50, hy50, h⟩ := bnd1_some h
            refine P_q no34_0 rfl (zan (c := zag y50) (ndA_un hy50) ?_)
            refine P_q no34_0 rfl (zaj (o := 1) (c' := (List.drop 1 (zag y50))) (by kernel_rfl) rfl rfl ?_)
            refine P_q no34_0 rfl (zal (a := .xi y50.2.1) (by kernel_rfl) rfl rfl ?_)
            refine P_q no34_0 rfl (op_sub rfl rfl rfl ?_)
            refine P_q no34_0 rfl (op_sub rfl rfl rfl ?_)
            refine P_q no34_0 rfl (op_assign (av := .xi y48.2.1) rfl ?_)
            refine P_q no34_0 rfl (op_assign (av := .xi (i64 ((List.length y2 : Int) - (i64 ((i64 ((List.length y49.2.2 : Int) - 1)) - y50.2.1))))) rfl ?_)
            refine P_nil (zaa (zad ?_))
            refine k_plan [] [(0, 0), (0, 1), (0, 2), (0, 3), (0, 4), (0, 5), (0, 6), (0, 7), (0, 8), (0, 9), (0, 10), (0, 11), (0, 12), (0, 13), (0, 14), (0, 15), (0, 16), (0, 17), (0, 18), (2, 19), (0, 20), (0, 21), (0, 22), (0, 23)] hmixP (by kernel_rfl) ?_
            refine P_q no34_0 rfl (zaf (av := ndA a0) rfl ?_)
            obtain ⟨y51, hy51, h⟩ := bnd1_some h
            refine P_q no34_0 rfl (zan (c := zag y51) (ndA_un hy51) ?_)
            refine P_q no34_0 rfl (zaj (o := 2) (c' := (List.drop 2 (zag y51))) (by kernel_rfl) rfl rfl ?_)
            refine P_q no34_0 rfl (zal (a := .row 1 c_P_pattern_node y51.2.2) (by kernel_rfl) rfl rfl ?_)
            refine P_q no34_0 rfl (zaf (av := .row 1 zab y2) rfl ?_)
            refine P_q no34_0 rfl (zaf (av := .xi y48.2.1) rfl ?_)
            obtain ⟨n52, h⟩ := need_some h
            refine P_q no34_0 rfl (op_slice_rowt (by kernel_rfl) rfl bnd_none (bnd_some rfl) (Int.le_refl 0) n52.1 n52.2 ?_)
            refine P_q no34_0 rfl (zaf (av := .row 1 zab y2) rfl ?_)
            refine P_q no34_0 rfl (zaf (av := .xi y48.2.1) rfl ?_)
            refine P_q no34_0 rfl (zaf (av := .xi (i64 ((List.length y2 : Int) - (i64 ((i64 ((List.length y49.2.2 : Int) - 1)) - y50.2.1))))) rfl ?_)
            obtain ⟨n53, h⟩ := need_some h
            refine P_q no34_0 rfl (op_slice_row (by kernel_rfl) rfl (bnd_some rfl) (bnd_some rfl) n53.1 n53.2.1 n53.2.2 ?_)
            obtain ⟨y54, hy54, h⟩ := bnd1_some h
            refine P_q no34_0 rfl (zai (m_value_Seq_ok _ _ hy54) Tryz.func60 (by kernel_rfl) (LEs.cons (AV.le_eq rfl) LEs.nil) ?_)
            refine P_q no34_0 rfl (op_litT (n := 1) (enc := zab) [y54] (CellsAll.cons rfl CellsOf.str CellsAll.nil) rfl (by kernel_rfl) (LEss.cons (LEs.cons (AV.le_eq rfl) LEs.nil) LEss.nil) ?_)
            refine P_q no34_0 rfl (zaf (av := .row 1 zab y2) rfl ?_)
            refine P_q no34_0 rfl (zaf (av := .xi (i64 ((List.length y2 : Int) - (i64 ((i64 ((List.length y49.2.2 : Int) - 1)) - y50.2.1))))) rfl ?_)
            obtain ⟨n55, h⟩ := need_some h
            refine P_q no34_0 rfl (op_slice_rowd (by kernel_rfl) rfl (bnd_some rfl) bnd_none n55.1 n55.2 (Int.le_refl _) ?_)
            refine P_q no34_0 rfl (op_litT (n := 1) (enc := c_L_api_Value) [List.take (Int.toNat y48.2.1) y2, [y54], List.drop (Int.toNat (i64 ((List.length y2 : Int) - (i64 ((i64 ((List.length y49.2.2 : Int) - 1)) - y50.2.1))))) y2] (CellsAll.cons rfl CellsOf.row (CellsAll.cons rfl CellsOf.row (CellsAll.cons rfl CellsOf.row CellsAll.nil))) rfl (by kernel_rfl) (LEss.cons (LEs.cons (AV.le_eq rfl) LEs.nil) (LEss.cons (LEs.cons (AV.le_eq rfl) LEs.nil) (LEss.cons (LEs.cons (AV.le_eq rfl) LEs.nil) LEss.nil))) ?_)
            obtain ⟨y56, hy56, h⟩ := bnd1_some h
            refine P_q no34_0 rfl (zai (m_slices_Concat_L_api_Value_api_Value_ok _ _ hy56) Tryz.func64 (by kernel_rfl) (LEs.cons (AV.le_eq rfl) LEs.nil) ?_)
            refine P_q no34_0 rfl (zaf (av := .exact w2) rfl ?_)
            obtain ⟨y57, hy57, h⟩ := bnd1_some h
            refine P_l rfl (op_fun_1_1_1 (m_pattern_each_ok self_pattern_node_match hself_pattern_node_match _ _ _ _ hy57) Tryz.func74 (by kernel_rfl) (LEs.cons (AV.le_eq rfl) (LEs.cons (AV.le_eq rfl) (LEs.cons (AV.le_eq rfl) LEs.nil))) (fun v58 => ?_))
            refine P_q no34_0 rfl (op_extract (av := .exact v58) rfl rfl ?_)
            refine P_q no34_0 rfl (op_extract (av := .xb y57.2) rfl rfl ?_)
            refine P_q no34_0 rfl (op_assign (av := .exact v58) rfl ?_)
            refine P_q no34_0 rfl (op_assign (av := .xb y57.2) rfl ?_)
            refine P_nil (zaa (k_ret (kB_ret (kC_ret ?_))))
            obtain rfl := Option.some.inj h
            refine ke (pt (pt AF0 6 (.exact v58)) 7 (.xb y57.2)) [vecT Tryz.prog 27 1 zab v58 y57.1] rfl ?_ ⟨v58, rfl, rfl⟩
            exact so (lq rfl (lq rfl lt0))
         ·refine zad (kr ?_)
          refine G_q rfl (op_eql rfl rfl ?_)
          refine qa (.xb (decide (y3.1 = 40))) rfl ?_
          refine G_nil (zaa ?_)
          refine kd (p := y3.1 = 40) rfl h (fun hc h => ?_) (fun hc h => ?_)
          ·refine zad (kr ?_)
           refine qm (ndA a0) rfl ?_
           obtain ⟨y59, hy59, h⟩ := bnd1_some h
           refine G_q rfl (zan (c := zag y59) (ndA_un hy59) ?_)
           refine G_q rfl (zaj (o := 2) (c' := (List.drop 2 (zag y59))) (by kernel_rfl) rfl rfl ?_)
           refine G_q rfl (zal (a := .row 1 c_P_pattern_node y59.2.2) (by kernel_rfl) rfl rfl ?_)
           refine qm (.xs a1) rfl ?_
           refine qm (.xs a1) rfl ?_
           refine G_q rfl (op_litT (n := 1) (enc := zab) [a1, a1] (CellsAll.cons rfl CellsOf.str (CellsAll.cons rfl CellsOf.str CellsAll.nil)) rfl (by kernel_rfl) (LEss.cons (LEs.cons (AV.le_eq rfl) LEs.nil) (LEss.cons (LEs.cons (AV.le_eq rfl) LEs.nil) LEss.nil)) ?_)
           refine qm (.exact w2) rfl ?_
           obtain ⟨y60, hy60, h⟩ := bnd1_some h
           refine G_l rfl (op_fun_1_1_1 (m_pattern_each_ok self_pattern_node_match hself_pattern_node_match _ _ _ _ hy60) Tryz.func74 (by kernel_rfl) (LEs.cons (AV.le_eq rfl) (LEs.cons (AV.le_eq rfl) (LEs.cons (AV.le_eq rfl) LEs.nil))) (fun v61 => ?_))
           refine G_q rfl (op_extract (av := .exact v61) rfl rfl ?_)
           refine G_q rfl (op_extract (av := .xb y60.2) rfl rfl ?_)
           refine qa (.exact v61) rfl ?_
           refine qa (.xb y60.2) rfl ?_
           refine G_nil (zaa (k_ret (kB_ret (kC_ret ?_))))
           obtain rfl := Option.some.inj h
           refine ke (pt (pt AF0 6 (.exact v61)) 7 (.xb y60.2)) [vecT Tryz.prog 27 1 zab v61 y60.1] rfl ?_ ⟨v61, rfl, rfl⟩
           exact so (lq rfl (lq rfl lt0))
          ·refine k_skip (kB_normal (zaa (zad (kr ?_))))
           refine qa (.exact (.slice none 0 0)) rfl ?_
           refine qa (.xb false) rfl ?_
           refine G_nil (zaa (k_ret ?_))
           obtain rfl := Option.some.inj h
           refine ke (pt (pt AF0 6 (.exact (.slice none 0 0))) 7 (.xb false)) [vecT Tryz.prog 27 1 zab (.slice none 0 0) []] rfl ?_ ⟨(.slice none 0 0), rfl, rfl⟩
           refine Sub.trans (SubU.to SubU.drop) ?_
           refine Sub.trans (SubU.to (SubU.nilT (P := Tryz.prog) (t := 27) (n := 1) (enc := zab))) ?_
           exact so (lq rfl (lq rfl lt0))
set_option maxHeartbeats 4000000 in
theorem m_pattern_node_match_S_ok : ∀ n : Nat, (∀ ⦃w2 : Value⦄ (a0 : Nd) (a1 : List UInt8) (a2 : List (List UInt8)) (r : (List (List UInt8)) × Bool), m_pattern_node_match_S n a0 a1 a2 = some r → Fun Tryz.prog 41 [(ndA a0), (.exact (.string (bs a1))), (.exact w2)] [vecT Tryz.prog 27 1 zab w2 a2] (fun a s => ∃ z0, a = .tup [.exact z0, .exact (.bool r.2)] ∧ s = [vecT Tryz.prog 27 1 zab z0 r.1]))
  | 0 => (fun _ _ _ _ _ h => by have h' : (none : Option _) = some _ := h; cases h')
  | n + 1 => by
    have ih := m_pattern_node_match_S_ok n
    exact fun w2 a0 a1 a2 r h => m_pattern_node_match_F_ok (m_pattern_node_match_S n) ih a0 a1 a2 r h
theorem m_pattern_node_match_ok {w2 : Value} (a0 : Nd) (a1 : List UInt8) (a2 : List (List UInt8)) (r : (List (List UInt8)) × Bool) (h : m_pattern_node_match a0 a1 a2 = some r) : Fun Tryz.prog 41 [(ndA a0), (.exact (.string (bs a1))), (.exact w2)] [vecT Tryz.prog 27 1 zab w2 a2] (fun a s => ∃ z0, a = .tup [.exact z0, .exact (.bool r.2)] ∧ s = [vecT Tryz.prog 27 1 zab z0 r.1]) := (m_pattern_node_match_S_ok FU) a0 a1 a2 r h
set_option maxHeartbeats 4000000 in
theorem m_pattern_Match_ok (a0 : List (Int × Int × Int)) (a1 : List UInt8) (r : (List (List UInt8)) × Bool) (h : m_pattern_Match a0 a1 = some r) : Pure Tryz.prog 13 [(.row 3 zae a0), (.exact (.string (bs a1)))] (.tup [.row 1 zab r.1, .exact (.bool r.2)]) := by
 unfold m_pattern_Match at h
 refine Pure.ofFun (fun_of_awp Tryz.func13 rfl Tryz.ntmps13 (by simp) rfl (res2 rfl) fun E hE => k_end ?_)
 refine zad (kr ?_)
 refine qa (.exact (.slice none 0 0)) rfl ?_
 refine qa (.xb false) rfl ?_
 refine G_nil (zaa (zad (kr ?_)))
 refine qm (.row 3 zae a0) rfl ?_
 obtain ⟨y1, hy1, h⟩ := bnd1_some h
 refine G_q rfl (zai (m_pattern_whole_ok _ _ hy1) Tryz.func34 (by kernel_rfl) (LEs.cons (AV.le_eq rfl) LEs.nil) ?_)
 refine qm (.tup [ndA y1.1, .xb y1.2]) rfl ?_
 refine G_q rfl (op_extract (av := ndA y1.1) rfl rfl ?_)
 refine G_q rfl (op_extract (av := .xb y1.2) rfl rfl ?_)
 refine qa (ndA y1.1) rfl ?_
 refine qa (.xb y1.2) rfl ?_
 refine G_nil (zaa (zad ?_))
 refine k_join1_0 h (fun (x20_j6 : Bool) => (pt (pt (pt AF0 1 (.xs a1)) 6 (ndA y1.1)) 20 (.xb x20_j6))) (fun (x20_j6 : Bool) => []) (fun k6 h => ?_) (fun x20_j6 h => ?_)
 ·refine kr ?_
  refine qm (.xb y1.2) rfl ?_
  refine G_q rfl (op_not rfl ?_)
  refine qm (.xb (!y1.2)) rfl ?_
  refine G_splitB (c := !y1.2) 16 rfl (fun hc => ?_) (fun hc => ?_)
  ·replace h := ite_t h hc
   refine G_n rfl rfl (G_n rfl rfl (G_n rfl rfl ?_))
   refine G_q rfl (zak rfl (av := .xb true) rfl ?_)
   refine G_nil ?_
   refine zac ⟨_, h, ?_⟩
   exact so (lq rfl (lq rfl (lq rfl lt0)))
  ·replace h := ite_f h hc
   refine Gy_q rfl rfl rfl (zaf (av := .xs a1) rfl ?_)
   obtain ⟨y8, hy8, h⟩ := bnd1_some h
   refine Gy_q rfl rfl rfl (zai (m_value_Valid_ok _ _ hy8) Tryz.func38 (by kernel_rfl) (LEs.cons (AV.le_eq rfl) LEs.nil) ?_)
   refine Gy_q rfl rfl rfl (op_not rfl ?_)
   refine G_q rfl (zah rfl (av := .xb (!y8)) rfl ?_)
   refine G_nil ?_
   refine zac ⟨_, h, ?_⟩
   exact so (lq rfl (lq rfl (lq rfl lt0)))
 ·refine kb (p := x20_j6) rfl h (fun hc h => ?_) (fun hc h => ?_)
  ·refine zad (kr ?_)
   refine qa (.exact (.slice none 0 0)) rfl ?_
   refine qa (.xb false) rfl ?_
   refine G_nil (zaa (k_ret (kC_ret ?_)))
   obtain rfl := Option.some.inj h
   refine ke (pt (pt AF0 4 (.row 1 zab [])) 5 (.xb false)) [] rfl ?_ ⟨rfl, rfl⟩
   exact so (lq rfl (AF.le_put (row_nil (by decide)) lt0))
  ·refine k_skip (zaa (zad (kr ?_)))
   refine qm (ndA y1.1) rfl ?_
   refine qm (.xs a1) rfl ?_
   refine G_sub rfl (SubU.nilT (P := Tryz.prog) (t := 27) (n := 1) (enc := zab)) ?_
   obtain ⟨y10, hy10, h⟩ := bnd1_some h
   refine G_l rfl (op_fun_1_1_1 (m_pattern_node_match_ok _ _ _ _ hy10) Tryz.func41 (by kernel_rfl) (LEs.cons (AV.le_eq rfl) (LEs.cons (AV.le_eq rfl) (LEs.cons (AV.le_eq rfl) LEs.nil))) (fun v11 => ?_))
   refine qm (.tup [.exact v11, .xb y10.2]) rfl ?_
   refine G_q rfl (op_extract (av := .exact v11) rfl rfl ?_)
   refine G_q rfl (op_extract (av := .xb y10.2) rfl rfl ?_)
   refine qa (.exact v11) rfl ?_
   refine qa (.xb y10.2) rfl ?_
   refine G_nil (zaa (zad (zad (kr ?_))))
   refine qm (.xb y10.2) rfl ?_
   refine G_q rfl (op_not rfl ?_)
   refine G_nil (zaa ?_)
   refine kb (p := !y10.2) rfl h (fun hc h => ?_) (fun hc h => ?_)
   ·refine zad (kr ?_)
    refine qa (.exact (.slice none 0 0)) rfl ?_
    refine qa (.xb false) rfl ?_
    refine G_nil (zaa (k_ret (kC_ret ?_)))
    obtain rfl := Option.some.inj h
    refine ke (pt (pt AF0 4 (.row 1 zab [])) 5 (.xb false)) [] rfl ?_ ⟨rfl, rfl⟩
    refine Sub.trans (SubU.to SubU.drop) ?_
    exact so (lq rfl (AF.le_put (row_nil (by decide)) lt0))
   ·refine k_skip (zaa (zad (kr ?_)))
    refine qm (.exact v11) rfl ?_
    refine G_sub rfl (SubU.freezeT3 (s1 := 8) (s2 := 25) (s3 := 29) rfl rfl rfl len_c_api_Value) ?_
    obtain ⟨y12, hy12, h⟩ := bnd1_some h
    refine G_q rfl (zai (m_slices_Clip_L_api_Value_api_Value_ok _ _ hy12) Tryz.func42 (by kernel_rfl) (LEs.cons (AV.le_eq rfl) LEs.nil) ?_)
    refine qa (.row 1 zab y12) rfl ?_
    refine qa (.xb true) rfl ?_
    refine G_nil (zaa (k_ret ?_))
    obtain rfl := Option.some.inj h
    refine ke (pt (pt AF0 4 (.row 1 zab y12)) 5 (.xb true)) [] rfl ?_ ⟨rfl, rfl⟩
    exact so (lq rfl (lq rfl lt0))
set_option maxHeartbeats 4000000 in
theorem m_pattern_Irrefutable_1_ok (a0 : Nd) (r : Bool) (h : m_pattern_Irrefutable_1 a0 = some r) : Pure Tryz.prog 45 [(ndA a0)] (.exact (.bool r)) := by
 unfold m_pattern_Irrefutable_1 at h
 refine Pure.ofFun (fun_of_awp Tryz.func45 rfl Tryz.ntmps45 (by simp) rfl (res1 rfl) fun E hE => k_end ?_)
 refine zad (kr ?_)
 refine qa (.xb false) rfl ?_
 refine G_nil (zaa ?_)
 refine k_join1_0 h (fun (x2_j1 : Bool) => (pt AF0 2 (.xb x2_j1))) (fun (x2_j1 : Bool) => []) (fun k1 h => ?_) (fun x2_j1 h => ?_)
 ·refine kr ?_
  refine qm (ndA a0) rfl ?_
  obtain ⟨y6, hy6, h⟩ := bnd1_some h
  refine G_q rfl (zan (c := zag y6) (ndA_un hy6) ?_)
  refine G_q rfl (zaj (o := 0) (c' := (List.drop 0 (zag y6))) (by kernel_rfl) rfl rfl ?_)
  refine G_q rfl (zal (a := .xi y6.1) (by kernel_rfl) rfl rfl ?_)
  refine G_q rfl (op_eql rfl rfl ?_)
  refine qm (.xb (decide (y6.1 = 30))) rfl ?_
  refine G_split (p := y6.1 = 30) 8 rfl (fun hc => ?_) (fun hc => ?_)
  ·replace h := ite_t h hc
   refine G_n rfl rfl (G_n rfl rfl (G_n rfl rfl (G_n rfl rfl (G_n rfl rfl ?_))))
   refine G_q rfl (zak rfl (av := .xb true) rfl ?_)
   refine qm (.xb true) rfl ?_
   refine G_n rfl rfl (G_n rfl rfl (G_n rfl rfl (G_n rfl rfl (G_n rfl rfl ?_))))
   refine G_q rfl (zak rfl (av := .xb true) rfl ?_)
   refine qm (.xb true) rfl ?_
   refine G_n rfl rfl (G_n rfl rfl (G_n rfl rfl (G_n rfl rfl (G_n rfl rfl ?_))))
   refine G_q rfl (zak rfl (av := .xb true) rfl ?_)
   refine qa (.xb true) rfl ?_
   refine G_nil ?_
   refine zac ⟨_, h, ?_⟩
   exact so (lq rfl lt0)
  ·replace h := ite_f h hc
   refine Gy_q rfl rfl rfl (zaf (av := ndA a0) rfl ?_)
   obtain ⟨y7, hy7, h⟩ := bnd1_some h
   refine Gy_q rfl rfl rfl (zan (c := zag y7) (ndA_un hy7) ?_)
   refine Gy_q rfl rfl rfl (zaj (o := 0) (c' := (List.drop 0 (zag y7))) (by kernel_rfl) rfl rfl ?_)
   refine Gy_q rfl rfl rfl (zal (a := .xi y7.1) (by kernel_rfl) rfl rfl ?_)
   refine Gy_q rfl rfl rfl (op_eql rfl rfl ?_)
   refine G_q rfl (zah rfl (av := .xb (decide (y7.1 = 31))) rfl ?_)
   refine qm (.xb (decide (y7.1 = 31))) rfl ?_
   refine G_split (p := y7.1 = 31) 15 rfl (fun hc => ?_) (fun hc => ?_)
   ·replace h := ite_t h hc
    refine G_n rfl rfl (G_n rfl rfl (G_n rfl rfl (G_n rfl rfl (G_n rfl rfl ?_))))
    refine G_q rfl (zak rfl (av := .xb true) rfl ?_)
    refine qm (.xb true) rfl ?_
    refine G_n rfl rfl (G_n rfl rfl (G_n rfl rfl (G_n rfl rfl (G_n rfl rfl ?_))))
    refine G_q rfl (zak rfl (av := .xb true) rfl ?_)
    refine qa (.xb true) rfl ?_
    refine G_nil ?_
    refine zac ⟨_, h, ?_⟩
    exact so (lq rfl lt0)
   ·replace h := ite_f h hc
    refine Gy_q rfl rfl rfl (zaf (av := ndA a0) rfl ?_)
    obtain ⟨y8, hy8, h⟩ := bnd1_some h
    refine Gy_q rfl rfl rfl (zan (c := zag y8) (ndA_un hy8) ?_)
    refine Gy_q rfl rfl rfl (zaj (o := 0) (c' := (List.drop 0 (zag y8))) (by kernel_rfl) rfl rfl ?_)
    refine Gy_q rfl rfl rfl (zal (a := .xi y8.1) (by kernel_rfl) rfl rfl ?_)
    refine Gy_q rfl rfl rfl (op_eql rfl rfl ?_)
    refine G_q rfl (zah rfl (av := .xb (decide (y8.1 = 34))) rfl ?_)
    refine qm (.xb (decide (y8.1 = 34))) rfl ?_
    refine G_split (p := y8.1 = 34) 22 rfl (fun hc => ?_) (fun hc => ?_)
    ·replace h := ite_t h hc
     refine G_n rfl rfl (G_n rfl rfl (G_n rfl rfl (G_n rfl rfl (G_n rfl rfl ?_))))
     refine G_q rfl (zak rfl (av := .xb true) rfl ?_)
     refine qa (.xb true) rfl ?_
     refine G_nil ?_
     refine zac ⟨_, h, ?_⟩
     exact so (lq rfl lt0)
    ·replace h := ite_f h hc
     refine Gy_q rfl rfl rfl (zaf (av := ndA a0) rfl ?_)
     obtain ⟨y9, hy9, h⟩ := bnd1_some h
     refine Gy_q rfl rfl rfl (zan (c := zag y9) (ndA_un hy9) ?_)
     refine Gy_q rfl rfl rfl (zaj (o := 0) (c' := (List.drop 0 (zag y9))) (by kernel_rfl) rfl rfl ?_)
     refine Gy_q rfl rfl rfl (zal (a := .xi y9.1) (by kernel_rfl) rfl rfl ?_)
     refine Gy_q rfl rfl rfl (op_eql rfl rfl ?_)
     refine G_q rfl (zah rfl (av := .xb (decide (y9.1 = 40))) rfl ?_)
     refine qa (.xb (decide (y9.1 = 40))) rfl ?_
     refine G_nil ?_
     refine zac ⟨_, h, ?_⟩
     exact so (lq rfl lt0)
 ·refine k_ret ?_
  obtain rfl := Option.some.inj h
  refine ke (pt AF0 2 (.xb x2_j1)) [] rfl ?_ ⟨rfl, rfl⟩
  exact so (lq rfl lt0)
set_option maxHeartbeats 4000000 in
theorem m_pattern_Irrefutable_ok (a0 : List (Int × Int × Int)) (r : Bool) (h : m_pattern_Irrefutable a0 = some r) : Pure Tryz.prog 20 [(.row 3 zae a0)] (.exact (.bool r)) := by
 unfold m_pattern_Irrefutable at h
 refine Pure.ofFun (fun_of_awp Tryz.func20 rfl Tryz.ntmps20 (by simp) rfl (res1 rfl) fun E hE => k_end ?_)
 refine zad (kr ?_)
 refine qa (.xb false) rfl ?_
 refine G_nil (zaa (zad (kr ?_)))
 refine qm (.row 3 zae a0) rfl ?_
 obtain ⟨y1, hy1, h⟩ := bnd1_some h
 refine G_q rfl (zai (m_pattern_whole_ok _ _ hy1) Tryz.func34 (by kernel_rfl) (LEs.cons (AV.le_eq rfl) LEs.nil) ?_)
 refine qm (.tup [ndA y1.1, .xb y1.2]) rfl ?_
 refine G_q rfl (op_extract (av := ndA y1.1) rfl rfl ?_)
 refine G_q rfl (op_extract (av := .xb y1.2) rfl rfl ?_)
 refine qa (ndA y1.1) rfl ?_
 refine qa (.xb y1.2) rfl ?_
 refine G_nil (zaa ?_)
 refine k_join1_0 h (fun (x2_j2 : Bool) => (pt AF0 2 (.xb x2_j2))) (fun (x2_j2 : Bool) => []) (fun k2 h => ?_) (fun x2_j2 h => ?_)
 ·refine kr ?_
  refine qm (.xb y1.2) rfl ?_
  refine qm (.xb y1.2) rfl ?_
  refine G_splitB (c := y1.2) 11 rfl (fun hc => ?_) (fun hc => ?_)
  ·replace h := ite_t h hc
   refine Gy_q rfl rfl rfl (zaf (av := ndA y1.1) rfl ?_)
   obtain ⟨y4, hy4, h⟩ := bnd1_some h
   refine Gy_q rfl rfl rfl (zai (m_pattern_node_all_ok _ _ _ hy4) Tryz.func35 (by kernel_rfl) (LEs.cons (AV.le_eq rfl) (LEs.cons ((fn_le Tryz.func45 (by kernel_rfl) (fun i r h => m_pattern_Irrefutable_1_ok i r h))) LEs.nil)) ?_)
   refine G_q rfl (zak rfl (av := .xb y4) rfl ?_)
   refine qa (.xb y4) rfl ?_
   refine G_nil ?_
   refine zac ⟨_, h, ?_⟩
   exact so (lq rfl lt0)
  ·replace h := ite_f h hc
   refine G_n rfl rfl (G_n rfl rfl ?_)
   refine G_q rfl (zah rfl (av := .xb false) rfl ?_)
   refine qa (.xb false) rfl ?_
   refine G_nil ?_
   refine zac ⟨_, h, ?_⟩
   exact so (lq rfl lt0)
 ·refine k_ret ?_
  obtain rfl := Option.some.inj h
  refine ke (pt AF0 2 (.xb x2_j2)) [] rfl ?_ ⟨rfl, rfl⟩
  exact so (lq rfl lt0)
set_option maxHeartbeats 4000000 in
theorem m_law12_awake_ok  (r : Bool) (h : m_law12_awake = some r) : Pure Tryz.prog 12 [] (.exact (.bool r)) := by
 unfold m_law12_awake at h
 refine Pure.ofFun (fun_of_awp Tryz.func12 rfl Tryz.ntmps12 (by simp) rfl (res1 rfl) fun E hE => k_end ?_)
 refine zad (kr ?_)
 refine qa (.xb false) rfl ?_
 refine G_nil (zaa (zad (kr ?_)))
 obtain ⟨y1, hy1, h⟩ := bnd1_some h
 refine G_q rfl (zai (m_law12_node_ok _ _ _ _ hy1) Tryz.func17 (by kernel_rfl) (LEs.cons (AV.le_eq rfl) (LEs.cons (AV.le_eq rfl) (LEs.cons (row_nil (by decide)) LEs.nil))) ?_)
 obtain ⟨y2, hy2, h⟩ := bnd1_some h
 refine G_q rfl (zai (m_law12_node_ok _ _ _ _ hy2) Tryz.func17 (by kernel_rfl) (LEs.cons (AV.le_eq rfl) (LEs.cons (AV.le_eq rfl) (LEs.cons (row_nil (by decide)) LEs.nil))) ?_)
 refine G_q rfl (op_litT (n := 1) (enc := c_L_api_Code) [y1, y2] (CellsAll.cons rfl CellsOf.row (CellsAll.cons rfl CellsOf.row CellsAll.nil)) rfl (by kernel_rfl) (LEss.cons (LEs.cons (AV.le_eq rfl) LEs.nil) (LEss.cons (LEs.cons (AV.le_eq rfl) LEs.nil) LEss.nil)) ?_)
 obtain ⟨y3, hy3, h⟩ := bnd1_some h
 refine G_q rfl (zai (m_law12_node_ok _ _ _ _ hy3) Tryz.func17 (by kernel_rfl) (LEs.cons (AV.le_eq rfl) (LEs.cons (AV.le_eq rfl) (LEs.cons (AV.le_eq rfl) LEs.nil))) ?_)
 refine qa (.row 3 zae y3) rfl ?_
 refine G_nil (zaa (zad (kr ?_)))
 obtain ⟨y4, hy4, h⟩ := bnd1_some h
 refine G_q rfl (zai (m_ref9_Int_ok _ _ hy4) Tryz.func33 (by kernel_rfl) (LEs.cons (AV.le_eq rfl) LEs.nil) ?_)
 obtain ⟨y5, hy5, h⟩ := bnd1_some h
 refine G_q rfl (zai (m_ref9_Int_ok _ _ hy5) Tryz.func33 (by kernel_rfl) (LEs.cons (AV.le_eq rfl) LEs.nil) ?_)
 refine G_q rfl (op_litT (n := 1) (enc := zab) [y4, y5] (CellsAll.cons rfl CellsOf.str (CellsAll.cons rfl CellsOf.str CellsAll.nil)) rfl (by kernel_rfl) (LEss.cons (LEs.cons (AV.le_eq rfl) LEs.nil) (LEss.cons (LEs.cons (AV.le_eq rfl) LEs.nil) LEss.nil)) ?_)
 obtain ⟨y6, hy6, h⟩ := bnd1_some h
 refine G_q rfl (zai (m_ref9_Make_ok _ _ _ hy6) Tryz.func19 (by kernel_rfl) (LEs.cons (AV.le_eq rfl) (LEs.cons (AV.le_eq rfl) LEs.nil)) ?_)
 refine qa (.xs y6) rfl ?_
 refine G_nil (zaa (zad (kr ?_)))
 refine qm (.row 3 zae y3) rfl ?_
 refine qm (.xs y6) rfl ?_
 obtain ⟨y7, hy7, h⟩ := bnd1_some h
 refine G_q rfl (zai (m_pattern_Match_ok _ _ _ hy7) Tryz.func13 (by kernel_rfl) (LEs.cons (AV.le_eq rfl) (LEs.cons (AV.le_eq rfl) LEs.nil)) ?_)
 refine qm (.tup [.row 1 zab y7.1, .xb y7.2]) rfl ?_
 refine G_q rfl (op_extract (av := .row 1 zab y7.1) rfl rfl ?_)
 refine G_q rfl (op_extract (av := .xb y7.2) rfl rfl ?_)
 refine qa (.row 1 zab y7.1) rfl ?_
 refine qa (.xb y7.2) rfl ?_
 refine G_nil (zaa (zad (kr ?_)))
 refine qm (.row 3 zae y3) rfl ?_
 refine qm (.row 1 zab y7.1) rfl ?_
 obtain ⟨y8, hy8, h⟩ := bnd1_some h
 refine G_q rfl (zai (m_pattern_Build_ok _ _ _ hy8) Tryz.func10 (by kernel_rfl) (LEs.cons (AV.le_eq rfl) (LEs.cons (AV.le_eq rfl) LEs.nil)) ?_)
 refine qm (.tup [.xs y8.1, .xb y8.2]) rfl ?_
 refine G_q rfl (op_extract (av := .xs y8.1) rfl rfl ?_)
 refine G_q rfl (op_extract (av := .xb y8.2) rfl rfl ?_)
 refine qa (.xs y8.1) rfl ?_
 refine qa (.xb y8.2) rfl ?_
 refine G_nil (zaa ?_)
 refine k_join1_0 h (fun (x0_j9 : Bool) => (pt AF0 0 (.xb x0_j9))) (fun (x0_j9 : Bool) => []) (fun k9 h => ?_) (fun x0_j9 h => ?_)
 ·refine k_plan [] [(0, 0), (0, 1), (0, 2), (0, 3), (0, 4), (0, 5), (0, 6), (0, 7), (0, 8), (0, 9), (0, 10), (0, 11), (0, 12), (0, 13), (0, 14), (0, 15), (0, 16), (0, 17), (0, 18), (0, 19), (0, 20), (0, 21), (0, 22), (0, 23), (0, 24), (0, 25), (0, 26), (0, 27), (0, 28), (0, 29), (0, 30), (0, 31)] hmixP (by kernel_rfl) ?_
  refine P_q no34_0 rfl (zaf (av := .xb y7.2) rfl ?_)
  refine P_q no34_0 rfl (zaf (av := .xb y7.2) rfl ?_)
  refine P_splitB (c := y7.2) 28 rfl (fun hc => ?_) (fun hc => ?_)
  ·replace h := ite_t h hc
   refine Py_q no34_0 rfl rfl rfl (zaf (av := .row 1 zab y7.1) rfl ?_)
   refine Py_q no34_0 rfl rfl rfl (op_len_row (by kernel_rfl) rfl ?_)
   refine Py_q no34_0 rfl rfl rfl (op_eql rfl rfl ?_)
   refine P_q no34_0 rfl (zak rfl (av := .xb (decide ((List.length y7.1 : Int) = 2))) rfl ?_)
   refine P_q no34_0 rfl (zaf (av := .xb (decide ((List.length y7.1 : Int) = 2))) rfl ?_)
   refine P_split (p := (List.length y7.1 : Int) = 2) 33 rfl (fun hc => ?_) (fun hc => ?_)
   ·replace h := ite_t h hc
    refine Py_q no34_0 rfl rfl rfl (zaf (av := .row 1 zab y7.1) rfl ?_)
    obtain ⟨n14, h⟩ := need_some h
    refine Py_q no34_0 rfl rfl rfl (zam (by kernel_rfl) rfl rfl n14.1 n14.2 ?_)
    refine Py_q no34_0 rfl rfl rfl (zal (a := .xs (gi y7.1 0)) (by kernel_rfl) rfl rfl ?_)
    obtain ⟨y15, hy15, h⟩ := bnd1_some h
    refine Py_q no34_0 rfl rfl rfl (zai (m_ref9_Int_ok _ _ hy15) Tryz.func33 (by kernel_rfl) (LEs.cons (AV.le_eq rfl) LEs.nil) ?_)
    refine Py_q no34_0 rfl rfl rfl (op_eqlS rfl rfl ?_)
    refine P_q no34_0 rfl (zak rfl (av := .xb (decide ((gi y7.1 0) = y15))) rfl ?_)
    refine P_q no34_0 rfl (zaf (av := .xb (decide ((gi y7.1 0) = y15))) rfl ?_)
    refine P_split (p := (gi y7.1 0) = y15) 40 rfl (fun hc => ?_) (fun hc => ?_)
    ·replace h := ite_t h hc
     refine Py_q no34_0 rfl rfl rfl (zaf (av := .row 3 zae y3) rfl ?_)
     obtain ⟨y16, hy16, h⟩ := bnd1_some h
     refine Py_q no34_0 rfl rfl rfl (zai (m_pattern_Vars_ok _ _ hy16) Tryz.func16 (by kernel_rfl) (LEs.cons (AV.le_eq rfl) LEs.nil) ?_)
     refine Py_q no34_0 rfl rfl rfl (op_eql rfl rfl ?_)
     refine P_q no34_0 rfl (zak rfl (av := .xb (decide (y16 = 2))) rfl ?_)
     refine P_q no34_0 rfl (zaf (av := .xb (decide (y16 = 2))) rfl ?_)
     refine P_split (p := y16 = 2) 45 rfl (fun hc => ?_) (fun hc => ?_)
     ·replace h := ite_t h hc
      refine Py_q no34_0 rfl rfl rfl (zaf (av := .xb y8.2) rfl ?_)
      refine P_q no34_0 rfl (zak rfl (av := .xb y8.2) rfl ?_)
      refine P_q no34_0 rfl (zaf (av := .xb y8.2) rfl ?_)
      refine P_splitB (c := y8.2) 48 rfl (fun hc => ?_) (fun hc => ?_)
      ·replace h := ite_t h hc
       refine Py_q no34_0 rfl rfl rfl (zaf (av := .xs y8.1) rfl ?_)
       refine Py_q no34_0 rfl rfl rfl (zaf (av := .xs y6) rfl ?_)
       refine Py_q no34_0 rfl rfl rfl (op_eqlS rfl rfl ?_)
       refine P_q no34_0 rfl (zak rfl (av := .xb (decide (y8.1 = y6))) rfl ?_)
       refine P_q no34_0 rfl (zaf (av := .xb (decide (y8.1 = y6))) rfl ?_)
       refine P_split (p := y8.1 = y6) 53 rfl (fun hc => ?_) (fun hc => ?_)
       ·replace h := ite_t h hc
        refine Py_q no34_0 rfl rfl rfl (zaf (av := .row 3 zae y3) rfl ?_)
        obtain ⟨y17, hy17, h⟩ := bnd1_some h
        refine Py_q no34_0 rfl rfl rfl (zai (m_pattern_Irrefutable_ok _ _ hy17) Tryz.func20 (by kernel_rfl) (LEs.cons (AV.le_eq rfl) LEs.nil) ?_)
        refine Py_q no34_0 rfl rfl rfl (op_not rfl ?_)
        refine P_q no34_0 rfl (zak rfl (av := .xb (!y17)) rfl ?_)
        refine P_q no34_0 rfl (op_assign (av := .xb (!y17)) rfl ?_)
        refine P_nil ?_
        refine zac ⟨_, h, ?_⟩
        exact so (lq rfl lt0)
       ·replace h := ite_f h hc
        refine P_n no34_0 rfl rfl rfl ?_
        refine P_n no34_0 rfl rfl rfl ?_
        refine P_n no34_0 rfl rfl rfl ?_
        refine P_q no34_0 rfl (zah rfl (av := .xb false) rfl ?_)
        refine P_q no34_0 rfl (op_assign (av := .xb false) rfl ?_)
        refine P_nil ?_
        refine zac ⟨_, h, ?_⟩
        exact so (lq rfl lt0)
      ·replace h := ite_f h hc
       refine P_n no34_0 rfl rfl rfl ?_
       refine P_n no34_0 rfl rfl rfl ?_
       refine P_n no34_0 rfl rfl rfl ?_
       refine P_q no34_0 rfl (zah rfl (av := .xb false) rfl ?_)
       refine P_q no34_0 rfl (zaf (av := .xb false) rfl ?_)
       refine P_n no34_0 rfl rfl rfl ?_
       refine P_n no34_0 rfl rfl rfl ?_
       refine P_n no34_0 rfl rfl rfl ?_
       refine P_q no34_0 rfl (zah rfl (av := .xb false) rfl ?_)
       refine P_q no34_0 rfl (op_assign (av := .xb false) rfl ?_)
       refine P_nil ?_
       refine zac ⟨_, h, ?_⟩
       exact so (lq rfl lt0)
     ·replace h := ite_f h hc
      refine P_n no34_0 rfl rfl rfl ?_
      refine P_q no34_0 rfl (zah rfl (av := .xb false) rfl ?_)
      refine P_q no34_0 rfl (zaf (av := .xb false) rfl ?_)
      refine P_n no34_0 rfl rfl rfl ?_
      refine P_n no34_0 rfl rfl rfl ?_
      refine P_n no34_0 rfl rfl rfl ?_
      refine P_q no34_0 rfl (zah rfl (av := .xb false) rfl ?_)
      refine P_q no34_0 rfl (zaf (av := .xb false) rfl ?_)
      refine P_n no34_0 rfl rfl rfl ?_
      refine P_n no34_0 rfl rfl rfl ?_
      refine P_n no34_0 rfl rfl rfl ?_
      refine P_q no34_0 rfl (zah rfl (av := .xb false) rfl ?_)
      refine P_q no34_0 rfl (op_assign (av := .xb false) rfl ?_)
      refine P_nil ?_
      refine zac ⟨_, h, ?_⟩
      exact so (lq rfl lt0)
    ·replace h := ite_f h hc
     refine P_n no34_0 rfl rfl rfl ?_
     refine P_n no34_0 rfl rfl rfl ?_
     refine P_n no34_0 rfl rfl rfl ?_
     refine P_q no34_0 rfl (zah rfl (av := .xb false) rfl ?_)
     refine P_q no34_0 rfl (zaf (av := .xb false) rfl ?_)
     refine P_n no34_0 rfl rfl rfl ?_
     refine P_q no34_0 rfl (zah rfl (av := .xb false) rfl ?_)
     refine P_q no34_0 rfl (zaf (av := .xb false) rfl ?_)
     refine P_n no34_0 rfl rfl rfl ?_
     refine P_n no34_0 rfl rfl rfl ?_
     refine P_n no34_0 rfl rfl rfl ?_
     refine P_q no34_0 rfl (zah rfl (av := .xb false) rfl ?_)
     refine P_q no34_0 rfl (zaf (av := .xb false) rfl ?_)
     refine P_n no34_0 rfl rfl rfl ?_
     refine P_n no34_0 rfl rfl rfl ?_
     refine P_n no34_0 rfl rfl rfl ?_
     refine P_q no34_0 rfl (zah rfl (av := .xb false) rfl ?_)
     refine P_q no34_0 rfl (op_assign (av := .xb false) rfl ?_)
     refine P_nil ?_
     refine zac ⟨_, h, ?_⟩
     exact so (lq rfl lt0)
   ·replace h := ite_f h hc
    refine P_n no34_0 rfl rfl rfl ?_
    refine P_n no34_0 rfl rfl rfl ?_
    refine P_n no34_0 rfl rfl rfl ?_
    refine P_n no34_0 rfl rfl rfl ?_
    refine P_n no34_0 rfl rfl rfl ?_
    refine P_q no34_0 rfl (zah rfl (av := .xb false) rfl ?_)
    refine P_q no34_0 rfl (zaf (av := .xb false) rfl ?_)
    refine P_n no34_0 rfl rfl rfl ?_
    refine P_n no34_0 rfl rfl rfl ?_
    refine P_n no34_0 rfl rfl rfl ?_
    refine P_q no34_0 rfl (zah rfl (av := .xb false) rfl ?_)
    refine P_q no34_0 rfl (zaf (av := .xb false) rfl ?_)
    refine P_n no34_0 rfl rfl rfl ?_
    refine P_q no34_0 rfl (zah rfl (av := .xb false) rfl ?_)
    refine P_q no34_0 rfl (zaf (av := .xb false) rfl ?_)
    refine P_n no34_0 rfl rfl rfl ?_
    refine P_n no34_0 rfl rfl rfl ?_
    refine P_n no34_0 rfl rfl rfl ?_
    refine P_q no34_0 rfl (zah rfl (av := .xb false) rfl ?_)
    refine P_q no34_0 rfl (zaf (av := .xb false) rfl ?_)
    refine P_n no34_0 rfl rfl rfl ?_
    refine P_n no34_0 rfl rfl rfl ?_
    refine P_n no34_0 rfl rfl rfl ?_
    refine P_q no34_0 rfl (zah rfl (av := .xb false) rfl ?_)
    refine P_q no34_0 rfl (op_assign (av := .xb false) rfl ?_)
    refine P_nil ?_
    refine zac ⟨_, h, ?_⟩
    exact so (lq rfl lt0)
  ·replace h := ite_f h hc
   refine P_n no34_0 rfl rfl rfl ?_
   refine P_n no34_0 rfl rfl rfl ?_
   refine P_n no34_0 rfl rfl rfl ?_
   refine P_q no34_0 rfl (zah rfl (av := .xb false) rfl ?_)
   refine P_q no34_0 rfl (zaf (av := .xb false) rfl ?_)
   refine P_n no34_0 rfl rfl rfl ?_
   refine P_n no34_0 rfl rfl rfl ?_
   refine P_n no34_0 rfl rfl rfl ?_
   refine P_n no34_0 rfl rfl rfl ?_
   refine P_n no34_0 rfl rfl rfl ?_
   refine P_q no34_0 rfl (zah rfl (av := .xb false) rfl ?_)
   refine P_q no34_0 rfl (zaf (av := .xb false) rfl ?_)
   refine P_n no34_0 rfl rfl rfl ?_
   refine P_n no34_0 rfl rfl rfl ?_
   refine P_n no34_0 rfl rfl rfl ?_
   refine P_q no34_0 rfl (zah rfl (av := .xb false) rfl ?_)
   refine P_q no34_0 rfl (zaf (av := .xb false) rfl ?_)
   refine P_n no34_0 rfl rfl rfl ?_
   refine P_q no34_0 rfl (zah rfl (av := .xb false) rfl ?_)
   refine P_q no34_0 rfl (zaf (av := .xb false) rfl ?_)
   refine P_n no34_0 rfl rfl rfl ?_
   refine P_n no34_0 rfl rfl rfl ?_
   refine P_n no34_0 rfl rfl rfl ?_
   refine P_q no34_0 rfl (zah rfl (av := .xb false) rfl ?_)
   refine P_q no34_0 rfl (zaf (av := .xb false) rfl ?_)
   refine P_n no34_0 rfl rfl rfl ?_
   refine P_n no34_0 rfl rfl rfl ?_
   refine P_n no34_0 rfl rfl rfl ?_
   refine P_q no34_0 rfl (zah rfl (av := .xb false) rfl ?_)
   refine P_q no34_0 rfl (op_assign (av := .xb false) rfl ?_)
   refine P_nil ?_
   refine zac ⟨_, h, ?_⟩
   exact so (lq rfl lt0)
 ·refine k_ret ?_
  obtain rfl := Option.some.inj h
  refine ke (pt AF0 0 (.xb x0_j9)) [] rfl ?_ ⟨rfl, rfl⟩
  exact so (lq rfl lt0)
set_option maxHeartbeats 4000000 in
theorem m_law12_PatternRebuilds_ok (a0 : List Int) (r : Bool) (h : m_law12_PatternRebuilds a0 = some r) : Pure Tryz.prog 4 [(.row 1 c_int a0)] (.exact (.bool r)) := by
 unfold m_law12_PatternRebuilds at h
 refine Pure.ofFun (fun_of_awp Tryz.func4 rfl Tryz.ntmps4 (by simp) rfl (res1 rfl) fun E hE => k_end ?_)
 refine zad (kr ?_)
 refine qa (.xb false) rfl ?_
 refine G_nil (zaa (zad (kr ?_)))
 refine qm (.row 1 c_int a0) rfl ?_
 obtain ⟨y1, hy1, h⟩ := bnd1_some h
 refine G_l rfl (op_fun_0_1_1 (m_gen_New_ok _ _ hy1) Tryz.func7 (by kernel_rfl) (LEs.cons (AV.le_eq rfl) LEs.nil) (fun b2 => ?_))
 refine qa (pA b2 0) rfl ?_
 refine G_nil (zaa (zad (kr ?_)))
 refine qm (pA b2 0) rfl ?_
 obtain ⟨y3, hy3, h⟩ := bnd1_some h
 refine G_l rfl (op_fun_1_0_1 (m_law12_pat_ok _ _ _ hy3) Tryz.func8 (by kernel_rfl) (LEs.cons (AV.le_eq rfl) (LEs.cons (AV.le_eq rfl) LEs.nil)) ?_)
 refine qa (.row 3 zae y3.1) rfl ?_
 refine G_nil (zaa (zad (kr ?_)))
 refine qa (.exact (.slice none 0 0)) rfl ?_
 refine G_nil (zaa ?_)
 refine k_join3_1 h (fun (x3_0_j4 : List Int) (x3_1_j4 : Int) (x5_j4 : List (List UInt8)) (v5_j4 : Value) => (pt (pt (pt AF0 3 (pA b2 0)) 4 (.row 3 zae y3.1)) 5 (.exact v5_j4))) (fun (x3_0_j4 : List Int) (x3_1_j4 : Int) (x5_j4 : List (List UInt8)) (v5_j4 : Value) => [boxI 53 b2 [.row 1 c_int x3_0_j4, .xi x3_1_j4], vecT Tryz.prog 27 1 zab v5_j4 x5_j4]) (fun k4 h => ?_) (fun x3_0_j4 x3_1_j4 x5_j4 v5_j4 h => ?_)
 ·refine zad (kr ?_)
  refine qa (.xi 0) rfl ?_
  refine G_nil (zaa (k_block ?_))
  refine k_loop4_1 (m_law12_PatternRebuilds_L2 y3 k4) (m_law12_PatternRebuilds_B2 y3 k4) (fun _ _ _ _ => rfl) (fun m _ _ _ _ => rfl) h (fun (x3_0_l2 : List Int) (x3_1_l2 : Int) (x5_l2 : List (List UInt8)) (x6_l2 : Int) (v5_l2 : Value) => (pt (pt (pt (pt AF0 3 (pA b2 0)) 4 (.row 3 zae y3.1)) 5 (.exact v5_l2)) 6 (.xi x6_l2))) (fun (x3_0_l2 : List Int) (x3_1_l2 : Int) (x5_l2 : List (List UInt8)) (x6_l2 : Int) (v5_l2 : Value) => [boxI 53 b2 [.row 1 c_int x3_0_l2, .xi x3_1_l2], vecT Tryz.prog 27 1 zab v5_l2 x5_l2]) (.slice none 0 0) ?_ (fun rec2 x3_0_l2 x3_1_l2 x5_l2 x6_l2 v5_l2 h => ?_)
  ·refine Sub.trans (SubU.to (SubU.nilT (P := Tryz.prog) (t := 27) (n := 1) (enc := zab))) ?_
   refine Sub.trans (SubU.to SubU.f1) ?_
   exact so (l4 rfl rfl rfl rfl lt0)
  ·unfold m_law12_PatternRebuilds_B2 at h
   refine zad (zad (kr ?_))
   refine qm (.xi x6_l2) rfl ?_
   refine qm (.row 3 zae y3.1) rfl ?_
   obtain ⟨y26, hy26, h⟩ := bnd1_some h
   refine G_q rfl (zai (m_ref11_Vars_ok _ _ hy26) Tryz.func15 (by kernel_rfl) (LEs.cons (AV.le_eq rfl) LEs.nil) ?_)
   refine G_q rfl (op_lss rfl rfl ?_)
   refine G_nil (zaa ?_)
   refine kd (p := x6_l2 < y26) rfl h (fun hc h => ?_) (fun hc h => ?_)
   ·refine k_skip (zaa (zad (k_block (kr ?_))))
    refine qm (.exact v5_l2) rfl ?_
    refine qm (pA b2 0) rfl ?_
    obtain ⟨y27, hy27, h⟩ := bnd1_some h
    refine G_l rfl (op_fun_1_0_1 (m_gen_Choices_Value_ok _ _ _ hy27) Tryz.func9 (by kernel_rfl) (LEs.cons (AV.le_eq rfl) (LEs.cons (AV.le_eq rfl) LEs.nil)) ?_)
    refine G_q rfl (op_litT (n := 1) (enc := zab) [y27.1] (CellsAll.cons rfl CellsOf.str CellsAll.nil) rfl (by kernel_rfl) (LEss.cons (LEs.cons (AV.le_eq rfl) LEs.nil) LEss.nil) ?_)
    obtain ⟨n28, h⟩ := need_some h
    refine G_l rfl (opB_f1 (op_appT (by kernel_rfl) rfl rfl oc_c_api_Value n28 (fun v29 => ?_)))
    refine qa (.exact v29) rfl ?_
    refine G_nil (kB_normal (zaa (kr ?_)))
    refine qm (.xi x6_l2) rfl ?_
    refine G_q rfl (op_add rfl rfl rfl ?_)
    refine qa (.xi (i64 (x6_l2 + 1))) rfl ?_
    refine G_nil ?_
    refine zac ⟨_, _, _, _, v29, h, ?_⟩
    refine Sub.trans (SubU.to SubU.f1) ?_
    exact so (l4 rfl rfl rfl rfl lt0)
   ·refine k_exit (kC_exit (kI_exit (kB_exit ?_)))
    refine zac ⟨_, _, _, v5_l2, h, ?_⟩
    exact so (lq rfl (lq rfl (lq rfl lt0)))
 ·refine zad (kr ?_)
  refine qm (.row 3 zae y3.1) rfl ?_
  refine qm (.exact v5_j4) rfl ?_
  refine G_sub rfl (SubU.trans SubU.f1 (SubU.freezeT2 (s1 := 5) (s2 := 30) rfl rfl len_c_api_Value)) ?_
  obtain ⟨y30, hy30, h⟩ := bnd1_some h
  refine G_q rfl (zai (m_ref11_Build_ok _ _ _ hy30) Tryz.func11 (by kernel_rfl) (LEs.cons (AV.le_eq rfl) (LEs.cons (AV.le_eq rfl) LEs.nil)) ?_)
  refine qm (.tup [.xs y30.1, .xb y30.2]) rfl ?_
  refine G_q rfl (op_extract (av := .xs y30.1) rfl rfl ?_)
  refine G_q rfl (op_extract (av := .xb y30.2) rfl rfl ?_)
  refine qa (.xs y30.1) rfl ?_
  refine qa (.xb y30.2) rfl ?_
  refine G_nil (zaa ?_)
  refine k_join1_0 h (fun (x7_j31 : List UInt8) => (pt (pt (pt AF0 4 (.row 3 zae y3.1)) 7 (.xs x7_j31)) 8 (.xb y30.2))) (fun (x7_j31 : List UInt8) => []) (fun k31 h => ?_) (fun x7_j31 h => ?_)
  ·refine zad (kr ?_)
   refine qm (.xb y30.2) rfl ?_
   refine G_q rfl (op_not rfl ?_)
   refine G_nil (zaa ?_)
   refine kb (p := !y30.2) rfl h (fun hc h => ?_) (fun hc h => ?_)
   ·refine kr ?_
    refine qm (pA b2 0) rfl ?_
    obtain ⟨y33, hy33, h⟩ := bnd1_some h
    refine G_l rfl (op_fun_1_0_1 (m_gen_Choices_Value_ok _ _ _ hy33) Tryz.func9 (by kernel_rfl) (LEs.cons (AV.le_eq rfl) (LEs.cons (AV.le_eq rfl) LEs.nil)) ?_)
    refine qa (.xs y33.1) rfl ?_
    refine G_nil ?_
    refine zac ⟨_, h, ?_⟩
    refine Sub.trans (SubU.to SubU.drop) ?_
    exact so (lq rfl (lq rfl (lq rfl lt0)))
   ·refine k_skip ?_
    refine zac ⟨_, h, ?_⟩
    refine Sub.trans (SubU.to SubU.drop) ?_
    exact so (lq rfl (lq rfl (lq rfl lt0)))
  ·refine zad (kr ?_)
   refine qm (.row 3 zae y3.1) rfl ?_
   refine qm (.xs x7_j31) rfl ?_
   obtain ⟨y34, hy34, h⟩ := bnd1_some h
   refine G_q rfl (zai (m_pattern_Match_ok _ _ _ hy34) Tryz.func13 (by kernel_rfl) (LEs.cons (AV.le_eq rfl) (LEs.cons (AV.le_eq rfl) LEs.nil)) ?_)
   refine qm (.tup [.row 1 zab y34.1, .xb y34.2]) rfl ?_
   refine G_q rfl (op_extract (av := .row 1 zab y34.1) rfl rfl ?_)
   refine G_q rfl (op_extract (av := .xb y34.2) rfl rfl ?_)
   refine qa (.row 1 zab y34.1) rfl ?_
   refine qa (.xb y34.2) rfl ?_
   refine G_nil (zaa (zad (zad (kr ?_))))
   refine qm (.xb y34.2) rfl ?_
   refine G_q rfl (op_not rfl ?_)
   refine G_nil (zaa ?_)
   refine kb (p := !y34.2) rfl h (fun hc h => ?_) (fun hc h => ?_)
   ·refine k_join1_0 h (fun (x2_j35 : Bool) => (pt AF0 2 (.xb x2_j35))) (fun (x2_j35 : Bool) => []) (fun k35 h => ?_) (fun x2_j35 h => ?_)
    ·refine kr ?_
     obtain ⟨y37, hy37, h⟩ := bnd1_some h
     refine G_q rfl (zai (m_law12_awake_ok _ hy37) Tryz.func12 (by kernel_rfl) LEs.nil ?_)
     refine qm (.xb y37) rfl ?_
     refine G_splitB (c := y37) 47 rfl (fun hc => ?_) (fun hc => ?_)
     ·replace h := ite_t h hc
      refine Gy_q rfl rfl rfl (zaf (av := .xb y30.2) rfl ?_)
      refine Gy_q rfl rfl rfl (op_not rfl ?_)
      refine G_q rfl (zak rfl (av := .xb (!y30.2)) rfl ?_)
      refine qm (.xb (!y30.2)) rfl ?_
      refine G_splitB (c := !y30.2) 51 rfl (fun hc => ?_) (fun hc => ?_)
      ·replace h := ite_t h hc
       refine Gy_q rfl rfl rfl (zaf (av := .row 1 zab y34.1) rfl ?_)
       refine Gy_q rfl rfl rfl (op_len_row (by kernel_rfl) rfl ?_)
       refine Gy_q rfl rfl rfl (op_eql rfl rfl ?_)
       refine G_q rfl (zak rfl (av := .xb (decide ((List.length y34.1 : Int) = 0))) rfl ?_)
       refine qa (.xb (decide ((List.length y34.1 : Int) = 0))) rfl ?_
       refine G_nil ?_
       refine zac ⟨_, h, ?_⟩
       exact so (lq rfl lt0)
      ·replace h := ite_f h hc
       refine G_n rfl rfl (G_n rfl rfl (G_n rfl rfl ?_))
       refine G_q rfl (zah rfl (av := .xb false) rfl ?_)
       refine qa (.xb false) rfl ?_
       refine G_nil ?_
       refine zac ⟨_, h, ?_⟩
       exact so (lq rfl lt0)
     ·replace h := ite_f h hc
      refine G_n rfl rfl (G_n rfl rfl ?_)
      refine G_q rfl (zah rfl (av := .xb false) rfl ?_)
      refine qm (.xb false) rfl ?_
      refine G_n rfl rfl (G_n rfl rfl (G_n rfl rfl ?_))
      refine G_q rfl (zah rfl (av := .xb false) rfl ?_)
      refine qa (.xb false) rfl ?_
      refine G_nil ?_
      refine zac ⟨_, h, ?_⟩
      exact so (lq rfl lt0)
    ·refine k_ret (kC_ret ?_)
     obtain rfl := Option.some.inj h
     refine ke (pt AF0 2 (.xb x2_j35)) [] rfl ?_ ⟨rfl, rfl⟩
     exact so (lq rfl lt0)
   ·refine k_skip (zaa (zad (kr ?_)))
    refine qm (.row 3 zae y3.1) rfl ?_
    refine qm (.row 1 zab y34.1) rfl ?_
    obtain ⟨y38, hy38, h⟩ := bnd1_some h
    refine G_q rfl (zai (m_pattern_Build_ok _ _ _ hy38) Tryz.func10 (by kernel_rfl) (LEs.cons (AV.le_eq rfl) (LEs.cons (AV.le_eq rfl) LEs.nil)) ?_)
    refine qm (.tup [.xs y38.1, .xb y38.2]) rfl ?_
    refine G_q rfl (op_extract (av := .xs y38.1) rfl rfl ?_)
    refine G_q rfl (op_extract (av := .xb y38.2) rfl rfl ?_)
    refine qa (.xs y38.1) rfl ?_
    refine qa (.xb y38.2) rfl ?_
    refine G_nil (zaa ?_)
    refine k_join1_0 h (fun (x2_j39 : Bool) => (pt AF0 2 (.xb x2_j39))) (fun (x2_j39 : Bool) => []) (fun k39 h => ?_) (fun x2_j39 h => ?_)
    ·refine kr ?_
     obtain ⟨y42, hy42, h⟩ := bnd1_some h
     refine G_q rfl (zai (m_law12_awake_ok _ hy42) Tryz.func12 (by kernel_rfl) LEs.nil ?_)
     refine qm (.xb y42) rfl ?_
     refine G_splitB (c := y42) 63 rfl (fun hc => ?_) (fun hc => ?_)
     ·replace h := ite_t h hc
      refine Gy_q rfl rfl rfl (zaf (av := .row 1 zab y34.1) rfl ?_)
      refine Gy_q rfl rfl rfl (op_len_row (by kernel_rfl) rfl ?_)
      refine Gy_q rfl rfl rfl (zaf (av := .row 3 zae y3.1) rfl ?_)
      obtain ⟨y43, hy43, h⟩ := bnd1_some h
      refine Gy_q rfl rfl rfl (zai (m_pattern_Vars_ok _ _ hy43) Tryz.func16 (by kernel_rfl) (LEs.cons (AV.le_eq rfl) LEs.nil) ?_)
      refine Gy_q rfl rfl rfl (op_eql rfl rfl ?_)
      refine G_q rfl (zak rfl (av := .xb (decide ((List.length y34.1 : Int) = y43))) rfl ?_)
      refine qm (.xb (decide ((List.length y34.1 : Int) = y43))) rfl ?_
      refine G_split (p := (List.length y34.1 : Int) = y43) 70 rfl (fun hc => ?_) (fun hc => ?_)
      ·replace h := ite_t h hc
       refine Gy_q rfl rfl rfl (zaf (av := .xb y38.2) rfl ?_)
       refine Gy_q rfl rfl rfl (op_not rfl ?_)
       refine Gy_q rfl rfl rfl (zaf (av := .xb (!y38.2)) rfl ?_)
       refine G_splitB (c := !y38.2) 73 rfl (fun hc => ?_) (fun hc => ?_)
       ·replace h := ite_t h hc
        refine G_n rfl rfl (G_n rfl rfl (G_n rfl rfl ?_))
        refine Gy_q rfl rfl rfl (zak rfl (av := .xb true) rfl ?_)
        refine G_q rfl (zak rfl (av := .xb true) rfl ?_)
        refine qa (.xb true) rfl ?_
        refine G_nil ?_
        refine zac ⟨_, h, ?_⟩
        exact so (lq rfl lt0)
       ·replace h := ite_f h hc
        refine Gy_q rfl rfl rfl (zaf (av := .xs y38.1) rfl ?_)
        refine Gy_q rfl rfl rfl (zaf (av := .xs x7_j31) rfl ?_)
        refine Gy_q rfl rfl rfl (op_eqlS rfl rfl ?_)
        refine Gy_q rfl rfl rfl (zah rfl (av := .xb (decide (y38.1 = x7_j31))) rfl ?_)
        refine G_q rfl (zak rfl (av := .xb (decide (y38.1 = x7_j31))) rfl ?_)
        refine qa (.xb (decide (y38.1 = x7_j31))) rfl ?_
        refine G_nil ?_
        refine zac ⟨_, h, ?_⟩
        exact so (lq rfl lt0)
      ·replace h := ite_f h hc
       refine G_n rfl rfl (G_n rfl rfl (G_n rfl rfl ?_))
       refine G_u rfl rfl ?_
       refine G_u rfl rfl ?_
       refine G_u rfl rfl ?_
       refine G_n rfl rfl ?_
       refine G_q rfl (zah rfl (av := .xb false) rfl ?_)
       refine qa (.xb false) rfl ?_
       refine G_nil ?_
       refine zac ⟨_, h, ?_⟩
       exact so (lq rfl lt0)
     ·replace h := ite_f h hc
      refine G_n rfl rfl (G_n rfl rfl (G_n rfl rfl (G_n rfl rfl (G_n rfl rfl ?_))))
      refine G_q rfl (zah rfl (av := .xb false) rfl ?_)
      refine qm (.xb false) rfl ?_
      refine G_n rfl rfl (G_n rfl rfl (G_n rfl rfl ?_))
      refine G_u rfl rfl ?_
      refine G_u rfl rfl ?_
      refine G_u rfl rfl ?_
      refine G_n rfl rfl ?_
      refine G_q rfl (zah rfl (av := .xb false) rfl ?_)
      refine qa (.xb false) rfl ?_
      refine G_nil ?_
      refine zac ⟨_, h, ?_⟩
      exact so (lq rfl lt0)
    ·refine k_ret ?_
     obtain rfl := Option.some.inj h
     refine ke (pt AF0 2 (.xb x2_j39)) [] rfl ?_ ⟨rfl, rfl⟩
     exact so (lq rfl lt0)
end Go.Proofs.YtpfdeahcjlfijaaGreat
/- The functions compute their models, by program. -/
namespace Go.Proofs.YtpfdeahcjlfijaaGreat
open Go.RowKit
attribute [local irreducible] AV.exact AV.top AV.row AV.ptr AV.agg AV.tup AV.eptr AV.fn AV.nilq AV.nilqn opA opB opM opR Quiet Loud Reads wpG awp den Sub SubU Pure Fun vecI vecT boxI CellsAll CellsOf OneC LEs LEss
set_option maxRecDepth 100000

end Go.Proofs.YtpfdeahcjlfijaaGreat
