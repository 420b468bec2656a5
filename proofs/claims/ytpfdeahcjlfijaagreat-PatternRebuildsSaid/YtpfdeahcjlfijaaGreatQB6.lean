/- The functions compute their models, by program. -/
import Derived.Test.YtpfdeahcjlfijaaGreatQB5
namespace Go.Proofs.YtpfdeahcjlfijaaGreat
open Go.RowKit
attribute [local irreducible] AV.exact AV.top AV.row AV.ptr AV.agg AV.tup AV.eptr AV.fn AV.nilq AV.nilqn opA opB opM opR Quiet Loud Reads wpG awp den Sub SubU Pure Fun vecI vecT boxI CellsAll CellsOf OneC LEs LEss
set_option maxRecDepth 100000

set_option maxHeartbeats 4000000 in
theorem m_pattern_node_formed_ok (a0 : Nd) (r : Bool) (h : m_pattern_node_formed a0 = some r) : Pure Tryz.prog 81 [(ndA a0)] (.exact (.bool r)) := by
 unfold m_pattern_node_formed at h
 refine Pure.ofFun (fun_of_awp Tryz.func81 rfl Tryz.ntmps81 (by simp) rfl (res1 rfl) fun E hE => k_end ?_)
 refine zad (kr ?_)
 refine qa (.xb false) rfl ?_
 refine G_nil (zaa (zad (kr ?_)))
 refine qm (ndA a0) rfl ?_
 obtain ⟨y1, hy1, h⟩ := bnd1_some h
 refine G_q rfl (zan (c := zag y1) (ndA_un hy1) ?_)
 refine G_q rfl (zaj (o := 2) (c' := (List.drop 2 (zag y1))) (by kernel_rfl) rfl rfl ?_)
 refine G_q rfl (zal (a := .row 1 c_P_pattern_node y1.2.2) (by kernel_rfl) rfl rfl ?_)
 refine G_q rfl (op_len_row (by kernel_rfl) rfl ?_)
 refine qa (.xi (List.length y1.2.2 : Int)) rfl ?_
 refine G_nil (zaa (zad (zad (kr ?_))))
 refine qm (ndA a0) rfl ?_
 obtain ⟨y37, hy37, h⟩ := bnd1_some h
 refine G_q rfl (zan (c := zag y37) (ndA_un hy37) ?_)
 refine G_q rfl (zaj (o := 0) (c' := (List.drop 0 (zag y37))) (by kernel_rfl) rfl rfl ?_)
 refine G_q rfl (zal (a := .xi y37.1) (by kernel_rfl) rfl rfl ?_)
 refine G_nil (zaa (k_block ?_))
 refine k_join1_0 h (fun (x13_j38 : Bool) => (pt (pt (pt (pt AF0 0 (ndA a0)) 3 (.xi (List.length y1.2.2 : Int))) 12 (.xi y37.1)) 13 (.xb x13_j38))) (fun (x13_j38 : Bool) => []) (fun k38 h => ?_) (fun x13_j38 h => ?_)
 ·refine zad (kr ?_)
  refine G_q rfl (op_eql rfl rfl ?_)
  refine qa (.xb (decide (y37.1 = 30))) rfl ?_
  refine G_nil (zaa ?_)
  refine kd (p := y37.1 = 30) rfl h (fun hc h => ?_) (fun hc h => ?_)
  ·refine k_skip ?_
   refine zac ⟨_, h, ?_⟩
   exact so (l4 rfl rfl rfl rfl lt0)
  ·refine kr ?_
   refine G_q rfl (op_eql rfl rfl ?_)
   refine qa (.xb (decide (y37.1 = 31))) rfl ?_
   refine G_nil ?_
   refine zac ⟨_, h, ?_⟩
   exact so (l4 rfl rfl rfl rfl lt0)
 ·refine kb (p := x13_j38) rfl h (fun hc h => ?_) (fun hc h => ?_)
  ·refine k_join1_0 h (fun (x2_j39 : Bool) => (pt AF0 2 (.xb x2_j39))) (fun (x2_j39 : Bool) => []) (fun k39 h => ?_) (fun x2_j39 h => ?_)
   ·refine kr ?_
    refine qm (.xi (List.length y1.2.2 : Int)) rfl ?_
    refine G_q rfl (op_eql rfl rfl ?_)
    refine qm (.xb (decide ((List.length y1.2.2 : Int) = 0))) rfl ?_
    refine G_split (p := (List.length y1.2.2 : Int) = 0) 18 rfl (fun hc => ?_) (fun hc => ?_)
    ·replace h := ite_t h hc
     refine Gy_q rfl rfl rfl (zaf (av := ndA a0) rfl ?_)
     obtain ⟨y41, hy41, h⟩ := bnd1_some h
     refine Gy_q rfl rfl rfl (zan (c := zag y41) (ndA_un hy41) ?_)
     refine Gy_q rfl rfl rfl (zaj (o := 1) (c' := (List.drop 1 (zag y41))) (by kernel_rfl) rfl rfl ?_)
     refine Gy_q rfl rfl rfl (zal (a := .xi y41.2.1) (by kernel_rfl) rfl rfl ?_)
     refine Gy_q rfl rfl rfl (op_eql rfl rfl ?_)
     refine G_q rfl (zak rfl (av := .xb (decide (y41.2.1 = 0))) rfl ?_)
     refine qa (.xb (decide (y41.2.1 = 0))) rfl ?_
     refine G_nil ?_
     refine zac ⟨_, h, ?_⟩
     exact so (lq rfl lt0)
    ·replace h := ite_f h hc
     refine G_n rfl rfl (G_n rfl rfl (G_n rfl rfl (G_n rfl rfl (G_n rfl rfl ?_))))
     refine G_q rfl (zah rfl (av := .xb false) rfl ?_)
     refine qa (.xb false) rfl ?_
     refine G_nil ?_
     refine zac ⟨_, h, ?_⟩
     exact so (lq rfl lt0)
   ·refine k_ret (kB_ret (kC_ret ?_))
    obtain rfl := Option.some.inj h
    refine ke (pt AF0 2 (.xb x2_j39)) [] rfl ?_ ⟨rfl, rfl⟩
    exact so (lq rfl lt0)
  ·refine zad (kr ?_)
   refine G_q rfl (op_eql rfl rfl ?_)
   refine qa (.xb (decide (y37.1 = 32))) rfl ?_
   refine G_nil (zaa ?_)
   refine kd (p := y37.1 = 32) rfl h (fun hc h => ?_) (fun hc h => ?_)
   ·refine zad (kr ?_)
    refine qm (.xi (List.length y1.2.2 : Int)) rfl ?_
    refine G_q rfl (op_eql rfl rfl ?_)
    refine qa (.xb (decide ((List.length y1.2.2 : Int) = 0))) rfl ?_
    refine G_nil (zaa (k_ret (kB_ret (kC_ret ?_))))
    obtain rfl := Option.some.inj h
    refine ke (pt AF0 2 (.xb (decide ((List.length y1.2.2 : Int) = 0)))) [] rfl ?_ ⟨rfl, rfl⟩
    exact so (lq rfl lt0)
   ·refine zad (kr ?_)
    refine G_q rfl (op_eql rfl rfl ?_)
    refine qa (.xb (decide (y37.1 = 33))) rfl ?_
    refine G_nil (zaa ?_)
    refine kd (p := y37.1 = 33) rfl h (fun hc h => ?_) (fun hc h => ?_)
    ·refine k_join1_0 h (fun (x2_j42 : Bool) => (pt AF0 2 (.xb x2_j42))) (fun (x2_j42 : Bool) => []) (fun k42 h => ?_) (fun x2_j42 h => ?_)
     ·refine kr ?_
      refine qm (.xi (List.length y1.2.2 : Int)) rfl ?_
      refine G_q rfl (op_eql rfl rfl ?_)
      refine qm (.xb (decide ((List.length y1.2.2 : Int) = 0))) rfl ?_
      refine G_split (p := (List.length y1.2.2 : Int) = 0) 33 rfl (fun hc => ?_) (fun hc => ?_)
      ·replace h := ite_t h hc
       refine Gy_q rfl rfl rfl (zaf (av := ndA a0) rfl ?_)
       obtain ⟨y45, hy45, h⟩ := bnd1_some h
       refine Gy_q rfl rfl rfl (zan (c := zag y45) (ndA_un hy45) ?_)
       refine Gy_q rfl rfl rfl (zaj (o := 1) (c' := (List.drop 1 (zag y45))) (by kernel_rfl) rfl rfl ?_)
       refine Gy_q rfl rfl rfl (zal (a := .xi y45.2.1) (by kernel_rfl) rfl rfl ?_)
       refine Gy_q rfl rfl rfl (op_eql rfl rfl ?_)
       refine Gy_q rfl rfl rfl (zaf (av := .xb (decide (y45.2.1 = 0))) rfl ?_)
       refine G_split (p := y45.2.1 = 0) 39 rfl (fun hc => ?_) (fun hc => ?_)
       ·replace h := ite_t h hc
        refine G_n rfl rfl (G_n rfl rfl (G_n rfl rfl (G_n rfl rfl (G_n rfl rfl ?_))))
        refine Gy_q rfl rfl rfl (zak rfl (av := .xb true) rfl ?_)
        refine G_q rfl (zak rfl (av := .xb true) rfl ?_)
        refine qa (.xb true) rfl ?_
        refine G_nil ?_
        refine zac ⟨_, h, ?_⟩
        exact so (lq rfl lt0)
       ·replace h := ite_f h hc
        refine Gy_q rfl rfl rfl (zaf (av := ndA a0) rfl ?_)
        obtain ⟨y46, hy46, h⟩ := bnd1_some h
        refine Gy_q rfl rfl rfl (zan (c := zag y46) (ndA_un hy46) ?_)
        refine Gy_q rfl rfl rfl (zaj (o := 1) (c' := (List.drop 1 (zag y46))) (by kernel_rfl) rfl rfl ?_)
        refine Gy_q rfl rfl rfl (zal (a := .xi y46.2.1) (by kernel_rfl) rfl rfl ?_)
        refine Gy_q rfl rfl rfl (op_eql rfl rfl ?_)
        refine Gy_q rfl rfl rfl (zah rfl (av := .xb (decide (y46.2.1 = 1))) rfl ?_)
        refine G_q rfl (zak rfl (av := .xb (decide (y46.2.1 = 1))) rfl ?_)
        refine qa (.xb (decide (y46.2.1 = 1))) rfl ?_
        refine G_nil ?_
        refine zac ⟨_, h, ?_⟩
        exact so (lq rfl lt0)
      ·replace h := ite_f h hc
       refine G_n rfl rfl (G_n rfl rfl (G_n rfl rfl (G_n rfl rfl (G_n rfl rfl (G_n rfl rfl ?_)))))
       refine G_u rfl rfl ?_
       refine G_u rfl rfl ?_
       refine G_u rfl rfl ?_
       refine G_u rfl rfl ?_
       refine G_u rfl rfl ?_
       refine G_n rfl rfl ?_
       refine G_q rfl (zah rfl (av := .xb false) rfl ?_)
       refine qa (.xb false) rfl ?_
       refine G_nil ?_
       refine zac ⟨_, h, ?_⟩
       exact so (lq rfl lt0)
     ·refine k_ret (kB_ret (kC_ret ?_))
      obtain rfl := Option.some.inj h
      refine ke (pt AF0 2 (.xb x2_j42)) [] rfl ?_ ⟨rfl, rfl⟩
      exact so (lq rfl lt0)
    ·refine zad (kr ?_)
     refine G_q rfl (op_eql rfl rfl ?_)
     refine qa (.xb (decide (y37.1 = 34))) rfl ?_
     refine G_nil (zaa ?_)
     refine kd (p := y37.1 = 34) rfl h (fun hc h => ?_) (fun hc h => ?_)
     ·refine k_join1_0 h (fun (x2_j47 : Bool) => (pt AF0 2 (.xb x2_j47))) (fun (x2_j47 : Bool) => []) (fun k47 h => ?_) (fun x2_j47 h => ?_)
      ·refine kr ?_
       refine qm (.xi (List.length y1.2.2 : Int)) rfl ?_
       refine G_q rfl (op_geq rfl rfl ?_)
       refine qm (.xb (decide (2 ≤ (List.length y1.2.2 : Int)))) rfl ?_
       refine G_split (p := 2 ≤ (List.length y1.2.2 : Int)) 51 rfl (fun hc => ?_) (fun hc => ?_)
       ·replace h := ite_t h hc
        refine Gy_q rfl rfl rfl (zaf (av := .xi (List.length y1.2.2 : Int)) rfl ?_)
        refine Gy_q rfl rfl rfl (op_leq rfl rfl ?_)
        refine G_q rfl (zak rfl (av := .xb (decide ((List.length y1.2.2 : Int) ≤ 8))) rfl ?_)
        refine qm (.xb (decide ((List.length y1.2.2 : Int) ≤ 8))) rfl ?_
        refine G_split (p := (List.length y1.2.2 : Int) ≤ 8) 55 rfl (fun hc => ?_) (fun hc => ?_)
        ·replace h := ite_t h hc
         refine Gy_q rfl rfl rfl (zaf (av := ndA a0) rfl ?_)
         obtain ⟨y49, hy49, h⟩ := bnd1_some h
         refine Gy_q rfl rfl rfl (zan (c := zag y49) (ndA_un hy49) ?_)
         refine Gy_q rfl rfl rfl (zaj (o := 1) (c' := (List.drop 1 (zag y49))) (by kernel_rfl) rfl rfl ?_)
         refine Gy_q rfl rfl rfl (zal (a := .xi y49.2.1) (by kernel_rfl) rfl rfl ?_)
         refine Gy_q rfl rfl rfl (op_eql rfl rfl ?_)
         refine G_q rfl (zak rfl (av := .xb (decide (y49.2.1 = 0))) rfl ?_)
         refine qa (.xb (decide (y49.2.1 = 0))) rfl ?_
         refine G_nil ?_
         refine zac ⟨_, h, ?_⟩
         exact so (lq rfl lt0)
        ·replace h := ite_f h hc
         refine G_n rfl rfl (G_n rfl rfl (G_n rfl rfl (G_n rfl rfl (G_n rfl rfl ?_))))
         refine G_q rfl (zah rfl (av := .xb false) rfl ?_)
         refine qa (.xb false) rfl ?_
         refine G_nil ?_
         refine zac ⟨_, h, ?_⟩
         exact so (lq rfl lt0)
       ·replace h := ite_f h hc
        refine G_n rfl rfl (G_n rfl rfl ?_)
        refine G_q rfl (zah rfl (av := .xb false) rfl ?_)
        refine qm (.xb false) rfl ?_
        refine G_n rfl rfl (G_n rfl rfl (G_n rfl rfl (G_n rfl rfl (G_n rfl rfl ?_))))
        refine G_q rfl (zah rfl (av := .xb false) rfl ?_)
        refine qa (.xb false) rfl ?_
        refine G_nil ?_
        refine zac ⟨_, h, ?_⟩
        exact so (lq rfl lt0)
      ·refine k_ret (kB_ret (kC_ret ?_))
       obtain rfl := Option.some.inj h
       refine ke (pt AF0 2 (.xb x2_j47)) [] rfl ?_ ⟨rfl, rfl⟩
       exact so (lq rfl lt0)
     ·refine zad (kr ?_)
      refine G_q rfl (op_eql rfl rfl ?_)
      refine qa (.xb (decide (y37.1 = 35))) rfl ?_
      refine G_nil (zaa ?_)
      refine kd (p := y37.1 = 35) rfl h (fun hc h => ?_) (fun hc h => ?_)
      ·refine zad (kr ?_)
       refine qm (ndA a0) rfl ?_
       obtain ⟨y50, hy50, h⟩ := bnd1_some h
       refine G_q rfl (zan (c := zag y50) (ndA_un hy50) ?_)
       refine G_q rfl (zaj (o := 1) (c' := (List.drop 1 (zag y50))) (by kernel_rfl) rfl rfl ?_)
       refine G_q rfl (zal (a := .xi y50.2.1) (by kernel_rfl) rfl rfl ?_)
       refine G_q rfl (op_eql rfl rfl ?_)
       refine qa (.xb (decide (y50.2.1 = 0))) rfl ?_
       refine G_nil (zaa (k_ret (kB_ret (kC_ret ?_))))
       obtain rfl := Option.some.inj h
       refine ke (pt AF0 2 (.xb (decide (y50.2.1 = 0)))) [] rfl ?_ ⟨rfl, rfl⟩
       exact so (lq rfl lt0)
      ·refine zad (kr ?_)
       refine G_q rfl (op_eql rfl rfl ?_)
       refine qa (.xb (decide (y37.1 = 36))) rfl ?_
       refine G_nil (zaa ?_)
       refine kd (p := y37.1 = 36) rfl h (fun hc h => ?_) (fun hc h => ?_)
       ·refine k_join1_0 h (fun (x2_j51 : Bool) => (pt AF0 2 (.xb x2_j51))) (fun (x2_j51 : Bool) => []) (fun k51 h => ?_) (fun x2_j51 h => ?_)
        ·refine kr ?_
         refine qm (ndA a0) rfl ?_
         obtain ⟨y58, hy58, h⟩ := bnd1_some h
         refine G_q rfl (zan (c := zag y58) (ndA_un hy58) ?_)
         refine G_q rfl (zaj (o := 1) (c' := (List.drop 1 (zag y58))) (by kernel_rfl) rfl rfl ?_)
         refine G_q rfl (zal (a := .xi y58.2.1) (by kernel_rfl) rfl rfl ?_)
         refine G_q rfl (op_geq rfl rfl ?_)
         refine qm (.xb (decide (0 ≤ y58.2.1))) rfl ?_
         refine G_split (p := 0 ≤ y58.2.1) 76 rfl (fun hc => ?_) (fun hc => ?_)
         ·replace h := ite_t h hc
          refine Gy_q rfl rfl rfl (zaf (av := ndA a0) rfl ?_)
          obtain ⟨y59, hy59, h⟩ := bnd1_some h
          refine Gy_q rfl rfl rfl (zan (c := zag y59) (ndA_un hy59) ?_)
          refine Gy_q rfl rfl rfl (zaj (o := 1) (c' := (List.drop 1 (zag y59))) (by kernel_rfl) rfl rfl ?_)
          refine Gy_q rfl rfl rfl (zal (a := .xi y59.2.1) (by kernel_rfl) rfl rfl ?_)
          refine Gy_q rfl rfl rfl (zaf (av := .xi (List.length y1.2.2 : Int)) rfl ?_)
          refine Gy_q rfl rfl rfl (op_lss rfl rfl ?_)
          refine G_q rfl (zak rfl (av := .xb (decide (y59.2.1 < (List.length y1.2.2 : Int)))) rfl ?_)
          refine qm (.xb (decide (y59.2.1 < (List.length y1.2.2 : Int)))) rfl ?_
          refine G_split (p := y59.2.1 < (List.length y1.2.2 : Int)) 84 rfl (fun hc => ?_) (fun hc => ?_)
          ·replace h := ite_t h hc
           refine Gy_q rfl rfl rfl (zaf (av := ndA a0) rfl ?_)
           obtain ⟨y60, hy60, h⟩ := bnd1_some h
           refine Gy_q rfl rfl rfl (zai (m_pattern_node_rest_ok _ _ hy60) Tryz.func95 (by kernel_rfl) (LEs.cons (AV.le_eq rfl) LEs.nil) ?_)
           obtain ⟨y61, hy61, h⟩ := bnd1_some h
           refine Gy_q rfl rfl rfl (zan (c := zag y61) (ndA_un hy61) ?_)
           refine Gy_q rfl rfl rfl (zaj (o := 0) (c' := (List.drop 0 (zag y61))) (by kernel_rfl) rfl rfl ?_)
           refine Gy_q rfl rfl rfl (zal (a := .xi y61.1) (by kernel_rfl) rfl rfl ?_)
           refine Gy_q rfl rfl rfl (op_eql rfl rfl ?_)
           refine Gy_q rfl rfl rfl (zaf (av := .xb (decide (y61.1 = 30))) rfl ?_)
           refine G_split (p := y61.1 = 30) 91 rfl (fun hc => ?_) (fun hc => ?_)
           ·replace h := ite_t h hc
            refine G_n rfl rfl (G_n rfl rfl (G_n rfl rfl (G_n rfl rfl (G_n rfl rfl (G_n rfl rfl ?_)))))
            refine Gy_q rfl rfl rfl (zak rfl (av := .xb true) rfl ?_)
            refine G_q rfl (zak rfl (av := .xb true) rfl ?_)
            refine qa (.xb true) rfl ?_
            refine G_nil ?_
            refine zac ⟨_, h, ?_⟩
            exact so (lq rfl lt0)
           ·replace h := ite_f h hc
            refine Gy_q rfl rfl rfl (zaf (av := ndA a0) rfl ?_)
            obtain ⟨y62, hy62, h⟩ := bnd1_some h
            refine Gy_q rfl rfl rfl (zai (m_pattern_node_rest_ok _ _ hy62) Tryz.func95 (by kernel_rfl) (LEs.cons (AV.le_eq rfl) LEs.nil) ?_)
            obtain ⟨y63, hy63, h⟩ := bnd1_some h
            refine Gy_q rfl rfl rfl (zan (c := zag y63) (ndA_un hy63) ?_)
            refine Gy_q rfl rfl rfl (zaj (o := 0) (c' := (List.drop 0 (zag y63))) (by kernel_rfl) rfl rfl ?_)
            refine Gy_q rfl rfl rfl (zal (a := .xi y63.1) (by kernel_rfl) rfl rfl ?_)
            refine Gy_q rfl rfl rfl (op_eql rfl rfl ?_)
            refine Gy_q rfl rfl rfl (zah rfl (av := .xb (decide (y63.1 = 31))) rfl ?_)
            refine G_q rfl (zak rfl (av := .xb (decide (y63.1 = 31))) rfl ?_)
            refine qa (.xb (decide (y63.1 = 31))) rfl ?_
            refine G_nil ?_
            refine zac ⟨_, h, ?_⟩
            exact so (lq rfl lt0)
          ·replace h := ite_f h hc
           refine G_n rfl rfl (G_n rfl rfl (G_n rfl rfl (G_n rfl rfl (G_n rfl rfl (G_n rfl rfl (G_n rfl rfl ?_))))))
           refine G_u rfl rfl ?_
           refine G_u rfl rfl ?_
           refine G_u rfl rfl ?_
           refine G_u rfl rfl ?_
           refine G_u rfl rfl ?_
           refine G_u rfl rfl ?_
           refine G_n rfl rfl ?_
           refine G_q rfl (zah rfl (av := .xb false) rfl ?_)
           refine qa (.xb false) rfl ?_
           refine G_nil ?_
           refine zac ⟨_, h, ?_⟩
           exact so (lq rfl lt0)
         ·replace h := ite_f h hc
          refine G_n rfl rfl (G_n rfl rfl (G_n rfl rfl (G_n rfl rfl (G_n rfl rfl (G_n rfl rfl ?_)))))
          refine G_q rfl (zah rfl (av := .xb false) rfl ?_)
          refine qm (.xb false) rfl ?_
          refine G_n rfl rfl (G_n rfl rfl (G_n rfl rfl (G_n rfl rfl (G_n rfl rfl (G_n rfl rfl (G_n rfl rfl ?_))))))
          refine G_u rfl rfl ?_
          refine G_u rfl rfl ?_
          refine G_u rfl rfl ?_
          refine G_u rfl rfl ?_
          refine G_u rfl rfl ?_
          refine G_u rfl rfl ?_
          refine G_n rfl rfl ?_
          refine G_q rfl (zah rfl (av := .xb false) rfl ?_)
          refine qa (.xb false) rfl ?_
          refine G_nil ?_
          refine zac ⟨_, h, ?_⟩
          exact so (lq rfl lt0)
        ·refine k_ret (kB_ret (kC_ret ?_))
         obtain rfl := Option.some.inj h
         refine ke (pt AF0 2 (.xb x2_j51)) [] rfl ?_ ⟨rfl, rfl⟩
         exact so (lq rfl lt0)
       ·refine zad (kr ?_)
        refine G_q rfl (op_eql rfl rfl ?_)
        refine qa (.xb (decide (y37.1 = 37))) rfl ?_
        refine G_nil (zaa ?_)
        refine kd (p := y37.1 = 37) rfl h (fun hc h => ?_) (fun hc h => ?_)
        ·refine k_join1_0 h (fun (x2_j64 : Bool) => (pt AF0 2 (.xb x2_j64))) (fun (x2_j64 : Bool) => []) (fun k64 h => ?_) (fun x2_j64 h => ?_)
         ·refine kr ?_
          refine qm (.xi (List.length y1.2.2 : Int)) rfl ?_
          refine G_q rfl (op_leq rfl rfl ?_)
          refine qm (.xb (decide ((List.length y1.2.2 : Int) ≤ 1))) rfl ?_
          refine G_split (p := (List.length y1.2.2 : Int) ≤ 1) 104 rfl (fun hc => ?_) (fun hc => ?_)
          ·replace h := ite_t h hc
           refine Gy_q rfl rfl rfl (zaf (av := ndA a0) rfl ?_)
           obtain ⟨y66, hy66, h⟩ := bnd1_some h
           refine Gy_q rfl rfl rfl (zan (c := zag y66) (ndA_un hy66) ?_)
           refine Gy_q rfl rfl rfl (zaj (o := 1) (c' := (List.drop 1 (zag y66))) (by kernel_rfl) rfl rfl ?_)
           refine Gy_q rfl rfl rfl (zal (a := .xi y66.2.1) (by kernel_rfl) rfl rfl ?_)
           refine Gy_q rfl rfl rfl (op_eql rfl rfl ?_)
           refine G_q rfl (zak rfl (av := .xb (decide (y66.2.1 = 0))) rfl ?_)
           refine qa (.xb (decide (y66.2.1 = 0))) rfl ?_
           refine G_nil ?_
           refine zac ⟨_, h, ?_⟩
           exact so (lq rfl lt0)
          ·replace h := ite_f h hc
           refine G_n rfl rfl (G_n rfl rfl (G_n rfl rfl (G_n rfl rfl (G_n rfl rfl ?_))))
           refine G_q rfl (zah rfl (av := .xb false) rfl ?_)
           refine qa (.xb false) rfl ?_
           refine G_nil ?_
           refine zac ⟨_, h, ?_⟩
           exact so (lq rfl lt0)
         ·refine k_ret (kB_ret (kC_ret ?_))
          obtain rfl := Option.some.inj h
          refine ke (pt AF0 2 (.xb x2_j64)) [] rfl ?_ ⟨rfl, rfl⟩
          exact so (lq rfl lt0)
        ·refine zad (kr ?_)
         refine G_q rfl (op_eql rfl rfl ?_)
         refine qa (.xb (decide (y37.1 = 38))) rfl ?_
         refine G_nil (zaa ?_)
         refine kd (p := y37.1 = 38) rfl h (fun hc h => ?_) (fun hc h => ?_)
         ·refine zad (kr ?_)
          refine qa (.xb true) rfl ?_
          refine G_nil (zaa (k_ret (kB_ret (kC_ret ?_))))
          obtain rfl := Option.some.inj h
          refine ke (pt AF0 2 (.xb true)) [] rfl ?_ ⟨rfl, rfl⟩
          exact so (lq rfl lt0)
         ·refine k_join1_0 h (fun (x113_j67 : Bool) => (pt (pt (pt AF0 0 (ndA a0)) 3 (.xi (List.length y1.2.2 : Int))) 113 (.xb x113_j67))) (fun (x113_j67 : Bool) => []) (fun k67 h => ?_) (fun x113_j67 h => ?_)
          ·refine zad (kr ?_)
           refine G_q rfl (op_eql rfl rfl ?_)
           refine qa (.xb (decide (y37.1 = 39))) rfl ?_
           refine G_nil (zaa ?_)
           refine kd (p := y37.1 = 39) rfl h (fun hc h => ?_) (fun hc h => ?_)
           ·refine k_skip ?_
            refine zac ⟨_, h, ?_⟩
            exact so (lq rfl (lq rfl (lq rfl lt0)))
           ·refine kr ?_
            refine G_q rfl (op_eql rfl rfl ?_)
            refine qa (.xb (decide (y37.1 = 40))) rfl ?_
            refine G_nil ?_
            refine zac ⟨_, h, ?_⟩
            exact so (lq rfl (lq rfl (lq rfl lt0)))
          ·refine kb (p := x113_j67) rfl h (fun hc h => ?_) (fun hc h => ?_)
           ·refine k_join1_0 h (fun (x2_j68 : Bool) => (pt AF0 2 (.xb x2_j68))) (fun (x2_j68 : Bool) => []) (fun k68 h => ?_) (fun x2_j68 h => ?_)
            ·refine kr ?_
             refine qm (.xi (List.length y1.2.2 : Int)) rfl ?_
             refine G_q rfl (op_eql rfl rfl ?_)
             refine qm (.xb (decide ((List.length y1.2.2 : Int) = 2))) rfl ?_
             refine G_split (p := (List.length y1.2.2 : Int) = 2) 118 rfl (fun hc => ?_) (fun hc => ?_)
             ·replace h := ite_t h hc
              refine Gy_q rfl rfl rfl (zaf (av := ndA a0) rfl ?_)
              obtain ⟨y70, hy70, h⟩ := bnd1_some h
              refine Gy_q rfl rfl rfl (zan (c := zag y70) (ndA_un hy70) ?_)
              refine Gy_q rfl rfl rfl (zaj (o := 1) (c' := (List.drop 1 (zag y70))) (by kernel_rfl) rfl rfl ?_)
              refine Gy_q rfl rfl rfl (zal (a := .xi y70.2.1) (by kernel_rfl) rfl rfl ?_)
              refine Gy_q rfl rfl rfl (op_eql rfl rfl ?_)
              refine G_q rfl (zak rfl (av := .xb (decide (y70.2.1 = 0))) rfl ?_)
              refine qa (.xb (decide (y70.2.1 = 0))) rfl ?_
              refine G_nil ?_
              refine zac ⟨_, h, ?_⟩
              exact so (lq rfl lt0)
             ·replace h := ite_f h hc
              refine G_n rfl rfl (G_n rfl rfl (G_n rfl rfl (G_n rfl rfl (G_n rfl rfl ?_))))
              refine G_q rfl (zah rfl (av := .xb false) rfl ?_)
              refine qa (.xb false) rfl ?_
              refine G_nil ?_
              refine zac ⟨_, h, ?_⟩
              exact so (lq rfl lt0)
            ·refine k_ret (kB_ret (kC_ret ?_))
             obtain rfl := Option.some.inj h
             refine ke (pt AF0 2 (.xb x2_j68)) [] rfl ?_ ⟨rfl, rfl⟩
             exact so (lq rfl lt0)
           ·refine k_skip (kB_normal (zaa (zad (kr ?_))))
            refine qa (.xb false) rfl ?_
            refine G_nil (zaa (k_ret ?_))
            obtain rfl := Option.some.inj h
            refine ke (pt AF0 2 (.xb false)) [] rfl ?_ ⟨rfl, rfl⟩
            exact so (lq rfl lt0)
set_option maxHeartbeats 4000000 in
theorem m_pattern_read_F_ok (self_pattern_read : (List (Int × Int × Int)) → Int → Option (Nd × (List (Int × Int × Int)) × Bool)) (hself_pattern_read : ∀ (a0 : List (Int × Int × Int)) (a1 : Int) (r : Nd × (List (Int × Int × Int)) × Bool), self_pattern_read a0 a1 = some r → Pure Tryz.prog 54 [(.row 3 zae a0), (.exact (.int .i64 a1))] (.tup [ndA r.1, .row 3 zae r.2.1, .exact (.bool r.2.2)])) (a0 : List (Int × Int × Int)) (a1 : Int) (r : Nd × (List (Int × Int × Int)) × Bool) (h : m_pattern_read_F self_pattern_read a0 a1 = some r) : Pure Tryz.prog 54 [(.row 3 zae a0), (.exact (.int .i64 a1))] (.tup [ndA r.1, .row 3 zae r.2.1, .exact (.bool r.2.2)]) := by
 unfold m_pattern_read_F at h
 refine Pure.ofFun (fun_of_awp Tryz.func54 rfl Tryz.ntmps54 (by simp) rfl (res3 rfl) fun E hE => k_end ?_)
 refine zad (kr ?_)
 refine qa (.exact (.pointer none)) rfl ?_
 refine qa (.exact (.slice none 0 0)) rfl ?_
 refine qa (.xb false) rfl ?_
 refine G_nil (zaa (zad ?_))
 refine k_join1_0 h (fun (x34_j7 : Bool) => (pt (pt (pt AF0 0 (.row 3 zae a0)) 1 (.xi a1)) 34 (.xb x34_j7))) (fun (x34_j7 : Bool) => []) (fun k7 h => ?_) (fun x34_j7 h => ?_)
 ·refine kr ?_
  refine qm (.row 3 zae a0) rfl ?_
  refine G_q rfl (op_len_row (by kernel_rfl) rfl ?_)
  refine G_q rfl (op_eql rfl rfl ?_)
  refine qm (.xb (decide ((List.length a0 : Int) = 0))) rfl ?_
  refine G_split (p := (List.length a0 : Int) = 0) 15 rfl (fun hc => ?_) (fun hc => ?_)
  ·replace h := ite_t h hc
   refine G_n rfl rfl (G_n rfl rfl ?_)
   refine G_q rfl (zak rfl (av := .xb true) rfl ?_)
   refine qm (.xb true) rfl ?_
   refine G_n rfl rfl (G_n rfl rfl (G_n rfl rfl (G_n rfl rfl (G_n rfl rfl ?_))))
   refine G_q rfl (zak rfl (av := .xb true) rfl ?_)
   refine qm (.xb true) rfl ?_
   refine G_n rfl rfl (G_n rfl rfl (G_n rfl rfl (G_n rfl rfl (G_n rfl rfl (G_n rfl rfl (G_n rfl rfl ?_))))))
   refine G_q rfl (zak rfl (av := .xb true) rfl ?_)
   refine G_nil ?_
   refine zac ⟨_, h, ?_⟩
   exact so (lq rfl (lq rfl (lq rfl lt0)))
  ·replace h := ite_f h hc
   refine Gy_q rfl rfl rfl (zaf (av := .xi a1) rfl ?_)
   refine Gy_q rfl rfl rfl (op_gtr rfl rfl ?_)
   refine G_q rfl (zah rfl (av := .xb (decide (64 < a1))) rfl ?_)
   refine qm (.xb (decide (64 < a1))) rfl ?_
   refine G_split (p := 64 < a1) 19 rfl (fun hc => ?_) (fun hc => ?_)
   ·replace h := ite_t h hc
    refine G_n rfl rfl (G_n rfl rfl (G_n rfl rfl (G_n rfl rfl (G_n rfl rfl ?_))))
    refine G_q rfl (zak rfl (av := .xb true) rfl ?_)
    refine qm (.xb true) rfl ?_
    refine G_n rfl rfl (G_n rfl rfl (G_n rfl rfl (G_n rfl rfl (G_n rfl rfl (G_n rfl rfl (G_n rfl rfl ?_))))))
    refine G_q rfl (zak rfl (av := .xb true) rfl ?_)
    refine G_nil ?_
    refine zac ⟨_, h, ?_⟩
    exact so (lq rfl (lq rfl (lq rfl lt0)))
   ·replace h := ite_f h hc
    refine Gy_q rfl rfl rfl (zaf (av := .row 3 zae a0) rfl ?_)
    obtain ⟨n10, h⟩ := need_some h
    refine Gy_q rfl rfl rfl (zam (by kernel_rfl) rfl rfl n10.1 n10.2 ?_)
    refine Gy_q rfl rfl rfl (zaj (o := 2) (c' := (List.drop 2 (zae (gi a0 0)))) (by kernel_rfl) rfl rfl ?_)
    refine Gy_q rfl rfl rfl (zal (a := .xi ((gi a0 0).2.2)) (by kernel_rfl) rfl rfl ?_)
    refine Gy_q rfl rfl rfl (op_lss rfl rfl ?_)
    refine G_q rfl (zah rfl (av := .xb (decide (((gi a0 0).2.2) < 0))) rfl ?_)
    refine qm (.xb (decide (((gi a0 0).2.2) < 0))) rfl ?_
    refine G_split (p := ((gi a0 0).2.2) < 0) 26 rfl (fun hc => ?_) (fun hc => ?_)
    ·replace h := ite_t h hc
     refine G_n rfl rfl (G_n rfl rfl (G_n rfl rfl (G_n rfl rfl (G_n rfl rfl (G_n rfl rfl (G_n rfl rfl ?_))))))
     refine G_q rfl (zak rfl (av := .xb true) rfl ?_)
     refine G_nil ?_
     refine zac ⟨_, h, ?_⟩
     exact so (lq rfl (lq rfl (lq rfl lt0)))
    ·replace h := ite_f h hc
     refine Gy_q rfl rfl rfl (zaf (av := .row 3 zae a0) rfl ?_)
     obtain ⟨n11, h⟩ := need_some h
     refine Gy_q rfl rfl rfl (zam (by kernel_rfl) rfl rfl n11.1 n11.2 ?_)
     refine Gy_q rfl rfl rfl (zaj (o := 2) (c' := (List.drop 2 (zae (gi a0 0)))) (by kernel_rfl) rfl rfl ?_)
     refine Gy_q rfl rfl rfl (zal (a := .xi ((gi a0 0).2.2)) (by kernel_rfl) rfl rfl ?_)
     refine Gy_q rfl rfl rfl (zaf (av := .row 3 zae a0) rfl ?_)
     refine Gy_q rfl rfl rfl (op_len_row (by kernel_rfl) rfl ?_)
     refine Gy_q rfl rfl rfl (op_geq rfl rfl ?_)
     refine G_q rfl (zah rfl (av := .xb (decide ((List.length a0 : Int) ≤ ((gi a0 0).2.2)))) rfl ?_)
     refine G_nil ?_
     refine zac ⟨_, h, ?_⟩
     exact so (lq rfl (lq rfl (lq rfl lt0)))
 ·refine kb (p := x34_j7) rfl h (fun hc h => ?_) (fun hc h => ?_)
  ·refine zad (kr ?_)
   refine qa (.exact (.pointer none)) rfl ?_
   refine qa (.exact (.slice none 0 0)) rfl ?_
   refine qa (.xb false) rfl ?_
   refine G_nil (zaa (k_ret (kC_ret ?_)))
   obtain rfl := Option.some.inj h
   refine ke (pt (pt (pt AF0 4 (ndA Nd.nil)) 5 (.row 3 zae [])) 6 (.xb false)) [] rfl ?_ ⟨rfl, rfl⟩
   exact so (lq rfl (AF.le_put (row_nil (by decide)) (AF.le_put (AV.le_eq ndA_nil.symm) lt0)))
  ·refine k_skip (zaa (zad ?_))
   refine k_plan [] [(0, 0), (0, 1), (0, 2), (0, 3), (0, 4), (0, 5), (0, 6), (0, 7), (0, 8), (2, 9), (0, 10)] hmixP (by kernel_rfl) ?_
   refine P_q no34_0 rfl (zaf (av := .row 3 zae a0) rfl ?_)
   obtain ⟨n12, h⟩ := need_some h
   refine P_q no34_0 rfl (zam (by kernel_rfl) rfl rfl n12.1 n12.2 ?_)
   refine P_q no34_0 rfl (zaj (o := 0) (c' := (List.drop 0 (zae (gi a0 0)))) (by kernel_rfl) rfl rfl ?_)
   refine P_q no34_0 rfl (zal (a := .xi ((gi a0 0).1)) (by kernel_rfl) rfl rfl ?_)
   refine P_q no34_0 rfl (zaf (av := .row 3 zae a0) rfl ?_)
   obtain ⟨n13, h⟩ := need_some h
   refine P_q no34_0 rfl (zam (by kernel_rfl) rfl rfl n13.1 n13.2 ?_)
   refine P_q no34_0 rfl (zaj (o := 1) (c' := (List.drop 1 (zae (gi a0 0)))) (by kernel_rfl) rfl rfl ?_)
   refine P_q no34_0 rfl (zal (a := .xi ((gi a0 0).2.1)) (by kernel_rfl) rfl rfl ?_)
   refine P_q no34_0 rfl (op_bld (c' := [.xi ((gi a0 0).1), .xi ((gi a0 0).2.1), .exact (.slice none 0 0)]) (CellsAll.cons rfl CellsOf.int (CellsAll.cons rfl CellsOf.int CellsAll.nil)) rfl (LEs.cons (AV.le_eq rfl) (LEs.cons (AV.le_eq rfl) (LEs.cons (AV.le_eq rfl) LEs.nil))) ?_)
   refine P_l rfl (op_boxI (c := [.xi ((gi a0 0).1), .xi ((gi a0 0).2.1), .exact (.slice none 0 0)]) rfl CellsOf.agg (LEs.cons (AV.le_eq rfl) (LEs.cons (AV.le_eq rfl) (LEs.cons (AV.le_eq rfl) LEs.nil))) (fun b14 => ?_))
   refine P_q no34_0 rfl (op_assign (av := pA b14 0) rfl ?_)
   refine P_nil (zaa (zad (kr ?_)))
   refine qm (.row 3 zae a0) rfl ?_
   obtain ⟨n15, h⟩ := need_some h
   refine G_q rfl (zam (by kernel_rfl) rfl rfl n15.1 n15.2 ?_)
   refine G_q rfl (zaj (o := 2) (c' := (List.drop 2 (zae (gi a0 0)))) (by kernel_rfl) rfl rfl ?_)
   refine G_q rfl (zal (a := .xi ((gi a0 0).2.2)) (by kernel_rfl) rfl rfl ?_)
   refine qa (.xi ((gi a0 0).2.2)) rfl ?_
   refine G_nil (zaa (zad (kr ?_)))
   refine qm (.row 3 zae a0) rfl ?_
   obtain ⟨n16, h⟩ := need_some h
   refine G_q rfl (op_slice_rowd (by kernel_rfl) rfl (bnd_some rfl) bnd_none (by decide) n16 (Int.le_refl _) ?_)
   refine qa (.row 3 zae (List.drop (Int.toNat 1) a0)) rfl ?_
   refine G_nil (zaa ?_)
   refine k_join2_1 h (fun (x0_j17 : List (Int × Int × Int)) (x7_2_j17 : List Nd) (v7_2_j17 : Value) => (pt (pt AF0 0 (.row 3 zae x0_j17)) 7 (pA b14 0))) (fun (x0_j17 : List (Int × Int × Int)) (x7_2_j17 : List Nd) (v7_2_j17 : Value) => [vecT Tryz.prog 67 1 c_P_pattern_node v7_2_j17 x7_2_j17, boxI 69 b14 [.xi ((gi a0 0).1), .xi ((gi a0 0).2.1), .exact v7_2_j17]]) (fun k17 h => ?_) (fun x0_j17 x7_2_j17 v7_2_j17 h => ?_)
   ·refine zad (kr ?_)
    refine qm (.xi ((gi a0 0).2.2)) rfl ?_
    refine qm (.xi 0) rfl ?_
    refine G_nil (zaa (k_block ?_))
    refine k_loop3_1 (m_pattern_read_L2 self_pattern_read a0 a1 k17) (m_pattern_read_B2 self_pattern_read a0 a1 k17) (fun _ _ _ => rfl) (fun m _ _ _ => rfl) h (fun (x0_l2 : List (Int × Int × Int)) (x7_2_l2 : List Nd) (x52_l2 : Int) (v7_2_l2 : Value) => (pt (pt (pt (pt (pt AF0 0 (.row 3 zae x0_l2)) 1 (.xi a1)) 7 (pA b14 0)) 51 (.xi ((gi a0 0).2.2))) 52 (.xi x52_l2))) (fun (x0_l2 : List (Int × Int × Int)) (x7_2_l2 : List Nd) (x52_l2 : Int) (v7_2_l2 : Value) => [vecT Tryz.prog 67 1 c_P_pattern_node v7_2_l2 x7_2_l2, boxI 69 b14 [.xi ((gi a0 0).1), .xi ((gi a0 0).2.1), .exact v7_2_l2]]) (.slice none 0 0) ?_ (fun rec2 x0_l2 x7_2_l2 x52_l2 v7_2_l2 h => ?_)
    ·refine Sub.trans (SubU.to (SubU.nilT (P := Tryz.prog) (t := 67) (n := 1) (enc := c_P_pattern_node))) ?_
     exact so (l4 rfl rfl rfl rfl (lq rfl lt0))
    ·unfold m_pattern_read_B2 at h
     refine zad (kr ?_)
     refine G_q rfl (op_lss rfl rfl ?_)
     refine G_nil (zaa (zad ?_))
     refine kd (p := x52_l2 < ((gi a0 0).2.2)) rfl h (fun hc h => ?_) (fun hc h => ?_)
     ·refine k_skip (zaa (zad (k_block (zad (kr ?_)))))
      refine qm (.row 3 zae x0_l2) rfl ?_
      refine qm (.xi a1) rfl ?_
      refine G_q rfl (op_add rfl rfl rfl ?_)
      obtain ⟨y34, hy34, h⟩ := bnd1_some h
      refine G_q rfl (zai (hself_pattern_read _ _ _ hy34) Tryz.func54 (by kernel_rfl) (LEs.cons (AV.le_eq rfl) (LEs.cons (AV.le_eq rfl) LEs.nil)) ?_)
      refine qm (.tup [ndA y34.1, .row 3 zae y34.2.1, .xb y34.2.2]) rfl ?_
      refine G_q rfl (op_extract (av := ndA y34.1) rfl rfl ?_)
      refine G_q rfl (op_extract (av := .row 3 zae y34.2.1) rfl rfl ?_)
      refine G_q rfl (op_extract (av := .xb y34.2.2) rfl rfl ?_)
      refine qa (ndA y34.1) rfl ?_
      refine qa (.row 3 zae y34.2.1) rfl ?_
      refine qa (.xb y34.2.2) rfl ?_
      refine G_nil (zaa (zad (zad (kr ?_))))
      refine qm (.xb y34.2.2) rfl ?_
      refine G_q rfl (op_not rfl ?_)
      refine G_nil (zaa ?_)
      refine kb (p := !y34.2.2) rfl h (fun hc h => ?_) (fun hc h => ?_)
      ·refine zad (kr ?_)
       refine qa (.exact (.pointer none)) rfl ?_
       refine qa (.exact (.slice none 0 0)) rfl ?_
       refine qa (.xb false) rfl ?_
       refine G_nil (zaa (k_ret (kC_ret (kB_ret (kC_ret (kI_ret (kB_ret (kI_ret ?_))))))))
       obtain rfl := Option.some.inj h
       refine ke (pt (pt (pt AF0 4 (ndA Nd.nil)) 5 (.row 3 zae [])) 6 (.xb false)) [] rfl ?_ ⟨rfl, rfl⟩
       refine Sub.trans (SubU.to SubU.drop) ?_
       refine Sub.trans (SubU.to SubU.drop) ?_
       exact so (lq rfl (AF.le_put (row_nil (by decide)) (AF.le_put (AV.le_eq ndA_nil.symm) lt0)))
      ·refine k_skip (zaa (zad (kr ?_)))
       refine qm (pA b14 0) rfl ?_
       refine qm (pA b14 0) rfl ?_
       refine G_q rfl (op_nilCheck rfl ?_)
       refine G_q rfl (op_fieldAddr (o := 2) (by kernel_rfl) rfl ?_)
       refine G_r rfl (opR_f1 (op_load_box1 (a := .exact v7_2_l2) (by kernel_rfl) rfl rfl ?_))
       refine qm (ndA y34.1) rfl ?_
       refine G_q rfl (op_litT (n := 1) (enc := c_P_pattern_node) [y34.1] (CellsAll.cons rfl CellsOf.tree CellsAll.nil) rfl (by kernel_rfl) (LEss.cons (LEs.cons (AV.le_eq rfl) LEs.nil) LEss.nil) ?_)
       obtain ⟨n35, h⟩ := need_some h
       refine G_l rfl (op_appT (by kernel_rfl) rfl rfl oc_c_P_pattern_node n35 (fun v36 => ?_))
       refine G_q rfl (op_nilCheck rfl ?_)
       refine G_q rfl (op_fieldAddr (o := 2) (by kernel_rfl) rfl ?_)
       refine G_l rfl (opB_sl (List.Mem.head _) (fun hsl => (opB_f1 (op_store_box (c' := [.exact v36]) (c3 := [.xi ((gi a0 0).1), .xi ((gi a0 0).2.1), .exact v36]) rfl rfl (CellsOf.sl hsl) (LEs.cons (AV.le_eq rfl) LEs.nil) (OneC.sl hsl OneC.nil) (by kernel_rfl) (Nat.le_of_ble_eq_true rfl) rfl ?_))))
       refine G_nil (zaa (kr ?_))
       refine qm (.row 3 zae y34.2.1) rfl ?_
       refine qa (.row 3 zae y34.2.1) rfl ?_
       refine G_nil (kB_normal (zaa (kr ?_)))
       refine G_q rfl (op_add rfl rfl rfl ?_)
       refine qm (.xi (i64 (x52_l2 + 1))) rfl ?_
       refine G_nil ?_
       refine zac ⟨_, _, _, v36, h, ?_⟩
       refine Sub.trans (SubU.to SubU.f1) ?_
       exact so (l4 rfl rfl rfl rfl (lq rfl lt0))
     ·refine k_exit (kC_exit (kI_exit (kB_exit ?_)))
      refine zac ⟨_, _, v7_2_l2, h, ?_⟩
      exact so (lq rfl (lq rfl lt0))
   ·refine zad (kr ?_)
    refine qm (pA b14 0) rfl ?_
    refine qm (.row 3 zae x0_j17) rfl ?_
    refine qm (pA b14 0) rfl ?_
    refine G_sub rfl (SubU.trans ((SubU.trans (SubU.know len_c_P_pattern_node) (SubU.trans (SubU.knowC (j := 2) (c' := [.xi ((gi a0 0).1), .xi ((gi a0 0).2.1), .row 1 c_P_pattern_node x7_2_j17]) rfl rfl) (SubU.drop)))) (SubU.trans (SubU.knowB (a := ndA (mkN ((gi a0 0).1, (gi a0 0).2.1, x7_2_j17))) (ndA_mk ((gi a0 0).1, (gi a0 0).2.1, x7_2_j17))) (SubU.trans (SubU.knowS (s := 7) rfl) (SubU.trans (SubU.knowS (s := 76) rfl) (SubU.trans (SubU.knowS (s := 78) rfl) (SubU.drop)))))) ?_
    obtain ⟨y37, hy37, h⟩ := bnd1_some h
    refine G_q rfl (zai (m_pattern_node_formed_ok _ _ hy37) Tryz.func81 (by kernel_rfl) (LEs.cons (AV.le_eq rfl) LEs.nil) ?_)
    refine qa (ndA (mkN ((gi a0 0).1, (gi a0 0).2.1, x7_2_j17))) rfl ?_
    refine qa (.row 3 zae x0_j17) rfl ?_
    refine qa (.xb y37) rfl ?_
    refine G_nil (zaa (k_ret ?_))
    obtain rfl := Option.some.inj h
    refine ke (pt (pt (pt AF0 4 (ndA (mkN ((gi a0 0).1, (gi a0 0).2.1, x7_2_j17)))) 5 (.row 3 zae x0_j17)) 6 (.xb y37)) [] rfl ?_ ⟨rfl, rfl⟩
    exact so (lq rfl (lq rfl (lq rfl lt0)))
set_option maxHeartbeats 4000000 in
theorem m_pattern_read_S_ok : ∀ n : Nat, (∀ (a0 : List (Int × Int × Int)) (a1 : Int) (r : Nd × (List (Int × Int × Int)) × Bool), m_pattern_read_S n a0 a1 = some r → Pure Tryz.prog 54 [(.row 3 zae a0), (.exact (.int .i64 a1))] (.tup [ndA r.1, .row 3 zae r.2.1, .exact (.bool r.2.2)]))
  | 0 => (fun _ _ _ h => by have h' : (none : Option _) = some _ := h; cases h')
  | n + 1 => by
    have ih := m_pattern_read_S_ok n
    exact fun a0 a1 r h => m_pattern_read_F_ok (m_pattern_read_S n) ih a0 a1 r h
theorem m_pattern_read_ok (a0 : List (Int × Int × Int)) (a1 : Int) (r : Nd × (List (Int × Int × Int)) × Bool) (h : m_pattern_read a0 a1 = some r) : Pure Tryz.prog 54 [(.row 3 zae a0), (.exact (.int .i64 a1))] (.tup [ndA r.1, .row 3 zae r.2.1, .exact (.bool r.2.2)]) := (m_pattern_read_S_ok FU) a0 a1 r h
set_option maxHeartbeats 4000000 in
theorem m_pattern_whole_ok (a0 : List (Int × Int × Int)) (r : Nd × Bool) (h : m_pattern_whole a0 = some r) : Pure Tryz.prog 34 [(.row 3 zae a0)] (.tup [ndA r.1, .exact (.bool r.2)]) := by
 unfold m_pattern_whole at h
 refine Pure.ofFun (fun_of_awp Tryz.func34 rfl Tryz.ntmps34 (by simp) rfl (res2 rfl) fun E hE => k_end ?_)
 refine zad (kr ?_)
 refine qa (.exact (.pointer none)) rfl ?_
 refine qa (.xb false) rfl ?_
 refine G_nil (zaa (zad (kr ?_)))
 refine qm (.row 3 zae a0) rfl ?_
 obtain ⟨y1, hy1, h⟩ := bnd1_some h
 refine G_q rfl (zai (m_pattern_read_ok _ _ _ hy1) Tryz.func54 (by kernel_rfl) (LEs.cons (AV.le_eq rfl) (LEs.cons (AV.le_eq rfl) LEs.nil)) ?_)
 refine qm (.tup [ndA y1.1, .row 3 zae y1.2.1, .xb y1.2.2]) rfl ?_
 refine G_q rfl (op_extract (av := ndA y1.1) rfl rfl ?_)
 refine G_q rfl (op_extract (av := .row 3 zae y1.2.1) rfl rfl ?_)
 refine G_q rfl (op_extract (av := .xb y1.2.2) rfl rfl ?_)
 refine qa (ndA y1.1) rfl ?_
 refine qa (.row 3 zae y1.2.1) rfl ?_
 refine qa (.xb y1.2.2) rfl ?_
 refine G_nil (zaa ?_)
 refine k_join1_0 h (fun (x3_j2 : Bool) => (pt (pt AF0 2 (ndA y1.1)) 3 (.xb x3_j2))) (fun (x3_j2 : Bool) => []) (fun k2 h => ?_) (fun x3_j2 h => ?_)
 ·refine kr ?_
  refine qm (ndA y1.1) rfl ?_
  refine qm (.xb y1.2.2) rfl ?_
  refine qm (.xb y1.2.2) rfl ?_
  refine G_splitB (c := y1.2.2) 15 rfl (fun hc => ?_) (fun hc => ?_)
  ·replace h := ite_t h hc
   refine Gy_q rfl rfl rfl (zaf (av := .row 3 zae y1.2.1) rfl ?_)
   refine Gy_q rfl rfl rfl (op_len_row (by kernel_rfl) rfl ?_)
   refine Gy_q rfl rfl rfl (op_eql rfl rfl ?_)
   refine G_q rfl (zak rfl (av := .xb (decide ((List.length y1.2.1 : Int) = 0))) rfl ?_)
   refine qm (.xb (decide ((List.length y1.2.1 : Int) = 0))) rfl ?_
   refine G_split (p := (List.length y1.2.1 : Int) = 0) 20 rfl (fun hc => ?_) (fun hc => ?_)
   ·replace h := ite_t h hc
    refine Gy_q rfl rfl rfl (zaf (av := .row 3 zae a0) rfl ?_)
    refine Gy_q rfl rfl rfl (op_len_row (by kernel_rfl) rfl ?_)
    refine Gy_q rfl rfl rfl (op_leq rfl rfl ?_)
    refine G_q rfl (zak rfl (av := .xb (decide ((List.length a0 : Int) ≤ 8192))) rfl ?_)
    refine qa (ndA y1.1) rfl ?_
    refine qa (.xb (decide ((List.length a0 : Int) ≤ 8192))) rfl ?_
    refine G_nil ?_
    refine zac ⟨_, h, ?_⟩
    exact so (lq rfl (lq rfl lt0))
   ·replace h := ite_f h hc
    refine G_n rfl rfl (G_n rfl rfl (G_n rfl rfl ?_))
    refine G_q rfl (zah rfl (av := .xb false) rfl ?_)
    refine qa (ndA y1.1) rfl ?_
    refine qa (.xb false) rfl ?_
    refine G_nil ?_
    refine zac ⟨_, h, ?_⟩
    exact so (lq rfl (lq rfl lt0))
  ·replace h := ite_f h hc
   refine G_n rfl rfl (G_n rfl rfl (G_n rfl rfl ?_))
   refine G_q rfl (zah rfl (av := .xb false) rfl ?_)
   refine qm (.xb false) rfl ?_
   refine G_n rfl rfl (G_n rfl rfl (G_n rfl rfl ?_))
   refine G_q rfl (zah rfl (av := .xb false) rfl ?_)
   refine qa (ndA y1.1) rfl ?_
   refine qa (.xb false) rfl ?_
   refine G_nil ?_
   refine zac ⟨_, h, ?_⟩
   exact so (lq rfl (lq rfl lt0))
 ·refine k_ret ?_
  obtain rfl := Option.some.inj h
  refine ke (pt (pt AF0 2 (ndA y1.1)) 3 (.xb x3_j2)) [] rfl ?_ ⟨rfl, rfl⟩
  exact so (lq rfl (lq rfl lt0))
set_option maxHeartbeats 4000000 in
theorem m_pattern_node_all_1_ok (self_pattern_node_all : Nd → (Nd → Option Bool) → Option Bool) (hself_pattern_node_all : ∀ (a0 : Nd) (a1 : Nd → Option Bool) (r : Bool), self_pattern_node_all a0 a1 = some r → Pure Tryz.prog 35 [(ndA a0), (.fn Tryz.prog (fun (i : Nd) => [ndA i]) (fun (i : Nd) => a1 i) (fun (r : Bool) => .exact (.bool r)))] (.exact (.bool r))) (a0 : Nd) (a1 : Nd → Option Bool) (r : Bool) (h : m_pattern_node_all_1 self_pattern_node_all a0 a1 = some r) : Pure Tryz.prog 56 [(ndA a0), (.ptr ([.fn Tryz.prog (fun (i : Nd) => [ndA i]) (fun (i : Nd) => a1 i) (fun (r : Bool) => .exact (.bool r))]))] (.exact (.bool r)) := by
 unfold m_pattern_node_all_1 at h
 refine Pure.ofFun (fun_of_awp Tryz.func56 rfl Tryz.ntmps56 (by simp) rfl (res1 rfl) fun E hE => k_end ?_)
 refine zad (kr ?_)
 refine qa (.xb false) rfl ?_
 refine G_nil (zaa (zad (kr ?_)))
 refine qm (ndA a0) rfl ?_
 refine G_q rfl (zal (a := .fn Tryz.prog (fun (i : Nd) => [ndA i]) (fun (i : Nd) => a1 i) (fun (r : Bool) => .xb r)) (by kernel_rfl) rfl rfl ?_)
 obtain ⟨y1, hy1, h⟩ := bnd1_some h
 refine G_q rfl (zai (hself_pattern_node_all _ _ _ hy1) Tryz.func35 (by kernel_rfl) (LEs.cons (AV.le_eq rfl) (LEs.cons (AV.le_eq rfl) LEs.nil)) ?_)
 refine G_q rfl (op_not rfl ?_)
 refine qa (.xb (!y1)) rfl ?_
 refine G_nil (zaa (k_ret ?_))
 obtain rfl := Option.some.inj h
 refine ke (pt AF0 3 (.xb (!y1))) [] rfl ?_ ⟨rfl, rfl⟩
 exact so (lq rfl lt0)
set_option maxHeartbeats 4000000 in
theorem m_slices_IndexFunc_L_pattern_node_pattern_node_ok (a0 : List Nd) (a1 : Nd → Option Bool) (r : Int) (h : m_slices_IndexFunc_L_pattern_node_pattern_node a0 a1 = some r) : Pure Tryz.prog 82 [(.row 1 c_P_pattern_node a0), (.fn Tryz.prog (fun (i : Nd) => [ndA i]) (fun (i : Nd) => a1 i) (fun (r : Bool) => .exact (.bool r)))] (.exact (.int .i64 r)) := by
 unfold m_slices_IndexFunc_L_pattern_node_pattern_node at h
 refine Pure.ofFun (fun_of_awp Tryz.func82 rfl Tryz.ntmps82 (by simp) rfl (res1 rfl) fun E hE => k_end ?_)
 refine zad (kr ?_)
 refine qa (.xi 0) rfl ?_
 refine G_nil (zaa ?_)
 refine k_join0_0 h (AF0) ([]) (fun k1 h => ?_) (fun  h => ?_)
 ·refine zad (kr ?_)
  refine qm (.row 1 c_P_pattern_node a0) rfl ?_
  refine G_q rfl (op_len_row (by kernel_rfl) rfl ?_)
  refine qm (.xi 0) rfl ?_
  refine G_nil (zaa (k_block ?_))
  refine k_loop1_0 (m_slices_IndexFunc_L_pattern_node_pattern_node_L2 a0 a1 k1) (m_slices_IndexFunc_L_pattern_node_pattern_node_B2 a0 a1 k1) (fun _ => rfl) (fun m _ => rfl) h (fun (x8_l2 : Int) => (pt (pt (pt (pt AF0 0 (.row 1 c_P_pattern_node a0)) 1 (.fn Tryz.prog (fun (i : Nd) => [ndA i]) (fun (i : Nd) => a1 i) (fun (r : Bool) => .xb r))) 7 (.xi (List.length a0 : Int))) 8 (.xi x8_l2))) (fun (x8_l2 : Int) => []) ?_ (fun rec2 x8_l2 h => ?_)
  ·exact so (l4 rfl rfl rfl rfl lt0)
  ·unfold m_slices_IndexFunc_L_pattern_node_pattern_node_B2 at h
   refine zad (kr ?_)
   refine G_q rfl (op_lss rfl rfl ?_)
   refine G_nil (zaa (zad ?_))
   refine kd (p := x8_l2 < (List.length a0 : Int)) rfl h (fun hc h => ?_) (fun hc h => ?_)
   ·refine k_skip (zaa (zad (k_block (zad (kr ?_)))))
    refine qm (.xi x8_l2) rfl ?_
    refine qa (.xi x8_l2) rfl ?_
    refine G_nil (zaa (zad (kr ?_)))
    refine qm (.fn Tryz.prog (fun (i : Nd) => [ndA i]) (fun (i : Nd) => a1 i) (fun (r : Bool) => .xb r)) rfl ?_
    refine qm (.row 1 c_P_pattern_node a0) rfl ?_
    refine qm (.xi x8_l2) rfl ?_
    obtain ⟨n13, h⟩ := need_some h
    refine G_q rfl (zam (by kernel_rfl) rfl rfl n13.1 n13.2 ?_)
    refine G_q rfl (zal (a := ndA (gi a0 x8_l2)) (by kernel_rfl) rfl rfl ?_)
    obtain ⟨y14, hy14, h⟩ := bnd1_some h
    refine G_q rfl (op_callfn (gi a0 x8_l2) rfl hy14 (LEs.cons (AV.le_eq rfl) LEs.nil) ?_)
    refine G_nil (zaa ?_)
    refine kb (p := y14) rfl h (fun hc h => ?_) (fun hc h => ?_)
    ·refine zad (kr ?_)
     refine qm (.xi x8_l2) rfl ?_
     refine qa (.xi x8_l2) rfl ?_
     refine G_nil (zaa (k_ret (kB_ret (kC_ret (kI_ret (kB_ret (kI_ret ?_)))))))
     obtain rfl := Option.some.inj h
     refine ke (pt AF0 4 (.xi x8_l2)) [] rfl ?_ ⟨rfl, rfl⟩
     exact so (lq rfl lt0)
    ·refine k_skip (kB_normal (zaa (kr ?_)))
     refine G_q rfl (op_add rfl rfl rfl ?_)
     refine qm (.xi (i64 (x8_l2 + 1))) rfl ?_
     refine G_nil ?_
     refine zac ⟨_, h, ?_⟩
     exact so (l4 rfl rfl rfl rfl lt0)
   ·refine k_exit (kC_exit (kI_exit (kB_exit ?_)))
    refine zac ⟨h, ?_⟩
    exact Sub.of_le lt0
 ·refine zad (kr ?_)
  refine qa (.xi (-1)) rfl ?_
  refine G_nil (zaa (k_ret ?_))
  obtain rfl := Option.some.inj h
  refine ke (pt AF0 4 (.xi (-1))) [] rfl ?_ ⟨rfl, rfl⟩
  exact so (lq rfl lt0)
set_option maxHeartbeats 4000000 in
theorem m_slices_ContainsFunc_L_pattern_node_pattern_node_ok (a0 : List Nd) (a1 : Nd → Option Bool) (r : Bool) (h : m_slices_ContainsFunc_L_pattern_node_pattern_node a0 a1 = some r) : Pure Tryz.prog 55 [(.row 1 c_P_pattern_node a0), (.fn Tryz.prog (fun (i : Nd) => [ndA i]) (fun (i : Nd) => a1 i) (fun (r : Bool) => .exact (.bool r)))] (.exact (.bool r)) := by
 unfold m_slices_ContainsFunc_L_pattern_node_pattern_node at h
 refine Pure.ofFun (fun_of_awp Tryz.func55 rfl Tryz.ntmps55 (by simp) rfl (res1 rfl) fun E hE => k_end ?_)
 refine zad (kr ?_)
 refine qa (.xb false) rfl ?_
 refine G_nil (zaa (zad (kr ?_)))
 refine qm (.row 1 c_P_pattern_node a0) rfl ?_
 refine qm (.fn Tryz.prog (fun (i : Nd) => [ndA i]) (fun (i : Nd) => a1 i) (fun (r : Bool) => .xb r)) rfl ?_
 obtain ⟨y1, hy1, h⟩ := bnd1_some h
 refine G_q rfl (zai (m_slices_IndexFunc_L_pattern_node_pattern_node_ok _ _ _ hy1) Tryz.func82 (by kernel_rfl) (LEs.cons (AV.le_eq rfl) (LEs.cons (AV.le_eq rfl) LEs.nil)) ?_)
 refine G_q rfl (op_geq rfl rfl ?_)
 refine qa (.xb (decide (0 ≤ y1))) rfl ?_
 refine G_nil (zaa (k_ret ?_))
 obtain rfl := Option.some.inj h
 refine ke (pt AF0 4 (.xb (decide (0 ≤ y1)))) [] rfl ?_ ⟨rfl, rfl⟩
 exact so (lq rfl lt0)
set_option maxHeartbeats 4000000 in
theorem m_pattern_node_all_F_ok (self_pattern_node_all : Nd → (Nd → Option Bool) → Option Bool) (hself_pattern_node_all : ∀ (a0 : Nd) (a1 : Nd → Option Bool) (r : Bool), self_pattern_node_all a0 a1 = some r → Pure Tryz.prog 35 [(ndA a0), (.fn Tryz.prog (fun (i : Nd) => [ndA i]) (fun (i : Nd) => a1 i) (fun (r : Bool) => .exact (.bool r)))] (.exact (.bool r))) (a0 : Nd) (a1 : Nd → Option Bool) (r : Bool) (h : m_pattern_node_all_F self_pattern_node_all a0 a1 = some r) : Pure Tryz.prog 35 [(ndA a0), (.fn Tryz.prog (fun (i : Nd) => [ndA i]) (fun (i : Nd) => a1 i) (fun (r : Bool) => .exact (.bool r)))] (.exact (.bool r)) := by
 unfold m_pattern_node_all_F at h
 refine Pure.ofFun (fun_of_awp Tryz.func35 rfl Tryz.ntmps35 (by simp) rfl (res1 rfl) fun E hE => k_end ?_)
 refine zad (kr ?_)
 refine G_l rfl (op_boxI (c := [.fn Tryz.prog (fun (i : Nd) => [ndA i]) (fun (i : Nd) => a1 i) (fun (r : Bool) => .xb r)]) rfl CellsOf.fn (LEs.cons (AV.le_eq rfl) LEs.nil) (fun b1 => ?_))
 refine qa (.xb false) rfl ?_
 refine G_nil (zaa ?_)
 refine k_join1_0 h (fun (x4_j2 : Bool) => (pt AF0 4 (.xb x4_j2))) (fun (x4_j2 : Bool) => []) (fun k2 h => ?_) (fun x4_j2 h => ?_)
 ·refine kr ?_
  refine G_r rfl (op_load_box1 (a := .fn Tryz.prog (fun (i : Nd) => [ndA i]) (fun (i : Nd) => a1 i) (fun (r : Bool) => .xb r)) (by kernel_rfl) rfl rfl ?_)
  refine qm (ndA a0) rfl ?_
  obtain ⟨y6, hy6, h⟩ := bnd1_some h
  refine G_q rfl (op_callfn (a0) rfl hy6 (LEs.cons (AV.le_eq rfl) LEs.nil) ?_)
  refine qm (.xb y6) rfl ?_
  refine G_splitB (c := y6) 8 rfl (fun hc => ?_) (fun hc => ?_)
  ·replace h := ite_t h hc
   refine Gy_q rfl rfl rfl (zaf (av := ndA a0) rfl ?_)
   obtain ⟨y7, hy7, h⟩ := bnd1_some h
   refine Gy_q rfl rfl rfl (zan (c := zag y7) (ndA_un hy7) ?_)
   refine Gy_q rfl rfl rfl (zaj (o := 2) (c' := (List.drop 2 (zag y7))) (by kernel_rfl) rfl rfl ?_)
   refine Gy_q rfl rfl rfl (zal (a := .row 1 c_P_pattern_node y7.2.2) (by kernel_rfl) rfl rfl ?_)
   refine G_sub rfl (SubU.freezeBox (s := 3) rfl) ?_
   refine Gy_q rfl rfl rfl (op_makeFunc (args := (fun (i : Nd) => [ndA i])) (f := (fun (i : Nd) => (fun (x0 : Nd) => m_pattern_node_all_1 self_pattern_node_all x0 a1) i)) (res := (fun (r : Bool) => .xb r)) Tryz.func56 (by kernel_rfl) [.ptr ([.fn Tryz.prog (fun (i : Nd) => [ndA i]) (fun (i : Nd) => a1 i) (fun (r : Bool) => .xb r)])] (LEs.cons (AV.le_eq rfl) LEs.nil) (fun i r h => m_pattern_node_all_1_ok self_pattern_node_all hself_pattern_node_all i a1 r h) ?_)
   obtain ⟨y8, hy8, h⟩ := bnd1_some h
   refine Gy_q rfl rfl rfl (zai (m_slices_ContainsFunc_L_pattern_node_pattern_node_ok _ _ _ hy8) Tryz.func55 (by kernel_rfl) (LEs.cons (AV.le_eq rfl) (LEs.cons (AV.le_eq rfl) LEs.nil)) ?_)
   refine Gy_q rfl rfl rfl (op_not rfl ?_)
   refine G_q rfl (zak rfl (av := .xb (!y8)) rfl ?_)
   refine qa (.xb (!y8)) rfl ?_
   refine G_nil ?_
   refine zac ⟨_, h, ?_⟩
   exact so (lq rfl lt0)
  ·replace h := ite_f h hc
   refine G_n rfl rfl (G_n rfl rfl (G_n rfl rfl (G_n rfl rfl (G_n rfl rfl (G_n rfl rfl (G_n rfl rfl ?_))))))
   refine G_q rfl (zah rfl (av := .xb false) rfl ?_)
   refine qa (.xb false) rfl ?_
   refine G_nil ?_
   refine zac ⟨_, h, ?_⟩
   refine Sub.trans (SubU.to SubU.drop) ?_
   exact so (lq rfl lt0)
 ·refine k_ret ?_
  obtain rfl := Option.some.inj h
  refine ke (pt AF0 4 (.xb x4_j2)) [] rfl ?_ ⟨rfl, rfl⟩
  exact so (lq rfl lt0)
set_option maxHeartbeats 4000000 in
theorem m_pattern_node_all_S_ok : ∀ n : Nat, (∀ (a0 : Nd) (a1 : Nd → Option Bool) (r : Bool), m_pattern_node_all_S n a0 a1 = some r → Pure Tryz.prog 35 [(ndA a0), (.fn Tryz.prog (fun (i : Nd) => [ndA i]) (fun (i : Nd) => a1 i) (fun (r : Bool) => .exact (.bool r)))] (.exact (.bool r)))
  | 0 => (fun _ _ _ h => by have h' : (none : Option _) = some _ := h; cases h')
  | n + 1 => by
    have ih := m_pattern_node_all_S_ok n
    exact fun a0 a1 r h => m_pattern_node_all_F_ok (m_pattern_node_all_S n) ih a0 a1 r h
theorem m_pattern_node_all_ok (a0 : Nd) (a1 : Nd → Option Bool) (r : Bool) (h : m_pattern_node_all a0 a1 = some r) : Pure Tryz.prog 35 [(ndA a0), (.fn Tryz.prog (fun (i : Nd) => [ndA i]) (fun (i : Nd) => a1 i) (fun (r : Bool) => .exact (.bool r)))] (.exact (.bool r)) := (m_pattern_node_all_S_ok FU) a0 a1 r h
set_option maxHeartbeats 4000000 in
theorem m_pattern_Build_1_ok (a0 : Nd) (r : Bool) (h : m_pattern_Build_1 a0 = some r) : Pure Tryz.prog 36 [(ndA a0)] (.exact (.bool r)) := by
 unfold m_pattern_Build_1 at h
 refine Pure.ofFun (fun_of_awp Tryz.func36 rfl Tryz.ntmps36 (by simp) rfl (res1 rfl) fun E hE => k_end ?_)
 refine zad (kr ?_)
 refine qa (.xb false) rfl ?_
 refine G_nil (zaa ?_)
 refine k_join1_0 h (fun (x2_j1 : Bool) => (pt AF0 2 (.xb x2_j1))) (fun (x2_j1 : Bool) => []) (fun k1 h => ?_) (fun x2_j1 h => ?_)
 ·refine kr ?_
  refine qm (ndA a0) rfl ?_
  obtain ⟨y5, hy5, h⟩ := bnd1_some h
  refine G_q rfl (zan (c := zag y5) (ndA_un hy5) ?_)
  refine G_q rfl (zaj (o := 0) (c' := (List.drop 0 (zag y5))) (by kernel_rfl) rfl rfl ?_)
  refine G_q rfl (zal (a := .xi y5.1) (by kernel_rfl) rfl rfl ?_)
  refine G_q rfl (op_neq rfl rfl ?_)
  refine qm (.xb (decide (¬ y5.1 = 31))) rfl ?_
  refine G_split (p := ¬ y5.1 = 31) 8 rfl (fun hc => ?_) (fun hc => ?_)
  ·replace h := ite_t h hc
   refine Gy_q rfl rfl rfl (zaf (av := ndA a0) rfl ?_)
   obtain ⟨y6, hy6, h⟩ := bnd1_some h
   refine Gy_q rfl rfl rfl (zan (c := zag y6) (ndA_un hy6) ?_)
   refine Gy_q rfl rfl rfl (zaj (o := 0) (c' := (List.drop 0 (zag y6))) (by kernel_rfl) rfl rfl ?_)
   refine Gy_q rfl rfl rfl (zal (a := .xi y6.1) (by kernel_rfl) rfl rfl ?_)
   refine Gy_q rfl rfl rfl (op_neq rfl rfl ?_)
   refine G_q rfl (zak rfl (av := .xb (decide (¬ y6.1 = 40))) rfl ?_)
   refine qm (.xb (decide (¬ y6.1 = 40))) rfl ?_
   refine G_split (p := ¬ y6.1 = 40) 15 rfl (fun hc => ?_) (fun hc => ?_)
   ·replace h := ite_t h hc
    refine Gy_q rfl rfl rfl (zaf (av := ndA a0) rfl ?_)
    obtain ⟨y7, hy7, h⟩ := bnd1_some h
    refine Gy_q rfl rfl rfl (zan (c := zag y7) (ndA_un hy7) ?_)
    refine Gy_q rfl rfl rfl (zaj (o := 0) (c' := (List.drop 0 (zag y7))) (by kernel_rfl) rfl rfl ?_)
    refine Gy_q rfl rfl rfl (zal (a := .xi y7.1) (by kernel_rfl) rfl rfl ?_)
    refine Gy_q rfl rfl rfl (op_neq rfl rfl ?_)
    refine G_q rfl (zak rfl (av := .xb (decide (¬ y7.1 = 39))) rfl ?_)
    refine qa (.xb (decide (¬ y7.1 = 39))) rfl ?_
    refine G_nil ?_
    refine zac ⟨_, h, ?_⟩
    exact so (lq rfl lt0)
   ·replace h := ite_f h hc
    refine G_n rfl rfl (G_n rfl rfl (G_n rfl rfl (G_n rfl rfl (G_n rfl rfl ?_))))
    refine G_q rfl (zah rfl (av := .xb false) rfl ?_)
    refine qa (.xb false) rfl ?_
    refine G_nil ?_
    refine zac ⟨_, h, ?_⟩
    exact so (lq rfl lt0)
  ·replace h := ite_f h hc
   refine G_n rfl rfl (G_n rfl rfl (G_n rfl rfl (G_n rfl rfl (G_n rfl rfl ?_))))
   refine G_q rfl (zah rfl (av := .xb false) rfl ?_)
   refine qm (.xb false) rfl ?_
   refine G_n rfl rfl (G_n rfl rfl (G_n rfl rfl (G_n rfl rfl (G_n rfl rfl ?_))))
   refine G_q rfl (zah rfl (av := .xb false) rfl ?_)
   refine qa (.xb false) rfl ?_
   refine G_nil ?_
   refine zac ⟨_, h, ?_⟩
   exact so (lq rfl lt0)
 ·refine k_ret ?_
  obtain rfl := Option.some.inj h
  refine ke (pt AF0 2 (.xb x2_j1)) [] rfl ?_ ⟨rfl, rfl⟩
  exact so (lq rfl lt0)
set_option maxHeartbeats 4000000 in
theorem m_pattern_Vars_ok (a0 : List (Int × Int × Int)) (r : Int) (h : m_pattern_Vars a0 = some r) : Pure Tryz.prog 16 [(.row 3 zae a0)] (.exact (.int .i64 r)) := by
 unfold m_pattern_Vars at h
 refine Pure.ofFun (fun_of_awp Tryz.func16 rfl Tryz.ntmps16 (by simp) rfl (res1 rfl) fun E hE => k_end ?_)
 refine zad (kr ?_)
 refine qa (.xi 0) rfl ?_
 refine G_nil (zaa (zad (kr ?_)))
 refine qa (.xi 0) rfl ?_
 refine G_nil (zaa ?_)
 refine k_join1_0 h (fun (x3_j1 : Int) => (pt AF0 3 (.xi x3_j1))) (fun (x3_j1 : Int) => []) (fun k1 h => ?_) (fun x3_j1 h => ?_)
 ·refine zad (kr ?_)
  refine qm (.row 3 zae a0) rfl ?_
  refine G_q rfl (op_len_row (by kernel_rfl) rfl ?_)
  refine qm (.xi 0) rfl ?_
  refine G_nil (zaa (k_block ?_))
  refine k_loop2_0 (m_pattern_Vars_L2 a0 k1) (m_pattern_Vars_B2 a0 k1) (fun _ _ => rfl) (fun m _ _ => rfl) h (fun (x3_l2 : Int) (x8_l2 : Int) => (pt (pt (pt (pt AF0 3 (.xi x3_l2)) 6 (.row 3 zae a0)) 7 (.xi (List.length a0 : Int))) 8 (.xi x8_l2))) (fun (x3_l2 : Int) (x8_l2 : Int) => []) ?_ (fun rec2 x3_l2 x8_l2 h => ?_)
  ·exact so (l4 rfl rfl rfl rfl lt0)
  ·unfold m_pattern_Vars_B2 at h
   refine zad (kr ?_)
   refine G_q rfl (op_lss rfl rfl ?_)
   refine G_nil (zaa (zad ?_))
   refine kd (p := x8_l2 < (List.length a0 : Int)) rfl h (fun hc h => ?_) (fun hc h => ?_)
   ·refine k_skip (zaa ?_)
    refine k_join1_0 h (fun (x3_j28 : Int) => (pt (pt (pt (pt AF0 3 (.xi x3_j28)) 6 (.row 3 zae a0)) 7 (.xi (List.length a0 : Int))) 8 (.xi x8_l2))) (fun (x3_j28 : Int) => []) (fun k28 h => ?_) (fun x3_j28 h => ?_)
    ·refine k_block (zad (kr ?_))
     obtain ⟨n31, h⟩ := need_some h
     refine G_q rfl (zam (by kernel_rfl) rfl rfl n31.1 n31.2 ?_)
     refine G_q rfl (op_loadNp (m := 3) (c' := zae (gi a0 x8_l2)) (by kernel_rfl) rfl rfl rfl ?_)
     refine G_l rfl (op_alloc (c := [.xi ((0, 0, 0).1), .xi ((0, 0, 0).2.1), .xi ((0, 0, 0).2.2)]) rfl (LEs.cons (AV.le_eq rfl) (LEs.cons (AV.le_eq rfl) (LEs.cons (AV.le_eq rfl) LEs.nil))) (fun b32 => ?_))
     refine G_l rfl (op_store_box (c' := [.xi ((gi a0 x8_l2).1), .xi ((gi a0 x8_l2).2.1), .xi ((gi a0 x8_l2).2.2)]) (c3 := [.xi ((gi a0 x8_l2).1), .xi ((gi a0 x8_l2).2.1), .xi ((gi a0 x8_l2).2.2)]) rfl rfl CellsOf.agg (LEs.cons (AV.le_eq rfl) (LEs.cons (AV.le_eq rfl) (LEs.cons (AV.le_eq rfl) LEs.nil))) (oc_c_api_Code _) (by kernel_rfl) (Nat.le_of_ble_eq_true rfl) rfl ?_)
     refine G_nil (zaa (zad (kr ?_)))
     refine G_q rfl (op_fieldAddr (o := 0) (by kernel_rfl) rfl ?_)
     refine G_r rfl (op_load_box1 (a := .xi ((gi a0 x8_l2).1)) (by kernel_rfl) rfl rfl ?_)
     refine G_q rfl (op_eql rfl rfl ?_)
     refine G_nil (zaa ?_)
     refine kd (p := ((gi a0 x8_l2).1) = 30) rfl h (fun hc h => ?_) (fun hc h => ?_)
     ·refine kr ?_
      refine qm (.xi x3_l2) rfl ?_
      refine G_q rfl (op_add rfl rfl rfl ?_)
      refine qa (.xi (i64 (x3_l2 + 1))) rfl ?_
      refine G_nil (kB_normal ?_)
      refine zac ⟨_, h, ?_⟩
      refine Sub.trans (SubU.to SubU.drop) ?_
      exact so (l4 rfl rfl rfl rfl lt0)
     ·refine k_skip (kB_normal ?_)
      refine zac ⟨_, h, ?_⟩
      refine Sub.trans (SubU.to SubU.drop) ?_
      exact so (l4 rfl rfl rfl rfl lt0)
    ·refine kr ?_
     refine G_q rfl (op_add rfl rfl rfl ?_)
     refine qm (.xi (i64 (x8_l2 + 1))) rfl ?_
     refine G_nil ?_
     refine zac ⟨_, _, h, ?_⟩
     exact so (l4 rfl rfl rfl rfl lt0)
   ·refine k_exit (kC_exit (kI_exit (kB_exit ?_)))
    refine zac ⟨_, h, ?_⟩
    exact so (lq rfl lt0)
 ·refine zad (kr ?_)
  refine qm (.xi x3_j1) rfl ?_
  refine qa (.xi x3_j1) rfl ?_
  refine G_nil (zaa (k_ret ?_))
  obtain rfl := Option.some.inj h
  refine ke (pt AF0 2 (.xi x3_j1)) [] rfl ?_ ⟨rfl, rfl⟩
  exact so (lq rfl lt0)
set_option maxHeartbeats 4000000 in
theorem m_value_append64_ok {w0 : Value} (a0 : List UInt8) (a1 : Int) (r : (List UInt8)) (h : m_value_append64 a0 a1 = some r) : Fun Tryz.prog 83 [(.exact w0), (.exact (.int .u64 a1))] [vecT Tryz.prog 81 1 c_uint8 w0 a0] (fun a s => ∃ z0, a = .exact z0 ∧ s = [vecT Tryz.prog 81 1 c_uint8 z0 r]) := by
 unfold m_value_append64 at h
 refine fun_of_awp Tryz.func83 rfl Tryz.ntmps83 (by simp) rfl (res1 rfl) fun E hE => k_end ?_
 refine zad (kr ?_)
 refine qa (.exact (.slice none 0 0)) rfl ?_
 refine G_nil (zaa ?_)
 refine k_join1_1 h (fun (x0_j1 : List UInt8) (v0_j1 : Value) => (pt AF0 0 (.exact v0_j1))) (fun (x0_j1 : List UInt8) (v0_j1 : Value) => [vecT Tryz.prog 81 1 c_uint8 v0_j1 x0_j1]) (fun k1 h => ?_) (fun x0_j1 v0_j1 h => ?_)
 ·refine zad (kr ?_)
  refine qa (.xi 56) rfl ?_
  refine G_nil (zaa (k_block ?_))
  refine k_loop2_1 (m_value_append64_L2 a1 k1) (m_value_append64_B2 a1 k1) (fun _ _ => rfl) (fun m _ _ => rfl) h (fun (x0_l2 : List UInt8) (x5_l2 : Int) (v0_l2 : Value) => (pt (pt (pt AF0 0 (.exact v0_l2)) 1 (.exact (.int .u64 a1))) 5 (.xi x5_l2))) (fun (x0_l2 : List UInt8) (x5_l2 : Int) (v0_l2 : Value) => [vecT Tryz.prog 81 1 c_uint8 v0_l2 x0_l2]) w0 ?_ (fun rec2 x0_l2 x5_l2 v0_l2 h => ?_)
  ·exact so (lq rfl (lq rfl (lq rfl lt0)))
  ·unfold m_value_append64_B2 at h
   refine zad (zad (kr ?_))
   refine qm (.xi x5_l2) rfl ?_
   refine G_q rfl (op_geq rfl rfl ?_)
   refine G_nil (zaa ?_)
   refine kd (p := 0 ≤ x5_l2) rfl h (fun hc h => ?_) (fun hc h => ?_)
   ·refine k_skip (zaa (zad (k_block (kr ?_))))
    refine qm (.exact v0_l2) rfl ?_
    refine qm (.exact (.int .u64 a1)) rfl ?_
    refine qm (.xi x5_l2) rfl ?_
    obtain ⟨n16, h⟩ := need_some h
    refine G_q rfl (op_shr rfl rfl n16 rfl ?_)
    refine G_q rfl (op_convInt (k := .u8) (r := (UInt8.toNat (u8i (Int.fdiv a1 (2 ^ min (Int.toNat x5_l2) IntKind.u64.bits))) : Int)) (by kernel_rfl) rfl (u8i_eq _) ?_)
    refine G_q rfl (op_litT (n := 1) (enc := c_uint8) [u8i (Int.fdiv a1 (2 ^ min (Int.toNat x5_l2) IntKind.u64.bits))] (CellsAll.cons rfl CellsOf.int CellsAll.nil) rfl (by kernel_rfl) (LEss.cons (LEs.cons (AV.le_eq rfl) LEs.nil) LEss.nil) ?_)
    obtain ⟨n17, h⟩ := need_some h
    refine G_l rfl (op_appT (by kernel_rfl) rfl rfl oc_c_uint8 n17 (fun v18 => ?_))
    refine qa (.exact v18) rfl ?_
    refine G_nil (kB_normal (zaa (kr ?_)))
    refine qm (.xi x5_l2) rfl ?_
    refine G_q rfl (op_sub rfl rfl rfl ?_)
    refine qa (.xi (i64 (x5_l2 - 8))) rfl ?_
    refine G_nil ?_
    refine zac ⟨_, _, v18, h, ?_⟩
    exact so (lq rfl (lq rfl (lq rfl lt0)))
   ·refine k_exit (kC_exit (kI_exit (kB_exit ?_)))
    refine zac ⟨_, v0_l2, h, ?_⟩
    exact so (lq rfl lt0)
 ·refine zad (kr ?_)
  refine qm (.exact v0_j1) rfl ?_
  refine qa (.exact v0_j1) rfl ?_
  refine G_nil (zaa (k_ret ?_))
  obtain rfl := Option.some.inj h
  refine ke (pt AF0 4 (.exact v0_j1)) [vecT Tryz.prog 81 1 c_uint8 v0_j1 x0_j1] rfl ?_ ⟨v0_j1, rfl, rfl⟩
  exact so (lq rfl lt0)
end Go.Proofs.YtpfdeahcjlfijaaGreat
/- The functions compute their models, by program. -/
namespace Go.Proofs.YtpfdeahcjlfijaaGreat
open Go.RowKit
attribute [local irreducible] AV.exact AV.top AV.row AV.ptr AV.agg AV.tup AV.eptr AV.fn AV.nilq AV.nilqn opA opB opM opR Quiet Loud Reads wpG awp den Sub SubU Pure Fun vecI vecT boxI CellsAll CellsOf OneC LEs LEss
set_option maxRecDepth 100000

set_option maxHeartbeats 4000000 in
theorem m_value_Int_ok (a0 : Int) (r : (List UInt8)) (h : m_value_Int a0 = some r) : Pure Tryz.prog 57 [(.exact (.int .i64 a0))] (.exact (.string (bs r))) := by
 unfold m_value_Int at h
 refine Pure.ofFun (fun_of_awp Tryz.func57 rfl Tryz.ntmps57 (by simp) rfl (res1 rfl) fun E hE => k_end ?_)
 refine zad (kr ?_)
 refine qa (.xs ([] : List UInt8)) rfl ?_
 refine G_nil (zaa (zad (kr ?_)))
 refine G_l rfl (op_litI (n := 1) (enc := c_uint8) [1] (by kernel_rfl) (CellsAll.cons rfl CellsOf.int CellsAll.nil) rfl (by kernel_rfl) (LEss.cons (LEs.cons (AV.le_eq rfl) LEs.nil) LEss.nil) (fun v1 => ?_))
 refine qm (.xi a0) rfl ?_
 refine G_q rfl (op_convInt (k := .u64) (by kernel_rfl) rfl rfl ?_)
 obtain ⟨y2, hy2, h⟩ := bnd1_some h
 refine G_l rfl (op_fun_1_1_1 (m_value_append64_ok _ _ _ hy2) Tryz.func83 (by kernel_rfl) (LEs.cons (AV.le_eq rfl) (LEs.cons (AV.le_eq rfl) LEs.nil)) (fun v3 => ?_))
 refine G_r rfl (op_bytesS_bor rfl (by kernel_rfl) (Bor.vec (List.Mem.head _) len_c_uint8) ?_)
 refine qa (.xs y2) rfl ?_
 refine G_nil (zaa (k_ret ?_))
 obtain rfl := Option.some.inj h
 refine ke (pt AF0 2 (.xs y2)) [] rfl ?_ ⟨rfl, rfl⟩
 refine Sub.trans (SubU.to SubU.drop) ?_
 exact so (lq rfl lt0)
set_option maxHeartbeats 4000000 in
theorem m_value_Bool_ok (a0 : Bool) (r : (List UInt8)) (h : m_value_Bool a0 = some r) : Pure Tryz.prog 58 [(.exact (.bool a0))] (.exact (.string (bs r))) := by
 unfold m_value_Bool at h
 refine Pure.ofFun (fun_of_awp Tryz.func58 rfl Tryz.ntmps58 (by simp) rfl (res1 rfl) fun E hE => k_end ?_)
 refine zad (kr ?_)
 refine qa (.xs ([] : List UInt8)) rfl ?_
 refine G_nil (zaa (zad (zad (kr ?_))))
 refine qm (.xb a0) rfl ?_
 refine G_nil (zaa ?_)
 refine kb (p := a0) rfl h (fun hc h => ?_) (fun hc h => ?_)
 ·refine zad (kr ?_)
  refine G_q rfl (op_litT (n := 1) (enc := c_uint8) [2, 1] (CellsAll.cons rfl CellsOf.int (CellsAll.cons rfl CellsOf.int CellsAll.nil)) rfl (by kernel_rfl) (LEss.cons (LEs.cons (AV.le_eq rfl) LEs.nil) (LEss.cons (LEs.cons (AV.le_eq rfl) LEs.nil) LEss.nil)) ?_)
  refine G_q rfl (op_bytesS rfl (by kernel_rfl) rfl ?_)
  refine qa (.exact (.string (bs [2, 1]))) rfl ?_
  refine G_nil (zaa (k_ret (kC_ret ?_)))
  obtain rfl := Option.some.inj h
  refine ke (pt AF0 2 (.exact (.string (bs [2, 1])))) [] rfl ?_ ⟨rfl, rfl⟩
  exact so (lq rfl lt0)
 ·refine k_skip (zaa (zad (kr ?_)))
  refine G_q rfl (op_litT (n := 1) (enc := c_uint8) [2, 0] (CellsAll.cons rfl CellsOf.int (CellsAll.cons rfl CellsOf.int CellsAll.nil)) rfl (by kernel_rfl) (LEss.cons (LEs.cons (AV.le_eq rfl) LEs.nil) (LEss.cons (LEs.cons (AV.le_eq rfl) LEs.nil) LEss.nil)) ?_)
  refine G_q rfl (op_bytesS rfl (by kernel_rfl) rfl ?_)
  refine qa (.exact (.string (bs [2, 0]))) rfl ?_
  refine G_nil (zaa (k_ret ?_))
  obtain rfl := Option.some.inj h
  refine ke (pt AF0 2 (.exact (.string (bs [2, 0])))) [] rfl ?_ ⟨rfl, rfl⟩
  exact so (lq rfl lt0)
set_option maxHeartbeats 4000000 in
theorem m_value_append16_ok {w0 : Value} (a0 : List UInt8) (a1 : Int) (r : (List UInt8)) (h : m_value_append16 a0 a1 = some r) : Fun Tryz.prog 96 [(.exact w0), (.exact (.int .u16 a1))] [vecT Tryz.prog 81 1 c_uint8 w0 a0] (fun a s => ∃ z0, a = .exact z0 ∧ s = [vecT Tryz.prog 81 1 c_uint8 z0 r]) := by
 unfold m_value_append16 at h
 refine fun_of_awp Tryz.func96 rfl Tryz.ntmps96 (by simp) rfl (res1 rfl) fun E hE => k_end ?_
 refine zad (kr ?_)
 refine qa (.exact (.slice none 0 0)) rfl ?_
 refine G_nil (zaa (zad (kr ?_)))
 refine qm (.exact w0) rfl ?_
 refine qm (.exact (.int .u16 a1)) rfl ?_
 refine G_q rfl (op_shr rfl rfl (by decide) rfl ?_)
 refine G_q rfl (op_convInt (k := .u8) (r := (UInt8.toNat (u8i (Int.fdiv a1 (2 ^ min (Int.toNat 8) IntKind.u16.bits))) : Int)) (by kernel_rfl) rfl (u8i_eq _) ?_)
 refine qm (.exact (.int .u16 a1)) rfl ?_
 refine G_q rfl (op_convInt (k := .u8) (r := (UInt8.toNat (u8i a1) : Int)) (by kernel_rfl) rfl (u8i_eq _) ?_)
 refine G_q rfl (op_litT (n := 1) (enc := c_uint8) [u8i (Int.fdiv a1 (2 ^ min (Int.toNat 8) IntKind.u16.bits)), u8i a1] (CellsAll.cons rfl CellsOf.int (CellsAll.cons rfl CellsOf.int CellsAll.nil)) rfl (by kernel_rfl) (LEss.cons (LEs.cons (AV.le_eq rfl) LEs.nil) (LEss.cons (LEs.cons (AV.le_eq rfl) LEs.nil) LEss.nil)) ?_)
 obtain ⟨n1, h⟩ := need_some h
 refine G_l rfl (op_appT (by kernel_rfl) rfl rfl oc_c_uint8 n1 (fun v2 => ?_))
 refine qa (.exact v2) rfl ?_
 refine G_nil (zaa (k_ret ?_))
 obtain rfl := Option.some.inj h
 refine ke (pt AF0 4 (.exact v2)) [vecT Tryz.prog 81 1 c_uint8 v2 (a0 ++ [u8i (Int.fdiv a1 (2 ^ min (Int.toNat 8) IntKind.u16.bits)), u8i a1])] rfl ?_ ⟨v2, rfl, rfl⟩
 exact so (lq rfl lt0)
set_option maxHeartbeats 4000000 in
theorem m_slices_IndexFunc_L_api_Value_api_Value_ok (a0 : List (List UInt8)) (a1 : (List UInt8) → Option Bool) (r : Int) (h : m_slices_IndexFunc_L_api_Value_api_Value a0 a1 = some r) : Pure Tryz.prog 108 [(.row 1 zab a0), (.fn Tryz.prog (fun (i : (List UInt8)) => [.exact (.string (bs i))]) (fun (i : (List UInt8)) => a1 i) (fun (r : Bool) => .exact (.bool r)))] (.exact (.int .i64 r)) := by
 unfold m_slices_IndexFunc_L_api_Value_api_Value at h
 refine Pure.ofFun (fun_of_awp Tryz.func108 rfl Tryz.ntmps108 (by simp) rfl (res1 rfl) fun E hE => k_end ?_)
 refine zad (kr ?_)
 refine qa (.xi 0) rfl ?_
 refine G_nil (zaa ?_)
 refine k_join0_0 h (AF0) ([]) (fun k1 h => ?_) (fun  h => ?_)
 ·refine zad (kr ?_)
  refine qm (.row 1 zab a0) rfl ?_
  refine G_q rfl (op_len_row (by kernel_rfl) rfl ?_)
  refine qm (.xi 0) rfl ?_
  refine G_nil (zaa (k_block ?_))
  refine k_loop1_0 (m_slices_IndexFunc_L_api_Value_api_Value_L2 a0 a1 k1) (m_slices_IndexFunc_L_api_Value_api_Value_B2 a0 a1 k1) (fun _ => rfl) (fun m _ => rfl) h (fun (x8_l2 : Int) => (pt (pt (pt (pt AF0 0 (.row 1 zab a0)) 1 (.fn Tryz.prog (fun (i : (List UInt8)) => [.xs i]) (fun (i : (List UInt8)) => a1 i) (fun (r : Bool) => .xb r))) 7 (.xi (List.length a0 : Int))) 8 (.xi x8_l2))) (fun (x8_l2 : Int) => []) ?_ (fun rec2 x8_l2 h => ?_)
  ·exact so (l4 rfl rfl rfl rfl lt0)
  ·unfold m_slices_IndexFunc_L_api_Value_api_Value_B2 at h
   refine zad (kr ?_)
   refine G_q rfl (op_lss rfl rfl ?_)
   refine G_nil (zaa (zad ?_))
   refine kd (p := x8_l2 < (List.length a0 : Int)) rfl h (fun hc h => ?_) (fun hc h => ?_)
   ·refine k_skip (zaa (zad (k_block (zad (kr ?_)))))
    refine qm (.xi x8_l2) rfl ?_
    refine qa (.xi x8_l2) rfl ?_
    refine G_nil (zaa (zad (kr ?_)))
    refine qm (.fn Tryz.prog (fun (i : (List UInt8)) => [.xs i]) (fun (i : (List UInt8)) => a1 i) (fun (r : Bool) => .xb r)) rfl ?_
    refine qm (.row 1 zab a0) rfl ?_
    refine qm (.xi x8_l2) rfl ?_
    obtain ⟨n13, h⟩ := need_some h
    refine G_q rfl (zam (by kernel_rfl) rfl rfl n13.1 n13.2 ?_)
    refine G_q rfl (zal (a := .xs (gi a0 x8_l2)) (by kernel_rfl) rfl rfl ?_)
    obtain ⟨y14, hy14, h⟩ := bnd1_some h
    refine G_q rfl (op_callfn (gi a0 x8_l2) rfl hy14 (LEs.cons (AV.le_eq rfl) LEs.nil) ?_)
    refine G_nil (zaa ?_)
    refine kb (p := y14) rfl h (fun hc h => ?_) (fun hc h => ?_)
    ·refine zad (kr ?_)
     refine qm (.xi x8_l2) rfl ?_
     refine qa (.xi x8_l2) rfl ?_
     refine G_nil (zaa (k_ret (kB_ret (kC_ret (kI_ret (kB_ret (kI_ret ?_)))))))
     obtain rfl := Option.some.inj h
     refine ke (pt AF0 4 (.xi x8_l2)) [] rfl ?_ ⟨rfl, rfl⟩
     exact so (lq rfl lt0)
    ·refine k_skip (kB_normal (zaa (kr ?_)))
     refine G_q rfl (op_add rfl rfl rfl ?_)
     refine qm (.xi (i64 (x8_l2 + 1))) rfl ?_
     refine G_nil ?_
     refine zac ⟨_, h, ?_⟩
     exact so (l4 rfl rfl rfl rfl lt0)
   ·refine k_exit (kC_exit (kI_exit (kB_exit ?_)))
    refine zac ⟨h, ?_⟩
    exact Sub.of_le lt0
 ·refine zad (kr ?_)
  refine qa (.xi (-1)) rfl ?_
  refine G_nil (zaa (k_ret ?_))
  obtain rfl := Option.some.inj h
  refine ke (pt AF0 4 (.xi (-1))) [] rfl ?_ ⟨rfl, rfl⟩
  exact so (lq rfl lt0)
set_option maxHeartbeats 4000000 in
theorem m_slices_ContainsFunc_L_api_Value_api_Value_ok (a0 : List (List UInt8)) (a1 : (List UInt8) → Option Bool) (r : Bool) (h : m_slices_ContainsFunc_L_api_Value_api_Value a0 a1 = some r) : Pure Tryz.prog 97 [(.row 1 zab a0), (.fn Tryz.prog (fun (i : (List UInt8)) => [.exact (.string (bs i))]) (fun (i : (List UInt8)) => a1 i) (fun (r : Bool) => .exact (.bool r)))] (.exact (.bool r)) := by
 unfold m_slices_ContainsFunc_L_api_Value_api_Value at h
 refine Pure.ofFun (fun_of_awp Tryz.func97 rfl Tryz.ntmps97 (by simp) rfl (res1 rfl) fun E hE => k_end ?_)
 refine zad (kr ?_)
 refine qa (.xb false) rfl ?_
 refine G_nil (zaa (zad (kr ?_)))
 refine qm (.row 1 zab a0) rfl ?_
 refine qm (.fn Tryz.prog (fun (i : (List UInt8)) => [.xs i]) (fun (i : (List UInt8)) => a1 i) (fun (r : Bool) => .xb r)) rfl ?_
 obtain ⟨y1, hy1, h⟩ := bnd1_some h
 refine G_q rfl (zai (m_slices_IndexFunc_L_api_Value_api_Value_ok _ _ _ hy1) Tryz.func108 (by kernel_rfl) (LEs.cons (AV.le_eq rfl) (LEs.cons (AV.le_eq rfl) LEs.nil)) ?_)
 refine G_q rfl (op_geq rfl rfl ?_)
 refine qa (.xb (decide (0 ≤ y1))) rfl ?_
 refine G_nil (zaa (k_ret ?_))
 obtain rfl := Option.some.inj h
 refine ke (pt AF0 4 (.xb (decide (0 ≤ y1)))) [] rfl ?_ ⟨rfl, rfl⟩
 exact so (lq rfl lt0)
set_option maxHeartbeats 4000000 in
theorem m_cmp_isNaN_byte_ok (a0 : UInt8) (r : Bool) (h : m_cmp_isNaN_byte a0 = some r) : Pure Tryz.prog 134 [(.exact (.int .u8 (UInt8.toNat a0 : Int)))] (.exact (.bool r)) := by
 unfold m_cmp_isNaN_byte at h
 refine Pure.ofFun (fun_of_awp Tryz.func134 rfl Tryz.ntmps134 (by simp) rfl (res1 rfl) fun E hE => k_end ?_)
 refine zad (kr ?_)
 refine qa (.xb false) rfl ?_
 refine G_nil (zaa (zad (kr ?_)))
 refine qm (.exact (.int .u8 (UInt8.toNat a0 : Int))) rfl ?_
 refine qm (.exact (.int .u8 (UInt8.toNat a0 : Int))) rfl ?_
 refine G_q rfl (op_neqU (a := a0) (b := a0) rfl rfl ?_)
 refine qa (.xb (decide (¬ a0 = a0))) rfl ?_
 refine G_nil (zaa (k_ret ?_))
 obtain rfl := Option.some.inj h
 refine ke (pt AF0 2 (.xb (decide (¬ a0 = a0)))) [] rfl ?_ ⟨rfl, rfl⟩
 exact so (lq rfl lt0)
set_option maxHeartbeats 4000000 in
theorem m_cmp_Compare_byte_ok (a0 : UInt8) (a1 : UInt8) (r : Int) (h : m_cmp_Compare_byte a0 a1 = some r) : Pure Tryz.prog 125 [(.exact (.int .u8 (UInt8.toNat a0 : Int))), (.exact (.int .u8 (UInt8.toNat a1 : Int)))] (.exact (.int .i64 r)) := by
 unfold m_cmp_Compare_byte at h
 refine Pure.ofFun (fun_of_awp Tryz.func125 rfl Tryz.ntmps125 (by simp) rfl (res1 rfl) fun E hE => k_end ?_)
 refine zad (kr ?_)
 refine qa (.xi 0) rfl ?_
 refine G_nil (zaa (zad (kr ?_)))
 refine qm (.exact (.int .u8 (UInt8.toNat a0 : Int))) rfl ?_
 obtain ⟨y1, hy1, h⟩ := bnd1_some h
 refine G_q rfl (zai (m_cmp_isNaN_byte_ok _ _ hy1) Tryz.func134 (by kernel_rfl) (LEs.cons (AV.le_eq rfl) LEs.nil) ?_)
 refine qa (.xb y1) rfl ?_
 refine G_nil (zaa (zad (kr ?_)))
 refine qm (.exact (.int .u8 (UInt8.toNat a1 : Int))) rfl ?_
 obtain ⟨y2, hy2, h⟩ := bnd1_some h
 refine G_q rfl (zai (m_cmp_isNaN_byte_ok _ _ hy2) Tryz.func134 (by kernel_rfl) (LEs.cons (AV.le_eq rfl) LEs.nil) ?_)
 refine qa (.xb y2) rfl ?_
 refine G_nil (zaa (zad (zad (kr ?_))))
 refine qm (.xb y1) rfl ?_
 refine G_nil (zaa ?_)
 refine kb (p := y1) rfl h (fun hc h => ?_) (fun hc h => ?_)
 ·refine zad (zad (kr ?_))
  refine qm (.xb y2) rfl ?_
  refine G_nil (zaa ?_)
  refine kb (p := y2) rfl h (fun hc h => ?_) (fun hc h => ?_)
  ·refine zad (kr ?_)
   refine qa (.xi 0) rfl ?_
   refine G_nil (zaa (k_ret (kC_ret (kC_ret ?_))))
   obtain rfl := Option.some.inj h
   refine ke (pt AF0 4 (.xi 0)) [] rfl ?_ ⟨rfl, rfl⟩
   exact so (lq rfl lt0)
  ·refine k_skip (zaa (zad (kr ?_)))
   refine qa (.xi (-1)) rfl ?_
   refine G_nil (zaa (k_ret (kC_ret ?_)))
   obtain rfl := Option.some.inj h
   refine ke (pt AF0 4 (.xi (-1))) [] rfl ?_ ⟨rfl, rfl⟩
   exact so (lq rfl lt0)
 ·refine k_skip (zaa (zad (zad (kr ?_))))
  refine qm (.xb y2) rfl ?_
  refine G_nil (zaa ?_)
  refine kb (p := y2) rfl h (fun hc h => ?_) (fun hc h => ?_)
  ·refine zad (kr ?_)
   refine qa (.xi 1) rfl ?_
   refine G_nil (zaa (k_ret (kC_ret ?_)))
   obtain rfl := Option.some.inj h
   refine ke (pt AF0 4 (.xi 1)) [] rfl ?_ ⟨rfl, rfl⟩
   exact so (lq rfl lt0)
  ·refine k_skip (zaa (zad (zad (kr ?_))))
   refine qm (.exact (.int .u8 (UInt8.toNat a0 : Int))) rfl ?_
   refine qm (.exact (.int .u8 (UInt8.toNat a1 : Int))) rfl ?_
   refine G_q rfl (op_lssU (a := a0) (b := a1) rfl rfl ?_)
   refine G_nil (zaa ?_)
   refine kd (p := a0 < a1) rfl h (fun hc h => ?_) (fun hc h => ?_)
   ·refine zad (kr ?_)
    refine qa (.xi (-1)) rfl ?_
    refine G_nil (zaa (k_ret (kC_ret ?_)))
    obtain rfl := Option.some.inj h
    refine ke (pt AF0 4 (.xi (-1))) [] rfl ?_ ⟨rfl, rfl⟩
    exact so (lq rfl lt0)
   ·refine k_skip (zaa (zad (zad (kr ?_))))
    refine qm (.exact (.int .u8 (UInt8.toNat a0 : Int))) rfl ?_
    refine qm (.exact (.int .u8 (UInt8.toNat a1 : Int))) rfl ?_
    refine G_q rfl (op_gtrU (a := a0) (b := a1) rfl rfl ?_)
    refine G_nil (zaa ?_)
    refine kd (p := a1 < a0) rfl h (fun hc h => ?_) (fun hc h => ?_)
    ·refine zad (kr ?_)
     refine qa (.xi 1) rfl ?_
     refine G_nil (zaa (k_ret (kC_ret ?_)))
     obtain rfl := Option.some.inj h
     refine ke (pt AF0 4 (.xi 1)) [] rfl ?_ ⟨rfl, rfl⟩
     exact so (lq rfl lt0)
    ·refine k_skip (zaa (zad (kr ?_)))
     refine qa (.xi 0) rfl ?_
     refine G_nil (zaa (k_ret ?_))
     obtain rfl := Option.some.inj h
     refine ke (pt AF0 4 (.xi 0)) [] rfl ?_ ⟨rfl, rfl⟩
     exact so (lq rfl lt0)
set_option maxHeartbeats 4000000 in
theorem m_value_integer_ok (a0 : List UInt8) (r : Int) (h : m_value_integer a0 = some r) : Pure Tryz.prog 91 [(.exact (.string (bs a0)))] (.exact (.int .i64 r)) := by
 unfold m_value_integer at h
 refine Pure.ofFun (fun_of_awp Tryz.func91 rfl Tryz.ntmps91 (by simp) rfl (res1 rfl) fun E hE => k_end ?_)
 refine zad (kr ?_)
 refine qa (.xi 0) rfl ?_
 refine G_nil (zaa (zad (kr ?_)))
 refine qa (.exact (.int .u64 0)) rfl ?_
 refine G_nil (zaa ?_)
 refine k_join1_0 h (fun (x3_j1 : Int) => (pt AF0 3 (.exact (.int .u64 x3_j1)))) (fun (x3_j1 : Int) => []) (fun k1 h => ?_) (fun x3_j1 h => ?_)
 ·refine zad (kr ?_)
  refine qa (.xi 1) rfl ?_
  refine G_nil (zaa (k_block ?_))
  refine k_loop2_0 (m_value_integer_L2 a0 k1) (m_value_integer_B2 a0 k1) (fun _ _ => rfl) (fun m _ _ => rfl) h (fun (x3_l2 : Int) (x4_l2 : Int) => (pt (pt (pt AF0 0 (.xs a0)) 3 (.exact (.int .u64 x3_l2))) 4 (.xi x4_l2))) (fun (x3_l2 : Int) (x4_l2 : Int) => []) ?_ (fun rec2 x3_l2 x4_l2 h => ?_)
  ·exact so (lq rfl (lq rfl (lq rfl lt0)))
  ·unfold m_value_integer_B2 at h
   refine zad (zad (kr ?_))
   refine qm (.xi x4_l2) rfl ?_
   refine G_q rfl (op_lss rfl rfl ?_)
   refine G_nil (zaa ?_)
   refine kd (p := x4_l2 < 9) rfl h (fun hc h => ?_) (fun hc h => ?_)
   ·refine k_skip (zaa (zad (k_block (kr ?_))))
    refine qm (.exact (.int .u64 x3_l2)) rfl ?_
    refine G_q rfl (op_shl rfl rfl (by decide) rfl ?_)
    refine qm (.xs a0) rfl ?_
    refine qm (.xi x4_l2) rfl ?_
    obtain ⟨n8, h⟩ := need_some h
    refine G_q rfl (op_index_str (by kernel_rfl) rfl rfl n8.1 n8.2 ?_)
    refine G_q rfl (op_convInt (k := .u64) (r := (UInt8.toNat (gi a0 x4_l2) : Int)) (by kernel_rfl) rfl (wrap_u8 rfl _) ?_)
    refine G_q rfl (op_or rfl rfl rfl ?_)
    refine qa (.exact (.int .u64 (bOr .u64 (IntKind.u64.wrap (x3_l2 * 2 ^ min (Int.toNat 8) IntKind.u64.bits)) (UInt8.toNat (gi a0 x4_l2) : Int)))) rfl ?_
    refine G_nil (kB_normal (zaa (kr ?_)))
    refine qm (.xi x4_l2) rfl ?_
    refine G_q rfl (op_add rfl rfl rfl ?_)
    refine qa (.xi (i64 (x4_l2 + 1))) rfl ?_
    refine G_nil ?_
    refine zac ⟨_, _, h, ?_⟩
    exact so (lq rfl (lq rfl (lq rfl lt0)))
   ·refine k_exit (kC_exit (kI_exit (kB_exit ?_)))
    refine zac ⟨_, h, ?_⟩
    exact so (lq rfl lt0)
 ·refine zad (kr ?_)
  refine qm (.exact (.int .u64 x3_j1)) rfl ?_
  refine G_q rfl (op_convInt (k := .i64) (by kernel_rfl) rfl rfl ?_)
  refine qa (.xi (i64 (x3_j1))) rfl ?_
  refine G_nil (zaa (k_ret ?_))
  obtain rfl := Option.some.inj h
  refine ke (pt AF0 2 (.xi (i64 (x3_j1)))) [] rfl ?_ ⟨rfl, rfl⟩
  exact so (lq rfl lt0)
set_option maxHeartbeats 4000000 in
theorem m_cmp_isNaN_int64_ok (a0 : Int) (r : Bool) (h : m_cmp_isNaN_int64 a0 = some r) : Pure Tryz.prog 135 [(.exact (.int .i64 a0))] (.exact (.bool r)) := by
 unfold m_cmp_isNaN_int64 at h
 refine Pure.ofFun (fun_of_awp Tryz.func135 rfl Tryz.ntmps135 (by simp) rfl (res1 rfl) fun E hE => k_end ?_)
 refine zad (kr ?_)
 refine qa (.xb false) rfl ?_
 refine G_nil (zaa (zad (kr ?_)))
 refine qm (.xi a0) rfl ?_
 refine qm (.xi a0) rfl ?_
 refine G_q rfl (op_neq rfl rfl ?_)
 refine qa (.xb (decide (¬ a0 = a0))) rfl ?_
 refine G_nil (zaa (k_ret ?_))
 obtain rfl := Option.some.inj h
 refine ke (pt AF0 2 (.xb (decide (¬ a0 = a0)))) [] rfl ?_ ⟨rfl, rfl⟩
 exact so (lq rfl lt0)
set_option maxHeartbeats 4000000 in
theorem m_cmp_Compare_int64_ok (a0 : Int) (a1 : Int) (r : Int) (h : m_cmp_Compare_int64 a0 a1 = some r) : Pure Tryz.prog 126 [(.exact (.int .i64 a0)), (.exact (.int .i64 a1))] (.exact (.int .i64 r)) := by
 unfold m_cmp_Compare_int64 at h
 refine Pure.ofFun (fun_of_awp Tryz.func126 rfl Tryz.ntmps126 (by simp) rfl (res1 rfl) fun E hE => k_end ?_)
 refine zad (kr ?_)
 refine qa (.xi 0) rfl ?_
 refine G_nil (zaa (zad (kr ?_)))
 refine qm (.xi a0) rfl ?_
 obtain ⟨y1, hy1, h⟩ := bnd1_some h
 refine G_q rfl (zai (m_cmp_isNaN_int64_ok _ _ hy1) Tryz.func135 (by kernel_rfl) (LEs.cons (AV.le_eq rfl) LEs.nil) ?_)
 refine qa (.xb y1) rfl ?_
 refine G_nil (zaa (zad (kr ?_)))
 refine qm (.xi a1) rfl ?_
 obtain ⟨y2, hy2, h⟩ := bnd1_some h
 refine G_q rfl (zai (m_cmp_isNaN_int64_ok _ _ hy2) Tryz.func135 (by kernel_rfl) (LEs.cons (AV.le_eq rfl) LEs.nil) ?_)
 refine qa (.xb y2) rfl ?_
 refine G_nil (zaa (zad (zad (kr ?_))))
 refine qm (.xb y1) rfl ?_
 refine G_nil (zaa ?_)
 refine kb (p := y1) rfl h (fun hc h => ?_) (fun hc h => ?_)
 ·refine zad (zad (kr ?_))
  refine qm (.xb y2) rfl ?_
  refine G_nil (zaa ?_)
  refine kb (p := y2) rfl h (fun hc h => ?_) (fun hc h => ?_)
  ·refine zad (kr ?_)
   refine qa (.xi 0) rfl ?_
   refine G_nil (zaa (k_ret (kC_ret (kC_ret ?_))))
   obtain rfl := Option.some.inj h
   refine ke (pt AF0 4 (.xi 0)) [] rfl ?_ ⟨rfl, rfl⟩
   exact so (lq rfl lt0)
  ·refine k_skip (zaa (zad (kr ?_)))
   refine qa (.xi (-1)) rfl ?_
   refine G_nil (zaa (k_ret (kC_ret ?_)))
   obtain rfl := Option.some.inj h
   refine ke (pt AF0 4 (.xi (-1))) [] rfl ?_ ⟨rfl, rfl⟩
   exact so (lq rfl lt0)
 ·refine k_skip (zaa (zad (zad (kr ?_))))
  refine qm (.xb y2) rfl ?_
  refine G_nil (zaa ?_)
  refine kb (p := y2) rfl h (fun hc h => ?_) (fun hc h => ?_)
  ·refine zad (kr ?_)
   refine qa (.xi 1) rfl ?_
   refine G_nil (zaa (k_ret (kC_ret ?_)))
   obtain rfl := Option.some.inj h
   refine ke (pt AF0 4 (.xi 1)) [] rfl ?_ ⟨rfl, rfl⟩
   exact so (lq rfl lt0)
  ·refine k_skip (zaa (zad (zad (kr ?_))))
   refine qm (.xi a0) rfl ?_
   refine qm (.xi a1) rfl ?_
   refine G_q rfl (op_lss rfl rfl ?_)
   refine G_nil (zaa ?_)
   refine kd (p := a0 < a1) rfl h (fun hc h => ?_) (fun hc h => ?_)
   ·refine zad (kr ?_)
    refine qa (.xi (-1)) rfl ?_
    refine G_nil (zaa (k_ret (kC_ret ?_)))
    obtain rfl := Option.some.inj h
    refine ke (pt AF0 4 (.xi (-1))) [] rfl ?_ ⟨rfl, rfl⟩
    exact so (lq rfl lt0)
   ·refine k_skip (zaa (zad (zad (kr ?_))))
    refine qm (.xi a0) rfl ?_
    refine qm (.xi a1) rfl ?_
    refine G_q rfl (op_gtr rfl rfl ?_)
    refine G_nil (zaa ?_)
    refine kd (p := a1 < a0) rfl h (fun hc h => ?_) (fun hc h => ?_)
    ·refine zad (kr ?_)
     refine qa (.xi 1) rfl ?_
     refine G_nil (zaa (k_ret (kC_ret ?_)))
     obtain rfl := Option.some.inj h
     refine ke (pt AF0 4 (.xi 1)) [] rfl ?_ ⟨rfl, rfl⟩
     exact so (lq rfl lt0)
    ·refine k_skip (zaa (zad (kr ?_)))
     refine qa (.xi 0) rfl ?_
     refine G_nil (zaa (k_ret ?_))
     obtain rfl := Option.some.inj h
     refine ke (pt AF0 4 (.xi 0)) [] rfl ?_ ⟨rfl, rfl⟩
     exact so (lq rfl lt0)
set_option maxHeartbeats 4000000 in
theorem m_value_simple_ok (a0 : Int) (r : Bool) (h : m_value_simple a0 = some r) : Pure Tryz.prog 88 [(.exact (.int .i64 a0))] (.exact (.bool r)) := by
 unfold m_value_simple at h
 refine Pure.ofFun (fun_of_awp Tryz.func88 rfl Tryz.ntmps88 (by simp) rfl (res1 rfl) fun E hE => k_end ?_)
 refine zad (kr ?_)
 refine qa (.xb false) rfl ?_
 refine G_nil (zaa ?_)
 refine k_join1_0 h (fun (x2_j1 : Bool) => (pt AF0 2 (.xb x2_j1))) (fun (x2_j1 : Bool) => []) (fun k1 h => ?_) (fun x2_j1 h => ?_)
 ·refine kr ?_
  refine qm (.xi a0) rfl ?_
  refine G_q rfl (op_eql rfl rfl ?_)
  refine qm (.xb (decide (a0 = 0))) rfl ?_
  refine G_split (p := a0 = 0) 5 rfl (fun hc => ?_) (fun hc => ?_)
  ·replace h := ite_t h hc
   refine G_n rfl rfl (G_n rfl rfl ?_)
   refine G_q rfl (zak rfl (av := .xb true) rfl ?_)
   refine qm (.xb true) rfl ?_
   refine G_n rfl rfl (G_n rfl rfl ?_)
   refine G_q rfl (zak rfl (av := .xb true) rfl ?_)
   refine qm (.xb true) rfl ?_
   refine G_n rfl rfl (G_n rfl rfl ?_)
   refine G_q rfl (zak rfl (av := .xb true) rfl ?_)
   refine qa (.xb true) rfl ?_
   refine G_nil ?_
   refine zac ⟨_, h, ?_⟩
   exact so (lq rfl lt0)
  ·replace h := ite_f h hc
   refine Gy_q rfl rfl rfl (zaf (av := .xi a0) rfl ?_)
   refine Gy_q rfl rfl rfl (op_eql rfl rfl ?_)
   refine G_q rfl (zah rfl (av := .xb (decide (a0 = 1))) rfl ?_)
   refine qm (.xb (decide (a0 = 1))) rfl ?_
   refine G_split (p := a0 = 1) 9 rfl (fun hc => ?_) (fun hc => ?_)
   ·replace h := ite_t h hc
    refine G_n rfl rfl (G_n rfl rfl ?_)
    refine G_q rfl (zak rfl (av := .xb true) rfl ?_)
    refine qm (.xb true) rfl ?_
    refine G_n rfl rfl (G_n rfl rfl ?_)
    refine G_q rfl (zak rfl (av := .xb true) rfl ?_)
    refine qa (.xb true) rfl ?_
    refine G_nil ?_
    refine zac ⟨_, h, ?_⟩
    exact so (lq rfl lt0)
   ·replace h := ite_f h hc
    refine Gy_q rfl rfl rfl (zaf (av := .xi a0) rfl ?_)
    refine Gy_q rfl rfl rfl (op_eql rfl rfl ?_)
    refine G_q rfl (zah rfl (av := .xb (decide (a0 = 2))) rfl ?_)
    refine qm (.xb (decide (a0 = 2))) rfl ?_
    refine G_split (p := a0 = 2) 13 rfl (fun hc => ?_) (fun hc => ?_)
    ·replace h := ite_t h hc
     refine G_n rfl rfl (G_n rfl rfl ?_)
     refine G_q rfl (zak rfl (av := .xb true) rfl ?_)
     refine qa (.xb true) rfl ?_
     refine G_nil ?_
     refine zac ⟨_, h, ?_⟩
     exact so (lq rfl lt0)
    ·replace h := ite_f h hc
     refine Gy_q rfl rfl rfl (zaf (av := .xi a0) rfl ?_)
     refine Gy_q rfl rfl rfl (op_eql rfl rfl ?_)
     refine G_q rfl (zah rfl (av := .xb (decide (a0 = 10))) rfl ?_)
     refine qa (.xb (decide (a0 = 10))) rfl ?_
     refine G_nil ?_
     refine zac ⟨_, h, ?_⟩
     exact so (lq rfl lt0)
 ·refine k_ret ?_
  obtain rfl := Option.some.inj h
  refine ke (pt AF0 2 (.xb x2_j1)) [] rfl ?_ ⟨rfl, rfl⟩
  exact so (lq rfl lt0)
set_option maxHeartbeats 4000000 in
theorem m_cmp_isNaN_api_Value_ok (a0 : List UInt8) (r : Bool) (h : m_cmp_isNaN_api_Value a0 = some r) : Pure Tryz.prog 128 [(.exact (.string (bs a0)))] (.exact (.bool r)) := by
 unfold m_cmp_isNaN_api_Value at h
 refine Pure.ofFun (fun_of_awp Tryz.func128 rfl Tryz.ntmps128 (by simp) rfl (res1 rfl) fun E hE => k_end ?_)
 refine zad (kr ?_)
 refine qa (.xb false) rfl ?_
 refine G_nil (zaa (zad (kr ?_)))
 refine qm (.xs a0) rfl ?_
 refine qm (.xs a0) rfl ?_
 refine G_q rfl (op_neqS rfl rfl ?_)
 refine qa (.xb (decide (¬ a0 = a0))) rfl ?_
 refine G_nil (zaa (k_ret ?_))
 obtain rfl := Option.some.inj h
 refine ke (pt AF0 2 (.xb (decide (¬ a0 = a0)))) [] rfl ?_ ⟨rfl, rfl⟩
 exact so (lq rfl lt0)
end Go.Proofs.YtpfdeahcjlfijaaGreat
/- The functions compute their models, by program. -/
namespace Go.Proofs.YtpfdeahcjlfijaaGreat
open Go.RowKit
attribute [local irreducible] AV.exact AV.top AV.row AV.ptr AV.agg AV.tup AV.eptr AV.fn AV.nilq AV.nilqn opA opB opM opR Quiet Loud Reads wpG awp den Sub SubU Pure Fun vecI vecT boxI CellsAll CellsOf OneC LEs LEss
set_option maxRecDepth 100000

set_option maxHeartbeats 4000000 in
theorem m_cmp_Compare_api_Value_ok (a0 : List UInt8) (a1 : List UInt8) (r : Int) (h : m_cmp_Compare_api_Value a0 a1 = some r) : Pure Tryz.prog 112 [(.exact (.string (bs a0))), (.exact (.string (bs a1)))] (.exact (.int .i64 r)) := by
 unfold m_cmp_Compare_api_Value at h
 refine Pure.ofFun (fun_of_awp Tryz.func112 rfl Tryz.ntmps112 (by simp) rfl (res1 rfl) fun E hE => k_end ?_)
 refine zad (kr ?_)
 refine qa (.xi 0) rfl ?_
 refine G_nil (zaa (zad (kr ?_)))
 refine qm (.xs a0) rfl ?_
 obtain ⟨y1, hy1, h⟩ := bnd1_some h
 refine G_q rfl (zai (m_cmp_isNaN_api_Value_ok _ _ hy1) Tryz.func128 (by kernel_rfl) (LEs.cons (AV.le_eq rfl) LEs.nil) ?_)
 refine qa (.xb y1) rfl ?_
 refine G_nil (zaa (zad (kr ?_)))
 refine qm (.xs a1) rfl ?_
 obtain ⟨y2, hy2, h⟩ := bnd1_some h
 refine G_q rfl (zai (m_cmp_isNaN_api_Value_ok _ _ hy2) Tryz.func128 (by kernel_rfl) (LEs.cons (AV.le_eq rfl) LEs.nil) ?_)
 refine qa (.xb y2) rfl ?_
 refine G_nil (zaa (zad (zad (kr ?_))))
 refine qm (.xb y1) rfl ?_
 refine G_nil (zaa ?_)
 refine kb (p := y1) rfl h (fun hc h => ?_) (fun hc h => ?_)
 ·refine zad (zad (kr ?_))
  refine qm (.xb y2) rfl ?_
  refine G_nil (zaa ?_)
  refine kb (p := y2) rfl h (fun hc h => ?_) (fun hc h => ?_)
  ·refine zad (kr ?_)
   refine qa (.xi 0) rfl ?_
   refine G_nil (zaa (k_ret (kC_ret (kC_ret ?_))))
   obtain rfl := Option.some.inj h
   refine ke (pt AF0 4 (.xi 0)) [] rfl ?_ ⟨rfl, rfl⟩
   exact so (lq rfl lt0)
  ·refine k_skip (zaa (zad (kr ?_)))
   refine qa (.xi (-1)) rfl ?_
   refine G_nil (zaa (k_ret (kC_ret ?_)))
   obtain rfl := Option.some.inj h
   refine ke (pt AF0 4 (.xi (-1))) [] rfl ?_ ⟨rfl, rfl⟩
   exact so (lq rfl lt0)
 ·refine k_skip (zaa (zad (zad (kr ?_))))
  refine qm (.xb y2) rfl ?_
  refine G_nil (zaa ?_)
  refine kb (p := y2) rfl h (fun hc h => ?_) (fun hc h => ?_)
  ·refine zad (kr ?_)
   refine qa (.xi 1) rfl ?_
   refine G_nil (zaa (k_ret (kC_ret ?_)))
   obtain rfl := Option.some.inj h
   refine ke (pt AF0 4 (.xi 1)) [] rfl ?_ ⟨rfl, rfl⟩
   exact so (lq rfl lt0)
  ·refine k_skip (zaa (zad (zad (kr ?_))))
   refine qm (.xs a0) rfl ?_
   refine qm (.xs a1) rfl ?_
   refine G_q rfl (op_lssS rfl rfl ?_)
   refine G_nil (zaa ?_)
   refine kd (p := ltS a0 a1) rfl h (fun hc h => ?_) (fun hc h => ?_)
   ·refine zad (kr ?_)
    refine qa (.xi (-1)) rfl ?_
    refine G_nil (zaa (k_ret (kC_ret ?_)))
    obtain rfl := Option.some.inj h
    refine ke (pt AF0 4 (.xi (-1))) [] rfl ?_ ⟨rfl, rfl⟩
    exact so (lq rfl lt0)
   ·refine k_skip (zaa (zad (zad (kr ?_))))
    refine qm (.xs a0) rfl ?_
    refine qm (.xs a1) rfl ?_
    refine G_q rfl (op_gtrS rfl rfl ?_)
    refine G_nil (zaa ?_)
    refine kd (p := ltS a1 a0) rfl h (fun hc h => ?_) (fun hc h => ?_)
    ·refine zad (kr ?_)
     refine qa (.xi 1) rfl ?_
     refine G_nil (zaa (k_ret (kC_ret ?_)))
     obtain rfl := Option.some.inj h
     refine ke (pt AF0 4 (.xi 1)) [] rfl ?_ ⟨rfl, rfl⟩
     exact so (lq rfl lt0)
    ·refine k_skip (zaa (zad (kr ?_)))
     refine qa (.xi 0) rfl ?_
     refine G_nil (zaa (k_ret ?_))
     obtain rfl := Option.some.inj h
     refine ke (pt AF0 4 (.xi 0)) [] rfl ?_ ⟨rfl, rfl⟩
     exact so (lq rfl lt0)
set_option maxHeartbeats 4000000 in
theorem m_value_span_F_ok (self_value_span : (List UInt8) → Option Int) (hself_value_span : ∀ (a0 : List UInt8) (r : Int), self_value_span a0 = some r → Pure Tryz.prog 104 [(.exact (.string (bs a0)))] (.exact (.int .i64 r))) (a0 : List UInt8) (r : Int) (h : m_value_span_F self_value_span a0 = some r) : Pure Tryz.prog 104 [(.exact (.string (bs a0)))] (.exact (.int .i64 r)) := by
 unfold m_value_span_F at h
 refine Pure.ofFun (fun_of_awp Tryz.func104 rfl Tryz.ntmps104 (by simp) rfl (res1 rfl) fun E hE => k_end ?_)
 refine zad (kr ?_)
 refine qa (.xi 0) rfl ?_
 refine G_nil (zaa (zad (zad (kr ?_))))
 refine qm (.xs a0) rfl ?_
 obtain ⟨n1, h⟩ := need_some h
 refine G_q rfl (op_index_str (by kernel_rfl) rfl rfl n1.1 n1.2 ?_)
 refine G_nil (zaa (k_block (zad (kr ?_))))
 refine G_q rfl (op_eqlU (a := (gi a0 0)) (b := 1) rfl rfl ?_)
 refine qa (.xb (decide ((gi a0 0) = 1))) rfl ?_
 refine G_nil (zaa ?_)
 refine kd (p := (gi a0 0) = 1) rfl h (fun hc h => ?_) (fun hc h => ?_)
 ·refine zad (kr ?_)
  refine qa (.xi 9) rfl ?_
  refine G_nil (zaa (k_ret (kB_ret (kC_ret ?_))))
  obtain rfl := Option.some.inj h
  refine ke (pt AF0 2 (.xi 9)) [] rfl ?_ ⟨rfl, rfl⟩
  exact so (lq rfl lt0)
 ·refine zad (kr ?_)
  refine G_q rfl (op_eqlU (a := (gi a0 0)) (b := 2) rfl rfl ?_)
  refine qa (.xb (decide ((gi a0 0) = 2))) rfl ?_
  refine G_nil (zaa ?_)
  refine kd (p := (gi a0 0) = 2) rfl h (fun hc h => ?_) (fun hc h => ?_)
  ·refine zad (kr ?_)
   refine qa (.xi 2) rfl ?_
   refine G_nil (zaa (k_ret (kB_ret (kC_ret ?_))))
   obtain rfl := Option.some.inj h
   refine ke (pt AF0 2 (.xi 2)) [] rfl ?_ ⟨rfl, rfl⟩
   exact so (lq rfl lt0)
  ·refine zad (kr ?_)
   refine G_q rfl (op_eqlU (a := (gi a0 0)) (b := 10) rfl rfl ?_)
   refine qa (.xb (decide ((gi a0 0) = 10))) rfl ?_
   refine G_nil (zaa ?_)
   refine kd (p := (gi a0 0) = 10) rfl h (fun hc h => ?_) (fun hc h => ?_)
   ·refine zad (kr ?_)
    refine qa (.xi 3) rfl ?_
    refine G_nil (zaa (k_ret (kB_ret (kC_ret ?_))))
    obtain rfl := Option.some.inj h
    refine ke (pt AF0 2 (.xi 3)) [] rfl ?_ ⟨rfl, rfl⟩
    exact so (lq rfl lt0)
   ·refine k_skip (kB_normal (zaa (zad (kr ?_))))
    refine qa (.xi 3) rfl ?_
    refine G_nil (zaa ?_)
    refine k_join1_0 h (fun (x3_j2 : Int) => (pt AF0 3 (.xi x3_j2))) (fun (x3_j2 : Int) => []) (fun k2 h => ?_) (fun x3_j2 h => ?_)
    ·refine zad ?_
     refine k_plan [] [(0, 0), (0, 1), (0, 2), (0, 3), (0, 4), (0, 5), (0, 6), (0, 7), (0, 8)] hmixP (by kernel_rfl) ?_
     refine P_q no34_0 rfl (zaf (av := .xs a0) rfl ?_)
     obtain ⟨n12, h⟩ := need_some h
     refine P_q no34_0 rfl (op_index_str (by kernel_rfl) rfl rfl n12.1 n12.2 ?_)
     refine P_q no34_0 rfl (op_convInt (k := .i64) (r := (UInt8.toNat (gi a0 1) : Int)) (by kernel_rfl) rfl (wrap_u8 rfl _) ?_)
     refine P_q no34_0 rfl (op_shl rfl rfl (by decide) rfl ?_)
     refine P_q no34_0 rfl (zaf (av := .xs a0) rfl ?_)
     obtain ⟨n13, h⟩ := need_some h
     refine P_q no34_0 rfl (op_index_str (by kernel_rfl) rfl rfl n13.1 n13.2 ?_)
     refine P_q no34_0 rfl (op_convInt (k := .i64) (r := (UInt8.toNat (gi a0 2) : Int)) (by kernel_rfl) rfl (wrap_u8 rfl _) ?_)
     refine P_q no34_0 rfl (op_or rfl rfl rfl ?_)
     refine P_q no34_0 rfl (zaf (av := .xi 0) rfl ?_)
     refine P_nil (zaa (k_block ?_))
     refine k_loop2_0 (m_value_span_L2 self_value_span a0 k2) (m_value_span_B2 self_value_span a0 k2) (fun _ _ => rfl) (fun m _ _ => rfl) h (fun (x3_l2 : Int) (x20_l2 : Int) => (pt (pt (pt (pt AF0 0 (.xs a0)) 3 (.xi x3_l2)) 19 (.xi (bOr .i64 (i64 ((UInt8.toNat (gi a0 1) : Int) * 2 ^ min (Int.toNat 8) IntKind.i64.bits)) (UInt8.toNat (gi a0 2) : Int)))) 20 (.xi x20_l2))) (fun (x3_l2 : Int) (x20_l2 : Int) => []) ?_ (fun rec2 x3_l2 x20_l2 h => ?_)
     ·exact so (l4 rfl rfl rfl rfl lt0)
     ·unfold m_value_span_B2 at h
      refine zad (kr ?_)
      refine G_q rfl (op_lss rfl rfl ?_)
      refine G_nil (zaa (zad ?_))
      refine kd (p := x20_l2 < (bOr .i64 (i64 ((UInt8.toNat (gi a0 1) : Int) * 2 ^ min (Int.toNat 8) IntKind.i64.bits)) (UInt8.toNat (gi a0 2) : Int))) rfl h (fun hc h => ?_) (fun hc h => ?_)
      ·refine k_skip (zaa (zad (k_block (kr ?_))))
       refine qm (.xi x3_l2) rfl ?_
       refine qm (.xs a0) rfl ?_
       refine qm (.xi x3_l2) rfl ?_
       obtain ⟨n18, h⟩ := need_some h
       refine G_q rfl (op_slice_strd (by kernel_rfl) rfl (bnd_some rfl) bnd_none n18.1 n18.2 (Int.le_refl _) ?_)
       obtain ⟨y19, hy19, h⟩ := bnd1_some h
       refine G_q rfl (zai (hself_value_span _ _ hy19) Tryz.func104 (by kernel_rfl) (LEs.cons (AV.le_eq rfl) LEs.nil) ?_)
       refine G_q rfl (op_add rfl rfl rfl ?_)
       refine qa (.xi (i64 (x3_l2 + y19))) rfl ?_
       refine G_nil (kB_normal (zaa (kr ?_)))
       refine G_q rfl (op_add rfl rfl rfl ?_)
       refine qm (.xi (i64 (x20_l2 + 1))) rfl ?_
       refine G_nil ?_
       refine zac ⟨_, _, h, ?_⟩
       exact so (l4 rfl rfl rfl rfl lt0)
      ·refine k_exit (kC_exit (kI_exit (kB_exit ?_)))
       refine zac ⟨_, h, ?_⟩
       exact so (lq rfl lt0)
    ·refine zad (kr ?_)
     refine qm (.xi x3_j2) rfl ?_
     refine qa (.xi x3_j2) rfl ?_
     refine G_nil (zaa (k_ret ?_))
     obtain rfl := Option.some.inj h
     refine ke (pt AF0 2 (.xi x3_j2)) [] rfl ?_ ⟨rfl, rfl⟩
     exact so (lq rfl lt0)
set_option maxHeartbeats 4000000 in
theorem m_value_span_S_ok : ∀ n : Nat, (∀ (a0 : List UInt8) (r : Int), m_value_span_S n a0 = some r → Pure Tryz.prog 104 [(.exact (.string (bs a0)))] (.exact (.int .i64 r)))
  | 0 => (fun _ _ h => by have h' : (none : Option _) = some _ := h; cases h')
  | n + 1 => by
    have ih := m_value_span_S_ok n
    exact fun a0 r h => m_value_span_F_ok (m_value_span_S n) ih a0 r h
theorem m_value_span_ok (a0 : List UInt8) (r : Int) (h : m_value_span a0 = some r) : Pure Tryz.prog 104 [(.exact (.string (bs a0)))] (.exact (.int .i64 r)) := (m_value_span_S_ok FU) a0 r h
set_option maxHeartbeats 4000000 in
theorem m_slices_Clip_L_api_Value_api_Value_ok (a0 : List (List UInt8)) (r : (List (List UInt8))) (h : m_slices_Clip_L_api_Value_api_Value a0 = some r) : Pure Tryz.prog 42 [(.row 1 zab a0)] (.row 1 zab r) := by
 unfold m_slices_Clip_L_api_Value_api_Value at h
 refine Pure.ofFun (fun_of_awp Tryz.func42 rfl Tryz.ntmps42 (by simp) rfl (res1 rfl) fun E hE => k_end ?_)
 refine zad (kr ?_)
 refine qa (.exact (.slice none 0 0)) rfl ?_
 refine G_nil (zaa (zad (kr ?_)))
 refine qm (.row 1 zab a0) rfl ?_
 refine qm (.row 1 zab a0) rfl ?_
 refine G_q rfl (op_len_row (by kernel_rfl) rfl ?_)
 refine qm (.row 1 zab a0) rfl ?_
 refine G_q rfl (op_len_row (by kernel_rfl) rfl ?_)
 obtain ⟨n1, h⟩ := need_some h
 refine G_q rfl (op_slice_row3 (by kernel_rfl) rfl bnd_none rfl rfl (Int.le_refl 0) n1 (Int.le_refl _) (Int.le_refl _) ?_)
 refine qa (.row 1 zab (List.take (Int.toNat (List.length a0 : Int)) a0)) rfl ?_
 refine G_nil (zaa (k_ret ?_))
 obtain rfl := Option.some.inj h
 refine ke (pt AF0 2 (.row 1 zab (List.take (Int.toNat (List.length a0 : Int)) a0))) [] rfl ?_ ⟨rfl, rfl⟩
 exact so (lq rfl lt0)
set_option maxHeartbeats 4000000 in
theorem m_value_parts_ok (a0 : List UInt8) (r : (List (List UInt8))) (h : m_value_parts a0 = some r) : Pure Tryz.prog 89 [(.exact (.string (bs a0)))] (.row 1 zab r) := by
 unfold m_value_parts at h
 refine Pure.ofFun (fun_of_awp Tryz.func89 rfl Tryz.ntmps89 (by simp) rfl (res1 rfl) fun E hE => k_end ?_)
 refine zad (kr ?_)
 refine qa (.exact (.slice none 0 0)) rfl ?_
 refine G_nil (zaa (zad (kr ?_)))
 refine qa (.exact (.slice none 0 0)) rfl ?_
 refine G_nil (zaa ?_)
 refine k_join1_1 h (fun (x3_j1 : List (List UInt8)) (v3_j1 : Value) => (pt AF0 3 (.exact v3_j1))) (fun (x3_j1 : List (List UInt8)) (v3_j1 : Value) => [vecT Tryz.prog 27 1 zab v3_j1 x3_j1]) (fun k1 h => ?_) (fun x3_j1 v3_j1 h => ?_)
 ·refine zad (kr ?_)
  refine qa (.xi 3) rfl ?_
  refine G_nil (zaa (k_block ?_))
  refine k_loop2_1 (m_value_parts_L2 a0 k1) (m_value_parts_B2 a0 k1) (fun _ _ => rfl) (fun m _ _ => rfl) h (fun (x3_l2 : List (List UInt8)) (x4_l2 : Int) (v3_l2 : Value) => (pt (pt (pt AF0 0 (.xs a0)) 3 (.exact v3_l2)) 4 (.xi x4_l2))) (fun (x3_l2 : List (List UInt8)) (x4_l2 : Int) (v3_l2 : Value) => [vecT Tryz.prog 27 1 zab v3_l2 x3_l2]) (.slice none 0 0) ?_ (fun rec2 x3_l2 x4_l2 v3_l2 h => ?_)
  ·refine Sub.trans (SubU.to (SubU.nilT (P := Tryz.prog) (t := 27) (n := 1) (enc := zab))) ?_
   exact so (lq rfl (lq rfl (lq rfl lt0)))
  ·unfold m_value_parts_B2 at h
   refine zad (zad (kr ?_))
   refine qm (.xi x4_l2) rfl ?_
   refine qm (.xs a0) rfl ?_
   refine G_q rfl (op_lenS (by kernel_rfl) rfl ?_)
   refine G_q rfl (op_lss rfl rfl ?_)
   refine G_nil (zaa ?_)
   refine kd (p := x4_l2 < (List.length a0 : Int)) rfl h (fun hc h => ?_) (fun hc h => ?_)
   ·refine k_skip (zaa (k_block (zad (kr ?_))))
    refine qm (.xs a0) rfl ?_
    refine qm (.xi x4_l2) rfl ?_
    obtain ⟨n28, h⟩ := need_some h
    refine G_q rfl (op_slice_strd (by kernel_rfl) rfl (bnd_some rfl) bnd_none n28.1 n28.2 (Int.le_refl _) ?_)
    obtain ⟨y29, hy29, h⟩ := bnd1_some h
    refine G_q rfl (zai (m_value_span_ok _ _ hy29) Tryz.func104 (by kernel_rfl) (LEs.cons (AV.le_eq rfl) LEs.nil) ?_)
    refine qa (.xi y29) rfl ?_
    refine G_nil (zaa (zad (kr ?_)))
    refine qm (.exact v3_l2) rfl ?_
    refine qm (.xs a0) rfl ?_
    refine qm (.xi x4_l2) rfl ?_
    refine qm (.xi x4_l2) rfl ?_
    refine qm (.xi y29) rfl ?_
    refine G_q rfl (op_add rfl rfl rfl ?_)
    obtain ⟨n30, h⟩ := need_some h
    refine G_q rfl (op_slice_str (by kernel_rfl) rfl (bnd_some rfl) (bnd_some rfl) n30.1 n30.2.1 n30.2.2 ?_)
    refine G_q rfl (op_litT (n := 1) (enc := zab) [List.take (Int.toNat (i64 (x4_l2 + y29)) - Int.toNat x4_l2) (List.drop (Int.toNat x4_l2) a0)] (CellsAll.cons rfl CellsOf.str CellsAll.nil) rfl (by kernel_rfl) (LEss.cons (LEs.cons (AV.le_eq rfl) LEs.nil) LEss.nil) ?_)
    obtain ⟨n31, h⟩ := need_some h
    refine G_l rfl (op_appT (by kernel_rfl) rfl rfl oc_c_api_Value n31 (fun v32 => ?_))
    refine qa (.exact v32) rfl ?_
    refine G_nil (zaa (kr ?_))
    refine qm (.xi x4_l2) rfl ?_
    refine qm (.xi y29) rfl ?_
    refine G_q rfl (op_add rfl rfl rfl ?_)
    refine qa (.xi (i64 (x4_l2 + y29))) rfl ?_
    refine G_nil (kB_normal ?_)
    refine zac ⟨_, _, v32, h, ?_⟩
    exact so (lq rfl (lq rfl (lq rfl lt0)))
   ·refine k_exit (kC_exit (kI_exit (kB_exit ?_)))
    refine zac ⟨_, v3_l2, h, ?_⟩
    exact so (lq rfl lt0)
 ·refine zad (kr ?_)
  refine qm (.exact v3_j1) rfl ?_
  refine G_sub rfl (SubU.freezeT2 (s1 := 3) (s2 := 26) rfl rfl len_c_api_Value) ?_
  obtain ⟨y33, hy33, h⟩ := bnd1_some h
  refine G_q rfl (zai (m_slices_Clip_L_api_Value_api_Value_ok _ _ hy33) Tryz.func42 (by kernel_rfl) (LEs.cons (AV.le_eq rfl) LEs.nil) ?_)
  refine qa (.row 1 zab y33) rfl ?_
  refine G_nil (zaa (k_ret ?_))
  obtain rfl := Option.some.inj h
  refine ke (pt AF0 2 (.row 1 zab y33)) [] rfl ?_ ⟨rfl, rfl⟩
  exact so (lq rfl lt0)
set_option maxHeartbeats 4000000 in
theorem m_slices_CompareFunc_L_api_Value_L_api_Value_api_Value_api_Value_ok (a0 : List (List UInt8)) (a1 : List (List UInt8)) (a2 : (List UInt8) → (List UInt8) → Option Int) (r : Int) (h : m_slices_CompareFunc_L_api_Value_L_api_Value_api_Value_api_Value a0 a1 a2 = some r) : Pure Tryz.prog 127 [(.row 1 zab a0), (.row 1 zab a1), (.fn Tryz.prog (fun (i : (List UInt8) × (List UInt8)) => [.exact (.string (bs i.1)), .exact (.string (bs i.2))]) (fun (i : (List UInt8) × (List UInt8)) => a2 i.1 i.2) (fun (r : Int) => .exact (.int .i64 r)))] (.exact (.int .i64 r)) := by
 unfold m_slices_CompareFunc_L_api_Value_L_api_Value_api_Value_api_Value at h
 refine Pure.ofFun (fun_of_awp Tryz.func127 rfl Tryz.ntmps127 (by simp) rfl (res1 rfl) fun E hE => k_end ?_)
 refine zad (kr ?_)
 refine qa (.xi 0) rfl ?_
 refine G_nil (zaa ?_)
 refine k_join0_0 h ((pt (pt AF0 0 (.row 1 zab a0)) 1 (.row 1 zab a1))) ([]) (fun k1 h => ?_) (fun  h => ?_)
 ·refine zad (kr ?_)
  refine qm (.row 1 zab a0) rfl ?_
  refine G_q rfl (op_len_row (by kernel_rfl) rfl ?_)
  refine qm (.xi 0) rfl ?_
  refine G_nil (zaa (k_block ?_))
  refine k_loop1_0 (m_slices_CompareFunc_L_api_Value_L_api_Value_api_Value_api_Value_L2 a0 a1 a2 k1) (m_slices_CompareFunc_L_api_Value_L_api_Value_api_Value_api_Value_B2 a0 a1 a2 k1) (fun _ => rfl) (fun m _ => rfl) h (fun (x13_l2 : Int) => (pt (pt (pt (pt (pt (pt AF0 0 (.row 1 zab a0)) 1 (.row 1 zab a1)) 2 (.fn Tryz.prog (fun (i : (List UInt8) × (List UInt8)) => [.xs i.1, .xs i.2]) (fun (i : (List UInt8) × (List UInt8)) => a2 i.1 i.2) (fun (r : Int) => .xi r))) 11 (.row 1 zab a0)) 12 (.xi (List.length a0 : Int))) 13 (.xi x13_l2))) (fun (x13_l2 : Int) => []) ?_ (fun rec2 x13_l2 h => ?_)
  ·exact so (l4 rfl rfl rfl rfl (lq rfl (lq rfl lt0)))
  ·unfold m_slices_CompareFunc_L_api_Value_L_api_Value_api_Value_api_Value_B2 at h
   refine zad (kr ?_)
   refine G_q rfl (op_lss rfl rfl ?_)
   refine G_nil (zaa (zad ?_))
   refine kd (p := x13_l2 < (List.length a0 : Int)) rfl h (fun hc h => ?_) (fun hc h => ?_)
   ·refine k_skip (zaa (zad (k_block (zad (kr ?_)))))
    refine qm (.xi x13_l2) rfl ?_
    obtain ⟨n18, h⟩ := need_some h
    refine G_q rfl (zam (by kernel_rfl) rfl rfl n18.1 n18.2 ?_)
    refine G_q rfl (zal (a := .xs (gi a0 x13_l2)) (by kernel_rfl) rfl rfl ?_)
    refine qa (.xi x13_l2) rfl ?_
    refine qa (.xs (gi a0 x13_l2)) rfl ?_
    refine G_nil (zaa (zad (zad (kr ?_))))
    refine qm (.xi x13_l2) rfl ?_
    refine qm (.row 1 zab a1) rfl ?_
    refine G_q rfl (op_len_row (by kernel_rfl) rfl ?_)
    refine G_q rfl (op_geq rfl rfl ?_)
    refine G_nil (zaa ?_)
    refine kd (p := (List.length a1 : Int) ≤ x13_l2) rfl h (fun hc h => ?_) (fun hc h => ?_)
    ·refine zad (kr ?_)
     refine qa (.xi 1) rfl ?_
     refine G_nil (zaa (k_ret (kC_ret (kB_ret (kC_ret (kI_ret (kB_ret (kI_ret ?_))))))))
     obtain rfl := Option.some.inj h
     refine ke (pt AF0 6 (.xi 1)) [] rfl ?_ ⟨rfl, rfl⟩
     exact so (lq rfl lt0)
    ·refine k_skip (zaa (zad (kr ?_)))
     refine qm (.row 1 zab a1) rfl ?_
     refine qm (.xi x13_l2) rfl ?_
     obtain ⟨n19, h⟩ := need_some h
     refine G_q rfl (zam (by kernel_rfl) rfl rfl n19.1 n19.2 ?_)
     refine G_q rfl (zal (a := .xs (gi a1 x13_l2)) (by kernel_rfl) rfl rfl ?_)
     refine qa (.xs (gi a1 x13_l2)) rfl ?_
     refine G_nil (zaa (zad (kr ?_)))
     refine qm (.fn Tryz.prog (fun (i : (List UInt8) × (List UInt8)) => [.xs i.1, .xs i.2]) (fun (i : (List UInt8) × (List UInt8)) => a2 i.1 i.2) (fun (r : Int) => .xi r)) rfl ?_
     refine qm (.xs (gi a0 x13_l2)) rfl ?_
     refine qm (.xs (gi a1 x13_l2)) rfl ?_
     obtain ⟨y20, hy20, h⟩ := bnd1_some h
     refine G_q rfl (op_callfn (gi a0 x13_l2, gi a1 x13_l2) rfl hy20 (LEs.cons (AV.le_eq rfl) (LEs.cons (AV.le_eq rfl) LEs.nil)) ?_)
     refine qa (.xi y20) rfl ?_
     refine G_nil (zaa (zad (kr ?_)))
     refine qm (.xi y20) rfl ?_
     refine G_q rfl (op_neq rfl rfl ?_)
     refine G_nil (zaa ?_)
     refine kd (p := ¬ y20 = 0) rfl h (fun hc h => ?_) (fun hc h => ?_)
     ·refine zad (kr ?_)
      refine qm (.xi y20) rfl ?_
      refine qa (.xi y20) rfl ?_
      refine G_nil (zaa (k_ret (kB_ret (kC_ret (kI_ret (kB_ret (kI_ret ?_)))))))
      obtain rfl := Option.some.inj h
      refine ke (pt AF0 6 (.xi y20)) [] rfl ?_ ⟨rfl, rfl⟩
      exact so (lq rfl lt0)
     ·refine k_skip (kB_normal (zaa (kr ?_)))
      refine G_q rfl (op_add rfl rfl rfl ?_)
      refine qm (.xi (i64 (x13_l2 + 1))) rfl ?_
      refine G_nil ?_
      refine zac ⟨_, h, ?_⟩
      exact so (l4 rfl rfl rfl rfl (lq rfl (lq rfl lt0)))
   ·refine k_exit (kC_exit (kI_exit (kB_exit ?_)))
    refine zac ⟨h, ?_⟩
    exact so (lq rfl (lq rfl lt0))
 ·refine zad (zad (kr ?_))
  refine qm (.row 1 zab a0) rfl ?_
  refine G_q rfl (op_len_row (by kernel_rfl) rfl ?_)
  refine qm (.row 1 zab a1) rfl ?_
  refine G_q rfl (op_len_row (by kernel_rfl) rfl ?_)
  refine G_q rfl (op_lss rfl rfl ?_)
  refine G_nil (zaa ?_)
  refine kd (p := (List.length a0 : Int) < (List.length a1 : Int)) rfl h (fun hc h => ?_) (fun hc h => ?_)
  ·refine zad (kr ?_)
   refine qa (.xi (-1)) rfl ?_
   refine G_nil (zaa (k_ret (kC_ret ?_)))
   obtain rfl := Option.some.inj h
   refine ke (pt AF0 6 (.xi (-1))) [] rfl ?_ ⟨rfl, rfl⟩
   exact so (lq rfl lt0)
  ·refine k_skip (zaa (zad (kr ?_)))
   refine qa (.xi 0) rfl ?_
   refine G_nil (zaa (k_ret ?_))
   obtain rfl := Option.some.inj h
   refine ke (pt AF0 6 (.xi 0)) [] rfl ?_ ⟨rfl, rfl⟩
   exact so (lq rfl lt0)
set_option maxHeartbeats 4000000 in
theorem m_value_compare_F_ok (self_value_compare : (List UInt8) → (List UInt8) → Option Int) (hself_value_compare : ∀ (a0 : List UInt8) (a1 : List UInt8) (r : Int), self_value_compare a0 a1 = some r → Pure Tryz.prog 111 [(.exact (.string (bs a0))), (.exact (.string (bs a1)))] (.exact (.int .i64 r))) (a0 : List UInt8) (a1 : List UInt8) (r : Int) (h : m_value_compare_F self_value_compare a0 a1 = some r) : Pure Tryz.prog 111 [(.exact (.string (bs a0))), (.exact (.string (bs a1)))] (.exact (.int .i64 r)) := by
 unfold m_value_compare_F at h
 refine Pure.ofFun (fun_of_awp Tryz.func111 rfl Tryz.ntmps111 (by simp) rfl (res1 rfl) fun E hE => k_end ?_)
 refine zad (kr ?_)
 refine qa (.xi 0) rfl ?_
 refine G_nil (zaa (zad (zad (kr ?_))))
 refine qm (.xs a0) rfl ?_
 refine qm (.xs a1) rfl ?_
 refine G_q rfl (op_eqlS rfl rfl ?_)
 refine G_nil (zaa ?_)
 refine kd (p := a0 = a1) rfl h (fun hc h => ?_) (fun hc h => ?_)
 ·refine zad (kr ?_)
  refine qa (.xi 0) rfl ?_
  refine G_nil (zaa (k_ret (kC_ret ?_)))
  obtain rfl := Option.some.inj h
  refine ke (pt AF0 4 (.xi 0)) [] rfl ?_ ⟨rfl, rfl⟩
  exact so (lq rfl lt0)
 ·refine k_skip (zaa (zad (zad ?_)))
  refine k_plan [] [(0, 0), (0, 1), (0, 2), (0, 3), (0, 4), (0, 5)] hmixP (by kernel_rfl) ?_
  refine P_q no34_0 rfl (zaf (av := .xs a0) rfl ?_)
  obtain ⟨n1, h⟩ := need_some h
  refine P_q no34_0 rfl (op_index_str (by kernel_rfl) rfl rfl n1.1 n1.2 ?_)
  refine P_q no34_0 rfl (zaf (av := .xs a1) rfl ?_)
  obtain ⟨n2, h⟩ := need_some h
  refine P_q no34_0 rfl (op_index_str (by kernel_rfl) rfl rfl n2.1 n2.2 ?_)
  obtain ⟨y3, hy3, h⟩ := bnd1_some h
  refine P_q no34_0 rfl (zai (m_cmp_Compare_byte_ok _ _ _ hy3) Tryz.func125 (by kernel_rfl) (LEs.cons (AV.le_eq rfl) (LEs.cons (AV.le_eq rfl) LEs.nil)) ?_)
  refine P_q no34_0 rfl (op_assign (av := .xi y3) rfl ?_)
  refine P_nil (zaa (zad (kr ?_)))
  refine qm (.xi y3) rfl ?_
  refine G_q rfl (op_neq rfl rfl ?_)
  refine G_nil (zaa ?_)
  refine kd (p := ¬ y3 = 0) rfl h (fun hc h => ?_) (fun hc h => ?_)
  ·refine zad (kr ?_)
   refine qm (.xi y3) rfl ?_
   refine qa (.xi y3) rfl ?_
   refine G_nil (zaa (k_ret (kC_ret ?_)))
   obtain rfl := Option.some.inj h
   refine ke (pt AF0 4 (.xi y3)) [] rfl ?_ ⟨rfl, rfl⟩
   exact so (lq rfl lt0)
  ·refine k_skip (zaa (zad (zad (kr ?_))))
   refine qm (.xs a0) rfl ?_
   obtain ⟨n4, h⟩ := need_some h
   refine G_q rfl (op_index_str (by kernel_rfl) rfl rfl n4.1 n4.2 ?_)
   refine G_q rfl (op_eqlU (a := (gi a0 0)) (b := 1) rfl rfl ?_)
   refine G_nil (zaa ?_)
   refine kd (p := (gi a0 0) = 1) rfl h (fun hc h => ?_) (fun hc h => ?_)
   ·refine zad (kr ?_)
    refine qm (.xs a0) rfl ?_
    obtain ⟨y5, hy5, h⟩ := bnd1_some h
    refine G_q rfl (zai (m_value_integer_ok _ _ hy5) Tryz.func91 (by kernel_rfl) (LEs.cons (AV.le_eq rfl) LEs.nil) ?_)
    refine qm (.xs a1) rfl ?_
    obtain ⟨y6, hy6, h⟩ := bnd1_some h
    refine G_q rfl (zai (m_value_integer_ok _ _ hy6) Tryz.func91 (by kernel_rfl) (LEs.cons (AV.le_eq rfl) LEs.nil) ?_)
    obtain ⟨y7, hy7, h⟩ := bnd1_some h
    refine G_q rfl (zai (m_cmp_Compare_int64_ok _ _ _ hy7) Tryz.func126 (by kernel_rfl) (LEs.cons (AV.le_eq rfl) (LEs.cons (AV.le_eq rfl) LEs.nil)) ?_)
    refine qa (.xi y7) rfl ?_
    refine G_nil (zaa (k_ret (kC_ret ?_)))
    obtain rfl := Option.some.inj h
    refine ke (pt AF0 4 (.xi y7)) [] rfl ?_ ⟨rfl, rfl⟩
    exact so (lq rfl lt0)
   ·refine k_skip (zaa (zad (zad (kr ?_))))
    refine qm (.xs a0) rfl ?_
    obtain ⟨n8, h⟩ := need_some h
    refine G_q rfl (op_index_str (by kernel_rfl) rfl rfl n8.1 n8.2 ?_)
    refine G_q rfl (op_convInt (k := .i64) (r := (UInt8.toNat (gi a0 0) : Int)) (by kernel_rfl) rfl (wrap_u8 rfl _) ?_)
    obtain ⟨y9, hy9, h⟩ := bnd1_some h
    refine G_q rfl (zai (m_value_simple_ok _ _ hy9) Tryz.func88 (by kernel_rfl) (LEs.cons (AV.le_eq rfl) LEs.nil) ?_)
    refine G_nil (zaa ?_)
    refine kb (p := y9) rfl h (fun hc h => ?_) (fun hc h => ?_)
    ·refine zad (kr ?_)
     refine qm (.xs a0) rfl ?_
     refine qm (.xs a1) rfl ?_
     obtain ⟨y10, hy10, h⟩ := bnd1_some h
     refine G_q rfl (zai (m_cmp_Compare_api_Value_ok _ _ _ hy10) Tryz.func112 (by kernel_rfl) (LEs.cons (AV.le_eq rfl) (LEs.cons (AV.le_eq rfl) LEs.nil)) ?_)
     refine qa (.xi y10) rfl ?_
     refine G_nil (zaa (k_ret (kC_ret ?_)))
     obtain rfl := Option.some.inj h
     refine ke (pt AF0 4 (.xi y10)) [] rfl ?_ ⟨rfl, rfl⟩
     exact so (lq rfl lt0)
    ·refine k_skip (zaa (zad (kr ?_)))
     refine qm (.xs a0) rfl ?_
     obtain ⟨y11, hy11, h⟩ := bnd1_some h
     refine G_q rfl (zai (m_value_parts_ok _ _ hy11) Tryz.func89 (by kernel_rfl) (LEs.cons (AV.le_eq rfl) LEs.nil) ?_)
     refine qm (.xs a1) rfl ?_
     obtain ⟨y12, hy12, h⟩ := bnd1_some h
     refine G_q rfl (zai (m_value_parts_ok _ _ hy12) Tryz.func89 (by kernel_rfl) (LEs.cons (AV.le_eq rfl) LEs.nil) ?_)
     obtain ⟨y13, hy13, h⟩ := bnd1_some h
     refine G_q rfl (zai (m_slices_CompareFunc_L_api_Value_L_api_Value_api_Value_api_Value_ok _ _ _ _ hy13) Tryz.func127 (by kernel_rfl) (LEs.cons (AV.le_eq rfl) (LEs.cons (AV.le_eq rfl) (LEs.cons ((fn_le Tryz.func111 (by kernel_rfl) (fun i r h => hself_value_compare i.1 i.2 r h))) LEs.nil))) ?_)
     refine qa (.xi y13) rfl ?_
     refine G_nil (zaa (k_ret ?_))
     obtain rfl := Option.some.inj h
     refine ke (pt AF0 4 (.xi y13)) [] rfl ?_ ⟨rfl, rfl⟩
     exact so (lq rfl lt0)
set_option maxHeartbeats 4000000 in
theorem m_value_compare_S_ok : ∀ n : Nat, (∀ (a0 : List UInt8) (a1 : List UInt8) (r : Int), m_value_compare_S n a0 a1 = some r → Pure Tryz.prog 111 [(.exact (.string (bs a0))), (.exact (.string (bs a1)))] (.exact (.int .i64 r)))
  | 0 => (fun _ _ _ h => by have h' : (none : Option _) = some _ := h; cases h')
  | n + 1 => by
    have ih := m_value_compare_S_ok n
    exact fun a0 a1 r h => m_value_compare_F_ok (m_value_compare_S n) ih a0 a1 r h
theorem m_value_compare_ok (a0 : List UInt8) (a1 : List UInt8) (r : Int) (h : m_value_compare a0 a1 = some r) : Pure Tryz.prog 111 [(.exact (.string (bs a0))), (.exact (.string (bs a1)))] (.exact (.int .i64 r)) := (m_value_compare_S_ok FU) a0 a1 r h
set_option maxHeartbeats 4000000 in
theorem m_value_ascending_ok (a0 : List (List UInt8)) (r : Bool) (h : m_value_ascending a0 = some r) : Pure Tryz.prog 113 [(.row 1 zab a0)] (.exact (.bool r)) := by
 unfold m_value_ascending at h
 refine Pure.ofFun (fun_of_awp Tryz.func113 rfl Tryz.ntmps113 (by simp) rfl (res1 rfl) fun E hE => k_end ?_)
 refine zad (kr ?_)
 refine qa (.xb false) rfl ?_
 refine G_nil (zaa ?_)
 refine k_join0_0 h (AF0) ([]) (fun k1 h => ?_) (fun  h => ?_)
 ·refine zad (kr ?_)
  refine qa (.xi 1) rfl ?_
  refine G_nil (zaa (k_block ?_))
  refine k_loop1_0 (m_value_ascending_L2 a0 k1) (m_value_ascending_B2 a0 k1) (fun _ => rfl) (fun m _ => rfl) h (fun (x3_l2 : Int) => (pt (pt AF0 0 (.row 1 zab a0)) 3 (.xi x3_l2))) (fun (x3_l2 : Int) => []) ?_ (fun rec2 x3_l2 h => ?_)
  ·exact so (lq rfl (lq rfl lt0))
  ·unfold m_value_ascending_B2 at h
   refine zad (zad (kr ?_))
   refine qm (.xi x3_l2) rfl ?_
   refine qm (.row 1 zab a0) rfl ?_
   refine G_q rfl (op_len_row (by kernel_rfl) rfl ?_)
   refine G_q rfl (op_lss rfl rfl ?_)
   refine G_nil (zaa ?_)
   refine kd (p := x3_l2 < (List.length a0 : Int)) rfl h (fun hc h => ?_) (fun hc h => ?_)
   ·refine k_skip (zaa (zad (k_block (zad ?_))))
    refine k_plan [] [(0, 0), (0, 1), (0, 2), (0, 3), (0, 4), (0, 5), (0, 6), (0, 7), (0, 8), (0, 9), (0, 10)] hmixP (by kernel_rfl) ?_
    refine P_q no34_0 rfl (zaf (av := .row 1 zab a0) rfl ?_)
    refine P_q no34_0 rfl (zaf (av := .xi x3_l2) rfl ?_)
    refine P_q no34_0 rfl (op_sub rfl rfl rfl ?_)
    obtain ⟨n18, h⟩ := need_some h
    refine P_q no34_0 rfl (zam (by kernel_rfl) rfl rfl n18.1 n18.2 ?_)
    refine P_q no34_0 rfl (zal (a := .xs (gi a0 (i64 (x3_l2 - 1)))) (by kernel_rfl) rfl rfl ?_)
    refine P_q no34_0 rfl (zaf (av := .row 1 zab a0) rfl ?_)
    refine P_q no34_0 rfl (zaf (av := .xi x3_l2) rfl ?_)
    obtain ⟨n19, h⟩ := need_some h
    refine P_q no34_0 rfl (zam (by kernel_rfl) rfl rfl n19.1 n19.2 ?_)
    refine P_q no34_0 rfl (zal (a := .xs (gi a0 x3_l2)) (by kernel_rfl) rfl rfl ?_)
    obtain ⟨y20, hy20, h⟩ := bnd1_some h
    refine P_q no34_0 rfl (zai (m_value_compare_ok _ _ _ hy20) Tryz.func111 (by kernel_rfl) (LEs.cons (AV.le_eq rfl) (LEs.cons (AV.le_eq rfl) LEs.nil)) ?_)
    refine P_q no34_0 rfl (op_geq rfl rfl ?_)
    refine P_nil (zaa ?_)
    refine kd (p := 0 ≤ y20) rfl h (fun hc h => ?_) (fun hc h => ?_)
    ·refine zad (kr ?_)
     refine qa (.xb false) rfl ?_
     refine G_nil (zaa (k_ret (kB_ret (kC_ret (kI_ret (kB_ret (kI_ret ?_)))))))
     obtain rfl := Option.some.inj h
     refine ke (pt AF0 2 (.xb false)) [] rfl ?_ ⟨rfl, rfl⟩
     exact so (lq rfl lt0)
    ·refine k_skip (kB_normal (zaa (kr ?_)))
     refine qm (.xi x3_l2) rfl ?_
     refine G_q rfl (op_add rfl rfl rfl ?_)
     refine qa (.xi (i64 (x3_l2 + 1))) rfl ?_
     refine G_nil ?_
     refine zac ⟨_, h, ?_⟩
     exact so (lq rfl (lq rfl lt0))
   ·refine k_exit (kC_exit (kI_exit (kB_exit ?_)))
    refine zac ⟨h, ?_⟩
    exact Sub.of_le lt0
 ·refine zad (kr ?_)
  refine qa (.xb true) rfl ?_
  refine G_nil (zaa (k_ret ?_))
  obtain rfl := Option.some.inj h
  refine ke (pt AF0 2 (.xb true)) [] rfl ?_ ⟨rfl, rfl⟩
  exact so (lq rfl lt0)
set_option maxHeartbeats 4000000 in
theorem m_value_between_ok (a0 : List UInt8) (a1 : Int) (a2 : Int) (r : Bool) (h : m_value_between a0 a1 a2 = some r) : Pure Tryz.prog 114 [(.exact (.string (bs a0))), (.exact (.int .i64 a1)), (.exact (.int .i64 a2))] (.exact (.bool r)) := by
 unfold m_value_between at h
 refine Pure.ofFun (fun_of_awp Tryz.func114 rfl Tryz.ntmps114 (by simp) rfl (res1 rfl) fun E hE => k_end ?_)
 refine zad (kr ?_)
 refine qa (.xb false) rfl ?_
 refine G_nil (zaa ?_)
 refine k_join1_0 h (fun (x6_j1 : Bool) => (pt AF0 6 (.xb x6_j1))) (fun (x6_j1 : Bool) => []) (fun k1 h => ?_) (fun x6_j1 h => ?_)
 ·refine kr ?_
  refine qm (.xs a0) rfl ?_
  obtain ⟨n5, h⟩ := need_some h
  refine G_q rfl (op_index_str (by kernel_rfl) rfl rfl n5.1 n5.2 ?_)
  refine G_q rfl (op_eqlU (a := (gi a0 0)) (b := 1) rfl rfl ?_)
  refine qm (.xb (decide ((gi a0 0) = 1))) rfl ?_
  refine G_split (p := (gi a0 0) = 1) 10 rfl (fun hc => ?_) (fun hc => ?_)
  ·replace h := ite_t h hc
   refine Gy_q rfl rfl rfl (zaf (av := .xs a0) rfl ?_)
   obtain ⟨y6, hy6, h⟩ := bnd1_some h
   refine Gy_q rfl rfl rfl (zai (m_value_integer_ok _ _ hy6) Tryz.func91 (by kernel_rfl) (LEs.cons (AV.le_eq rfl) LEs.nil) ?_)
   refine Gy_q rfl rfl rfl (zaf (av := .xi a1) rfl ?_)
   refine Gy_q rfl rfl rfl (op_geq rfl rfl ?_)
   refine G_q rfl (zak rfl (av := .xb (decide (a1 ≤ y6))) rfl ?_)
   refine qm (.xb (decide (a1 ≤ y6))) rfl ?_
   refine G_split (p := a1 ≤ y6) 16 rfl (fun hc => ?_) (fun hc => ?_)
   ·replace h := ite_t h hc
    refine Gy_q rfl rfl rfl (zaf (av := .xs a0) rfl ?_)
    obtain ⟨y7, hy7, h⟩ := bnd1_some h
    refine Gy_q rfl rfl rfl (zai (m_value_integer_ok _ _ hy7) Tryz.func91 (by kernel_rfl) (LEs.cons (AV.le_eq rfl) LEs.nil) ?_)
    refine Gy_q rfl rfl rfl (zaf (av := .xi a2) rfl ?_)
    refine Gy_q rfl rfl rfl (op_leq rfl rfl ?_)
    refine G_q rfl (zak rfl (av := .xb (decide (y7 ≤ a2))) rfl ?_)
    refine qa (.xb (decide (y7 ≤ a2))) rfl ?_
    refine G_nil ?_
    refine zac ⟨_, h, ?_⟩
    exact so (lq rfl lt0)
   ·replace h := ite_f h hc
    refine G_n rfl rfl (G_n rfl rfl (G_n rfl rfl (G_n rfl rfl ?_)))
    refine G_q rfl (zah rfl (av := .xb false) rfl ?_)
    refine qa (.xb false) rfl ?_
    refine G_nil ?_
    refine zac ⟨_, h, ?_⟩
    exact so (lq rfl lt0)
  ·replace h := ite_f h hc
   refine G_n rfl rfl (G_n rfl rfl (G_n rfl rfl (G_n rfl rfl ?_)))
   refine G_q rfl (zah rfl (av := .xb false) rfl ?_)
   refine qm (.xb false) rfl ?_
   refine G_n rfl rfl (G_n rfl rfl (G_n rfl rfl (G_n rfl rfl ?_)))
   refine G_q rfl (zah rfl (av := .xb false) rfl ?_)
   refine qa (.xb false) rfl ?_
   refine G_nil ?_
   refine zac ⟨_, h, ?_⟩
   exact so (lq rfl lt0)
 ·refine k_ret ?_
  obtain rfl := Option.some.inj h
  refine ke (pt AF0 6 (.xb x6_j1)) [] rfl ?_ ⟨rfl, rfl⟩
  exact so (lq rfl lt0)
set_option maxHeartbeats 4000000 in
theorem m_value_formed_ok (a0 : Int) (a1 : List (List UInt8)) (r : Bool) (h : m_value_formed a0 a1 = some r) : Pure Tryz.prog 105 [(.exact (.int .i64 a0)), (.row 1 zab a1)] (.exact (.bool r)) := by
 unfold m_value_formed at h
 refine Pure.ofFun (fun_of_awp Tryz.func105 rfl Tryz.ntmps105 (by simp) rfl (res1 rfl) fun E hE => k_end ?_)
 refine zad (kr ?_)
 refine qa (.xb false) rfl ?_
 refine G_nil (zaa (zad (kr ?_)))
 refine qm (.row 1 zab a1) rfl ?_
 refine G_q rfl (op_len_row (by kernel_rfl) rfl ?_)
 refine qa (.xi (List.length a1 : Int)) rfl ?_
 refine G_nil (zaa ?_)
 refine k_join0_0 h (AF0) ([]) (fun k1 h => ?_) (fun  h => ?_)
 ·refine zad (kr ?_)
  refine qm (.xi a0) rfl ?_
  refine G_nil (zaa (k_block (zad (kr ?_))))
  refine G_q rfl (op_eql rfl rfl ?_)
  refine qa (.xb (decide (a0 = 3))) rfl ?_
  refine G_nil (zaa ?_)
  refine kd (p := a0 = 3) rfl h (fun hc h => ?_) (fun hc h => ?_)
  ·refine k_join1_0 h (fun (x4_j43 : Bool) => (pt AF0 4 (.xb x4_j43))) (fun (x4_j43 : Bool) => []) (fun k43 h => ?_) (fun x4_j43 h => ?_)
   ·refine kr ?_
    refine qm (.xi (List.length a1 : Int)) rfl ?_
    refine G_q rfl (op_geq rfl rfl ?_)
    refine qm (.xb (decide (2 ≤ (List.length a1 : Int)))) rfl ?_
    refine G_split (p := 2 ≤ (List.length a1 : Int)) 15 rfl (fun hc => ?_) (fun hc => ?_)
    ·replace h := ite_t h hc
     refine Gy_q rfl rfl rfl (zaf (av := .xi (List.length a1 : Int)) rfl ?_)
     refine Gy_q rfl rfl rfl (op_leq rfl rfl ?_)
     refine G_q rfl (zak rfl (av := .xb (decide ((List.length a1 : Int) ≤ 8))) rfl ?_)
     refine qa (.xb (decide ((List.length a1 : Int) ≤ 8))) rfl ?_
     refine G_nil ?_
     refine zac ⟨_, h, ?_⟩
     exact so (lq rfl lt0)
    ·replace h := ite_f h hc
     refine G_n rfl rfl (G_n rfl rfl ?_)
     refine G_q rfl (zah rfl (av := .xb false) rfl ?_)
     refine qa (.xb false) rfl ?_
     refine G_nil ?_
     refine zac ⟨_, h, ?_⟩
     exact so (lq rfl lt0)
   ·refine k_ret (kB_ret (kI_ret ?_))
    obtain rfl := Option.some.inj h
    refine ke (pt AF0 4 (.xb x4_j43)) [] rfl ?_ ⟨rfl, rfl⟩
    exact so (lq rfl lt0)
  ·refine zad (kr ?_)
   refine G_q rfl (op_eql rfl rfl ?_)
   refine qa (.xb (decide (a0 = 5))) rfl ?_
   refine G_nil (zaa ?_)
   refine kd (p := a0 = 5) rfl h (fun hc h => ?_) (fun hc h => ?_)
   ·refine zad (kr ?_)
    refine qm (.row 1 zab a1) rfl ?_
    obtain ⟨y44, hy44, h⟩ := bnd1_some h
    refine G_q rfl (zai (m_value_ascending_ok _ _ hy44) Tryz.func113 (by kernel_rfl) (LEs.cons (AV.le_eq rfl) LEs.nil) ?_)
    refine qa (.xb y44) rfl ?_
    refine G_nil (zaa (k_ret (kB_ret (kI_ret ?_))))
    obtain rfl := Option.some.inj h
    refine ke (pt AF0 4 (.xb y44)) [] rfl ?_ ⟨rfl, rfl⟩
    exact so (lq rfl lt0)
   ·refine zad (kr ?_)
    refine G_q rfl (op_eql rfl rfl ?_)
    refine qa (.xb (decide (a0 = 6))) rfl ?_
    refine G_nil (zaa ?_)
    refine kd (p := a0 = 6) rfl h (fun hc h => ?_) (fun hc h => ?_)
    ·refine zad (kr ?_)
     refine qa (.exact (.slice none 0 0)) rfl ?_
     refine G_nil (zaa ?_)
     refine k_join1_1 h (fun (x6_j45 : List (List UInt8)) (v6_j45 : Value) => (pt (pt AF0 5 (.xi (List.length a1 : Int))) 6 (.exact v6_j45))) (fun (x6_j45 : List (List UInt8)) (v6_j45 : Value) => [vecT Tryz.prog 27 1 zab v6_j45 x6_j45]) (fun k45 h => ?_) (fun x6_j45 v6_j45 h => ?_)
     ·refine zad (kr ?_)
      refine qa (.xi 0) rfl ?_
      refine G_nil (zaa (k_block ?_))
      refine k_loop2_1 (m_value_formed_L4 a1 k45) (m_value_formed_B4 a1 k45) (fun _ _ => rfl) (fun m _ _ => rfl) h (fun (x6_l4 : List (List UInt8)) (x7_l4 : Int) (v6_l4 : Value) => (pt (pt (pt (pt AF0 1 (.row 1 zab a1)) 5 (.xi (List.length a1 : Int))) 6 (.exact v6_l4)) 7 (.xi x7_l4))) (fun (x6_l4 : List (List UInt8)) (x7_l4 : Int) (v6_l4 : Value) => [vecT Tryz.prog 27 1 zab v6_l4 x6_l4]) (.slice none 0 0) ?_ (fun rec4 x6_l4 x7_l4 v6_l4 h => ?_)
      ·refine Sub.trans (SubU.to (SubU.nilT (P := Tryz.prog) (t := 27) (n := 1) (enc := zab))) ?_
       exact so (l4 rfl rfl rfl rfl lt0)
      ·unfold m_value_formed_B4 at h
       refine zad (zad (kr ?_))
       refine qm (.xi x7_l4) rfl ?_
       refine qm (.xi (List.length a1 : Int)) rfl ?_
       refine G_q rfl (op_lss rfl rfl ?_)
       refine G_nil (zaa ?_)
       refine kd (p := x7_l4 < (List.length a1 : Int)) rfl h (fun hc h => ?_) (fun hc h => ?_)
       ·refine k_skip (zaa (zad (k_block (kr ?_))))
        refine qm (.exact v6_l4) rfl ?_
        refine qm (.row 1 zab a1) rfl ?_
        refine qm (.xi x7_l4) rfl ?_
        obtain ⟨n62, h⟩ := need_some h
        refine G_q rfl (zam (by kernel_rfl) rfl rfl n62.1 n62.2 ?_)
        refine G_q rfl (zal (a := .xs (gi a1 x7_l4)) (by kernel_rfl) rfl rfl ?_)
        refine G_q rfl (op_litT (n := 1) (enc := zab) [gi a1 x7_l4] (CellsAll.cons rfl CellsOf.str CellsAll.nil) rfl (by kernel_rfl) (LEss.cons (LEs.cons (AV.le_eq rfl) LEs.nil) LEss.nil) ?_)
        obtain ⟨n63, h⟩ := need_some h
        refine G_l rfl (op_appT (by kernel_rfl) rfl rfl oc_c_api_Value n63 (fun v64 => ?_))
        refine qa (.exact v64) rfl ?_
        refine G_nil (kB_normal (zaa (kr ?_)))
        refine qm (.xi x7_l4) rfl ?_
        refine G_q rfl (op_add rfl rfl rfl ?_)
        refine qa (.xi (i64 (x7_l4 + 2))) rfl ?_
        refine G_nil ?_
        refine zac ⟨_, _, v64, h, ?_⟩
        exact so (l4 rfl rfl rfl rfl lt0)
       ·refine k_exit (kC_exit (kI_exit (kB_exit ?_)))
        refine zac ⟨_, v6_l4, h, ?_⟩
        exact so (lq rfl (lq rfl lt0))
     ·refine k_join1_0 h (fun (x4_j65 : Bool) => (pt AF0 4 (.xb x4_j65))) (fun (x4_j65 : Bool) => []) (fun k65 h => ?_) (fun x4_j65 h => ?_)
      ·refine kr ?_
       refine qm (.xi (List.length a1 : Int)) rfl ?_
       refine G_q rfl (op_rem rfl rfl (by decide) rfl ?_)
       refine G_q rfl (op_eql rfl rfl ?_)
       refine qm (.xb (decide ((Int.tmod (List.length a1 : Int) 2) = 0))) rfl ?_
       refine G_split (p := (Int.tmod (List.length a1 : Int) 2) = 0) 40 rfl (fun hc => ?_) (fun hc => ?_)
       ·replace h := ite_t h hc
        refine Gy_q rfl rfl rfl (zaf (av := .exact v6_j45) rfl ?_)
        refine G_sub rfl (SubU.freezeT2 (s1 := 6) (s2 := 41) rfl rfl len_c_api_Value) ?_
        obtain ⟨y67, hy67, h⟩ := bnd1_some h
        refine Gy_q rfl rfl rfl (zai (m_value_ascending_ok _ _ hy67) Tryz.func113 (by kernel_rfl) (LEs.cons (AV.le_eq rfl) LEs.nil) ?_)
        refine G_q rfl (zak rfl (av := .xb y67) rfl ?_)
        refine qa (.xb y67) rfl ?_
        refine G_nil ?_
        refine zac ⟨_, h, ?_⟩
        exact so (lq rfl lt0)
       ·replace h := ite_f h hc
        refine G_n rfl rfl (G_n rfl rfl ?_)
        refine G_q rfl (zah rfl (av := .xb false) rfl ?_)
        refine qa (.xb false) rfl ?_
        refine G_nil ?_
        refine zac ⟨_, h, ?_⟩
        refine Sub.trans (SubU.to SubU.drop) ?_
        exact so (lq rfl lt0)
      ·refine k_ret (kB_ret (kI_ret ?_))
       obtain rfl := Option.some.inj h
       refine ke (pt AF0 4 (.xb x4_j65)) [] rfl ?_ ⟨rfl, rfl⟩
       exact so (lq rfl lt0)
    ·refine zad (kr ?_)
     refine G_q rfl (op_eql rfl rfl ?_)
     refine qa (.xb (decide (a0 = 7))) rfl ?_
     refine G_nil (zaa ?_)
     refine kd (p := a0 = 7) rfl h (fun hc h => ?_) (fun hc h => ?_)
     ·refine k_join1_0 h (fun (x4_j68 : Bool) => (pt AF0 4 (.xb x4_j68))) (fun (x4_j68 : Bool) => []) (fun k68 h => ?_) (fun x4_j68 h => ?_)
      ·refine kr ?_
       refine qm (.xi (List.length a1 : Int)) rfl ?_
       refine G_q rfl (op_geq rfl rfl ?_)
       refine qm (.xb (decide (1 ≤ (List.length a1 : Int)))) rfl ?_
       refine G_split (p := 1 ≤ (List.length a1 : Int)) 48 rfl (fun hc => ?_) (fun hc => ?_)
       ·replace h := ite_t h hc
        refine Gy_q rfl rfl rfl (zaf (av := .xi (List.length a1 : Int)) rfl ?_)
        refine Gy_q rfl rfl rfl (op_leq rfl rfl ?_)
        refine G_q rfl (zak rfl (av := .xb (decide ((List.length a1 : Int) ≤ 9))) rfl ?_)
        refine qm (.xb (decide ((List.length a1 : Int) ≤ 9))) rfl ?_
        refine G_split (p := (List.length a1 : Int) ≤ 9) 52 rfl (fun hc => ?_) (fun hc => ?_)
        ·replace h := ite_t h hc
         refine Gy_q rfl rfl rfl (zaf (av := .row 1 zab a1) rfl ?_)
         obtain ⟨n71, h⟩ := need_some h
         refine Gy_q rfl rfl rfl (zam (by kernel_rfl) rfl rfl n71.1 n71.2 ?_)
         refine Gy_q rfl rfl rfl (zal (a := .xs (gi a1 0)) (by kernel_rfl) rfl rfl ?_)
         obtain ⟨n72, h⟩ := need_some h
         refine Gy_q rfl rfl rfl (op_index_str (by kernel_rfl) rfl rfl n72.1 n72.2 ?_)
         refine Gy_q rfl rfl rfl (op_eqlU (a := (gi (gi a1 0) 0)) (b := 10) rfl rfl ?_)
         refine G_q rfl (zak rfl (av := .xb (decide ((gi (gi a1 0) 0) = 10))) rfl ?_)
         refine qa (.xb (decide ((gi (gi a1 0) 0) = 10))) rfl ?_
         refine G_nil ?_
         refine zac ⟨_, h, ?_⟩
         exact so (lq rfl lt0)
        ·replace h := ite_f h hc
         refine G_n rfl rfl (G_n rfl rfl (G_n rfl rfl (G_n rfl rfl (G_n rfl rfl ?_))))
         refine G_q rfl (zah rfl (av := .xb false) rfl ?_)
         refine qa (.xb false) rfl ?_
         refine G_nil ?_
         refine zac ⟨_, h, ?_⟩
         exact so (lq rfl lt0)
       ·replace h := ite_f h hc
        refine G_n rfl rfl (G_n rfl rfl ?_)
        refine G_q rfl (zah rfl (av := .xb false) rfl ?_)
        refine qm (.xb false) rfl ?_
        refine G_n rfl rfl (G_n rfl rfl (G_n rfl rfl (G_n rfl rfl (G_n rfl rfl ?_))))
        refine G_q rfl (zah rfl (av := .xb false) rfl ?_)
        refine qa (.xb false) rfl ?_
        refine G_nil ?_
        refine zac ⟨_, h, ?_⟩
        exact so (lq rfl lt0)
      ·refine k_ret (kB_ret (kI_ret ?_))
       obtain rfl := Option.some.inj h
       refine ke (pt AF0 4 (.xb x4_j68)) [] rfl ?_ ⟨rfl, rfl⟩
       exact so (lq rfl lt0)
     ·refine zad (kr ?_)
      refine G_q rfl (op_eql rfl rfl ?_)
      refine qa (.xb (decide (a0 = 8))) rfl ?_
      refine G_nil (zaa ?_)
      refine kd (p := a0 = 8) rfl h (fun hc h => ?_) (fun hc h => ?_)
      ·refine k_join1_0 h (fun (x4_j73 : Bool) => (pt AF0 4 (.xb x4_j73))) (fun (x4_j73 : Bool) => []) (fun k73 h => ?_) (fun x4_j73 h => ?_)
       ·refine kr ?_
        refine qm (.xi (List.length a1 : Int)) rfl ?_
        refine G_q rfl (op_geq rfl rfl ?_)
        refine qm (.xb (decide (1 ≤ (List.length a1 : Int)))) rfl ?_
        refine G_split (p := 1 ≤ (List.length a1 : Int)) 63 rfl (fun hc => ?_) (fun hc => ?_)
        ·replace h := ite_t h hc
         refine Gy_q rfl rfl rfl (zaf (av := .xi (List.length a1 : Int)) rfl ?_)
         refine Gy_q rfl rfl rfl (op_leq rfl rfl ?_)
         refine G_q rfl (zak rfl (av := .xb (decide ((List.length a1 : Int) ≤ 33))) rfl ?_)
         refine qm (.xb (decide ((List.length a1 : Int) ≤ 33))) rfl ?_
         refine G_split (p := (List.length a1 : Int) ≤ 33) 67 rfl (fun hc => ?_) (fun hc => ?_)
         ·replace h := ite_t h hc
          refine Gy_q rfl rfl rfl (zaf (av := .row 1 zab a1) rfl ?_)
          obtain ⟨n76, h⟩ := need_some h
          refine Gy_q rfl rfl rfl (zam (by kernel_rfl) rfl rfl n76.1 n76.2 ?_)
          refine Gy_q rfl rfl rfl (zal (a := .xs (gi a1 0)) (by kernel_rfl) rfl rfl ?_)
          obtain ⟨y77, hy77, h⟩ := bnd1_some h
          refine Gy_q rfl rfl rfl (zai (m_value_between_ok _ _ _ _ hy77) Tryz.func114 (by kernel_rfl) (LEs.cons (AV.le_eq rfl) (LEs.cons (AV.le_eq rfl) (LEs.cons (AV.le_eq rfl) LEs.nil))) ?_)
          refine G_q rfl (zak rfl (av := .xb y77) rfl ?_)
          refine qa (.xb y77) rfl ?_
          refine G_nil ?_
          refine zac ⟨_, h, ?_⟩
          exact so (lq rfl lt0)
         ·replace h := ite_f h hc
          refine G_n rfl rfl (G_n rfl rfl (G_n rfl rfl (G_n rfl rfl ?_)))
          refine G_q rfl (zah rfl (av := .xb false) rfl ?_)
          refine qa (.xb false) rfl ?_
          refine G_nil ?_
          refine zac ⟨_, h, ?_⟩
          exact so (lq rfl lt0)
        ·replace h := ite_f h hc
         refine G_n rfl rfl (G_n rfl rfl ?_)
         refine G_q rfl (zah rfl (av := .xb false) rfl ?_)
         refine qm (.xb false) rfl ?_
         refine G_n rfl rfl (G_n rfl rfl (G_n rfl rfl (G_n rfl rfl ?_)))
         refine G_q rfl (zah rfl (av := .xb false) rfl ?_)
         refine qa (.xb false) rfl ?_
         refine G_nil ?_
         refine zac ⟨_, h, ?_⟩
         exact so (lq rfl lt0)
       ·refine k_ret (kB_ret (kI_ret ?_))
        obtain rfl := Option.some.inj h
        refine ke (pt AF0 4 (.xb x4_j73)) [] rfl ?_ ⟨rfl, rfl⟩
        exact so (lq rfl lt0)
      ·refine zad (kr ?_)
       refine G_q rfl (op_eql rfl rfl ?_)
       refine qa (.xb (decide (a0 = 9))) rfl ?_
       refine G_nil (zaa ?_)
       refine kd (p := a0 = 9) rfl h (fun hc h => ?_) (fun hc h => ?_)
       ·refine k_join1_0 h (fun (x4_j78 : Bool) => (pt AF0 4 (.xb x4_j78))) (fun (x4_j78 : Bool) => []) (fun k78 h => ?_) (fun x4_j78 h => ?_)
        ·refine kr ?_
         refine qm (.xi (List.length a1 : Int)) rfl ?_
         refine G_q rfl (op_geq rfl rfl ?_)
         refine qm (.xb (decide (1 ≤ (List.length a1 : Int)))) rfl ?_
         refine G_split (p := 1 ≤ (List.length a1 : Int)) 77 rfl (fun hc => ?_) (fun hc => ?_)
         ·replace h := ite_t h hc
          refine Gy_q rfl rfl rfl (zaf (av := .row 1 zab a1) rfl ?_)
          obtain ⟨n81, h⟩ := need_some h
          refine Gy_q rfl rfl rfl (zam (by kernel_rfl) rfl rfl n81.1 n81.2 ?_)
          refine Gy_q rfl rfl rfl (zal (a := .xs (gi a1 0)) (by kernel_rfl) rfl rfl ?_)
          obtain ⟨y82, hy82, h⟩ := bnd1_some h
          refine Gy_q rfl rfl rfl (zai (m_value_between_ok _ _ _ _ hy82) Tryz.func114 (by kernel_rfl) (LEs.cons (AV.le_eq rfl) (LEs.cons (AV.le_eq rfl) (LEs.cons (AV.le_eq rfl) LEs.nil))) ?_)
          refine G_q rfl (zak rfl (av := .xb y82) rfl ?_)
          refine qa (.xb y82) rfl ?_
          refine G_nil ?_
          refine zac ⟨_, h, ?_⟩
          exact so (lq rfl lt0)
         ·replace h := ite_f h hc
          refine G_n rfl rfl (G_n rfl rfl (G_n rfl rfl (G_n rfl rfl ?_)))
          refine G_q rfl (zah rfl (av := .xb false) rfl ?_)
          refine qa (.xb false) rfl ?_
          refine G_nil ?_
          refine zac ⟨_, h, ?_⟩
          exact so (lq rfl lt0)
        ·refine k_ret (kB_ret (kI_ret ?_))
         obtain rfl := Option.some.inj h
         refine ke (pt AF0 4 (.xb x4_j78)) [] rfl ?_ ⟨rfl, rfl⟩
         exact so (lq rfl lt0)
       ·refine k_skip (kB_normal ?_)
        refine zac ⟨h, ?_⟩
        exact Sub.of_le lt0
 ·refine zad (kr ?_)
  refine qa (.xb true) rfl ?_
  refine G_nil (zaa (k_ret ?_))
  obtain rfl := Option.some.inj h
  refine ke (pt AF0 4 (.xb true)) [] rfl ?_ ⟨rfl, rfl⟩
  exact so (lq rfl lt0)
set_option maxHeartbeats 4000000 in
theorem m_value_long_ok (self_value_length : (List UInt8) → Int → Option Int) (hself_value_length : ∀ (a0 : List UInt8) (a1 : Int) (r : Int), self_value_length a0 a1 = some r → Pure Tryz.prog 66 [(.exact (.string (bs a0))), (.exact (.int .i64 a1))] (.exact (.int .i64 r))) (a0 : List UInt8) (a1 : Int) (r : Int) (h : m_value_long self_value_length a0 a1 = some r) : Pure Tryz.prog 90 [(.exact (.string (bs a0))), (.exact (.int .i64 a1))] (.exact (.int .i64 r)) := by
 unfold m_value_long at h
 refine Pure.ofFun (fun_of_awp Tryz.func90 rfl Tryz.ntmps90 (by simp) rfl (res1 rfl) fun E hE => k_end ?_)
 refine zad (kr ?_)
 refine qa (.xi 0) rfl ?_
 refine G_nil (zaa (zad (zad (kr ?_))))
 refine qm (.xs a0) rfl ?_
 refine G_q rfl (op_lenS (by kernel_rfl) rfl ?_)
 refine G_q rfl (op_lss rfl rfl ?_)
 refine G_nil (zaa ?_)
 refine kd (p := (List.length a0 : Int) < 3) rfl h (fun hc h => ?_) (fun hc h => ?_)
 ·refine zad (kr ?_)
  refine qa (.xi 0) rfl ?_
  refine G_nil (zaa (k_ret (kC_ret ?_)))
  obtain rfl := Option.some.inj h
  refine ke (pt AF0 4 (.xi 0)) [] rfl ?_ ⟨rfl, rfl⟩
  exact so (lq rfl lt0)
 ·refine k_skip (zaa (zad (kr ?_)))
  refine qa (.xi 3) rfl ?_
  refine G_nil (zaa (zad (kr ?_)))
  refine qa (.exact (.slice none 0 0)) rfl ?_
  refine G_nil (zaa ?_)
  refine k_join2_1 h (fun (x5_j1 : Int) (x6_j1 : List (List UInt8)) (v6_j1 : Value) => (pt (pt (pt AF0 0 (.xs a0)) 5 (.xi x5_j1)) 6 (.exact v6_j1))) (fun (x5_j1 : Int) (x6_j1 : List (List UInt8)) (v6_j1 : Value) => [vecT Tryz.prog 27 1 zab v6_j1 x6_j1]) (fun k1 h => ?_) (fun x5_j1 x6_j1 v6_j1 h => ?_)
  ·refine zad ?_
   refine k_plan [] [(0, 0), (0, 1), (0, 2), (0, 3), (0, 4), (0, 5), (0, 6), (0, 7), (0, 8)] hmixP (by kernel_rfl) ?_
   refine P_q no34_0 rfl (zaf (av := .xs a0) rfl ?_)
   obtain ⟨n20, h⟩ := need_some h
   refine P_q no34_0 rfl (op_index_str (by kernel_rfl) rfl rfl n20.1 n20.2 ?_)
   refine P_q no34_0 rfl (op_convInt (k := .i64) (r := (UInt8.toNat (gi a0 1) : Int)) (by kernel_rfl) rfl (wrap_u8 rfl _) ?_)
   refine P_q no34_0 rfl (op_shl rfl rfl (by decide) rfl ?_)
   refine P_q no34_0 rfl (zaf (av := .xs a0) rfl ?_)
   obtain ⟨n21, h⟩ := need_some h
   refine P_q no34_0 rfl (op_index_str (by kernel_rfl) rfl rfl n21.1 n21.2 ?_)
   refine P_q no34_0 rfl (op_convInt (k := .i64) (r := (UInt8.toNat (gi a0 2) : Int)) (by kernel_rfl) rfl (wrap_u8 rfl _) ?_)
   refine P_q no34_0 rfl (op_or rfl rfl rfl ?_)
   refine P_q no34_0 rfl (zaf (av := .xi 0) rfl ?_)
   refine P_nil (zaa (k_block ?_))
   refine k_loop3_1 (m_value_long_L2 self_value_length a0 a1 k1) (m_value_long_B2 self_value_length a0 a1 k1) (fun _ _ _ => rfl) (fun m _ _ _ => rfl) h (fun (x5_l2 : Int) (x6_l2 : List (List UInt8)) (x19_l2 : Int) (v6_l2 : Value) => (pt (pt (pt (pt (pt (pt AF0 0 (.xs a0)) 1 (.xi a1)) 5 (.xi x5_l2)) 6 (.exact v6_l2)) 18 (.xi (bOr .i64 (i64 ((UInt8.toNat (gi a0 1) : Int) * 2 ^ min (Int.toNat 8) IntKind.i64.bits)) (UInt8.toNat (gi a0 2) : Int)))) 19 (.xi x19_l2))) (fun (x5_l2 : Int) (x6_l2 : List (List UInt8)) (x19_l2 : Int) (v6_l2 : Value) => [vecT Tryz.prog 27 1 zab v6_l2 x6_l2]) (.slice none 0 0) ?_ (fun rec2 x5_l2 x6_l2 x19_l2 v6_l2 h => ?_)
   ·refine Sub.trans (SubU.to (SubU.nilT (P := Tryz.prog) (t := 27) (n := 1) (enc := zab))) ?_
    exact so (l4 rfl rfl rfl rfl (lq rfl (lq rfl lt0)))
   ·unfold m_value_long_B2 at h
    refine zad (kr ?_)
    refine G_q rfl (op_lss rfl rfl ?_)
    refine G_nil (zaa (zad ?_))
    refine kd (p := x19_l2 < (bOr .i64 (i64 ((UInt8.toNat (gi a0 1) : Int) * 2 ^ min (Int.toNat 8) IntKind.i64.bits)) (UInt8.toNat (gi a0 2) : Int))) rfl h (fun hc h => ?_) (fun hc h => ?_)
    ·refine k_skip (zaa (zad (k_block (zad (kr ?_)))))
     refine qm (.xs a0) rfl ?_
     refine qm (.xi x5_l2) rfl ?_
     obtain ⟨n32, h⟩ := need_some h
     refine G_q rfl (op_slice_strd (by kernel_rfl) rfl (bnd_some rfl) bnd_none n32.1 n32.2 (Int.le_refl _) ?_)
     refine qm (.xi a1) rfl ?_
     refine G_q rfl (op_add rfl rfl rfl ?_)
     obtain ⟨y33, hy33, h⟩ := bnd1_some h
     refine G_q rfl (zai (hself_value_length _ _ _ hy33) Tryz.func66 (by kernel_rfl) (LEs.cons (AV.le_eq rfl) (LEs.cons (AV.le_eq rfl) LEs.nil)) ?_)
     refine qa (.xi y33) rfl ?_
     refine G_nil (zaa (zad (zad (kr ?_))))
     refine qm (.xi y33) rfl ?_
     refine G_q rfl (op_eql rfl rfl ?_)
     refine G_nil (zaa ?_)
     refine kd (p := y33 = 0) rfl h (fun hc h => ?_) (fun hc h => ?_)
     ·refine zad (kr ?_)
      refine qa (.xi 0) rfl ?_
      refine G_nil (zaa (k_ret (kC_ret (kB_ret (kC_ret (kI_ret (kB_ret (kI_ret ?_))))))))
      obtain rfl := Option.some.inj h
      refine ke (pt AF0 4 (.xi 0)) [] rfl ?_ ⟨rfl, rfl⟩
      refine Sub.trans (SubU.to SubU.drop) ?_
      exact so (lq rfl lt0)
     ·refine k_skip (zaa (zad (kr ?_)))
      refine qm (.exact v6_l2) rfl ?_
      refine qm (.xs a0) rfl ?_
      refine qm (.xi x5_l2) rfl ?_
      refine qm (.xi x5_l2) rfl ?_
      refine qm (.xi y33) rfl ?_
      refine G_q rfl (op_add rfl rfl rfl ?_)
      obtain ⟨n34, h⟩ := need_some h
      refine G_q rfl (op_slice_str (by kernel_rfl) rfl (bnd_some rfl) (bnd_some rfl) n34.1 n34.2.1 n34.2.2 ?_)
      refine G_q rfl (op_litT (n := 1) (enc := zab) [List.take (Int.toNat (i64 (x5_l2 + y33)) - Int.toNat x5_l2) (List.drop (Int.toNat x5_l2) a0)] (CellsAll.cons rfl CellsOf.str CellsAll.nil) rfl (by kernel_rfl) (LEss.cons (LEs.cons (AV.le_eq rfl) LEs.nil) LEss.nil) ?_)
      obtain ⟨n35, h⟩ := need_some h
      refine G_l rfl (op_appT (by kernel_rfl) rfl rfl oc_c_api_Value n35 (fun v36 => ?_))
      refine qa (.exact v36) rfl ?_
      refine G_nil (zaa (kr ?_))
      refine qm (.xi x5_l2) rfl ?_
      refine qm (.xi y33) rfl ?_
      refine G_q rfl (op_add rfl rfl rfl ?_)
      refine qa (.xi (i64 (x5_l2 + y33))) rfl ?_
      refine G_nil (kB_normal (zaa (kr ?_)))
      refine G_q rfl (op_add rfl rfl rfl ?_)
      refine qm (.xi (i64 (x19_l2 + 1))) rfl ?_
      refine G_nil ?_
      refine zac ⟨_, _, _, v36, h, ?_⟩
      exact so (l4 rfl rfl rfl rfl (lq rfl (lq rfl lt0)))
    ·refine k_exit (kC_exit (kI_exit (kB_exit ?_)))
     refine zac ⟨_, _, v6_l2, h, ?_⟩
     exact so (lq rfl (lq rfl (lq rfl lt0)))
  ·refine zad (zad (kr ?_))
   refine qm (.xs a0) rfl ?_
   obtain ⟨n37, h⟩ := need_some h
   refine G_q rfl (op_index_str (by kernel_rfl) rfl rfl n37.1 n37.2 ?_)
   refine G_q rfl (op_convInt (k := .i64) (r := (UInt8.toNat (gi a0 0) : Int)) (by kernel_rfl) rfl (wrap_u8 rfl _) ?_)
   refine qm (.exact v6_j1) rfl ?_
   refine G_sub rfl (SubU.freezeT2 (s1 := 6) (s2 := 45) rfl rfl len_c_api_Value) ?_
   obtain ⟨y38, hy38, h⟩ := bnd1_some h
   refine G_q rfl (zai (m_value_formed_ok _ _ _ hy38) Tryz.func105 (by kernel_rfl) (LEs.cons (AV.le_eq rfl) (LEs.cons (AV.le_eq rfl) LEs.nil)) ?_)
   refine G_q rfl (op_not rfl ?_)
   refine G_nil (zaa ?_)
   refine kb (p := !y38) rfl h (fun hc h => ?_) (fun hc h => ?_)
   ·refine zad (kr ?_)
    refine qa (.xi 0) rfl ?_
    refine G_nil (zaa (k_ret (kC_ret ?_)))
    obtain rfl := Option.some.inj h
    refine ke (pt AF0 4 (.xi 0)) [] rfl ?_ ⟨rfl, rfl⟩
    exact so (lq rfl lt0)
   ·refine k_skip (zaa (zad (kr ?_)))
    refine qm (.xi x5_j1) rfl ?_
    refine qa (.xi x5_j1) rfl ?_
    refine G_nil (zaa (k_ret ?_))
    obtain rfl := Option.some.inj h
    refine ke (pt AF0 4 (.xi x5_j1)) [] rfl ?_ ⟨rfl, rfl⟩
    exact so (lq rfl lt0)
end Go.Proofs.YtpfdeahcjlfijaaGreat
/- The functions compute their models, by program. -/
namespace Go.Proofs.YtpfdeahcjlfijaaGreat
open Go.RowKit
attribute [local irreducible] AV.exact AV.top AV.row AV.ptr AV.agg AV.tup AV.eptr AV.fn AV.nilq AV.nilqn opA opB opM opR Quiet Loud Reads wpG awp den Sub SubU Pure Fun vecI vecT boxI CellsAll CellsOf OneC LEs LEss
set_option maxRecDepth 100000

set_option maxHeartbeats 4000000 in
theorem m_value_length_F_ok (self_value_length : (List UInt8) → Int → Option Int) (hself_value_length : ∀ (a0 : List UInt8) (a1 : Int) (r : Int), self_value_length a0 a1 = some r → Pure Tryz.prog 66 [(.exact (.string (bs a0))), (.exact (.int .i64 a1))] (.exact (.int .i64 r))) (a0 : List UInt8) (a1 : Int) (r : Int) (h : m_value_length_F self_value_length a0 a1 = some r) : Pure Tryz.prog 66 [(.exact (.string (bs a0))), (.exact (.int .i64 a1))] (.exact (.int .i64 r)) := by
 unfold m_value_length_F at h
 refine Pure.ofFun (fun_of_awp Tryz.func66 rfl Tryz.ntmps66 (by simp) rfl (res1 rfl) fun E hE => k_end ?_)
 refine zad (kr ?_)
 refine qa (.xi 0) rfl ?_
 refine G_nil (zaa (zad ?_))
 refine k_join1_0 h (fun (x11_j3 : Bool) => (pt (pt (pt AF0 0 (.xs a0)) 1 (.xi a1)) 11 (.xb x11_j3))) (fun (x11_j3 : Bool) => []) (fun k3 h => ?_) (fun x11_j3 h => ?_)
 ·refine kr ?_
  refine qm (.xs a0) rfl ?_
  refine G_q rfl (op_eqlS rfl rfl ?_)
  refine qm (.xb (decide (a0 = ([] : List UInt8)))) rfl ?_
  refine G_split (p := a0 = ([] : List UInt8)) 8 rfl (fun hc => ?_) (fun hc => ?_)
  ·replace h := ite_t h hc
   refine G_n rfl rfl (G_n rfl rfl ?_)
   refine G_q rfl (zak rfl (av := .xb true) rfl ?_)
   refine G_nil ?_
   refine zac ⟨_, h, ?_⟩
   exact so (lq rfl (lq rfl (lq rfl lt0)))
  ·replace h := ite_f h hc
   refine Gy_q rfl rfl rfl (zaf (av := .xi a1) rfl ?_)
   refine Gy_q rfl rfl rfl (op_gtr rfl rfl ?_)
   refine G_q rfl (zah rfl (av := .xb (decide (32 < a1))) rfl ?_)
   refine G_nil ?_
   refine zac ⟨_, h, ?_⟩
   exact so (lq rfl (lq rfl (lq rfl lt0)))
 ·refine kb (p := x11_j3) rfl h (fun hc h => ?_) (fun hc h => ?_)
  ·refine zad (kr ?_)
   refine qa (.xi 0) rfl ?_
   refine G_nil (zaa (k_ret (kC_ret ?_)))
   obtain rfl := Option.some.inj h
   refine ke (pt AF0 4 (.xi 0)) [] rfl ?_ ⟨rfl, rfl⟩
   exact so (lq rfl lt0)
  ·refine k_skip (zaa (zad (kr ?_)))
   refine qa (.xi 0) rfl ?_
   refine G_nil (zaa ?_)
   refine k_join1_0 h (fun (x5_j4 : Int) => (pt (pt AF0 0 (.xs a0)) 5 (.xi x5_j4))) (fun (x5_j4 : Int) => []) (fun k4 h => ?_) (fun x5_j4 h => ?_)
   ·refine zad (kr ?_)
    refine qm (.xs a0) rfl ?_
    obtain ⟨n15, h⟩ := need_some h
    refine G_q rfl (op_index_str (by kernel_rfl) rfl rfl n15.1 n15.2 ?_)
    refine G_nil (zaa (k_block (zad (kr ?_))))
    refine G_q rfl (op_eqlU (a := (gi a0 0)) (b := 1) rfl rfl ?_)
    refine qa (.xb (decide ((gi a0 0) = 1))) rfl ?_
    refine G_nil (zaa ?_)
    refine kd (p := (gi a0 0) = 1) rfl h (fun hc h => ?_) (fun hc h => ?_)
    ·refine kr ?_
     refine qa (.xi 9) rfl ?_
     refine G_nil (kB_normal ?_)
     refine zac ⟨_, h, ?_⟩
     exact so (lq rfl (lq rfl lt0))
    ·refine zad (kr ?_)
     refine G_q rfl (op_eqlU (a := (gi a0 0)) (b := 2) rfl rfl ?_)
     refine qa (.xb (decide ((gi a0 0) = 2))) rfl ?_
     refine G_nil (zaa ?_)
     refine kd (p := (gi a0 0) = 2) rfl h (fun hc h => ?_) (fun hc h => ?_)
     ·refine zad ?_
      refine k_join1_0 h (fun (x25_j20 : Bool) => (pt (pt AF0 0 (.xs a0)) 25 (.xb x25_j20))) (fun (x25_j20 : Bool) => []) (fun k20 h => ?_) (fun x25_j20 h => ?_)
      ·refine kr ?_
       refine qm (.xs a0) rfl ?_
       refine G_q rfl (op_lenS (by kernel_rfl) rfl ?_)
       refine G_q rfl (op_lss rfl rfl ?_)
       refine qm (.xb (decide ((List.length a0 : Int) < 2))) rfl ?_
       refine G_split (p := (List.length a0 : Int) < 2) 21 rfl (fun hc => ?_) (fun hc => ?_)
       ·replace h := ite_t h hc
        refine G_n rfl rfl (G_n rfl rfl (G_n rfl rfl ?_))
        refine G_q rfl (zak rfl (av := .xb true) rfl ?_)
        refine G_nil ?_
        refine zac ⟨_, h, ?_⟩
        exact so (lq rfl (lq rfl lt0))
       ·replace h := ite_f h hc
        refine Gy_q rfl rfl rfl (zaf (av := .xs a0) rfl ?_)
        obtain ⟨n22, h⟩ := need_some h
        refine Gy_q rfl rfl rfl (op_index_str (by kernel_rfl) rfl rfl n22.1 n22.2 ?_)
        refine Gy_q rfl rfl rfl (op_gtrU (a := (gi a0 1)) (b := 1) rfl rfl ?_)
        refine G_q rfl (zah rfl (av := .xb (decide (1 < (gi a0 1)))) rfl ?_)
        refine G_nil ?_
        refine zac ⟨_, h, ?_⟩
        exact so (lq rfl (lq rfl lt0))
      ·refine kb (p := x25_j20) rfl h (fun hc h => ?_) (fun hc h => ?_)
       ·refine zad (kr ?_)
        refine qa (.xi 0) rfl ?_
        refine G_nil (zaa (k_ret (kC_ret (kB_ret (kI_ret ?_)))))
        obtain rfl := Option.some.inj h
        refine ke (pt AF0 4 (.xi 0)) [] rfl ?_ ⟨rfl, rfl⟩
        exact so (lq rfl lt0)
       ·refine k_skip (zaa (kr ?_))
        refine qa (.xi 2) rfl ?_
        refine G_nil (kB_normal ?_)
        refine zac ⟨_, h, ?_⟩
        exact so (lq rfl (lq rfl lt0))
     ·refine zad (kr ?_)
      refine G_q rfl (op_eqlU (a := (gi a0 0)) (b := 10) rfl rfl ?_)
      refine qa (.xb (decide ((gi a0 0) = 10))) rfl ?_
      refine G_nil (zaa ?_)
      refine kd (p := (gi a0 0) = 10) rfl h (fun hc h => ?_) (fun hc h => ?_)
      ·refine kr ?_
       refine qa (.xi 3) rfl ?_
       refine G_nil (kB_normal ?_)
       refine zac ⟨_, h, ?_⟩
       exact so (lq rfl (lq rfl lt0))
      ·refine k_join1_0 h (fun (x28_j23 : Bool) => (pt (pt (pt (pt AF0 0 (.xs a0)) 1 (.xi a1)) 5 (.xi 0)) 28 (.xb x28_j23))) (fun (x28_j23 : Bool) => []) (fun k23 h => ?_) (fun x28_j23 h => ?_)
       ·refine zad (kr ?_)
        refine G_q rfl (op_eqlU (a := (gi a0 0)) (b := 3) rfl rfl ?_)
        refine qa (.xb (decide ((gi a0 0) = 3))) rfl ?_
        refine G_nil (zaa ?_)
        refine kd (p := (gi a0 0) = 3) rfl h (fun hc h => ?_) (fun hc h => ?_)
        ·refine k_skip ?_
         refine zac ⟨_, h, ?_⟩
         exact so (l4 rfl rfl rfl rfl lt0)
        ·refine zad (kr ?_)
         refine G_q rfl (op_eqlU (a := (gi a0 0)) (b := 4) rfl rfl ?_)
         refine qa (.xb (decide ((gi a0 0) = 4))) rfl ?_
         refine G_nil (zaa ?_)
         refine kd (p := (gi a0 0) = 4) rfl h (fun hc h => ?_) (fun hc h => ?_)
         ·refine k_skip ?_
          refine zac ⟨_, h, ?_⟩
          exact so (l4 rfl rfl rfl rfl lt0)
         ·refine zad (kr ?_)
          refine G_q rfl (op_eqlU (a := (gi a0 0)) (b := 5) rfl rfl ?_)
          refine qa (.xb (decide ((gi a0 0) = 5))) rfl ?_
          refine G_nil (zaa ?_)
          refine kd (p := (gi a0 0) = 5) rfl h (fun hc h => ?_) (fun hc h => ?_)
          ·refine k_skip ?_
           refine zac ⟨_, h, ?_⟩
           exact so (l4 rfl rfl rfl rfl lt0)
          ·refine zad (kr ?_)
           refine G_q rfl (op_eqlU (a := (gi a0 0)) (b := 6) rfl rfl ?_)
           refine qa (.xb (decide ((gi a0 0) = 6))) rfl ?_
           refine G_nil (zaa ?_)
           refine kd (p := (gi a0 0) = 6) rfl h (fun hc h => ?_) (fun hc h => ?_)
           ·refine k_skip ?_
            refine zac ⟨_, h, ?_⟩
            exact so (l4 rfl rfl rfl rfl lt0)
           ·refine zad (kr ?_)
            refine G_q rfl (op_eqlU (a := (gi a0 0)) (b := 7) rfl rfl ?_)
            refine qa (.xb (decide ((gi a0 0) = 7))) rfl ?_
            refine G_nil (zaa ?_)
            refine kd (p := (gi a0 0) = 7) rfl h (fun hc h => ?_) (fun hc h => ?_)
            ·refine k_skip ?_
             refine zac ⟨_, h, ?_⟩
             exact so (l4 rfl rfl rfl rfl lt0)
            ·refine zad (kr ?_)
             refine G_q rfl (op_eqlU (a := (gi a0 0)) (b := 8) rfl rfl ?_)
             refine qa (.xb (decide ((gi a0 0) = 8))) rfl ?_
             refine G_nil (zaa ?_)
             refine kd (p := (gi a0 0) = 8) rfl h (fun hc h => ?_) (fun hc h => ?_)
             ·refine k_skip ?_
              refine zac ⟨_, h, ?_⟩
              exact so (l4 rfl rfl rfl rfl lt0)
             ·refine kr ?_
              refine G_q rfl (op_eqlU (a := (gi a0 0)) (b := 9) rfl rfl ?_)
              refine qa (.xb (decide ((gi a0 0) = 9))) rfl ?_
              refine G_nil ?_
              refine zac ⟨_, h, ?_⟩
              exact so (l4 rfl rfl rfl rfl lt0)
       ·refine kb (p := x28_j23) rfl h (fun hc h => ?_) (fun hc h => ?_)
        ·refine zad (kr ?_)
         refine qm (.xs a0) rfl ?_
         refine qm (.xi a1) rfl ?_
         obtain ⟨y24, hy24, h⟩ := bnd1_some h
         refine G_q rfl (zai (m_value_long_ok self_value_length hself_value_length _ _ _ hy24) Tryz.func90 (by kernel_rfl) (LEs.cons (AV.le_eq rfl) (LEs.cons (AV.le_eq rfl) LEs.nil)) ?_)
         refine qa (.xi y24) rfl ?_
         refine G_nil (zaa (k_ret (kB_ret (kI_ret ?_))))
         obtain rfl := Option.some.inj h
         refine ke (pt AF0 4 (.xi y24)) [] rfl ?_ ⟨rfl, rfl⟩
         exact so (lq rfl lt0)
        ·refine k_skip (kB_normal ?_)
         refine zac ⟨_, h, ?_⟩
         exact so (lq rfl (lq rfl lt0))
   ·refine zad (zad (kr ?_))
    refine qm (.xi x5_j4) rfl ?_
    refine qm (.xs a0) rfl ?_
    refine G_q rfl (op_lenS (by kernel_rfl) rfl ?_)
    refine G_q rfl (op_gtr rfl rfl ?_)
    refine G_nil (zaa ?_)
    refine kd (p := (List.length a0 : Int) < x5_j4) rfl h (fun hc h => ?_) (fun hc h => ?_)
    ·refine zad (kr ?_)
     refine qa (.xi 0) rfl ?_
     refine G_nil (zaa (k_ret (kC_ret ?_)))
     obtain rfl := Option.some.inj h
     refine ke (pt AF0 4 (.xi 0)) [] rfl ?_ ⟨rfl, rfl⟩
     exact so (lq rfl lt0)
    ·refine k_skip (zaa (zad (kr ?_)))
     refine qm (.xi x5_j4) rfl ?_
     refine qa (.xi x5_j4) rfl ?_
     refine G_nil (zaa (k_ret ?_))
     obtain rfl := Option.some.inj h
     refine ke (pt AF0 4 (.xi x5_j4)) [] rfl ?_ ⟨rfl, rfl⟩
     exact so (lq rfl lt0)
set_option maxHeartbeats 4000000 in
theorem m_value_length_S_ok : ∀ n : Nat, (∀ (a0 : List UInt8) (a1 : Int) (r : Int), m_value_length_S n a0 a1 = some r → Pure Tryz.prog 66 [(.exact (.string (bs a0))), (.exact (.int .i64 a1))] (.exact (.int .i64 r)))
  | 0 => (fun _ _ _ h => by have h' : (none : Option _) = some _ := h; cases h')
  | n + 1 => by
    have ih := m_value_length_S_ok n
    exact fun a0 a1 r h => m_value_length_F_ok (m_value_length_S n) ih a0 a1 r h
theorem m_value_length_ok (a0 : List UInt8) (a1 : Int) (r : Int) (h : m_value_length a0 a1 = some r) : Pure Tryz.prog 66 [(.exact (.string (bs a0))), (.exact (.int .i64 a1))] (.exact (.int .i64 r)) := (m_value_length_S_ok FU) a0 a1 r h
set_option maxHeartbeats 4000000 in
theorem m_value_Valid_ok (a0 : List UInt8) (r : Bool) (h : m_value_Valid a0 = some r) : Pure Tryz.prog 38 [(.exact (.string (bs a0)))] (.exact (.bool r)) := by
 unfold m_value_Valid at h
 refine Pure.ofFun (fun_of_awp Tryz.func38 rfl Tryz.ntmps38 (by simp) rfl (res1 rfl) fun E hE => k_end ?_)
 refine zad (kr ?_)
 refine qa (.xb false) rfl ?_
 refine G_nil (zaa ?_)
 refine k_join1_0 h (fun (x2_j1 : Bool) => (pt AF0 2 (.xb x2_j1))) (fun (x2_j1 : Bool) => []) (fun k1 h => ?_) (fun x2_j1 h => ?_)
 ·refine kr ?_
  refine qm (.xs a0) rfl ?_
  refine G_q rfl (op_neqS rfl rfl ?_)
  refine qm (.xb (decide (¬ a0 = ([] : List UInt8)))) rfl ?_
  refine G_split (p := ¬ a0 = ([] : List UInt8)) 5 rfl (fun hc => ?_) (fun hc => ?_)
  ·replace h := ite_t h hc
   refine Gy_q rfl rfl rfl (zaf (av := .xs a0) rfl ?_)
   refine Gy_q rfl rfl rfl (op_lenS (by kernel_rfl) rfl ?_)
   refine Gy_q rfl rfl rfl (op_leq rfl rfl ?_)
   refine G_q rfl (zak rfl (av := .xb (decide ((List.length a0 : Int) ≤ 131072))) rfl ?_)
   refine qm (.xb (decide ((List.length a0 : Int) ≤ 131072))) rfl ?_
   refine G_split (p := (List.length a0 : Int) ≤ 131072) 10 rfl (fun hc => ?_) (fun hc => ?_)
   ·replace h := ite_t h hc
    refine Gy_q rfl rfl rfl (zaf (av := .xs a0) rfl ?_)
    obtain ⟨y3, hy3, h⟩ := bnd1_some h
    refine Gy_q rfl rfl rfl (zai (m_value_length_ok _ _ _ hy3) Tryz.func66 (by kernel_rfl) (LEs.cons (AV.le_eq rfl) (LEs.cons (AV.le_eq rfl) LEs.nil)) ?_)
    refine Gy_q rfl rfl rfl (zaf (av := .xs a0) rfl ?_)
    refine Gy_q rfl rfl rfl (op_lenS (by kernel_rfl) rfl ?_)
    refine Gy_q rfl rfl rfl (op_eql rfl rfl ?_)
    refine G_q rfl (zak rfl (av := .xb (decide (y3 = (List.length a0 : Int)))) rfl ?_)
    refine qa (.xb (decide (y3 = (List.length a0 : Int)))) rfl ?_
    refine G_nil ?_
    refine zac ⟨_, h, ?_⟩
    exact so (lq rfl lt0)
   ·replace h := ite_f h hc
    refine G_n rfl rfl (G_n rfl rfl (G_n rfl rfl (G_n rfl rfl (G_n rfl rfl ?_))))
    refine G_q rfl (zah rfl (av := .xb false) rfl ?_)
    refine qa (.xb false) rfl ?_
    refine G_nil ?_
    refine zac ⟨_, h, ?_⟩
    exact so (lq rfl lt0)
  ·replace h := ite_f h hc
   refine G_n rfl rfl (G_n rfl rfl (G_n rfl rfl ?_))
   refine G_q rfl (zah rfl (av := .xb false) rfl ?_)
   refine qm (.xb false) rfl ?_
   refine G_n rfl rfl (G_n rfl rfl (G_n rfl rfl (G_n rfl rfl (G_n rfl rfl ?_))))
   refine G_q rfl (zah rfl (av := .xb false) rfl ?_)
   refine qa (.xb false) rfl ?_
   refine G_nil ?_
   refine zac ⟨_, h, ?_⟩
   exact so (lq rfl lt0)
 ·refine k_ret ?_
  obtain rfl := Option.some.inj h
  refine ke (pt AF0 2 (.xb x2_j1)) [] rfl ?_ ⟨rfl, rfl⟩
  exact so (lq rfl lt0)
set_option maxHeartbeats 4000000 in
theorem m_value_compound_1_ok (a0 : List UInt8) (r : Bool) (h : m_value_compound_1 a0 = some r) : Pure Tryz.prog 98 [(.exact (.string (bs a0)))] (.exact (.bool r)) := by
 unfold m_value_compound_1 at h
 refine Pure.ofFun (fun_of_awp Tryz.func98 rfl Tryz.ntmps98 (by simp) rfl (res1 rfl) fun E hE => k_end ?_)
 refine zad (kr ?_)
 refine qa (.xb false) rfl ?_
 refine G_nil (zaa (zad (kr ?_)))
 refine qm (.xs a0) rfl ?_
 obtain ⟨y1, hy1, h⟩ := bnd1_some h
 refine G_q rfl (zai (m_value_Valid_ok _ _ hy1) Tryz.func38 (by kernel_rfl) (LEs.cons (AV.le_eq rfl) LEs.nil) ?_)
 refine G_q rfl (op_not rfl ?_)
 refine qa (.xb (!y1)) rfl ?_
 refine G_nil (zaa (k_ret ?_))
 obtain rfl := Option.some.inj h
 refine ke (pt AF0 2 (.xb (!y1))) [] rfl ?_ ⟨rfl, rfl⟩
 exact so (lq rfl lt0)
set_option maxHeartbeats 4000000 in
theorem m_value_checked_ok (a0 : List UInt8) (r : (List UInt8)) (h : m_value_checked a0 = some r) : Pure Tryz.prog 99 [(.row 1 c_uint8 a0)] (.exact (.string (bs r))) := by
 unfold m_value_checked at h
 refine Pure.ofFun (fun_of_awp Tryz.func99 rfl Tryz.ntmps99 (by simp) rfl (res1 rfl) fun E hE => k_end ?_)
 refine zad (kr ?_)
 refine qa (.xs ([] : List UInt8)) rfl ?_
 refine G_nil (zaa (zad (zad (kr ?_))))
 refine qm (.row 1 c_uint8 a0) rfl ?_
 refine G_q rfl (op_bytesS rfl (by kernel_rfl) rfl ?_)
 obtain ⟨y1, hy1, h⟩ := bnd1_some h
 refine G_q rfl (zai (m_value_Valid_ok _ _ hy1) Tryz.func38 (by kernel_rfl) (LEs.cons (AV.le_eq rfl) LEs.nil) ?_)
 refine G_q rfl (op_not rfl ?_)
 refine G_nil (zaa ?_)
 refine kb (p := !y1) rfl h (fun hc h => ?_) (fun hc h => ?_)
 ·refine zad (kr ?_)
  refine qa (.xs ([] : List UInt8)) rfl ?_
  refine G_nil (zaa (k_ret (kC_ret ?_)))
  obtain rfl := Option.some.inj h
  refine ke (pt AF0 2 (.xs ([] : List UInt8))) [] rfl ?_ ⟨rfl, rfl⟩
  exact so (lq rfl lt0)
 ·refine k_skip (zaa (zad (kr ?_)))
  refine qm (.row 1 c_uint8 a0) rfl ?_
  refine G_q rfl (op_bytesS rfl (by kernel_rfl) rfl ?_)
  refine qa (.xs a0) rfl ?_
  refine G_nil (zaa (k_ret ?_))
  obtain rfl := Option.some.inj h
  refine ke (pt AF0 2 (.xs a0)) [] rfl ?_ ⟨rfl, rfl⟩
  exact so (lq rfl lt0)
set_option maxHeartbeats 4000000 in
theorem m_value_compound_ok (a0 : Int) (a1 : List (List UInt8)) (r : (List UInt8)) (h : m_value_compound a0 a1 = some r) : Pure Tryz.prog 84 [(.exact (.int .i64 a0)), (.row 1 zab a1)] (.exact (.string (bs r))) := by
 unfold m_value_compound at h
 refine Pure.ofFun (fun_of_awp Tryz.func84 rfl Tryz.ntmps84 (by simp) rfl (res1 rfl) fun E hE => k_end ?_)
 refine zad (kr ?_)
 refine qa (.xs ([] : List UInt8)) rfl ?_
 refine G_nil (zaa (zad (zad (kr ?_))))
 refine qm (.row 1 zab a1) rfl ?_
 refine G_q rfl (op_len_row (by kernel_rfl) rfl ?_)
 refine G_q rfl (op_gtr rfl rfl ?_)
 refine G_nil (zaa ?_)
 refine kd (p := 65535 < (List.length a1 : Int)) rfl h (fun hc h => ?_) (fun hc h => ?_)
 ·refine zad (kr ?_)
  refine qa (.xs ([] : List UInt8)) rfl ?_
  refine G_nil (zaa (k_ret (kC_ret ?_)))
  obtain rfl := Option.some.inj h
  refine ke (pt AF0 4 (.xs ([] : List UInt8))) [] rfl ?_ ⟨rfl, rfl⟩
  exact so (lq rfl lt0)
 ·refine k_skip (zaa (zad (kr ?_)))
  refine qm (.xi a0) rfl ?_
  refine G_q rfl (op_convInt (k := .u8) (r := (UInt8.toNat (u8i a0) : Int)) (by kernel_rfl) rfl (u8i_eq _) ?_)
  refine G_l rfl (op_litI (n := 1) (enc := c_uint8) [u8i a0] (by kernel_rfl) (CellsAll.cons rfl CellsOf.int CellsAll.nil) rfl (by kernel_rfl) (LEss.cons (LEs.cons (AV.le_eq rfl) LEs.nil) LEss.nil) (fun v1 => ?_))
  refine qm (.row 1 zab a1) rfl ?_
  refine G_q rfl (op_len_row (by kernel_rfl) rfl ?_)
  refine G_q rfl (op_convInt (k := .u16) (by kernel_rfl) rfl rfl ?_)
  obtain ⟨y2, hy2, h⟩ := bnd1_some h
  refine G_l rfl (op_fun_1_1_1 (m_value_append16_ok _ _ _ hy2) Tryz.func96 (by kernel_rfl) (LEs.cons (AV.le_eq rfl) (LEs.cons (AV.le_eq rfl) LEs.nil)) (fun v3 => ?_))
  refine qa (.exact v3) rfl ?_
  refine G_nil (zaa ?_)
  refine k_join1_1 h (fun (x5_j4 : List UInt8) (v5_j4 : Value) => (pt (pt AF0 1 (.row 1 zab a1)) 5 (.exact v5_j4))) (fun (x5_j4 : List UInt8) (v5_j4 : Value) => [vecT Tryz.prog 81 1 c_uint8 v5_j4 x5_j4]) (fun k4 h => ?_) (fun x5_j4 v5_j4 h => ?_)
  ·refine zad (kr ?_)
   refine qm (.row 1 zab a1) rfl ?_
   refine G_q rfl (op_len_row (by kernel_rfl) rfl ?_)
   refine qm (.xi 0) rfl ?_
   refine G_nil (zaa (k_block ?_))
   refine k_loop2_1 (m_value_compound_L2 a1 k4) (m_value_compound_B2 a1 k4) (fun _ _ => rfl) (fun m _ _ => rfl) h (fun (x5_l2 : List UInt8) (x20_l2 : Int) (v5_l2 : Value) => (pt (pt (pt (pt (pt AF0 1 (.row 1 zab a1)) 5 (.exact v5_l2)) 18 (.row 1 zab a1)) 19 (.xi (List.length a1 : Int))) 20 (.xi x20_l2))) (fun (x5_l2 : List UInt8) (x20_l2 : Int) (v5_l2 : Value) => [vecT Tryz.prog 81 1 c_uint8 v5_l2 x5_l2]) v3 ?_ (fun rec2 x5_l2 x20_l2 v5_l2 h => ?_)
   ·exact so (l4 rfl rfl rfl rfl (lq rfl lt0))
   ·unfold m_value_compound_B2 at h
    refine zad (kr ?_)
    refine G_q rfl (op_lss rfl rfl ?_)
    refine G_nil (zaa (zad ?_))
    refine kd (p := x20_l2 < (List.length a1 : Int)) rfl h (fun hc h => ?_) (fun hc h => ?_)
    ·refine k_skip (zaa (zad (k_block (zad (kr ?_)))))
     obtain ⟨n78, h⟩ := need_some h
     refine G_q rfl (zam (by kernel_rfl) rfl rfl n78.1 n78.2 ?_)
     refine G_q rfl (zal (a := .xs (gi a1 x20_l2)) (by kernel_rfl) rfl rfl ?_)
     refine qa (.xs (gi a1 x20_l2)) rfl ?_
     refine G_nil (zaa (zad ?_))
     refine k_join1_0 h (fun (x33_j81 : Bool) => (pt (pt (pt (pt (pt (pt (pt AF0 1 (.row 1 zab a1)) 5 (.exact v5_l2)) 7 (.xs (gi a1 x20_l2))) 18 (.row 1 zab a1)) 19 (.xi (List.length a1 : Int))) 20 (.xi x20_l2)) 33 (.xb x33_j81))) (fun (x33_j81 : Bool) => [vecT Tryz.prog 81 1 c_uint8 v5_l2 x5_l2]) (fun k81 h => ?_) (fun x33_j81 h => ?_)
     ·refine kr ?_
      refine qm (.xs (gi a1 x20_l2)) rfl ?_
      refine G_q rfl (op_eqlS rfl rfl ?_)
      refine qm (.xb (decide ((gi a1 x20_l2) = ([] : List UInt8)))) rfl ?_
      refine G_split (p := (gi a1 x20_l2) = ([] : List UInt8)) 26 rfl (fun hc => ?_) (fun hc => ?_)
      ·replace h := ite_t h hc
       refine G_n rfl rfl (G_n rfl rfl (G_n rfl rfl (G_n rfl rfl (G_n rfl rfl (G_n rfl rfl ?_)))))
       refine G_q rfl (zak rfl (av := .xb true) rfl ?_)
       refine G_nil ?_
       refine zac ⟨_, h, ?_⟩
       exact so (l4 rfl rfl rfl rfl (lq rfl (lq rfl (lq rfl lt0))))
      ·replace h := ite_f h hc
       refine Gy_q rfl rfl rfl (zaf (av := .exact v5_l2) rfl ?_)
       refine Gy_r rfl rfl rfl (op_len_vec (by kernel_rfl) rfl ?_)
       refine Gy_q rfl rfl rfl (zaf (av := .xs (gi a1 x20_l2)) rfl ?_)
       refine Gy_q rfl rfl rfl (op_lenS (by kernel_rfl) rfl ?_)
       refine Gy_q rfl rfl rfl (op_add rfl rfl rfl ?_)
       refine Gy_q rfl rfl rfl (op_gtr rfl rfl ?_)
       refine G_q rfl (zah rfl (av := .xb (decide (131072 < (i64 ((List.length x5_l2 : Int) + (List.length (gi a1 x20_l2) : Int)))))) rfl ?_)
       refine G_nil ?_
       refine zac ⟨_, h, ?_⟩
       exact so (l4 rfl rfl rfl rfl (lq rfl (lq rfl (lq rfl lt0))))
     ·refine kb (p := x33_j81) rfl h (fun hc h => ?_) (fun hc h => ?_)
      ·refine zad (kr ?_)
       refine qa (.xs ([] : List UInt8)) rfl ?_
       refine G_nil (zaa (k_ret (kC_ret (kB_ret (kC_ret (kI_ret (kB_ret (kI_ret ?_))))))))
       obtain rfl := Option.some.inj h
       refine ke (pt AF0 4 (.xs ([] : List UInt8))) [] rfl ?_ ⟨rfl, rfl⟩
       refine Sub.trans (SubU.to SubU.drop) ?_
       exact so (lq rfl lt0)
      ·refine k_skip (zaa (kr ?_))
       refine qm (.exact v5_l2) rfl ?_
       refine qm (.xs (gi a1 x20_l2)) rfl ?_
       obtain ⟨n82, h⟩ := need_some h
       refine G_l rfl (op_appTS (fun _ => rfl) (by kernel_rfl) (by kernel_rfl) (by kernel_rfl) (by kernel_rfl) rfl rfl n82 (fun v83 => ?_))
       refine qa (.exact v83) rfl ?_
       refine G_nil (kB_normal (zaa (kr ?_)))
       refine G_q rfl (op_add rfl rfl rfl ?_)
       refine qm (.xi (i64 (x20_l2 + 1))) rfl ?_
       refine G_nil ?_
       refine zac ⟨_, _, v83, h, ?_⟩
       exact so (l4 rfl rfl rfl rfl (lq rfl lt0))
    ·refine k_exit (kC_exit (kI_exit (kB_exit ?_)))
     refine zac ⟨_, v5_l2, h, ?_⟩
     exact so (lq rfl (lq rfl lt0))
  ·refine zad (zad (kr ?_))
   refine qm (.row 1 zab a1) rfl ?_
   obtain ⟨y84, hy84, h⟩ := bnd1_some h
   refine G_q rfl (zai (m_slices_ContainsFunc_L_api_Value_api_Value_ok _ _ _ hy84) Tryz.func97 (by kernel_rfl) (LEs.cons (AV.le_eq rfl) (LEs.cons ((fn_le Tryz.func98 (by kernel_rfl) (fun i r h => m_value_compound_1_ok i r h))) LEs.nil)) ?_)
   refine G_q rfl (op_not rfl ?_)
   refine G_nil (zaa ?_)
   refine kb (p := !y84) rfl h (fun hc h => ?_) (fun hc h => ?_)
   ·refine zad (kr ?_)
    refine qm (.exact v5_j4) rfl ?_
    refine G_sub rfl (SubU.freezeT2 (s1 := 5) (s2 := 41) rfl rfl len_c_uint8) ?_
    obtain ⟨y85, hy85, h⟩ := bnd1_some h
    refine G_q rfl (zai (m_value_checked_ok _ _ hy85) Tryz.func99 (by kernel_rfl) (LEs.cons (AV.le_eq rfl) LEs.nil) ?_)
    refine qa (.xs y85) rfl ?_
    refine G_nil (zaa (k_ret (kC_ret ?_)))
    obtain rfl := Option.some.inj h
    refine ke (pt AF0 4 (.xs y85)) [] rfl ?_ ⟨rfl, rfl⟩
    exact so (lq rfl lt0)
   ·refine k_skip (zaa (zad (kr ?_)))
    refine qa (.xs ([] : List UInt8)) rfl ?_
    refine G_nil (zaa (k_ret ?_))
    obtain rfl := Option.some.inj h
    refine ke (pt AF0 4 (.xs ([] : List UInt8))) [] rfl ?_ ⟨rfl, rfl⟩
    refine Sub.trans (SubU.to SubU.drop) ?_
    exact so (lq rfl lt0)
set_option maxHeartbeats 4000000 in
theorem m_value_Tuple_ok (a0 : List (List UInt8)) (r : (List UInt8)) (h : m_value_Tuple a0 = some r) : Pure Tryz.prog 59 [(.row 1 zab a0)] (.exact (.string (bs r))) := by
 unfold m_value_Tuple at h
 refine Pure.ofFun (fun_of_awp Tryz.func59 rfl Tryz.ntmps59 (by simp) rfl (res1 rfl) fun E hE => k_end ?_)
 refine zad (kr ?_)
 refine qa (.xs ([] : List UInt8)) rfl ?_
 refine G_nil (zaa (zad (kr ?_)))
 refine qm (.row 1 zab a0) rfl ?_
 obtain ⟨y1, hy1, h⟩ := bnd1_some h
 refine G_q rfl (zai (m_value_compound_ok _ _ _ hy1) Tryz.func84 (by kernel_rfl) (LEs.cons (AV.le_eq rfl) (LEs.cons (AV.le_eq rfl) LEs.nil)) ?_)
 refine qa (.xs y1) rfl ?_
 refine G_nil (zaa (k_ret ?_))
 obtain rfl := Option.some.inj h
 refine ke (pt AF0 2 (.xs y1)) [] rfl ?_ ⟨rfl, rfl⟩
 exact so (lq rfl lt0)
set_option maxHeartbeats 4000000 in
theorem m_value_Seq_ok (a0 : List (List UInt8)) (r : (List UInt8)) (h : m_value_Seq a0 = some r) : Pure Tryz.prog 60 [(.row 1 zab a0)] (.exact (.string (bs r))) := by
 unfold m_value_Seq at h
 refine Pure.ofFun (fun_of_awp Tryz.func60 rfl Tryz.ntmps60 (by simp) rfl (res1 rfl) fun E hE => k_end ?_)
 refine zad (kr ?_)
 refine qa (.xs ([] : List UInt8)) rfl ?_
 refine G_nil (zaa (zad (kr ?_)))
 refine qm (.row 1 zab a0) rfl ?_
 obtain ⟨y1, hy1, h⟩ := bnd1_some h
 refine G_q rfl (zai (m_value_compound_ok _ _ _ hy1) Tryz.func84 (by kernel_rfl) (LEs.cons (AV.le_eq rfl) (LEs.cons (AV.le_eq rfl) LEs.nil)) ?_)
 refine qa (.xs y1) rfl ?_
 refine G_nil (zaa (k_ret ?_))
 obtain rfl := Option.some.inj h
 refine ke (pt AF0 2 (.xs y1)) [] rfl ?_ ⟨rfl, rfl⟩
 exact so (lq rfl lt0)
set_option maxHeartbeats 4000000 in
theorem m_slices_Clone_L_api_Value_api_Value_ok (a0 : List (List UInt8)) (r : (List (List UInt8))) (h : m_slices_Clone_L_api_Value_api_Value a0 = some r) : Fun Tryz.prog 100 [(.row 1 zab a0)] [] (fun a s => ∃ z0, a = .exact z0 ∧ s = [vecT Tryz.prog 27 1 zab z0 r]) := by
 unfold m_slices_Clone_L_api_Value_api_Value at h
 refine fun_of_awp Tryz.func100 rfl Tryz.ntmps100 (by simp) rfl (res1 rfl) fun E hE => k_end ?_
 refine zad (kr ?_)
 refine qa (.exact (.slice none 0 0)) rfl ?_
 refine G_nil (zaa (zad (zad (kr ?_))))
 refine qm (.row 1 zab a0) rfl ?_
 refine G_q rfl (op_eqnil_row (by kernel_rfl) rfl ?_)
 refine G_nil (zaa ?_)
 obtain ⟨h1, h⟩ := nilc_some h
 refine k_cond_u (p := a0 = []) rfl (fun hc => ?_) ?_
 ·replace h := h1 hc
  refine zad (kr ?_)
  refine qa (.exact (.slice none 0 0)) rfl ?_
  refine G_nil (zaa (k_ret (kC_ret ?_)))
  obtain rfl := Option.some.inj h
  refine ke (pt AF0 2 (.exact (.slice none 0 0))) [vecT Tryz.prog 27 1 zab (.slice none 0 0) []] rfl ?_ ⟨(.slice none 0 0), rfl, rfl⟩
  refine Sub.trans (SubU.to (SubU.nilT (P := Tryz.prog) (t := 27) (n := 1) (enc := zab))) ?_
  exact so (lq rfl lt0)
 ·refine k_skip (zaa (zad (kr ?_)))
  refine G_l rfl (op_lit0I (enc := zab) (n := 1) (by kernel_rfl) (fun v1 => ?_))
  refine qm (.row 1 zab a0) rfl ?_
  obtain ⟨n2, h⟩ := need_some h
  refine G_l rfl (op_appT (by kernel_rfl) rfl rfl oc_c_api_Value n2 (fun v3 => ?_))
  refine qa (.exact v3) rfl ?_
  refine G_nil (zaa (k_ret ?_))
  obtain rfl := Option.some.inj h
  refine ke (pt AF0 2 (.exact v3)) [vecT Tryz.prog 27 1 zab v3 (([] : List (List UInt8)) ++ a0)] rfl ?_ ⟨v3, rfl, rfl⟩
  exact so (lq rfl lt0)
set_option maxHeartbeats 4000000 in
theorem m_value_Compare_ok (a0 : List UInt8) (a1 : List UInt8) (r : Int) (h : m_value_Compare a0 a1 = some r) : Pure Tryz.prog 102 [(.exact (.string (bs a0))), (.exact (.string (bs a1)))] (.exact (.int .i64 r)) := by
 unfold m_value_Compare at h
 refine Pure.ofFun (fun_of_awp Tryz.func102 rfl Tryz.ntmps102 (by simp) rfl (res1 rfl) fun E hE => k_end ?_)
 refine zad (kr ?_)
 refine qa (.xi 0) rfl ?_
 refine G_nil (zaa (zad (zad (kr ?_))))
 refine qm (.xs a0) rfl ?_
 obtain ⟨y6, hy6, h⟩ := bnd1_some h
 refine G_q rfl (zai (m_value_Valid_ok _ _ hy6) Tryz.func38 (by kernel_rfl) (LEs.cons (AV.le_eq rfl) LEs.nil) ?_)
 refine qm (.xs a1) rfl ?_
 obtain ⟨y7, hy7, h⟩ := bnd1_some h
 refine G_q rfl (zai (m_value_Valid_ok _ _ hy7) Tryz.func38 (by kernel_rfl) (LEs.cons (AV.le_eq rfl) LEs.nil) ?_)
 refine qa (.xb y6) rfl ?_
 refine qa (.xb y7) rfl ?_
 refine G_nil (zaa (k_block ?_))
 refine k_join1_0 h (fun (x11_j8 : Bool) => (pt (pt (pt (pt (pt AF0 0 (.xs a0)) 1 (.xs a1)) 5 (.xb y6)) 6 (.xb y7)) 11 (.xb x11_j8))) (fun (x11_j8 : Bool) => []) (fun k8 h => ?_) (fun x11_j8 h => ?_)
 ·refine kr ?_
  refine qm (.xb y6) rfl ?_
  refine qm (.xb y6) rfl ?_
  refine G_splitB (c := y6) 13 rfl (fun hc => ?_) (fun hc => ?_)
  ·replace h := ite_t h hc
   refine Gy_q rfl rfl rfl (zaf (av := .xb y7) rfl ?_)
   refine G_q rfl (zak rfl (av := .xb y7) rfl ?_)
   refine qa (.xb y7) rfl ?_
   refine G_nil ?_
   refine zac ⟨_, h, ?_⟩
   exact so (l4 rfl rfl rfl rfl (lq rfl lt0))
  ·replace h := ite_f h hc
   refine G_n rfl rfl ?_
   refine G_q rfl (zah rfl (av := .xb false) rfl ?_)
   refine qa (.xb false) rfl ?_
   refine G_nil ?_
   refine zac ⟨_, h, ?_⟩
   exact so (l4 rfl rfl rfl rfl (lq rfl lt0))
 ·refine kb (p := x11_j8) rfl h (fun hc h => ?_) (fun hc h => ?_)
  ·refine zad (kr ?_)
   refine qm (.xs a0) rfl ?_
   refine qm (.xs a1) rfl ?_
   obtain ⟨y9, hy9, h⟩ := bnd1_some h
   refine G_q rfl (zai (m_value_compare_ok _ _ _ hy9) Tryz.func111 (by kernel_rfl) (LEs.cons (AV.le_eq rfl) (LEs.cons (AV.le_eq rfl) LEs.nil)) ?_)
   refine qa (.xi y9) rfl ?_
   refine G_nil (zaa (k_ret (kB_ret (kC_ret ?_))))
   obtain rfl := Option.some.inj h
   refine ke (pt AF0 4 (.xi y9)) [] rfl ?_ ⟨rfl, rfl⟩
   exact so (lq rfl lt0)
  ·refine zad (kr ?_)
   refine qm (.xb y6) rfl ?_
   refine qa (.xb y6) rfl ?_
   refine G_nil (zaa ?_)
   refine kb (p := y6) rfl h (fun hc h => ?_) (fun hc h => ?_)
   ·refine zad (kr ?_)
    refine qa (.xi 1) rfl ?_
    refine G_nil (zaa (k_ret (kB_ret (kC_ret ?_))))
    obtain rfl := Option.some.inj h
    refine ke (pt AF0 4 (.xi 1)) [] rfl ?_ ⟨rfl, rfl⟩
    exact so (lq rfl lt0)
   ·refine zad (kr ?_)
    refine qm (.xb y7) rfl ?_
    refine qa (.xb y7) rfl ?_
    refine G_nil (zaa ?_)
    refine kb (p := y7) rfl h (fun hc h => ?_) (fun hc h => ?_)
    ·refine zad (kr ?_)
     refine qa (.xi (-1)) rfl ?_
     refine G_nil (zaa (k_ret (kB_ret (kC_ret ?_))))
     obtain rfl := Option.some.inj h
     refine ke (pt AF0 4 (.xi (-1))) [] rfl ?_ ⟨rfl, rfl⟩
     exact so (lq rfl lt0)
    ·refine k_skip (kB_normal (zaa (zad (kr ?_))))
     refine qm (.xs a0) rfl ?_
     refine qm (.xs a1) rfl ?_
     obtain ⟨y10, hy10, h⟩ := bnd1_some h
     refine G_q rfl (zai (m_cmp_Compare_api_Value_ok _ _ _ hy10) Tryz.func112 (by kernel_rfl) (LEs.cons (AV.le_eq rfl) (LEs.cons (AV.le_eq rfl) LEs.nil)) ?_)
     refine qa (.xi y10) rfl ?_
     refine G_nil (zaa (k_ret ?_))
     obtain rfl := Option.some.inj h
     refine ke (pt AF0 4 (.xi y10)) [] rfl ?_ ⟨rfl, rfl⟩
     exact so (lq rfl lt0)
set_option maxHeartbeats 4000000 in
theorem m_slices_Compact_L_api_Value_api_Value_ok {w0 : Value} (a0 : List (List UInt8)) (r : (List (List UInt8))) (h : m_slices_Compact_L_api_Value_api_Value a0 = some r) : Fun Tryz.prog 103 [(.exact w0)] [vecT Tryz.prog 27 1 zab w0 a0] (fun a s => a = .row 1 zab r ∧ s = []) := by
 unfold m_slices_Compact_L_api_Value_api_Value at h
 refine fun_of_awp Tryz.func103 rfl Tryz.ntmps103 (by simp) rfl (res1 rfl) fun E hE => k_end ?_
 refine zad (kr ?_)
 refine qa (.exact (.slice none 0 0)) rfl ?_
 refine G_nil (zaa (zad (zad (kr ?_))))
 refine qm (.exact w0) rfl ?_
 refine G_r rfl (op_len_vec (by kernel_rfl) rfl ?_)
 refine G_q rfl (op_lss rfl rfl ?_)
 refine G_nil (zaa ?_)
 refine kd (p := (List.length a0 : Int) < 2) rfl h (fun hc h => ?_) (fun hc h => ?_)
 ·refine zad (kr ?_)
  refine qm (.exact w0) rfl ?_
  refine qa (.exact w0) rfl ?_
  refine G_nil (zaa (k_ret (kC_ret ?_)))
  obtain rfl := Option.some.inj h
  refine ke (pt AF0 2 (.row 1 zab a0)) [] rfl ?_ ⟨rfl, rfl⟩
  refine Sub.trans (SubU.to (SubU.freezeT (s := 2) rfl len_c_api_Value)) ?_
  exact so (lq rfl lt0)
 ·refine k_skip (zaa ?_)
  refine k_join0_0 h ((pt AF0 0 (.exact w0))) ([vecT Tryz.prog 27 1 zab w0 a0]) (fun k1 h => ?_) (fun  h => ?_)
  ·refine zad (kr ?_)
   refine qa (.xi 1) rfl ?_
   refine G_nil (zaa (k_block ?_))
   refine k_loop1_0 (m_slices_Compact_L_api_Value_api_Value_L14 a0 k1) (m_slices_Compact_L_api_Value_api_Value_B14 a0 k1) (fun _ => rfl) (fun m _ => rfl) h (fun (x3_l14 : Int) => (pt (pt AF0 0 (.exact w0)) 3 (.xi x3_l14))) (fun (x3_l14 : Int) => [vecT Tryz.prog 27 1 zab w0 a0]) ?_ (fun rec14 x3_l14 h => ?_)
   ·exact so (lq rfl (lq rfl lt0))
   ·unfold m_slices_Compact_L_api_Value_api_Value_B14 at h
    refine zad (zad (kr ?_))
    refine qm (.xi x3_l14) rfl ?_
    refine qm (.exact w0) rfl ?_
    refine G_r rfl (op_len_vec (by kernel_rfl) rfl ?_)
    refine G_q rfl (op_lss rfl rfl ?_)
    refine G_nil (zaa ?_)
    refine kd (p := x3_l14 < (List.length a0 : Int)) rfl h (fun hc h => ?_) (fun hc h => ?_)
    ·refine k_skip (zaa ?_)
     refine k_join0_0 h ((pt (pt AF0 0 (.exact w0)) 3 (.xi x3_l14))) ([vecT Tryz.prog 27 1 zab w0 a0]) (fun k628 h => ?_) (fun  h => ?_)
     ·refine k_block (zad ?_)
      refine k_plan [] [(0, 0), (0, 1), (0, 4), (0, 5), (0, 6), (1, 2), (1, 3), (1, 7), (1, 8), (0, 9)] hmixP (by kernel_rfl) ?_
      refine P_q no34_0 rfl (zaf (av := .exact w0) rfl ?_)
      refine P_q no34_0 rfl (zaf (av := .xi x3_l14) rfl ?_)
      refine P_q no34_0 rfl (zaf (av := .exact w0) rfl ?_)
      refine P_q no34_0 rfl (zaf (av := .xi x3_l14) rfl ?_)
      refine P_q no34_0 rfl (op_sub rfl rfl rfl ?_)
      obtain ⟨n691, h⟩ := need_some h
      refine P_r rfl (op_index_vec (by kernel_rfl) rfl rfl n691.1 n691.2 ?_)
      refine P_r rfl (op_load_vec1 (i := x3_l14) (o := 0) (a := .xs (gi a0 x3_l14)) (by kernel_rfl) len_c_api_Value rfl n691.1 n691.2 rfl ?_)
      obtain ⟨n692, h⟩ := need_some h
      refine P_r rfl (op_index_vec (by kernel_rfl) rfl rfl n692.1 n692.2 ?_)
      refine P_r rfl (op_load_vec1 (i := i64 (x3_l14 - 1)) (o := 0) (a := .xs (gi a0 (i64 (x3_l14 - 1)))) (by kernel_rfl) len_c_api_Value rfl n692.1 n692.2 rfl ?_)
      refine P_q no34_0 rfl (op_eqlS rfl rfl ?_)
      refine P_nil (zaa ?_)
      refine kd (p := (gi a0 x3_l14) = (gi a0 (i64 (x3_l14 - 1)))) rfl h (fun hc h => ?_) (fun hc h => ?_)
      ·refine zad (kr ?_)
       refine qm (.exact w0) rfl ?_
       refine qm (.xi x3_l14) rfl ?_
       obtain ⟨n693, h⟩ := need_some h
       refine G_r rfl (op_slice_vec (by kernel_rfl) rfl (bnd_some rfl) bnd_none n693.1 n693.2.1 n693.2.2 ?_)
       refine qa (.vsub w0 1 (Int.toNat x3_l14) (Int.toNat (List.length a0 : Int) - Int.toNat x3_l14)) rfl ?_
       refine G_nil (zaa ?_)
       refine k_join2_0 h (fun (x0_j694 : List (List UInt8)) (x3_j694 : Int) => (pt (pt AF0 0 (.exact w0)) 3 (.xi x3_j694))) (fun (x0_j694 : List (List UInt8)) (x3_j694 : Int) => [vecT Tryz.prog 27 1 zab w0 x0_j694]) (fun k694 h => ?_) (fun x0_j694 x3_j694 h => ?_)
       ·refine zad (kr ?_)
        refine qa (.xi 1) rfl ?_
        refine G_nil (zaa (k_block ?_))
        refine k_loop3_0 (m_slices_Compact_L_api_Value_api_Value_L26 a0 x3_l14 k694) (m_slices_Compact_L_api_Value_api_Value_B26 a0 x3_l14 k694) (fun _ _ _ => rfl) (fun m _ _ _ => rfl) h (fun (x0_l26 : List (List UInt8)) (x3_l26 : Int) (x5_l26 : Int) => (pt (pt (pt (pt AF0 0 (.exact w0)) 3 (.xi x3_l26)) 4 (.vsub w0 1 (Int.toNat x3_l14) (Int.toNat (List.length a0 : Int) - Int.toNat x3_l14))) 5 (.xi x5_l26))) (fun (x0_l26 : List (List UInt8)) (x3_l26 : Int) (x5_l26 : Int) => [vecT Tryz.prog 27 1 zab w0 x0_l26]) ?_ (fun rec26 x0_l26 x3_l26 x5_l26 h => ?_)
        ·exact so (l4 rfl rfl rfl rfl lt0)
        ·unfold m_slices_Compact_L_api_Value_api_Value_B26 at h
         refine zad (zad (kr ?_))
         refine qm (.xi x5_l26) rfl ?_
         refine qm (.vsub w0 1 (Int.toNat x3_l14) (Int.toNat (List.length a0 : Int) - Int.toNat x3_l14)) rfl ?_
         refine G_q rfl (op_len_vsub (by kernel_rfl) rfl ?_)
         refine G_q rfl (op_lss rfl rfl ?_)
         refine G_nil (zaa ?_)
         refine kd (p := x5_l26 < ((Int.toNat (List.length a0 : Int) - Int.toNat x3_l14 : Nat) : Int)) rfl h (fun hc h => ?_) (fun hc h => ?_)
         ·refine k_skip (zaa ?_)
          refine k_join2_0 h (fun (x0_j741 : List (List UInt8)) (x3_j741 : Int) => (pt (pt (pt (pt AF0 0 (.exact w0)) 3 (.xi x3_j741)) 4 (.vsub w0 1 (Int.toNat x3_l14) (Int.toNat (List.length a0 : Int) - Int.toNat x3_l14))) 5 (.xi x5_l26))) (fun (x0_j741 : List (List UInt8)) (x3_j741 : Int) => [vecT Tryz.prog 27 1 zab w0 x0_j741]) (fun k741 h => ?_) (fun x0_j741 x3_j741 h => ?_)
          ·refine k_block (zad ?_)
           refine k_plan [] [(0, 0), (0, 1), (0, 4), (0, 5), (0, 6), (1, 2), (1, 3), (1, 7), (1, 8), (0, 9)] hmixP (by kernel_rfl) ?_
           refine P_q no34_0 rfl (zaf (av := .vsub w0 1 (Int.toNat x3_l14) (Int.toNat (List.length a0 : Int) - Int.toNat x3_l14)) rfl ?_)
           refine P_q no34_0 rfl (zaf (av := .xi x5_l26) rfl ?_)
           refine P_q no34_0 rfl (zaf (av := .vsub w0 1 (Int.toNat x3_l14) (Int.toNat (List.length a0 : Int) - Int.toNat x3_l14)) rfl ?_)
           refine P_q no34_0 rfl (zaf (av := .xi x5_l26) rfl ?_)
           refine P_q no34_0 rfl (op_sub rfl rfl rfl ?_)
           obtain ⟨n746, h⟩ := need_some h
           refine P_r rfl (op_index_vsub (j := (x3_l14 + x5_l26)) (by kernel_rfl) rfl rfl n746.2.1 (by have hh := n746; try simp only [i64] at *; omega) (by have hh := n746; try simp only [i64] at *; omega) (by have hh := n746; try simp only [i64] at *; omega) ?_)
           refine P_r rfl (op_load_vec1 (i := (x3_l14 + x5_l26)) (o := 0) (a := .xs (gi x0_l26 (x3_l14 + x5_l26))) (by kernel_rfl) len_c_api_Value rfl n746.2.2.2.1 n746.2.2.2.2 rfl ?_)
           obtain ⟨n747, h⟩ := need_some h
           refine P_r rfl (op_index_vsub (j := (x3_l14 + (i64 (x5_l26 - 1)))) (by kernel_rfl) rfl rfl n747.2.1 (by have hh := n747; try simp only [i64] at *; omega) (by have hh := n747; try simp only [i64] at *; omega) (by have hh := n747; try simp only [i64] at *; omega) ?_)
           refine P_r rfl (op_load_vec1 (i := (x3_l14 + (i64 (x5_l26 - 1)))) (o := 0) (a := .xs (gi x0_l26 (x3_l14 + (i64 (x5_l26 - 1))))) (by kernel_rfl) len_c_api_Value rfl n747.2.2.2.1 n747.2.2.2.2 rfl ?_)
           refine P_q no34_0 rfl (op_neqS rfl rfl ?_)
           refine P_nil (zaa ?_)
           refine kd (p := ¬ (gi x0_l26 (x3_l14 + x5_l26)) = (gi x0_l26 (x3_l14 + (i64 (x5_l26 - 1))))) rfl h (fun hc h => ?_) (fun hc h => ?_)
           ·refine zad (kr ?_)
            refine qm (.exact w0) rfl ?_
            refine qm (.xi x3_l26) rfl ?_
            refine qm (.vsub w0 1 (Int.toNat x3_l14) (Int.toNat (List.length a0 : Int) - Int.toNat x3_l14)) rfl ?_
            refine qm (.xi x5_l26) rfl ?_
            obtain ⟨n748, h⟩ := need_some h
            refine G_r rfl (op_index_vsub (j := (x3_l14 + x5_l26)) (by kernel_rfl) rfl rfl n748.2.1 (by have hh := n748; try simp only [i64] at *; omega) (by have hh := n748; try simp only [i64] at *; omega) (by have hh := n748; try simp only [i64] at *; omega) ?_)
            refine G_r rfl (op_load_vec1 (i := (x3_l14 + x5_l26)) (o := 0) (a := .xs (gi x0_l26 (x3_l14 + x5_l26))) (by kernel_rfl) len_c_api_Value rfl n748.2.2.2.1 n748.2.2.2.2 rfl ?_)
            obtain ⟨n749, h⟩ := need_some h
            refine G_r rfl (op_index_vec (by kernel_rfl) rfl rfl n749.1 n749.2 ?_)
            refine G_l rfl (op_store_vec (i := x3_l26) (o := 0) (z := gi x0_l26 (x3_l14 + x5_l26)) (c' := [.xs (gi x0_l26 (x3_l14 + x5_l26))]) (by kernel_rfl) len_c_api_Value rfl n749.1 n749.2 rfl CellsOf.str (LEs.cons (AV.le_eq rfl) LEs.nil) (OneC.str OneC.nil) (by kernel_rfl) (Nat.le_of_ble_eq_true rfl) rfl ?_)
            refine G_nil (zaa (kr ?_))
            refine qm (.xi x3_l26) rfl ?_
            refine G_q rfl (op_add rfl rfl rfl ?_)
            refine qa (.xi (i64 (x3_l26 + 1))) rfl ?_
            refine G_nil (kB_normal ?_)
            refine zac ⟨_, _, h, ?_⟩
            exact so (l4 rfl rfl rfl rfl lt0)
           ·refine k_skip (kB_normal ?_)
            refine zac ⟨_, _, h, ?_⟩
            exact so (l4 rfl rfl rfl rfl lt0)
          ·refine kr ?_
           refine qm (.xi x5_l26) rfl ?_
           refine G_q rfl (op_add rfl rfl rfl ?_)
           refine qa (.xi (i64 (x5_l26 + 1))) rfl ?_
           refine G_nil ?_
           refine zac ⟨_, _, _, h, ?_⟩
           exact so (l4 rfl rfl rfl rfl lt0)
         ·refine k_exit (kC_exit (kI_exit (kB_exit ?_)))
          refine zac ⟨_, _, h, ?_⟩
          exact so (lq rfl (lq rfl lt0))
       ·refine zad (kr ?_)
        refine qm (.exact w0) rfl ?_
        refine qm (.xi x3_j694) rfl ?_
        obtain ⟨n750, h⟩ := need_some h
        refine G_r rfl (op_slice_vec (by kernel_rfl) rfl (bnd_some rfl) bnd_none n750.1 n750.2.1 n750.2.2 ?_)
        refine G_l rfl (op_clear (zr := []) (by kernel_rfl) len_c_api_Value oc_c_api_Value rfl (by have := n750; omega) Tryz.zeroValue30 (fun _ _ => (Fit.ex Fit.nil0)) ?_)
        refine G_nil (zaa (zad (kr ?_)))
        refine qm (.exact w0) rfl ?_
        refine qm (.xi x3_j694) rfl ?_
        refine G_sub rfl (SubU.freezeT3 (s1 := 0) (s2 := 54) (s3 := 57) rfl rfl rfl len_c_api_Value) ?_
        obtain ⟨n751, h⟩ := need_some h
        refine G_q rfl (op_slice_rowt (by kernel_rfl) rfl bnd_none (bnd_some rfl) (Int.le_refl 0) n751.1 n751.2 ?_)
        refine qa (.row 1 zab (List.take (Int.toNat x3_j694) (List.take (Int.toNat x3_j694) x0_j694 ++ List.replicate (Int.toNat (List.length x0_j694 : Int) - Int.toNat x3_j694) ([] : List UInt8) ++ List.drop (Int.toNat x3_j694 + (Int.toNat (List.length x0_j694 : Int) - Int.toNat x3_j694)) x0_j694))) rfl ?_
        refine G_nil (zaa (k_ret (kB_ret (kI_ret (kI_ret (kB_ret (kI_ret ?_)))))))
        obtain rfl := Option.some.inj h
        refine ke (pt AF0 2 (.row 1 zab (List.take (Int.toNat x3_j694) (List.take (Int.toNat x3_j694) x0_j694 ++ List.replicate (Int.toNat (List.length x0_j694 : Int) - Int.toNat x3_j694) ([] : List UInt8) ++ List.drop (Int.toNat x3_j694 + (Int.toNat (List.length x0_j694 : Int) - Int.toNat x3_j694)) x0_j694)))) [] rfl ?_ ⟨rfl, rfl⟩
        exact so (lq rfl lt0)
      ·refine k_skip (kB_normal ?_)
       refine zac ⟨h, ?_⟩
       exact so (lq rfl (lq rfl lt0))
     ·refine kr ?_
      refine qm (.xi x3_l14) rfl ?_
      refine G_q rfl (op_add rfl rfl rfl ?_)
      refine qa (.xi (i64 (x3_l14 + 1))) rfl ?_
      refine G_nil ?_
      refine zac ⟨_, h, ?_⟩
      exact so (lq rfl (lq rfl lt0))
    ·refine k_exit (kC_exit (kI_exit (kB_exit ?_)))
     refine zac ⟨h, ?_⟩
     exact so (lq rfl lt0)
  ·refine zad (kr ?_)
   refine qm (.exact w0) rfl ?_
   refine qa (.exact w0) rfl ?_
   refine G_nil (zaa (k_ret ?_))
   obtain rfl := Option.some.inj h
   refine ke (pt AF0 2 (.row 1 zab a0)) [] rfl ?_ ⟨rfl, rfl⟩
   refine Sub.trans (SubU.to (SubU.freezeT (s := 2) rfl len_c_api_Value)) ?_
   exact so (lq rfl lt0)
set_option maxHeartbeats 4000000 in
theorem m_value_Sort_ok (a0 : List (List UInt8)) (r : (List (List UInt8))) (h : m_value_Sort a0 = some r) : Pure Tryz.prog 85 [(.row 1 zab a0)] (.row 1 zab r) := by
 unfold m_value_Sort at h
 refine Pure.ofFun (fun_of_awp Tryz.func85 rfl Tryz.ntmps85 (by simp) rfl (res1 rfl) fun E hE => k_end ?_)
 refine zad (kr ?_)
 refine qa (.exact (.slice none 0 0)) rfl ?_
 refine G_nil (zaa (zad (kr ?_)))
 refine qm (.row 1 zab a0) rfl ?_
 obtain ⟨y1, hy1, h⟩ := bnd1_some h
 refine G_l rfl (op_fun_0_1_1 (m_slices_Clone_L_api_Value_api_Value_ok _ _ hy1) Tryz.func100 (by kernel_rfl) (LEs.cons (AV.le_eq rfl) LEs.nil) (fun v2 => ?_))
 refine qa (.exact v2) rfl ?_
 refine G_nil (zaa (zad (kr ?_)))
 refine qm (.exact v2) rfl ?_
 obtain ⟨y3, hy3, h⟩ := bnd1_some h
 refine G_l rfl (op_fun_1_0_1 (m_sort_api_Value_ok m_value_Compare_ok _ _ hy3) Tryz.func101 (by kernel_rfl) (LEs.cons (AV.le_eq rfl) (LEs.cons (AV.le_eq rfl) LEs.nil)) ?_)
 refine G_nil (zaa (zad (kr ?_)))
 refine qm (.exact v2) rfl ?_
 obtain ⟨y4, hy4, h⟩ := bnd1_some h
 refine G_l rfl (op_fun_1_0_0 (m_slices_Compact_L_api_Value_api_Value_ok _ _ hy4) Tryz.func103 (by kernel_rfl) (LEs.cons (AV.le_eq rfl) LEs.nil) ?_)
 obtain ⟨y5, hy5, h⟩ := bnd1_some h
 refine G_q rfl (zai (m_slices_Clip_L_api_Value_api_Value_ok _ _ hy5) Tryz.func42 (by kernel_rfl) (LEs.cons (AV.le_eq rfl) LEs.nil) ?_)
 refine qa (.row 1 zab y5) rfl ?_
 refine G_nil (zaa (k_ret ?_))
 obtain rfl := Option.some.inj h
 refine ke (pt AF0 2 (.row 1 zab y5)) [] rfl ?_ ⟨rfl, rfl⟩
 exact so (lq rfl lt0)
end Go.Proofs.YtpfdeahcjlfijaaGreat
/- The functions compute their models, by program. -/
namespace Go.Proofs.YtpfdeahcjlfijaaGreat
open Go.RowKit
attribute [local irreducible] AV.exact AV.top AV.row AV.ptr AV.agg AV.tup AV.eptr AV.fn AV.nilq AV.nilqn opA opB opM opR Quiet Loud Reads wpG awp den Sub SubU Pure Fun vecI vecT boxI CellsAll CellsOf OneC LEs LEss
set_option maxRecDepth 100000

set_option maxHeartbeats 4000000 in
theorem m_value_Set_ok (a0 : List (List UInt8)) (r : (List UInt8)) (h : m_value_Set a0 = some r) : Pure Tryz.prog 61 [(.row 1 zab a0)] (.exact (.string (bs r))) := by
 unfold m_value_Set at h
 refine Pure.ofFun (fun_of_awp Tryz.func61 rfl Tryz.ntmps61 (by simp) rfl (res1 rfl) fun E hE => k_end ?_)
 refine zad (kr ?_)
 refine qa (.xs ([] : List UInt8)) rfl ?_
 refine G_nil (zaa (zad (kr ?_)))
 refine qm (.row 1 zab a0) rfl ?_
 obtain ⟨y1, hy1, h⟩ := bnd1_some h
 refine G_q rfl (zai (m_value_Sort_ok _ _ hy1) Tryz.func85 (by kernel_rfl) (LEs.cons (AV.le_eq rfl) LEs.nil) ?_)
 obtain ⟨y2, hy2, h⟩ := bnd1_some h
 refine G_q rfl (zai (m_value_compound_ok _ _ _ hy2) Tryz.func84 (by kernel_rfl) (LEs.cons (AV.le_eq rfl) (LEs.cons (AV.le_eq rfl) LEs.nil)) ?_)
 refine qa (.xs y2) rfl ?_
 refine G_nil (zaa (k_ret ?_))
 obtain rfl := Option.some.inj h
 refine ke (pt AF0 2 (.xs y2)) [] rfl ?_ ⟨rfl, rfl⟩
 exact so (lq rfl lt0)
set_option maxHeartbeats 4000000 in
theorem m_value_Name_ok (a0 : Int) (r : (List UInt8)) (h : m_value_Name a0 = some r) : Pure Tryz.prog 86 [(.exact (.int .i64 a0))] (.exact (.string (bs r))) := by
 unfold m_value_Name at h
 refine Pure.ofFun (fun_of_awp Tryz.func86 rfl Tryz.ntmps86 (by simp) rfl (res1 rfl) fun E hE => k_end ?_)
 refine zad (kr ?_)
 refine qa (.xs ([] : List UInt8)) rfl ?_
 refine G_nil (zaa (zad ?_))
 refine k_join1_0 h (fun (x8_j3 : Bool) => (pt (pt AF0 0 (.xi a0)) 8 (.xb x8_j3))) (fun (x8_j3 : Bool) => []) (fun k3 h => ?_) (fun x8_j3 h => ?_)
 ·refine kr ?_
  refine qm (.xi a0) rfl ?_
  refine G_q rfl (op_lss rfl rfl ?_)
  refine qm (.xb (decide (a0 < 0))) rfl ?_
  refine G_split (p := a0 < 0) 5 rfl (fun hc => ?_) (fun hc => ?_)
  ·replace h := ite_t h hc
   refine G_n rfl rfl (G_n rfl rfl ?_)
   refine G_q rfl (zak rfl (av := .xb true) rfl ?_)
   refine G_nil ?_
   refine zac ⟨_, h, ?_⟩
   exact so (lq rfl (lq rfl lt0))
  ·replace h := ite_f h hc
   refine Gy_q rfl rfl rfl (zaf (av := .xi a0) rfl ?_)
   refine Gy_q rfl rfl rfl (op_gtr rfl rfl ?_)
   refine G_q rfl (zah rfl (av := .xb (decide (65535 < a0))) rfl ?_)
   refine G_nil ?_
   refine zac ⟨_, h, ?_⟩
   exact so (lq rfl (lq rfl lt0))
 ·refine kb (p := x8_j3) rfl h (fun hc h => ?_) (fun hc h => ?_)
  ·refine zad (kr ?_)
   refine qa (.xs ([] : List UInt8)) rfl ?_
   refine G_nil (zaa (k_ret (kC_ret ?_)))
   obtain rfl := Option.some.inj h
   refine ke (pt AF0 2 (.xs ([] : List UInt8))) [] rfl ?_ ⟨rfl, rfl⟩
   exact so (lq rfl lt0)
  ·refine k_skip (zaa (zad (kr ?_)))
   refine G_l rfl (op_litI (n := 1) (enc := c_uint8) [10] (by kernel_rfl) (CellsAll.cons rfl CellsOf.int CellsAll.nil) rfl (by kernel_rfl) (LEss.cons (LEs.cons (AV.le_eq rfl) LEs.nil) LEss.nil) (fun v4 => ?_))
   refine qm (.xi a0) rfl ?_
   refine G_q rfl (op_convInt (k := .u16) (by kernel_rfl) rfl rfl ?_)
   obtain ⟨y5, hy5, h⟩ := bnd1_some h
   refine G_l rfl (op_fun_1_1_1 (m_value_append16_ok _ _ _ hy5) Tryz.func96 (by kernel_rfl) (LEs.cons (AV.le_eq rfl) (LEs.cons (AV.le_eq rfl) LEs.nil)) (fun v6 => ?_))
   refine G_r rfl (op_bytesS_bor rfl (by kernel_rfl) (Bor.vec (List.Mem.head _) len_c_uint8) ?_)
   refine qa (.xs y5) rfl ?_
   refine G_nil (zaa (k_ret ?_))
   obtain rfl := Option.some.inj h
   refine ke (pt AF0 2 (.xs y5)) [] rfl ?_ ⟨rfl, rfl⟩
   refine Sub.trans (SubU.to SubU.drop) ?_
   exact so (lq rfl lt0)
set_option maxHeartbeats 4000000 in
theorem m_value_Dot_ok (a0 : Int) (a1 : List (List UInt8)) (r : (List UInt8)) (h : m_value_Dot a0 a1 = some r) : Pure Tryz.prog 62 [(.exact (.int .i64 a0)), (.row 1 zab a1)] (.exact (.string (bs r))) := by
 unfold m_value_Dot at h
 refine Pure.ofFun (fun_of_awp Tryz.func62 rfl Tryz.ntmps62 (by simp) rfl (res1 rfl) fun E hE => k_end ?_)
 refine zad (kr ?_)
 refine qa (.xs ([] : List UInt8)) rfl ?_
 refine G_nil (zaa (zad (kr ?_)))
 refine qm (.xi a0) rfl ?_
 obtain ⟨y1, hy1, h⟩ := bnd1_some h
 refine G_q rfl (zai (m_value_Name_ok _ _ hy1) Tryz.func86 (by kernel_rfl) (LEs.cons (AV.le_eq rfl) LEs.nil) ?_)
 refine G_l rfl (op_litI (n := 1) (enc := zab) [y1] (by kernel_rfl) (CellsAll.cons rfl CellsOf.str CellsAll.nil) rfl (by kernel_rfl) (LEss.cons (LEs.cons (AV.le_eq rfl) LEs.nil) LEss.nil) (fun v2 => ?_))
 refine qm (.row 1 zab a1) rfl ?_
 obtain ⟨n3, h⟩ := need_some h
 refine G_l rfl (op_appT (by kernel_rfl) rfl rfl oc_c_api_Value n3 (fun v4 => ?_))
 refine G_sub rfl (SubU.freezeT (s := 9) rfl len_c_api_Value) ?_
 obtain ⟨y5, hy5, h⟩ := bnd1_some h
 refine G_q rfl (zai (m_value_compound_ok _ _ _ hy5) Tryz.func84 (by kernel_rfl) (LEs.cons (AV.le_eq rfl) (LEs.cons (AV.le_eq rfl) LEs.nil)) ?_)
 refine qa (.xs y5) rfl ?_
 refine G_nil (zaa (k_ret ?_))
 obtain rfl := Option.some.inj h
 refine ke (pt AF0 4 (.xs y5)) [] rfl ?_ ⟨rfl, rfl⟩
 exact so (lq rfl lt0)
set_option maxHeartbeats 4000000 in
theorem m_value_Kind_ok (a0 : List UInt8) (r : Int) (h : m_value_Kind a0 = some r) : Pure Tryz.prog 63 [(.exact (.string (bs a0)))] (.exact (.int .i64 r)) := by
 unfold m_value_Kind at h
 refine Pure.ofFun (fun_of_awp Tryz.func63 rfl Tryz.ntmps63 (by simp) rfl (res1 rfl) fun E hE => k_end ?_)
 refine zad (kr ?_)
 refine qa (.xi 0) rfl ?_
 refine G_nil (zaa (zad (zad (kr ?_))))
 refine qm (.xs a0) rfl ?_
 obtain ⟨y1, hy1, h⟩ := bnd1_some h
 refine G_q rfl (zai (m_value_Valid_ok _ _ hy1) Tryz.func38 (by kernel_rfl) (LEs.cons (AV.le_eq rfl) LEs.nil) ?_)
 refine G_q rfl (op_not rfl ?_)
 refine G_nil (zaa ?_)
 refine kb (p := !y1) rfl h (fun hc h => ?_) (fun hc h => ?_)
 ·refine zad (kr ?_)
  refine qa (.xi 0) rfl ?_
  refine G_nil (zaa (k_ret (kC_ret ?_)))
  obtain rfl := Option.some.inj h
  refine ke (pt AF0 2 (.xi 0)) [] rfl ?_ ⟨rfl, rfl⟩
  exact so (lq rfl lt0)
 ·refine k_skip (zaa (zad (kr ?_)))
  refine qm (.xs a0) rfl ?_
  obtain ⟨n2, h⟩ := need_some h
  refine G_q rfl (op_index_str (by kernel_rfl) rfl rfl n2.1 n2.2 ?_)
  refine G_q rfl (op_convInt (k := .i64) (r := (UInt8.toNat (gi a0 0) : Int)) (by kernel_rfl) rfl (wrap_u8 rfl _) ?_)
  refine qa (.xi (UInt8.toNat (gi a0 0) : Int)) rfl ?_
  refine G_nil (zaa (k_ret ?_))
  obtain rfl := Option.some.inj h
  refine ke (pt AF0 2 (.xi (UInt8.toNat (gi a0 0) : Int))) [] rfl ?_ ⟨rfl, rfl⟩
  exact so (lq rfl lt0)
set_option maxHeartbeats 4000000 in
theorem m_value_Parts_ok (a0 : List UInt8) (r : (List (List UInt8))) (h : m_value_Parts a0 = some r) : Pure Tryz.prog 65 [(.exact (.string (bs a0)))] (.row 1 zab r) := by
 unfold m_value_Parts at h
 refine Pure.ofFun (fun_of_awp Tryz.func65 rfl Tryz.ntmps65 (by simp) rfl (res1 rfl) fun E hE => k_end ?_)
 refine zad (kr ?_)
 refine qa (.exact (.slice none 0 0)) rfl ?_
 refine G_nil (zaa (zad (zad (kr ?_))))
 refine qm (.xs a0) rfl ?_
 obtain ⟨y1, hy1, h⟩ := bnd1_some h
 refine G_q rfl (zai (m_value_Kind_ok _ _ hy1) Tryz.func63 (by kernel_rfl) (LEs.cons (AV.le_eq rfl) LEs.nil) ?_)
 obtain ⟨y2, hy2, h⟩ := bnd1_some h
 refine G_q rfl (zai (m_value_simple_ok _ _ hy2) Tryz.func88 (by kernel_rfl) (LEs.cons (AV.le_eq rfl) LEs.nil) ?_)
 refine G_nil (zaa ?_)
 refine kb (p := y2) rfl h (fun hc h => ?_) (fun hc h => ?_)
 ·refine zad (kr ?_)
  refine qa (.exact (.slice none 0 0)) rfl ?_
  refine G_nil (zaa (k_ret (kC_ret ?_)))
  obtain rfl := Option.some.inj h
  refine ke (pt AF0 2 (.row 1 zab [])) [] rfl ?_ ⟨rfl, rfl⟩
  exact so (AF.le_put (row_nil (by decide)) lt0)
 ·refine k_skip (zaa (zad (kr ?_)))
  refine qm (.xs a0) rfl ?_
  obtain ⟨y3, hy3, h⟩ := bnd1_some h
  refine G_q rfl (zai (m_value_parts_ok _ _ hy3) Tryz.func89 (by kernel_rfl) (LEs.cons (AV.le_eq rfl) LEs.nil) ?_)
  refine qa (.row 1 zab y3) rfl ?_
  refine G_nil (zaa (k_ret ?_))
  obtain rfl := Option.some.inj h
  refine ke (pt AF0 2 (.row 1 zab y3)) [] rfl ?_ ⟨rfl, rfl⟩
  exact so (lq rfl lt0)
set_option maxHeartbeats 4000000 in
theorem m_slices_Grow_L_api_Value_api_Value_ok (a1 : Int) (r : (List (List UInt8))) (h : m_slices_Grow_L_api_Value_api_Value a1 = some r) : Fun Tryz.prog 87 [(.exact (.slice none 0 0)), (.exact (.int .i64 a1))] [] (fun a s => ∃ z0, a = .exact z0 ∧ s = [vecT Tryz.prog 27 1 zab z0 r]) := by
 unfold m_slices_Grow_L_api_Value_api_Value at h
 refine fun_of_awp Tryz.func87 rfl Tryz.ntmps87 (by simp) rfl (res1 rfl) fun E hE => k_end ?_
 refine zad (kr ?_)
 refine qa (.exact (.slice none 0 0)) rfl ?_
 refine G_nil (zaa (zad (zad (kr ?_))))
 refine qm (.xi a1) rfl ?_
 refine G_q rfl (op_lss rfl rfl ?_)
 refine G_nil (zaa ?_)
 refine kd (p := a1 < 0) rfl h (fun hc h => ?_) (fun hc h => ?_)
 ·cases h
 ·refine k_skip (zaa ?_)
  refine k_join1_1 h (fun (x0_j2 : List (List UInt8)) (v0_j2 : Value) => (pt AF0 0 (.exact v0_j2))) (fun (x0_j2 : List (List UInt8)) (v0_j2 : Value) => [vecT Tryz.prog 27 1 zab v0_j2 x0_j2]) (fun k2 h => ?_) (fun x0_j2 v0_j2 h => ?_)
  ·refine zad (kr ?_)
   refine qm (.xi a1) rfl ?_
   refine qm (.exact (.slice none 0 0)) rfl ?_
   refine G_q rfl (op_cap_nil (by kernel_rfl) rfl ?_)
   refine qm (.exact (.slice none 0 0)) rfl ?_
   refine G_q rfl (op_len_slice (by kernel_rfl) rfl ?_)
   refine G_q rfl (op_sub rfl rfl rfl ?_)
   refine G_q rfl (op_sub rfl rfl rfl ?_)
   refine qa (.xi (i64 (a1 - (i64 (0 - 0))))) rfl ?_
   refine G_nil (zaa (zad (kr ?_)))
   refine qm (.xi (i64 (a1 - (i64 (0 - 0))))) rfl ?_
   refine G_q rfl (op_gtr rfl rfl ?_)
   refine G_nil (zaa ?_)
   refine kd (p := 0 < (i64 (a1 - (i64 (0 - 0))))) rfl h (fun hc h => ?_) (fun hc h => ?_)
   ·refine kr ?_
    refine qm (.exact (.slice none 0 0)) rfl ?_
    refine qm (.exact (.slice none 0 0)) rfl ?_
    refine G_q rfl (op_cap_nil (by kernel_rfl) rfl ?_)
    refine G_q rfl (op_slice_nil (n := 1) (by kernel_rfl) rfl (bnd_some rfl) ?_)
    refine qm (.xi (i64 (a1 - (i64 (0 - 0))))) rfl ?_
    obtain ⟨n7, h⟩ := need_some h
    refine G_l rfl (op_appMake0 (kn := .i64) (enc := zab) (zr := []) (by kernel_rfl) (by kernel_rfl) rfl rfl n7.1 n7.2 len_c_api_Value Tryz.zeroValue30 (fun _ _ => (Fit.ex Fit.nil0)) (fun v8 => ?_))
    refine qm (.exact (.slice none 0 0)) rfl ?_
    refine G_q rfl (op_len_slice (by kernel_rfl) rfl ?_)
    obtain ⟨n9, h⟩ := need_some h
    refine G_l rfl (op_trunc (by kernel_rfl) len_c_api_Value rfl (bnd_some rfl) n9.1 n9.2 (fun v10 => ?_))
    refine qa (.exact v10) rfl ?_
    refine G_nil ?_
    refine zac ⟨_, v10, h, ?_⟩
    exact so (lq rfl lt0)
   ·refine k_skip ?_
    refine zac ⟨_, (.slice none 0 0), h, ?_⟩
    refine Sub.trans (SubU.to (SubU.nilT (P := Tryz.prog) (t := 27) (n := 1) (enc := zab))) ?_
    exact so (lq rfl lt0)
  ·refine zad (kr ?_)
   refine qm (.exact v0_j2) rfl ?_
   refine qa (.exact v0_j2) rfl ?_
   refine G_nil (zaa (k_ret ?_))
   obtain rfl := Option.some.inj h
   refine ke (pt AF0 4 (.exact v0_j2)) [vecT Tryz.prog 27 1 zab v0_j2 x0_j2] rfl ?_ ⟨v0_j2, rfl, rfl⟩
   exact so (lq rfl lt0)
set_option maxHeartbeats 4000000 in
theorem m_slices_Concat_L_api_Value_api_Value_ok (a0 : List (List (List UInt8))) (r : (List (List UInt8))) (h : m_slices_Concat_L_api_Value_api_Value a0 = some r) : Pure Tryz.prog 64 [(.row 1 c_L_api_Value a0)] (.row 1 zab r) := by
 unfold m_slices_Concat_L_api_Value_api_Value at h
 refine Pure.ofFun (fun_of_awp Tryz.func64 rfl Tryz.ntmps64 (by simp) rfl (res1 rfl) fun E hE => k_end ?_)
 refine zad (kr ?_)
 refine qa (.exact (.slice none 0 0)) rfl ?_
 refine G_nil (zaa (zad (kr ?_)))
 refine qa (.xi 0) rfl ?_
 refine G_nil (zaa ?_)
 refine k_join1_0 h (fun (x3_j1 : Int) => (pt (pt AF0 0 (.row 1 c_L_api_Value a0)) 3 (.xi x3_j1))) (fun (x3_j1 : Int) => []) (fun k1 h => ?_) (fun x3_j1 h => ?_)
 ·refine zad (kr ?_)
  refine qm (.row 1 c_L_api_Value a0) rfl ?_
  refine G_q rfl (op_len_row (by kernel_rfl) rfl ?_)
  refine qm (.xi 0) rfl ?_
  refine G_nil (zaa (k_block ?_))
  refine k_loop2_0 (m_slices_Concat_L_api_Value_api_Value_L2 a0 k1) (m_slices_Concat_L_api_Value_api_Value_B2 a0 k1) (fun _ _ => rfl) (fun m _ _ => rfl) h (fun (x3_l2 : Int) (x11_l2 : Int) => (pt (pt (pt (pt (pt AF0 0 (.row 1 c_L_api_Value a0)) 3 (.xi x3_l2)) 9 (.row 1 c_L_api_Value a0)) 10 (.xi (List.length a0 : Int))) 11 (.xi x11_l2))) (fun (x3_l2 : Int) (x11_l2 : Int) => []) ?_ (fun rec2 x3_l2 x11_l2 h => ?_)
  ·exact so (l4 rfl rfl rfl rfl (lq rfl lt0))
  ·unfold m_slices_Concat_L_api_Value_api_Value_B2 at h
   refine zad (kr ?_)
   refine G_q rfl (op_lss rfl rfl ?_)
   refine G_nil (zaa (zad ?_))
   refine kd (p := x11_l2 < (List.length a0 : Int)) rfl h (fun hc h => ?_) (fun hc h => ?_)
   ·refine k_skip (zaa (zad (k_block (zad (kr ?_)))))
    obtain ⟨n20, h⟩ := need_some h
    refine G_q rfl (zam (by kernel_rfl) rfl rfl n20.1 n20.2 ?_)
    refine G_q rfl (zal (a := .row 1 zab (gi a0 x11_l2)) (by kernel_rfl) rfl rfl ?_)
    refine qa (.row 1 zab (gi a0 x11_l2)) rfl ?_
    refine G_nil (zaa (zad (kr ?_)))
    refine qm (.xi x3_l2) rfl ?_
    refine qm (.row 1 zab (gi a0 x11_l2)) rfl ?_
    refine G_q rfl (op_len_row (by kernel_rfl) rfl ?_)
    refine G_q rfl (op_add rfl rfl rfl ?_)
    refine qa (.xi (i64 (x3_l2 + (List.length (gi a0 x11_l2) : Int)))) rfl ?_
    refine G_nil (zaa (zad (kr ?_)))
    refine qm (.xi (i64 (x3_l2 + (List.length (gi a0 x11_l2) : Int)))) rfl ?_
    refine G_q rfl (op_lss rfl rfl ?_)
    refine G_nil (zaa ?_)
    refine kd (p := (i64 (x3_l2 + (List.length (gi a0 x11_l2) : Int))) < 0) rfl h (fun hc h => ?_) (fun hc h => ?_)
    ·cases h
    ·refine k_skip (kB_normal (zaa (kr ?_)))
     refine G_q rfl (op_add rfl rfl rfl ?_)
     refine qm (.xi (i64 (x11_l2 + 1))) rfl ?_
     refine G_nil ?_
     refine zac ⟨_, _, h, ?_⟩
     exact so (l4 rfl rfl rfl rfl (lq rfl lt0))
   ·refine k_exit (kC_exit (kI_exit (kB_exit ?_)))
    refine zac ⟨_, h, ?_⟩
    exact so (lq rfl (lq rfl lt0))
 ·refine zad (kr ?_)
  refine qm (.xi x3_j1) rfl ?_
  obtain ⟨y21, hy21, h⟩ := bnd1_some h
  refine G_l rfl (op_fun_0_1_1 (m_slices_Grow_L_api_Value_api_Value_ok _ _ hy21) Tryz.func87 (by kernel_rfl) (LEs.cons (AV.le_eq rfl) (LEs.cons (AV.le_eq rfl) LEs.nil)) (fun v22 => ?_))
  refine qa (.exact v22) rfl ?_
  refine G_nil (zaa ?_)
  refine k_join1_1 h (fun (x6_j23 : List (List UInt8)) (v6_j23 : Value) => (pt AF0 6 (.exact v6_j23))) (fun (x6_j23 : List (List UInt8)) (v6_j23 : Value) => [vecT Tryz.prog 27 1 zab v6_j23 x6_j23]) (fun k23 h => ?_) (fun x6_j23 v6_j23 h => ?_)
  ·refine zad (kr ?_)
   refine qm (.row 1 c_L_api_Value a0) rfl ?_
   refine G_q rfl (op_len_row (by kernel_rfl) rfl ?_)
   refine qm (.xi 0) rfl ?_
   refine G_nil (zaa (k_block ?_))
   refine k_loop2_1 (m_slices_Concat_L_api_Value_api_Value_L4 a0 k23) (m_slices_Concat_L_api_Value_api_Value_B4 a0 k23) (fun _ _ => rfl) (fun m _ _ => rfl) h (fun (x6_l4 : List (List UInt8)) (x27_l4 : Int) (v6_l4 : Value) => (pt (pt (pt (pt AF0 6 (.exact v6_l4)) 25 (.row 1 c_L_api_Value a0)) 26 (.xi (List.length a0 : Int))) 27 (.xi x27_l4))) (fun (x6_l4 : List (List UInt8)) (x27_l4 : Int) (v6_l4 : Value) => [vecT Tryz.prog 27 1 zab v6_l4 x6_l4]) v22 ?_ (fun rec4 x6_l4 x27_l4 v6_l4 h => ?_)
   ·exact so (l4 rfl rfl rfl rfl lt0)
   ·unfold m_slices_Concat_L_api_Value_api_Value_B4 at h
    refine zad (kr ?_)
    refine G_q rfl (op_lss rfl rfl ?_)
    refine G_nil (zaa (zad ?_))
    refine kd (p := x27_l4 < (List.length a0 : Int)) rfl h (fun hc h => ?_) (fun hc h => ?_)
    ·refine k_skip (zaa (zad (k_block (zad (kr ?_)))))
     obtain ⟨n40, h⟩ := need_some h
     refine G_q rfl (zam (by kernel_rfl) rfl rfl n40.1 n40.2 ?_)
     refine G_q rfl (zal (a := .row 1 zab (gi a0 x27_l4)) (by kernel_rfl) rfl rfl ?_)
     refine qa (.row 1 zab (gi a0 x27_l4)) rfl ?_
     refine G_nil (zaa (kr ?_))
     refine qm (.exact v6_l4) rfl ?_
     refine qm (.row 1 zab (gi a0 x27_l4)) rfl ?_
     obtain ⟨n41, h⟩ := need_some h
     refine G_l rfl (op_appT (by kernel_rfl) rfl rfl oc_c_api_Value n41 (fun v42 => ?_))
     refine qa (.exact v42) rfl ?_
     refine G_nil (kB_normal (zaa (kr ?_)))
     refine G_q rfl (op_add rfl rfl rfl ?_)
     refine qm (.xi (i64 (x27_l4 + 1))) rfl ?_
     refine G_nil ?_
     refine zac ⟨_, _, v42, h, ?_⟩
     exact so (l4 rfl rfl rfl rfl lt0)
    ·refine k_exit (kC_exit (kI_exit (kB_exit ?_)))
     refine zac ⟨_, v6_l4, h, ?_⟩
     exact so (lq rfl lt0)
  ·refine zad (kr ?_)
   refine qm (.exact v6_j23) rfl ?_
   refine qa (.exact v6_j23) rfl ?_
   refine G_nil (zaa (k_ret ?_))
   obtain rfl := Option.some.inj h
   refine ke (pt AF0 2 (.row 1 zab x6_j23)) [] rfl ?_ ⟨rfl, rfl⟩
   refine Sub.trans (SubU.to (SubU.freezeT (s := 2) rfl len_c_api_Value)) ?_
   exact so (lq rfl lt0)
set_option maxHeartbeats 4000000 in
theorem m_pattern_node_build_F_ok (self_pattern_node_build : Nd → (List (List UInt8)) → Option ((List UInt8) × (List (List UInt8)))) (hself_pattern_node_build : ∀ (a0 : Nd) (a1 : List (List UInt8)) (r : (List UInt8) × (List (List UInt8))), self_pattern_node_build a0 a1 = some r → Pure Tryz.prog 37 [(ndA a0), (.row 1 zab a1)] (.tup [.exact (.string (bs r.1)), .row 1 zab r.2])) (a0 : Nd) (a1 : List (List UInt8)) (r : (List UInt8) × (List (List UInt8))) (h : m_pattern_node_build_F self_pattern_node_build a0 a1 = some r) : Pure Tryz.prog 37 [(ndA a0), (.row 1 zab a1)] (.tup [.exact (.string (bs r.1)), .row 1 zab r.2]) := by
 unfold m_pattern_node_build_F at h
 refine Pure.ofFun (fun_of_awp Tryz.func37 rfl Tryz.ntmps37 (by simp) rfl (res2 rfl) fun E hE => k_end ?_)
 refine zad (kr ?_)
 refine qa (.xs ([] : List UInt8)) rfl ?_
 refine qa (.exact (.slice none 0 0)) rfl ?_
 refine G_nil (zaa (zad (zad (kr ?_))))
 refine qm (ndA a0) rfl ?_
 obtain ⟨y1, hy1, h⟩ := bnd1_some h
 refine G_q rfl (zan (c := zag y1) (ndA_un hy1) ?_)
 refine G_q rfl (zaj (o := 0) (c' := (List.drop 0 (zag y1))) (by kernel_rfl) rfl rfl ?_)
 refine G_q rfl (zal (a := .xi y1.1) (by kernel_rfl) rfl rfl ?_)
 refine G_nil (zaa (k_block (zad (kr ?_))))
 refine G_q rfl (op_eql rfl rfl ?_)
 refine qa (.xb (decide (y1.1 = 30))) rfl ?_
 refine G_nil (zaa ?_)
 refine kd (p := y1.1 = 30) rfl h (fun hc h => ?_) (fun hc h => ?_)
 ·refine zad ?_
  refine k_plan [] [(0, 0), (0, 1), (0, 2), (0, 3), (0, 4), (0, 5), (0, 6)] hmixP (by kernel_rfl) ?_
  refine P_q no34_0 rfl (zaf (av := .row 1 zab a1) rfl ?_)
  obtain ⟨n2, h⟩ := need_some h
  refine P_q no34_0 rfl (zam (by kernel_rfl) rfl rfl n2.1 n2.2 ?_)
  refine P_q no34_0 rfl (zal (a := .xs (gi a1 0)) (by kernel_rfl) rfl rfl ?_)
  refine P_q no34_0 rfl (zaf (av := .row 1 zab a1) rfl ?_)
  obtain ⟨n3, h⟩ := need_some h
  refine P_q no34_0 rfl (op_slice_rowd (by kernel_rfl) rfl (bnd_some rfl) bnd_none (by decide) n3 (Int.le_refl _) ?_)
  refine P_q no34_0 rfl (op_assign (av := .xs (gi a1 0)) rfl ?_)
  refine P_q no34_0 rfl (op_assign (av := .row 1 zab (List.drop (Int.toNat 1) a1)) rfl ?_)
  refine P_nil (zaa (k_ret (kB_ret (kC_ret ?_))))
  obtain rfl := Option.some.inj h
  refine ke (pt (pt AF0 4 (.xs (gi a1 0))) 5 (.row 1 zab (List.drop (Int.toNat 1) a1))) [] rfl ?_ ⟨rfl, rfl⟩
  exact so (lq rfl (lq rfl lt0))
 ·refine zad (kr ?_)
  refine G_q rfl (op_eql rfl rfl ?_)
  refine qa (.xb (decide (y1.1 = 32))) rfl ?_
  refine G_nil (zaa ?_)
  refine kd (p := y1.1 = 32) rfl h (fun hc h => ?_) (fun hc h => ?_)
  ·refine zad (kr ?_)
   refine qm (ndA a0) rfl ?_
   obtain ⟨y4, hy4, h⟩ := bnd1_some h
   refine G_q rfl (zan (c := zag y4) (ndA_un hy4) ?_)
   refine G_q rfl (zaj (o := 1) (c' := (List.drop 1 (zag y4))) (by kernel_rfl) rfl rfl ?_)
   refine G_q rfl (zal (a := .xi y4.2.1) (by kernel_rfl) rfl rfl ?_)
   obtain ⟨y5, hy5, h⟩ := bnd1_some h
   refine G_q rfl (zai (m_value_Int_ok _ _ hy5) Tryz.func57 (by kernel_rfl) (LEs.cons (AV.le_eq rfl) LEs.nil) ?_)
   refine qm (.row 1 zab a1) rfl ?_
   refine qa (.xs y5) rfl ?_
   refine qa (.row 1 zab a1) rfl ?_
   refine G_nil (zaa (k_ret (kB_ret (kC_ret ?_))))
   obtain rfl := Option.some.inj h
   refine ke (pt (pt AF0 4 (.xs y5)) 5 (.row 1 zab a1)) [] rfl ?_ ⟨rfl, rfl⟩
   exact so (lq rfl (lq rfl lt0))
  ·refine zad (kr ?_)
   refine G_q rfl (op_eql rfl rfl ?_)
   refine qa (.xb (decide (y1.1 = 33))) rfl ?_
   refine G_nil (zaa ?_)
   refine kd (p := y1.1 = 33) rfl h (fun hc h => ?_) (fun hc h => ?_)
   ·refine zad (kr ?_)
    refine qm (ndA a0) rfl ?_
    obtain ⟨y6, hy6, h⟩ := bnd1_some h
    refine G_q rfl (zan (c := zag y6) (ndA_un hy6) ?_)
    refine G_q rfl (zaj (o := 1) (c' := (List.drop 1 (zag y6))) (by kernel_rfl) rfl rfl ?_)
    refine G_q rfl (zal (a := .xi y6.2.1) (by kernel_rfl) rfl rfl ?_)
    refine G_q rfl (op_eql rfl rfl ?_)
    obtain ⟨y7, hy7, h⟩ := bnd1_some h
    refine G_q rfl (zai (m_value_Bool_ok _ _ hy7) Tryz.func58 (by kernel_rfl) (LEs.cons (AV.le_eq rfl) LEs.nil) ?_)
    refine qm (.row 1 zab a1) rfl ?_
    refine qa (.xs y7) rfl ?_
    refine qa (.row 1 zab a1) rfl ?_
    refine G_nil (zaa (k_ret (kB_ret (kC_ret ?_))))
    obtain rfl := Option.some.inj h
    refine ke (pt (pt AF0 4 (.xs y7)) 5 (.row 1 zab a1)) [] rfl ?_ ⟨rfl, rfl⟩
    exact so (lq rfl (lq rfl lt0))
   ·refine k_skip (kB_normal (zaa (zad (kr ?_))))
    refine qa (.exact (.slice none 0 0)) rfl ?_
    refine G_nil (zaa ?_)
    refine k_join2_1 h (fun (x1_j8 : List (List UInt8)) (x6_j8 : List (List UInt8)) (v6_j8 : Value) => (pt (pt (pt AF0 0 (ndA a0)) 1 (.row 1 zab x1_j8)) 6 (.exact v6_j8))) (fun (x1_j8 : List (List UInt8)) (x6_j8 : List (List UInt8)) (v6_j8 : Value) => [vecT Tryz.prog 27 1 zab v6_j8 x6_j8]) (fun k8 h => ?_) (fun x1_j8 x6_j8 v6_j8 h => ?_)
    ·refine zad (kr ?_)
     refine qm (ndA a0) rfl ?_
     obtain ⟨y23, hy23, h⟩ := bnd1_some h
     refine G_q rfl (zan (c := zag y23) (ndA_un hy23) ?_)
     refine G_q rfl (zaj (o := 2) (c' := (List.drop 2 (zag y23))) (by kernel_rfl) rfl rfl ?_)
     refine G_q rfl (zal (a := .row 1 c_P_pattern_node y23.2.2) (by kernel_rfl) rfl rfl ?_)
     refine G_q rfl (op_len_row (by kernel_rfl) rfl ?_)
     refine qm (.xi 0) rfl ?_
     refine G_nil (zaa (k_block ?_))
     refine k_loop3_1 (m_pattern_node_build_L2 self_pattern_node_build k8 y23) (m_pattern_node_build_B2 self_pattern_node_build k8 y23) (fun _ _ _ => rfl) (fun m _ _ _ => rfl) h (fun (x1_l2 : List (List UInt8)) (x6_l2 : List (List UInt8)) (x45_l2 : Int) (v6_l2 : Value) => (pt (pt (pt (pt (pt (pt AF0 0 (ndA a0)) 1 (.row 1 zab x1_l2)) 6 (.exact v6_l2)) 43 (.row 1 c_P_pattern_node y23.2.2)) 44 (.xi (List.length y23.2.2 : Int))) 45 (.xi x45_l2))) (fun (x1_l2 : List (List UInt8)) (x6_l2 : List (List UInt8)) (x45_l2 : Int) (v6_l2 : Value) => [vecT Tryz.prog 27 1 zab v6_l2 x6_l2]) (.slice none 0 0) ?_ (fun rec2 x1_l2 x6_l2 x45_l2 v6_l2 h => ?_)
     ·refine Sub.trans (SubU.to (SubU.nilT (P := Tryz.prog) (t := 27) (n := 1) (enc := zab))) ?_
      exact so (l4 rfl rfl rfl rfl (lq rfl (lq rfl lt0)))
     ·unfold m_pattern_node_build_B2 at h
      refine zad (kr ?_)
      refine G_q rfl (op_lss rfl rfl ?_)
      refine G_nil (zaa (zad ?_))
      refine kd (p := x45_l2 < (List.length y23.2.2 : Int)) rfl h (fun hc h => ?_) (fun hc h => ?_)
      ·refine k_skip (zaa (zad (k_block (zad (kr ?_)))))
       obtain ⟨n32, h⟩ := need_some h
       refine G_q rfl (zam (by kernel_rfl) rfl rfl n32.1 n32.2 ?_)
       refine G_q rfl (zal (a := ndA (gi y23.2.2 x45_l2)) (by kernel_rfl) rfl rfl ?_)
       refine qa (ndA (gi y23.2.2 x45_l2)) rfl ?_
       refine G_nil (zaa (zad (kr ?_)))
       refine qm (ndA (gi y23.2.2 x45_l2)) rfl ?_
       refine qm (.row 1 zab x1_l2) rfl ?_
       obtain ⟨y33, hy33, h⟩ := bnd1_some h
       refine G_q rfl (zai (hself_pattern_node_build _ _ _ hy33) Tryz.func37 (by kernel_rfl) (LEs.cons (AV.le_eq rfl) (LEs.cons (AV.le_eq rfl) LEs.nil)) ?_)
       refine qm (.tup [.xs y33.1, .row 1 zab y33.2]) rfl ?_
       refine G_q rfl (op_extract (av := .xs y33.1) rfl rfl ?_)
       refine G_q rfl (op_extract (av := .row 1 zab y33.2) rfl rfl ?_)
       refine qa (.xs y33.1) rfl ?_
       refine qa (.row 1 zab y33.2) rfl ?_
       refine G_nil (zaa (zad (kr ?_)))
       refine qm (.exact v6_l2) rfl ?_
       refine qm (.xs y33.1) rfl ?_
       refine G_q rfl (op_litT (n := 1) (enc := zab) [y33.1] (CellsAll.cons rfl CellsOf.str CellsAll.nil) rfl (by kernel_rfl) (LEss.cons (LEs.cons (AV.le_eq rfl) LEs.nil) LEss.nil) ?_)
       obtain ⟨n34, h⟩ := need_some h
       refine G_l rfl (op_appT (by kernel_rfl) rfl rfl oc_c_api_Value n34 (fun v35 => ?_))
       refine qa (.exact v35) rfl ?_
       refine G_nil (zaa (kr ?_))
       refine qm (.row 1 zab y33.2) rfl ?_
       refine qa (.row 1 zab y33.2) rfl ?_
       refine G_nil (kB_normal (zaa (kr ?_)))
       refine G_q rfl (op_add rfl rfl rfl ?_)
       refine qm (.xi (i64 (x45_l2 + 1))) rfl ?_
       refine G_nil ?_
       refine zac ⟨_, _, _, v35, h, ?_⟩
       exact so (l4 rfl rfl rfl rfl (lq rfl (lq rfl lt0)))
      ·refine k_exit (kC_exit (kI_exit (kB_exit ?_)))
       refine zac ⟨_, _, v6_l2, h, ?_⟩
       exact so (lq rfl (lq rfl (lq rfl lt0)))
    ·refine zad (zad (kr ?_))
     refine qm (ndA a0) rfl ?_
     obtain ⟨y36, hy36, h⟩ := bnd1_some h
     refine G_q rfl (zan (c := zag y36) (ndA_un hy36) ?_)
     refine G_q rfl (zaj (o := 0) (c' := (List.drop 0 (zag y36))) (by kernel_rfl) rfl rfl ?_)
     refine G_q rfl (zal (a := .xi y36.1) (by kernel_rfl) rfl rfl ?_)
     refine G_nil (zaa (k_block (zad (kr ?_))))
     refine G_q rfl (op_eql rfl rfl ?_)
     refine qa (.xb (decide (y36.1 = 34))) rfl ?_
     refine G_nil (zaa ?_)
     refine kd (p := y36.1 = 34) rfl h (fun hc h => ?_) (fun hc h => ?_)
     ·refine zad (kr ?_)
      refine qm (.exact v6_j8) rfl ?_
      refine G_sub rfl (SubU.freezeT2 (s1 := 6) (s2 := 67) rfl rfl len_c_api_Value) ?_
      obtain ⟨y37, hy37, h⟩ := bnd1_some h
      refine G_q rfl (zai (m_value_Tuple_ok _ _ hy37) Tryz.func59 (by kernel_rfl) (LEs.cons (AV.le_eq rfl) LEs.nil) ?_)
      refine qm (.row 1 zab x1_j8) rfl ?_
      refine qa (.xs y37) rfl ?_
      refine qa (.row 1 zab x1_j8) rfl ?_
      refine G_nil (zaa (k_ret (kB_ret (kC_ret ?_))))
      obtain rfl := Option.some.inj h
      refine ke (pt (pt AF0 4 (.xs y37)) 5 (.row 1 zab x1_j8)) [] rfl ?_ ⟨rfl, rfl⟩
      exact so (lq rfl (lq rfl lt0))
     ·refine zad (kr ?_)
      refine G_q rfl (op_eql rfl rfl ?_)
      refine qa (.xb (decide (y36.1 = 35))) rfl ?_
      refine G_nil (zaa ?_)
      refine kd (p := y36.1 = 35) rfl h (fun hc h => ?_) (fun hc h => ?_)
      ·refine zad (kr ?_)
       refine qm (.exact v6_j8) rfl ?_
       refine G_sub rfl (SubU.freezeT2 (s1 := 6) (s2 := 72) rfl rfl len_c_api_Value) ?_
       obtain ⟨y38, hy38, h⟩ := bnd1_some h
       refine G_q rfl (zai (m_value_Seq_ok _ _ hy38) Tryz.func60 (by kernel_rfl) (LEs.cons (AV.le_eq rfl) LEs.nil) ?_)
       refine qm (.row 1 zab x1_j8) rfl ?_
       refine qa (.xs y38) rfl ?_
       refine qa (.row 1 zab x1_j8) rfl ?_
       refine G_nil (zaa (k_ret (kB_ret (kC_ret ?_))))
       obtain rfl := Option.some.inj h
       refine ke (pt (pt AF0 4 (.xs y38)) 5 (.row 1 zab x1_j8)) [] rfl ?_ ⟨rfl, rfl⟩
       exact so (lq rfl (lq rfl lt0))
      ·refine zad (kr ?_)
       refine G_q rfl (op_eql rfl rfl ?_)
       refine qa (.xb (decide (y36.1 = 37))) rfl ?_
       refine G_nil (zaa ?_)
       refine kd (p := y36.1 = 37) rfl h (fun hc h => ?_) (fun hc h => ?_)
       ·refine zad (kr ?_)
        refine qm (.exact v6_j8) rfl ?_
        refine G_sub rfl (SubU.freezeT2 (s1 := 6) (s2 := 77) rfl rfl len_c_api_Value) ?_
        obtain ⟨y39, hy39, h⟩ := bnd1_some h
        refine G_q rfl (zai (m_value_Set_ok _ _ hy39) Tryz.func61 (by kernel_rfl) (LEs.cons (AV.le_eq rfl) LEs.nil) ?_)
        refine qm (.row 1 zab x1_j8) rfl ?_
        refine qa (.xs y39) rfl ?_
        refine qa (.row 1 zab x1_j8) rfl ?_
        refine G_nil (zaa (k_ret (kB_ret (kC_ret ?_))))
        obtain rfl := Option.some.inj h
        refine ke (pt (pt AF0 4 (.xs y39)) 5 (.row 1 zab x1_j8)) [] rfl ?_ ⟨rfl, rfl⟩
        exact so (lq rfl (lq rfl lt0))
       ·refine zad (kr ?_)
        refine G_q rfl (op_eql rfl rfl ?_)
        refine qa (.xb (decide (y36.1 = 38))) rfl ?_
        refine G_nil (zaa ?_)
        refine kd (p := y36.1 = 38) rfl h (fun hc h => ?_) (fun hc h => ?_)
        ·refine zad ?_
         refine k_join1_0 h (fun (x93_j46 : Bool) => (pt (pt (pt (pt AF0 0 (ndA a0)) 1 (.row 1 zab x1_j8)) 6 (.exact v6_j8)) 93 (.xb x93_j46))) (fun (x93_j46 : Bool) => [vecT Tryz.prog 27 1 zab v6_j8 x6_j8]) (fun k46 h => ?_) (fun x93_j46 h => ?_)
         ·refine kr ?_
          refine qm (ndA a0) rfl ?_
          obtain ⟨y49, hy49, h⟩ := bnd1_some h
          refine G_q rfl (zan (c := zag y49) (ndA_un hy49) ?_)
          refine G_q rfl (zaj (o := 1) (c' := (List.drop 1 (zag y49))) (by kernel_rfl) rfl rfl ?_)
          refine G_q rfl (zal (a := .xi y49.2.1) (by kernel_rfl) rfl rfl ?_)
          refine G_q rfl (op_lss rfl rfl ?_)
          refine qm (.xb (decide (y49.2.1 < 0))) rfl ?_
          refine G_split (p := y49.2.1 < 0) 87 rfl (fun hc => ?_) (fun hc => ?_)
          ·replace h := ite_t h hc
           refine G_n rfl rfl (G_n rfl rfl (G_n rfl rfl (G_n rfl rfl (G_n rfl rfl ?_))))
           refine G_q rfl (zak rfl (av := .xb true) rfl ?_)
           refine G_nil ?_
           refine zac ⟨_, h, ?_⟩
           exact so (l4 rfl rfl rfl rfl lt0)
          ·replace h := ite_f h hc
           refine Gy_q rfl rfl rfl (zaf (av := ndA a0) rfl ?_)
           obtain ⟨y50, hy50, h⟩ := bnd1_some h
           refine Gy_q rfl rfl rfl (zan (c := zag y50) (ndA_un hy50) ?_)
           refine Gy_q rfl rfl rfl (zaj (o := 1) (c' := (List.drop 1 (zag y50))) (by kernel_rfl) rfl rfl ?_)
           refine Gy_q rfl rfl rfl (zal (a := .xi y50.2.1) (by kernel_rfl) rfl rfl ?_)
           refine Gy_q rfl rfl rfl (op_geq rfl rfl ?_)
           refine G_q rfl (zah rfl (av := .xb (decide (65536 ≤ y50.2.1))) rfl ?_)
           refine G_nil ?_
           refine zac ⟨_, h, ?_⟩
           exact so (l4 rfl rfl rfl rfl lt0)
         ·refine kb (p := x93_j46) rfl h (fun hc h => ?_) (fun hc h => ?_)
          ·refine zad (kr ?_)
           refine qm (.row 1 zab x1_j8) rfl ?_
           refine qa (.xs ([] : List UInt8)) rfl ?_
           refine qa (.row 1 zab x1_j8) rfl ?_
           refine G_nil (zaa (k_ret (kC_ret (kB_ret (kC_ret ?_)))))
           obtain rfl := Option.some.inj h
           refine ke (pt (pt AF0 4 (.xs ([] : List UInt8))) 5 (.row 1 zab x1_j8)) [] rfl ?_ ⟨rfl, rfl⟩
           refine Sub.trans (SubU.to SubU.drop) ?_
           exact so (lq rfl (lq rfl lt0))
          ·refine k_skip (zaa (zad (kr ?_)))
           refine qm (ndA a0) rfl ?_
           obtain ⟨y51, hy51, h⟩ := bnd1_some h
           refine G_q rfl (zan (c := zag y51) (ndA_un hy51) ?_)
           refine G_q rfl (zaj (o := 1) (c' := (List.drop 1 (zag y51))) (by kernel_rfl) rfl rfl ?_)
           refine G_q rfl (zal (a := .xi y51.2.1) (by kernel_rfl) rfl rfl ?_)
           refine qm (.exact v6_j8) rfl ?_
           refine G_sub rfl (SubU.freezeT2 (s1 := 6) (s2 := 99) rfl rfl len_c_api_Value) ?_
           obtain ⟨y52, hy52, h⟩ := bnd1_some h
           refine G_q rfl (zai (m_value_Dot_ok _ _ _ hy52) Tryz.func62 (by kernel_rfl) (LEs.cons (AV.le_eq rfl) (LEs.cons (AV.le_eq rfl) LEs.nil)) ?_)
           refine qm (.row 1 zab x1_j8) rfl ?_
           refine qa (.xs y52) rfl ?_
           refine qa (.row 1 zab x1_j8) rfl ?_
           refine G_nil (zaa (k_ret (kB_ret (kC_ret ?_))))
           obtain rfl := Option.some.inj h
           refine ke (pt (pt AF0 4 (.xs y52)) 5 (.row 1 zab x1_j8)) [] rfl ?_ ⟨rfl, rfl⟩
           exact so (lq rfl (lq rfl lt0))
        ·refine k_skip (kB_normal (zaa (zad (kr ?_))))
         refine qm (.exact v6_j8) rfl ?_
         refine qm (ndA a0) rfl ?_
         obtain ⟨y53, hy53, h⟩ := bnd1_some h
         refine G_q rfl (zan (c := zag y53) (ndA_un hy53) ?_)
         refine G_q rfl (zaj (o := 1) (c' := (List.drop 1 (zag y53))) (by kernel_rfl) rfl rfl ?_)
         refine G_q rfl (zal (a := .xi y53.2.1) (by kernel_rfl) rfl rfl ?_)
         obtain ⟨n54, h⟩ := need_some h
         refine G_r rfl (op_index_vec (by kernel_rfl) rfl rfl n54.1 n54.2 ?_)
         refine G_r rfl (op_load_vec1 (i := y53.2.1) (o := 0) (a := .xs (gi x6_j8 y53.2.1)) (by kernel_rfl) len_c_api_Value rfl n54.1 n54.2 rfl ?_)
         refine qa (.xs (gi x6_j8 y53.2.1)) rfl ?_
         refine G_nil (zaa (zad (zad (kr ?_))))
         refine qm (.xs (gi x6_j8 y53.2.1)) rfl ?_
         obtain ⟨y55, hy55, h⟩ := bnd1_some h
         refine G_q rfl (zai (m_value_Kind_ok _ _ hy55) Tryz.func63 (by kernel_rfl) (LEs.cons (AV.le_eq rfl) LEs.nil) ?_)
         refine G_q rfl (op_neq rfl rfl ?_)
         refine G_nil (zaa ?_)
         refine kd (p := ¬ y55 = 4) rfl h (fun hc h => ?_) (fun hc h => ?_)
         ·refine zad (kr ?_)
          refine qm (.row 1 zab x1_j8) rfl ?_
          refine qa (.xs ([] : List UInt8)) rfl ?_
          refine qa (.row 1 zab x1_j8) rfl ?_
          refine G_nil (zaa (k_ret (kC_ret ?_)))
          obtain rfl := Option.some.inj h
          refine ke (pt (pt AF0 4 (.xs ([] : List UInt8))) 5 (.row 1 zab x1_j8)) [] rfl ?_ ⟨rfl, rfl⟩
          refine Sub.trans (SubU.to SubU.drop) ?_
          exact so (lq rfl (lq rfl lt0))
         ·refine k_skip (zaa (zad ?_))
          refine awp_sub (SubU.to (SubU.freezeT2 (s1 := 6) (s2 := 102) rfl rfl len_c_api_Value)) ?_
          refine k_plan [] [(0, 0), (0, 1), (0, 2), (0, 3), (0, 4), (0, 5), (0, 6), (0, 7), (0, 8), (0, 9), (0, 10), (0, 11), (0, 12), (0, 13), (0, 14), (0, 15), (0, 16), (0, 17), (0, 18), (0, 19), (0, 20)] hmixP (by kernel_rfl) ?_
          refine P_q no34_0 rfl (zaf (av := .row 1 zab x6_j8) rfl ?_)
          refine P_q no34_0 rfl (zaf (av := ndA a0) rfl ?_)
          obtain ⟨y57, hy57, h⟩ := bnd1_some h
          refine P_q no34_0 rfl (zan (c := zag y57) (ndA_un hy57) ?_)
          refine P_q no34_0 rfl (zaj (o := 1) (c' := (List.drop 1 (zag y57))) (by kernel_rfl) rfl rfl ?_)
          refine P_q no34_0 rfl (zal (a := .xi y57.2.1) (by kernel_rfl) rfl rfl ?_)
          obtain ⟨n58, h⟩ := need_some h
          refine P_q no34_0 rfl (op_slice_rowt (by kernel_rfl) rfl bnd_none (bnd_some rfl) (Int.le_refl 0) n58.1 n58.2 ?_)
          refine P_q no34_0 rfl (zaf (av := .xs (gi x6_j8 y53.2.1)) rfl ?_)
          obtain ⟨y59, hy59, h⟩ := bnd1_some h
          refine P_q no34_0 rfl (zai (m_value_Parts_ok _ _ hy59) Tryz.func65 (by kernel_rfl) (LEs.cons (AV.le_eq rfl) LEs.nil) ?_)
          refine P_q no34_0 rfl (zaf (av := .row 1 zab x6_j8) rfl ?_)
          refine P_q no34_0 rfl (zaf (av := ndA a0) rfl ?_)
          obtain ⟨y60, hy60, h⟩ := bnd1_some h
          refine P_q no34_0 rfl (zan (c := zag y60) (ndA_un hy60) ?_)
          refine P_q no34_0 rfl (zaj (o := 1) (c' := (List.drop 1 (zag y60))) (by kernel_rfl) rfl rfl ?_)
          refine P_q no34_0 rfl (zal (a := .xi y60.2.1) (by kernel_rfl) rfl rfl ?_)
          refine P_q no34_0 rfl (op_add rfl rfl rfl ?_)
          obtain ⟨n61, h⟩ := need_some h
          refine P_q no34_0 rfl (op_slice_rowd (by kernel_rfl) rfl (bnd_some rfl) bnd_none n61.1 n61.2 (Int.le_refl _) ?_)
          refine P_q no34_0 rfl (op_litT (n := 1) (enc := c_L_api_Value) [List.take (Int.toNat y57.2.1) x6_j8, y59, List.drop (Int.toNat (i64 (y60.2.1 + 1))) x6_j8] (CellsAll.cons rfl CellsOf.row (CellsAll.cons rfl CellsOf.row (CellsAll.cons rfl CellsOf.row CellsAll.nil))) rfl (by kernel_rfl) (LEss.cons (LEs.cons (AV.le_eq rfl) LEs.nil) (LEss.cons (LEs.cons (AV.le_eq rfl) LEs.nil) (LEss.cons (LEs.cons (AV.le_eq rfl) LEs.nil) LEss.nil))) ?_)
          obtain ⟨y62, hy62, h⟩ := bnd1_some h
          refine P_q no34_0 rfl (zai (m_slices_Concat_L_api_Value_api_Value_ok _ _ hy62) Tryz.func64 (by kernel_rfl) (LEs.cons (AV.le_eq rfl) LEs.nil) ?_)
          obtain ⟨y63, hy63, h⟩ := bnd1_some h
          refine P_q no34_0 rfl (zai (m_value_Seq_ok _ _ hy63) Tryz.func60 (by kernel_rfl) (LEs.cons (AV.le_eq rfl) LEs.nil) ?_)
          refine P_q no34_0 rfl (zaf (av := .row 1 zab x1_j8) rfl ?_)
          refine P_q no34_0 rfl (op_assign (av := .xs y63) rfl ?_)
          refine P_q no34_0 rfl (op_assign (av := .row 1 zab x1_j8) rfl ?_)
          refine P_nil (zaa (k_ret ?_))
          obtain rfl := Option.some.inj h
          refine ke (pt (pt AF0 4 (.xs y63)) 5 (.row 1 zab x1_j8)) [] rfl ?_ ⟨rfl, rfl⟩
          exact so (lq rfl (lq rfl lt0))
set_option maxHeartbeats 4000000 in
theorem m_pattern_node_build_S_ok : ∀ n : Nat, (∀ (a0 : Nd) (a1 : List (List UInt8)) (r : (List UInt8) × (List (List UInt8))), m_pattern_node_build_S n a0 a1 = some r → Pure Tryz.prog 37 [(ndA a0), (.row 1 zab a1)] (.tup [.exact (.string (bs r.1)), .row 1 zab r.2]))
  | 0 => (fun _ _ _ h => by have h' : (none : Option _) = some _ := h; cases h')
  | n + 1 => by
    have ih := m_pattern_node_build_S_ok n
    exact fun a0 a1 r h => m_pattern_node_build_F_ok (m_pattern_node_build_S n) ih a0 a1 r h
theorem m_pattern_node_build_ok (a0 : Nd) (a1 : List (List UInt8)) (r : (List UInt8) × (List (List UInt8))) (h : m_pattern_node_build a0 a1 = some r) : Pure Tryz.prog 37 [(ndA a0), (.row 1 zab a1)] (.tup [.exact (.string (bs r.1)), .row 1 zab r.2]) := (m_pattern_node_build_S_ok FU) a0 a1 r h
set_option maxHeartbeats 4000000 in
theorem m_pattern_Build_ok (a0 : List (Int × Int × Int)) (a1 : List (List UInt8)) (r : (List UInt8) × Bool) (h : m_pattern_Build a0 a1 = some r) : Pure Tryz.prog 10 [(.row 3 zae a0), (.row 1 zab a1)] (.tup [.exact (.string (bs r.1)), .exact (.bool r.2)]) := by
 unfold m_pattern_Build at h
 refine Pure.ofFun (fun_of_awp Tryz.func10 rfl Tryz.ntmps10 (by simp) rfl (res2 rfl) fun E hE => k_end ?_)
 refine zad (kr ?_)
 refine qa (.xs ([] : List UInt8)) rfl ?_
 refine qa (.xb false) rfl ?_
 refine G_nil (zaa (zad (kr ?_)))
 refine qm (.row 3 zae a0) rfl ?_
 obtain ⟨y1, hy1, h⟩ := bnd1_some h
 refine G_q rfl (zai (m_pattern_whole_ok _ _ hy1) Tryz.func34 (by kernel_rfl) (LEs.cons (AV.le_eq rfl) LEs.nil) ?_)
 refine qm (.tup [ndA y1.1, .xb y1.2]) rfl ?_
 refine G_q rfl (op_extract (av := ndA y1.1) rfl rfl ?_)
 refine G_q rfl (op_extract (av := .xb y1.2) rfl rfl ?_)
 refine qa (ndA y1.1) rfl ?_
 refine qa (.xb y1.2) rfl ?_
 refine G_nil (zaa ?_)
 refine k_join1_0 h (fun (x7_j2 : Bool) => (pt (pt (pt (pt AF0 0 (.row 3 zae a0)) 1 (.row 1 zab a1)) 6 (ndA y1.1)) 7 (.xb x7_j2))) (fun (x7_j2 : Bool) => []) (fun k2 h => ?_) (fun x7_j2 h => ?_)
 ·refine kr ?_
  refine qm (.xb y1.2) rfl ?_
  refine qm (.xb y1.2) rfl ?_
  refine G_splitB (c := y1.2) 16 rfl (fun hc => ?_) (fun hc => ?_)
  ·replace h := ite_t h hc
   refine Gy_q rfl rfl rfl (zaf (av := ndA y1.1) rfl ?_)
   obtain ⟨y4, hy4, h⟩ := bnd1_some h
   refine Gy_q rfl rfl rfl (zai (m_pattern_node_all_ok _ _ _ hy4) Tryz.func35 (by kernel_rfl) (LEs.cons (AV.le_eq rfl) (LEs.cons ((fn_le Tryz.func36 (by kernel_rfl) (fun i r h => m_pattern_Build_1_ok i r h))) LEs.nil)) ?_)
   refine G_q rfl (zak rfl (av := .xb y4) rfl ?_)
   refine qa (.xb y4) rfl ?_
   refine G_nil ?_
   refine zac ⟨_, h, ?_⟩
   exact so (l4 rfl rfl rfl rfl lt0)
  ·replace h := ite_f h hc
   refine G_n rfl rfl (G_n rfl rfl ?_)
   refine G_q rfl (zah rfl (av := .xb false) rfl ?_)
   refine qa (.xb false) rfl ?_
   refine G_nil ?_
   refine zac ⟨_, h, ?_⟩
   exact so (l4 rfl rfl rfl rfl lt0)
 ·refine zad ?_
  refine k_join1_0 h (fun (x28_j9 : Bool) => (pt (pt (pt AF0 1 (.row 1 zab a1)) 6 (ndA y1.1)) 28 (.xb x28_j9))) (fun (x28_j9 : Bool) => []) (fun k9 h => ?_) (fun x28_j9 h => ?_)
  ·refine kr ?_
   refine qm (.xb x7_j2) rfl ?_
   refine G_q rfl (op_not rfl ?_)
   refine qm (.xb (!x7_j2)) rfl ?_
   refine G_splitB (c := !x7_j2) 22 rfl (fun hc => ?_) (fun hc => ?_)
   ·replace h := ite_t h hc
    refine G_n rfl rfl (G_n rfl rfl (G_n rfl rfl (G_n rfl rfl (G_n rfl rfl ?_))))
    refine G_q rfl (zak rfl (av := .xb true) rfl ?_)
    refine G_nil ?_
    refine zac ⟨_, h, ?_⟩
    exact so (lq rfl (lq rfl (lq rfl lt0)))
   ·replace h := ite_f h hc
    refine Gy_q rfl rfl rfl (zaf (av := .row 1 zab a1) rfl ?_)
    refine Gy_q rfl rfl rfl (op_len_row (by kernel_rfl) rfl ?_)
    refine Gy_q rfl rfl rfl (zaf (av := .row 3 zae a0) rfl ?_)
    obtain ⟨y11, hy11, h⟩ := bnd1_some h
    refine Gy_q rfl rfl rfl (zai (m_pattern_Vars_ok _ _ hy11) Tryz.func16 (by kernel_rfl) (LEs.cons (AV.le_eq rfl) LEs.nil) ?_)
    refine Gy_q rfl rfl rfl (op_neq rfl rfl ?_)
    refine G_q rfl (zah rfl (av := .xb (decide (¬ (List.length a1 : Int) = y11))) rfl ?_)
    refine G_nil ?_
    refine zac ⟨_, h, ?_⟩
    exact so (lq rfl (lq rfl (lq rfl lt0)))
  ·refine kb (p := x28_j9) rfl h (fun hc h => ?_) (fun hc h => ?_)
   ·refine zad (kr ?_)
    refine qa (.xs ([] : List UInt8)) rfl ?_
    refine qa (.xb false) rfl ?_
    refine G_nil (zaa (k_ret (kC_ret ?_)))
    obtain rfl := Option.some.inj h
    refine ke (pt (pt AF0 4 (.xs ([] : List UInt8))) 5 (.xb false)) [] rfl ?_ ⟨rfl, rfl⟩
    exact so (lq rfl (lq rfl lt0))
   ·refine k_skip (zaa (zad (kr ?_)))
    refine qm (ndA y1.1) rfl ?_
    refine qm (.row 1 zab a1) rfl ?_
    obtain ⟨y12, hy12, h⟩ := bnd1_some h
    refine G_q rfl (zai (m_pattern_node_build_ok _ _ _ hy12) Tryz.func37 (by kernel_rfl) (LEs.cons (AV.le_eq rfl) (LEs.cons (AV.le_eq rfl) LEs.nil)) ?_)
    refine qm (.tup [.xs y12.1, .row 1 zab y12.2]) rfl ?_
    refine G_q rfl (op_extract (av := .xs y12.1) rfl rfl ?_)
    refine G_q rfl (op_extract (av := .row 1 zab y12.2) rfl rfl ?_)
    refine qa (.xs y12.1) rfl ?_
    refine qa (.row 1 zab y12.2) rfl ?_
    refine G_nil (zaa (zad (zad (kr ?_))))
    refine qm (.xs y12.1) rfl ?_
    obtain ⟨y13, hy13, h⟩ := bnd1_some h
    refine G_q rfl (zai (m_value_Valid_ok _ _ hy13) Tryz.func38 (by kernel_rfl) (LEs.cons (AV.le_eq rfl) LEs.nil) ?_)
    refine G_q rfl (op_not rfl ?_)
    refine G_nil (zaa ?_)
    refine kb (p := !y13) rfl h (fun hc h => ?_) (fun hc h => ?_)
    ·refine zad (kr ?_)
     refine qa (.xs ([] : List UInt8)) rfl ?_
     refine qa (.xb false) rfl ?_
     refine G_nil (zaa (k_ret (kC_ret ?_)))
     obtain rfl := Option.some.inj h
     refine ke (pt (pt AF0 4 (.xs ([] : List UInt8))) 5 (.xb false)) [] rfl ?_ ⟨rfl, rfl⟩
     exact so (lq rfl (lq rfl lt0))
    ·refine k_skip (zaa (zad (kr ?_)))
     refine qm (.xs y12.1) rfl ?_
     refine qa (.xs y12.1) rfl ?_
     refine qa (.xb true) rfl ?_
     refine G_nil (zaa (k_ret ?_))
     obtain rfl := Option.some.inj h
     refine ke (pt (pt AF0 4 (.xs y12.1)) 5 (.xb true)) [] rfl ?_ ⟨rfl, rfl⟩
     exact so (lq rfl (lq rfl lt0))
set_option maxHeartbeats 4000000 in
theorem m_ref11_end_ok (a0 : List (Int × Int × Int)) (a1 : Int) (r : Int) (h : m_ref11_end a0 a1 = some r) : Pure Tryz.prog 67 [(.row 3 zae a0), (.exact (.int .i64 a1))] (.exact (.int .i64 r)) := by
 unfold m_ref11_end at h
 refine Pure.ofFun (fun_of_awp Tryz.func67 rfl Tryz.ntmps67 (by simp) rfl (res1 rfl) fun E hE => k_end ?_)
 refine zad (kr ?_)
 refine qa (.xi 0) rfl ?_
 refine G_nil (zaa (zad (kr ?_)))
 refine qa (.xi 1) rfl ?_
 refine G_nil (zaa ?_)
 refine k_join1_0 h (fun (x1_j1 : Int) => (pt AF0 1 (.xi x1_j1))) (fun (x1_j1 : Int) => []) (fun k1 h => ?_) (fun x1_j1 h => ?_)
 ·refine k_block ?_
  refine k_loop2_0 (m_ref11_end_L2 a0 k1) (m_ref11_end_B2 a0 k1) (fun _ _ => rfl) (fun m _ _ => rfl) h (fun (x1_l2 : Int) (x5_l2 : Int) => (pt (pt (pt AF0 0 (.row 3 zae a0)) 1 (.xi x1_l2)) 5 (.xi x5_l2))) (fun (x1_l2 : Int) (x5_l2 : Int) => []) ?_ (fun rec2 x1_l2 x5_l2 h => ?_)
  ·exact so (lq rfl (lq rfl (lq rfl lt0)))
  ·unfold m_ref11_end_B2 at h
   refine zad (zad (kr ?_))
   refine qm (.xi x5_l2) rfl ?_
   refine G_q rfl (op_gtr rfl rfl ?_)
   refine G_nil (zaa ?_)
   refine kd (p := 0 < x5_l2) rfl h (fun hc h => ?_) (fun hc h => ?_)
   ·refine k_skip (zaa (zad (k_block (zad ?_))))
    refine k_join1_0 h (fun (x31_j147 : Bool) => (pt (pt (pt (pt AF0 0 (.row 3 zae a0)) 1 (.xi x1_l2)) 5 (.xi x5_l2)) 31 (.xb x31_j147))) (fun (x31_j147 : Bool) => []) (fun k147 h => ?_) (fun x31_j147 h => ?_)
    ·refine kr ?_
     refine qm (.xi x1_l2) rfl ?_
     refine qm (.row 3 zae a0) rfl ?_
     refine G_q rfl (op_len_row (by kernel_rfl) rfl ?_)
     refine G_q rfl (op_geq rfl rfl ?_)
     refine qm (.xb (decide ((List.length a0 : Int) ≤ x1_l2))) rfl ?_
     refine G_split (p := (List.length a0 : Int) ≤ x1_l2) 14 rfl (fun hc => ?_) (fun hc => ?_)
     ·replace h := ite_t h hc
      refine G_n rfl rfl (G_n rfl rfl (G_n rfl rfl (G_n rfl rfl (G_n rfl rfl (G_n rfl rfl ?_)))))
      refine G_q rfl (zak rfl (av := .xb true) rfl ?_)
      refine qm (.xb true) rfl ?_
      refine G_n rfl rfl (G_n rfl rfl (G_n rfl rfl (G_n rfl rfl (G_n rfl rfl (G_n rfl rfl (G_n rfl rfl (G_n rfl rfl ?_)))))))
      refine G_q rfl (zak rfl (av := .xb true) rfl ?_)
      refine G_nil ?_
      refine zac ⟨_, h, ?_⟩
      exact so (l4 rfl rfl rfl rfl lt0)
     ·replace h := ite_f h hc
      refine Gy_q rfl rfl rfl (zaf (av := .row 3 zae a0) rfl ?_)
      refine Gy_q rfl rfl rfl (zaf (av := .xi x1_l2) rfl ?_)
      obtain ⟨n150, h⟩ := need_some h
      refine Gy_q rfl rfl rfl (zam (by kernel_rfl) rfl rfl n150.1 n150.2 ?_)
      refine Gy_q rfl rfl rfl (zaj (o := 2) (c' := (List.drop 2 (zae (gi a0 x1_l2)))) (by kernel_rfl) rfl rfl ?_)
      refine Gy_q rfl rfl rfl (zal (a := .xi ((gi a0 x1_l2).2.2)) (by kernel_rfl) rfl rfl ?_)
      refine Gy_q rfl rfl rfl (op_lss rfl rfl ?_)
      refine G_q rfl (zah rfl (av := .xb (decide (((gi a0 x1_l2).2.2) < 0))) rfl ?_)
      refine qm (.xb (decide (((gi a0 x1_l2).2.2) < 0))) rfl ?_
      refine G_split (p := ((gi a0 x1_l2).2.2) < 0) 22 rfl (fun hc => ?_) (fun hc => ?_)
      ·replace h := ite_t h hc
       refine G_n rfl rfl (G_n rfl rfl (G_n rfl rfl (G_n rfl rfl (G_n rfl rfl (G_n rfl rfl (G_n rfl rfl (G_n rfl rfl ?_)))))))
       refine G_q rfl (zak rfl (av := .xb true) rfl ?_)
       refine G_nil ?_
       refine zac ⟨_, h, ?_⟩
       exact so (l4 rfl rfl rfl rfl lt0)
      ·replace h := ite_f h hc
       refine Gy_q rfl rfl rfl (zaf (av := .row 3 zae a0) rfl ?_)
       refine Gy_q rfl rfl rfl (zaf (av := .xi x1_l2) rfl ?_)
       obtain ⟨n151, h⟩ := need_some h
       refine Gy_q rfl rfl rfl (zam (by kernel_rfl) rfl rfl n151.1 n151.2 ?_)
       refine Gy_q rfl rfl rfl (zaj (o := 2) (c' := (List.drop 2 (zae (gi a0 x1_l2)))) (by kernel_rfl) rfl rfl ?_)
       refine Gy_q rfl rfl rfl (zal (a := .xi ((gi a0 x1_l2).2.2)) (by kernel_rfl) rfl rfl ?_)
       refine Gy_q rfl rfl rfl (zaf (av := .row 3 zae a0) rfl ?_)
       refine Gy_q rfl rfl rfl (op_len_row (by kernel_rfl) rfl ?_)
       refine Gy_q rfl rfl rfl (op_gtr rfl rfl ?_)
       refine G_q rfl (zah rfl (av := .xb (decide ((List.length a0 : Int) < ((gi a0 x1_l2).2.2)))) rfl ?_)
       refine G_nil ?_
       refine zac ⟨_, h, ?_⟩
       exact so (l4 rfl rfl rfl rfl lt0)
    ·refine kb (p := x31_j147) rfl h (fun hc h => ?_) (fun hc h => ?_)
     ·refine zad (kr ?_)
      refine qa (.xi (-1)) rfl ?_
      refine G_nil (zaa (k_ret (kC_ret (kB_ret (kC_ret (kI_ret (kB_ret (kI_ret ?_))))))))
      obtain rfl := Option.some.inj h
      refine ke (pt AF0 4 (.xi (-1))) [] rfl ?_ ⟨rfl, rfl⟩
      exact so (lq rfl lt0)
     ·refine k_skip (zaa (kr ?_))
      refine qm (.xi x5_l2) rfl ?_
      refine qm (.row 3 zae a0) rfl ?_
      refine qm (.xi x1_l2) rfl ?_
      obtain ⟨n152, h⟩ := need_some h
      refine G_q rfl (zam (by kernel_rfl) rfl rfl n152.1 n152.2 ?_)
      refine G_q rfl (zaj (o := 2) (c' := (List.drop 2 (zae (gi a0 x1_l2)))) (by kernel_rfl) rfl rfl ?_)
      refine G_q rfl (zal (a := .xi ((gi a0 x1_l2).2.2)) (by kernel_rfl) rfl rfl ?_)
      refine G_q rfl (op_sub rfl rfl rfl ?_)
      refine G_q rfl (op_add rfl rfl rfl ?_)
      refine qa (.xi (i64 (x5_l2 + (i64 (((gi a0 x1_l2).2.2) - 1))))) rfl ?_
      refine G_nil (kB_normal (zaa (kr ?_)))
      refine qm (.xi x1_l2) rfl ?_
      refine G_q rfl (op_add rfl rfl rfl ?_)
      refine qa (.xi (i64 (x1_l2 + 1))) rfl ?_
      refine G_nil ?_
      refine zac ⟨_, _, h, ?_⟩
      exact so (lq rfl (lq rfl (lq rfl lt0)))
   ·refine k_exit (kC_exit (kI_exit (kB_exit ?_)))
    refine zac ⟨_, h, ?_⟩
    exact so (lq rfl lt0)
 ·refine zad (kr ?_)
  refine qm (.xi x1_j1) rfl ?_
  refine qa (.xi x1_j1) rfl ?_
  refine G_nil (zaa (k_ret ?_))
  obtain rfl := Option.some.inj h
  refine ke (pt AF0 4 (.xi x1_j1)) [] rfl ?_ ⟨rfl, rfl⟩
  exact so (lq rfl lt0)
set_option maxHeartbeats 4000000 in
theorem m_ref11_kids_ok (a0 : List (Int × Int × Int)) (a1 : Int) (r : (List Int)) (h : m_ref11_kids a0 a1 = some r) : Pure Tryz.prog 69 [(.row 3 zae a0), (.exact (.int .i64 a1))] (.row 1 c_int r) := by
 unfold m_ref11_kids at h
 refine Pure.ofFun (fun_of_awp Tryz.func69 rfl Tryz.ntmps69 (by simp) rfl (res1 rfl) fun E hE => k_end ?_)
 refine zad (kr ?_)
 refine qa (.exact (.slice none 0 0)) rfl ?_
 refine G_nil (zaa (zad (kr ?_)))
 refine qa (.exact (.slice none 0 0)) rfl ?_
 refine G_nil (zaa (zad (kr ?_)))
 refine qm (.xi a1) rfl ?_
 refine G_q rfl (op_add rfl rfl rfl ?_)
 refine qa (.xi (i64 (a1 + 1))) rfl ?_
 refine G_nil (zaa ?_)
 refine k_join1_1 h (fun (x5_j1 : List Int) (v5_j1 : Value) => (pt AF0 5 (.exact v5_j1))) (fun (x5_j1 : List Int) (v5_j1 : Value) => [vecT Tryz.prog 22 1 c_int v5_j1 x5_j1]) (fun k1 h => ?_) (fun x5_j1 v5_j1 h => ?_)
 ·refine zad (kr ?_)
  refine qa (.xi 0) rfl ?_
  refine G_nil (zaa (k_block ?_))
  refine k_loop3_1 (m_ref11_kids_L2 a0 a1 k1) (m_ref11_kids_B2 a0 a1 k1) (fun _ _ _ => rfl) (fun m _ _ _ => rfl) h (fun (x5_l2 : List Int) (x6_l2 : Int) (x7_l2 : Int) (v5_l2 : Value) => (pt (pt (pt (pt (pt AF0 0 (.row 3 zae a0)) 1 (.xi a1)) 5 (.exact v5_l2)) 6 (.xi x6_l2)) 7 (.xi x7_l2))) (fun (x5_l2 : List Int) (x6_l2 : Int) (x7_l2 : Int) (v5_l2 : Value) => [vecT Tryz.prog 22 1 c_int v5_l2 x5_l2]) (.slice none 0 0) ?_ (fun rec2 x5_l2 x6_l2 x7_l2 v5_l2 h => ?_)
  ·refine Sub.trans (SubU.to (SubU.nilT (P := Tryz.prog) (t := 22) (n := 1) (enc := c_int))) ?_
   exact so (l4 rfl rfl rfl rfl (lq rfl lt0))
  ·unfold m_ref11_kids_B2 at h
   refine zad (zad (kr ?_))
   refine qm (.xi x7_l2) rfl ?_
   refine qm (.row 3 zae a0) rfl ?_
   refine qm (.xi a1) rfl ?_
   obtain ⟨n23, h⟩ := need_some h
   refine G_q rfl (zam (by kernel_rfl) rfl rfl n23.1 n23.2 ?_)
   refine G_q rfl (zaj (o := 2) (c' := (List.drop 2 (zae (gi a0 a1)))) (by kernel_rfl) rfl rfl ?_)
   refine G_q rfl (zal (a := .xi ((gi a0 a1).2.2)) (by kernel_rfl) rfl rfl ?_)
   refine G_q rfl (op_lss rfl rfl ?_)
   refine G_nil (zaa ?_)
   refine kd (p := x7_l2 < ((gi a0 a1).2.2)) rfl h (fun hc h => ?_) (fun hc h => ?_)
   ·refine k_skip (zaa (zad (k_block (zad (kr ?_)))))
    refine qm (.exact v5_l2) rfl ?_
    refine qm (.xi x6_l2) rfl ?_
    refine G_q rfl (op_litT (n := 1) (enc := c_int) [x6_l2] (CellsAll.cons rfl CellsOf.int CellsAll.nil) rfl (by kernel_rfl) (LEss.cons (LEs.cons (AV.le_eq rfl) LEs.nil) LEss.nil) ?_)
    obtain ⟨n24, h⟩ := need_some h
    refine G_l rfl (op_appT (by kernel_rfl) rfl rfl oc_c_int n24 (fun v25 => ?_))
    refine qa (.exact v25) rfl ?_
    refine G_nil (zaa (kr ?_))
    refine qm (.row 3 zae a0) rfl ?_
    refine qm (.xi x6_l2) rfl ?_
    obtain ⟨y26, hy26, h⟩ := bnd1_some h
    refine G_q rfl (zai (m_ref11_end_ok _ _ _ hy26) Tryz.func67 (by kernel_rfl) (LEs.cons (AV.le_eq rfl) (LEs.cons (AV.le_eq rfl) LEs.nil)) ?_)
    refine qa (.xi y26) rfl ?_
    refine G_nil (kB_normal (zaa (kr ?_)))
    refine qm (.xi x7_l2) rfl ?_
    refine G_q rfl (op_add rfl rfl rfl ?_)
    refine qa (.xi (i64 (x7_l2 + 1))) rfl ?_
    refine G_nil ?_
    refine zac ⟨_, _, _, v25, h, ?_⟩
    exact so (l4 rfl rfl rfl rfl (lq rfl lt0))
   ·refine k_exit (kC_exit (kI_exit (kB_exit ?_)))
    refine zac ⟨_, v5_l2, h, ?_⟩
    exact so (lq rfl lt0)
 ·refine zad (kr ?_)
  refine qm (.exact v5_j1) rfl ?_
  refine qa (.exact v5_j1) rfl ?_
  refine G_nil (zaa (k_ret ?_))
  obtain rfl := Option.some.inj h
  refine ke (pt AF0 4 (.row 1 c_int x5_j1)) [] rfl ?_ ⟨rfl, rfl⟩
  refine Sub.trans (SubU.to (SubU.freezeT (s := 4) rfl len_c_int)) ?_
  exact so (lq rfl lt0)
end Go.Proofs.YtpfdeahcjlfijaaGreat
