/- The functions compute their models, by program. -/
import Derived.Test.YtpfdeahcjlfijaaGreatQC5
namespace Go.Proofs.YtpfdeahcjlfijaaGreat
open Go.RowKit
attribute [local irreducible] AV.exact AV.top AV.row AV.ptr AV.agg AV.tup AV.eptr AV.fn AV.nilq AV.nilqn opA opB opM opR Quiet Loud Reads wpG awp den Sub SubU Pure Fun vecI vecT boxI CellsAll CellsOf OneC LEs LEss
set_option maxRecDepth 100000

set_option maxHeartbeats 4000000 in
theorem m_pattern_node_formed_ok (a0 : Nd) (r : Bool) (h : m_pattern_node_formed a0 = some r) : Pure Tryz.prog 81 [(ndA a0)] (.exact (.bool r)) := by
 unfold m_pattern_node_formed at h
 refine Pure.ofFun (fun_of_awp Tryz.func81 rfl Tryz.ntmps81 (by simp) rfl (res1 rfl) fun E hE => k_end ?_)
 refine zae (zag .free hmixP (by kernel_rfl) ?_)
 refine G_q rfl (zab (av := .xb false) rfl ?_)
 refine G_nil (zaa (zae (zag .free hmixP (by kernel_rfl) ?_)))
 refine G_q rfl (zac (av := ndA a0) rfl ?_)
 obtain ⟨y1, hy1, h⟩ := bnd1_some h
 refine G_q rfl (zap (c := zah y1) (ndA_un hy1) ?_)
 refine G_q rfl (zam (o := 2) (c' := (List.drop 2 (zah y1))) (by kernel_rfl) rfl rfl ?_)
 refine G_q rfl (zaq (a := .row 1 c_P_pattern_node y1.2.2) (by kernel_rfl) rfl rfl ?_)
 refine G_q rfl (op_len_row (by kernel_rfl) rfl ?_)
 refine G_q rfl (zab (av := .xi (List.length y1.2.2 : Int)) rfl ?_)
 refine G_nil (zaa (zae (zae (zag .free hmixP (by kernel_rfl) ?_))))
 refine G_q rfl (zac (av := ndA a0) rfl ?_)
 obtain ⟨y37, hy37, h⟩ := bnd1_some h
 refine G_q rfl (zap (c := zah y37) (ndA_un hy37) ?_)
 refine G_q rfl (zam (o := 0) (c' := (List.drop 0 (zah y37))) (by kernel_rfl) rfl rfl ?_)
 refine G_q rfl (zaq (a := .xi y37.1) (by kernel_rfl) rfl rfl ?_)
 refine G_nil (zaa (k_block ?_))
 refine k_join1_0 h (fun (x13_j38 : Bool) => (AF.put (AF.put (AF.put (AF.put AF0 (some 0) (ndA a0)) (some 3) (.xi (List.length y1.2.2 : Int))) (some 12) (.xi y37.1)) (some 13) (.xb x13_j38))) (fun (x13_j38 : Bool) => []) (fun k38 h => ?_) (fun x13_j38 h => ?_)
 ·refine zae (zag .free hmixP (by kernel_rfl) ?_)
  refine G_q rfl (op_eql rfl rfl ?_)
  refine G_q rfl (zab (av := .xb (decide (y37.1 = 30))) rfl ?_)
  refine G_nil (zaa ?_)
  refine zak (p := y37.1 = 30) rfl (fun hc => ?_) (fun hc => ?_)
  ·replace h := ite_t h hc
   refine k_skip ?_
   refine zaf ⟨_, h, ?_⟩
   exact Sub.of_le (lq rfl (lq rfl (lq rfl (lq rfl lt0))))
  ·replace h := ite_f h hc
   refine zag .free hmixP (by kernel_rfl) ?_
   refine G_q rfl (op_eql rfl rfl ?_)
   refine G_q rfl (zab (av := .xb (decide (y37.1 = 31))) rfl ?_)
   refine G_nil ?_
   refine zaf ⟨_, h, ?_⟩
   exact Sub.of_le (lq rfl (lq rfl (lq rfl (lq rfl lt0))))
 ·refine k_cond_b (c := x13_j38) rfl (fun hc => ?_) (fun hc => ?_)
  ·replace h := ite_t h hc
   refine k_join1_0 h (fun (x2_j39 : Bool) => (AF.put AF0 (some 2) (.xb x2_j39))) (fun (x2_j39 : Bool) => []) (fun k39 h => ?_) (fun x2_j39 h => ?_)
   ·refine zag .free hmixP (by kernel_rfl) ?_
    refine G_q rfl (zac (av := .xi (List.length y1.2.2 : Int)) rfl ?_)
    refine G_q rfl (op_eql rfl rfl ?_)
    refine G_q rfl (zac (av := .xb (decide ((List.length y1.2.2 : Int) = 0))) rfl ?_)
    refine G_split (p := (List.length y1.2.2 : Int) = 0) 18 rfl (fun hc => ?_) (fun hc => ?_)
    ·replace h := ite_t h hc
     refine Gy_q rfl rfl rfl (zac (av := ndA a0) rfl ?_)
     obtain ⟨y41, hy41, h⟩ := bnd1_some h
     refine Gy_q rfl rfl rfl (zap (c := zah y41) (ndA_un hy41) ?_)
     refine Gy_q rfl rfl rfl (zam (o := 1) (c' := (List.drop 1 (zah y41))) (by kernel_rfl) rfl rfl ?_)
     refine Gy_q rfl rfl rfl (zaq (a := .xi y41.2.1) (by kernel_rfl) rfl rfl ?_)
     refine Gy_q rfl rfl rfl (op_eql rfl rfl ?_)
     refine G_q rfl (zao rfl (av := .xb (decide (y41.2.1 = 0))) rfl ?_)
     refine G_q rfl (zab (av := .xb (decide (y41.2.1 = 0))) rfl ?_)
     refine G_nil ?_
     refine zaf ⟨_, h, ?_⟩
     exact Sub.of_le (lq rfl lt0)
    ·replace h := ite_f h hc
     refine G_n rfl rfl (G_n rfl rfl (G_n rfl rfl (G_n rfl rfl (G_n rfl rfl ?_))))
     refine G_q rfl (zai rfl (av := .xb false) rfl ?_)
     refine G_q rfl (zab (av := .xb false) rfl ?_)
     refine G_nil ?_
     refine zaf ⟨_, h, ?_⟩
     exact Sub.of_le (lq rfl lt0)
   ·refine k_ret (kB_ret (kC_ret ?_))
    obtain rfl := Option.some.inj h
    refine zaj (endN (af' := (AF.put AF0 (some 2) (.xb x2_j39))) (σ' := []) _ rfl ?_ ⟨rfl, rfl⟩)
    exact Sub.of_le (lq rfl lt0)
  ·replace h := ite_f h hc
   refine zae (zag .free hmixP (by kernel_rfl) ?_)
   refine G_q rfl (op_eql rfl rfl ?_)
   refine G_q rfl (zab (av := .xb (decide (y37.1 = 32))) rfl ?_)
   refine G_nil (zaa ?_)
   refine zak (p := y37.1 = 32) rfl (fun hc => ?_) (fun hc => ?_)
   ·replace h := ite_t h hc
    refine zae (zag .free hmixP (by kernel_rfl) ?_)
    refine G_q rfl (zac (av := .xi (List.length y1.2.2 : Int)) rfl ?_)
    refine G_q rfl (op_eql rfl rfl ?_)
    refine G_q rfl (zab (av := .xb (decide ((List.length y1.2.2 : Int) = 0))) rfl ?_)
    refine G_nil (zaa (k_ret (kB_ret (kC_ret ?_))))
    obtain rfl := Option.some.inj h
    refine zaj (endN (af' := (AF.put AF0 (some 2) (.xb (decide ((List.length y1.2.2 : Int) = 0))))) (σ' := []) _ rfl ?_ ⟨rfl, rfl⟩)
    exact Sub.of_le (lq rfl lt0)
   ·replace h := ite_f h hc
    refine zae (zag .free hmixP (by kernel_rfl) ?_)
    refine G_q rfl (op_eql rfl rfl ?_)
    refine G_q rfl (zab (av := .xb (decide (y37.1 = 33))) rfl ?_)
    refine G_nil (zaa ?_)
    refine zak (p := y37.1 = 33) rfl (fun hc => ?_) (fun hc => ?_)
    ·replace h := ite_t h hc
     refine k_join1_0 h (fun (x2_j42 : Bool) => (AF.put AF0 (some 2) (.xb x2_j42))) (fun (x2_j42 : Bool) => []) (fun k42 h => ?_) (fun x2_j42 h => ?_)
     ·refine zag .free hmixP (by kernel_rfl) ?_
      refine G_q rfl (zac (av := .xi (List.length y1.2.2 : Int)) rfl ?_)
      refine G_q rfl (op_eql rfl rfl ?_)
      refine G_q rfl (zac (av := .xb (decide ((List.length y1.2.2 : Int) = 0))) rfl ?_)
      refine G_split (p := (List.length y1.2.2 : Int) = 0) 33 rfl (fun hc => ?_) (fun hc => ?_)
      ·replace h := ite_t h hc
       refine Gy_q rfl rfl rfl (zac (av := ndA a0) rfl ?_)
       obtain ⟨y45, hy45, h⟩ := bnd1_some h
       refine Gy_q rfl rfl rfl (zap (c := zah y45) (ndA_un hy45) ?_)
       refine Gy_q rfl rfl rfl (zam (o := 1) (c' := (List.drop 1 (zah y45))) (by kernel_rfl) rfl rfl ?_)
       refine Gy_q rfl rfl rfl (zaq (a := .xi y45.2.1) (by kernel_rfl) rfl rfl ?_)
       refine Gy_q rfl rfl rfl (op_eql rfl rfl ?_)
       refine Gy_q rfl rfl rfl (zac (av := .xb (decide (y45.2.1 = 0))) rfl ?_)
       refine G_split (p := y45.2.1 = 0) 39 rfl (fun hc => ?_) (fun hc => ?_)
       ·replace h := ite_t h hc
        refine G_n rfl rfl (G_n rfl rfl (G_n rfl rfl (G_n rfl rfl (G_n rfl rfl ?_))))
        refine Gy_q rfl rfl rfl (zao rfl (av := .xb true) rfl ?_)
        refine G_q rfl (zao rfl (av := .xb true) rfl ?_)
        refine G_q rfl (zab (av := .xb true) rfl ?_)
        refine G_nil ?_
        refine zaf ⟨_, h, ?_⟩
        exact Sub.of_le (lq rfl lt0)
       ·replace h := ite_f h hc
        refine Gy_q rfl rfl rfl (zac (av := ndA a0) rfl ?_)
        obtain ⟨y46, hy46, h⟩ := bnd1_some h
        refine Gy_q rfl rfl rfl (zap (c := zah y46) (ndA_un hy46) ?_)
        refine Gy_q rfl rfl rfl (zam (o := 1) (c' := (List.drop 1 (zah y46))) (by kernel_rfl) rfl rfl ?_)
        refine Gy_q rfl rfl rfl (zaq (a := .xi y46.2.1) (by kernel_rfl) rfl rfl ?_)
        refine Gy_q rfl rfl rfl (op_eql rfl rfl ?_)
        refine Gy_q rfl rfl rfl (zai rfl (av := .xb (decide (y46.2.1 = 1))) rfl ?_)
        refine G_q rfl (zao rfl (av := .xb (decide (y46.2.1 = 1))) rfl ?_)
        refine G_q rfl (zab (av := .xb (decide (y46.2.1 = 1))) rfl ?_)
        refine G_nil ?_
        refine zaf ⟨_, h, ?_⟩
        exact Sub.of_le (lq rfl lt0)
      ·replace h := ite_f h hc
       refine G_n rfl rfl (G_n rfl rfl (G_n rfl rfl (G_n rfl rfl (G_n rfl rfl (G_n rfl rfl ?_)))))
       refine G_u rfl rfl ?_
       refine G_u rfl rfl ?_
       refine G_u rfl rfl ?_
       refine G_u rfl rfl ?_
       refine G_u rfl rfl ?_
       refine G_n rfl rfl ?_
       refine G_q rfl (zai rfl (av := .xb false) rfl ?_)
       refine G_q rfl (zab (av := .xb false) rfl ?_)
       refine G_nil ?_
       refine zaf ⟨_, h, ?_⟩
       exact Sub.of_le (lq rfl lt0)
     ·refine k_ret (kB_ret (kC_ret ?_))
      obtain rfl := Option.some.inj h
      refine zaj (endN (af' := (AF.put AF0 (some 2) (.xb x2_j42))) (σ' := []) _ rfl ?_ ⟨rfl, rfl⟩)
      exact Sub.of_le (lq rfl lt0)
    ·replace h := ite_f h hc
     refine zae (zag .free hmixP (by kernel_rfl) ?_)
     refine G_q rfl (op_eql rfl rfl ?_)
     refine G_q rfl (zab (av := .xb (decide (y37.1 = 34))) rfl ?_)
     refine G_nil (zaa ?_)
     refine zak (p := y37.1 = 34) rfl (fun hc => ?_) (fun hc => ?_)
     ·replace h := ite_t h hc
      refine k_join1_0 h (fun (x2_j47 : Bool) => (AF.put AF0 (some 2) (.xb x2_j47))) (fun (x2_j47 : Bool) => []) (fun k47 h => ?_) (fun x2_j47 h => ?_)
      ·refine zag .free hmixP (by kernel_rfl) ?_
       refine G_q rfl (zac (av := .xi (List.length y1.2.2 : Int)) rfl ?_)
       refine G_q rfl (op_geq rfl rfl ?_)
       refine G_q rfl (zac (av := .xb (decide (2 ≤ (List.length y1.2.2 : Int)))) rfl ?_)
       refine G_split (p := 2 ≤ (List.length y1.2.2 : Int)) 51 rfl (fun hc => ?_) (fun hc => ?_)
       ·replace h := ite_t h hc
        refine Gy_q rfl rfl rfl (zac (av := .xi (List.length y1.2.2 : Int)) rfl ?_)
        refine Gy_q rfl rfl rfl (op_leq rfl rfl ?_)
        refine G_q rfl (zao rfl (av := .xb (decide ((List.length y1.2.2 : Int) ≤ 8))) rfl ?_)
        refine G_q rfl (zac (av := .xb (decide ((List.length y1.2.2 : Int) ≤ 8))) rfl ?_)
        refine G_split (p := (List.length y1.2.2 : Int) ≤ 8) 55 rfl (fun hc => ?_) (fun hc => ?_)
        ·replace h := ite_t h hc
         refine Gy_q rfl rfl rfl (zac (av := ndA a0) rfl ?_)
         obtain ⟨y49, hy49, h⟩ := bnd1_some h
         refine Gy_q rfl rfl rfl (zap (c := zah y49) (ndA_un hy49) ?_)
         refine Gy_q rfl rfl rfl (zam (o := 1) (c' := (List.drop 1 (zah y49))) (by kernel_rfl) rfl rfl ?_)
         refine Gy_q rfl rfl rfl (zaq (a := .xi y49.2.1) (by kernel_rfl) rfl rfl ?_)
         refine Gy_q rfl rfl rfl (op_eql rfl rfl ?_)
         refine G_q rfl (zao rfl (av := .xb (decide (y49.2.1 = 0))) rfl ?_)
         refine G_q rfl (zab (av := .xb (decide (y49.2.1 = 0))) rfl ?_)
         refine G_nil ?_
         refine zaf ⟨_, h, ?_⟩
         exact Sub.of_le (lq rfl lt0)
        ·replace h := ite_f h hc
         refine G_n rfl rfl (G_n rfl rfl (G_n rfl rfl (G_n rfl rfl (G_n rfl rfl ?_))))
         refine G_q rfl (zai rfl (av := .xb false) rfl ?_)
         refine G_q rfl (zab (av := .xb false) rfl ?_)
         refine G_nil ?_
         refine zaf ⟨_, h, ?_⟩
         exact Sub.of_le (lq rfl lt0)
       ·replace h := ite_f h hc
        refine G_n rfl rfl (G_n rfl rfl ?_)
        refine G_q rfl (zai rfl (av := .xb false) rfl ?_)
        refine G_q rfl (zac (av := .xb false) rfl ?_)
        refine G_n rfl rfl (G_n rfl rfl (G_n rfl rfl (G_n rfl rfl (G_n rfl rfl ?_))))
        refine G_q rfl (zai rfl (av := .xb false) rfl ?_)
        refine G_q rfl (zab (av := .xb false) rfl ?_)
        refine G_nil ?_
        refine zaf ⟨_, h, ?_⟩
        exact Sub.of_le (lq rfl lt0)
      ·refine k_ret (kB_ret (kC_ret ?_))
       obtain rfl := Option.some.inj h
       refine zaj (endN (af' := (AF.put AF0 (some 2) (.xb x2_j47))) (σ' := []) _ rfl ?_ ⟨rfl, rfl⟩)
       exact Sub.of_le (lq rfl lt0)
     ·replace h := ite_f h hc
      refine zae (zag .free hmixP (by kernel_rfl) ?_)
      refine G_q rfl (op_eql rfl rfl ?_)
      refine G_q rfl (zab (av := .xb (decide (y37.1 = 35))) rfl ?_)
      refine G_nil (zaa ?_)
      refine zak (p := y37.1 = 35) rfl (fun hc => ?_) (fun hc => ?_)
      ·replace h := ite_t h hc
       refine zae (zag .free hmixP (by kernel_rfl) ?_)
       refine G_q rfl (zac (av := ndA a0) rfl ?_)
       obtain ⟨y50, hy50, h⟩ := bnd1_some h
       refine G_q rfl (zap (c := zah y50) (ndA_un hy50) ?_)
       refine G_q rfl (zam (o := 1) (c' := (List.drop 1 (zah y50))) (by kernel_rfl) rfl rfl ?_)
       refine G_q rfl (zaq (a := .xi y50.2.1) (by kernel_rfl) rfl rfl ?_)
       refine G_q rfl (op_eql rfl rfl ?_)
       refine G_q rfl (zab (av := .xb (decide (y50.2.1 = 0))) rfl ?_)
       refine G_nil (zaa (k_ret (kB_ret (kC_ret ?_))))
       obtain rfl := Option.some.inj h
       refine zaj (endN (af' := (AF.put AF0 (some 2) (.xb (decide (y50.2.1 = 0))))) (σ' := []) _ rfl ?_ ⟨rfl, rfl⟩)
       exact Sub.of_le (lq rfl lt0)
      ·replace h := ite_f h hc
       refine zae (zag .free hmixP (by kernel_rfl) ?_)
       refine G_q rfl (op_eql rfl rfl ?_)
       refine G_q rfl (zab (av := .xb (decide (y37.1 = 36))) rfl ?_)
       refine G_nil (zaa ?_)
       refine zak (p := y37.1 = 36) rfl (fun hc => ?_) (fun hc => ?_)
       ·replace h := ite_t h hc
        refine k_join1_0 h (fun (x2_j51 : Bool) => (AF.put AF0 (some 2) (.xb x2_j51))) (fun (x2_j51 : Bool) => []) (fun k51 h => ?_) (fun x2_j51 h => ?_)
        ·refine zag .free hmixP (by kernel_rfl) ?_
         refine G_q rfl (zac (av := ndA a0) rfl ?_)
         obtain ⟨y58, hy58, h⟩ := bnd1_some h
         refine G_q rfl (zap (c := zah y58) (ndA_un hy58) ?_)
         refine G_q rfl (zam (o := 1) (c' := (List.drop 1 (zah y58))) (by kernel_rfl) rfl rfl ?_)
         refine G_q rfl (zaq (a := .xi y58.2.1) (by kernel_rfl) rfl rfl ?_)
         refine G_q rfl (op_geq rfl rfl ?_)
         refine G_q rfl (zac (av := .xb (decide (0 ≤ y58.2.1))) rfl ?_)
         refine G_split (p := 0 ≤ y58.2.1) 76 rfl (fun hc => ?_) (fun hc => ?_)
         ·replace h := ite_t h hc
          refine Gy_q rfl rfl rfl (zac (av := ndA a0) rfl ?_)
          obtain ⟨y59, hy59, h⟩ := bnd1_some h
          refine Gy_q rfl rfl rfl (zap (c := zah y59) (ndA_un hy59) ?_)
          refine Gy_q rfl rfl rfl (zam (o := 1) (c' := (List.drop 1 (zah y59))) (by kernel_rfl) rfl rfl ?_)
          refine Gy_q rfl rfl rfl (zaq (a := .xi y59.2.1) (by kernel_rfl) rfl rfl ?_)
          refine Gy_q rfl rfl rfl (zac (av := .xi (List.length y1.2.2 : Int)) rfl ?_)
          refine Gy_q rfl rfl rfl (op_lss rfl rfl ?_)
          refine G_q rfl (zao rfl (av := .xb (decide (y59.2.1 < (List.length y1.2.2 : Int)))) rfl ?_)
          refine G_q rfl (zac (av := .xb (decide (y59.2.1 < (List.length y1.2.2 : Int)))) rfl ?_)
          refine G_split (p := y59.2.1 < (List.length y1.2.2 : Int)) 84 rfl (fun hc => ?_) (fun hc => ?_)
          ·replace h := ite_t h hc
           refine Gy_q rfl rfl rfl (zac (av := ndA a0) rfl ?_)
           obtain ⟨y60, hy60, h⟩ := bnd1_some h
           refine Gy_q rfl rfl rfl (zal (m_pattern_node_rest_ok _ _ hy60) Tryz.func95 (by kernel_rfl) (LEs.cons (AV.le_eq rfl) LEs.nil) ?_)
           obtain ⟨y61, hy61, h⟩ := bnd1_some h
           refine Gy_q rfl rfl rfl (zap (c := zah y61) (ndA_un hy61) ?_)
           refine Gy_q rfl rfl rfl (zam (o := 0) (c' := (List.drop 0 (zah y61))) (by kernel_rfl) rfl rfl ?_)
           refine Gy_q rfl rfl rfl (zaq (a := .xi y61.1) (by kernel_rfl) rfl rfl ?_)
           refine Gy_q rfl rfl rfl (op_eql rfl rfl ?_)
           refine Gy_q rfl rfl rfl (zac (av := .xb (decide (y61.1 = 30))) rfl ?_)
           refine G_split (p := y61.1 = 30) 91 rfl (fun hc => ?_) (fun hc => ?_)
           ·replace h := ite_t h hc
            refine G_n rfl rfl (G_n rfl rfl (G_n rfl rfl (G_n rfl rfl (G_n rfl rfl (G_n rfl rfl ?_)))))
            refine Gy_q rfl rfl rfl (zao rfl (av := .xb true) rfl ?_)
            refine G_q rfl (zao rfl (av := .xb true) rfl ?_)
            refine G_q rfl (zab (av := .xb true) rfl ?_)
            refine G_nil ?_
            refine zaf ⟨_, h, ?_⟩
            exact Sub.of_le (lq rfl lt0)
           ·replace h := ite_f h hc
            refine Gy_q rfl rfl rfl (zac (av := ndA a0) rfl ?_)
            obtain ⟨y62, hy62, h⟩ := bnd1_some h
            refine Gy_q rfl rfl rfl (zal (m_pattern_node_rest_ok _ _ hy62) Tryz.func95 (by kernel_rfl) (LEs.cons (AV.le_eq rfl) LEs.nil) ?_)
            obtain ⟨y63, hy63, h⟩ := bnd1_some h
            refine Gy_q rfl rfl rfl (zap (c := zah y63) (ndA_un hy63) ?_)
            refine Gy_q rfl rfl rfl (zam (o := 0) (c' := (List.drop 0 (zah y63))) (by kernel_rfl) rfl rfl ?_)
            refine Gy_q rfl rfl rfl (zaq (a := .xi y63.1) (by kernel_rfl) rfl rfl ?_)
            refine Gy_q rfl rfl rfl (op_eql rfl rfl ?_)
            refine Gy_q rfl rfl rfl (zai rfl (av := .xb (decide (y63.1 = 31))) rfl ?_)
            refine G_q rfl (zao rfl (av := .xb (decide (y63.1 = 31))) rfl ?_)
            refine G_q rfl (zab (av := .xb (decide (y63.1 = 31))) rfl ?_)
            refine G_nil ?_
            refine zaf ⟨_, h, ?_⟩
            exact Sub.of_le (lq rfl lt0)
          ·replace h := ite_f h hc
           refine G_n rfl rfl (G_n rfl rfl (G_n rfl rfl (G_n rfl rfl (G_n rfl rfl (G_n rfl rfl (G_n rfl rfl ?_))))))
           refine G_u rfl rfl ?_
           refine G_u rfl rfl ?_
           refine G_u rfl rfl ?_
           refine G_u rfl rfl ?_
           refine G_u rfl rfl ?_
           refine G_u rfl rfl ?_
           refine G_n rfl rfl ?_
           refine G_q rfl (zai rfl (av := .xb false) rfl ?_)
           refine G_q rfl (zab (av := .xb false) rfl ?_)
           refine G_nil ?_
           refine zaf ⟨_, h, ?_⟩
           exact Sub.of_le (lq rfl lt0)
         ·replace h := ite_f h hc
          refine G_n rfl rfl (G_n rfl rfl (G_n rfl rfl (G_n rfl rfl (G_n rfl rfl (G_n rfl rfl ?_)))))
          refine G_q rfl (zai rfl (av := .xb false) rfl ?_)
          refine G_q rfl (zac (av := .xb false) rfl ?_)
          refine G_n rfl rfl (G_n rfl rfl (G_n rfl rfl (G_n rfl rfl (G_n rfl rfl (G_n rfl rfl (G_n rfl rfl ?_))))))
          refine G_u rfl rfl ?_
          refine G_u rfl rfl ?_
          refine G_u rfl rfl ?_
          refine G_u rfl rfl ?_
          refine G_u rfl rfl ?_
          refine G_u rfl rfl ?_
          refine G_n rfl rfl ?_
          refine G_q rfl (zai rfl (av := .xb false) rfl ?_)
          refine G_q rfl (zab (av := .xb false) rfl ?_)
          refine G_nil ?_
          refine zaf ⟨_, h, ?_⟩
          exact Sub.of_le (lq rfl lt0)
        ·refine k_ret (kB_ret (kC_ret ?_))
         obtain rfl := Option.some.inj h
         refine zaj (endN (af' := (AF.put AF0 (some 2) (.xb x2_j51))) (σ' := []) _ rfl ?_ ⟨rfl, rfl⟩)
         exact Sub.of_le (lq rfl lt0)
       ·replace h := ite_f h hc
        refine zae (zag .free hmixP (by kernel_rfl) ?_)
        refine G_q rfl (op_eql rfl rfl ?_)
        refine G_q rfl (zab (av := .xb (decide (y37.1 = 37))) rfl ?_)
        refine G_nil (zaa ?_)
        refine zak (p := y37.1 = 37) rfl (fun hc => ?_) (fun hc => ?_)
        ·replace h := ite_t h hc
         refine k_join1_0 h (fun (x2_j64 : Bool) => (AF.put AF0 (some 2) (.xb x2_j64))) (fun (x2_j64 : Bool) => []) (fun k64 h => ?_) (fun x2_j64 h => ?_)
         ·refine zag .free hmixP (by kernel_rfl) ?_
          refine G_q rfl (zac (av := .xi (List.length y1.2.2 : Int)) rfl ?_)
          refine G_q rfl (op_leq rfl rfl ?_)
          refine G_q rfl (zac (av := .xb (decide ((List.length y1.2.2 : Int) ≤ 1))) rfl ?_)
          refine G_split (p := (List.length y1.2.2 : Int) ≤ 1) 104 rfl (fun hc => ?_) (fun hc => ?_)
          ·replace h := ite_t h hc
           refine Gy_q rfl rfl rfl (zac (av := ndA a0) rfl ?_)
           obtain ⟨y66, hy66, h⟩ := bnd1_some h
           refine Gy_q rfl rfl rfl (zap (c := zah y66) (ndA_un hy66) ?_)
           refine Gy_q rfl rfl rfl (zam (o := 1) (c' := (List.drop 1 (zah y66))) (by kernel_rfl) rfl rfl ?_)
           refine Gy_q rfl rfl rfl (zaq (a := .xi y66.2.1) (by kernel_rfl) rfl rfl ?_)
           refine Gy_q rfl rfl rfl (op_eql rfl rfl ?_)
           refine G_q rfl (zao rfl (av := .xb (decide (y66.2.1 = 0))) rfl ?_)
           refine G_q rfl (zab (av := .xb (decide (y66.2.1 = 0))) rfl ?_)
           refine G_nil ?_
           refine zaf ⟨_, h, ?_⟩
           exact Sub.of_le (lq rfl lt0)
          ·replace h := ite_f h hc
           refine G_n rfl rfl (G_n rfl rfl (G_n rfl rfl (G_n rfl rfl (G_n rfl rfl ?_))))
           refine G_q rfl (zai rfl (av := .xb false) rfl ?_)
           refine G_q rfl (zab (av := .xb false) rfl ?_)
           refine G_nil ?_
           refine zaf ⟨_, h, ?_⟩
           exact Sub.of_le (lq rfl lt0)
         ·refine k_ret (kB_ret (kC_ret ?_))
          obtain rfl := Option.some.inj h
          refine zaj (endN (af' := (AF.put AF0 (some 2) (.xb x2_j64))) (σ' := []) _ rfl ?_ ⟨rfl, rfl⟩)
          exact Sub.of_le (lq rfl lt0)
        ·replace h := ite_f h hc
         refine zae (zag .free hmixP (by kernel_rfl) ?_)
         refine G_q rfl (op_eql rfl rfl ?_)
         refine G_q rfl (zab (av := .xb (decide (y37.1 = 38))) rfl ?_)
         refine G_nil (zaa ?_)
         refine zak (p := y37.1 = 38) rfl (fun hc => ?_) (fun hc => ?_)
         ·replace h := ite_t h hc
          refine zae (zag .free hmixP (by kernel_rfl) ?_)
          refine G_q rfl (zab (av := .xb true) rfl ?_)
          refine G_nil (zaa (k_ret (kB_ret (kC_ret ?_))))
          obtain rfl := Option.some.inj h
          refine zaj (endN (af' := (AF.put AF0 (some 2) (.xb true))) (σ' := []) _ rfl ?_ ⟨rfl, rfl⟩)
          exact Sub.of_le (lq rfl lt0)
         ·replace h := ite_f h hc
          refine k_join1_0 h (fun (x113_j67 : Bool) => (AF.put (AF.put (AF.put AF0 (some 0) (ndA a0)) (some 3) (.xi (List.length y1.2.2 : Int))) (some 113) (.xb x113_j67))) (fun (x113_j67 : Bool) => []) (fun k67 h => ?_) (fun x113_j67 h => ?_)
          ·refine zae (zag .free hmixP (by kernel_rfl) ?_)
           refine G_q rfl (op_eql rfl rfl ?_)
           refine G_q rfl (zab (av := .xb (decide (y37.1 = 39))) rfl ?_)
           refine G_nil (zaa ?_)
           refine zak (p := y37.1 = 39) rfl (fun hc => ?_) (fun hc => ?_)
           ·replace h := ite_t h hc
            refine k_skip ?_
            refine zaf ⟨_, h, ?_⟩
            exact Sub.of_le (lq rfl (lq rfl (lq rfl lt0)))
           ·replace h := ite_f h hc
            refine zag .free hmixP (by kernel_rfl) ?_
            refine G_q rfl (op_eql rfl rfl ?_)
            refine G_q rfl (zab (av := .xb (decide (y37.1 = 40))) rfl ?_)
            refine G_nil ?_
            refine zaf ⟨_, h, ?_⟩
            exact Sub.of_le (lq rfl (lq rfl (lq rfl lt0)))
          ·refine k_cond_b (c := x113_j67) rfl (fun hc => ?_) (fun hc => ?_)
           ·replace h := ite_t h hc
            refine k_join1_0 h (fun (x2_j68 : Bool) => (AF.put AF0 (some 2) (.xb x2_j68))) (fun (x2_j68 : Bool) => []) (fun k68 h => ?_) (fun x2_j68 h => ?_)
            ·refine zag .free hmixP (by kernel_rfl) ?_
             refine G_q rfl (zac (av := .xi (List.length y1.2.2 : Int)) rfl ?_)
             refine G_q rfl (op_eql rfl rfl ?_)
             refine G_q rfl (zac (av := .xb (decide ((List.length y1.2.2 : Int) = 2))) rfl ?_)
             refine G_split (p := (List.length y1.2.2 : Int) = 2) 118 rfl (fun hc => ?_) (fun hc => ?_)
             ·replace h := ite_t h hc
              refine Gy_q rfl rfl rfl (zac (av := ndA a0) rfl ?_)
              obtain ⟨y70, hy70, h⟩ := bnd1_some h
              refine Gy_q rfl rfl rfl (zap (c := zah y70) (ndA_un hy70) ?_)
              refine Gy_q rfl rfl rfl (zam (o := 1) (c' := (List.drop 1 (zah y70))) (by kernel_rfl) rfl rfl ?_)
              refine Gy_q rfl rfl rfl (zaq (a := .xi y70.2.1) (by kernel_rfl) rfl rfl ?_)
              refine Gy_q rfl rfl rfl (op_eql rfl rfl ?_)
              refine G_q rfl (zao rfl (av := .xb (decide (y70.2.1 = 0))) rfl ?_)
              refine G_q rfl (zab (av := .xb (decide (y70.2.1 = 0))) rfl ?_)
              refine G_nil ?_
              refine zaf ⟨_, h, ?_⟩
              exact Sub.of_le (lq rfl lt0)
             ·replace h := ite_f h hc
              refine G_n rfl rfl (G_n rfl rfl (G_n rfl rfl (G_n rfl rfl (G_n rfl rfl ?_))))
              refine G_q rfl (zai rfl (av := .xb false) rfl ?_)
              refine G_q rfl (zab (av := .xb false) rfl ?_)
              refine G_nil ?_
              refine zaf ⟨_, h, ?_⟩
              exact Sub.of_le (lq rfl lt0)
            ·refine k_ret (kB_ret (kC_ret ?_))
             obtain rfl := Option.some.inj h
             refine zaj (endN (af' := (AF.put AF0 (some 2) (.xb x2_j68))) (σ' := []) _ rfl ?_ ⟨rfl, rfl⟩)
             exact Sub.of_le (lq rfl lt0)
           ·replace h := ite_f h hc
            refine k_skip (kB_normal (zaa (zae (zag .free hmixP (by kernel_rfl) ?_))))
            refine G_q rfl (zab (av := .xb false) rfl ?_)
            refine G_nil (zaa (k_ret ?_))
            obtain rfl := Option.some.inj h
            refine zaj (endN (af' := (AF.put AF0 (some 2) (.xb false))) (σ' := []) _ rfl ?_ ⟨rfl, rfl⟩)
            exact Sub.of_le (lq rfl lt0)
set_option maxHeartbeats 4000000 in
theorem m_pattern_read_F_ok (self_pattern_read : (List (Int × Int × Int)) → Int → Option (Nd × (List (Int × Int × Int)) × Bool)) (hself_pattern_read : ∀ (a0 : List (Int × Int × Int)) (a1 : Int) (r : Nd × (List (Int × Int × Int)) × Bool), self_pattern_read a0 a1 = some r → Pure Tryz.prog 54 [(.row 3 zan a0), (.exact (.int .i64 a1))] (.tup [ndA r.1, .row 3 zan r.2.1, .exact (.bool r.2.2)])) (a0 : List (Int × Int × Int)) (a1 : Int) (r : Nd × (List (Int × Int × Int)) × Bool) (h : m_pattern_read_F self_pattern_read a0 a1 = some r) : Pure Tryz.prog 54 [(.row 3 zan a0), (.exact (.int .i64 a1))] (.tup [ndA r.1, .row 3 zan r.2.1, .exact (.bool r.2.2)]) := by
 unfold m_pattern_read_F at h
 refine Pure.ofFun (fun_of_awp Tryz.func54 rfl Tryz.ntmps54 (by simp) rfl (res3 rfl) fun E hE => k_end ?_)
 refine zae (zag .free hmixP (by kernel_rfl) ?_)
 refine G_q rfl (zab (av := .exact (.pointer none)) rfl ?_)
 refine G_q rfl (zab (av := .exact (.slice none 0 0)) rfl ?_)
 refine G_q rfl (zab (av := .xb false) rfl ?_)
 refine G_nil (zaa (zae ?_))
 refine k_join1_0 h (fun (x34_j7 : Bool) => (AF.put (AF.put (AF.put AF0 (some 0) (.row 3 zan a0)) (some 1) (.xi a1)) (some 34) (.xb x34_j7))) (fun (x34_j7 : Bool) => []) (fun k7 h => ?_) (fun x34_j7 h => ?_)
 ·refine zag .free hmixP (by kernel_rfl) ?_
  refine G_q rfl (zac (av := .row 3 zan a0) rfl ?_)
  refine G_q rfl (op_len_row (by kernel_rfl) rfl ?_)
  refine G_q rfl (op_eql rfl rfl ?_)
  refine G_q rfl (zac (av := .xb (decide ((List.length a0 : Int) = 0))) rfl ?_)
  refine G_split (p := (List.length a0 : Int) = 0) 15 rfl (fun hc => ?_) (fun hc => ?_)
  ·replace h := ite_t h hc
   refine G_n rfl rfl (G_n rfl rfl ?_)
   refine G_q rfl (zao rfl (av := .xb true) rfl ?_)
   refine G_q rfl (zac (av := .xb true) rfl ?_)
   refine G_n rfl rfl (G_n rfl rfl (G_n rfl rfl (G_n rfl rfl (G_n rfl rfl ?_))))
   refine G_q rfl (zao rfl (av := .xb true) rfl ?_)
   refine G_q rfl (zac (av := .xb true) rfl ?_)
   refine G_n rfl rfl (G_n rfl rfl (G_n rfl rfl (G_n rfl rfl (G_n rfl rfl (G_n rfl rfl (G_n rfl rfl ?_))))))
   refine G_q rfl (zao rfl (av := .xb true) rfl ?_)
   refine G_nil ?_
   refine zaf ⟨_, h, ?_⟩
   exact Sub.of_le (lq rfl (lq rfl (lq rfl lt0)))
  ·replace h := ite_f h hc
   refine Gy_q rfl rfl rfl (zac (av := .xi a1) rfl ?_)
   refine Gy_q rfl rfl rfl (op_gtr rfl rfl ?_)
   refine G_q rfl (zai rfl (av := .xb (decide (64 < a1))) rfl ?_)
   refine G_q rfl (zac (av := .xb (decide (64 < a1))) rfl ?_)
   refine G_split (p := 64 < a1) 19 rfl (fun hc => ?_) (fun hc => ?_)
   ·replace h := ite_t h hc
    refine G_n rfl rfl (G_n rfl rfl (G_n rfl rfl (G_n rfl rfl (G_n rfl rfl ?_))))
    refine G_q rfl (zao rfl (av := .xb true) rfl ?_)
    refine G_q rfl (zac (av := .xb true) rfl ?_)
    refine G_n rfl rfl (G_n rfl rfl (G_n rfl rfl (G_n rfl rfl (G_n rfl rfl (G_n rfl rfl (G_n rfl rfl ?_))))))
    refine G_q rfl (zao rfl (av := .xb true) rfl ?_)
    refine G_nil ?_
    refine zaf ⟨_, h, ?_⟩
    exact Sub.of_le (lq rfl (lq rfl (lq rfl lt0)))
   ·replace h := ite_f h hc
    refine Gy_q rfl rfl rfl (zac (av := .row 3 zan a0) rfl ?_)
    obtain ⟨n10, h⟩ := need_some h
    refine Gy_q rfl rfl rfl (op_index_row (by kernel_rfl) rfl rfl n10.1 n10.2 ?_)
    refine Gy_q rfl rfl rfl (zam (o := 2) (c' := (List.drop 2 (zan (gi a0 0)))) (by kernel_rfl) rfl rfl ?_)
    refine Gy_q rfl rfl rfl (zaq (a := .xi ((gi a0 0).2.2)) (by kernel_rfl) rfl rfl ?_)
    refine Gy_q rfl rfl rfl (op_lss rfl rfl ?_)
    refine G_q rfl (zai rfl (av := .xb (decide (((gi a0 0).2.2) < 0))) rfl ?_)
    refine G_q rfl (zac (av := .xb (decide (((gi a0 0).2.2) < 0))) rfl ?_)
    refine G_split (p := ((gi a0 0).2.2) < 0) 26 rfl (fun hc => ?_) (fun hc => ?_)
    ·replace h := ite_t h hc
     refine G_n rfl rfl (G_n rfl rfl (G_n rfl rfl (G_n rfl rfl (G_n rfl rfl (G_n rfl rfl (G_n rfl rfl ?_))))))
     refine G_q rfl (zao rfl (av := .xb true) rfl ?_)
     refine G_nil ?_
     refine zaf ⟨_, h, ?_⟩
     exact Sub.of_le (lq rfl (lq rfl (lq rfl lt0)))
    ·replace h := ite_f h hc
     refine Gy_q rfl rfl rfl (zac (av := .row 3 zan a0) rfl ?_)
     obtain ⟨n11, h⟩ := need_some h
     refine Gy_q rfl rfl rfl (op_index_row (by kernel_rfl) rfl rfl n11.1 n11.2 ?_)
     refine Gy_q rfl rfl rfl (zam (o := 2) (c' := (List.drop 2 (zan (gi a0 0)))) (by kernel_rfl) rfl rfl ?_)
     refine Gy_q rfl rfl rfl (zaq (a := .xi ((gi a0 0).2.2)) (by kernel_rfl) rfl rfl ?_)
     refine Gy_q rfl rfl rfl (zac (av := .row 3 zan a0) rfl ?_)
     refine Gy_q rfl rfl rfl (op_len_row (by kernel_rfl) rfl ?_)
     refine Gy_q rfl rfl rfl (op_geq rfl rfl ?_)
     refine G_q rfl (zai rfl (av := .xb (decide ((List.length a0 : Int) ≤ ((gi a0 0).2.2)))) rfl ?_)
     refine G_nil ?_
     refine zaf ⟨_, h, ?_⟩
     exact Sub.of_le (lq rfl (lq rfl (lq rfl lt0)))
 ·refine k_cond_b (c := x34_j7) rfl (fun hc => ?_) (fun hc => ?_)
  ·replace h := ite_t h hc
   refine zae (zag .free hmixP (by kernel_rfl) ?_)
   refine G_q rfl (zab (av := .exact (.pointer none)) rfl ?_)
   refine G_q rfl (zab (av := .exact (.slice none 0 0)) rfl ?_)
   refine G_q rfl (zab (av := .xb false) rfl ?_)
   refine G_nil (zaa (k_ret (kC_ret ?_)))
   obtain rfl := Option.some.inj h
   refine zaj (endN (af' := (AF.put (AF.put (AF.put AF0 (some 4) (ndA Nd.nil)) (some 5) (.row 3 zan [])) (some 6) (.xb false))) (σ' := []) _ rfl ?_ ⟨rfl, rfl⟩)
   exact Sub.of_le (lq rfl (AF.le_put (row_nil (by decide)) (AF.le_put (AV.le_eq ndA_nil.symm) lt0)))
  ·replace h := ite_f h hc
   refine k_skip (zaa (zae ?_))
   refine k_plan [] [(0, 0), (0, 1), (0, 2), (0, 3), (0, 4), (0, 5), (0, 6), (0, 7), (0, 8), (2, 9), (0, 10)] hmixP (by kernel_rfl) ?_
   refine P_q no34_0 rfl (zac (av := .row 3 zan a0) rfl ?_)
   obtain ⟨n12, h⟩ := need_some h
   refine P_q no34_0 rfl (op_index_row (by kernel_rfl) rfl rfl n12.1 n12.2 ?_)
   refine P_q no34_0 rfl (zam (o := 0) (c' := (List.drop 0 (zan (gi a0 0)))) (by kernel_rfl) rfl rfl ?_)
   refine P_q no34_0 rfl (zaq (a := .xi ((gi a0 0).1)) (by kernel_rfl) rfl rfl ?_)
   refine P_q no34_0 rfl (zac (av := .row 3 zan a0) rfl ?_)
   obtain ⟨n13, h⟩ := need_some h
   refine P_q no34_0 rfl (op_index_row (by kernel_rfl) rfl rfl n13.1 n13.2 ?_)
   refine P_q no34_0 rfl (zam (o := 1) (c' := (List.drop 1 (zan (gi a0 0)))) (by kernel_rfl) rfl rfl ?_)
   refine P_q no34_0 rfl (zaq (a := .xi ((gi a0 0).2.1)) (by kernel_rfl) rfl rfl ?_)
   refine P_q no34_0 rfl (op_bld (c' := [.xi ((gi a0 0).1), .xi ((gi a0 0).2.1), .exact (.slice none 0 0)]) (CellsAll.cons rfl CellsOf.int (CellsAll.cons rfl CellsOf.int CellsAll.nil)) rfl (LEs.cons (AV.le_eq rfl) (LEs.cons (AV.le_eq rfl) (LEs.cons (AV.le_eq rfl) LEs.nil))) ?_)
   refine P_l rfl (op_boxI (c := [.xi ((gi a0 0).1), .xi ((gi a0 0).2.1), .exact (.slice none 0 0)]) rfl CellsOf.agg (LEs.cons (AV.le_eq rfl) (LEs.cons (AV.le_eq rfl) (LEs.cons (AV.le_eq rfl) LEs.nil))) (fun b14 => ?_))
   refine P_q no34_0 rfl (zab (av := pA b14 0) rfl ?_)
   refine P_nil (zaa (zae (zag .free hmixP (by kernel_rfl) ?_)))
   refine G_q rfl (zac (av := .row 3 zan a0) rfl ?_)
   obtain ⟨n15, h⟩ := need_some h
   refine G_q rfl (op_index_row (by kernel_rfl) rfl rfl n15.1 n15.2 ?_)
   refine G_q rfl (zam (o := 2) (c' := (List.drop 2 (zan (gi a0 0)))) (by kernel_rfl) rfl rfl ?_)
   refine G_q rfl (zaq (a := .xi ((gi a0 0).2.2)) (by kernel_rfl) rfl rfl ?_)
   refine G_q rfl (zab (av := .xi ((gi a0 0).2.2)) rfl ?_)
   refine G_nil (zaa (zae (zag .free hmixP (by kernel_rfl) ?_)))
   refine G_q rfl (zac (av := .row 3 zan a0) rfl ?_)
   obtain ⟨n16, h⟩ := need_some h
   refine G_q rfl (op_slice_rowd (by kernel_rfl) rfl (bnd_some rfl) bnd_none (by decide) n16 (Int.le_refl _) ?_)
   refine G_q rfl (zab (av := .row 3 zan (List.drop (Int.toNat 1) a0)) rfl ?_)
   refine G_nil (zaa ?_)
   refine k_join2_1 h (fun (x0_j17 : List (Int × Int × Int)) (x7_2_j17 : List Nd) (v7_2_j17 : Value) => (AF.put (AF.put AF0 (some 0) (.row 3 zan x0_j17)) (some 7) (pA b14 0))) (fun (x0_j17 : List (Int × Int × Int)) (x7_2_j17 : List Nd) (v7_2_j17 : Value) => [vecT Tryz.prog 67 1 c_P_pattern_node v7_2_j17 x7_2_j17, boxI 69 b14 [.xi ((gi a0 0).1), .xi ((gi a0 0).2.1), .exact v7_2_j17]]) (fun k17 h => ?_) (fun x0_j17 x7_2_j17 v7_2_j17 h => ?_)
   ·refine zae (zag .free hmixP (by kernel_rfl) ?_)
    refine G_q rfl (zac (av := .xi ((gi a0 0).2.2)) rfl ?_)
    refine G_q rfl (zac (av := .xi 0) rfl ?_)
    refine G_nil (zaa (k_block ?_))
    refine k_loop3_1 (m_pattern_read_L2 self_pattern_read a0 a1 k17) (m_pattern_read_B2 self_pattern_read a0 a1 k17) (fun _ _ _ => rfl) (fun m _ _ _ => rfl) h (fun (x0_l2 : List (Int × Int × Int)) (x7_2_l2 : List Nd) (x52_l2 : Int) (v7_2_l2 : Value) => (AF.put (AF.put (AF.put (AF.put (AF.put AF0 (some 0) (.row 3 zan x0_l2)) (some 1) (.xi a1)) (some 7) (pA b14 0)) (some 51) (.xi ((gi a0 0).2.2))) (some 52) (.xi x52_l2))) (fun (x0_l2 : List (Int × Int × Int)) (x7_2_l2 : List Nd) (x52_l2 : Int) (v7_2_l2 : Value) => [vecT Tryz.prog 67 1 c_P_pattern_node v7_2_l2 x7_2_l2, boxI 69 b14 [.xi ((gi a0 0).1), .xi ((gi a0 0).2.1), .exact v7_2_l2]]) (.slice none 0 0) ?_ (fun rec2 x0_l2 x7_2_l2 x52_l2 v7_2_l2 h => ?_)
    ·refine Sub.trans (SubU.to (SubU.nilT (P := Tryz.prog) (t := 67) (n := 1) (enc := c_P_pattern_node))) ?_
     exact Sub.of_le (lq rfl (lq rfl (lq rfl (lq rfl (lq rfl lt0)))))
    ·unfold m_pattern_read_B2 at h
     refine zae (zag .free hmixP (by kernel_rfl) ?_)
     refine G_q rfl (op_lss rfl rfl ?_)
     refine G_nil (zaa (zae ?_))
     refine zak (p := x52_l2 < ((gi a0 0).2.2)) rfl (fun hc => ?_) (fun hc => ?_)
     ·replace h := ite_t h hc
      refine k_skip (zaa (zae (k_block (zae (zag .free hmixP (by kernel_rfl) ?_)))))
      refine G_q rfl (zac (av := .row 3 zan x0_l2) rfl ?_)
      refine G_q rfl (zac (av := .xi a1) rfl ?_)
      refine G_q rfl (op_add rfl rfl rfl ?_)
      obtain ⟨y34, hy34, h⟩ := bnd1_some h
      refine G_q rfl (zal (hself_pattern_read _ _ _ hy34) Tryz.func54 (by kernel_rfl) (LEs.cons (AV.le_eq rfl) (LEs.cons (AV.le_eq rfl) LEs.nil)) ?_)
      refine G_q rfl (zac (av := .tup [ndA y34.1, .row 3 zan y34.2.1, .xb y34.2.2]) rfl ?_)
      refine G_q rfl (op_extract (av := ndA y34.1) rfl rfl ?_)
      refine G_q rfl (op_extract (av := .row 3 zan y34.2.1) rfl rfl ?_)
      refine G_q rfl (op_extract (av := .xb y34.2.2) rfl rfl ?_)
      refine G_q rfl (zab (av := ndA y34.1) rfl ?_)
      refine G_q rfl (zab (av := .row 3 zan y34.2.1) rfl ?_)
      refine G_q rfl (zab (av := .xb y34.2.2) rfl ?_)
      refine G_nil (zaa (zae (zae (zag .free hmixP (by kernel_rfl) ?_))))
      refine G_q rfl (zac (av := .xb y34.2.2) rfl ?_)
      refine G_q rfl (op_not rfl ?_)
      refine G_nil (zaa ?_)
      refine k_cond_b (c := !y34.2.2) rfl (fun hc => ?_) (fun hc => ?_)
      ·replace h := ite_t h hc
       refine zae (zag .free hmixP (by kernel_rfl) ?_)
       refine G_q rfl (zab (av := .exact (.pointer none)) rfl ?_)
       refine G_q rfl (zab (av := .exact (.slice none 0 0)) rfl ?_)
       refine G_q rfl (zab (av := .xb false) rfl ?_)
       refine G_nil (zaa (k_ret (kC_ret (kB_ret (kC_ret (kI_ret (kB_ret (kI_ret ?_))))))))
       obtain rfl := Option.some.inj h
       refine zaj (endN (af' := (AF.put (AF.put (AF.put AF0 (some 4) (ndA Nd.nil)) (some 5) (.row 3 zan [])) (some 6) (.xb false))) (σ' := []) _ rfl ?_ ⟨rfl, rfl⟩)
       refine Sub.trans (SubU.to SubU.drop) ?_
       refine Sub.trans (SubU.to SubU.drop) ?_
       exact Sub.of_le (lq rfl (AF.le_put (row_nil (by decide)) (AF.le_put (AV.le_eq ndA_nil.symm) lt0)))
      ·replace h := ite_f h hc
       refine k_skip (zaa (zae (zag .free hmixP (by kernel_rfl) ?_)))
       refine G_q rfl (zac (av := pA b14 0) rfl ?_)
       refine G_q rfl (zac (av := pA b14 0) rfl ?_)
       refine G_q rfl (op_nilCheck rfl ?_)
       refine G_q rfl (op_fieldAddr (o := 2) (by kernel_rfl) rfl ?_)
       refine G_r rfl (opR_f1 (op_load_box1 (a := .exact v7_2_l2) (by kernel_rfl) rfl rfl ?_))
       refine G_q rfl (zac (av := ndA y34.1) rfl ?_)
       refine G_q rfl (op_litT (n := 1) (enc := c_P_pattern_node) [y34.1] (CellsAll.cons rfl CellsOf.tree CellsAll.nil) rfl (by kernel_rfl) (LEss.cons (LEs.cons (AV.le_eq rfl) LEs.nil) LEss.nil) ?_)
       obtain ⟨n35, h⟩ := need_some h
       refine G_l rfl (op_appT (by kernel_rfl) rfl rfl oc_c_P_pattern_node n35 (fun v36 => ?_))
       refine G_q rfl (op_nilCheck rfl ?_)
       refine G_q rfl (op_fieldAddr (o := 2) (by kernel_rfl) rfl ?_)
       refine G_l rfl (opB_sl (List.Mem.head _) (fun hsl => (opB_f1 (op_store_box (c' := [.exact v36]) (c3 := [.xi ((gi a0 0).1), .xi ((gi a0 0).2.1), .exact v36]) rfl rfl (CellsOf.sl hsl) (LEs.cons (AV.le_eq rfl) LEs.nil) (OneC.sl hsl OneC.nil) (by kernel_rfl) (Nat.le_of_ble_eq_true rfl) rfl ?_))))
       refine G_nil (zaa (zag .free hmixP (by kernel_rfl) ?_))
       refine G_q rfl (zac (av := .row 3 zan y34.2.1) rfl ?_)
       refine G_q rfl (zab (av := .row 3 zan y34.2.1) rfl ?_)
       refine G_nil (kB_normal (zaa (zag .free hmixP (by kernel_rfl) ?_)))
       refine G_q rfl (op_add rfl rfl rfl ?_)
       refine G_q rfl (zac (av := .xi (i64 (x52_l2 + 1))) rfl ?_)
       refine G_nil ?_
       refine zaf ⟨_, _, _, v36, h, ?_⟩
       refine Sub.trans (SubU.to SubU.f1) ?_
       exact Sub.of_le (lq rfl (lq rfl (lq rfl (lq rfl (lq rfl lt0)))))
     ·replace h := ite_f h hc
      refine k_exit (kC_exit (kI_exit (kB_exit ?_)))
      refine zaf ⟨_, _, v7_2_l2, h, ?_⟩
      exact Sub.of_le (lq rfl (lq rfl lt0))
   ·refine zae (zag .free hmixP (by kernel_rfl) ?_)
    refine G_q rfl (zac (av := pA b14 0) rfl ?_)
    refine G_q rfl (zac (av := .row 3 zan x0_j17) rfl ?_)
    refine G_q rfl (zac (av := pA b14 0) rfl ?_)
    refine G_sub rfl (SubU.trans ((SubU.trans (SubU.know len_c_P_pattern_node) (SubU.trans (SubU.knowC (j := 2) (c' := [.xi ((gi a0 0).1), .xi ((gi a0 0).2.1), .row 1 c_P_pattern_node x7_2_j17]) rfl rfl) (SubU.drop)))) (SubU.trans (SubU.knowB (a := ndA (mkN ((gi a0 0).1, (gi a0 0).2.1, x7_2_j17))) (ndA_mk ((gi a0 0).1, (gi a0 0).2.1, x7_2_j17))) (SubU.trans (SubU.knowS (s := 7) rfl) (SubU.trans (SubU.knowS (s := 76) rfl) (SubU.trans (SubU.knowS (s := 78) rfl) (SubU.drop)))))) ?_
    obtain ⟨y37, hy37, h⟩ := bnd1_some h
    refine G_q rfl (zal (m_pattern_node_formed_ok _ _ hy37) Tryz.func81 (by kernel_rfl) (LEs.cons (AV.le_eq rfl) LEs.nil) ?_)
    refine G_q rfl (zab (av := ndA (mkN ((gi a0 0).1, (gi a0 0).2.1, x7_2_j17))) rfl ?_)
    refine G_q rfl (zab (av := .row 3 zan x0_j17) rfl ?_)
    refine G_q rfl (zab (av := .xb y37) rfl ?_)
    refine G_nil (zaa (k_ret ?_))
    obtain rfl := Option.some.inj h
    refine zaj (endN (af' := (AF.put (AF.put (AF.put AF0 (some 4) (ndA (mkN ((gi a0 0).1, (gi a0 0).2.1, x7_2_j17)))) (some 5) (.row 3 zan x0_j17)) (some 6) (.xb y37))) (σ' := []) _ rfl ?_ ⟨rfl, rfl⟩)
    exact Sub.of_le (lq rfl (lq rfl (lq rfl lt0)))
set_option maxHeartbeats 4000000 in
theorem m_pattern_read_S_ok : ∀ n : Nat, (∀ (a0 : List (Int × Int × Int)) (a1 : Int) (r : Nd × (List (Int × Int × Int)) × Bool), m_pattern_read_S n a0 a1 = some r → Pure Tryz.prog 54 [(.row 3 zan a0), (.exact (.int .i64 a1))] (.tup [ndA r.1, .row 3 zan r.2.1, .exact (.bool r.2.2)]))
  | 0 => (fun _ _ _ h => by have h' : (none : Option _) = some _ := h; cases h')
  | n + 1 => by
    have ih := m_pattern_read_S_ok n
    exact fun a0 a1 r h => m_pattern_read_F_ok (m_pattern_read_S n) ih a0 a1 r h
theorem m_pattern_read_ok (a0 : List (Int × Int × Int)) (a1 : Int) (r : Nd × (List (Int × Int × Int)) × Bool) (h : m_pattern_read a0 a1 = some r) : Pure Tryz.prog 54 [(.row 3 zan a0), (.exact (.int .i64 a1))] (.tup [ndA r.1, .row 3 zan r.2.1, .exact (.bool r.2.2)]) := (m_pattern_read_S_ok FU) a0 a1 r h
set_option maxHeartbeats 4000000 in
theorem m_pattern_whole_ok (a0 : List (Int × Int × Int)) (r : Nd × Bool) (h : m_pattern_whole a0 = some r) : Pure Tryz.prog 34 [(.row 3 zan a0)] (.tup [ndA r.1, .exact (.bool r.2)]) := by
 unfold m_pattern_whole at h
 refine Pure.ofFun (fun_of_awp Tryz.func34 rfl Tryz.ntmps34 (by simp) rfl (res2 rfl) fun E hE => k_end ?_)
 refine zae (zag .free hmixP (by kernel_rfl) ?_)
 refine G_q rfl (zab (av := .exact (.pointer none)) rfl ?_)
 refine G_q rfl (zab (av := .xb false) rfl ?_)
 refine G_nil (zaa (zae (zag .free hmixP (by kernel_rfl) ?_)))
 refine G_q rfl (zac (av := .row 3 zan a0) rfl ?_)
 obtain ⟨y1, hy1, h⟩ := bnd1_some h
 refine G_q rfl (zal (m_pattern_read_ok _ _ _ hy1) Tryz.func54 (by kernel_rfl) (LEs.cons (AV.le_eq rfl) (LEs.cons (AV.le_eq rfl) LEs.nil)) ?_)
 refine G_q rfl (zac (av := .tup [ndA y1.1, .row 3 zan y1.2.1, .xb y1.2.2]) rfl ?_)
 refine G_q rfl (op_extract (av := ndA y1.1) rfl rfl ?_)
 refine G_q rfl (op_extract (av := .row 3 zan y1.2.1) rfl rfl ?_)
 refine G_q rfl (op_extract (av := .xb y1.2.2) rfl rfl ?_)
 refine G_q rfl (zab (av := ndA y1.1) rfl ?_)
 refine G_q rfl (zab (av := .row 3 zan y1.2.1) rfl ?_)
 refine G_q rfl (zab (av := .xb y1.2.2) rfl ?_)
 refine G_nil (zaa ?_)
 refine k_join1_0 h (fun (x3_j2 : Bool) => (AF.put (AF.put AF0 (some 2) (ndA y1.1)) (some 3) (.xb x3_j2))) (fun (x3_j2 : Bool) => []) (fun k2 h => ?_) (fun x3_j2 h => ?_)
 ·refine zag .free hmixP (by kernel_rfl) ?_
  refine G_q rfl (zac (av := ndA y1.1) rfl ?_)
  refine G_q rfl (zac (av := .xb y1.2.2) rfl ?_)
  refine G_q rfl (zac (av := .xb y1.2.2) rfl ?_)
  refine G_splitB (c := y1.2.2) 15 rfl (fun hc => ?_) (fun hc => ?_)
  ·replace h := ite_t h hc
   refine Gy_q rfl rfl rfl (zac (av := .row 3 zan y1.2.1) rfl ?_)
   refine Gy_q rfl rfl rfl (op_len_row (by kernel_rfl) rfl ?_)
   refine Gy_q rfl rfl rfl (op_eql rfl rfl ?_)
   refine G_q rfl (zao rfl (av := .xb (decide ((List.length y1.2.1 : Int) = 0))) rfl ?_)
   refine G_q rfl (zac (av := .xb (decide ((List.length y1.2.1 : Int) = 0))) rfl ?_)
   refine G_split (p := (List.length y1.2.1 : Int) = 0) 20 rfl (fun hc => ?_) (fun hc => ?_)
   ·replace h := ite_t h hc
    refine Gy_q rfl rfl rfl (zac (av := .row 3 zan a0) rfl ?_)
    refine Gy_q rfl rfl rfl (op_len_row (by kernel_rfl) rfl ?_)
    refine Gy_q rfl rfl rfl (op_leq rfl rfl ?_)
    refine G_q rfl (zao rfl (av := .xb (decide ((List.length a0 : Int) ≤ 8192))) rfl ?_)
    refine G_q rfl (zab (av := ndA y1.1) rfl ?_)
    refine G_q rfl (zab (av := .xb (decide ((List.length a0 : Int) ≤ 8192))) rfl ?_)
    refine G_nil ?_
    refine zaf ⟨_, h, ?_⟩
    exact Sub.of_le (lq rfl (lq rfl lt0))
   ·replace h := ite_f h hc
    refine G_n rfl rfl (G_n rfl rfl (G_n rfl rfl ?_))
    refine G_q rfl (zai rfl (av := .xb false) rfl ?_)
    refine G_q rfl (zab (av := ndA y1.1) rfl ?_)
    refine G_q rfl (zab (av := .xb false) rfl ?_)
    refine G_nil ?_
    refine zaf ⟨_, h, ?_⟩
    exact Sub.of_le (lq rfl (lq rfl lt0))
  ·replace h := ite_f h hc
   refine G_n rfl rfl (G_n rfl rfl (G_n rfl rfl ?_))
   refine G_q rfl (zai rfl (av := .xb false) rfl ?_)
   refine G_q rfl (zac (av := .xb false) rfl ?_)
   refine G_n rfl rfl (G_n rfl rfl (G_n rfl rfl ?_))
   refine G_q rfl (zai rfl (av := .xb false) rfl ?_)
   refine G_q rfl (zab (av := ndA y1.1) rfl ?_)
   refine G_q rfl (zab (av := .xb false) rfl ?_)
   refine G_nil ?_
   refine zaf ⟨_, h, ?_⟩
   exact Sub.of_le (lq rfl (lq rfl lt0))
 ·refine k_ret ?_
  obtain rfl := Option.some.inj h
  refine zaj (endN (af' := (AF.put (AF.put AF0 (some 2) (ndA y1.1)) (some 3) (.xb x3_j2))) (σ' := []) _ rfl ?_ ⟨rfl, rfl⟩)
  exact Sub.of_le (lq rfl (lq rfl lt0))
set_option maxHeartbeats 4000000 in
theorem m_pattern_node_all_1_ok (self_pattern_node_all : Nd → (Nd → Option Bool) → Option Bool) (hself_pattern_node_all : ∀ (a0 : Nd) (a1 : Nd → Option Bool) (r : Bool), self_pattern_node_all a0 a1 = some r → Pure Tryz.prog 35 [(ndA a0), (.fn Tryz.prog (fun (i : Nd) => [ndA i]) (fun (i : Nd) => a1 i) (fun (r : Bool) => .exact (.bool r)))] (.exact (.bool r))) (a0 : Nd) (a1 : Nd → Option Bool) (r : Bool) (h : m_pattern_node_all_1 self_pattern_node_all a0 a1 = some r) : Pure Tryz.prog 56 [(ndA a0), (.ptr ([.fn Tryz.prog (fun (i : Nd) => [ndA i]) (fun (i : Nd) => a1 i) (fun (r : Bool) => .exact (.bool r))]))] (.exact (.bool r)) := by
 unfold m_pattern_node_all_1 at h
 refine Pure.ofFun (fun_of_awp Tryz.func56 rfl Tryz.ntmps56 (by simp) rfl (res1 rfl) fun E hE => k_end ?_)
 refine zae (zag .free hmixP (by kernel_rfl) ?_)
 refine G_q rfl (zab (av := .xb false) rfl ?_)
 refine G_nil (zaa (zae (zag .free hmixP (by kernel_rfl) ?_)))
 refine G_q rfl (zac (av := ndA a0) rfl ?_)
 refine G_q rfl (zaq (a := .fn Tryz.prog (fun (i : Nd) => [ndA i]) (fun (i : Nd) => a1 i) (fun (r : Bool) => .xb r)) (by kernel_rfl) rfl rfl ?_)
 obtain ⟨y1, hy1, h⟩ := bnd1_some h
 refine G_q rfl (zal (hself_pattern_node_all _ _ _ hy1) Tryz.func35 (by kernel_rfl) (LEs.cons (AV.le_eq rfl) (LEs.cons (AV.le_eq rfl) LEs.nil)) ?_)
 refine G_q rfl (op_not rfl ?_)
 refine G_q rfl (zab (av := .xb (!y1)) rfl ?_)
 refine G_nil (zaa (k_ret ?_))
 obtain rfl := Option.some.inj h
 refine zaj (endN (af' := (AF.put AF0 (some 3) (.xb (!y1)))) (σ' := []) _ rfl ?_ ⟨rfl, rfl⟩)
 exact Sub.of_le (lq rfl lt0)
set_option maxHeartbeats 4000000 in
theorem m_slices_IndexFunc_L_pattern_node_pattern_node_ok (a0 : List Nd) (a1 : Nd → Option Bool) (r : Int) (h : m_slices_IndexFunc_L_pattern_node_pattern_node a0 a1 = some r) : Pure Tryz.prog 82 [(.row 1 c_P_pattern_node a0), (.fn Tryz.prog (fun (i : Nd) => [ndA i]) (fun (i : Nd) => a1 i) (fun (r : Bool) => .exact (.bool r)))] (.exact (.int .i64 r)) := by
 unfold m_slices_IndexFunc_L_pattern_node_pattern_node at h
 refine Pure.ofFun (fun_of_awp Tryz.func82 rfl Tryz.ntmps82 (by simp) rfl (res1 rfl) fun E hE => k_end ?_)
 refine zae (zag .free hmixP (by kernel_rfl) ?_)
 refine G_q rfl (zab (av := .xi 0) rfl ?_)
 refine G_nil (zaa ?_)
 refine k_join0_0 h (AF0) ([]) (fun k1 h => ?_) (fun  h => ?_)
 ·refine zae (zag .free hmixP (by kernel_rfl) ?_)
  refine G_q rfl (zac (av := .row 1 c_P_pattern_node a0) rfl ?_)
  refine G_q rfl (op_len_row (by kernel_rfl) rfl ?_)
  refine G_q rfl (zac (av := .xi 0) rfl ?_)
  refine G_nil (zaa (k_block ?_))
  refine k_loop1_0 (m_slices_IndexFunc_L_pattern_node_pattern_node_L2 a0 a1 k1) (m_slices_IndexFunc_L_pattern_node_pattern_node_B2 a0 a1 k1) (fun _ => rfl) (fun m _ => rfl) h (fun (x8_l2 : Int) => (AF.put (AF.put (AF.put (AF.put AF0 (some 0) (.row 1 c_P_pattern_node a0)) (some 1) (.fn Tryz.prog (fun (i : Nd) => [ndA i]) (fun (i : Nd) => a1 i) (fun (r : Bool) => .xb r))) (some 7) (.xi (List.length a0 : Int))) (some 8) (.xi x8_l2))) (fun (x8_l2 : Int) => []) ?_ (fun rec2 x8_l2 h => ?_)
  ·exact Sub.of_le (lq rfl (lq rfl (lq rfl (lq rfl lt0))))
  ·unfold m_slices_IndexFunc_L_pattern_node_pattern_node_B2 at h
   refine zae (zag .free hmixP (by kernel_rfl) ?_)
   refine G_q rfl (op_lss rfl rfl ?_)
   refine G_nil (zaa (zae ?_))
   refine zak (p := x8_l2 < (List.length a0 : Int)) rfl (fun hc => ?_) (fun hc => ?_)
   ·replace h := ite_t h hc
    refine k_skip (zaa (zae (k_block (zae (zag .free hmixP (by kernel_rfl) ?_)))))
    refine G_q rfl (zac (av := .xi x8_l2) rfl ?_)
    refine G_q rfl (zab (av := .xi x8_l2) rfl ?_)
    refine G_nil (zaa (zae (zag .free hmixP (by kernel_rfl) ?_)))
    refine G_q rfl (zac (av := .fn Tryz.prog (fun (i : Nd) => [ndA i]) (fun (i : Nd) => a1 i) (fun (r : Bool) => .xb r)) rfl ?_)
    refine G_q rfl (zac (av := .row 1 c_P_pattern_node a0) rfl ?_)
    refine G_q rfl (zac (av := .xi x8_l2) rfl ?_)
    obtain ⟨n13, h⟩ := need_some h
    refine G_q rfl (op_index_row (by kernel_rfl) rfl rfl n13.1 n13.2 ?_)
    refine G_q rfl (zaq (a := ndA (gi a0 x8_l2)) (by kernel_rfl) rfl rfl ?_)
    obtain ⟨y14, hy14, h⟩ := bnd1_some h
    refine G_q rfl (op_callfn (gi a0 x8_l2) rfl hy14 (LEs.cons (AV.le_eq rfl) LEs.nil) ?_)
    refine G_nil (zaa ?_)
    refine k_cond_b (c := y14) rfl (fun hc => ?_) (fun hc => ?_)
    ·replace h := ite_t h hc
     refine zae (zag .free hmixP (by kernel_rfl) ?_)
     refine G_q rfl (zac (av := .xi x8_l2) rfl ?_)
     refine G_q rfl (zab (av := .xi x8_l2) rfl ?_)
     refine G_nil (zaa (k_ret (kB_ret (kC_ret (kI_ret (kB_ret (kI_ret ?_)))))))
     obtain rfl := Option.some.inj h
     refine zaj (endN (af' := (AF.put AF0 (some 4) (.xi x8_l2))) (σ' := []) _ rfl ?_ ⟨rfl, rfl⟩)
     exact Sub.of_le (lq rfl lt0)
    ·replace h := ite_f h hc
     refine k_skip (kB_normal (zaa (zag .free hmixP (by kernel_rfl) ?_)))
     refine G_q rfl (op_add rfl rfl rfl ?_)
     refine G_q rfl (zac (av := .xi (i64 (x8_l2 + 1))) rfl ?_)
     refine G_nil ?_
     refine zaf ⟨_, h, ?_⟩
     exact Sub.of_le (lq rfl (lq rfl (lq rfl (lq rfl lt0))))
   ·replace h := ite_f h hc
    refine k_exit (kC_exit (kI_exit (kB_exit ?_)))
    refine zaf ⟨h, ?_⟩
    exact Sub.of_le lt0
 ·refine zae (zag .free hmixP (by kernel_rfl) ?_)
  refine G_q rfl (zab (av := .xi (-1)) rfl ?_)
  refine G_nil (zaa (k_ret ?_))
  obtain rfl := Option.some.inj h
  refine zaj (endN (af' := (AF.put AF0 (some 4) (.xi (-1)))) (σ' := []) _ rfl ?_ ⟨rfl, rfl⟩)
  exact Sub.of_le (lq rfl lt0)
set_option maxHeartbeats 4000000 in
theorem m_slices_ContainsFunc_L_pattern_node_pattern_node_ok (a0 : List Nd) (a1 : Nd → Option Bool) (r : Bool) (h : m_slices_ContainsFunc_L_pattern_node_pattern_node a0 a1 = some r) : Pure Tryz.prog 55 [(.row 1 c_P_pattern_node a0), (.fn Tryz.prog (fun (i : Nd) => [ndA i]) (fun (i : Nd) => a1 i) (fun (r : Bool) => .exact (.bool r)))] (.exact (.bool r)) := by
 unfold m_slices_ContainsFunc_L_pattern_node_pattern_node at h
 refine Pure.ofFun (fun_of_awp Tryz.func55 rfl Tryz.ntmps55 (by simp) rfl (res1 rfl) fun E hE => k_end ?_)
 refine zae (zag .free hmixP (by kernel_rfl) ?_)
 refine G_q rfl (zab (av := .xb false) rfl ?_)
 refine G_nil (zaa (zae (zag .free hmixP (by kernel_rfl) ?_)))
 refine G_q rfl (zac (av := .row 1 c_P_pattern_node a0) rfl ?_)
 refine G_q rfl (zac (av := .fn Tryz.prog (fun (i : Nd) => [ndA i]) (fun (i : Nd) => a1 i) (fun (r : Bool) => .xb r)) rfl ?_)
 obtain ⟨y1, hy1, h⟩ := bnd1_some h
 refine G_q rfl (zal (m_slices_IndexFunc_L_pattern_node_pattern_node_ok _ _ _ hy1) Tryz.func82 (by kernel_rfl) (LEs.cons (AV.le_eq rfl) (LEs.cons (AV.le_eq rfl) LEs.nil)) ?_)
 refine G_q rfl (op_geq rfl rfl ?_)
 refine G_q rfl (zab (av := .xb (decide (0 ≤ y1))) rfl ?_)
 refine G_nil (zaa (k_ret ?_))
 obtain rfl := Option.some.inj h
 refine zaj (endN (af' := (AF.put AF0 (some 4) (.xb (decide (0 ≤ y1))))) (σ' := []) _ rfl ?_ ⟨rfl, rfl⟩)
 exact Sub.of_le (lq rfl lt0)
set_option maxHeartbeats 4000000 in
theorem m_pattern_node_all_F_ok (self_pattern_node_all : Nd → (Nd → Option Bool) → Option Bool) (hself_pattern_node_all : ∀ (a0 : Nd) (a1 : Nd → Option Bool) (r : Bool), self_pattern_node_all a0 a1 = some r → Pure Tryz.prog 35 [(ndA a0), (.fn Tryz.prog (fun (i : Nd) => [ndA i]) (fun (i : Nd) => a1 i) (fun (r : Bool) => .exact (.bool r)))] (.exact (.bool r))) (a0 : Nd) (a1 : Nd → Option Bool) (r : Bool) (h : m_pattern_node_all_F self_pattern_node_all a0 a1 = some r) : Pure Tryz.prog 35 [(ndA a0), (.fn Tryz.prog (fun (i : Nd) => [ndA i]) (fun (i : Nd) => a1 i) (fun (r : Bool) => .exact (.bool r)))] (.exact (.bool r)) := by
 unfold m_pattern_node_all_F at h
 refine Pure.ofFun (fun_of_awp Tryz.func35 rfl Tryz.ntmps35 (by simp) rfl (res1 rfl) fun E hE => k_end ?_)
 refine zae (zag .free hmixP (by kernel_rfl) ?_)
 refine G_l rfl (op_boxI (c := [.fn Tryz.prog (fun (i : Nd) => [ndA i]) (fun (i : Nd) => a1 i) (fun (r : Bool) => .xb r)]) rfl CellsOf.fn (LEs.cons (AV.le_eq rfl) LEs.nil) (fun b1 => ?_))
 refine G_q rfl (zab (av := .xb false) rfl ?_)
 refine G_nil (zaa ?_)
 refine k_join1_0 h (fun (x4_j2 : Bool) => (AF.put AF0 (some 4) (.xb x4_j2))) (fun (x4_j2 : Bool) => []) (fun k2 h => ?_) (fun x4_j2 h => ?_)
 ·refine zag .free hmixP (by kernel_rfl) ?_
  refine G_r rfl (op_load_box1 (a := .fn Tryz.prog (fun (i : Nd) => [ndA i]) (fun (i : Nd) => a1 i) (fun (r : Bool) => .xb r)) (by kernel_rfl) rfl rfl ?_)
  refine G_q rfl (zac (av := ndA a0) rfl ?_)
  obtain ⟨y6, hy6, h⟩ := bnd1_some h
  refine G_q rfl (op_callfn (a0) rfl hy6 (LEs.cons (AV.le_eq rfl) LEs.nil) ?_)
  refine G_q rfl (zac (av := .xb y6) rfl ?_)
  refine G_splitB (c := y6) 8 rfl (fun hc => ?_) (fun hc => ?_)
  ·replace h := ite_t h hc
   refine Gy_q rfl rfl rfl (zac (av := ndA a0) rfl ?_)
   obtain ⟨y7, hy7, h⟩ := bnd1_some h
   refine Gy_q rfl rfl rfl (zap (c := zah y7) (ndA_un hy7) ?_)
   refine Gy_q rfl rfl rfl (zam (o := 2) (c' := (List.drop 2 (zah y7))) (by kernel_rfl) rfl rfl ?_)
   refine Gy_q rfl rfl rfl (zaq (a := .row 1 c_P_pattern_node y7.2.2) (by kernel_rfl) rfl rfl ?_)
   refine G_sub rfl (SubU.freezeBox (s := 3) rfl) ?_
   refine Gy_q rfl rfl rfl (op_makeFunc (args := (fun (i : Nd) => [ndA i])) (f := (fun (i : Nd) => (fun (x0 : Nd) => m_pattern_node_all_1 self_pattern_node_all x0 a1) i)) (res := (fun (r : Bool) => .xb r)) Tryz.func56 (by kernel_rfl) [.ptr ([.fn Tryz.prog (fun (i : Nd) => [ndA i]) (fun (i : Nd) => a1 i) (fun (r : Bool) => .xb r)])] (LEs.cons (AV.le_eq rfl) LEs.nil) (fun i r h => m_pattern_node_all_1_ok self_pattern_node_all hself_pattern_node_all i a1 r h) ?_)
   obtain ⟨y8, hy8, h⟩ := bnd1_some h
   refine Gy_q rfl rfl rfl (zal (m_slices_ContainsFunc_L_pattern_node_pattern_node_ok _ _ _ hy8) Tryz.func55 (by kernel_rfl) (LEs.cons (AV.le_eq rfl) (LEs.cons (AV.le_eq rfl) LEs.nil)) ?_)
   refine Gy_q rfl rfl rfl (op_not rfl ?_)
   refine G_q rfl (zao rfl (av := .xb (!y8)) rfl ?_)
   refine G_q rfl (zab (av := .xb (!y8)) rfl ?_)
   refine G_nil ?_
   refine zaf ⟨_, h, ?_⟩
   exact Sub.of_le (lq rfl lt0)
  ·replace h := ite_f h hc
   refine G_n rfl rfl (G_n rfl rfl (G_n rfl rfl (G_n rfl rfl (G_n rfl rfl (G_n rfl rfl (G_n rfl rfl ?_))))))
   refine G_q rfl (zai rfl (av := .xb false) rfl ?_)
   refine G_q rfl (zab (av := .xb false) rfl ?_)
   refine G_nil ?_
   refine zaf ⟨_, h, ?_⟩
   refine Sub.trans (SubU.to SubU.drop) ?_
   exact Sub.of_le (lq rfl lt0)
 ·refine k_ret ?_
  obtain rfl := Option.some.inj h
  refine zaj (endN (af' := (AF.put AF0 (some 4) (.xb x4_j2))) (σ' := []) _ rfl ?_ ⟨rfl, rfl⟩)
  exact Sub.of_le (lq rfl lt0)
set_option maxHeartbeats 4000000 in
theorem m_pattern_node_all_S_ok : ∀ n : Nat, (∀ (a0 : Nd) (a1 : Nd → Option Bool) (r : Bool), m_pattern_node_all_S n a0 a1 = some r → Pure Tryz.prog 35 [(ndA a0), (.fn Tryz.prog (fun (i : Nd) => [ndA i]) (fun (i : Nd) => a1 i) (fun (r : Bool) => .exact (.bool r)))] (.exact (.bool r)))
  | 0 => (fun _ _ _ h => by have h' : (none : Option _) = some _ := h; cases h')
  | n + 1 => by
    have ih := m_pattern_node_all_S_ok n
    exact fun a0 a1 r h => m_pattern_node_all_F_ok (m_pattern_node_all_S n) ih a0 a1 r h
theorem m_pattern_node_all_ok (a0 : Nd) (a1 : Nd → Option Bool) (r : Bool) (h : m_pattern_node_all a0 a1 = some r) : Pure Tryz.prog 35 [(ndA a0), (.fn Tryz.prog (fun (i : Nd) => [ndA i]) (fun (i : Nd) => a1 i) (fun (r : Bool) => .exact (.bool r)))] (.exact (.bool r)) := (m_pattern_node_all_S_ok FU) a0 a1 r h
set_option maxHeartbeats 4000000 in
theorem m_pattern_Build_1_ok (a0 : Nd) (r : Bool) (h : m_pattern_Build_1 a0 = some r) : Pure Tryz.prog 36 [(ndA a0)] (.exact (.bool r)) := by
 unfold m_pattern_Build_1 at h
 refine Pure.ofFun (fun_of_awp Tryz.func36 rfl Tryz.ntmps36 (by simp) rfl (res1 rfl) fun E hE => k_end ?_)
 refine zae (zag .free hmixP (by kernel_rfl) ?_)
 refine G_q rfl (zab (av := .xb false) rfl ?_)
 refine G_nil (zaa ?_)
 refine k_join1_0 h (fun (x2_j1 : Bool) => (AF.put AF0 (some 2) (.xb x2_j1))) (fun (x2_j1 : Bool) => []) (fun k1 h => ?_) (fun x2_j1 h => ?_)
 ·refine zag .free hmixP (by kernel_rfl) ?_
  refine G_q rfl (zac (av := ndA a0) rfl ?_)
  obtain ⟨y5, hy5, h⟩ := bnd1_some h
  refine G_q rfl (zap (c := zah y5) (ndA_un hy5) ?_)
  refine G_q rfl (zam (o := 0) (c' := (List.drop 0 (zah y5))) (by kernel_rfl) rfl rfl ?_)
  refine G_q rfl (zaq (a := .xi y5.1) (by kernel_rfl) rfl rfl ?_)
  refine G_q rfl (op_neq rfl rfl ?_)
  refine G_q rfl (zac (av := .xb (decide (¬ y5.1 = 31))) rfl ?_)
  refine G_split (p := ¬ y5.1 = 31) 8 rfl (fun hc => ?_) (fun hc => ?_)
  ·replace h := ite_t h hc
   refine Gy_q rfl rfl rfl (zac (av := ndA a0) rfl ?_)
   obtain ⟨y6, hy6, h⟩ := bnd1_some h
   refine Gy_q rfl rfl rfl (zap (c := zah y6) (ndA_un hy6) ?_)
   refine Gy_q rfl rfl rfl (zam (o := 0) (c' := (List.drop 0 (zah y6))) (by kernel_rfl) rfl rfl ?_)
   refine Gy_q rfl rfl rfl (zaq (a := .xi y6.1) (by kernel_rfl) rfl rfl ?_)
   refine Gy_q rfl rfl rfl (op_neq rfl rfl ?_)
   refine G_q rfl (zao rfl (av := .xb (decide (¬ y6.1 = 40))) rfl ?_)
   refine G_q rfl (zac (av := .xb (decide (¬ y6.1 = 40))) rfl ?_)
   refine G_split (p := ¬ y6.1 = 40) 15 rfl (fun hc => ?_) (fun hc => ?_)
   ·replace h := ite_t h hc
    refine Gy_q rfl rfl rfl (zac (av := ndA a0) rfl ?_)
    obtain ⟨y7, hy7, h⟩ := bnd1_some h
    refine Gy_q rfl rfl rfl (zap (c := zah y7) (ndA_un hy7) ?_)
    refine Gy_q rfl rfl rfl (zam (o := 0) (c' := (List.drop 0 (zah y7))) (by kernel_rfl) rfl rfl ?_)
    refine Gy_q rfl rfl rfl (zaq (a := .xi y7.1) (by kernel_rfl) rfl rfl ?_)
    refine Gy_q rfl rfl rfl (op_neq rfl rfl ?_)
    refine G_q rfl (zao rfl (av := .xb (decide (¬ y7.1 = 39))) rfl ?_)
    refine G_q rfl (zab (av := .xb (decide (¬ y7.1 = 39))) rfl ?_)
    refine G_nil ?_
    refine zaf ⟨_, h, ?_⟩
    exact Sub.of_le (lq rfl lt0)
   ·replace h := ite_f h hc
    refine G_n rfl rfl (G_n rfl rfl (G_n rfl rfl (G_n rfl rfl (G_n rfl rfl ?_))))
    refine G_q rfl (zai rfl (av := .xb false) rfl ?_)
    refine G_q rfl (zab (av := .xb false) rfl ?_)
    refine G_nil ?_
    refine zaf ⟨_, h, ?_⟩
    exact Sub.of_le (lq rfl lt0)
  ·replace h := ite_f h hc
   refine G_n rfl rfl (G_n rfl rfl (G_n rfl rfl (G_n rfl rfl (G_n rfl rfl ?_))))
   refine G_q rfl (zai rfl (av := .xb false) rfl ?_)
   refine G_q rfl (zac (av := .xb false) rfl ?_)
   refine G_n rfl rfl (G_n rfl rfl (G_n rfl rfl (G_n rfl rfl (G_n rfl rfl ?_))))
   refine G_q rfl (zai rfl (av := .xb false) rfl ?_)
   refine G_q rfl (zab (av := .xb false) rfl ?_)
   refine G_nil ?_
   refine zaf ⟨_, h, ?_⟩
   exact Sub.of_le (lq rfl lt0)
 ·refine k_ret ?_
  obtain rfl := Option.some.inj h
  refine zaj (endN (af' := (AF.put AF0 (some 2) (.xb x2_j1))) (σ' := []) _ rfl ?_ ⟨rfl, rfl⟩)
  exact Sub.of_le (lq rfl lt0)
set_option maxHeartbeats 4000000 in
theorem m_pattern_Vars_ok (a0 : List (Int × Int × Int)) (r : Int) (h : m_pattern_Vars a0 = some r) : Pure Tryz.prog 16 [(.row 3 zan a0)] (.exact (.int .i64 r)) := by
 unfold m_pattern_Vars at h
 refine Pure.ofFun (fun_of_awp Tryz.func16 rfl Tryz.ntmps16 (by simp) rfl (res1 rfl) fun E hE => k_end ?_)
 refine zae (zag .free hmixP (by kernel_rfl) ?_)
 refine G_q rfl (zab (av := .xi 0) rfl ?_)
 refine G_nil (zaa (zae (zag .free hmixP (by kernel_rfl) ?_)))
 refine G_q rfl (zab (av := .xi 0) rfl ?_)
 refine G_nil (zaa ?_)
 refine k_join1_0 h (fun (x3_j1 : Int) => (AF.put AF0 (some 3) (.xi x3_j1))) (fun (x3_j1 : Int) => []) (fun k1 h => ?_) (fun x3_j1 h => ?_)
 ·refine zae (zag .free hmixP (by kernel_rfl) ?_)
  refine G_q rfl (zac (av := .row 3 zan a0) rfl ?_)
  refine G_q rfl (op_len_row (by kernel_rfl) rfl ?_)
  refine G_q rfl (zac (av := .xi 0) rfl ?_)
  refine G_nil (zaa (k_block ?_))
  refine k_loop2_0 (m_pattern_Vars_L2 a0 k1) (m_pattern_Vars_B2 a0 k1) (fun _ _ => rfl) (fun m _ _ => rfl) h (fun (x3_l2 : Int) (x8_l2 : Int) => (AF.put (AF.put (AF.put (AF.put AF0 (some 3) (.xi x3_l2)) (some 6) (.row 3 zan a0)) (some 7) (.xi (List.length a0 : Int))) (some 8) (.xi x8_l2))) (fun (x3_l2 : Int) (x8_l2 : Int) => []) ?_ (fun rec2 x3_l2 x8_l2 h => ?_)
  ·exact Sub.of_le (lq rfl (lq rfl (lq rfl (lq rfl lt0))))
  ·unfold m_pattern_Vars_B2 at h
   refine zae (zag .free hmixP (by kernel_rfl) ?_)
   refine G_q rfl (op_lss rfl rfl ?_)
   refine G_nil (zaa (zae ?_))
   refine zak (p := x8_l2 < (List.length a0 : Int)) rfl (fun hc => ?_) (fun hc => ?_)
   ·replace h := ite_t h hc
    refine k_skip (zaa ?_)
    refine k_join1_0 h (fun (x3_j28 : Int) => (AF.put (AF.put (AF.put (AF.put AF0 (some 3) (.xi x3_j28)) (some 6) (.row 3 zan a0)) (some 7) (.xi (List.length a0 : Int))) (some 8) (.xi x8_l2))) (fun (x3_j28 : Int) => []) (fun k28 h => ?_) (fun x3_j28 h => ?_)
    ·refine k_block (zae (zag .free hmixP (by kernel_rfl) ?_))
     obtain ⟨n31, h⟩ := need_some h
     refine G_q rfl (op_index_row (by kernel_rfl) rfl rfl n31.1 n31.2 ?_)
     refine G_q rfl (op_loadNp (m := 3) (c' := zan (gi a0 x8_l2)) (by kernel_rfl) rfl rfl rfl ?_)
     refine G_l rfl (op_alloc (c := [.xi ((0, 0, 0).1), .xi ((0, 0, 0).2.1), .xi ((0, 0, 0).2.2)]) rfl (LEs.cons (AV.le_eq rfl) (LEs.cons (AV.le_eq rfl) (LEs.cons (AV.le_eq rfl) LEs.nil))) (fun b32 => ?_))
     refine G_l rfl (op_store_box (c' := [.xi ((gi a0 x8_l2).1), .xi ((gi a0 x8_l2).2.1), .xi ((gi a0 x8_l2).2.2)]) (c3 := [.xi ((gi a0 x8_l2).1), .xi ((gi a0 x8_l2).2.1), .xi ((gi a0 x8_l2).2.2)]) rfl rfl CellsOf.agg (LEs.cons (AV.le_eq rfl) (LEs.cons (AV.le_eq rfl) (LEs.cons (AV.le_eq rfl) LEs.nil))) (oc_c_api_Code _) (by kernel_rfl) (Nat.le_of_ble_eq_true rfl) rfl ?_)
     refine G_nil (zaa (zae (zag .free hmixP (by kernel_rfl) ?_)))
     refine G_q rfl (op_fieldAddr (o := 0) (by kernel_rfl) rfl ?_)
     refine G_r rfl (op_load_box1 (a := .xi ((gi a0 x8_l2).1)) (by kernel_rfl) rfl rfl ?_)
     refine G_q rfl (op_eql rfl rfl ?_)
     refine G_nil (zaa ?_)
     refine zak (p := ((gi a0 x8_l2).1) = 30) rfl (fun hc => ?_) (fun hc => ?_)
     ·replace h := ite_t h hc
      refine zag .free hmixP (by kernel_rfl) ?_
      refine G_q rfl (zac (av := .xi x3_l2) rfl ?_)
      refine G_q rfl (op_add rfl rfl rfl ?_)
      refine G_q rfl (zab (av := .xi (i64 (x3_l2 + 1))) rfl ?_)
      refine G_nil (kB_normal ?_)
      refine zaf ⟨_, h, ?_⟩
      refine Sub.trans (SubU.to SubU.drop) ?_
      exact Sub.of_le (lq rfl (lq rfl (lq rfl (lq rfl lt0))))
     ·replace h := ite_f h hc
      refine k_skip (kB_normal ?_)
      refine zaf ⟨_, h, ?_⟩
      refine Sub.trans (SubU.to SubU.drop) ?_
      exact Sub.of_le (lq rfl (lq rfl (lq rfl (lq rfl lt0))))
    ·refine zag .free hmixP (by kernel_rfl) ?_
     refine G_q rfl (op_add rfl rfl rfl ?_)
     refine G_q rfl (zac (av := .xi (i64 (x8_l2 + 1))) rfl ?_)
     refine G_nil ?_
     refine zaf ⟨_, _, h, ?_⟩
     exact Sub.of_le (lq rfl (lq rfl (lq rfl (lq rfl lt0))))
   ·replace h := ite_f h hc
    refine k_exit (kC_exit (kI_exit (kB_exit ?_)))
    refine zaf ⟨_, h, ?_⟩
    exact Sub.of_le (lq rfl lt0)
 ·refine zae (zag .free hmixP (by kernel_rfl) ?_)
  refine G_q rfl (zac (av := .xi x3_j1) rfl ?_)
  refine G_q rfl (zab (av := .xi x3_j1) rfl ?_)
  refine G_nil (zaa (k_ret ?_))
  obtain rfl := Option.some.inj h
  refine zaj (endN (af' := (AF.put AF0 (some 2) (.xi x3_j1))) (σ' := []) _ rfl ?_ ⟨rfl, rfl⟩)
  exact Sub.of_le (lq rfl lt0)
set_option maxHeartbeats 4000000 in
theorem m_value_append64_ok {w0 : Value} (a0 : List UInt8) (a1 : Int) (r : (List UInt8)) (h : m_value_append64 a0 a1 = some r) : Fun Tryz.prog 83 [(.exact w0), (.exact (.int .u64 a1))] [vecT Tryz.prog 81 1 c_uint8 w0 a0] (fun a s => ∃ z0, a = .exact z0 ∧ s = [vecT Tryz.prog 81 1 c_uint8 z0 r]) := by
 unfold m_value_append64 at h
 refine fun_of_awp Tryz.func83 rfl Tryz.ntmps83 (by simp) rfl (res1 rfl) fun E hE => k_end ?_
 refine zae (zag .free hmixP (by kernel_rfl) ?_)
 refine G_q rfl (zab (av := .exact (.slice none 0 0)) rfl ?_)
 refine G_nil (zaa ?_)
 refine k_join1_1 h (fun (x0_j1 : List UInt8) (v0_j1 : Value) => (AF.put AF0 (some 0) (.exact v0_j1))) (fun (x0_j1 : List UInt8) (v0_j1 : Value) => [vecT Tryz.prog 81 1 c_uint8 v0_j1 x0_j1]) (fun k1 h => ?_) (fun x0_j1 v0_j1 h => ?_)
 ·refine zae (zag .free hmixP (by kernel_rfl) ?_)
  refine G_q rfl (zab (av := .xi 56) rfl ?_)
  refine G_nil (zaa (k_block ?_))
  refine k_loop2_1 (m_value_append64_L2 a1 k1) (m_value_append64_B2 a1 k1) (fun _ _ => rfl) (fun m _ _ => rfl) h (fun (x0_l2 : List UInt8) (x5_l2 : Int) (v0_l2 : Value) => (AF.put (AF.put (AF.put AF0 (some 0) (.exact v0_l2)) (some 1) (.exact (.int .u64 a1))) (some 5) (.xi x5_l2))) (fun (x0_l2 : List UInt8) (x5_l2 : Int) (v0_l2 : Value) => [vecT Tryz.prog 81 1 c_uint8 v0_l2 x0_l2]) w0 ?_ (fun rec2 x0_l2 x5_l2 v0_l2 h => ?_)
  ·exact Sub.of_le (lq rfl (lq rfl (lq rfl lt0)))
  ·unfold m_value_append64_B2 at h
   refine zae (zae (zag .free hmixP (by kernel_rfl) ?_))
   refine G_q rfl (zac (av := .xi x5_l2) rfl ?_)
   refine G_q rfl (op_geq rfl rfl ?_)
   refine G_nil (zaa ?_)
   refine zak (p := 0 ≤ x5_l2) rfl (fun hc => ?_) (fun hc => ?_)
   ·replace h := ite_t h hc
    refine k_skip (zaa (zae (k_block (zag .free hmixP (by kernel_rfl) ?_))))
    refine G_q rfl (zac (av := .exact v0_l2) rfl ?_)
    refine G_q rfl (zac (av := .exact (.int .u64 a1)) rfl ?_)
    refine G_q rfl (zac (av := .xi x5_l2) rfl ?_)
    obtain ⟨n16, h⟩ := need_some h
    refine G_q rfl (op_shr rfl rfl n16 rfl ?_)
    refine G_q rfl (op_convInt (k := .u8) (r := (UInt8.toNat (u8i (Int.fdiv a1 (2 ^ min (Int.toNat x5_l2) IntKind.u64.bits))) : Int)) (by kernel_rfl) rfl (u8i_eq _) ?_)
    refine G_q rfl (op_litT (n := 1) (enc := c_uint8) [u8i (Int.fdiv a1 (2 ^ min (Int.toNat x5_l2) IntKind.u64.bits))] (CellsAll.cons rfl CellsOf.int CellsAll.nil) rfl (by kernel_rfl) (LEss.cons (LEs.cons (AV.le_eq rfl) LEs.nil) LEss.nil) ?_)
    obtain ⟨n17, h⟩ := need_some h
    refine G_l rfl (op_appT (by kernel_rfl) rfl rfl oc_c_uint8 n17 (fun v18 => ?_))
    refine G_q rfl (zab (av := .exact v18) rfl ?_)
    refine G_nil (kB_normal (zaa (zag .free hmixP (by kernel_rfl) ?_)))
    refine G_q rfl (zac (av := .xi x5_l2) rfl ?_)
    refine G_q rfl (op_sub rfl rfl rfl ?_)
    refine G_q rfl (zab (av := .xi (i64 (x5_l2 - 8))) rfl ?_)
    refine G_nil ?_
    refine zaf ⟨_, _, v18, h, ?_⟩
    exact Sub.of_le (lq rfl (lq rfl (lq rfl lt0)))
   ·replace h := ite_f h hc
    refine k_exit (kC_exit (kI_exit (kB_exit ?_)))
    refine zaf ⟨_, v0_l2, h, ?_⟩
    exact Sub.of_le (lq rfl lt0)
 ·refine zae (zag .free hmixP (by kernel_rfl) ?_)
  refine G_q rfl (zac (av := .exact v0_j1) rfl ?_)
  refine G_q rfl (zab (av := .exact v0_j1) rfl ?_)
  refine G_nil (zaa (k_ret ?_))
  obtain rfl := Option.some.inj h
  refine zaj (endN (af' := (AF.put AF0 (some 4) (.exact v0_j1))) (σ' := [vecT Tryz.prog 81 1 c_uint8 v0_j1 x0_j1]) _ rfl ?_ ⟨v0_j1, rfl, rfl⟩)
  exact Sub.of_le (lq rfl lt0)
end Go.Proofs.YtpfdeahcjlfijaaGreat
/- The functions compute their models, by program. -/
namespace Go.Proofs.YtpfdeahcjlfijaaGreat
open Go.RowKit
attribute [local irreducible] AV.exact AV.top AV.row AV.ptr AV.agg AV.tup AV.eptr AV.fn AV.nilq AV.nilqn opA opB opM opR Quiet Loud Reads wpG awp den Sub SubU Pure Fun vecI vecT boxI CellsAll CellsOf OneC LEs LEss
set_option maxRecDepth 100000

set_option maxHeartbeats 4000000 in
theorem m_value_Int_ok (a0 : Int) (r : (List UInt8)) (h : m_value_Int a0 = some r) : Pure Tryz.prog 57 [(.exact (.int .i64 a0))] (.exact (.string (bs r))) := by
 unfold m_value_Int at h
 refine Pure.ofFun (fun_of_awp Tryz.func57 rfl Tryz.ntmps57 (by simp) rfl (res1 rfl) fun E hE => k_end ?_)
 refine zae (zag .free hmixP (by kernel_rfl) ?_)
 refine G_q rfl (zab (av := .xs ([] : List UInt8)) rfl ?_)
 refine G_nil (zaa (zae (zag .free hmixP (by kernel_rfl) ?_)))
 refine G_l rfl (op_litI (n := 1) (enc := c_uint8) [1] (by kernel_rfl) (CellsAll.cons rfl CellsOf.int CellsAll.nil) rfl (by kernel_rfl) (LEss.cons (LEs.cons (AV.le_eq rfl) LEs.nil) LEss.nil) (fun v1 => ?_))
 refine G_q rfl (zac (av := .xi a0) rfl ?_)
 refine G_q rfl (op_convInt (k := .u64) (by kernel_rfl) rfl rfl ?_)
 obtain ⟨y2, hy2, h⟩ := bnd1_some h
 refine G_l rfl (op_fun_1_1_1 (m_value_append64_ok _ _ _ hy2) Tryz.func83 (by kernel_rfl) (LEs.cons (AV.le_eq rfl) (LEs.cons (AV.le_eq rfl) LEs.nil)) (fun v3 => ?_))
 refine G_r rfl (op_bytesS_bor rfl (by kernel_rfl) (Bor.vec (List.Mem.head _) len_c_uint8) ?_)
 refine G_q rfl (zab (av := .xs y2) rfl ?_)
 refine G_nil (zaa (k_ret ?_))
 obtain rfl := Option.some.inj h
 refine zaj (endN (af' := (AF.put AF0 (some 2) (.xs y2))) (σ' := []) _ rfl ?_ ⟨rfl, rfl⟩)
 refine Sub.trans (SubU.to SubU.drop) ?_
 exact Sub.of_le (lq rfl lt0)
set_option maxHeartbeats 4000000 in
theorem m_value_Bool_ok (a0 : Bool) (r : (List UInt8)) (h : m_value_Bool a0 = some r) : Pure Tryz.prog 58 [(.exact (.bool a0))] (.exact (.string (bs r))) := by
 unfold m_value_Bool at h
 refine Pure.ofFun (fun_of_awp Tryz.func58 rfl Tryz.ntmps58 (by simp) rfl (res1 rfl) fun E hE => k_end ?_)
 refine zae (zag .free hmixP (by kernel_rfl) ?_)
 refine G_q rfl (zab (av := .xs ([] : List UInt8)) rfl ?_)
 refine G_nil (zaa (zae (zae (zag .free hmixP (by kernel_rfl) ?_))))
 refine G_q rfl (zac (av := .xb a0) rfl ?_)
 refine G_nil (zaa ?_)
 refine k_cond_b (c := a0) rfl (fun hc => ?_) (fun hc => ?_)
 ·replace h := ite_t h hc
  refine zae (zag .free hmixP (by kernel_rfl) ?_)
  refine G_q rfl (op_litT (n := 1) (enc := c_uint8) [2, 1] (CellsAll.cons rfl CellsOf.int (CellsAll.cons rfl CellsOf.int CellsAll.nil)) rfl (by kernel_rfl) (LEss.cons (LEs.cons (AV.le_eq rfl) LEs.nil) (LEss.cons (LEs.cons (AV.le_eq rfl) LEs.nil) LEss.nil)) ?_)
  refine G_q rfl (op_bytesS rfl (by kernel_rfl) rfl ?_)
  refine G_q rfl (zab (av := .exact (.string (bs [2, 1]))) rfl ?_)
  refine G_nil (zaa (k_ret (kC_ret ?_)))
  obtain rfl := Option.some.inj h
  refine zaj (endN (af' := (AF.put AF0 (some 2) (.exact (.string (bs [2, 1]))))) (σ' := []) _ rfl ?_ ⟨rfl, rfl⟩)
  exact Sub.of_le (lq rfl lt0)
 ·replace h := ite_f h hc
  refine k_skip (zaa (zae (zag .free hmixP (by kernel_rfl) ?_)))
  refine G_q rfl (op_litT (n := 1) (enc := c_uint8) [2, 0] (CellsAll.cons rfl CellsOf.int (CellsAll.cons rfl CellsOf.int CellsAll.nil)) rfl (by kernel_rfl) (LEss.cons (LEs.cons (AV.le_eq rfl) LEs.nil) (LEss.cons (LEs.cons (AV.le_eq rfl) LEs.nil) LEss.nil)) ?_)
  refine G_q rfl (op_bytesS rfl (by kernel_rfl) rfl ?_)
  refine G_q rfl (zab (av := .exact (.string (bs [2, 0]))) rfl ?_)
  refine G_nil (zaa (k_ret ?_))
  obtain rfl := Option.some.inj h
  refine zaj (endN (af' := (AF.put AF0 (some 2) (.exact (.string (bs [2, 0]))))) (σ' := []) _ rfl ?_ ⟨rfl, rfl⟩)
  exact Sub.of_le (lq rfl lt0)
set_option maxHeartbeats 4000000 in
theorem m_value_append16_ok {w0 : Value} (a0 : List UInt8) (a1 : Int) (r : (List UInt8)) (h : m_value_append16 a0 a1 = some r) : Fun Tryz.prog 96 [(.exact w0), (.exact (.int .u16 a1))] [vecT Tryz.prog 81 1 c_uint8 w0 a0] (fun a s => ∃ z0, a = .exact z0 ∧ s = [vecT Tryz.prog 81 1 c_uint8 z0 r]) := by
 unfold m_value_append16 at h
 refine fun_of_awp Tryz.func96 rfl Tryz.ntmps96 (by simp) rfl (res1 rfl) fun E hE => k_end ?_
 refine zae (zag .free hmixP (by kernel_rfl) ?_)
 refine G_q rfl (zab (av := .exact (.slice none 0 0)) rfl ?_)
 refine G_nil (zaa (zae (zag .free hmixP (by kernel_rfl) ?_)))
 refine G_q rfl (zac (av := .exact w0) rfl ?_)
 refine G_q rfl (zac (av := .exact (.int .u16 a1)) rfl ?_)
 refine G_q rfl (op_shr rfl rfl (by decide) rfl ?_)
 refine G_q rfl (op_convInt (k := .u8) (r := (UInt8.toNat (u8i (Int.fdiv a1 (2 ^ min (Int.toNat 8) IntKind.u16.bits))) : Int)) (by kernel_rfl) rfl (u8i_eq _) ?_)
 refine G_q rfl (zac (av := .exact (.int .u16 a1)) rfl ?_)
 refine G_q rfl (op_convInt (k := .u8) (r := (UInt8.toNat (u8i a1) : Int)) (by kernel_rfl) rfl (u8i_eq _) ?_)
 refine G_q rfl (op_litT (n := 1) (enc := c_uint8) [u8i (Int.fdiv a1 (2 ^ min (Int.toNat 8) IntKind.u16.bits)), u8i a1] (CellsAll.cons rfl CellsOf.int (CellsAll.cons rfl CellsOf.int CellsAll.nil)) rfl (by kernel_rfl) (LEss.cons (LEs.cons (AV.le_eq rfl) LEs.nil) (LEss.cons (LEs.cons (AV.le_eq rfl) LEs.nil) LEss.nil)) ?_)
 obtain ⟨n1, h⟩ := need_some h
 refine G_l rfl (op_appT (by kernel_rfl) rfl rfl oc_c_uint8 n1 (fun v2 => ?_))
 refine G_q rfl (zab (av := .exact v2) rfl ?_)
 refine G_nil (zaa (k_ret ?_))
 obtain rfl := Option.some.inj h
 refine zaj (endN (af' := (AF.put AF0 (some 4) (.exact v2))) (σ' := [vecT Tryz.prog 81 1 c_uint8 v2 (a0 ++ [u8i (Int.fdiv a1 (2 ^ min (Int.toNat 8) IntKind.u16.bits)), u8i a1])]) _ rfl ?_ ⟨v2, rfl, rfl⟩)
 exact Sub.of_le (lq rfl lt0)
set_option maxHeartbeats 4000000 in
theorem m_slices_IndexFunc_L_api_Value_api_Value_ok (a0 : List (List UInt8)) (a1 : (List UInt8) → Option Bool) (r : Int) (h : m_slices_IndexFunc_L_api_Value_api_Value a0 a1 = some r) : Pure Tryz.prog 108 [(.row 1 zad a0), (.fn Tryz.prog (fun (i : (List UInt8)) => [.exact (.string (bs i))]) (fun (i : (List UInt8)) => a1 i) (fun (r : Bool) => .exact (.bool r)))] (.exact (.int .i64 r)) := by
 unfold m_slices_IndexFunc_L_api_Value_api_Value at h
 refine Pure.ofFun (fun_of_awp Tryz.func108 rfl Tryz.ntmps108 (by simp) rfl (res1 rfl) fun E hE => k_end ?_)
 refine zae (zag .free hmixP (by kernel_rfl) ?_)
 refine G_q rfl (zab (av := .xi 0) rfl ?_)
 refine G_nil (zaa ?_)
 refine k_join0_0 h (AF0) ([]) (fun k1 h => ?_) (fun  h => ?_)
 ·refine zae (zag .free hmixP (by kernel_rfl) ?_)
  refine G_q rfl (zac (av := .row 1 zad a0) rfl ?_)
  refine G_q rfl (op_len_row (by kernel_rfl) rfl ?_)
  refine G_q rfl (zac (av := .xi 0) rfl ?_)
  refine G_nil (zaa (k_block ?_))
  refine k_loop1_0 (m_slices_IndexFunc_L_api_Value_api_Value_L2 a0 a1 k1) (m_slices_IndexFunc_L_api_Value_api_Value_B2 a0 a1 k1) (fun _ => rfl) (fun m _ => rfl) h (fun (x8_l2 : Int) => (AF.put (AF.put (AF.put (AF.put AF0 (some 0) (.row 1 zad a0)) (some 1) (.fn Tryz.prog (fun (i : (List UInt8)) => [.xs i]) (fun (i : (List UInt8)) => a1 i) (fun (r : Bool) => .xb r))) (some 7) (.xi (List.length a0 : Int))) (some 8) (.xi x8_l2))) (fun (x8_l2 : Int) => []) ?_ (fun rec2 x8_l2 h => ?_)
  ·exact Sub.of_le (lq rfl (lq rfl (lq rfl (lq rfl lt0))))
  ·unfold m_slices_IndexFunc_L_api_Value_api_Value_B2 at h
   refine zae (zag .free hmixP (by kernel_rfl) ?_)
   refine G_q rfl (op_lss rfl rfl ?_)
   refine G_nil (zaa (zae ?_))
   refine zak (p := x8_l2 < (List.length a0 : Int)) rfl (fun hc => ?_) (fun hc => ?_)
   ·replace h := ite_t h hc
    refine k_skip (zaa (zae (k_block (zae (zag .free hmixP (by kernel_rfl) ?_)))))
    refine G_q rfl (zac (av := .xi x8_l2) rfl ?_)
    refine G_q rfl (zab (av := .xi x8_l2) rfl ?_)
    refine G_nil (zaa (zae (zag .free hmixP (by kernel_rfl) ?_)))
    refine G_q rfl (zac (av := .fn Tryz.prog (fun (i : (List UInt8)) => [.xs i]) (fun (i : (List UInt8)) => a1 i) (fun (r : Bool) => .xb r)) rfl ?_)
    refine G_q rfl (zac (av := .row 1 zad a0) rfl ?_)
    refine G_q rfl (zac (av := .xi x8_l2) rfl ?_)
    obtain ⟨n13, h⟩ := need_some h
    refine G_q rfl (op_index_row (by kernel_rfl) rfl rfl n13.1 n13.2 ?_)
    refine G_q rfl (zaq (a := .xs (gi a0 x8_l2)) (by kernel_rfl) rfl rfl ?_)
    obtain ⟨y14, hy14, h⟩ := bnd1_some h
    refine G_q rfl (op_callfn (gi a0 x8_l2) rfl hy14 (LEs.cons (AV.le_eq rfl) LEs.nil) ?_)
    refine G_nil (zaa ?_)
    refine k_cond_b (c := y14) rfl (fun hc => ?_) (fun hc => ?_)
    ·replace h := ite_t h hc
     refine zae (zag .free hmixP (by kernel_rfl) ?_)
     refine G_q rfl (zac (av := .xi x8_l2) rfl ?_)
     refine G_q rfl (zab (av := .xi x8_l2) rfl ?_)
     refine G_nil (zaa (k_ret (kB_ret (kC_ret (kI_ret (kB_ret (kI_ret ?_)))))))
     obtain rfl := Option.some.inj h
     refine zaj (endN (af' := (AF.put AF0 (some 4) (.xi x8_l2))) (σ' := []) _ rfl ?_ ⟨rfl, rfl⟩)
     exact Sub.of_le (lq rfl lt0)
    ·replace h := ite_f h hc
     refine k_skip (kB_normal (zaa (zag .free hmixP (by kernel_rfl) ?_)))
     refine G_q rfl (op_add rfl rfl rfl ?_)
     refine G_q rfl (zac (av := .xi (i64 (x8_l2 + 1))) rfl ?_)
     refine G_nil ?_
     refine zaf ⟨_, h, ?_⟩
     exact Sub.of_le (lq rfl (lq rfl (lq rfl (lq rfl lt0))))
   ·replace h := ite_f h hc
    refine k_exit (kC_exit (kI_exit (kB_exit ?_)))
    refine zaf ⟨h, ?_⟩
    exact Sub.of_le lt0
 ·refine zae (zag .free hmixP (by kernel_rfl) ?_)
  refine G_q rfl (zab (av := .xi (-1)) rfl ?_)
  refine G_nil (zaa (k_ret ?_))
  obtain rfl := Option.some.inj h
  refine zaj (endN (af' := (AF.put AF0 (some 4) (.xi (-1)))) (σ' := []) _ rfl ?_ ⟨rfl, rfl⟩)
  exact Sub.of_le (lq rfl lt0)
set_option maxHeartbeats 4000000 in
theorem m_slices_ContainsFunc_L_api_Value_api_Value_ok (a0 : List (List UInt8)) (a1 : (List UInt8) → Option Bool) (r : Bool) (h : m_slices_ContainsFunc_L_api_Value_api_Value a0 a1 = some r) : Pure Tryz.prog 97 [(.row 1 zad a0), (.fn Tryz.prog (fun (i : (List UInt8)) => [.exact (.string (bs i))]) (fun (i : (List UInt8)) => a1 i) (fun (r : Bool) => .exact (.bool r)))] (.exact (.bool r)) := by
 unfold m_slices_ContainsFunc_L_api_Value_api_Value at h
 refine Pure.ofFun (fun_of_awp Tryz.func97 rfl Tryz.ntmps97 (by simp) rfl (res1 rfl) fun E hE => k_end ?_)
 refine zae (zag .free hmixP (by kernel_rfl) ?_)
 refine G_q rfl (zab (av := .xb false) rfl ?_)
 refine G_nil (zaa (zae (zag .free hmixP (by kernel_rfl) ?_)))
 refine G_q rfl (zac (av := .row 1 zad a0) rfl ?_)
 refine G_q rfl (zac (av := .fn Tryz.prog (fun (i : (List UInt8)) => [.xs i]) (fun (i : (List UInt8)) => a1 i) (fun (r : Bool) => .xb r)) rfl ?_)
 obtain ⟨y1, hy1, h⟩ := bnd1_some h
 refine G_q rfl (zal (m_slices_IndexFunc_L_api_Value_api_Value_ok _ _ _ hy1) Tryz.func108 (by kernel_rfl) (LEs.cons (AV.le_eq rfl) (LEs.cons (AV.le_eq rfl) LEs.nil)) ?_)
 refine G_q rfl (op_geq rfl rfl ?_)
 refine G_q rfl (zab (av := .xb (decide (0 ≤ y1))) rfl ?_)
 refine G_nil (zaa (k_ret ?_))
 obtain rfl := Option.some.inj h
 refine zaj (endN (af' := (AF.put AF0 (some 4) (.xb (decide (0 ≤ y1))))) (σ' := []) _ rfl ?_ ⟨rfl, rfl⟩)
 exact Sub.of_le (lq rfl lt0)
set_option maxHeartbeats 4000000 in
theorem m_cmp_isNaN_byte_ok (a0 : UInt8) (r : Bool) (h : m_cmp_isNaN_byte a0 = some r) : Pure Tryz.prog 134 [(.exact (.int .u8 (UInt8.toNat a0 : Int)))] (.exact (.bool r)) := by
 unfold m_cmp_isNaN_byte at h
 refine Pure.ofFun (fun_of_awp Tryz.func134 rfl Tryz.ntmps134 (by simp) rfl (res1 rfl) fun E hE => k_end ?_)
 refine zae (zag .free hmixP (by kernel_rfl) ?_)
 refine G_q rfl (zab (av := .xb false) rfl ?_)
 refine G_nil (zaa (zae (zag .free hmixP (by kernel_rfl) ?_)))
 refine G_q rfl (zac (av := .exact (.int .u8 (UInt8.toNat a0 : Int))) rfl ?_)
 refine G_q rfl (zac (av := .exact (.int .u8 (UInt8.toNat a0 : Int))) rfl ?_)
 refine G_q rfl (op_neqU (a := a0) (b := a0) rfl rfl ?_)
 refine G_q rfl (zab (av := .xb (decide (¬ a0 = a0))) rfl ?_)
 refine G_nil (zaa (k_ret ?_))
 obtain rfl := Option.some.inj h
 refine zaj (endN (af' := (AF.put AF0 (some 2) (.xb (decide (¬ a0 = a0))))) (σ' := []) _ rfl ?_ ⟨rfl, rfl⟩)
 exact Sub.of_le (lq rfl lt0)
set_option maxHeartbeats 4000000 in
theorem m_cmp_Compare_byte_ok (a0 : UInt8) (a1 : UInt8) (r : Int) (h : m_cmp_Compare_byte a0 a1 = some r) : Pure Tryz.prog 125 [(.exact (.int .u8 (UInt8.toNat a0 : Int))), (.exact (.int .u8 (UInt8.toNat a1 : Int)))] (.exact (.int .i64 r)) := by
 unfold m_cmp_Compare_byte at h
 refine Pure.ofFun (fun_of_awp Tryz.func125 rfl Tryz.ntmps125 (by simp) rfl (res1 rfl) fun E hE => k_end ?_)
 refine zae (zag .free hmixP (by kernel_rfl) ?_)
 refine G_q rfl (zab (av := .xi 0) rfl ?_)
 refine G_nil (zaa (zae (zag .free hmixP (by kernel_rfl) ?_)))
 refine G_q rfl (zac (av := .exact (.int .u8 (UInt8.toNat a0 : Int))) rfl ?_)
 obtain ⟨y1, hy1, h⟩ := bnd1_some h
 refine G_q rfl (zal (m_cmp_isNaN_byte_ok _ _ hy1) Tryz.func134 (by kernel_rfl) (LEs.cons (AV.le_eq rfl) LEs.nil) ?_)
 refine G_q rfl (zab (av := .xb y1) rfl ?_)
 refine G_nil (zaa (zae (zag .free hmixP (by kernel_rfl) ?_)))
 refine G_q rfl (zac (av := .exact (.int .u8 (UInt8.toNat a1 : Int))) rfl ?_)
 obtain ⟨y2, hy2, h⟩ := bnd1_some h
 refine G_q rfl (zal (m_cmp_isNaN_byte_ok _ _ hy2) Tryz.func134 (by kernel_rfl) (LEs.cons (AV.le_eq rfl) LEs.nil) ?_)
 refine G_q rfl (zab (av := .xb y2) rfl ?_)
 refine G_nil (zaa (zae (zae (zag .free hmixP (by kernel_rfl) ?_))))
 refine G_q rfl (zac (av := .xb y1) rfl ?_)
 refine G_nil (zaa ?_)
 refine k_cond_b (c := y1) rfl (fun hc => ?_) (fun hc => ?_)
 ·replace h := ite_t h hc
  refine zae (zae (zag .free hmixP (by kernel_rfl) ?_))
  refine G_q rfl (zac (av := .xb y2) rfl ?_)
  refine G_nil (zaa ?_)
  refine k_cond_b (c := y2) rfl (fun hc => ?_) (fun hc => ?_)
  ·replace h := ite_t h hc
   refine zae (zag .free hmixP (by kernel_rfl) ?_)
   refine G_q rfl (zab (av := .xi 0) rfl ?_)
   refine G_nil (zaa (k_ret (kC_ret (kC_ret ?_))))
   obtain rfl := Option.some.inj h
   refine zaj (endN (af' := (AF.put AF0 (some 4) (.xi 0))) (σ' := []) _ rfl ?_ ⟨rfl, rfl⟩)
   exact Sub.of_le (lq rfl lt0)
  ·replace h := ite_f h hc
   refine k_skip (zaa (zae (zag .free hmixP (by kernel_rfl) ?_)))
   refine G_q rfl (zab (av := .xi (-1)) rfl ?_)
   refine G_nil (zaa (k_ret (kC_ret ?_)))
   obtain rfl := Option.some.inj h
   refine zaj (endN (af' := (AF.put AF0 (some 4) (.xi (-1)))) (σ' := []) _ rfl ?_ ⟨rfl, rfl⟩)
   exact Sub.of_le (lq rfl lt0)
 ·replace h := ite_f h hc
  refine k_skip (zaa (zae (zae (zag .free hmixP (by kernel_rfl) ?_))))
  refine G_q rfl (zac (av := .xb y2) rfl ?_)
  refine G_nil (zaa ?_)
  refine k_cond_b (c := y2) rfl (fun hc => ?_) (fun hc => ?_)
  ·replace h := ite_t h hc
   refine zae (zag .free hmixP (by kernel_rfl) ?_)
   refine G_q rfl (zab (av := .xi 1) rfl ?_)
   refine G_nil (zaa (k_ret (kC_ret ?_)))
   obtain rfl := Option.some.inj h
   refine zaj (endN (af' := (AF.put AF0 (some 4) (.xi 1))) (σ' := []) _ rfl ?_ ⟨rfl, rfl⟩)
   exact Sub.of_le (lq rfl lt0)
  ·replace h := ite_f h hc
   refine k_skip (zaa (zae (zae (zag .free hmixP (by kernel_rfl) ?_))))
   refine G_q rfl (zac (av := .exact (.int .u8 (UInt8.toNat a0 : Int))) rfl ?_)
   refine G_q rfl (zac (av := .exact (.int .u8 (UInt8.toNat a1 : Int))) rfl ?_)
   refine G_q rfl (op_lssU (a := a0) (b := a1) rfl rfl ?_)
   refine G_nil (zaa ?_)
   refine zak (p := a0 < a1) rfl (fun hc => ?_) (fun hc => ?_)
   ·replace h := ite_t h hc
    refine zae (zag .free hmixP (by kernel_rfl) ?_)
    refine G_q rfl (zab (av := .xi (-1)) rfl ?_)
    refine G_nil (zaa (k_ret (kC_ret ?_)))
    obtain rfl := Option.some.inj h
    refine zaj (endN (af' := (AF.put AF0 (some 4) (.xi (-1)))) (σ' := []) _ rfl ?_ ⟨rfl, rfl⟩)
    exact Sub.of_le (lq rfl lt0)
   ·replace h := ite_f h hc
    refine k_skip (zaa (zae (zae (zag .free hmixP (by kernel_rfl) ?_))))
    refine G_q rfl (zac (av := .exact (.int .u8 (UInt8.toNat a0 : Int))) rfl ?_)
    refine G_q rfl (zac (av := .exact (.int .u8 (UInt8.toNat a1 : Int))) rfl ?_)
    refine G_q rfl (op_gtrU (a := a0) (b := a1) rfl rfl ?_)
    refine G_nil (zaa ?_)
    refine zak (p := a1 < a0) rfl (fun hc => ?_) (fun hc => ?_)
    ·replace h := ite_t h hc
     refine zae (zag .free hmixP (by kernel_rfl) ?_)
     refine G_q rfl (zab (av := .xi 1) rfl ?_)
     refine G_nil (zaa (k_ret (kC_ret ?_)))
     obtain rfl := Option.some.inj h
     refine zaj (endN (af' := (AF.put AF0 (some 4) (.xi 1))) (σ' := []) _ rfl ?_ ⟨rfl, rfl⟩)
     exact Sub.of_le (lq rfl lt0)
    ·replace h := ite_f h hc
     refine k_skip (zaa (zae (zag .free hmixP (by kernel_rfl) ?_)))
     refine G_q rfl (zab (av := .xi 0) rfl ?_)
     refine G_nil (zaa (k_ret ?_))
     obtain rfl := Option.some.inj h
     refine zaj (endN (af' := (AF.put AF0 (some 4) (.xi 0))) (σ' := []) _ rfl ?_ ⟨rfl, rfl⟩)
     exact Sub.of_le (lq rfl lt0)
set_option maxHeartbeats 4000000 in
theorem m_value_integer_ok (a0 : List UInt8) (r : Int) (h : m_value_integer a0 = some r) : Pure Tryz.prog 91 [(.exact (.string (bs a0)))] (.exact (.int .i64 r)) := by
 unfold m_value_integer at h
 refine Pure.ofFun (fun_of_awp Tryz.func91 rfl Tryz.ntmps91 (by simp) rfl (res1 rfl) fun E hE => k_end ?_)
 refine zae (zag .free hmixP (by kernel_rfl) ?_)
 refine G_q rfl (zab (av := .xi 0) rfl ?_)
 refine G_nil (zaa (zae (zag .free hmixP (by kernel_rfl) ?_)))
 refine G_q rfl (zab (av := .exact (.int .u64 0)) rfl ?_)
 refine G_nil (zaa ?_)
 refine k_join1_0 h (fun (x3_j1 : Int) => (AF.put AF0 (some 3) (.exact (.int .u64 x3_j1)))) (fun (x3_j1 : Int) => []) (fun k1 h => ?_) (fun x3_j1 h => ?_)
 ·refine zae (zag .free hmixP (by kernel_rfl) ?_)
  refine G_q rfl (zab (av := .xi 1) rfl ?_)
  refine G_nil (zaa (k_block ?_))
  refine k_loop2_0 (m_value_integer_L2 a0 k1) (m_value_integer_B2 a0 k1) (fun _ _ => rfl) (fun m _ _ => rfl) h (fun (x3_l2 : Int) (x4_l2 : Int) => (AF.put (AF.put (AF.put AF0 (some 0) (.xs a0)) (some 3) (.exact (.int .u64 x3_l2))) (some 4) (.xi x4_l2))) (fun (x3_l2 : Int) (x4_l2 : Int) => []) ?_ (fun rec2 x3_l2 x4_l2 h => ?_)
  ·exact Sub.of_le (lq rfl (lq rfl (lq rfl lt0)))
  ·unfold m_value_integer_B2 at h
   refine zae (zae (zag .free hmixP (by kernel_rfl) ?_))
   refine G_q rfl (zac (av := .xi x4_l2) rfl ?_)
   refine G_q rfl (op_lss rfl rfl ?_)
   refine G_nil (zaa ?_)
   refine zak (p := x4_l2 < 9) rfl (fun hc => ?_) (fun hc => ?_)
   ·replace h := ite_t h hc
    refine k_skip (zaa (zae (k_block (zag .free hmixP (by kernel_rfl) ?_))))
    refine G_q rfl (zac (av := .exact (.int .u64 x3_l2)) rfl ?_)
    refine G_q rfl (op_shl rfl rfl (by decide) rfl ?_)
    refine G_q rfl (zac (av := .xs a0) rfl ?_)
    refine G_q rfl (zac (av := .xi x4_l2) rfl ?_)
    obtain ⟨n8, h⟩ := need_some h
    refine G_q rfl (op_index_str (by kernel_rfl) rfl rfl n8.1 n8.2 ?_)
    refine G_q rfl (op_convInt (k := .u64) (r := (UInt8.toNat (gi a0 x4_l2) : Int)) (by kernel_rfl) rfl (wrap_u8 rfl _) ?_)
    refine G_q rfl (op_or rfl rfl rfl ?_)
    refine G_q rfl (zab (av := .exact (.int .u64 (bOr .u64 (IntKind.u64.wrap (x3_l2 * 2 ^ min (Int.toNat 8) IntKind.u64.bits)) (UInt8.toNat (gi a0 x4_l2) : Int)))) rfl ?_)
    refine G_nil (kB_normal (zaa (zag .free hmixP (by kernel_rfl) ?_)))
    refine G_q rfl (zac (av := .xi x4_l2) rfl ?_)
    refine G_q rfl (op_add rfl rfl rfl ?_)
    refine G_q rfl (zab (av := .xi (i64 (x4_l2 + 1))) rfl ?_)
    refine G_nil ?_
    refine zaf ⟨_, _, h, ?_⟩
    exact Sub.of_le (lq rfl (lq rfl (lq rfl lt0)))
   ·replace h := ite_f h hc
    refine k_exit (kC_exit (kI_exit (kB_exit ?_)))
    refine zaf ⟨_, h, ?_⟩
    exact Sub.of_le (lq rfl lt0)
 ·refine zae (zag .free hmixP (by kernel_rfl) ?_)
  refine G_q rfl (zac (av := .exact (.int .u64 x3_j1)) rfl ?_)
  refine G_q rfl (op_convInt (k := .i64) (by kernel_rfl) rfl rfl ?_)
  refine G_q rfl (zab (av := .xi (i64 (x3_j1))) rfl ?_)
  refine G_nil (zaa (k_ret ?_))
  obtain rfl := Option.some.inj h
  refine zaj (endN (af' := (AF.put AF0 (some 2) (.xi (i64 (x3_j1))))) (σ' := []) _ rfl ?_ ⟨rfl, rfl⟩)
  exact Sub.of_le (lq rfl lt0)
set_option maxHeartbeats 4000000 in
theorem m_cmp_isNaN_int64_ok (a0 : Int) (r : Bool) (h : m_cmp_isNaN_int64 a0 = some r) : Pure Tryz.prog 135 [(.exact (.int .i64 a0))] (.exact (.bool r)) := by
 unfold m_cmp_isNaN_int64 at h
 refine Pure.ofFun (fun_of_awp Tryz.func135 rfl Tryz.ntmps135 (by simp) rfl (res1 rfl) fun E hE => k_end ?_)
 refine zae (zag .free hmixP (by kernel_rfl) ?_)
 refine G_q rfl (zab (av := .xb false) rfl ?_)
 refine G_nil (zaa (zae (zag .free hmixP (by kernel_rfl) ?_)))
 refine G_q rfl (zac (av := .xi a0) rfl ?_)
 refine G_q rfl (zac (av := .xi a0) rfl ?_)
 refine G_q rfl (op_neq rfl rfl ?_)
 refine G_q rfl (zab (av := .xb (decide (¬ a0 = a0))) rfl ?_)
 refine G_nil (zaa (k_ret ?_))
 obtain rfl := Option.some.inj h
 refine zaj (endN (af' := (AF.put AF0 (some 2) (.xb (decide (¬ a0 = a0))))) (σ' := []) _ rfl ?_ ⟨rfl, rfl⟩)
 exact Sub.of_le (lq rfl lt0)
set_option maxHeartbeats 4000000 in
theorem m_cmp_Compare_int64_ok (a0 : Int) (a1 : Int) (r : Int) (h : m_cmp_Compare_int64 a0 a1 = some r) : Pure Tryz.prog 126 [(.exact (.int .i64 a0)), (.exact (.int .i64 a1))] (.exact (.int .i64 r)) := by
 unfold m_cmp_Compare_int64 at h
 refine Pure.ofFun (fun_of_awp Tryz.func126 rfl Tryz.ntmps126 (by simp) rfl (res1 rfl) fun E hE => k_end ?_)
 refine zae (zag .free hmixP (by kernel_rfl) ?_)
 refine G_q rfl (zab (av := .xi 0) rfl ?_)
 refine G_nil (zaa (zae (zag .free hmixP (by kernel_rfl) ?_)))
 refine G_q rfl (zac (av := .xi a0) rfl ?_)
 obtain ⟨y1, hy1, h⟩ := bnd1_some h
 refine G_q rfl (zal (m_cmp_isNaN_int64_ok _ _ hy1) Tryz.func135 (by kernel_rfl) (LEs.cons (AV.le_eq rfl) LEs.nil) ?_)
 refine G_q rfl (zab (av := .xb y1) rfl ?_)
 refine G_nil (zaa (zae (zag .free hmixP (by kernel_rfl) ?_)))
 refine G_q rfl (zac (av := .xi a1) rfl ?_)
 obtain ⟨y2, hy2, h⟩ := bnd1_some h
 refine G_q rfl (zal (m_cmp_isNaN_int64_ok _ _ hy2) Tryz.func135 (by kernel_rfl) (LEs.cons (AV.le_eq rfl) LEs.nil) ?_)
 refine G_q rfl (zab (av := .xb y2) rfl ?_)
 refine G_nil (zaa (zae (zae (zag .free hmixP (by kernel_rfl) ?_))))
 refine G_q rfl (zac (av := .xb y1) rfl ?_)
 refine G_nil (zaa ?_)
 refine k_cond_b (c := y1) rfl (fun hc => ?_) (fun hc => ?_)
 ·replace h := ite_t h hc
  refine zae (zae (zag .free hmixP (by kernel_rfl) ?_))
  refine G_q rfl (zac (av := .xb y2) rfl ?_)
  refine G_nil (zaa ?_)
  refine k_cond_b (c := y2) rfl (fun hc => ?_) (fun hc => ?_)
  ·replace h := ite_t h hc
   refine zae (zag .free hmixP (by kernel_rfl) ?_)
   refine G_q rfl (zab (av := .xi 0) rfl ?_)
   refine G_nil (zaa (k_ret (kC_ret (kC_ret ?_))))
   obtain rfl := Option.some.inj h
   refine zaj (endN (af' := (AF.put AF0 (some 4) (.xi 0))) (σ' := []) _ rfl ?_ ⟨rfl, rfl⟩)
   exact Sub.of_le (lq rfl lt0)
  ·replace h := ite_f h hc
   refine k_skip (zaa (zae (zag .free hmixP (by kernel_rfl) ?_)))
   refine G_q rfl (zab (av := .xi (-1)) rfl ?_)
   refine G_nil (zaa (k_ret (kC_ret ?_)))
   obtain rfl := Option.some.inj h
   refine zaj (endN (af' := (AF.put AF0 (some 4) (.xi (-1)))) (σ' := []) _ rfl ?_ ⟨rfl, rfl⟩)
   exact Sub.of_le (lq rfl lt0)
 ·replace h := ite_f h hc
  refine k_skip (zaa (zae (zae (zag .free hmixP (by kernel_rfl) ?_))))
  refine G_q rfl (zac (av := .xb y2) rfl ?_)
  refine G_nil (zaa ?_)
  refine k_cond_b (c := y2) rfl (fun hc => ?_) (fun hc => ?_)
  ·replace h := ite_t h hc
   refine zae (zag .free hmixP (by kernel_rfl) ?_)
   refine G_q rfl (zab (av := .xi 1) rfl ?_)
   refine G_nil (zaa (k_ret (kC_ret ?_)))
   obtain rfl := Option.some.inj h
   refine zaj (endN (af' := (AF.put AF0 (some 4) (.xi 1))) (σ' := []) _ rfl ?_ ⟨rfl, rfl⟩)
   exact Sub.of_le (lq rfl lt0)
  ·replace h := ite_f h hc
   refine k_skip (zaa (zae (zae (zag .free hmixP (by kernel_rfl) ?_))))
   refine G_q rfl (zac (av := .xi a0) rfl ?_)
   refine G_q rfl (zac (av := .xi a1) rfl ?_)
   refine G_q rfl (op_lss rfl rfl ?_)
   refine G_nil (zaa ?_)
   refine zak (p := a0 < a1) rfl (fun hc => ?_) (fun hc => ?_)
   ·replace h := ite_t h hc
    refine zae (zag .free hmixP (by kernel_rfl) ?_)
    refine G_q rfl (zab (av := .xi (-1)) rfl ?_)
    refine G_nil (zaa (k_ret (kC_ret ?_)))
    obtain rfl := Option.some.inj h
    refine zaj (endN (af' := (AF.put AF0 (some 4) (.xi (-1)))) (σ' := []) _ rfl ?_ ⟨rfl, rfl⟩)
    exact Sub.of_le (lq rfl lt0)
   ·replace h := ite_f h hc
    refine k_skip (zaa (zae (zae (zag .free hmixP (by kernel_rfl) ?_))))
    refine G_q rfl (zac (av := .xi a0) rfl ?_)
    refine G_q rfl (zac (av := .xi a1) rfl ?_)
    refine G_q rfl (op_gtr rfl rfl ?_)
    refine G_nil (zaa ?_)
    refine zak (p := a1 < a0) rfl (fun hc => ?_) (fun hc => ?_)
    ·replace h := ite_t h hc
     refine zae (zag .free hmixP (by kernel_rfl) ?_)
     refine G_q rfl (zab (av := .xi 1) rfl ?_)
     refine G_nil (zaa (k_ret (kC_ret ?_)))
     obtain rfl := Option.some.inj h
     refine zaj (endN (af' := (AF.put AF0 (some 4) (.xi 1))) (σ' := []) _ rfl ?_ ⟨rfl, rfl⟩)
     exact Sub.of_le (lq rfl lt0)
    ·replace h := ite_f h hc
     refine k_skip (zaa (zae (zag .free hmixP (by kernel_rfl) ?_)))
     refine G_q rfl (zab (av := .xi 0) rfl ?_)
     refine G_nil (zaa (k_ret ?_))
     obtain rfl := Option.some.inj h
     refine zaj (endN (af' := (AF.put AF0 (some 4) (.xi 0))) (σ' := []) _ rfl ?_ ⟨rfl, rfl⟩)
     exact Sub.of_le (lq rfl lt0)
set_option maxHeartbeats 4000000 in
theorem m_value_simple_ok (a0 : Int) (r : Bool) (h : m_value_simple a0 = some r) : Pure Tryz.prog 88 [(.exact (.int .i64 a0))] (.exact (.bool r)) := by
 unfold m_value_simple at h
 refine Pure.ofFun (fun_of_awp Tryz.func88 rfl Tryz.ntmps88 (by simp) rfl (res1 rfl) fun E hE => k_end ?_)
 refine zae (zag .free hmixP (by kernel_rfl) ?_)
 refine G_q rfl (zab (av := .xb false) rfl ?_)
 refine G_nil (zaa ?_)
 refine k_join1_0 h (fun (x2_j1 : Bool) => (AF.put AF0 (some 2) (.xb x2_j1))) (fun (x2_j1 : Bool) => []) (fun k1 h => ?_) (fun x2_j1 h => ?_)
 ·refine zag .free hmixP (by kernel_rfl) ?_
  refine G_q rfl (zac (av := .xi a0) rfl ?_)
  refine G_q rfl (op_eql rfl rfl ?_)
  refine G_q rfl (zac (av := .xb (decide (a0 = 0))) rfl ?_)
  refine G_split (p := a0 = 0) 5 rfl (fun hc => ?_) (fun hc => ?_)
  ·replace h := ite_t h hc
   refine G_n rfl rfl (G_n rfl rfl ?_)
   refine G_q rfl (zao rfl (av := .xb true) rfl ?_)
   refine G_q rfl (zac (av := .xb true) rfl ?_)
   refine G_n rfl rfl (G_n rfl rfl ?_)
   refine G_q rfl (zao rfl (av := .xb true) rfl ?_)
   refine G_q rfl (zac (av := .xb true) rfl ?_)
   refine G_n rfl rfl (G_n rfl rfl ?_)
   refine G_q rfl (zao rfl (av := .xb true) rfl ?_)
   refine G_q rfl (zab (av := .xb true) rfl ?_)
   refine G_nil ?_
   refine zaf ⟨_, h, ?_⟩
   exact Sub.of_le (lq rfl lt0)
  ·replace h := ite_f h hc
   refine Gy_q rfl rfl rfl (zac (av := .xi a0) rfl ?_)
   refine Gy_q rfl rfl rfl (op_eql rfl rfl ?_)
   refine G_q rfl (zai rfl (av := .xb (decide (a0 = 1))) rfl ?_)
   refine G_q rfl (zac (av := .xb (decide (a0 = 1))) rfl ?_)
   refine G_split (p := a0 = 1) 9 rfl (fun hc => ?_) (fun hc => ?_)
   ·replace h := ite_t h hc
    refine G_n rfl rfl (G_n rfl rfl ?_)
    refine G_q rfl (zao rfl (av := .xb true) rfl ?_)
    refine G_q rfl (zac (av := .xb true) rfl ?_)
    refine G_n rfl rfl (G_n rfl rfl ?_)
    refine G_q rfl (zao rfl (av := .xb true) rfl ?_)
    refine G_q rfl (zab (av := .xb true) rfl ?_)
    refine G_nil ?_
    refine zaf ⟨_, h, ?_⟩
    exact Sub.of_le (lq rfl lt0)
   ·replace h := ite_f h hc
    refine Gy_q rfl rfl rfl (zac (av := .xi a0) rfl ?_)
    refine Gy_q rfl rfl rfl (op_eql rfl rfl ?_)
    refine G_q rfl (zai rfl (av := .xb (decide (a0 = 2))) rfl ?_)
    refine G_q rfl (zac (av := .xb (decide (a0 = 2))) rfl ?_)
    refine G_split (p := a0 = 2) 13 rfl (fun hc => ?_) (fun hc => ?_)
    ·replace h := ite_t h hc
     refine G_n rfl rfl (G_n rfl rfl ?_)
     refine G_q rfl (zao rfl (av := .xb true) rfl ?_)
     refine G_q rfl (zab (av := .xb true) rfl ?_)
     refine G_nil ?_
     refine zaf ⟨_, h, ?_⟩
     exact Sub.of_le (lq rfl lt0)
    ·replace h := ite_f h hc
     refine Gy_q rfl rfl rfl (zac (av := .xi a0) rfl ?_)
     refine Gy_q rfl rfl rfl (op_eql rfl rfl ?_)
     refine G_q rfl (zai rfl (av := .xb (decide (a0 = 10))) rfl ?_)
     refine G_q rfl (zab (av := .xb (decide (a0 = 10))) rfl ?_)
     refine G_nil ?_
     refine zaf ⟨_, h, ?_⟩
     exact Sub.of_le (lq rfl lt0)
 ·refine k_ret ?_
  obtain rfl := Option.some.inj h
  refine zaj (endN (af' := (AF.put AF0 (some 2) (.xb x2_j1))) (σ' := []) _ rfl ?_ ⟨rfl, rfl⟩)
  exact Sub.of_le (lq rfl lt0)
set_option maxHeartbeats 4000000 in
theorem m_cmp_isNaN_api_Value_ok (a0 : List UInt8) (r : Bool) (h : m_cmp_isNaN_api_Value a0 = some r) : Pure Tryz.prog 128 [(.exact (.string (bs a0)))] (.exact (.bool r)) := by
 unfold m_cmp_isNaN_api_Value at h
 refine Pure.ofFun (fun_of_awp Tryz.func128 rfl Tryz.ntmps128 (by simp) rfl (res1 rfl) fun E hE => k_end ?_)
 refine zae (zag .free hmixP (by kernel_rfl) ?_)
 refine G_q rfl (zab (av := .xb false) rfl ?_)
 refine G_nil (zaa (zae (zag .free hmixP (by kernel_rfl) ?_)))
 refine G_q rfl (zac (av := .xs a0) rfl ?_)
 refine G_q rfl (zac (av := .xs a0) rfl ?_)
 refine G_q rfl (op_neqS rfl rfl ?_)
 refine G_q rfl (zab (av := .xb (decide (¬ a0 = a0))) rfl ?_)
 refine G_nil (zaa (k_ret ?_))
 obtain rfl := Option.some.inj h
 refine zaj (endN (af' := (AF.put AF0 (some 2) (.xb (decide (¬ a0 = a0))))) (σ' := []) _ rfl ?_ ⟨rfl, rfl⟩)
 exact Sub.of_le (lq rfl lt0)
end Go.Proofs.YtpfdeahcjlfijaaGreat
/- The functions compute their models, by program. -/
namespace Go.Proofs.YtpfdeahcjlfijaaGreat
open Go.RowKit
attribute [local irreducible] AV.exact AV.top AV.row AV.ptr AV.agg AV.tup AV.eptr AV.fn AV.nilq AV.nilqn opA opB opM opR Quiet Loud Reads wpG awp den Sub SubU Pure Fun vecI vecT boxI CellsAll CellsOf OneC LEs LEss
set_option maxRecDepth 100000

set_option maxHeartbeats 4000000 in
theorem m_cmp_Compare_api_Value_ok (a0 : List UInt8) (a1 : List UInt8) (r : Int) (h : m_cmp_Compare_api_Value a0 a1 = some r) : Pure Tryz.prog 112 [(.exact (.string (bs a0))), (.exact (.string (bs a1)))] (.exact (.int .i64 r)) := by
 unfold m_cmp_Compare_api_Value at h
 refine Pure.ofFun (fun_of_awp Tryz.func112 rfl Tryz.ntmps112 (by simp) rfl (res1 rfl) fun E hE => k_end ?_)
 refine zae (zag .free hmixP (by kernel_rfl) ?_)
 refine G_q rfl (zab (av := .xi 0) rfl ?_)
 refine G_nil (zaa (zae (zag .free hmixP (by kernel_rfl) ?_)))
 refine G_q rfl (zac (av := .xs a0) rfl ?_)
 obtain ⟨y1, hy1, h⟩ := bnd1_some h
 refine G_q rfl (zal (m_cmp_isNaN_api_Value_ok _ _ hy1) Tryz.func128 (by kernel_rfl) (LEs.cons (AV.le_eq rfl) LEs.nil) ?_)
 refine G_q rfl (zab (av := .xb y1) rfl ?_)
 refine G_nil (zaa (zae (zag .free hmixP (by kernel_rfl) ?_)))
 refine G_q rfl (zac (av := .xs a1) rfl ?_)
 obtain ⟨y2, hy2, h⟩ := bnd1_some h
 refine G_q rfl (zal (m_cmp_isNaN_api_Value_ok _ _ hy2) Tryz.func128 (by kernel_rfl) (LEs.cons (AV.le_eq rfl) LEs.nil) ?_)
 refine G_q rfl (zab (av := .xb y2) rfl ?_)
 refine G_nil (zaa (zae (zae (zag .free hmixP (by kernel_rfl) ?_))))
 refine G_q rfl (zac (av := .xb y1) rfl ?_)
 refine G_nil (zaa ?_)
 refine k_cond_b (c := y1) rfl (fun hc => ?_) (fun hc => ?_)
 ·replace h := ite_t h hc
  refine zae (zae (zag .free hmixP (by kernel_rfl) ?_))
  refine G_q rfl (zac (av := .xb y2) rfl ?_)
  refine G_nil (zaa ?_)
  refine k_cond_b (c := y2) rfl (fun hc => ?_) (fun hc => ?_)
  ·replace h := ite_t h hc
   refine zae (zag .free hmixP (by kernel_rfl) ?_)
   refine G_q rfl (zab (av := .xi 0) rfl ?_)
   refine G_nil (zaa (k_ret (kC_ret (kC_ret ?_))))
   obtain rfl := Option.some.inj h
   refine zaj (endN (af' := (AF.put AF0 (some 4) (.xi 0))) (σ' := []) _ rfl ?_ ⟨rfl, rfl⟩)
   exact Sub.of_le (lq rfl lt0)
  ·replace h := ite_f h hc
   refine k_skip (zaa (zae (zag .free hmixP (by kernel_rfl) ?_)))
   refine G_q rfl (zab (av := .xi (-1)) rfl ?_)
   refine G_nil (zaa (k_ret (kC_ret ?_)))
   obtain rfl := Option.some.inj h
   refine zaj (endN (af' := (AF.put AF0 (some 4) (.xi (-1)))) (σ' := []) _ rfl ?_ ⟨rfl, rfl⟩)
   exact Sub.of_le (lq rfl lt0)
 ·replace h := ite_f h hc
  refine k_skip (zaa (zae (zae (zag .free hmixP (by kernel_rfl) ?_))))
  refine G_q rfl (zac (av := .xb y2) rfl ?_)
  refine G_nil (zaa ?_)
  refine k_cond_b (c := y2) rfl (fun hc => ?_) (fun hc => ?_)
  ·replace h := ite_t h hc
   refine zae (zag .free hmixP (by kernel_rfl) ?_)
   refine G_q rfl (zab (av := .xi 1) rfl ?_)
   refine G_nil (zaa (k_ret (kC_ret ?_)))
   obtain rfl := Option.some.inj h
   refine zaj (endN (af' := (AF.put AF0 (some 4) (.xi 1))) (σ' := []) _ rfl ?_ ⟨rfl, rfl⟩)
   exact Sub.of_le (lq rfl lt0)
  ·replace h := ite_f h hc
   refine k_skip (zaa (zae (zae (zag .free hmixP (by kernel_rfl) ?_))))
   refine G_q rfl (zac (av := .xs a0) rfl ?_)
   refine G_q rfl (zac (av := .xs a1) rfl ?_)
   refine G_q rfl (op_lssS rfl rfl ?_)
   refine G_nil (zaa ?_)
   refine zak (p := ltS a0 a1) rfl (fun hc => ?_) (fun hc => ?_)
   ·replace h := ite_t h hc
    refine zae (zag .free hmixP (by kernel_rfl) ?_)
    refine G_q rfl (zab (av := .xi (-1)) rfl ?_)
    refine G_nil (zaa (k_ret (kC_ret ?_)))
    obtain rfl := Option.some.inj h
    refine zaj (endN (af' := (AF.put AF0 (some 4) (.xi (-1)))) (σ' := []) _ rfl ?_ ⟨rfl, rfl⟩)
    exact Sub.of_le (lq rfl lt0)
   ·replace h := ite_f h hc
    refine k_skip (zaa (zae (zae (zag .free hmixP (by kernel_rfl) ?_))))
    refine G_q rfl (zac (av := .xs a0) rfl ?_)
    refine G_q rfl (zac (av := .xs a1) rfl ?_)
    refine G_q rfl (op_gtrS rfl rfl ?_)
    refine G_nil (zaa ?_)
    refine zak (p := ltS a1 a0) rfl (fun hc => ?_) (fun hc => ?_)
    ·replace h := ite_t h hc
     refine zae (zag .free hmixP (by kernel_rfl) ?_)
     refine G_q rfl (zab (av := .xi 1) rfl ?_)
     refine G_nil (zaa (k_ret (kC_ret ?_)))
     obtain rfl := Option.some.inj h
     refine zaj (endN (af' := (AF.put AF0 (some 4) (.xi 1))) (σ' := []) _ rfl ?_ ⟨rfl, rfl⟩)
     exact Sub.of_le (lq rfl lt0)
    ·replace h := ite_f h hc
     refine k_skip (zaa (zae (zag .free hmixP (by kernel_rfl) ?_)))
     refine G_q rfl (zab (av := .xi 0) rfl ?_)
     refine G_nil (zaa (k_ret ?_))
     obtain rfl := Option.some.inj h
     refine zaj (endN (af' := (AF.put AF0 (some 4) (.xi 0))) (σ' := []) _ rfl ?_ ⟨rfl, rfl⟩)
     exact Sub.of_le (lq rfl lt0)
set_option maxHeartbeats 4000000 in
theorem m_value_span_F_ok (self_value_span : (List UInt8) → Option Int) (hself_value_span : ∀ (a0 : List UInt8) (r : Int), self_value_span a0 = some r → Pure Tryz.prog 104 [(.exact (.string (bs a0)))] (.exact (.int .i64 r))) (a0 : List UInt8) (r : Int) (h : m_value_span_F self_value_span a0 = some r) : Pure Tryz.prog 104 [(.exact (.string (bs a0)))] (.exact (.int .i64 r)) := by
 unfold m_value_span_F at h
 refine Pure.ofFun (fun_of_awp Tryz.func104 rfl Tryz.ntmps104 (by simp) rfl (res1 rfl) fun E hE => k_end ?_)
 refine zae (zag .free hmixP (by kernel_rfl) ?_)
 refine G_q rfl (zab (av := .xi 0) rfl ?_)
 refine G_nil (zaa (zae (zae (zag .free hmixP (by kernel_rfl) ?_))))
 refine G_q rfl (zac (av := .xs a0) rfl ?_)
 obtain ⟨n1, h⟩ := need_some h
 refine G_q rfl (op_index_str (by kernel_rfl) rfl rfl n1.1 n1.2 ?_)
 refine G_nil (zaa (k_block (zae (zag .free hmixP (by kernel_rfl) ?_))))
 refine G_q rfl (op_eqlU (a := (gi a0 0)) (b := 1) rfl rfl ?_)
 refine G_q rfl (zab (av := .xb (decide ((gi a0 0) = 1))) rfl ?_)
 refine G_nil (zaa ?_)
 refine zak (p := (gi a0 0) = 1) rfl (fun hc => ?_) (fun hc => ?_)
 ·replace h := ite_t h hc
  refine zae (zag .free hmixP (by kernel_rfl) ?_)
  refine G_q rfl (zab (av := .xi 9) rfl ?_)
  refine G_nil (zaa (k_ret (kB_ret (kC_ret ?_))))
  obtain rfl := Option.some.inj h
  refine zaj (endN (af' := (AF.put AF0 (some 2) (.xi 9))) (σ' := []) _ rfl ?_ ⟨rfl, rfl⟩)
  exact Sub.of_le (lq rfl lt0)
 ·replace h := ite_f h hc
  refine zae (zag .free hmixP (by kernel_rfl) ?_)
  refine G_q rfl (op_eqlU (a := (gi a0 0)) (b := 2) rfl rfl ?_)
  refine G_q rfl (zab (av := .xb (decide ((gi a0 0) = 2))) rfl ?_)
  refine G_nil (zaa ?_)
  refine zak (p := (gi a0 0) = 2) rfl (fun hc => ?_) (fun hc => ?_)
  ·replace h := ite_t h hc
   refine zae (zag .free hmixP (by kernel_rfl) ?_)
   refine G_q rfl (zab (av := .xi 2) rfl ?_)
   refine G_nil (zaa (k_ret (kB_ret (kC_ret ?_))))
   obtain rfl := Option.some.inj h
   refine zaj (endN (af' := (AF.put AF0 (some 2) (.xi 2))) (σ' := []) _ rfl ?_ ⟨rfl, rfl⟩)
   exact Sub.of_le (lq rfl lt0)
  ·replace h := ite_f h hc
   refine zae (zag .free hmixP (by kernel_rfl) ?_)
   refine G_q rfl (op_eqlU (a := (gi a0 0)) (b := 10) rfl rfl ?_)
   refine G_q rfl (zab (av := .xb (decide ((gi a0 0) = 10))) rfl ?_)
   refine G_nil (zaa ?_)
   refine zak (p := (gi a0 0) = 10) rfl (fun hc => ?_) (fun hc => ?_)
   ·replace h := ite_t h hc
    refine zae (zag .free hmixP (by kernel_rfl) ?_)
    refine G_q rfl (zab (av := .xi 3) rfl ?_)
    refine G_nil (zaa (k_ret (kB_ret (kC_ret ?_))))
    obtain rfl := Option.some.inj h
    refine zaj (endN (af' := (AF.put AF0 (some 2) (.xi 3))) (σ' := []) _ rfl ?_ ⟨rfl, rfl⟩)
    exact Sub.of_le (lq rfl lt0)
   ·replace h := ite_f h hc
    refine k_skip (kB_normal (zaa (zae (zag .free hmixP (by kernel_rfl) ?_))))
    refine G_q rfl (zab (av := .xi 3) rfl ?_)
    refine G_nil (zaa ?_)
    refine k_join1_0 h (fun (x3_j2 : Int) => (AF.put AF0 (some 3) (.xi x3_j2))) (fun (x3_j2 : Int) => []) (fun k2 h => ?_) (fun x3_j2 h => ?_)
    ·refine zae ?_
     refine k_plan [] [(0, 0), (0, 1), (0, 2), (0, 3), (0, 4), (0, 5), (0, 6), (0, 7), (0, 8)] hmixP (by kernel_rfl) ?_
     refine P_q no34_0 rfl (zac (av := .xs a0) rfl ?_)
     obtain ⟨n12, h⟩ := need_some h
     refine P_q no34_0 rfl (op_index_str (by kernel_rfl) rfl rfl n12.1 n12.2 ?_)
     refine P_q no34_0 rfl (op_convInt (k := .i64) (r := (UInt8.toNat (gi a0 1) : Int)) (by kernel_rfl) rfl (wrap_u8 rfl _) ?_)
     refine P_q no34_0 rfl (op_shl rfl rfl (by decide) rfl ?_)
     refine P_q no34_0 rfl (zac (av := .xs a0) rfl ?_)
     obtain ⟨n13, h⟩ := need_some h
     refine P_q no34_0 rfl (op_index_str (by kernel_rfl) rfl rfl n13.1 n13.2 ?_)
     refine P_q no34_0 rfl (op_convInt (k := .i64) (r := (UInt8.toNat (gi a0 2) : Int)) (by kernel_rfl) rfl (wrap_u8 rfl _) ?_)
     refine P_q no34_0 rfl (op_or rfl rfl rfl ?_)
     refine P_q no34_0 rfl (zac (av := .xi 0) rfl ?_)
     refine P_nil (zaa (k_block ?_))
     refine k_loop2_0 (m_value_span_L2 self_value_span a0 k2) (m_value_span_B2 self_value_span a0 k2) (fun _ _ => rfl) (fun m _ _ => rfl) h (fun (x3_l2 : Int) (x20_l2 : Int) => (AF.put (AF.put (AF.put (AF.put AF0 (some 0) (.xs a0)) (some 3) (.xi x3_l2)) (some 19) (.xi (bOr .i64 (i64 ((UInt8.toNat (gi a0 1) : Int) * 2 ^ min (Int.toNat 8) IntKind.i64.bits)) (UInt8.toNat (gi a0 2) : Int)))) (some 20) (.xi x20_l2))) (fun (x3_l2 : Int) (x20_l2 : Int) => []) ?_ (fun rec2 x3_l2 x20_l2 h => ?_)
     ·exact Sub.of_le (lq rfl (lq rfl (lq rfl (lq rfl lt0))))
     ·unfold m_value_span_B2 at h
      refine zae (zag .free hmixP (by kernel_rfl) ?_)
      refine G_q rfl (op_lss rfl rfl ?_)
      refine G_nil (zaa (zae ?_))
      refine zak (p := x20_l2 < (bOr .i64 (i64 ((UInt8.toNat (gi a0 1) : Int) * 2 ^ min (Int.toNat 8) IntKind.i64.bits)) (UInt8.toNat (gi a0 2) : Int))) rfl (fun hc => ?_) (fun hc => ?_)
      ·replace h := ite_t h hc
       refine k_skip (zaa (zae (k_block (zag .free hmixP (by kernel_rfl) ?_))))
       refine G_q rfl (zac (av := .xi x3_l2) rfl ?_)
       refine G_q rfl (zac (av := .xs a0) rfl ?_)
       refine G_q rfl (zac (av := .xi x3_l2) rfl ?_)
       obtain ⟨n18, h⟩ := need_some h
       refine G_q rfl (op_slice_strd (by kernel_rfl) rfl (bnd_some rfl) bnd_none n18.1 n18.2 (Int.le_refl _) ?_)
       obtain ⟨y19, hy19, h⟩ := bnd1_some h
       refine G_q rfl (zal (hself_value_span _ _ hy19) Tryz.func104 (by kernel_rfl) (LEs.cons (AV.le_eq rfl) LEs.nil) ?_)
       refine G_q rfl (op_add rfl rfl rfl ?_)
       refine G_q rfl (zab (av := .xi (i64 (x3_l2 + y19))) rfl ?_)
       refine G_nil (kB_normal (zaa (zag .free hmixP (by kernel_rfl) ?_)))
       refine G_q rfl (op_add rfl rfl rfl ?_)
       refine G_q rfl (zac (av := .xi (i64 (x20_l2 + 1))) rfl ?_)
       refine G_nil ?_
       refine zaf ⟨_, _, h, ?_⟩
       exact Sub.of_le (lq rfl (lq rfl (lq rfl (lq rfl lt0))))
      ·replace h := ite_f h hc
       refine k_exit (kC_exit (kI_exit (kB_exit ?_)))
       refine zaf ⟨_, h, ?_⟩
       exact Sub.of_le (lq rfl lt0)
    ·refine zae (zag .free hmixP (by kernel_rfl) ?_)
     refine G_q rfl (zac (av := .xi x3_j2) rfl ?_)
     refine G_q rfl (zab (av := .xi x3_j2) rfl ?_)
     refine G_nil (zaa (k_ret ?_))
     obtain rfl := Option.some.inj h
     refine zaj (endN (af' := (AF.put AF0 (some 2) (.xi x3_j2))) (σ' := []) _ rfl ?_ ⟨rfl, rfl⟩)
     exact Sub.of_le (lq rfl lt0)
set_option maxHeartbeats 4000000 in
theorem m_value_span_S_ok : ∀ n : Nat, (∀ (a0 : List UInt8) (r : Int), m_value_span_S n a0 = some r → Pure Tryz.prog 104 [(.exact (.string (bs a0)))] (.exact (.int .i64 r)))
  | 0 => (fun _ _ h => by have h' : (none : Option _) = some _ := h; cases h')
  | n + 1 => by
    have ih := m_value_span_S_ok n
    exact fun a0 r h => m_value_span_F_ok (m_value_span_S n) ih a0 r h
theorem m_value_span_ok (a0 : List UInt8) (r : Int) (h : m_value_span a0 = some r) : Pure Tryz.prog 104 [(.exact (.string (bs a0)))] (.exact (.int .i64 r)) := (m_value_span_S_ok FU) a0 r h
set_option maxHeartbeats 4000000 in
theorem m_slices_Clip_L_api_Value_api_Value_ok (a0 : List (List UInt8)) (r : (List (List UInt8))) (h : m_slices_Clip_L_api_Value_api_Value a0 = some r) : Pure Tryz.prog 42 [(.row 1 zad a0)] (.row 1 zad r) := by
 unfold m_slices_Clip_L_api_Value_api_Value at h
 refine Pure.ofFun (fun_of_awp Tryz.func42 rfl Tryz.ntmps42 (by simp) rfl (res1 rfl) fun E hE => k_end ?_)
 refine zae (zag .free hmixP (by kernel_rfl) ?_)
 refine G_q rfl (zab (av := .exact (.slice none 0 0)) rfl ?_)
 refine G_nil (zaa (zae (zag .free hmixP (by kernel_rfl) ?_)))
 refine G_q rfl (zac (av := .row 1 zad a0) rfl ?_)
 refine G_q rfl (zac (av := .row 1 zad a0) rfl ?_)
 refine G_q rfl (op_len_row (by kernel_rfl) rfl ?_)
 refine G_q rfl (zac (av := .row 1 zad a0) rfl ?_)
 refine G_q rfl (op_len_row (by kernel_rfl) rfl ?_)
 obtain ⟨n1, h⟩ := need_some h
 refine G_q rfl (op_slice_row3 (by kernel_rfl) rfl bnd_none rfl rfl (Int.le_refl 0) n1 (Int.le_refl _) (Int.le_refl _) ?_)
 refine G_q rfl (zab (av := .row 1 zad (List.take (Int.toNat (List.length a0 : Int)) a0)) rfl ?_)
 refine G_nil (zaa (k_ret ?_))
 obtain rfl := Option.some.inj h
 refine zaj (endN (af' := (AF.put AF0 (some 2) (.row 1 zad (List.take (Int.toNat (List.length a0 : Int)) a0)))) (σ' := []) _ rfl ?_ ⟨rfl, rfl⟩)
 exact Sub.of_le (lq rfl lt0)
set_option maxHeartbeats 4000000 in
theorem m_value_parts_ok (a0 : List UInt8) (r : (List (List UInt8))) (h : m_value_parts a0 = some r) : Pure Tryz.prog 89 [(.exact (.string (bs a0)))] (.row 1 zad r) := by
 unfold m_value_parts at h
 refine Pure.ofFun (fun_of_awp Tryz.func89 rfl Tryz.ntmps89 (by simp) rfl (res1 rfl) fun E hE => k_end ?_)
 refine zae (zag .free hmixP (by kernel_rfl) ?_)
 refine G_q rfl (zab (av := .exact (.slice none 0 0)) rfl ?_)
 refine G_nil (zaa (zae (zag .free hmixP (by kernel_rfl) ?_)))
 refine G_q rfl (zab (av := .exact (.slice none 0 0)) rfl ?_)
 refine G_nil (zaa ?_)
 refine k_join1_1 h (fun (x3_j1 : List (List UInt8)) (v3_j1 : Value) => (AF.put AF0 (some 3) (.exact v3_j1))) (fun (x3_j1 : List (List UInt8)) (v3_j1 : Value) => [vecT Tryz.prog 27 1 zad v3_j1 x3_j1]) (fun k1 h => ?_) (fun x3_j1 v3_j1 h => ?_)
 ·refine zae (zag .free hmixP (by kernel_rfl) ?_)
  refine G_q rfl (zab (av := .xi 3) rfl ?_)
  refine G_nil (zaa (k_block ?_))
  refine k_loop2_1 (m_value_parts_L2 a0 k1) (m_value_parts_B2 a0 k1) (fun _ _ => rfl) (fun m _ _ => rfl) h (fun (x3_l2 : List (List UInt8)) (x4_l2 : Int) (v3_l2 : Value) => (AF.put (AF.put (AF.put AF0 (some 0) (.xs a0)) (some 3) (.exact v3_l2)) (some 4) (.xi x4_l2))) (fun (x3_l2 : List (List UInt8)) (x4_l2 : Int) (v3_l2 : Value) => [vecT Tryz.prog 27 1 zad v3_l2 x3_l2]) (.slice none 0 0) ?_ (fun rec2 x3_l2 x4_l2 v3_l2 h => ?_)
  ·refine Sub.trans (SubU.to (SubU.nilT (P := Tryz.prog) (t := 27) (n := 1) (enc := zad))) ?_
   exact Sub.of_le (lq rfl (lq rfl (lq rfl lt0)))
  ·unfold m_value_parts_B2 at h
   refine zae (zae (zag .free hmixP (by kernel_rfl) ?_))
   refine G_q rfl (zac (av := .xi x4_l2) rfl ?_)
   refine G_q rfl (zac (av := .xs a0) rfl ?_)
   refine G_q rfl (op_lenS (by kernel_rfl) rfl ?_)
   refine G_q rfl (op_lss rfl rfl ?_)
   refine G_nil (zaa ?_)
   refine zak (p := x4_l2 < (List.length a0 : Int)) rfl (fun hc => ?_) (fun hc => ?_)
   ·replace h := ite_t h hc
    refine k_skip (zaa (k_block (zae (zag .free hmixP (by kernel_rfl) ?_))))
    refine G_q rfl (zac (av := .xs a0) rfl ?_)
    refine G_q rfl (zac (av := .xi x4_l2) rfl ?_)
    obtain ⟨n28, h⟩ := need_some h
    refine G_q rfl (op_slice_strd (by kernel_rfl) rfl (bnd_some rfl) bnd_none n28.1 n28.2 (Int.le_refl _) ?_)
    obtain ⟨y29, hy29, h⟩ := bnd1_some h
    refine G_q rfl (zal (m_value_span_ok _ _ hy29) Tryz.func104 (by kernel_rfl) (LEs.cons (AV.le_eq rfl) LEs.nil) ?_)
    refine G_q rfl (zab (av := .xi y29) rfl ?_)
    refine G_nil (zaa (zae (zag .free hmixP (by kernel_rfl) ?_)))
    refine G_q rfl (zac (av := .exact v3_l2) rfl ?_)
    refine G_q rfl (zac (av := .xs a0) rfl ?_)
    refine G_q rfl (zac (av := .xi x4_l2) rfl ?_)
    refine G_q rfl (zac (av := .xi x4_l2) rfl ?_)
    refine G_q rfl (zac (av := .xi y29) rfl ?_)
    refine G_q rfl (op_add rfl rfl rfl ?_)
    obtain ⟨n30, h⟩ := need_some h
    refine G_q rfl (op_slice_str (by kernel_rfl) rfl (bnd_some rfl) (bnd_some rfl) n30.1 n30.2.1 n30.2.2 ?_)
    refine G_q rfl (op_litT (n := 1) (enc := zad) [List.take (Int.toNat (i64 (x4_l2 + y29)) - Int.toNat x4_l2) (List.drop (Int.toNat x4_l2) a0)] (CellsAll.cons rfl CellsOf.str CellsAll.nil) rfl (by kernel_rfl) (LEss.cons (LEs.cons (AV.le_eq rfl) LEs.nil) LEss.nil) ?_)
    obtain ⟨n31, h⟩ := need_some h
    refine G_l rfl (op_appT (by kernel_rfl) rfl rfl oc_c_api_Value n31 (fun v32 => ?_))
    refine G_q rfl (zab (av := .exact v32) rfl ?_)
    refine G_nil (zaa (zag .free hmixP (by kernel_rfl) ?_))
    refine G_q rfl (zac (av := .xi x4_l2) rfl ?_)
    refine G_q rfl (zac (av := .xi y29) rfl ?_)
    refine G_q rfl (op_add rfl rfl rfl ?_)
    refine G_q rfl (zab (av := .xi (i64 (x4_l2 + y29))) rfl ?_)
    refine G_nil (kB_normal ?_)
    refine zaf ⟨_, _, v32, h, ?_⟩
    exact Sub.of_le (lq rfl (lq rfl (lq rfl lt0)))
   ·replace h := ite_f h hc
    refine k_exit (kC_exit (kI_exit (kB_exit ?_)))
    refine zaf ⟨_, v3_l2, h, ?_⟩
    exact Sub.of_le (lq rfl lt0)
 ·refine zae (zag .free hmixP (by kernel_rfl) ?_)
  refine G_q rfl (zac (av := .exact v3_j1) rfl ?_)
  refine G_sub rfl (SubU.freezeT2 (s1 := 3) (s2 := 26) rfl rfl len_c_api_Value) ?_
  obtain ⟨y33, hy33, h⟩ := bnd1_some h
  refine G_q rfl (zal (m_slices_Clip_L_api_Value_api_Value_ok _ _ hy33) Tryz.func42 (by kernel_rfl) (LEs.cons (AV.le_eq rfl) LEs.nil) ?_)
  refine G_q rfl (zab (av := .row 1 zad y33) rfl ?_)
  refine G_nil (zaa (k_ret ?_))
  obtain rfl := Option.some.inj h
  refine zaj (endN (af' := (AF.put AF0 (some 2) (.row 1 zad y33))) (σ' := []) _ rfl ?_ ⟨rfl, rfl⟩)
  exact Sub.of_le (lq rfl lt0)
set_option maxHeartbeats 4000000 in
theorem m_slices_CompareFunc_L_api_Value_L_api_Value_api_Value_api_Value_ok (a0 : List (List UInt8)) (a1 : List (List UInt8)) (a2 : (List UInt8) → (List UInt8) → Option Int) (r : Int) (h : m_slices_CompareFunc_L_api_Value_L_api_Value_api_Value_api_Value a0 a1 a2 = some r) : Pure Tryz.prog 127 [(.row 1 zad a0), (.row 1 zad a1), (.fn Tryz.prog (fun (i : (List UInt8) × (List UInt8)) => [.exact (.string (bs i.1)), .exact (.string (bs i.2))]) (fun (i : (List UInt8) × (List UInt8)) => a2 i.1 i.2) (fun (r : Int) => .exact (.int .i64 r)))] (.exact (.int .i64 r)) := by
 unfold m_slices_CompareFunc_L_api_Value_L_api_Value_api_Value_api_Value at h
 refine Pure.ofFun (fun_of_awp Tryz.func127 rfl Tryz.ntmps127 (by simp) rfl (res1 rfl) fun E hE => k_end ?_)
 refine zae (zag .free hmixP (by kernel_rfl) ?_)
 refine G_q rfl (zab (av := .xi 0) rfl ?_)
 refine G_nil (zaa ?_)
 refine k_join0_0 h ((AF.put (AF.put AF0 (some 0) (.row 1 zad a0)) (some 1) (.row 1 zad a1))) ([]) (fun k1 h => ?_) (fun  h => ?_)
 ·refine zae (zag .free hmixP (by kernel_rfl) ?_)
  refine G_q rfl (zac (av := .row 1 zad a0) rfl ?_)
  refine G_q rfl (op_len_row (by kernel_rfl) rfl ?_)
  refine G_q rfl (zac (av := .xi 0) rfl ?_)
  refine G_nil (zaa (k_block ?_))
  refine k_loop1_0 (m_slices_CompareFunc_L_api_Value_L_api_Value_api_Value_api_Value_L2 a0 a1 a2 k1) (m_slices_CompareFunc_L_api_Value_L_api_Value_api_Value_api_Value_B2 a0 a1 a2 k1) (fun _ => rfl) (fun m _ => rfl) h (fun (x13_l2 : Int) => (AF.put (AF.put (AF.put (AF.put (AF.put (AF.put AF0 (some 0) (.row 1 zad a0)) (some 1) (.row 1 zad a1)) (some 2) (.fn Tryz.prog (fun (i : (List UInt8) × (List UInt8)) => [.xs i.1, .xs i.2]) (fun (i : (List UInt8) × (List UInt8)) => a2 i.1 i.2) (fun (r : Int) => .xi r))) (some 11) (.row 1 zad a0)) (some 12) (.xi (List.length a0 : Int))) (some 13) (.xi x13_l2))) (fun (x13_l2 : Int) => []) ?_ (fun rec2 x13_l2 h => ?_)
  ·exact Sub.of_le (lq rfl (lq rfl (lq rfl (lq rfl (lq rfl (lq rfl lt0))))))
  ·unfold m_slices_CompareFunc_L_api_Value_L_api_Value_api_Value_api_Value_B2 at h
   refine zae (zag .free hmixP (by kernel_rfl) ?_)
   refine G_q rfl (op_lss rfl rfl ?_)
   refine G_nil (zaa (zae ?_))
   refine zak (p := x13_l2 < (List.length a0 : Int)) rfl (fun hc => ?_) (fun hc => ?_)
   ·replace h := ite_t h hc
    refine k_skip (zaa (zae (k_block (zae (zag .free hmixP (by kernel_rfl) ?_)))))
    refine G_q rfl (zac (av := .xi x13_l2) rfl ?_)
    obtain ⟨n18, h⟩ := need_some h
    refine G_q rfl (op_index_row (by kernel_rfl) rfl rfl n18.1 n18.2 ?_)
    refine G_q rfl (zaq (a := .xs (gi a0 x13_l2)) (by kernel_rfl) rfl rfl ?_)
    refine G_q rfl (zab (av := .xi x13_l2) rfl ?_)
    refine G_q rfl (zab (av := .xs (gi a0 x13_l2)) rfl ?_)
    refine G_nil (zaa (zae (zae (zag .free hmixP (by kernel_rfl) ?_))))
    refine G_q rfl (zac (av := .xi x13_l2) rfl ?_)
    refine G_q rfl (zac (av := .row 1 zad a1) rfl ?_)
    refine G_q rfl (op_len_row (by kernel_rfl) rfl ?_)
    refine G_q rfl (op_geq rfl rfl ?_)
    refine G_nil (zaa ?_)
    refine zak (p := (List.length a1 : Int) ≤ x13_l2) rfl (fun hc => ?_) (fun hc => ?_)
    ·replace h := ite_t h hc
     refine zae (zag .free hmixP (by kernel_rfl) ?_)
     refine G_q rfl (zab (av := .xi 1) rfl ?_)
     refine G_nil (zaa (k_ret (kC_ret (kB_ret (kC_ret (kI_ret (kB_ret (kI_ret ?_))))))))
     obtain rfl := Option.some.inj h
     refine zaj (endN (af' := (AF.put AF0 (some 6) (.xi 1))) (σ' := []) _ rfl ?_ ⟨rfl, rfl⟩)
     exact Sub.of_le (lq rfl lt0)
    ·replace h := ite_f h hc
     refine k_skip (zaa (zae (zag .free hmixP (by kernel_rfl) ?_)))
     refine G_q rfl (zac (av := .row 1 zad a1) rfl ?_)
     refine G_q rfl (zac (av := .xi x13_l2) rfl ?_)
     obtain ⟨n19, h⟩ := need_some h
     refine G_q rfl (op_index_row (by kernel_rfl) rfl rfl n19.1 n19.2 ?_)
     refine G_q rfl (zaq (a := .xs (gi a1 x13_l2)) (by kernel_rfl) rfl rfl ?_)
     refine G_q rfl (zab (av := .xs (gi a1 x13_l2)) rfl ?_)
     refine G_nil (zaa (zae (zag .free hmixP (by kernel_rfl) ?_)))
     refine G_q rfl (zac (av := .fn Tryz.prog (fun (i : (List UInt8) × (List UInt8)) => [.xs i.1, .xs i.2]) (fun (i : (List UInt8) × (List UInt8)) => a2 i.1 i.2) (fun (r : Int) => .xi r)) rfl ?_)
     refine G_q rfl (zac (av := .xs (gi a0 x13_l2)) rfl ?_)
     refine G_q rfl (zac (av := .xs (gi a1 x13_l2)) rfl ?_)
     obtain ⟨y20, hy20, h⟩ := bnd1_some h
     refine G_q rfl (op_callfn (gi a0 x13_l2, gi a1 x13_l2) rfl hy20 (LEs.cons (AV.le_eq rfl) (LEs.cons (AV.le_eq rfl) LEs.nil)) ?_)
     refine G_q rfl (zab (av := .xi y20) rfl ?_)
     refine G_nil (zaa (zae (zag .free hmixP (by kernel_rfl) ?_)))
     refine G_q rfl (zac (av := .xi y20) rfl ?_)
     refine G_q rfl (op_neq rfl rfl ?_)
     refine G_nil (zaa ?_)
     refine zak (p := ¬ y20 = 0) rfl (fun hc => ?_) (fun hc => ?_)
     ·replace h := ite_t h hc
      refine zae (zag .free hmixP (by kernel_rfl) ?_)
      refine G_q rfl (zac (av := .xi y20) rfl ?_)
      refine G_q rfl (zab (av := .xi y20) rfl ?_)
      refine G_nil (zaa (k_ret (kB_ret (kC_ret (kI_ret (kB_ret (kI_ret ?_)))))))
      obtain rfl := Option.some.inj h
      refine zaj (endN (af' := (AF.put AF0 (some 6) (.xi y20))) (σ' := []) _ rfl ?_ ⟨rfl, rfl⟩)
      exact Sub.of_le (lq rfl lt0)
     ·replace h := ite_f h hc
      refine k_skip (kB_normal (zaa (zag .free hmixP (by kernel_rfl) ?_)))
      refine G_q rfl (op_add rfl rfl rfl ?_)
      refine G_q rfl (zac (av := .xi (i64 (x13_l2 + 1))) rfl ?_)
      refine G_nil ?_
      refine zaf ⟨_, h, ?_⟩
      exact Sub.of_le (lq rfl (lq rfl (lq rfl (lq rfl (lq rfl (lq rfl lt0))))))
   ·replace h := ite_f h hc
    refine k_exit (kC_exit (kI_exit (kB_exit ?_)))
    refine zaf ⟨h, ?_⟩
    exact Sub.of_le (lq rfl (lq rfl lt0))
 ·refine zae (zae (zag .free hmixP (by kernel_rfl) ?_))
  refine G_q rfl (zac (av := .row 1 zad a0) rfl ?_)
  refine G_q rfl (op_len_row (by kernel_rfl) rfl ?_)
  refine G_q rfl (zac (av := .row 1 zad a1) rfl ?_)
  refine G_q rfl (op_len_row (by kernel_rfl) rfl ?_)
  refine G_q rfl (op_lss rfl rfl ?_)
  refine G_nil (zaa ?_)
  refine zak (p := (List.length a0 : Int) < (List.length a1 : Int)) rfl (fun hc => ?_) (fun hc => ?_)
  ·replace h := ite_t h hc
   refine zae (zag .free hmixP (by kernel_rfl) ?_)
   refine G_q rfl (zab (av := .xi (-1)) rfl ?_)
   refine G_nil (zaa (k_ret (kC_ret ?_)))
   obtain rfl := Option.some.inj h
   refine zaj (endN (af' := (AF.put AF0 (some 6) (.xi (-1)))) (σ' := []) _ rfl ?_ ⟨rfl, rfl⟩)
   exact Sub.of_le (lq rfl lt0)
  ·replace h := ite_f h hc
   refine k_skip (zaa (zae (zag .free hmixP (by kernel_rfl) ?_)))
   refine G_q rfl (zab (av := .xi 0) rfl ?_)
   refine G_nil (zaa (k_ret ?_))
   obtain rfl := Option.some.inj h
   refine zaj (endN (af' := (AF.put AF0 (some 6) (.xi 0))) (σ' := []) _ rfl ?_ ⟨rfl, rfl⟩)
   exact Sub.of_le (lq rfl lt0)
set_option maxHeartbeats 4000000 in
theorem m_value_compare_F_ok (self_value_compare : (List UInt8) → (List UInt8) → Option Int) (hself_value_compare : ∀ (a0 : List UInt8) (a1 : List UInt8) (r : Int), self_value_compare a0 a1 = some r → Pure Tryz.prog 111 [(.exact (.string (bs a0))), (.exact (.string (bs a1)))] (.exact (.int .i64 r))) (a0 : List UInt8) (a1 : List UInt8) (r : Int) (h : m_value_compare_F self_value_compare a0 a1 = some r) : Pure Tryz.prog 111 [(.exact (.string (bs a0))), (.exact (.string (bs a1)))] (.exact (.int .i64 r)) := by
 unfold m_value_compare_F at h
 refine Pure.ofFun (fun_of_awp Tryz.func111 rfl Tryz.ntmps111 (by simp) rfl (res1 rfl) fun E hE => k_end ?_)
 refine zae (zag .free hmixP (by kernel_rfl) ?_)
 refine G_q rfl (zab (av := .xi 0) rfl ?_)
 refine G_nil (zaa (zae (zae (zag .free hmixP (by kernel_rfl) ?_))))
 refine G_q rfl (zac (av := .xs a0) rfl ?_)
 refine G_q rfl (zac (av := .xs a1) rfl ?_)
 refine G_q rfl (op_eqlS rfl rfl ?_)
 refine G_nil (zaa ?_)
 refine zak (p := a0 = a1) rfl (fun hc => ?_) (fun hc => ?_)
 ·replace h := ite_t h hc
  refine zae (zag .free hmixP (by kernel_rfl) ?_)
  refine G_q rfl (zab (av := .xi 0) rfl ?_)
  refine G_nil (zaa (k_ret (kC_ret ?_)))
  obtain rfl := Option.some.inj h
  refine zaj (endN (af' := (AF.put AF0 (some 4) (.xi 0))) (σ' := []) _ rfl ?_ ⟨rfl, rfl⟩)
  exact Sub.of_le (lq rfl lt0)
 ·replace h := ite_f h hc
  refine k_skip (zaa (zae (zae ?_)))
  refine k_plan [] [(0, 0), (0, 1), (0, 2), (0, 3), (0, 4), (0, 5)] hmixP (by kernel_rfl) ?_
  refine P_q no34_0 rfl (zac (av := .xs a0) rfl ?_)
  obtain ⟨n1, h⟩ := need_some h
  refine P_q no34_0 rfl (op_index_str (by kernel_rfl) rfl rfl n1.1 n1.2 ?_)
  refine P_q no34_0 rfl (zac (av := .xs a1) rfl ?_)
  obtain ⟨n2, h⟩ := need_some h
  refine P_q no34_0 rfl (op_index_str (by kernel_rfl) rfl rfl n2.1 n2.2 ?_)
  obtain ⟨y3, hy3, h⟩ := bnd1_some h
  refine P_q no34_0 rfl (zal (m_cmp_Compare_byte_ok _ _ _ hy3) Tryz.func125 (by kernel_rfl) (LEs.cons (AV.le_eq rfl) (LEs.cons (AV.le_eq rfl) LEs.nil)) ?_)
  refine P_q no34_0 rfl (zab (av := .xi y3) rfl ?_)
  refine P_nil (zaa (zae (zag .free hmixP (by kernel_rfl) ?_)))
  refine G_q rfl (zac (av := .xi y3) rfl ?_)
  refine G_q rfl (op_neq rfl rfl ?_)
  refine G_nil (zaa ?_)
  refine zak (p := ¬ y3 = 0) rfl (fun hc => ?_) (fun hc => ?_)
  ·replace h := ite_t h hc
   refine zae (zag .free hmixP (by kernel_rfl) ?_)
   refine G_q rfl (zac (av := .xi y3) rfl ?_)
   refine G_q rfl (zab (av := .xi y3) rfl ?_)
   refine G_nil (zaa (k_ret (kC_ret ?_)))
   obtain rfl := Option.some.inj h
   refine zaj (endN (af' := (AF.put AF0 (some 4) (.xi y3))) (σ' := []) _ rfl ?_ ⟨rfl, rfl⟩)
   exact Sub.of_le (lq rfl lt0)
  ·replace h := ite_f h hc
   refine k_skip (zaa (zae (zae (zag .free hmixP (by kernel_rfl) ?_))))
   refine G_q rfl (zac (av := .xs a0) rfl ?_)
   obtain ⟨n4, h⟩ := need_some h
   refine G_q rfl (op_index_str (by kernel_rfl) rfl rfl n4.1 n4.2 ?_)
   refine G_q rfl (op_eqlU (a := (gi a0 0)) (b := 1) rfl rfl ?_)
   refine G_nil (zaa ?_)
   refine zak (p := (gi a0 0) = 1) rfl (fun hc => ?_) (fun hc => ?_)
   ·replace h := ite_t h hc
    refine zae (zag .free hmixP (by kernel_rfl) ?_)
    refine G_q rfl (zac (av := .xs a0) rfl ?_)
    obtain ⟨y5, hy5, h⟩ := bnd1_some h
    refine G_q rfl (zal (m_value_integer_ok _ _ hy5) Tryz.func91 (by kernel_rfl) (LEs.cons (AV.le_eq rfl) LEs.nil) ?_)
    refine G_q rfl (zac (av := .xs a1) rfl ?_)
    obtain ⟨y6, hy6, h⟩ := bnd1_some h
    refine G_q rfl (zal (m_value_integer_ok _ _ hy6) Tryz.func91 (by kernel_rfl) (LEs.cons (AV.le_eq rfl) LEs.nil) ?_)
    obtain ⟨y7, hy7, h⟩ := bnd1_some h
    refine G_q rfl (zal (m_cmp_Compare_int64_ok _ _ _ hy7) Tryz.func126 (by kernel_rfl) (LEs.cons (AV.le_eq rfl) (LEs.cons (AV.le_eq rfl) LEs.nil)) ?_)
    refine G_q rfl (zab (av := .xi y7) rfl ?_)
    refine G_nil (zaa (k_ret (kC_ret ?_)))
    obtain rfl := Option.some.inj h
    refine zaj (endN (af' := (AF.put AF0 (some 4) (.xi y7))) (σ' := []) _ rfl ?_ ⟨rfl, rfl⟩)
    exact Sub.of_le (lq rfl lt0)
   ·replace h := ite_f h hc
    refine k_skip (zaa (zae (zae (zag .free hmixP (by kernel_rfl) ?_))))
    refine G_q rfl (zac (av := .xs a0) rfl ?_)
    obtain ⟨n8, h⟩ := need_some h
    refine G_q rfl (op_index_str (by kernel_rfl) rfl rfl n8.1 n8.2 ?_)
    refine G_q rfl (op_convInt (k := .i64) (r := (UInt8.toNat (gi a0 0) : Int)) (by kernel_rfl) rfl (wrap_u8 rfl _) ?_)
    obtain ⟨y9, hy9, h⟩ := bnd1_some h
    refine G_q rfl (zal (m_value_simple_ok _ _ hy9) Tryz.func88 (by kernel_rfl) (LEs.cons (AV.le_eq rfl) LEs.nil) ?_)
    refine G_nil (zaa ?_)
    refine k_cond_b (c := y9) rfl (fun hc => ?_) (fun hc => ?_)
    ·replace h := ite_t h hc
     refine zae (zag .free hmixP (by kernel_rfl) ?_)
     refine G_q rfl (zac (av := .xs a0) rfl ?_)
     refine G_q rfl (zac (av := .xs a1) rfl ?_)
     obtain ⟨y10, hy10, h⟩ := bnd1_some h
     refine G_q rfl (zal (m_cmp_Compare_api_Value_ok _ _ _ hy10) Tryz.func112 (by kernel_rfl) (LEs.cons (AV.le_eq rfl) (LEs.cons (AV.le_eq rfl) LEs.nil)) ?_)
     refine G_q rfl (zab (av := .xi y10) rfl ?_)
     refine G_nil (zaa (k_ret (kC_ret ?_)))
     obtain rfl := Option.some.inj h
     refine zaj (endN (af' := (AF.put AF0 (some 4) (.xi y10))) (σ' := []) _ rfl ?_ ⟨rfl, rfl⟩)
     exact Sub.of_le (lq rfl lt0)
    ·replace h := ite_f h hc
     refine k_skip (zaa (zae (zag .free hmixP (by kernel_rfl) ?_)))
     refine G_q rfl (zac (av := .xs a0) rfl ?_)
     obtain ⟨y11, hy11, h⟩ := bnd1_some h
     refine G_q rfl (zal (m_value_parts_ok _ _ hy11) Tryz.func89 (by kernel_rfl) (LEs.cons (AV.le_eq rfl) LEs.nil) ?_)
     refine G_q rfl (zac (av := .xs a1) rfl ?_)
     obtain ⟨y12, hy12, h⟩ := bnd1_some h
     refine G_q rfl (zal (m_value_parts_ok _ _ hy12) Tryz.func89 (by kernel_rfl) (LEs.cons (AV.le_eq rfl) LEs.nil) ?_)
     obtain ⟨y13, hy13, h⟩ := bnd1_some h
     refine G_q rfl (zal (m_slices_CompareFunc_L_api_Value_L_api_Value_api_Value_api_Value_ok _ _ _ _ hy13) Tryz.func127 (by kernel_rfl) (LEs.cons (AV.le_eq rfl) (LEs.cons (AV.le_eq rfl) (LEs.cons ((fn_le Tryz.func111 (by kernel_rfl) (fun i r h => hself_value_compare i.1 i.2 r h))) LEs.nil))) ?_)
     refine G_q rfl (zab (av := .xi y13) rfl ?_)
     refine G_nil (zaa (k_ret ?_))
     obtain rfl := Option.some.inj h
     refine zaj (endN (af' := (AF.put AF0 (some 4) (.xi y13))) (σ' := []) _ rfl ?_ ⟨rfl, rfl⟩)
     exact Sub.of_le (lq rfl lt0)
set_option maxHeartbeats 4000000 in
theorem m_value_compare_S_ok : ∀ n : Nat, (∀ (a0 : List UInt8) (a1 : List UInt8) (r : Int), m_value_compare_S n a0 a1 = some r → Pure Tryz.prog 111 [(.exact (.string (bs a0))), (.exact (.string (bs a1)))] (.exact (.int .i64 r)))
  | 0 => (fun _ _ _ h => by have h' : (none : Option _) = some _ := h; cases h')
  | n + 1 => by
    have ih := m_value_compare_S_ok n
    exact fun a0 a1 r h => m_value_compare_F_ok (m_value_compare_S n) ih a0 a1 r h
theorem m_value_compare_ok (a0 : List UInt8) (a1 : List UInt8) (r : Int) (h : m_value_compare a0 a1 = some r) : Pure Tryz.prog 111 [(.exact (.string (bs a0))), (.exact (.string (bs a1)))] (.exact (.int .i64 r)) := (m_value_compare_S_ok FU) a0 a1 r h
set_option maxHeartbeats 4000000 in
theorem m_value_ascending_ok (a0 : List (List UInt8)) (r : Bool) (h : m_value_ascending a0 = some r) : Pure Tryz.prog 113 [(.row 1 zad a0)] (.exact (.bool r)) := by
 unfold m_value_ascending at h
 refine Pure.ofFun (fun_of_awp Tryz.func113 rfl Tryz.ntmps113 (by simp) rfl (res1 rfl) fun E hE => k_end ?_)
 refine zae (zag .free hmixP (by kernel_rfl) ?_)
 refine G_q rfl (zab (av := .xb false) rfl ?_)
 refine G_nil (zaa ?_)
 refine k_join0_0 h (AF0) ([]) (fun k1 h => ?_) (fun  h => ?_)
 ·refine zae (zag .free hmixP (by kernel_rfl) ?_)
  refine G_q rfl (zab (av := .xi 1) rfl ?_)
  refine G_nil (zaa (k_block ?_))
  refine k_loop1_0 (m_value_ascending_L2 a0 k1) (m_value_ascending_B2 a0 k1) (fun _ => rfl) (fun m _ => rfl) h (fun (x3_l2 : Int) => (AF.put (AF.put AF0 (some 0) (.row 1 zad a0)) (some 3) (.xi x3_l2))) (fun (x3_l2 : Int) => []) ?_ (fun rec2 x3_l2 h => ?_)
  ·exact Sub.of_le (lq rfl (lq rfl lt0))
  ·unfold m_value_ascending_B2 at h
   refine zae (zae (zag .free hmixP (by kernel_rfl) ?_))
   refine G_q rfl (zac (av := .xi x3_l2) rfl ?_)
   refine G_q rfl (zac (av := .row 1 zad a0) rfl ?_)
   refine G_q rfl (op_len_row (by kernel_rfl) rfl ?_)
   refine G_q rfl (op_lss rfl rfl ?_)
   refine G_nil (zaa ?_)
   refine zak (p := x3_l2 < (List.length a0 : Int)) rfl (fun hc => ?_) (fun hc => ?_)
   ·replace h := ite_t h hc
    refine k_skip (zaa (zae (k_block (zae ?_))))
    refine k_plan [] [(0, 0), (0, 1), (0, 2), (0, 3), (0, 4), (0, 5), (0, 6), (0, 7), (0, 8), (0, 9), (0, 10)] hmixP (by kernel_rfl) ?_
    refine P_q no34_0 rfl (zac (av := .row 1 zad a0) rfl ?_)
    refine P_q no34_0 rfl (zac (av := .xi x3_l2) rfl ?_)
    refine P_q no34_0 rfl (op_sub rfl rfl rfl ?_)
    obtain ⟨n18, h⟩ := need_some h
    refine P_q no34_0 rfl (op_index_row (by kernel_rfl) rfl rfl n18.1 n18.2 ?_)
    refine P_q no34_0 rfl (zaq (a := .xs (gi a0 (i64 (x3_l2 - 1)))) (by kernel_rfl) rfl rfl ?_)
    refine P_q no34_0 rfl (zac (av := .row 1 zad a0) rfl ?_)
    refine P_q no34_0 rfl (zac (av := .xi x3_l2) rfl ?_)
    obtain ⟨n19, h⟩ := need_some h
    refine P_q no34_0 rfl (op_index_row (by kernel_rfl) rfl rfl n19.1 n19.2 ?_)
    refine P_q no34_0 rfl (zaq (a := .xs (gi a0 x3_l2)) (by kernel_rfl) rfl rfl ?_)
    obtain ⟨y20, hy20, h⟩ := bnd1_some h
    refine P_q no34_0 rfl (zal (m_value_compare_ok _ _ _ hy20) Tryz.func111 (by kernel_rfl) (LEs.cons (AV.le_eq rfl) (LEs.cons (AV.le_eq rfl) LEs.nil)) ?_)
    refine P_q no34_0 rfl (op_geq rfl rfl ?_)
    refine P_nil (zaa ?_)
    refine zak (p := 0 ≤ y20) rfl (fun hc => ?_) (fun hc => ?_)
    ·replace h := ite_t h hc
     refine zae (zag .free hmixP (by kernel_rfl) ?_)
     refine G_q rfl (zab (av := .xb false) rfl ?_)
     refine G_nil (zaa (k_ret (kB_ret (kC_ret (kI_ret (kB_ret (kI_ret ?_)))))))
     obtain rfl := Option.some.inj h
     refine zaj (endN (af' := (AF.put AF0 (some 2) (.xb false))) (σ' := []) _ rfl ?_ ⟨rfl, rfl⟩)
     exact Sub.of_le (lq rfl lt0)
    ·replace h := ite_f h hc
     refine k_skip (kB_normal (zaa (zag .free hmixP (by kernel_rfl) ?_)))
     refine G_q rfl (zac (av := .xi x3_l2) rfl ?_)
     refine G_q rfl (op_add rfl rfl rfl ?_)
     refine G_q rfl (zab (av := .xi (i64 (x3_l2 + 1))) rfl ?_)
     refine G_nil ?_
     refine zaf ⟨_, h, ?_⟩
     exact Sub.of_le (lq rfl (lq rfl lt0))
   ·replace h := ite_f h hc
    refine k_exit (kC_exit (kI_exit (kB_exit ?_)))
    refine zaf ⟨h, ?_⟩
    exact Sub.of_le lt0
 ·refine zae (zag .free hmixP (by kernel_rfl) ?_)
  refine G_q rfl (zab (av := .xb true) rfl ?_)
  refine G_nil (zaa (k_ret ?_))
  obtain rfl := Option.some.inj h
  refine zaj (endN (af' := (AF.put AF0 (some 2) (.xb true))) (σ' := []) _ rfl ?_ ⟨rfl, rfl⟩)
  exact Sub.of_le (lq rfl lt0)
set_option maxHeartbeats 4000000 in
theorem m_value_between_ok (a0 : List UInt8) (a1 : Int) (a2 : Int) (r : Bool) (h : m_value_between a0 a1 a2 = some r) : Pure Tryz.prog 114 [(.exact (.string (bs a0))), (.exact (.int .i64 a1)), (.exact (.int .i64 a2))] (.exact (.bool r)) := by
 unfold m_value_between at h
 refine Pure.ofFun (fun_of_awp Tryz.func114 rfl Tryz.ntmps114 (by simp) rfl (res1 rfl) fun E hE => k_end ?_)
 refine zae (zag .free hmixP (by kernel_rfl) ?_)
 refine G_q rfl (zab (av := .xb false) rfl ?_)
 refine G_nil (zaa ?_)
 refine k_join1_0 h (fun (x6_j1 : Bool) => (AF.put AF0 (some 6) (.xb x6_j1))) (fun (x6_j1 : Bool) => []) (fun k1 h => ?_) (fun x6_j1 h => ?_)
 ·refine zag .free hmixP (by kernel_rfl) ?_
  refine G_q rfl (zac (av := .xs a0) rfl ?_)
  obtain ⟨n5, h⟩ := need_some h
  refine G_q rfl (op_index_str (by kernel_rfl) rfl rfl n5.1 n5.2 ?_)
  refine G_q rfl (op_eqlU (a := (gi a0 0)) (b := 1) rfl rfl ?_)
  refine G_q rfl (zac (av := .xb (decide ((gi a0 0) = 1))) rfl ?_)
  refine G_split (p := (gi a0 0) = 1) 10 rfl (fun hc => ?_) (fun hc => ?_)
  ·replace h := ite_t h hc
   refine Gy_q rfl rfl rfl (zac (av := .xs a0) rfl ?_)
   obtain ⟨y6, hy6, h⟩ := bnd1_some h
   refine Gy_q rfl rfl rfl (zal (m_value_integer_ok _ _ hy6) Tryz.func91 (by kernel_rfl) (LEs.cons (AV.le_eq rfl) LEs.nil) ?_)
   refine Gy_q rfl rfl rfl (zac (av := .xi a1) rfl ?_)
   refine Gy_q rfl rfl rfl (op_geq rfl rfl ?_)
   refine G_q rfl (zao rfl (av := .xb (decide (a1 ≤ y6))) rfl ?_)
   refine G_q rfl (zac (av := .xb (decide (a1 ≤ y6))) rfl ?_)
   refine G_split (p := a1 ≤ y6) 16 rfl (fun hc => ?_) (fun hc => ?_)
   ·replace h := ite_t h hc
    refine Gy_q rfl rfl rfl (zac (av := .xs a0) rfl ?_)
    obtain ⟨y7, hy7, h⟩ := bnd1_some h
    refine Gy_q rfl rfl rfl (zal (m_value_integer_ok _ _ hy7) Tryz.func91 (by kernel_rfl) (LEs.cons (AV.le_eq rfl) LEs.nil) ?_)
    refine Gy_q rfl rfl rfl (zac (av := .xi a2) rfl ?_)
    refine Gy_q rfl rfl rfl (op_leq rfl rfl ?_)
    refine G_q rfl (zao rfl (av := .xb (decide (y7 ≤ a2))) rfl ?_)
    refine G_q rfl (zab (av := .xb (decide (y7 ≤ a2))) rfl ?_)
    refine G_nil ?_
    refine zaf ⟨_, h, ?_⟩
    exact Sub.of_le (lq rfl lt0)
   ·replace h := ite_f h hc
    refine G_n rfl rfl (G_n rfl rfl (G_n rfl rfl (G_n rfl rfl ?_)))
    refine G_q rfl (zai rfl (av := .xb false) rfl ?_)
    refine G_q rfl (zab (av := .xb false) rfl ?_)
    refine G_nil ?_
    refine zaf ⟨_, h, ?_⟩
    exact Sub.of_le (lq rfl lt0)
  ·replace h := ite_f h hc
   refine G_n rfl rfl (G_n rfl rfl (G_n rfl rfl (G_n rfl rfl ?_)))
   refine G_q rfl (zai rfl (av := .xb false) rfl ?_)
   refine G_q rfl (zac (av := .xb false) rfl ?_)
   refine G_n rfl rfl (G_n rfl rfl (G_n rfl rfl (G_n rfl rfl ?_)))
   refine G_q rfl (zai rfl (av := .xb false) rfl ?_)
   refine G_q rfl (zab (av := .xb false) rfl ?_)
   refine G_nil ?_
   refine zaf ⟨_, h, ?_⟩
   exact Sub.of_le (lq rfl lt0)
 ·refine k_ret ?_
  obtain rfl := Option.some.inj h
  refine zaj (endN (af' := (AF.put AF0 (some 6) (.xb x6_j1))) (σ' := []) _ rfl ?_ ⟨rfl, rfl⟩)
  exact Sub.of_le (lq rfl lt0)
set_option maxHeartbeats 4000000 in
theorem m_value_formed_ok (a0 : Int) (a1 : List (List UInt8)) (r : Bool) (h : m_value_formed a0 a1 = some r) : Pure Tryz.prog 105 [(.exact (.int .i64 a0)), (.row 1 zad a1)] (.exact (.bool r)) := by
 unfold m_value_formed at h
 refine Pure.ofFun (fun_of_awp Tryz.func105 rfl Tryz.ntmps105 (by simp) rfl (res1 rfl) fun E hE => k_end ?_)
 refine zae (zag .free hmixP (by kernel_rfl) ?_)
 refine G_q rfl (zab (av := .xb false) rfl ?_)
 refine G_nil (zaa (zae (zag .free hmixP (by kernel_rfl) ?_)))
 refine G_q rfl (zac (av := .row 1 zad a1) rfl ?_)
 refine G_q rfl (op_len_row (by kernel_rfl) rfl ?_)
 refine G_q rfl (zab (av := .xi (List.length a1 : Int)) rfl ?_)
 refine G_nil (zaa ?_)
 refine k_join0_0 h (AF0) ([]) (fun k1 h => ?_) (fun  h => ?_)
 ·refine zae (zag .free hmixP (by kernel_rfl) ?_)
  refine G_q rfl (zac (av := .xi a0) rfl ?_)
  refine G_nil (zaa (k_block (zae (zag .free hmixP (by kernel_rfl) ?_))))
  refine G_q rfl (op_eql rfl rfl ?_)
  refine G_q rfl (zab (av := .xb (decide (a0 = 3))) rfl ?_)
  refine G_nil (zaa ?_)
  refine zak (p := a0 = 3) rfl (fun hc => ?_) (fun hc => ?_)
  ·replace h := ite_t h hc
   refine k_join1_0 h (fun (x4_j43 : Bool) => (AF.put AF0 (some 4) (.xb x4_j43))) (fun (x4_j43 : Bool) => []) (fun k43 h => ?_) (fun x4_j43 h => ?_)
   ·refine zag .free hmixP (by kernel_rfl) ?_
    refine G_q rfl (zac (av := .xi (List.length a1 : Int)) rfl ?_)
    refine G_q rfl (op_geq rfl rfl ?_)
    refine G_q rfl (zac (av := .xb (decide (2 ≤ (List.length a1 : Int)))) rfl ?_)
    refine G_split (p := 2 ≤ (List.length a1 : Int)) 15 rfl (fun hc => ?_) (fun hc => ?_)
    ·replace h := ite_t h hc
     refine Gy_q rfl rfl rfl (zac (av := .xi (List.length a1 : Int)) rfl ?_)
     refine Gy_q rfl rfl rfl (op_leq rfl rfl ?_)
     refine G_q rfl (zao rfl (av := .xb (decide ((List.length a1 : Int) ≤ 8))) rfl ?_)
     refine G_q rfl (zab (av := .xb (decide ((List.length a1 : Int) ≤ 8))) rfl ?_)
     refine G_nil ?_
     refine zaf ⟨_, h, ?_⟩
     exact Sub.of_le (lq rfl lt0)
    ·replace h := ite_f h hc
     refine G_n rfl rfl (G_n rfl rfl ?_)
     refine G_q rfl (zai rfl (av := .xb false) rfl ?_)
     refine G_q rfl (zab (av := .xb false) rfl ?_)
     refine G_nil ?_
     refine zaf ⟨_, h, ?_⟩
     exact Sub.of_le (lq rfl lt0)
   ·refine k_ret (kB_ret (kI_ret ?_))
    obtain rfl := Option.some.inj h
    refine zaj (endN (af' := (AF.put AF0 (some 4) (.xb x4_j43))) (σ' := []) _ rfl ?_ ⟨rfl, rfl⟩)
    exact Sub.of_le (lq rfl lt0)
  ·replace h := ite_f h hc
   refine zae (zag .free hmixP (by kernel_rfl) ?_)
   refine G_q rfl (op_eql rfl rfl ?_)
   refine G_q rfl (zab (av := .xb (decide (a0 = 5))) rfl ?_)
   refine G_nil (zaa ?_)
   refine zak (p := a0 = 5) rfl (fun hc => ?_) (fun hc => ?_)
   ·replace h := ite_t h hc
    refine zae (zag .free hmixP (by kernel_rfl) ?_)
    refine G_q rfl (zac (av := .row 1 zad a1) rfl ?_)
    obtain ⟨y44, hy44, h⟩ := bnd1_some h
    refine G_q rfl (zal (m_value_ascending_ok _ _ hy44) Tryz.func113 (by kernel_rfl) (LEs.cons (AV.le_eq rfl) LEs.nil) ?_)
    refine G_q rfl (zab (av := .xb y44) rfl ?_)
    refine G_nil (zaa (k_ret (kB_ret (kI_ret ?_))))
    obtain rfl := Option.some.inj h
    refine zaj (endN (af' := (AF.put AF0 (some 4) (.xb y44))) (σ' := []) _ rfl ?_ ⟨rfl, rfl⟩)
    exact Sub.of_le (lq rfl lt0)
   ·replace h := ite_f h hc
    refine zae (zag .free hmixP (by kernel_rfl) ?_)
    refine G_q rfl (op_eql rfl rfl ?_)
    refine G_q rfl (zab (av := .xb (decide (a0 = 6))) rfl ?_)
    refine G_nil (zaa ?_)
    refine zak (p := a0 = 6) rfl (fun hc => ?_) (fun hc => ?_)
    ·replace h := ite_t h hc
     refine zae (zag .free hmixP (by kernel_rfl) ?_)
     refine G_q rfl (zab (av := .exact (.slice none 0 0)) rfl ?_)
     refine G_nil (zaa ?_)
     refine k_join1_1 h (fun (x6_j45 : List (List UInt8)) (v6_j45 : Value) => (AF.put (AF.put AF0 (some 5) (.xi (List.length a1 : Int))) (some 6) (.exact v6_j45))) (fun (x6_j45 : List (List UInt8)) (v6_j45 : Value) => [vecT Tryz.prog 27 1 zad v6_j45 x6_j45]) (fun k45 h => ?_) (fun x6_j45 v6_j45 h => ?_)
     ·refine zae (zag .free hmixP (by kernel_rfl) ?_)
      refine G_q rfl (zab (av := .xi 0) rfl ?_)
      refine G_nil (zaa (k_block ?_))
      refine k_loop2_1 (m_value_formed_L4 a1 k45) (m_value_formed_B4 a1 k45) (fun _ _ => rfl) (fun m _ _ => rfl) h (fun (x6_l4 : List (List UInt8)) (x7_l4 : Int) (v6_l4 : Value) => (AF.put (AF.put (AF.put (AF.put AF0 (some 1) (.row 1 zad a1)) (some 5) (.xi (List.length a1 : Int))) (some 6) (.exact v6_l4)) (some 7) (.xi x7_l4))) (fun (x6_l4 : List (List UInt8)) (x7_l4 : Int) (v6_l4 : Value) => [vecT Tryz.prog 27 1 zad v6_l4 x6_l4]) (.slice none 0 0) ?_ (fun rec4 x6_l4 x7_l4 v6_l4 h => ?_)
      ·refine Sub.trans (SubU.to (SubU.nilT (P := Tryz.prog) (t := 27) (n := 1) (enc := zad))) ?_
       exact Sub.of_le (lq rfl (lq rfl (lq rfl (lq rfl lt0))))
      ·unfold m_value_formed_B4 at h
       refine zae (zae (zag .free hmixP (by kernel_rfl) ?_))
       refine G_q rfl (zac (av := .xi x7_l4) rfl ?_)
       refine G_q rfl (zac (av := .xi (List.length a1 : Int)) rfl ?_)
       refine G_q rfl (op_lss rfl rfl ?_)
       refine G_nil (zaa ?_)
       refine zak (p := x7_l4 < (List.length a1 : Int)) rfl (fun hc => ?_) (fun hc => ?_)
       ·replace h := ite_t h hc
        refine k_skip (zaa (zae (k_block (zag .free hmixP (by kernel_rfl) ?_))))
        refine G_q rfl (zac (av := .exact v6_l4) rfl ?_)
        refine G_q rfl (zac (av := .row 1 zad a1) rfl ?_)
        refine G_q rfl (zac (av := .xi x7_l4) rfl ?_)
        obtain ⟨n62, h⟩ := need_some h
        refine G_q rfl (op_index_row (by kernel_rfl) rfl rfl n62.1 n62.2 ?_)
        refine G_q rfl (zaq (a := .xs (gi a1 x7_l4)) (by kernel_rfl) rfl rfl ?_)
        refine G_q rfl (op_litT (n := 1) (enc := zad) [gi a1 x7_l4] (CellsAll.cons rfl CellsOf.str CellsAll.nil) rfl (by kernel_rfl) (LEss.cons (LEs.cons (AV.le_eq rfl) LEs.nil) LEss.nil) ?_)
        obtain ⟨n63, h⟩ := need_some h
        refine G_l rfl (op_appT (by kernel_rfl) rfl rfl oc_c_api_Value n63 (fun v64 => ?_))
        refine G_q rfl (zab (av := .exact v64) rfl ?_)
        refine G_nil (kB_normal (zaa (zag .free hmixP (by kernel_rfl) ?_)))
        refine G_q rfl (zac (av := .xi x7_l4) rfl ?_)
        refine G_q rfl (op_add rfl rfl rfl ?_)
        refine G_q rfl (zab (av := .xi (i64 (x7_l4 + 2))) rfl ?_)
        refine G_nil ?_
        refine zaf ⟨_, _, v64, h, ?_⟩
        exact Sub.of_le (lq rfl (lq rfl (lq rfl (lq rfl lt0))))
       ·replace h := ite_f h hc
        refine k_exit (kC_exit (kI_exit (kB_exit ?_)))
        refine zaf ⟨_, v6_l4, h, ?_⟩
        exact Sub.of_le (lq rfl (lq rfl lt0))
     ·refine k_join1_0 h (fun (x4_j65 : Bool) => (AF.put AF0 (some 4) (.xb x4_j65))) (fun (x4_j65 : Bool) => []) (fun k65 h => ?_) (fun x4_j65 h => ?_)
      ·refine zag .free hmixP (by kernel_rfl) ?_
       refine G_q rfl (zac (av := .xi (List.length a1 : Int)) rfl ?_)
       refine G_q rfl (op_rem rfl rfl (by decide) rfl ?_)
       refine G_q rfl (op_eql rfl rfl ?_)
       refine G_q rfl (zac (av := .xb (decide ((Int.tmod (List.length a1 : Int) 2) = 0))) rfl ?_)
       refine G_split (p := (Int.tmod (List.length a1 : Int) 2) = 0) 40 rfl (fun hc => ?_) (fun hc => ?_)
       ·replace h := ite_t h hc
        refine Gy_q rfl rfl rfl (zac (av := .exact v6_j45) rfl ?_)
        refine G_sub rfl (SubU.freezeT2 (s1 := 6) (s2 := 41) rfl rfl len_c_api_Value) ?_
        obtain ⟨y67, hy67, h⟩ := bnd1_some h
        refine Gy_q rfl rfl rfl (zal (m_value_ascending_ok _ _ hy67) Tryz.func113 (by kernel_rfl) (LEs.cons (AV.le_eq rfl) LEs.nil) ?_)
        refine G_q rfl (zao rfl (av := .xb y67) rfl ?_)
        refine G_q rfl (zab (av := .xb y67) rfl ?_)
        refine G_nil ?_
        refine zaf ⟨_, h, ?_⟩
        exact Sub.of_le (lq rfl lt0)
       ·replace h := ite_f h hc
        refine G_n rfl rfl (G_n rfl rfl ?_)
        refine G_q rfl (zai rfl (av := .xb false) rfl ?_)
        refine G_q rfl (zab (av := .xb false) rfl ?_)
        refine G_nil ?_
        refine zaf ⟨_, h, ?_⟩
        refine Sub.trans (SubU.to SubU.drop) ?_
        exact Sub.of_le (lq rfl lt0)
      ·refine k_ret (kB_ret (kI_ret ?_))
       obtain rfl := Option.some.inj h
       refine zaj (endN (af' := (AF.put AF0 (some 4) (.xb x4_j65))) (σ' := []) _ rfl ?_ ⟨rfl, rfl⟩)
       exact Sub.of_le (lq rfl lt0)
    ·replace h := ite_f h hc
     refine zae (zag .free hmixP (by kernel_rfl) ?_)
     refine G_q rfl (op_eql rfl rfl ?_)
     refine G_q rfl (zab (av := .xb (decide (a0 = 7))) rfl ?_)
     refine G_nil (zaa ?_)
     refine zak (p := a0 = 7) rfl (fun hc => ?_) (fun hc => ?_)
     ·replace h := ite_t h hc
      refine k_join1_0 h (fun (x4_j68 : Bool) => (AF.put AF0 (some 4) (.xb x4_j68))) (fun (x4_j68 : Bool) => []) (fun k68 h => ?_) (fun x4_j68 h => ?_)
      ·refine zag .free hmixP (by kernel_rfl) ?_
       refine G_q rfl (zac (av := .xi (List.length a1 : Int)) rfl ?_)
       refine G_q rfl (op_geq rfl rfl ?_)
       refine G_q rfl (zac (av := .xb (decide (1 ≤ (List.length a1 : Int)))) rfl ?_)
       refine G_split (p := 1 ≤ (List.length a1 : Int)) 48 rfl (fun hc => ?_) (fun hc => ?_)
       ·replace h := ite_t h hc
        refine Gy_q rfl rfl rfl (zac (av := .xi (List.length a1 : Int)) rfl ?_)
        refine Gy_q rfl rfl rfl (op_leq rfl rfl ?_)
        refine G_q rfl (zao rfl (av := .xb (decide ((List.length a1 : Int) ≤ 9))) rfl ?_)
        refine G_q rfl (zac (av := .xb (decide ((List.length a1 : Int) ≤ 9))) rfl ?_)
        refine G_split (p := (List.length a1 : Int) ≤ 9) 52 rfl (fun hc => ?_) (fun hc => ?_)
        ·replace h := ite_t h hc
         refine Gy_q rfl rfl rfl (zac (av := .row 1 zad a1) rfl ?_)
         obtain ⟨n71, h⟩ := need_some h
         refine Gy_q rfl rfl rfl (op_index_row (by kernel_rfl) rfl rfl n71.1 n71.2 ?_)
         refine Gy_q rfl rfl rfl (zaq (a := .xs (gi a1 0)) (by kernel_rfl) rfl rfl ?_)
         obtain ⟨n72, h⟩ := need_some h
         refine Gy_q rfl rfl rfl (op_index_str (by kernel_rfl) rfl rfl n72.1 n72.2 ?_)
         refine Gy_q rfl rfl rfl (op_eqlU (a := (gi (gi a1 0) 0)) (b := 10) rfl rfl ?_)
         refine G_q rfl (zao rfl (av := .xb (decide ((gi (gi a1 0) 0) = 10))) rfl ?_)
         refine G_q rfl (zab (av := .xb (decide ((gi (gi a1 0) 0) = 10))) rfl ?_)
         refine G_nil ?_
         refine zaf ⟨_, h, ?_⟩
         exact Sub.of_le (lq rfl lt0)
        ·replace h := ite_f h hc
         refine G_n rfl rfl (G_n rfl rfl (G_n rfl rfl (G_n rfl rfl (G_n rfl rfl ?_))))
         refine G_q rfl (zai rfl (av := .xb false) rfl ?_)
         refine G_q rfl (zab (av := .xb false) rfl ?_)
         refine G_nil ?_
         refine zaf ⟨_, h, ?_⟩
         exact Sub.of_le (lq rfl lt0)
       ·replace h := ite_f h hc
        refine G_n rfl rfl (G_n rfl rfl ?_)
        refine G_q rfl (zai rfl (av := .xb false) rfl ?_)
        refine G_q rfl (zac (av := .xb false) rfl ?_)
        refine G_n rfl rfl (G_n rfl rfl (G_n rfl rfl (G_n rfl rfl (G_n rfl rfl ?_))))
        refine G_q rfl (zai rfl (av := .xb false) rfl ?_)
        refine G_q rfl (zab (av := .xb false) rfl ?_)
        refine G_nil ?_
        refine zaf ⟨_, h, ?_⟩
        exact Sub.of_le (lq rfl lt0)
      ·refine k_ret (kB_ret (kI_ret ?_))
       obtain rfl := Option.some.inj h
       refine zaj (endN (af' := (AF.put AF0 (some 4) (.xb x4_j68))) (σ' := []) _ rfl ?_ ⟨rfl, rfl⟩)
       exact Sub.of_le (lq rfl lt0)
     ·replace h := ite_f h hc
      refine zae (zag .free hmixP (by kernel_rfl) ?_)
      refine G_q rfl (op_eql rfl rfl ?_)
      refine G_q rfl (zab (av := .xb (decide (a0 = 8))) rfl ?_)
      refine G_nil (zaa ?_)
      refine zak (p := a0 = 8) rfl (fun hc => ?_) (fun hc => ?_)
      ·replace h := ite_t h hc
       refine k_join1_0 h (fun (x4_j73 : Bool) => (AF.put AF0 (some 4) (.xb x4_j73))) (fun (x4_j73 : Bool) => []) (fun k73 h => ?_) (fun x4_j73 h => ?_)
       ·refine zag .free hmixP (by kernel_rfl) ?_
        refine G_q rfl (zac (av := .xi (List.length a1 : Int)) rfl ?_)
        refine G_q rfl (op_geq rfl rfl ?_)
        refine G_q rfl (zac (av := .xb (decide (1 ≤ (List.length a1 : Int)))) rfl ?_)
        refine G_split (p := 1 ≤ (List.length a1 : Int)) 63 rfl (fun hc => ?_) (fun hc => ?_)
        ·replace h := ite_t h hc
         refine Gy_q rfl rfl rfl (zac (av := .xi (List.length a1 : Int)) rfl ?_)
         refine Gy_q rfl rfl rfl (op_leq rfl rfl ?_)
         refine G_q rfl (zao rfl (av := .xb (decide ((List.length a1 : Int) ≤ 33))) rfl ?_)
         refine G_q rfl (zac (av := .xb (decide ((List.length a1 : Int) ≤ 33))) rfl ?_)
         refine G_split (p := (List.length a1 : Int) ≤ 33) 67 rfl (fun hc => ?_) (fun hc => ?_)
         ·replace h := ite_t h hc
          refine Gy_q rfl rfl rfl (zac (av := .row 1 zad a1) rfl ?_)
          obtain ⟨n76, h⟩ := need_some h
          refine Gy_q rfl rfl rfl (op_index_row (by kernel_rfl) rfl rfl n76.1 n76.2 ?_)
          refine Gy_q rfl rfl rfl (zaq (a := .xs (gi a1 0)) (by kernel_rfl) rfl rfl ?_)
          obtain ⟨y77, hy77, h⟩ := bnd1_some h
          refine Gy_q rfl rfl rfl (zal (m_value_between_ok _ _ _ _ hy77) Tryz.func114 (by kernel_rfl) (LEs.cons (AV.le_eq rfl) (LEs.cons (AV.le_eq rfl) (LEs.cons (AV.le_eq rfl) LEs.nil))) ?_)
          refine G_q rfl (zao rfl (av := .xb y77) rfl ?_)
          refine G_q rfl (zab (av := .xb y77) rfl ?_)
          refine G_nil ?_
          refine zaf ⟨_, h, ?_⟩
          exact Sub.of_le (lq rfl lt0)
         ·replace h := ite_f h hc
          refine G_n rfl rfl (G_n rfl rfl (G_n rfl rfl (G_n rfl rfl ?_)))
          refine G_q rfl (zai rfl (av := .xb false) rfl ?_)
          refine G_q rfl (zab (av := .xb false) rfl ?_)
          refine G_nil ?_
          refine zaf ⟨_, h, ?_⟩
          exact Sub.of_le (lq rfl lt0)
        ·replace h := ite_f h hc
         refine G_n rfl rfl (G_n rfl rfl ?_)
         refine G_q rfl (zai rfl (av := .xb false) rfl ?_)
         refine G_q rfl (zac (av := .xb false) rfl ?_)
         refine G_n rfl rfl (G_n rfl rfl (G_n rfl rfl (G_n rfl rfl ?_)))
         refine G_q rfl (zai rfl (av := .xb false) rfl ?_)
         refine G_q rfl (zab (av := .xb false) rfl ?_)
         refine G_nil ?_
         refine zaf ⟨_, h, ?_⟩
         exact Sub.of_le (lq rfl lt0)
       ·refine k_ret (kB_ret (kI_ret ?_))
        obtain rfl := Option.some.inj h
        refine zaj (endN (af' := (AF.put AF0 (some 4) (.xb x4_j73))) (σ' := []) _ rfl ?_ ⟨rfl, rfl⟩)
        exact Sub.of_le (lq rfl lt0)
      ·replace h := ite_f h hc
       refine zae (zag .free hmixP (by kernel_rfl) ?_)
       refine G_q rfl (op_eql rfl rfl ?_)
       refine G_q rfl (zab (av := .xb (decide (a0 = 9))) rfl ?_)
       refine G_nil (zaa ?_)
       refine zak (p := a0 = 9) rfl (fun hc => ?_) (fun hc => ?_)
       ·replace h := ite_t h hc
        refine k_join1_0 h (fun (x4_j78 : Bool) => (AF.put AF0 (some 4) (.xb x4_j78))) (fun (x4_j78 : Bool) => []) (fun k78 h => ?_) (fun x4_j78 h => ?_)
        ·refine zag .free hmixP (by kernel_rfl) ?_
         refine G_q rfl (zac (av := .xi (List.length a1 : Int)) rfl ?_)
         refine G_q rfl (op_geq rfl rfl ?_)
         refine G_q rfl (zac (av := .xb (decide (1 ≤ (List.length a1 : Int)))) rfl ?_)
         refine G_split (p := 1 ≤ (List.length a1 : Int)) 77 rfl (fun hc => ?_) (fun hc => ?_)
         ·replace h := ite_t h hc
          refine Gy_q rfl rfl rfl (zac (av := .row 1 zad a1) rfl ?_)
          obtain ⟨n81, h⟩ := need_some h
          refine Gy_q rfl rfl rfl (op_index_row (by kernel_rfl) rfl rfl n81.1 n81.2 ?_)
          refine Gy_q rfl rfl rfl (zaq (a := .xs (gi a1 0)) (by kernel_rfl) rfl rfl ?_)
          obtain ⟨y82, hy82, h⟩ := bnd1_some h
          refine Gy_q rfl rfl rfl (zal (m_value_between_ok _ _ _ _ hy82) Tryz.func114 (by kernel_rfl) (LEs.cons (AV.le_eq rfl) (LEs.cons (AV.le_eq rfl) (LEs.cons (AV.le_eq rfl) LEs.nil))) ?_)
          refine G_q rfl (zao rfl (av := .xb y82) rfl ?_)
          refine G_q rfl (zab (av := .xb y82) rfl ?_)
          refine G_nil ?_
          refine zaf ⟨_, h, ?_⟩
          exact Sub.of_le (lq rfl lt0)
         ·replace h := ite_f h hc
          refine G_n rfl rfl (G_n rfl rfl (G_n rfl rfl (G_n rfl rfl ?_)))
          refine G_q rfl (zai rfl (av := .xb false) rfl ?_)
          refine G_q rfl (zab (av := .xb false) rfl ?_)
          refine G_nil ?_
          refine zaf ⟨_, h, ?_⟩
          exact Sub.of_le (lq rfl lt0)
        ·refine k_ret (kB_ret (kI_ret ?_))
         obtain rfl := Option.some.inj h
         refine zaj (endN (af' := (AF.put AF0 (some 4) (.xb x4_j78))) (σ' := []) _ rfl ?_ ⟨rfl, rfl⟩)
         exact Sub.of_le (lq rfl lt0)
       ·replace h := ite_f h hc
        refine k_skip (kB_normal ?_)
        refine zaf ⟨h, ?_⟩
        exact Sub.of_le lt0
 ·refine zae (zag .free hmixP (by kernel_rfl) ?_)
  refine G_q rfl (zab (av := .xb true) rfl ?_)
  refine G_nil (zaa (k_ret ?_))
  obtain rfl := Option.some.inj h
  refine zaj (endN (af' := (AF.put AF0 (some 4) (.xb true))) (σ' := []) _ rfl ?_ ⟨rfl, rfl⟩)
  exact Sub.of_le (lq rfl lt0)
set_option maxHeartbeats 4000000 in
theorem m_value_long_ok (self_value_length : (List UInt8) → Int → Option Int) (hself_value_length : ∀ (a0 : List UInt8) (a1 : Int) (r : Int), self_value_length a0 a1 = some r → Pure Tryz.prog 66 [(.exact (.string (bs a0))), (.exact (.int .i64 a1))] (.exact (.int .i64 r))) (a0 : List UInt8) (a1 : Int) (r : Int) (h : m_value_long self_value_length a0 a1 = some r) : Pure Tryz.prog 90 [(.exact (.string (bs a0))), (.exact (.int .i64 a1))] (.exact (.int .i64 r)) := by
 unfold m_value_long at h
 refine Pure.ofFun (fun_of_awp Tryz.func90 rfl Tryz.ntmps90 (by simp) rfl (res1 rfl) fun E hE => k_end ?_)
 refine zae (zag .free hmixP (by kernel_rfl) ?_)
 refine G_q rfl (zab (av := .xi 0) rfl ?_)
 refine G_nil (zaa (zae (zae (zag .free hmixP (by kernel_rfl) ?_))))
 refine G_q rfl (zac (av := .xs a0) rfl ?_)
 refine G_q rfl (op_lenS (by kernel_rfl) rfl ?_)
 refine G_q rfl (op_lss rfl rfl ?_)
 refine G_nil (zaa ?_)
 refine zak (p := (List.length a0 : Int) < 3) rfl (fun hc => ?_) (fun hc => ?_)
 ·replace h := ite_t h hc
  refine zae (zag .free hmixP (by kernel_rfl) ?_)
  refine G_q rfl (zab (av := .xi 0) rfl ?_)
  refine G_nil (zaa (k_ret (kC_ret ?_)))
  obtain rfl := Option.some.inj h
  refine zaj (endN (af' := (AF.put AF0 (some 4) (.xi 0))) (σ' := []) _ rfl ?_ ⟨rfl, rfl⟩)
  exact Sub.of_le (lq rfl lt0)
 ·replace h := ite_f h hc
  refine k_skip (zaa (zae (zag .free hmixP (by kernel_rfl) ?_)))
  refine G_q rfl (zab (av := .xi 3) rfl ?_)
  refine G_nil (zaa (zae (zag .free hmixP (by kernel_rfl) ?_)))
  refine G_q rfl (zab (av := .exact (.slice none 0 0)) rfl ?_)
  refine G_nil (zaa ?_)
  refine k_join2_1 h (fun (x5_j1 : Int) (x6_j1 : List (List UInt8)) (v6_j1 : Value) => (AF.put (AF.put (AF.put AF0 (some 0) (.xs a0)) (some 5) (.xi x5_j1)) (some 6) (.exact v6_j1))) (fun (x5_j1 : Int) (x6_j1 : List (List UInt8)) (v6_j1 : Value) => [vecT Tryz.prog 27 1 zad v6_j1 x6_j1]) (fun k1 h => ?_) (fun x5_j1 x6_j1 v6_j1 h => ?_)
  ·refine zae ?_
   refine k_plan [] [(0, 0), (0, 1), (0, 2), (0, 3), (0, 4), (0, 5), (0, 6), (0, 7), (0, 8)] hmixP (by kernel_rfl) ?_
   refine P_q no34_0 rfl (zac (av := .xs a0) rfl ?_)
   obtain ⟨n20, h⟩ := need_some h
   refine P_q no34_0 rfl (op_index_str (by kernel_rfl) rfl rfl n20.1 n20.2 ?_)
   refine P_q no34_0 rfl (op_convInt (k := .i64) (r := (UInt8.toNat (gi a0 1) : Int)) (by kernel_rfl) rfl (wrap_u8 rfl _) ?_)
   refine P_q no34_0 rfl (op_shl rfl rfl (by decide) rfl ?_)
   refine P_q no34_0 rfl (zac (av := .xs a0) rfl ?_)
   obtain ⟨n21, h⟩ := need_some h
   refine P_q no34_0 rfl (op_index_str (by kernel_rfl) rfl rfl n21.1 n21.2 ?_)
   refine P_q no34_0 rfl (op_convInt (k := .i64) (r := (UInt8.toNat (gi a0 2) : Int)) (by kernel_rfl) rfl (wrap_u8 rfl _) ?_)
   refine P_q no34_0 rfl (op_or rfl rfl rfl ?_)
   refine P_q no34_0 rfl (zac (av := .xi 0) rfl ?_)
   refine P_nil (zaa (k_block ?_))
   refine k_loop3_1 (m_value_long_L2 self_value_length a0 a1 k1) (m_value_long_B2 self_value_length a0 a1 k1) (fun _ _ _ => rfl) (fun m _ _ _ => rfl) h (fun (x5_l2 : Int) (x6_l2 : List (List UInt8)) (x19_l2 : Int) (v6_l2 : Value) => (AF.put (AF.put (AF.put (AF.put (AF.put (AF.put AF0 (some 0) (.xs a0)) (some 1) (.xi a1)) (some 5) (.xi x5_l2)) (some 6) (.exact v6_l2)) (some 18) (.xi (bOr .i64 (i64 ((UInt8.toNat (gi a0 1) : Int) * 2 ^ min (Int.toNat 8) IntKind.i64.bits)) (UInt8.toNat (gi a0 2) : Int)))) (some 19) (.xi x19_l2))) (fun (x5_l2 : Int) (x6_l2 : List (List UInt8)) (x19_l2 : Int) (v6_l2 : Value) => [vecT Tryz.prog 27 1 zad v6_l2 x6_l2]) (.slice none 0 0) ?_ (fun rec2 x5_l2 x6_l2 x19_l2 v6_l2 h => ?_)
   ·refine Sub.trans (SubU.to (SubU.nilT (P := Tryz.prog) (t := 27) (n := 1) (enc := zad))) ?_
    exact Sub.of_le (lq rfl (lq rfl (lq rfl (lq rfl (lq rfl (lq rfl lt0))))))
   ·unfold m_value_long_B2 at h
    refine zae (zag .free hmixP (by kernel_rfl) ?_)
    refine G_q rfl (op_lss rfl rfl ?_)
    refine G_nil (zaa (zae ?_))
    refine zak (p := x19_l2 < (bOr .i64 (i64 ((UInt8.toNat (gi a0 1) : Int) * 2 ^ min (Int.toNat 8) IntKind.i64.bits)) (UInt8.toNat (gi a0 2) : Int))) rfl (fun hc => ?_) (fun hc => ?_)
    ·replace h := ite_t h hc
     refine k_skip (zaa (zae (k_block (zae (zag .free hmixP (by kernel_rfl) ?_)))))
     refine G_q rfl (zac (av := .xs a0) rfl ?_)
     refine G_q rfl (zac (av := .xi x5_l2) rfl ?_)
     obtain ⟨n32, h⟩ := need_some h
     refine G_q rfl (op_slice_strd (by kernel_rfl) rfl (bnd_some rfl) bnd_none n32.1 n32.2 (Int.le_refl _) ?_)
     refine G_q rfl (zac (av := .xi a1) rfl ?_)
     refine G_q rfl (op_add rfl rfl rfl ?_)
     obtain ⟨y33, hy33, h⟩ := bnd1_some h
     refine G_q rfl (zal (hself_value_length _ _ _ hy33) Tryz.func66 (by kernel_rfl) (LEs.cons (AV.le_eq rfl) (LEs.cons (AV.le_eq rfl) LEs.nil)) ?_)
     refine G_q rfl (zab (av := .xi y33) rfl ?_)
     refine G_nil (zaa (zae (zae (zag .free hmixP (by kernel_rfl) ?_))))
     refine G_q rfl (zac (av := .xi y33) rfl ?_)
     refine G_q rfl (op_eql rfl rfl ?_)
     refine G_nil (zaa ?_)
     refine zak (p := y33 = 0) rfl (fun hc => ?_) (fun hc => ?_)
     ·replace h := ite_t h hc
      refine zae (zag .free hmixP (by kernel_rfl) ?_)
      refine G_q rfl (zab (av := .xi 0) rfl ?_)
      refine G_nil (zaa (k_ret (kC_ret (kB_ret (kC_ret (kI_ret (kB_ret (kI_ret ?_))))))))
      obtain rfl := Option.some.inj h
      refine zaj (endN (af' := (AF.put AF0 (some 4) (.xi 0))) (σ' := []) _ rfl ?_ ⟨rfl, rfl⟩)
      refine Sub.trans (SubU.to SubU.drop) ?_
      exact Sub.of_le (lq rfl lt0)
     ·replace h := ite_f h hc
      refine k_skip (zaa (zae (zag .free hmixP (by kernel_rfl) ?_)))
      refine G_q rfl (zac (av := .exact v6_l2) rfl ?_)
      refine G_q rfl (zac (av := .xs a0) rfl ?_)
      refine G_q rfl (zac (av := .xi x5_l2) rfl ?_)
      refine G_q rfl (zac (av := .xi x5_l2) rfl ?_)
      refine G_q rfl (zac (av := .xi y33) rfl ?_)
      refine G_q rfl (op_add rfl rfl rfl ?_)
      obtain ⟨n34, h⟩ := need_some h
      refine G_q rfl (op_slice_str (by kernel_rfl) rfl (bnd_some rfl) (bnd_some rfl) n34.1 n34.2.1 n34.2.2 ?_)
      refine G_q rfl (op_litT (n := 1) (enc := zad) [List.take (Int.toNat (i64 (x5_l2 + y33)) - Int.toNat x5_l2) (List.drop (Int.toNat x5_l2) a0)] (CellsAll.cons rfl CellsOf.str CellsAll.nil) rfl (by kernel_rfl) (LEss.cons (LEs.cons (AV.le_eq rfl) LEs.nil) LEss.nil) ?_)
      obtain ⟨n35, h⟩ := need_some h
      refine G_l rfl (op_appT (by kernel_rfl) rfl rfl oc_c_api_Value n35 (fun v36 => ?_))
      refine G_q rfl (zab (av := .exact v36) rfl ?_)
      refine G_nil (zaa (zag .free hmixP (by kernel_rfl) ?_))
      refine G_q rfl (zac (av := .xi x5_l2) rfl ?_)
      refine G_q rfl (zac (av := .xi y33) rfl ?_)
      refine G_q rfl (op_add rfl rfl rfl ?_)
      refine G_q rfl (zab (av := .xi (i64 (x5_l2 + y33))) rfl ?_)
      refine G_nil (kB_normal (zaa (zag .free hmixP (by kernel_rfl) ?_)))
      refine G_q rfl (op_add rfl rfl rfl ?_)
      refine G_q rfl (zac (av := .xi (i64 (x19_l2 + 1))) rfl ?_)
      refine G_nil ?_
      refine zaf ⟨_, _, _, v36, h, ?_⟩
      exact Sub.of_le (lq rfl (lq rfl (lq rfl (lq rfl (lq rfl (lq rfl lt0))))))
    ·replace h := ite_f h hc
     refine k_exit (kC_exit (kI_exit (kB_exit ?_)))
     refine zaf ⟨_, _, v6_l2, h, ?_⟩
     exact Sub.of_le (lq rfl (lq rfl (lq rfl lt0)))
  ·refine zae (zae (zag .free hmixP (by kernel_rfl) ?_))
   refine G_q rfl (zac (av := .xs a0) rfl ?_)
   obtain ⟨n37, h⟩ := need_some h
   refine G_q rfl (op_index_str (by kernel_rfl) rfl rfl n37.1 n37.2 ?_)
   refine G_q rfl (op_convInt (k := .i64) (r := (UInt8.toNat (gi a0 0) : Int)) (by kernel_rfl) rfl (wrap_u8 rfl _) ?_)
   refine G_q rfl (zac (av := .exact v6_j1) rfl ?_)
   refine G_sub rfl (SubU.freezeT2 (s1 := 6) (s2 := 45) rfl rfl len_c_api_Value) ?_
   obtain ⟨y38, hy38, h⟩ := bnd1_some h
   refine G_q rfl (zal (m_value_formed_ok _ _ _ hy38) Tryz.func105 (by kernel_rfl) (LEs.cons (AV.le_eq rfl) (LEs.cons (AV.le_eq rfl) LEs.nil)) ?_)
   refine G_q rfl (op_not rfl ?_)
   refine G_nil (zaa ?_)
   refine k_cond_b (c := !y38) rfl (fun hc => ?_) (fun hc => ?_)
   ·replace h := ite_t h hc
    refine zae (zag .free hmixP (by kernel_rfl) ?_)
    refine G_q rfl (zab (av := .xi 0) rfl ?_)
    refine G_nil (zaa (k_ret (kC_ret ?_)))
    obtain rfl := Option.some.inj h
    refine zaj (endN (af' := (AF.put AF0 (some 4) (.xi 0))) (σ' := []) _ rfl ?_ ⟨rfl, rfl⟩)
    exact Sub.of_le (lq rfl lt0)
   ·replace h := ite_f h hc
    refine k_skip (zaa (zae (zag .free hmixP (by kernel_rfl) ?_)))
    refine G_q rfl (zac (av := .xi x5_j1) rfl ?_)
    refine G_q rfl (zab (av := .xi x5_j1) rfl ?_)
    refine G_nil (zaa (k_ret ?_))
    obtain rfl := Option.some.inj h
    refine zaj (endN (af' := (AF.put AF0 (some 4) (.xi x5_j1))) (σ' := []) _ rfl ?_ ⟨rfl, rfl⟩)
    exact Sub.of_le (lq rfl lt0)
end Go.Proofs.YtpfdeahcjlfijaaGreat
/- The functions compute their models, by program. -/
namespace Go.Proofs.YtpfdeahcjlfijaaGreat
open Go.RowKit
attribute [local irreducible] AV.exact AV.top AV.row AV.ptr AV.agg AV.tup AV.eptr AV.fn AV.nilq AV.nilqn opA opB opM opR Quiet Loud Reads wpG awp den Sub SubU Pure Fun vecI vecT boxI CellsAll CellsOf OneC LEs LEss
set_option maxRecDepth 100000

set_option maxHeartbeats 4000000 in
theorem m_value_length_F_ok (self_value_length : (List UInt8) → Int → Option Int) (hself_value_length : ∀ (a0 : List UInt8) (a1 : Int) (r : Int), self_value_length a0 a1 = some r → Pure Tryz.prog 66 [(.exact (.string (bs a0))), (.exact (.int .i64 a1))] (.exact (.int .i64 r))) (a0 : List UInt8) (a1 : Int) (r : Int) (h : m_value_length_F self_value_length a0 a1 = some r) : Pure Tryz.prog 66 [(.exact (.string (bs a0))), (.exact (.int .i64 a1))] (.exact (.int .i64 r)) := by
 unfold m_value_length_F at h
 refine Pure.ofFun (fun_of_awp Tryz.func66 rfl Tryz.ntmps66 (by simp) rfl (res1 rfl) fun E hE => k_end ?_)
 refine zae (zag .free hmixP (by kernel_rfl) ?_)
 refine G_q rfl (zab (av := .xi 0) rfl ?_)
 refine G_nil (zaa (zae ?_))
 refine k_join1_0 h (fun (x11_j3 : Bool) => (AF.put (AF.put (AF.put AF0 (some 0) (.xs a0)) (some 1) (.xi a1)) (some 11) (.xb x11_j3))) (fun (x11_j3 : Bool) => []) (fun k3 h => ?_) (fun x11_j3 h => ?_)
 ·refine zag .free hmixP (by kernel_rfl) ?_
  refine G_q rfl (zac (av := .xs a0) rfl ?_)
  refine G_q rfl (op_eqlS rfl rfl ?_)
  refine G_q rfl (zac (av := .xb (decide (a0 = ([] : List UInt8)))) rfl ?_)
  refine G_split (p := a0 = ([] : List UInt8)) 8 rfl (fun hc => ?_) (fun hc => ?_)
  ·replace h := ite_t h hc
   refine G_n rfl rfl (G_n rfl rfl ?_)
   refine G_q rfl (zao rfl (av := .xb true) rfl ?_)
   refine G_nil ?_
   refine zaf ⟨_, h, ?_⟩
   exact Sub.of_le (lq rfl (lq rfl (lq rfl lt0)))
  ·replace h := ite_f h hc
   refine Gy_q rfl rfl rfl (zac (av := .xi a1) rfl ?_)
   refine Gy_q rfl rfl rfl (op_gtr rfl rfl ?_)
   refine G_q rfl (zai rfl (av := .xb (decide (32 < a1))) rfl ?_)
   refine G_nil ?_
   refine zaf ⟨_, h, ?_⟩
   exact Sub.of_le (lq rfl (lq rfl (lq rfl lt0)))
 ·refine k_cond_b (c := x11_j3) rfl (fun hc => ?_) (fun hc => ?_)
  ·replace h := ite_t h hc
   refine zae (zag .free hmixP (by kernel_rfl) ?_)
   refine G_q rfl (zab (av := .xi 0) rfl ?_)
   refine G_nil (zaa (k_ret (kC_ret ?_)))
   obtain rfl := Option.some.inj h
   refine zaj (endN (af' := (AF.put AF0 (some 4) (.xi 0))) (σ' := []) _ rfl ?_ ⟨rfl, rfl⟩)
   exact Sub.of_le (lq rfl lt0)
  ·replace h := ite_f h hc
   refine k_skip (zaa (zae (zag .free hmixP (by kernel_rfl) ?_)))
   refine G_q rfl (zab (av := .xi 0) rfl ?_)
   refine G_nil (zaa ?_)
   refine k_join1_0 h (fun (x5_j4 : Int) => (AF.put (AF.put AF0 (some 0) (.xs a0)) (some 5) (.xi x5_j4))) (fun (x5_j4 : Int) => []) (fun k4 h => ?_) (fun x5_j4 h => ?_)
   ·refine zae (zag .free hmixP (by kernel_rfl) ?_)
    refine G_q rfl (zac (av := .xs a0) rfl ?_)
    obtain ⟨n15, h⟩ := need_some h
    refine G_q rfl (op_index_str (by kernel_rfl) rfl rfl n15.1 n15.2 ?_)
    refine G_nil (zaa (k_block (zae (zag .free hmixP (by kernel_rfl) ?_))))
    refine G_q rfl (op_eqlU (a := (gi a0 0)) (b := 1) rfl rfl ?_)
    refine G_q rfl (zab (av := .xb (decide ((gi a0 0) = 1))) rfl ?_)
    refine G_nil (zaa ?_)
    refine zak (p := (gi a0 0) = 1) rfl (fun hc => ?_) (fun hc => ?_)
    ·replace h := ite_t h hc
     refine zag .free hmixP (by kernel_rfl) ?_
     refine G_q rfl (zab (av := .xi 9) rfl ?_)
     refine G_nil (kB_normal ?_)
     refine zaf ⟨_, h, ?_⟩
     exact Sub.of_le (lq rfl (lq rfl lt0))
    ·replace h := ite_f h hc
     refine zae (zag .free hmixP (by kernel_rfl) ?_)
     refine G_q rfl (op_eqlU (a := (gi a0 0)) (b := 2) rfl rfl ?_)
     refine G_q rfl (zab (av := .xb (decide ((gi a0 0) = 2))) rfl ?_)
     refine G_nil (zaa ?_)
     refine zak (p := (gi a0 0) = 2) rfl (fun hc => ?_) (fun hc => ?_)
     ·replace h := ite_t h hc
      refine zae ?_
      refine k_join1_0 h (fun (x25_j20 : Bool) => (AF.put (AF.put AF0 (some 0) (.xs a0)) (some 25) (.xb x25_j20))) (fun (x25_j20 : Bool) => []) (fun k20 h => ?_) (fun x25_j20 h => ?_)
      ·refine zag .free hmixP (by kernel_rfl) ?_
       refine G_q rfl (zac (av := .xs a0) rfl ?_)
       refine G_q rfl (op_lenS (by kernel_rfl) rfl ?_)
       refine G_q rfl (op_lss rfl rfl ?_)
       refine G_q rfl (zac (av := .xb (decide ((List.length a0 : Int) < 2))) rfl ?_)
       refine G_split (p := (List.length a0 : Int) < 2) 21 rfl (fun hc => ?_) (fun hc => ?_)
       ·replace h := ite_t h hc
        refine G_n rfl rfl (G_n rfl rfl (G_n rfl rfl ?_))
        refine G_q rfl (zao rfl (av := .xb true) rfl ?_)
        refine G_nil ?_
        refine zaf ⟨_, h, ?_⟩
        exact Sub.of_le (lq rfl (lq rfl lt0))
       ·replace h := ite_f h hc
        refine Gy_q rfl rfl rfl (zac (av := .xs a0) rfl ?_)
        obtain ⟨n22, h⟩ := need_some h
        refine Gy_q rfl rfl rfl (op_index_str (by kernel_rfl) rfl rfl n22.1 n22.2 ?_)
        refine Gy_q rfl rfl rfl (op_gtrU (a := (gi a0 1)) (b := 1) rfl rfl ?_)
        refine G_q rfl (zai rfl (av := .xb (decide (1 < (gi a0 1)))) rfl ?_)
        refine G_nil ?_
        refine zaf ⟨_, h, ?_⟩
        exact Sub.of_le (lq rfl (lq rfl lt0))
      ·refine k_cond_b (c := x25_j20) rfl (fun hc => ?_) (fun hc => ?_)
       ·replace h := ite_t h hc
        refine zae (zag .free hmixP (by kernel_rfl) ?_)
        refine G_q rfl (zab (av := .xi 0) rfl ?_)
        refine G_nil (zaa (k_ret (kC_ret (kB_ret (kI_ret ?_)))))
        obtain rfl := Option.some.inj h
        refine zaj (endN (af' := (AF.put AF0 (some 4) (.xi 0))) (σ' := []) _ rfl ?_ ⟨rfl, rfl⟩)
        exact Sub.of_le (lq rfl lt0)
       ·replace h := ite_f h hc
        refine k_skip (zaa (zag .free hmixP (by kernel_rfl) ?_))
        refine G_q rfl (zab (av := .xi 2) rfl ?_)
        refine G_nil (kB_normal ?_)
        refine zaf ⟨_, h, ?_⟩
        exact Sub.of_le (lq rfl (lq rfl lt0))
     ·replace h := ite_f h hc
      refine zae (zag .free hmixP (by kernel_rfl) ?_)
      refine G_q rfl (op_eqlU (a := (gi a0 0)) (b := 10) rfl rfl ?_)
      refine G_q rfl (zab (av := .xb (decide ((gi a0 0) = 10))) rfl ?_)
      refine G_nil (zaa ?_)
      refine zak (p := (gi a0 0) = 10) rfl (fun hc => ?_) (fun hc => ?_)
      ·replace h := ite_t h hc
       refine zag .free hmixP (by kernel_rfl) ?_
       refine G_q rfl (zab (av := .xi 3) rfl ?_)
       refine G_nil (kB_normal ?_)
       refine zaf ⟨_, h, ?_⟩
       exact Sub.of_le (lq rfl (lq rfl lt0))
      ·replace h := ite_f h hc
       refine k_join1_0 h (fun (x28_j23 : Bool) => (AF.put (AF.put (AF.put (AF.put AF0 (some 0) (.xs a0)) (some 1) (.xi a1)) (some 5) (.xi 0)) (some 28) (.xb x28_j23))) (fun (x28_j23 : Bool) => []) (fun k23 h => ?_) (fun x28_j23 h => ?_)
       ·refine zae (zag .free hmixP (by kernel_rfl) ?_)
        refine G_q rfl (op_eqlU (a := (gi a0 0)) (b := 3) rfl rfl ?_)
        refine G_q rfl (zab (av := .xb (decide ((gi a0 0) = 3))) rfl ?_)
        refine G_nil (zaa ?_)
        refine zak (p := (gi a0 0) = 3) rfl (fun hc => ?_) (fun hc => ?_)
        ·replace h := ite_t h hc
         refine k_skip ?_
         refine zaf ⟨_, h, ?_⟩
         exact Sub.of_le (lq rfl (lq rfl (lq rfl (lq rfl lt0))))
        ·replace h := ite_f h hc
         refine zae (zag .free hmixP (by kernel_rfl) ?_)
         refine G_q rfl (op_eqlU (a := (gi a0 0)) (b := 4) rfl rfl ?_)
         refine G_q rfl (zab (av := .xb (decide ((gi a0 0) = 4))) rfl ?_)
         refine G_nil (zaa ?_)
         refine zak (p := (gi a0 0) = 4) rfl (fun hc => ?_) (fun hc => ?_)
         ·replace h := ite_t h hc
          refine k_skip ?_
          refine zaf ⟨_, h, ?_⟩
          exact Sub.of_le (lq rfl (lq rfl (lq rfl (lq rfl lt0))))
         ·replace h := ite_f h hc
          refine zae (zag .free hmixP (by kernel_rfl) ?_)
          refine G_q rfl (op_eqlU (a := (gi a0 0)) (b := 5) rfl rfl ?_)
          refine G_q rfl (zab (av := .xb (decide ((gi a0 0) = 5))) rfl ?_)
          refine G_nil (zaa ?_)
          refine zak (p := (gi a0 0) = 5) rfl (fun hc => ?_) (fun hc => ?_)
          ·replace h := ite_t h hc
           refine k_skip ?_
           refine zaf ⟨_, h, ?_⟩
           exact Sub.of_le (lq rfl (lq rfl (lq rfl (lq rfl lt0))))
          ·replace h := ite_f h hc
           refine zae (zag .free hmixP (by kernel_rfl) ?_)
           refine G_q rfl (op_eqlU (a := (gi a0 0)) (b := 6) rfl rfl ?_)
           refine G_q rfl (zab (av := .xb (decide ((gi a0 0) = 6))) rfl ?_)
           refine G_nil (zaa ?_)
           refine zak (p := (gi a0 0) = 6) rfl (fun hc => ?_) (fun hc => ?_)
           ·replace h := ite_t h hc
            refine k_skip ?_
            refine zaf ⟨_, h, ?_⟩
            exact Sub.of_le (lq rfl (lq rfl (lq rfl (lq rfl lt0))))
           ·replace h := ite_f h hc
            refine zae (zag .free hmixP (by kernel_rfl) ?_)
            refine G_q rfl (op_eqlU (a := (gi a0 0)) (b := 7) rfl rfl ?_)
            refine G_q rfl (zab (av := .xb (decide ((gi a0 0) = 7))) rfl ?_)
            refine G_nil (zaa ?_)
            refine zak (p := (gi a0 0) = 7) rfl (fun hc => ?_) (fun hc => ?_)
            ·replace h := ite_t h hc
             refine k_skip ?_
             refine zaf ⟨_, h, ?_⟩
             exact Sub.of_le (lq rfl (lq rfl (lq rfl (lq rfl lt0))))
            ·replace h := ite_f h hc
             refine zae (zag .free hmixP (by kernel_rfl) ?_)
             refine G_q rfl (op_eqlU (a := (gi a0 0)) (b := 8) rfl rfl ?_)
             refine G_q rfl (zab (av := .xb (decide ((gi a0 0) = 8))) rfl ?_)
             refine G_nil (zaa ?_)
             refine zak (p := (gi a0 0) = 8) rfl (fun hc => ?_) (fun hc => ?_)
             ·replace h := ite_t h hc
              refine k_skip ?_
              refine zaf ⟨_, h, ?_⟩
              exact Sub.of_le (lq rfl (lq rfl (lq rfl (lq rfl lt0))))
             ·replace h := ite_f h hc
              refine zag .free hmixP (by kernel_rfl) ?_
              refine G_q rfl (op_eqlU (a := (gi a0 0)) (b := 9) rfl rfl ?_)
              refine G_q rfl (zab (av := .xb (decide ((gi a0 0) = 9))) rfl ?_)
              refine G_nil ?_
              refine zaf ⟨_, h, ?_⟩
              exact Sub.of_le (lq rfl (lq rfl (lq rfl (lq rfl lt0))))
       ·refine k_cond_b (c := x28_j23) rfl (fun hc => ?_) (fun hc => ?_)
        ·replace h := ite_t h hc
         refine zae (zag .free hmixP (by kernel_rfl) ?_)
         refine G_q rfl (zac (av := .xs a0) rfl ?_)
         refine G_q rfl (zac (av := .xi a1) rfl ?_)
         obtain ⟨y24, hy24, h⟩ := bnd1_some h
         refine G_q rfl (zal (m_value_long_ok self_value_length hself_value_length _ _ _ hy24) Tryz.func90 (by kernel_rfl) (LEs.cons (AV.le_eq rfl) (LEs.cons (AV.le_eq rfl) LEs.nil)) ?_)
         refine G_q rfl (zab (av := .xi y24) rfl ?_)
         refine G_nil (zaa (k_ret (kB_ret (kI_ret ?_))))
         obtain rfl := Option.some.inj h
         refine zaj (endN (af' := (AF.put AF0 (some 4) (.xi y24))) (σ' := []) _ rfl ?_ ⟨rfl, rfl⟩)
         exact Sub.of_le (lq rfl lt0)
        ·replace h := ite_f h hc
         refine k_skip (kB_normal ?_)
         refine zaf ⟨_, h, ?_⟩
         exact Sub.of_le (lq rfl (lq rfl lt0))
   ·refine zae (zae (zag .free hmixP (by kernel_rfl) ?_))
    refine G_q rfl (zac (av := .xi x5_j4) rfl ?_)
    refine G_q rfl (zac (av := .xs a0) rfl ?_)
    refine G_q rfl (op_lenS (by kernel_rfl) rfl ?_)
    refine G_q rfl (op_gtr rfl rfl ?_)
    refine G_nil (zaa ?_)
    refine zak (p := (List.length a0 : Int) < x5_j4) rfl (fun hc => ?_) (fun hc => ?_)
    ·replace h := ite_t h hc
     refine zae (zag .free hmixP (by kernel_rfl) ?_)
     refine G_q rfl (zab (av := .xi 0) rfl ?_)
     refine G_nil (zaa (k_ret (kC_ret ?_)))
     obtain rfl := Option.some.inj h
     refine zaj (endN (af' := (AF.put AF0 (some 4) (.xi 0))) (σ' := []) _ rfl ?_ ⟨rfl, rfl⟩)
     exact Sub.of_le (lq rfl lt0)
    ·replace h := ite_f h hc
     refine k_skip (zaa (zae (zag .free hmixP (by kernel_rfl) ?_)))
     refine G_q rfl (zac (av := .xi x5_j4) rfl ?_)
     refine G_q rfl (zab (av := .xi x5_j4) rfl ?_)
     refine G_nil (zaa (k_ret ?_))
     obtain rfl := Option.some.inj h
     refine zaj (endN (af' := (AF.put AF0 (some 4) (.xi x5_j4))) (σ' := []) _ rfl ?_ ⟨rfl, rfl⟩)
     exact Sub.of_le (lq rfl lt0)
set_option maxHeartbeats 4000000 in
theorem m_value_length_S_ok : ∀ n : Nat, (∀ (a0 : List UInt8) (a1 : Int) (r : Int), m_value_length_S n a0 a1 = some r → Pure Tryz.prog 66 [(.exact (.string (bs a0))), (.exact (.int .i64 a1))] (.exact (.int .i64 r)))
  | 0 => (fun _ _ _ h => by have h' : (none : Option _) = some _ := h; cases h')
  | n + 1 => by
    have ih := m_value_length_S_ok n
    exact fun a0 a1 r h => m_value_length_F_ok (m_value_length_S n) ih a0 a1 r h
theorem m_value_length_ok (a0 : List UInt8) (a1 : Int) (r : Int) (h : m_value_length a0 a1 = some r) : Pure Tryz.prog 66 [(.exact (.string (bs a0))), (.exact (.int .i64 a1))] (.exact (.int .i64 r)) := (m_value_length_S_ok FU) a0 a1 r h
set_option maxHeartbeats 4000000 in
theorem m_value_Valid_ok (a0 : List UInt8) (r : Bool) (h : m_value_Valid a0 = some r) : Pure Tryz.prog 38 [(.exact (.string (bs a0)))] (.exact (.bool r)) := by
 unfold m_value_Valid at h
 refine Pure.ofFun (fun_of_awp Tryz.func38 rfl Tryz.ntmps38 (by simp) rfl (res1 rfl) fun E hE => k_end ?_)
 refine zae (zag .free hmixP (by kernel_rfl) ?_)
 refine G_q rfl (zab (av := .xb false) rfl ?_)
 refine G_nil (zaa ?_)
 refine k_join1_0 h (fun (x2_j1 : Bool) => (AF.put AF0 (some 2) (.xb x2_j1))) (fun (x2_j1 : Bool) => []) (fun k1 h => ?_) (fun x2_j1 h => ?_)
 ·refine zag .free hmixP (by kernel_rfl) ?_
  refine G_q rfl (zac (av := .xs a0) rfl ?_)
  refine G_q rfl (op_neqS rfl rfl ?_)
  refine G_q rfl (zac (av := .xb (decide (¬ a0 = ([] : List UInt8)))) rfl ?_)
  refine G_split (p := ¬ a0 = ([] : List UInt8)) 5 rfl (fun hc => ?_) (fun hc => ?_)
  ·replace h := ite_t h hc
   refine Gy_q rfl rfl rfl (zac (av := .xs a0) rfl ?_)
   refine Gy_q rfl rfl rfl (op_lenS (by kernel_rfl) rfl ?_)
   refine Gy_q rfl rfl rfl (op_leq rfl rfl ?_)
   refine G_q rfl (zao rfl (av := .xb (decide ((List.length a0 : Int) ≤ 131072))) rfl ?_)
   refine G_q rfl (zac (av := .xb (decide ((List.length a0 : Int) ≤ 131072))) rfl ?_)
   refine G_split (p := (List.length a0 : Int) ≤ 131072) 10 rfl (fun hc => ?_) (fun hc => ?_)
   ·replace h := ite_t h hc
    refine Gy_q rfl rfl rfl (zac (av := .xs a0) rfl ?_)
    obtain ⟨y3, hy3, h⟩ := bnd1_some h
    refine Gy_q rfl rfl rfl (zal (m_value_length_ok _ _ _ hy3) Tryz.func66 (by kernel_rfl) (LEs.cons (AV.le_eq rfl) (LEs.cons (AV.le_eq rfl) LEs.nil)) ?_)
    refine Gy_q rfl rfl rfl (zac (av := .xs a0) rfl ?_)
    refine Gy_q rfl rfl rfl (op_lenS (by kernel_rfl) rfl ?_)
    refine Gy_q rfl rfl rfl (op_eql rfl rfl ?_)
    refine G_q rfl (zao rfl (av := .xb (decide (y3 = (List.length a0 : Int)))) rfl ?_)
    refine G_q rfl (zab (av := .xb (decide (y3 = (List.length a0 : Int)))) rfl ?_)
    refine G_nil ?_
    refine zaf ⟨_, h, ?_⟩
    exact Sub.of_le (lq rfl lt0)
   ·replace h := ite_f h hc
    refine G_n rfl rfl (G_n rfl rfl (G_n rfl rfl (G_n rfl rfl (G_n rfl rfl ?_))))
    refine G_q rfl (zai rfl (av := .xb false) rfl ?_)
    refine G_q rfl (zab (av := .xb false) rfl ?_)
    refine G_nil ?_
    refine zaf ⟨_, h, ?_⟩
    exact Sub.of_le (lq rfl lt0)
  ·replace h := ite_f h hc
   refine G_n rfl rfl (G_n rfl rfl (G_n rfl rfl ?_))
   refine G_q rfl (zai rfl (av := .xb false) rfl ?_)
   refine G_q rfl (zac (av := .xb false) rfl ?_)
   refine G_n rfl rfl (G_n rfl rfl (G_n rfl rfl (G_n rfl rfl (G_n rfl rfl ?_))))
   refine G_q rfl (zai rfl (av := .xb false) rfl ?_)
   refine G_q rfl (zab (av := .xb false) rfl ?_)
   refine G_nil ?_
   refine zaf ⟨_, h, ?_⟩
   exact Sub.of_le (lq rfl lt0)
 ·refine k_ret ?_
  obtain rfl := Option.some.inj h
  refine zaj (endN (af' := (AF.put AF0 (some 2) (.xb x2_j1))) (σ' := []) _ rfl ?_ ⟨rfl, rfl⟩)
  exact Sub.of_le (lq rfl lt0)
set_option maxHeartbeats 4000000 in
theorem m_value_compound_1_ok (a0 : List UInt8) (r : Bool) (h : m_value_compound_1 a0 = some r) : Pure Tryz.prog 98 [(.exact (.string (bs a0)))] (.exact (.bool r)) := by
 unfold m_value_compound_1 at h
 refine Pure.ofFun (fun_of_awp Tryz.func98 rfl Tryz.ntmps98 (by simp) rfl (res1 rfl) fun E hE => k_end ?_)
 refine zae (zag .free hmixP (by kernel_rfl) ?_)
 refine G_q rfl (zab (av := .xb false) rfl ?_)
 refine G_nil (zaa (zae (zag .free hmixP (by kernel_rfl) ?_)))
 refine G_q rfl (zac (av := .xs a0) rfl ?_)
 obtain ⟨y1, hy1, h⟩ := bnd1_some h
 refine G_q rfl (zal (m_value_Valid_ok _ _ hy1) Tryz.func38 (by kernel_rfl) (LEs.cons (AV.le_eq rfl) LEs.nil) ?_)
 refine G_q rfl (op_not rfl ?_)
 refine G_q rfl (zab (av := .xb (!y1)) rfl ?_)
 refine G_nil (zaa (k_ret ?_))
 obtain rfl := Option.some.inj h
 refine zaj (endN (af' := (AF.put AF0 (some 2) (.xb (!y1)))) (σ' := []) _ rfl ?_ ⟨rfl, rfl⟩)
 exact Sub.of_le (lq rfl lt0)
set_option maxHeartbeats 4000000 in
theorem m_value_checked_ok (a0 : List UInt8) (r : (List UInt8)) (h : m_value_checked a0 = some r) : Pure Tryz.prog 99 [(.row 1 c_uint8 a0)] (.exact (.string (bs r))) := by
 unfold m_value_checked at h
 refine Pure.ofFun (fun_of_awp Tryz.func99 rfl Tryz.ntmps99 (by simp) rfl (res1 rfl) fun E hE => k_end ?_)
 refine zae (zag .free hmixP (by kernel_rfl) ?_)
 refine G_q rfl (zab (av := .xs ([] : List UInt8)) rfl ?_)
 refine G_nil (zaa (zae (zae (zag .free hmixP (by kernel_rfl) ?_))))
 refine G_q rfl (zac (av := .row 1 c_uint8 a0) rfl ?_)
 refine G_q rfl (op_bytesS rfl (by kernel_rfl) rfl ?_)
 obtain ⟨y1, hy1, h⟩ := bnd1_some h
 refine G_q rfl (zal (m_value_Valid_ok _ _ hy1) Tryz.func38 (by kernel_rfl) (LEs.cons (AV.le_eq rfl) LEs.nil) ?_)
 refine G_q rfl (op_not rfl ?_)
 refine G_nil (zaa ?_)
 refine k_cond_b (c := !y1) rfl (fun hc => ?_) (fun hc => ?_)
 ·replace h := ite_t h hc
  refine zae (zag .free hmixP (by kernel_rfl) ?_)
  refine G_q rfl (zab (av := .xs ([] : List UInt8)) rfl ?_)
  refine G_nil (zaa (k_ret (kC_ret ?_)))
  obtain rfl := Option.some.inj h
  refine zaj (endN (af' := (AF.put AF0 (some 2) (.xs ([] : List UInt8)))) (σ' := []) _ rfl ?_ ⟨rfl, rfl⟩)
  exact Sub.of_le (lq rfl lt0)
 ·replace h := ite_f h hc
  refine k_skip (zaa (zae (zag .free hmixP (by kernel_rfl) ?_)))
  refine G_q rfl (zac (av := .row 1 c_uint8 a0) rfl ?_)
  refine G_q rfl (op_bytesS rfl (by kernel_rfl) rfl ?_)
  refine G_q rfl (zab (av := .xs a0) rfl ?_)
  refine G_nil (zaa (k_ret ?_))
  obtain rfl := Option.some.inj h
  refine zaj (endN (af' := (AF.put AF0 (some 2) (.xs a0))) (σ' := []) _ rfl ?_ ⟨rfl, rfl⟩)
  exact Sub.of_le (lq rfl lt0)
set_option maxHeartbeats 4000000 in
theorem m_value_compound_ok (a0 : Int) (a1 : List (List UInt8)) (r : (List UInt8)) (h : m_value_compound a0 a1 = some r) : Pure Tryz.prog 84 [(.exact (.int .i64 a0)), (.row 1 zad a1)] (.exact (.string (bs r))) := by
 unfold m_value_compound at h
 refine Pure.ofFun (fun_of_awp Tryz.func84 rfl Tryz.ntmps84 (by simp) rfl (res1 rfl) fun E hE => k_end ?_)
 refine zae (zag .free hmixP (by kernel_rfl) ?_)
 refine G_q rfl (zab (av := .xs ([] : List UInt8)) rfl ?_)
 refine G_nil (zaa (zae (zae (zag .free hmixP (by kernel_rfl) ?_))))
 refine G_q rfl (zac (av := .row 1 zad a1) rfl ?_)
 refine G_q rfl (op_len_row (by kernel_rfl) rfl ?_)
 refine G_q rfl (op_gtr rfl rfl ?_)
 refine G_nil (zaa ?_)
 refine zak (p := 65535 < (List.length a1 : Int)) rfl (fun hc => ?_) (fun hc => ?_)
 ·replace h := ite_t h hc
  refine zae (zag .free hmixP (by kernel_rfl) ?_)
  refine G_q rfl (zab (av := .xs ([] : List UInt8)) rfl ?_)
  refine G_nil (zaa (k_ret (kC_ret ?_)))
  obtain rfl := Option.some.inj h
  refine zaj (endN (af' := (AF.put AF0 (some 4) (.xs ([] : List UInt8)))) (σ' := []) _ rfl ?_ ⟨rfl, rfl⟩)
  exact Sub.of_le (lq rfl lt0)
 ·replace h := ite_f h hc
  refine k_skip (zaa (zae (zag .free hmixP (by kernel_rfl) ?_)))
  refine G_q rfl (zac (av := .xi a0) rfl ?_)
  refine G_q rfl (op_convInt (k := .u8) (r := (UInt8.toNat (u8i a0) : Int)) (by kernel_rfl) rfl (u8i_eq _) ?_)
  refine G_l rfl (op_litI (n := 1) (enc := c_uint8) [u8i a0] (by kernel_rfl) (CellsAll.cons rfl CellsOf.int CellsAll.nil) rfl (by kernel_rfl) (LEss.cons (LEs.cons (AV.le_eq rfl) LEs.nil) LEss.nil) (fun v1 => ?_))
  refine G_q rfl (zac (av := .row 1 zad a1) rfl ?_)
  refine G_q rfl (op_len_row (by kernel_rfl) rfl ?_)
  refine G_q rfl (op_convInt (k := .u16) (by kernel_rfl) rfl rfl ?_)
  obtain ⟨y2, hy2, h⟩ := bnd1_some h
  refine G_l rfl (op_fun_1_1_1 (m_value_append16_ok _ _ _ hy2) Tryz.func96 (by kernel_rfl) (LEs.cons (AV.le_eq rfl) (LEs.cons (AV.le_eq rfl) LEs.nil)) (fun v3 => ?_))
  refine G_q rfl (zab (av := .exact v3) rfl ?_)
  refine G_nil (zaa ?_)
  refine k_join1_1 h (fun (x5_j4 : List UInt8) (v5_j4 : Value) => (AF.put (AF.put AF0 (some 1) (.row 1 zad a1)) (some 5) (.exact v5_j4))) (fun (x5_j4 : List UInt8) (v5_j4 : Value) => [vecT Tryz.prog 81 1 c_uint8 v5_j4 x5_j4]) (fun k4 h => ?_) (fun x5_j4 v5_j4 h => ?_)
  ·refine zae (zag .free hmixP (by kernel_rfl) ?_)
   refine G_q rfl (zac (av := .row 1 zad a1) rfl ?_)
   refine G_q rfl (op_len_row (by kernel_rfl) rfl ?_)
   refine G_q rfl (zac (av := .xi 0) rfl ?_)
   refine G_nil (zaa (k_block ?_))
   refine k_loop2_1 (m_value_compound_L2 a1 k4) (m_value_compound_B2 a1 k4) (fun _ _ => rfl) (fun m _ _ => rfl) h (fun (x5_l2 : List UInt8) (x20_l2 : Int) (v5_l2 : Value) => (AF.put (AF.put (AF.put (AF.put (AF.put AF0 (some 1) (.row 1 zad a1)) (some 5) (.exact v5_l2)) (some 18) (.row 1 zad a1)) (some 19) (.xi (List.length a1 : Int))) (some 20) (.xi x20_l2))) (fun (x5_l2 : List UInt8) (x20_l2 : Int) (v5_l2 : Value) => [vecT Tryz.prog 81 1 c_uint8 v5_l2 x5_l2]) v3 ?_ (fun rec2 x5_l2 x20_l2 v5_l2 h => ?_)
   ·exact Sub.of_le (lq rfl (lq rfl (lq rfl (lq rfl (lq rfl lt0)))))
   ·unfold m_value_compound_B2 at h
    refine zae (zag .free hmixP (by kernel_rfl) ?_)
    refine G_q rfl (op_lss rfl rfl ?_)
    refine G_nil (zaa (zae ?_))
    refine zak (p := x20_l2 < (List.length a1 : Int)) rfl (fun hc => ?_) (fun hc => ?_)
    ·replace h := ite_t h hc
     refine k_skip (zaa (zae (k_block (zae (zag .free hmixP (by kernel_rfl) ?_)))))
     obtain ⟨n78, h⟩ := need_some h
     refine G_q rfl (op_index_row (by kernel_rfl) rfl rfl n78.1 n78.2 ?_)
     refine G_q rfl (zaq (a := .xs (gi a1 x20_l2)) (by kernel_rfl) rfl rfl ?_)
     refine G_q rfl (zab (av := .xs (gi a1 x20_l2)) rfl ?_)
     refine G_nil (zaa (zae ?_))
     refine k_join1_0 h (fun (x33_j81 : Bool) => (AF.put (AF.put (AF.put (AF.put (AF.put (AF.put (AF.put AF0 (some 1) (.row 1 zad a1)) (some 5) (.exact v5_l2)) (some 7) (.xs (gi a1 x20_l2))) (some 18) (.row 1 zad a1)) (some 19) (.xi (List.length a1 : Int))) (some 20) (.xi x20_l2)) (some 33) (.xb x33_j81))) (fun (x33_j81 : Bool) => [vecT Tryz.prog 81 1 c_uint8 v5_l2 x5_l2]) (fun k81 h => ?_) (fun x33_j81 h => ?_)
     ·refine zag .free hmixP (by kernel_rfl) ?_
      refine G_q rfl (zac (av := .xs (gi a1 x20_l2)) rfl ?_)
      refine G_q rfl (op_eqlS rfl rfl ?_)
      refine G_q rfl (zac (av := .xb (decide ((gi a1 x20_l2) = ([] : List UInt8)))) rfl ?_)
      refine G_split (p := (gi a1 x20_l2) = ([] : List UInt8)) 26 rfl (fun hc => ?_) (fun hc => ?_)
      ·replace h := ite_t h hc
       refine G_n rfl rfl (G_n rfl rfl (G_n rfl rfl (G_n rfl rfl (G_n rfl rfl (G_n rfl rfl ?_)))))
       refine G_q rfl (zao rfl (av := .xb true) rfl ?_)
       refine G_nil ?_
       refine zaf ⟨_, h, ?_⟩
       exact Sub.of_le (lq rfl (lq rfl (lq rfl (lq rfl (lq rfl (lq rfl (lq rfl lt0)))))))
      ·replace h := ite_f h hc
       refine Gy_q rfl rfl rfl (zac (av := .exact v5_l2) rfl ?_)
       refine Gy_r rfl rfl rfl (op_len_vec (by kernel_rfl) rfl ?_)
       refine Gy_q rfl rfl rfl (zac (av := .xs (gi a1 x20_l2)) rfl ?_)
       refine Gy_q rfl rfl rfl (op_lenS (by kernel_rfl) rfl ?_)
       refine Gy_q rfl rfl rfl (op_add rfl rfl rfl ?_)
       refine Gy_q rfl rfl rfl (op_gtr rfl rfl ?_)
       refine G_q rfl (zai rfl (av := .xb (decide (131072 < (i64 ((List.length x5_l2 : Int) + (List.length (gi a1 x20_l2) : Int)))))) rfl ?_)
       refine G_nil ?_
       refine zaf ⟨_, h, ?_⟩
       exact Sub.of_le (lq rfl (lq rfl (lq rfl (lq rfl (lq rfl (lq rfl (lq rfl lt0)))))))
     ·refine k_cond_b (c := x33_j81) rfl (fun hc => ?_) (fun hc => ?_)
      ·replace h := ite_t h hc
       refine zae (zag .free hmixP (by kernel_rfl) ?_)
       refine G_q rfl (zab (av := .xs ([] : List UInt8)) rfl ?_)
       refine G_nil (zaa (k_ret (kC_ret (kB_ret (kC_ret (kI_ret (kB_ret (kI_ret ?_))))))))
       obtain rfl := Option.some.inj h
       refine zaj (endN (af' := (AF.put AF0 (some 4) (.xs ([] : List UInt8)))) (σ' := []) _ rfl ?_ ⟨rfl, rfl⟩)
       refine Sub.trans (SubU.to SubU.drop) ?_
       exact Sub.of_le (lq rfl lt0)
      ·replace h := ite_f h hc
       refine k_skip (zaa (zag .free hmixP (by kernel_rfl) ?_))
       refine G_q rfl (zac (av := .exact v5_l2) rfl ?_)
       refine G_q rfl (zac (av := .xs (gi a1 x20_l2)) rfl ?_)
       obtain ⟨n82, h⟩ := need_some h
       refine G_l rfl (op_appTS (fun _ => rfl) (by kernel_rfl) (by kernel_rfl) (by kernel_rfl) (by kernel_rfl) rfl rfl n82 (fun v83 => ?_))
       refine G_q rfl (zab (av := .exact v83) rfl ?_)
       refine G_nil (kB_normal (zaa (zag .free hmixP (by kernel_rfl) ?_)))
       refine G_q rfl (op_add rfl rfl rfl ?_)
       refine G_q rfl (zac (av := .xi (i64 (x20_l2 + 1))) rfl ?_)
       refine G_nil ?_
       refine zaf ⟨_, _, v83, h, ?_⟩
       exact Sub.of_le (lq rfl (lq rfl (lq rfl (lq rfl (lq rfl lt0)))))
    ·replace h := ite_f h hc
     refine k_exit (kC_exit (kI_exit (kB_exit ?_)))
     refine zaf ⟨_, v5_l2, h, ?_⟩
     exact Sub.of_le (lq rfl (lq rfl lt0))
  ·refine zae (zae (zag .free hmixP (by kernel_rfl) ?_))
   refine G_q rfl (zac (av := .row 1 zad a1) rfl ?_)
   obtain ⟨y84, hy84, h⟩ := bnd1_some h
   refine G_q rfl (zal (m_slices_ContainsFunc_L_api_Value_api_Value_ok _ _ _ hy84) Tryz.func97 (by kernel_rfl) (LEs.cons (AV.le_eq rfl) (LEs.cons ((fn_le Tryz.func98 (by kernel_rfl) (fun i r h => m_value_compound_1_ok i r h))) LEs.nil)) ?_)
   refine G_q rfl (op_not rfl ?_)
   refine G_nil (zaa ?_)
   refine k_cond_b (c := !y84) rfl (fun hc => ?_) (fun hc => ?_)
   ·replace h := ite_t h hc
    refine zae (zag .free hmixP (by kernel_rfl) ?_)
    refine G_q rfl (zac (av := .exact v5_j4) rfl ?_)
    refine G_sub rfl (SubU.freezeT2 (s1 := 5) (s2 := 41) rfl rfl len_c_uint8) ?_
    obtain ⟨y85, hy85, h⟩ := bnd1_some h
    refine G_q rfl (zal (m_value_checked_ok _ _ hy85) Tryz.func99 (by kernel_rfl) (LEs.cons (AV.le_eq rfl) LEs.nil) ?_)
    refine G_q rfl (zab (av := .xs y85) rfl ?_)
    refine G_nil (zaa (k_ret (kC_ret ?_)))
    obtain rfl := Option.some.inj h
    refine zaj (endN (af' := (AF.put AF0 (some 4) (.xs y85))) (σ' := []) _ rfl ?_ ⟨rfl, rfl⟩)
    exact Sub.of_le (lq rfl lt0)
   ·replace h := ite_f h hc
    refine k_skip (zaa (zae (zag .free hmixP (by kernel_rfl) ?_)))
    refine G_q rfl (zab (av := .xs ([] : List UInt8)) rfl ?_)
    refine G_nil (zaa (k_ret ?_))
    obtain rfl := Option.some.inj h
    refine zaj (endN (af' := (AF.put AF0 (some 4) (.xs ([] : List UInt8)))) (σ' := []) _ rfl ?_ ⟨rfl, rfl⟩)
    refine Sub.trans (SubU.to SubU.drop) ?_
    exact Sub.of_le (lq rfl lt0)
set_option maxHeartbeats 4000000 in
theorem m_value_Tuple_ok (a0 : List (List UInt8)) (r : (List UInt8)) (h : m_value_Tuple a0 = some r) : Pure Tryz.prog 59 [(.row 1 zad a0)] (.exact (.string (bs r))) := by
 unfold m_value_Tuple at h
 refine Pure.ofFun (fun_of_awp Tryz.func59 rfl Tryz.ntmps59 (by simp) rfl (res1 rfl) fun E hE => k_end ?_)
 refine zae (zag .free hmixP (by kernel_rfl) ?_)
 refine G_q rfl (zab (av := .xs ([] : List UInt8)) rfl ?_)
 refine G_nil (zaa (zae (zag .free hmixP (by kernel_rfl) ?_)))
 refine G_q rfl (zac (av := .row 1 zad a0) rfl ?_)
 obtain ⟨y1, hy1, h⟩ := bnd1_some h
 refine G_q rfl (zal (m_value_compound_ok _ _ _ hy1) Tryz.func84 (by kernel_rfl) (LEs.cons (AV.le_eq rfl) (LEs.cons (AV.le_eq rfl) LEs.nil)) ?_)
 refine G_q rfl (zab (av := .xs y1) rfl ?_)
 refine G_nil (zaa (k_ret ?_))
 obtain rfl := Option.some.inj h
 refine zaj (endN (af' := (AF.put AF0 (some 2) (.xs y1))) (σ' := []) _ rfl ?_ ⟨rfl, rfl⟩)
 exact Sub.of_le (lq rfl lt0)
set_option maxHeartbeats 4000000 in
theorem m_value_Seq_ok (a0 : List (List UInt8)) (r : (List UInt8)) (h : m_value_Seq a0 = some r) : Pure Tryz.prog 60 [(.row 1 zad a0)] (.exact (.string (bs r))) := by
 unfold m_value_Seq at h
 refine Pure.ofFun (fun_of_awp Tryz.func60 rfl Tryz.ntmps60 (by simp) rfl (res1 rfl) fun E hE => k_end ?_)
 refine zae (zag .free hmixP (by kernel_rfl) ?_)
 refine G_q rfl (zab (av := .xs ([] : List UInt8)) rfl ?_)
 refine G_nil (zaa (zae (zag .free hmixP (by kernel_rfl) ?_)))
 refine G_q rfl (zac (av := .row 1 zad a0) rfl ?_)
 obtain ⟨y1, hy1, h⟩ := bnd1_some h
 refine G_q rfl (zal (m_value_compound_ok _ _ _ hy1) Tryz.func84 (by kernel_rfl) (LEs.cons (AV.le_eq rfl) (LEs.cons (AV.le_eq rfl) LEs.nil)) ?_)
 refine G_q rfl (zab (av := .xs y1) rfl ?_)
 refine G_nil (zaa (k_ret ?_))
 obtain rfl := Option.some.inj h
 refine zaj (endN (af' := (AF.put AF0 (some 2) (.xs y1))) (σ' := []) _ rfl ?_ ⟨rfl, rfl⟩)
 exact Sub.of_le (lq rfl lt0)
set_option maxHeartbeats 4000000 in
theorem m_slices_Clone_L_api_Value_api_Value_ok (a0 : List (List UInt8)) (r : (List (List UInt8))) (h : m_slices_Clone_L_api_Value_api_Value a0 = some r) : Fun Tryz.prog 100 [(.row 1 zad a0)] [] (fun a s => ∃ z0, a = .exact z0 ∧ s = [vecT Tryz.prog 27 1 zad z0 r]) := by
 unfold m_slices_Clone_L_api_Value_api_Value at h
 refine fun_of_awp Tryz.func100 rfl Tryz.ntmps100 (by simp) rfl (res1 rfl) fun E hE => k_end ?_
 refine zae (zag .free hmixP (by kernel_rfl) ?_)
 refine G_q rfl (zab (av := .exact (.slice none 0 0)) rfl ?_)
 refine G_nil (zaa (zae (zae (zag .free hmixP (by kernel_rfl) ?_))))
 refine G_q rfl (zac (av := .row 1 zad a0) rfl ?_)
 refine G_q rfl (op_eqnil_row (by kernel_rfl) rfl ?_)
 refine G_nil (zaa ?_)
 obtain ⟨h1, h⟩ := nilc_some h
 refine k_cond_u (p := a0 = []) rfl (fun hc => ?_) ?_
 ·replace h := h1 hc
  refine zae (zag .free hmixP (by kernel_rfl) ?_)
  refine G_q rfl (zab (av := .exact (.slice none 0 0)) rfl ?_)
  refine G_nil (zaa (k_ret (kC_ret ?_)))
  obtain rfl := Option.some.inj h
  refine zaj (endN (af' := (AF.put AF0 (some 2) (.exact (.slice none 0 0)))) (σ' := [vecT Tryz.prog 27 1 zad (.slice none 0 0) []]) _ rfl ?_ ⟨(.slice none 0 0), rfl, rfl⟩)
  refine Sub.trans (SubU.to (SubU.nilT (P := Tryz.prog) (t := 27) (n := 1) (enc := zad))) ?_
  exact Sub.of_le (lq rfl lt0)
 ·refine k_skip (zaa (zae (zag .free hmixP (by kernel_rfl) ?_)))
  refine G_l rfl (op_lit0I (enc := zad) (n := 1) (by kernel_rfl) (fun v1 => ?_))
  refine G_q rfl (zac (av := .row 1 zad a0) rfl ?_)
  obtain ⟨n2, h⟩ := need_some h
  refine G_l rfl (op_appT (by kernel_rfl) rfl rfl oc_c_api_Value n2 (fun v3 => ?_))
  refine G_q rfl (zab (av := .exact v3) rfl ?_)
  refine G_nil (zaa (k_ret ?_))
  obtain rfl := Option.some.inj h
  refine zaj (endN (af' := (AF.put AF0 (some 2) (.exact v3))) (σ' := [vecT Tryz.prog 27 1 zad v3 (([] : List (List UInt8)) ++ a0)]) _ rfl ?_ ⟨v3, rfl, rfl⟩)
  exact Sub.of_le (lq rfl lt0)
set_option maxHeartbeats 4000000 in
theorem m_value_Compare_ok (a0 : List UInt8) (a1 : List UInt8) (r : Int) (h : m_value_Compare a0 a1 = some r) : Pure Tryz.prog 102 [(.exact (.string (bs a0))), (.exact (.string (bs a1)))] (.exact (.int .i64 r)) := by
 unfold m_value_Compare at h
 refine Pure.ofFun (fun_of_awp Tryz.func102 rfl Tryz.ntmps102 (by simp) rfl (res1 rfl) fun E hE => k_end ?_)
 refine zae (zag .free hmixP (by kernel_rfl) ?_)
 refine G_q rfl (zab (av := .xi 0) rfl ?_)
 refine G_nil (zaa (zae (zae (zag .free hmixP (by kernel_rfl) ?_))))
 refine G_q rfl (zac (av := .xs a0) rfl ?_)
 obtain ⟨y6, hy6, h⟩ := bnd1_some h
 refine G_q rfl (zal (m_value_Valid_ok _ _ hy6) Tryz.func38 (by kernel_rfl) (LEs.cons (AV.le_eq rfl) LEs.nil) ?_)
 refine G_q rfl (zac (av := .xs a1) rfl ?_)
 obtain ⟨y7, hy7, h⟩ := bnd1_some h
 refine G_q rfl (zal (m_value_Valid_ok _ _ hy7) Tryz.func38 (by kernel_rfl) (LEs.cons (AV.le_eq rfl) LEs.nil) ?_)
 refine G_q rfl (zab (av := .xb y6) rfl ?_)
 refine G_q rfl (zab (av := .xb y7) rfl ?_)
 refine G_nil (zaa (k_block ?_))
 refine k_join1_0 h (fun (x11_j8 : Bool) => (AF.put (AF.put (AF.put (AF.put (AF.put AF0 (some 0) (.xs a0)) (some 1) (.xs a1)) (some 5) (.xb y6)) (some 6) (.xb y7)) (some 11) (.xb x11_j8))) (fun (x11_j8 : Bool) => []) (fun k8 h => ?_) (fun x11_j8 h => ?_)
 ·refine zag .free hmixP (by kernel_rfl) ?_
  refine G_q rfl (zac (av := .xb y6) rfl ?_)
  refine G_q rfl (zac (av := .xb y6) rfl ?_)
  refine G_splitB (c := y6) 13 rfl (fun hc => ?_) (fun hc => ?_)
  ·replace h := ite_t h hc
   refine Gy_q rfl rfl rfl (zac (av := .xb y7) rfl ?_)
   refine G_q rfl (zao rfl (av := .xb y7) rfl ?_)
   refine G_q rfl (zab (av := .xb y7) rfl ?_)
   refine G_nil ?_
   refine zaf ⟨_, h, ?_⟩
   exact Sub.of_le (lq rfl (lq rfl (lq rfl (lq rfl (lq rfl lt0)))))
  ·replace h := ite_f h hc
   refine G_n rfl rfl ?_
   refine G_q rfl (zai rfl (av := .xb false) rfl ?_)
   refine G_q rfl (zab (av := .xb false) rfl ?_)
   refine G_nil ?_
   refine zaf ⟨_, h, ?_⟩
   exact Sub.of_le (lq rfl (lq rfl (lq rfl (lq rfl (lq rfl lt0)))))
 ·refine k_cond_b (c := x11_j8) rfl (fun hc => ?_) (fun hc => ?_)
  ·replace h := ite_t h hc
   refine zae (zag .free hmixP (by kernel_rfl) ?_)
   refine G_q rfl (zac (av := .xs a0) rfl ?_)
   refine G_q rfl (zac (av := .xs a1) rfl ?_)
   obtain ⟨y9, hy9, h⟩ := bnd1_some h
   refine G_q rfl (zal (m_value_compare_ok _ _ _ hy9) Tryz.func111 (by kernel_rfl) (LEs.cons (AV.le_eq rfl) (LEs.cons (AV.le_eq rfl) LEs.nil)) ?_)
   refine G_q rfl (zab (av := .xi y9) rfl ?_)
   refine G_nil (zaa (k_ret (kB_ret (kC_ret ?_))))
   obtain rfl := Option.some.inj h
   refine zaj (endN (af' := (AF.put AF0 (some 4) (.xi y9))) (σ' := []) _ rfl ?_ ⟨rfl, rfl⟩)
   exact Sub.of_le (lq rfl lt0)
  ·replace h := ite_f h hc
   refine zae (zag .free hmixP (by kernel_rfl) ?_)
   refine G_q rfl (zac (av := .xb y6) rfl ?_)
   refine G_q rfl (zab (av := .xb y6) rfl ?_)
   refine G_nil (zaa ?_)
   refine k_cond_b (c := y6) rfl (fun hc => ?_) (fun hc => ?_)
   ·replace h := ite_t h hc
    refine zae (zag .free hmixP (by kernel_rfl) ?_)
    refine G_q rfl (zab (av := .xi 1) rfl ?_)
    refine G_nil (zaa (k_ret (kB_ret (kC_ret ?_))))
    obtain rfl := Option.some.inj h
    refine zaj (endN (af' := (AF.put AF0 (some 4) (.xi 1))) (σ' := []) _ rfl ?_ ⟨rfl, rfl⟩)
    exact Sub.of_le (lq rfl lt0)
   ·replace h := ite_f h hc
    refine zae (zag .free hmixP (by kernel_rfl) ?_)
    refine G_q rfl (zac (av := .xb y7) rfl ?_)
    refine G_q rfl (zab (av := .xb y7) rfl ?_)
    refine G_nil (zaa ?_)
    refine k_cond_b (c := y7) rfl (fun hc => ?_) (fun hc => ?_)
    ·replace h := ite_t h hc
     refine zae (zag .free hmixP (by kernel_rfl) ?_)
     refine G_q rfl (zab (av := .xi (-1)) rfl ?_)
     refine G_nil (zaa (k_ret (kB_ret (kC_ret ?_))))
     obtain rfl := Option.some.inj h
     refine zaj (endN (af' := (AF.put AF0 (some 4) (.xi (-1)))) (σ' := []) _ rfl ?_ ⟨rfl, rfl⟩)
     exact Sub.of_le (lq rfl lt0)
    ·replace h := ite_f h hc
     refine k_skip (kB_normal (zaa (zae (zag .free hmixP (by kernel_rfl) ?_))))
     refine G_q rfl (zac (av := .xs a0) rfl ?_)
     refine G_q rfl (zac (av := .xs a1) rfl ?_)
     obtain ⟨y10, hy10, h⟩ := bnd1_some h
     refine G_q rfl (zal (m_cmp_Compare_api_Value_ok _ _ _ hy10) Tryz.func112 (by kernel_rfl) (LEs.cons (AV.le_eq rfl) (LEs.cons (AV.le_eq rfl) LEs.nil)) ?_)
     refine G_q rfl (zab (av := .xi y10) rfl ?_)
     refine G_nil (zaa (k_ret ?_))
     obtain rfl := Option.some.inj h
     refine zaj (endN (af' := (AF.put AF0 (some 4) (.xi y10))) (σ' := []) _ rfl ?_ ⟨rfl, rfl⟩)
     exact Sub.of_le (lq rfl lt0)
set_option maxHeartbeats 4000000 in
theorem m_slices_Compact_L_api_Value_api_Value_ok {w0 : Value} (a0 : List (List UInt8)) (r : (List (List UInt8))) (h : m_slices_Compact_L_api_Value_api_Value a0 = some r) : Fun Tryz.prog 103 [(.exact w0)] [vecT Tryz.prog 27 1 zad w0 a0] (fun a s => a = .row 1 zad r ∧ s = []) := by
 unfold m_slices_Compact_L_api_Value_api_Value at h
 refine fun_of_awp Tryz.func103 rfl Tryz.ntmps103 (by simp) rfl (res1 rfl) fun E hE => k_end ?_
 refine zae (zag .free hmixP (by kernel_rfl) ?_)
 refine G_q rfl (zab (av := .exact (.slice none 0 0)) rfl ?_)
 refine G_nil (zaa (zae (zae (zag .free hmixP (by kernel_rfl) ?_))))
 refine G_q rfl (zac (av := .exact w0) rfl ?_)
 refine G_r rfl (op_len_vec (by kernel_rfl) rfl ?_)
 refine G_q rfl (op_lss rfl rfl ?_)
 refine G_nil (zaa ?_)
 refine zak (p := (List.length a0 : Int) < 2) rfl (fun hc => ?_) (fun hc => ?_)
 ·replace h := ite_t h hc
  refine zae (zag .free hmixP (by kernel_rfl) ?_)
  refine G_q rfl (zac (av := .exact w0) rfl ?_)
  refine G_q rfl (zab (av := .exact w0) rfl ?_)
  refine G_nil (zaa (k_ret (kC_ret ?_)))
  obtain rfl := Option.some.inj h
  refine zaj (endN (af' := (AF.put AF0 (some 2) (.row 1 zad a0))) (σ' := []) _ rfl ?_ ⟨rfl, rfl⟩)
  refine Sub.trans (SubU.to (SubU.freezeT (s := 2) rfl len_c_api_Value)) ?_
  exact Sub.of_le (lq rfl lt0)
 ·replace h := ite_f h hc
  refine k_skip (zaa ?_)
  refine k_join0_0 h ((AF.put AF0 (some 0) (.exact w0))) ([vecT Tryz.prog 27 1 zad w0 a0]) (fun k1 h => ?_) (fun  h => ?_)
  ·refine zae (zag .free hmixP (by kernel_rfl) ?_)
   refine G_q rfl (zab (av := .xi 1) rfl ?_)
   refine G_nil (zaa (k_block ?_))
   refine k_loop1_0 (m_slices_Compact_L_api_Value_api_Value_L14 a0 k1) (m_slices_Compact_L_api_Value_api_Value_B14 a0 k1) (fun _ => rfl) (fun m _ => rfl) h (fun (x3_l14 : Int) => (AF.put (AF.put AF0 (some 0) (.exact w0)) (some 3) (.xi x3_l14))) (fun (x3_l14 : Int) => [vecT Tryz.prog 27 1 zad w0 a0]) ?_ (fun rec14 x3_l14 h => ?_)
   ·exact Sub.of_le (lq rfl (lq rfl lt0))
   ·unfold m_slices_Compact_L_api_Value_api_Value_B14 at h
    refine zae (zae (zag .free hmixP (by kernel_rfl) ?_))
    refine G_q rfl (zac (av := .xi x3_l14) rfl ?_)
    refine G_q rfl (zac (av := .exact w0) rfl ?_)
    refine G_r rfl (op_len_vec (by kernel_rfl) rfl ?_)
    refine G_q rfl (op_lss rfl rfl ?_)
    refine G_nil (zaa ?_)
    refine zak (p := x3_l14 < (List.length a0 : Int)) rfl (fun hc => ?_) (fun hc => ?_)
    ·replace h := ite_t h hc
     refine k_skip (zaa ?_)
     refine k_join0_0 h ((AF.put (AF.put AF0 (some 0) (.exact w0)) (some 3) (.xi x3_l14))) ([vecT Tryz.prog 27 1 zad w0 a0]) (fun k628 h => ?_) (fun  h => ?_)
     ·refine k_block (zae ?_)
      refine k_plan [] [(0, 0), (0, 1), (0, 4), (0, 5), (0, 6), (1, 2), (1, 3), (1, 7), (1, 8), (0, 9)] hmixP (by kernel_rfl) ?_
      refine P_q no34_0 rfl (zac (av := .exact w0) rfl ?_)
      refine P_q no34_0 rfl (zac (av := .xi x3_l14) rfl ?_)
      refine P_q no34_0 rfl (zac (av := .exact w0) rfl ?_)
      refine P_q no34_0 rfl (zac (av := .xi x3_l14) rfl ?_)
      refine P_q no34_0 rfl (op_sub rfl rfl rfl ?_)
      obtain ⟨n691, h⟩ := need_some h
      refine P_r rfl (op_index_vec (by kernel_rfl) rfl rfl n691.1 n691.2 ?_)
      refine P_r rfl (op_load_vec1 (i := x3_l14) (o := 0) (a := .xs (gi a0 x3_l14)) (by kernel_rfl) len_c_api_Value rfl n691.1 n691.2 rfl ?_)
      obtain ⟨n692, h⟩ := need_some h
      refine P_r rfl (op_index_vec (by kernel_rfl) rfl rfl n692.1 n692.2 ?_)
      refine P_r rfl (op_load_vec1 (i := i64 (x3_l14 - 1)) (o := 0) (a := .xs (gi a0 (i64 (x3_l14 - 1)))) (by kernel_rfl) len_c_api_Value rfl n692.1 n692.2 rfl ?_)
      refine P_q no34_0 rfl (op_eqlS rfl rfl ?_)
      refine P_nil (zaa ?_)
      refine zak (p := (gi a0 x3_l14) = (gi a0 (i64 (x3_l14 - 1)))) rfl (fun hc => ?_) (fun hc => ?_)
      ·replace h := ite_t h hc
       refine zae (zag .free hmixP (by kernel_rfl) ?_)
       refine G_q rfl (zac (av := .exact w0) rfl ?_)
       refine G_q rfl (zac (av := .xi x3_l14) rfl ?_)
       obtain ⟨n693, h⟩ := need_some h
       refine G_r rfl (op_slice_vec (by kernel_rfl) rfl (bnd_some rfl) bnd_none n693.1 n693.2.1 n693.2.2 ?_)
       refine G_q rfl (zab (av := .vsub w0 1 (Int.toNat x3_l14) (Int.toNat (List.length a0 : Int) - Int.toNat x3_l14)) rfl ?_)
       refine G_nil (zaa ?_)
       refine k_join2_0 h (fun (x0_j694 : List (List UInt8)) (x3_j694 : Int) => (AF.put (AF.put AF0 (some 0) (.exact w0)) (some 3) (.xi x3_j694))) (fun (x0_j694 : List (List UInt8)) (x3_j694 : Int) => [vecT Tryz.prog 27 1 zad w0 x0_j694]) (fun k694 h => ?_) (fun x0_j694 x3_j694 h => ?_)
       ·refine zae (zag .free hmixP (by kernel_rfl) ?_)
        refine G_q rfl (zab (av := .xi 1) rfl ?_)
        refine G_nil (zaa (k_block ?_))
        refine k_loop3_0 (m_slices_Compact_L_api_Value_api_Value_L26 a0 x3_l14 k694) (m_slices_Compact_L_api_Value_api_Value_B26 a0 x3_l14 k694) (fun _ _ _ => rfl) (fun m _ _ _ => rfl) h (fun (x0_l26 : List (List UInt8)) (x3_l26 : Int) (x5_l26 : Int) => (AF.put (AF.put (AF.put (AF.put AF0 (some 0) (.exact w0)) (some 3) (.xi x3_l26)) (some 4) (.vsub w0 1 (Int.toNat x3_l14) (Int.toNat (List.length a0 : Int) - Int.toNat x3_l14))) (some 5) (.xi x5_l26))) (fun (x0_l26 : List (List UInt8)) (x3_l26 : Int) (x5_l26 : Int) => [vecT Tryz.prog 27 1 zad w0 x0_l26]) ?_ (fun rec26 x0_l26 x3_l26 x5_l26 h => ?_)
        ·exact Sub.of_le (lq rfl (lq rfl (lq rfl (lq rfl lt0))))
        ·unfold m_slices_Compact_L_api_Value_api_Value_B26 at h
         refine zae (zae (zag .free hmixP (by kernel_rfl) ?_))
         refine G_q rfl (zac (av := .xi x5_l26) rfl ?_)
         refine G_q rfl (zac (av := .vsub w0 1 (Int.toNat x3_l14) (Int.toNat (List.length a0 : Int) - Int.toNat x3_l14)) rfl ?_)
         refine G_q rfl (op_len_vsub (by kernel_rfl) rfl ?_)
         refine G_q rfl (op_lss rfl rfl ?_)
         refine G_nil (zaa ?_)
         refine zak (p := x5_l26 < ((Int.toNat (List.length a0 : Int) - Int.toNat x3_l14 : Nat) : Int)) rfl (fun hc => ?_) (fun hc => ?_)
         ·replace h := ite_t h hc
          refine k_skip (zaa ?_)
          refine k_join2_0 h (fun (x0_j741 : List (List UInt8)) (x3_j741 : Int) => (AF.put (AF.put (AF.put (AF.put AF0 (some 0) (.exact w0)) (some 3) (.xi x3_j741)) (some 4) (.vsub w0 1 (Int.toNat x3_l14) (Int.toNat (List.length a0 : Int) - Int.toNat x3_l14))) (some 5) (.xi x5_l26))) (fun (x0_j741 : List (List UInt8)) (x3_j741 : Int) => [vecT Tryz.prog 27 1 zad w0 x0_j741]) (fun k741 h => ?_) (fun x0_j741 x3_j741 h => ?_)
          ·refine k_block (zae ?_)
           refine k_plan [] [(0, 0), (0, 1), (0, 4), (0, 5), (0, 6), (1, 2), (1, 3), (1, 7), (1, 8), (0, 9)] hmixP (by kernel_rfl) ?_
           refine P_q no34_0 rfl (zac (av := .vsub w0 1 (Int.toNat x3_l14) (Int.toNat (List.length a0 : Int) - Int.toNat x3_l14)) rfl ?_)
           refine P_q no34_0 rfl (zac (av := .xi x5_l26) rfl ?_)
           refine P_q no34_0 rfl (zac (av := .vsub w0 1 (Int.toNat x3_l14) (Int.toNat (List.length a0 : Int) - Int.toNat x3_l14)) rfl ?_)
           refine P_q no34_0 rfl (zac (av := .xi x5_l26) rfl ?_)
           refine P_q no34_0 rfl (op_sub rfl rfl rfl ?_)
           obtain ⟨n746, h⟩ := need_some h
           refine P_r rfl (op_index_vsub (j := (x3_l14 + x5_l26)) (by kernel_rfl) rfl rfl n746.2.1 (by have hh := n746; try simp only [i64] at *; omega) (by have hh := n746; try simp only [i64] at *; omega) (by have hh := n746; try simp only [i64] at *; omega) ?_)
           refine P_r rfl (op_load_vec1 (i := (x3_l14 + x5_l26)) (o := 0) (a := .xs (gi x0_l26 (x3_l14 + x5_l26))) (by kernel_rfl) len_c_api_Value rfl n746.2.2.2.1 n746.2.2.2.2 rfl ?_)
           obtain ⟨n747, h⟩ := need_some h
           refine P_r rfl (op_index_vsub (j := (x3_l14 + (i64 (x5_l26 - 1)))) (by kernel_rfl) rfl rfl n747.2.1 (by have hh := n747; try simp only [i64] at *; omega) (by have hh := n747; try simp only [i64] at *; omega) (by have hh := n747; try simp only [i64] at *; omega) ?_)
           refine P_r rfl (op_load_vec1 (i := (x3_l14 + (i64 (x5_l26 - 1)))) (o := 0) (a := .xs (gi x0_l26 (x3_l14 + (i64 (x5_l26 - 1))))) (by kernel_rfl) len_c_api_Value rfl n747.2.2.2.1 n747.2.2.2.2 rfl ?_)
           refine P_q no34_0 rfl (op_neqS rfl rfl ?_)
           refine P_nil (zaa ?_)
           refine zak (p := ¬ (gi x0_l26 (x3_l14 + x5_l26)) = (gi x0_l26 (x3_l14 + (i64 (x5_l26 - 1))))) rfl (fun hc => ?_) (fun hc => ?_)
           ·replace h := ite_t h hc
            refine zae (zag .free hmixP (by kernel_rfl) ?_)
            refine G_q rfl (zac (av := .exact w0) rfl ?_)
            refine G_q rfl (zac (av := .xi x3_l26) rfl ?_)
            refine G_q rfl (zac (av := .vsub w0 1 (Int.toNat x3_l14) (Int.toNat (List.length a0 : Int) - Int.toNat x3_l14)) rfl ?_)
            refine G_q rfl (zac (av := .xi x5_l26) rfl ?_)
            obtain ⟨n748, h⟩ := need_some h
            refine G_r rfl (op_index_vsub (j := (x3_l14 + x5_l26)) (by kernel_rfl) rfl rfl n748.2.1 (by have hh := n748; try simp only [i64] at *; omega) (by have hh := n748; try simp only [i64] at *; omega) (by have hh := n748; try simp only [i64] at *; omega) ?_)
            refine G_r rfl (op_load_vec1 (i := (x3_l14 + x5_l26)) (o := 0) (a := .xs (gi x0_l26 (x3_l14 + x5_l26))) (by kernel_rfl) len_c_api_Value rfl n748.2.2.2.1 n748.2.2.2.2 rfl ?_)
            obtain ⟨n749, h⟩ := need_some h
            refine G_r rfl (op_index_vec (by kernel_rfl) rfl rfl n749.1 n749.2 ?_)
            refine G_l rfl (op_store_vec (i := x3_l26) (o := 0) (z := gi x0_l26 (x3_l14 + x5_l26)) (c' := [.xs (gi x0_l26 (x3_l14 + x5_l26))]) (by kernel_rfl) len_c_api_Value rfl n749.1 n749.2 rfl CellsOf.str (LEs.cons (AV.le_eq rfl) LEs.nil) (OneC.str OneC.nil) (by kernel_rfl) (Nat.le_of_ble_eq_true rfl) rfl ?_)
            refine G_nil (zaa (zag .free hmixP (by kernel_rfl) ?_))
            refine G_q rfl (zac (av := .xi x3_l26) rfl ?_)
            refine G_q rfl (op_add rfl rfl rfl ?_)
            refine G_q rfl (zab (av := .xi (i64 (x3_l26 + 1))) rfl ?_)
            refine G_nil (kB_normal ?_)
            refine zaf ⟨_, _, h, ?_⟩
            exact Sub.of_le (lq rfl (lq rfl (lq rfl (lq rfl lt0))))
           ·replace h := ite_f h hc
            refine k_skip (kB_normal ?_)
            refine zaf ⟨_, _, h, ?_⟩
            exact Sub.of_le (lq rfl (lq rfl (lq rfl (lq rfl lt0))))
          ·refine zag .free hmixP (by kernel_rfl) ?_
           refine G_q rfl (zac (av := .xi x5_l26) rfl ?_)
           refine G_q rfl (op_add rfl rfl rfl ?_)
           refine G_q rfl (zab (av := .xi (i64 (x5_l26 + 1))) rfl ?_)
           refine G_nil ?_
           refine zaf ⟨_, _, _, h, ?_⟩
           exact Sub.of_le (lq rfl (lq rfl (lq rfl (lq rfl lt0))))
         ·replace h := ite_f h hc
          refine k_exit (kC_exit (kI_exit (kB_exit ?_)))
          refine zaf ⟨_, _, h, ?_⟩
          exact Sub.of_le (lq rfl (lq rfl lt0))
       ·refine zae (zag .free hmixP (by kernel_rfl) ?_)
        refine G_q rfl (zac (av := .exact w0) rfl ?_)
        refine G_q rfl (zac (av := .xi x3_j694) rfl ?_)
        obtain ⟨n750, h⟩ := need_some h
        refine G_r rfl (op_slice_vec (by kernel_rfl) rfl (bnd_some rfl) bnd_none n750.1 n750.2.1 n750.2.2 ?_)
        refine G_l rfl (op_clear (zr := []) (by kernel_rfl) len_c_api_Value oc_c_api_Value rfl (by have := n750; omega) Tryz.zeroValue30 (fun _ _ => (Fit.ex Fit.nil0)) ?_)
        refine G_nil (zaa (zae (zag .free hmixP (by kernel_rfl) ?_)))
        refine G_q rfl (zac (av := .exact w0) rfl ?_)
        refine G_q rfl (zac (av := .xi x3_j694) rfl ?_)
        refine G_sub rfl (SubU.freezeT3 (s1 := 0) (s2 := 54) (s3 := 57) rfl rfl rfl len_c_api_Value) ?_
        obtain ⟨n751, h⟩ := need_some h
        refine G_q rfl (op_slice_rowt (by kernel_rfl) rfl bnd_none (bnd_some rfl) (Int.le_refl 0) n751.1 n751.2 ?_)
        refine G_q rfl (zab (av := .row 1 zad (List.take (Int.toNat x3_j694) (List.take (Int.toNat x3_j694) x0_j694 ++ List.replicate (Int.toNat (List.length x0_j694 : Int) - Int.toNat x3_j694) ([] : List UInt8) ++ List.drop (Int.toNat x3_j694 + (Int.toNat (List.length x0_j694 : Int) - Int.toNat x3_j694)) x0_j694))) rfl ?_)
        refine G_nil (zaa (k_ret (kB_ret (kI_ret (kI_ret (kB_ret (kI_ret ?_)))))))
        obtain rfl := Option.some.inj h
        refine zaj (endN (af' := (AF.put AF0 (some 2) (.row 1 zad (List.take (Int.toNat x3_j694) (List.take (Int.toNat x3_j694) x0_j694 ++ List.replicate (Int.toNat (List.length x0_j694 : Int) - Int.toNat x3_j694) ([] : List UInt8) ++ List.drop (Int.toNat x3_j694 + (Int.toNat (List.length x0_j694 : Int) - Int.toNat x3_j694)) x0_j694))))) (σ' := []) _ rfl ?_ ⟨rfl, rfl⟩)
        exact Sub.of_le (lq rfl lt0)
      ·replace h := ite_f h hc
       refine k_skip (kB_normal ?_)
       refine zaf ⟨h, ?_⟩
       exact Sub.of_le (lq rfl (lq rfl lt0))
     ·refine zag .free hmixP (by kernel_rfl) ?_
      refine G_q rfl (zac (av := .xi x3_l14) rfl ?_)
      refine G_q rfl (op_add rfl rfl rfl ?_)
      refine G_q rfl (zab (av := .xi (i64 (x3_l14 + 1))) rfl ?_)
      refine G_nil ?_
      refine zaf ⟨_, h, ?_⟩
      exact Sub.of_le (lq rfl (lq rfl lt0))
    ·replace h := ite_f h hc
     refine k_exit (kC_exit (kI_exit (kB_exit ?_)))
     refine zaf ⟨h, ?_⟩
     exact Sub.of_le (lq rfl lt0)
  ·refine zae (zag .free hmixP (by kernel_rfl) ?_)
   refine G_q rfl (zac (av := .exact w0) rfl ?_)
   refine G_q rfl (zab (av := .exact w0) rfl ?_)
   refine G_nil (zaa (k_ret ?_))
   obtain rfl := Option.some.inj h
   refine zaj (endN (af' := (AF.put AF0 (some 2) (.row 1 zad a0))) (σ' := []) _ rfl ?_ ⟨rfl, rfl⟩)
   refine Sub.trans (SubU.to (SubU.freezeT (s := 2) rfl len_c_api_Value)) ?_
   exact Sub.of_le (lq rfl lt0)
set_option maxHeartbeats 4000000 in
theorem m_value_Sort_ok (a0 : List (List UInt8)) (r : (List (List UInt8))) (h : m_value_Sort a0 = some r) : Pure Tryz.prog 85 [(.row 1 zad a0)] (.row 1 zad r) := by
 unfold m_value_Sort at h
 refine Pure.ofFun (fun_of_awp Tryz.func85 rfl Tryz.ntmps85 (by simp) rfl (res1 rfl) fun E hE => k_end ?_)
 refine zae (zag .free hmixP (by kernel_rfl) ?_)
 refine G_q rfl (zab (av := .exact (.slice none 0 0)) rfl ?_)
 refine G_nil (zaa (zae (zag .free hmixP (by kernel_rfl) ?_)))
 refine G_q rfl (zac (av := .row 1 zad a0) rfl ?_)
 obtain ⟨y1, hy1, h⟩ := bnd1_some h
 refine G_l rfl (op_fun_0_1_1 (m_slices_Clone_L_api_Value_api_Value_ok _ _ hy1) Tryz.func100 (by kernel_rfl) (LEs.cons (AV.le_eq rfl) LEs.nil) (fun v2 => ?_))
 refine G_q rfl (zab (av := .exact v2) rfl ?_)
 refine G_nil (zaa (zae (zag .free hmixP (by kernel_rfl) ?_)))
 refine G_q rfl (zac (av := .exact v2) rfl ?_)
 obtain ⟨y3, hy3, h⟩ := bnd1_some h
 refine G_l rfl (op_fun_1_0_1 (m_sort_api_Value_ok m_value_Compare_ok _ _ hy3) Tryz.func101 (by kernel_rfl) (LEs.cons (AV.le_eq rfl) (LEs.cons (AV.le_eq rfl) LEs.nil)) ?_)
 refine G_nil (zaa (zae (zag .free hmixP (by kernel_rfl) ?_)))
 refine G_q rfl (zac (av := .exact v2) rfl ?_)
 obtain ⟨y4, hy4, h⟩ := bnd1_some h
 refine G_l rfl (op_fun_1_0_0 (m_slices_Compact_L_api_Value_api_Value_ok _ _ hy4) Tryz.func103 (by kernel_rfl) (LEs.cons (AV.le_eq rfl) LEs.nil) ?_)
 obtain ⟨y5, hy5, h⟩ := bnd1_some h
 refine G_q rfl (zal (m_slices_Clip_L_api_Value_api_Value_ok _ _ hy5) Tryz.func42 (by kernel_rfl) (LEs.cons (AV.le_eq rfl) LEs.nil) ?_)
 refine G_q rfl (zab (av := .row 1 zad y5) rfl ?_)
 refine G_nil (zaa (k_ret ?_))
 obtain rfl := Option.some.inj h
 refine zaj (endN (af' := (AF.put AF0 (some 2) (.row 1 zad y5))) (σ' := []) _ rfl ?_ ⟨rfl, rfl⟩)
 exact Sub.of_le (lq rfl lt0)
end Go.Proofs.YtpfdeahcjlfijaaGreat
