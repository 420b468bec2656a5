/- Parts, merged. -/
import Derived.Test.YtohjfjmjnkglgaaGreatDoorQk5
namespace Go.Proofs.YtohjfjmjnkglgaaGreatDoor
open _root_.Go.Proofs.Tryz
noncomputable section
open Go.RowKit
attribute [local irreducible] AV.exact AV.top AV.row AV.ptr AV.agg AV.tup AV.eptr AV.fn AV.nilq AV.nilqn opA opB opM opR Quiet Loud Reads wpG awp den Sub SubU Pure Fun vecI vecT boxI CellsAll CellsOf OneC LEs LEss
set_option maxRecDepth 100000
set_option maxHeartbeats 4000000
theorem m_ref21_ascending_ok (a0:List ((List Int)×Int×Int)) (r:(List ((List Int)×Int×Int))) (h:m_ref21_ascending a0=some r):Pure Tryz.prog 27 [(.row 3 zay a0)] (.row 3 zay r):=by
 unfold m_ref21_ascending at h
 refine Pure.ofFun (zam func27 rfl ntmps27 (by simp) rfl (res1 rfl) λ E hE=>zca (sr (qa (.exact (.slice none 0 0)) rfl (gd (qa (.exact (.slice none 0 0)) rfl (gc (zcb h (λ(e:List ((List Int)×Int×Int)) (v3_j1:Value)=>(pt AF0 3 (.exact v3_j1))) (λ(e:List ((List Int)×Int×Int)) (v3_j1:Value)=>[vecT Tryz.prog 82 3 zay v3_j1 e]) (λ k1 h=> ?_) (λ e v3_j1 h=> ?_))))))))
 .refine sr (qa (.xi 0) rfl (gc (zaq (zcz (m_ref21_ascending_L14 a0 k1) (m_ref21_ascending_B14 a0 k1) (λ _ _=>rfl) (λ m _ _=>rfl) h (λ(b:List ((List Int)×Int×Int)) (a:Int) (v3_l14:Value)=>(pt (pt (pt AF0 0 (.row 3 zay a0)) 3 (.exact v3_l14)) 4 (.xi a))) (λ(b:List ((List Int)×Int×Int)) (a:Int) (v3_l14:Value)=>[vecT Tryz.prog 82 3 zay v3_l14 b]) (.slice none 0 0) ?_ (λ u b a v3_l14 h=> ?_)))))
  .refine Sub.trans (SubU.to (SubU.nilT (P:=Tryz.prog) (t:=82) (n:=3) (enc:=zay))) (s3 rfl rfl rfl)
  .unfold m_ref21_ascending_B14 at h
   refine zan (sr (qm (.xi a) rfl (qm (.row 3 zay a0) rfl (gq (zao (by kernel_rfl) rfl (gq (zbm rfl rfl (gc (kd (p:=a<(List.length a0:Int)) rfl h (λ hc h=> ?_) (λ hc h=> ?_))))))))))
   .refine zap (zaf (zcb h (λ(j:List ((List Int)×Int×Int)) (v3_j868:Value)=>(pt (pt (pt AF0 0 (.row 3 zay a0)) 3 (.exact v3_j868)) 4 (.xi a))) (λ(j:List ((List Int)×Int×Int)) (v3_j868:Value)=>[vecT Tryz.prog 82 3 zay v3_j868 j]) (λ k868 h=> ?_) (λ j v3_j868 h=> ?_)))
    .refine zaq (sr (qa (.xi 0) rfl (gc (zax h (λ(c:Int)=>(pt (pt (pt (pt AF0 0 (.row 3 zay a0)) 3 (.exact v3_l14)) 4 (.xi a)) 5 (.xi c))) (λ(c:Int)=>[vecT Tryz.prog 82 3 zay v3_l14 b]) (λ k983 h=> ?_) (λ c h=> ?_)))))
     .refine zaq (zcr (m_ref21_ascending_L26 a0 b a k983) (m_ref21_ascending_B26 a0 b a k983) (λ _=>rfl) (λ m _=>rfl) h (λ(d:Int)=>(pt (pt (pt (pt AF0 0 (.row 3 zay a0)) 3 (.exact v3_l14)) 4 (.xi a)) 5 (.xi d))) (λ(d:Int)=>[vecT Tryz.prog 82 3 zay v3_l14 b]) ?_ (λ v d h=> ?_))
      .exact s4 rfl rfl rfl rfl
      .unfold m_ref21_ascending_B26 at h
       refine zan (zax h (λ(f:Bool)=>(pt (pt (pt (pt (pt AF0 0 (.row 3 zay a0)) 3 (.exact v3_l14)) 4 (.xi a)) 5 (.xi d)) 27 (.xb f))) (λ(f:Bool)=>[vecT Tryz.prog 82 3 zay v3_l14 b]) (λ k1068 h=> ?_) (λ f h=> ?_))
       .refine zck [] [(0,0),(0,1),(1,2),(0,3),(0,4),(0,5),(0,6),(0,9),(0,10),(0,11),(0,12),(1,7),(1,8),(0,13),(0,14),(0,15)] hmixP (by kernel_rfl) (pq rfl (zah (av:= .xi d) rfl (pq rfl (zah (av:= .exact v3_l14) rfl (P_r rfl (zcl (by kernel_rfl) rfl (pq rfl (zbm rfl rfl (pq rfl (zah (av:= .xb (decide (d<(List.length b:Int)))) rfl (zfd (p:=d<(List.length b:Int)) 16 rfl (λ hc=> ?_) (λ hc=> ?_))))))))))))
        .replace h:=zcg h hc
         refine py rfl (zah (av:= .exact v3_l14) rfl (py rfl (zah (av:= .xi d) rfl (py rfl (zah (av:= .row 3 zay a0) rfl (py rfl (zah (av:= .xi a) rfl ?_)))))))
         obtain⟨n1072,h⟩:=zad h
         refine py rfl (zai (by kernel_rfl) rfl rfl n1072.1 n1072.2 (py rfl (zbx (m:=3) (c':=zay (gi a0 a)) (by kernel_rfl) rfl rfl rfl ?_)))
         obtain⟨n1073,h⟩:=zad h
         refine Py_r rfl rfl rfl (zbl (by kernel_rfl) rfl rfl n1073.1 n1073.2 (Py_r rfl rfl rfl (zet (i:=d) (o:=0) (m:=3) (c':=zay (gi b d)) (by kernel_rfl) zhj rfl n1073.1 n1073.2 rfl rfl ?_)))
         obtain⟨y1074,k,h⟩:=zae h
         refine py rfl (zal (m_ref21_ruleOrder_ok _ _ _ k) func59 (by kernel_rfl) (lc lf (lc lf ln)) (py rfl (zbm rfl rfl (pq rfl (zat rfl (av:= .xb (decide (y1074<0))) rfl (zcn (zaa ⟨_,h,so (l4 rfl rfl rfl rfl (lq rfl lt0))⟩)))))))
        .replace h:=zcf h hc
         refine pn rfl (pn rfl (pn rfl (pn rfl (pn rfl (pn rfl (P_n zdl rfl rfl rfl (P_n zdl rfl rfl rfl (pn rfl (pn rfl (pq rfl (zar rfl (av:= .xb false) rfl (zcn (zaa ⟨_,h,so (l4 rfl rfl rfl rfl (lq rfl lt0))⟩)))))))))))))
       .refine kb (p:=f) rfl h (λ hc h=> ?_) (λ hc h=> ?_)
        .refine zap (zaf (zaq (kr (qm (.xi d) rfl (gq (zbo rfl rfl rfl (qa (.xi (i64 (d+1))) rfl (zbc (zau (zaa ⟨_,h,s4 rfl rfl rfl rfl⟩))))))))))
        .refine zbr (zbi (zbk (zbj (zaa ⟨_,h,s4 rfl rfl rfl rfl⟩))))
     .refine zan (zax h (λ(g:Bool)=>(pt (pt (pt (pt (pt AF0 0 (.row 3 zay a0)) 3 (.exact v3_l14)) 4 (.xi a)) 5 (.xi c)) 45 (.xb g))) (λ(g:Bool)=>[vecT Tryz.prog 82 3 zay v3_l14 b]) (λ k1083 h=> ?_) (λ g h=> ?_))
      .refine zck [] [(0,0),(0,1),(1,2),(0,3),(0,4),(0,5),(0,6),(0,9),(0,10),(0,11),(0,12),(1,7),(1,8),(0,13),(0,14),(0,15)] hmixP (by kernel_rfl) (pq rfl (zah (av:= .xi c) rfl (pq rfl (zah (av:= .exact v3_l14) rfl (P_r rfl (zcl (by kernel_rfl) rfl (pq rfl (zbm rfl rfl (pq rfl (zah (av:= .xb (decide (c<(List.length b:Int)))) rfl (zfd (p:=c<(List.length b:Int)) 34 rfl (λ hc=> ?_) (λ hc=> ?_))))))))))))
       .replace h:=zcg h hc
        refine py rfl (zah (av:= .exact v3_l14) rfl (py rfl (zah (av:= .xi c) rfl (py rfl (zah (av:= .row 3 zay a0) rfl (py rfl (zah (av:= .xi a) rfl ?_)))))))
        obtain⟨n1087,h⟩:=zad h
        refine py rfl (zai (by kernel_rfl) rfl rfl n1087.1 n1087.2 (py rfl (zbx (m:=3) (c':=zay (gi a0 a)) (by kernel_rfl) rfl rfl rfl ?_)))
        obtain⟨n1088,h⟩:=zad h
        refine Py_r rfl rfl rfl (zbl (by kernel_rfl) rfl rfl n1088.1 n1088.2 (Py_r rfl rfl rfl (zet (i:=c) (o:=0) (m:=3) (c':=zay (gi b c)) (by kernel_rfl) zhj rfl n1088.1 n1088.2 rfl rfl ?_)))
        obtain⟨y1089,l,h⟩:=zae h
        refine py rfl (zal (m_ref21_ruleOrder_ok _ _ _ l) func59 (by kernel_rfl) (lc lf (lc lf ln)) (py rfl (zbf rfl rfl (pq rfl (zat rfl (av:= .xb (decide (y1089=0))) rfl (zcn (zaa ⟨_,h,so (l4 rfl rfl rfl rfl (lq rfl lt0))⟩)))))))
       .replace h:=zcf h hc
        refine pn rfl (pn rfl (pn rfl (pn rfl (pn rfl (pn rfl (P_n zdl rfl rfl rfl (P_n zdl rfl rfl rfl (pn rfl (pn rfl (pq rfl (zar rfl (av:= .xb false) rfl (zcn (zaa ⟨_,h,so (l4 rfl rfl rfl rfl (lq rfl lt0))⟩)))))))))))))
      .refine kb (p:=g) rfl h (λ hc h=> ?_) (λ hc h=> ?_)
       .refine zbr (zbi (zbj (zaa ⟨_,v3_l14,h,s3 rfl rfl rfl⟩)))
       .refine zap (zaf (sr (qm (.exact v3_l14) rfl (gq (zft (c':=zay (([],0,0):(List Int)×Int×Int)) CellsAll.nil rfl (lc (zcy (by decide)) (lc lf (lc lf ln))) (gq (zcd (n:=3) (enc:=zay) [(([],0,0):(List Int)×Int×Int)] (CellsAll.cons rfl CellsOf.agg CellsAll.nil) rfl (by kernel_rfl) (LEss.cons (lc lf (lc lf (lc lf ln))) LEss.nil) ?_)))))))
        obtain⟨n1090,h⟩:=zad h
        refine G_l rfl (zcu (by kernel_rfl) rfl rfl oc_c_api_Rule n1090 (λ v1091=>qa (.exact v1091) rfl (gc (zan (zck [] [(0,0),(0,1),(0,2),(0,4),(0,5),(1,3),(1,6),(2,7)] hmixP (by kernel_rfl) (pq rfl (zah (av:= .exact v1091) rfl (pq rfl (zah (av:= .xi c) rfl (pq rfl (zbo rfl rfl rfl (pq rfl (zah (av:= .exact v1091) rfl (pq rfl (zah (av:= .xi c) rfl ?_)))))))))))))))
        obtain⟨n1092,h⟩:=zad h
        refine P_r rfl (zeh (by kernel_rfl) rfl (zdn rfl) zdu n1092.1 n1092.2.1 n1092.2.2 ?_)
        obtain⟨n1093,h⟩:=zad h
        refine P_r rfl (zeh (by kernel_rfl) rfl (zdn rfl) zdu n1093.1 n1093.2.1 n1093.2.2 (P_l rfl (op_copy (q:=(Nat.min (Int.toNat (List.length (b++([(([],0,0):(List Int)×Int×Int)])):Int) - Int.toNat c) (Int.toNat (List.length (b++([(([],0,0):(List Int)×Int×Int)])):Int) - Int.toNat (i64 (c+1))))) (by kernel_rfl) (by kernel_rfl) zhj oc_c_api_Rule rfl rfl (by have hh:=n1092;first|omega|(simp only[i64]at hh;omega)|(simp only[i64]at hh ⊢;omega)) (by have hh:=n1093;first|omega|(simp only[i64]at hh;omega)|(simp only[i64]at hh ⊢;omega)) rfl (zcn (zaf (kr (qm (.exact v1091) rfl (qm (.xi c) rfl (qm (.row 3 zay a0) rfl (qm (.xi a) rfl ?_))))))))))
        obtain⟨n1094,h⟩:=zad h
        refine gq (zai (by kernel_rfl) rfl rfl n1094.1 n1094.2 (gq (zbx (m:=3) (c':=zay (gi a0 a)) (by kernel_rfl) rfl rfl rfl ?_)))
        obtain⟨n1095,h⟩:=zad h
        refine G_r rfl (zbl (by kernel_rfl) rfl rfl n1095.1 n1095.2 (G_l rfl (zcm (i:=c) (o:=0) (z:=gi a0 a) (c':=[.row 1 zav ((gi a0 a).1), .xi ((gi a0 a).2.1), .xi ((gi a0 a).2.2)]) (by kernel_rfl) zhj rfl n1095.1 n1095.2 rfl CellsOf.agg (lc lf (lc lf (lc lf ln))) (oc_c_api_Rule _) (by kernel_rfl) (Nat.le_of_ble_eq_true rfl) rfl (zbc (zau (zaa ⟨_,v1091,h,s3 rfl rfl rfl⟩))))))
    .refine kr (qm (.xi a) rfl (gq (zbo rfl rfl rfl (qa (.xi (i64 (a+1))) rfl (zbc (zaa ⟨_,_,v3_j868,h,s3 rfl rfl rfl⟩))))))
   .refine zbr (zbi (zbk (zbj (zaa ⟨_,v3_l14,h,s1 rfl⟩))))
 .refine sr (qm (.exact v3_j1) rfl (qa (.exact v3_j1) rfl (gc (zbn ?_))))
  obtain rfl:=oi h
  refine ke (pt AF0 2 (.row 3 zay e)) [] rfl (Sub.trans (SubU.to (SubU.freezeT (s:=2) rfl zhj)) (s1 rfl)) ⟨rfl,rfl⟩
theorem m_ref21_Compile_ok (a0:(List ((List UInt8)×Int×Bool×(Int×Int)×(List (Int×Int×Int))))×(List ((List UInt8)×Int×(List Int)×(List (List UInt8))))×(List (Int×Int×Int×Int×(Int×Int)))×(List (List UInt8))) (a1:List UInt8) (a2:Int) (r:((List ((List (List (Int×Int)))×(List (List UInt8))))×(List ((List UInt8)×(List Bool)×(List ((List Int)×Int×Int)))))×Int) (h:m_ref21_Compile a0 a1 a2=some r):Pure Tryz.prog 7 [(.agg (zcw a0)),(.exact (.string (bs a1))),(.exact (.int .i64 a2))] (.tup [.agg (zbb r.1), .exact (.int .i64 r.2)]):=by
 unfold m_ref21_Compile at h
 refine Pure.ofFun (fun_of_awp_mix func7 rfl ntmps7 (by simp) (mix2 rfl) λ E hE=>zca (sr (gq (zfe (c:=zcw a0) rfl CellsOf.agg (G_l rfl (zel (c:=[.exact (.slice none 0 0), .exact (.slice none 0 0)]) rfl (lc lf (lc lf ln)) (λ b1=>qa (.xi 0) rfl (gc (zan (zax h (λ(G:Bool)=>(pt (pt (pt (pt (pt AF0 1 (.xs a1)) 2 (.xi a2)) 3 (.ptr (zcw a0))) 6 (pA b1 0)) 43 (.xb G))) (λ(G:Bool)=>[boxI 29 b1 [.exact (.slice none 0 0), .exact (.slice none 0 0)]]) (λ k8 h=> ?_) (λ G h=> ?_)))))))))))
 .refine kr (qm (.xs a1) rfl ?_)
  obtain⟨y11,U,h⟩:=zae h
  refine gq (zal (zfj _ _ U) func17 (by kernel_rfl) (lc lf ln) (gq (zdh rfl (qm (.xb (!y11)) rfl (zfl (c:= !y11) 31 rfl (λ hc=> ?_) (λ hc=> ?_))))))
  .replace h:=zcg h hc
   refine gn (gn (gn (gq (zat rfl (av:= .xb true) rfl (qm (.xb true) rfl (gn (gn (gq (zat rfl (av:= .xb true) rfl (qm (.xb true) rfl (gn (gn (gq (zat rfl (av:= .xb true) rfl (zbc (zaa ⟨_,h,so (l4 rfl rfl rfl rfl (lq rfl lt0))⟩))))))))))))))))
  .replace h:=zcf h hc
   refine gy (zah (av:= .xs a1) rfl ?_)
   obtain⟨y12,V,h⟩:=zae h
   refine gy (zal (m_ref21_Clean_ok _ _ V) func18 (by kernel_rfl) (lc lf ln) (gy (zdh rfl (gq (zar rfl (av:= .xb (!y12)) rfl (qm (.xb (!y12)) rfl (zfl (c:= !y12) 36 rfl (λ hc=> ?_) (λ hc=> ?_))))))))
   .replace h:=zcg h hc
    refine gn (gn (gq (zat rfl (av:= .xb true) rfl (qm (.xb true) rfl (gn (gn (gq (zat rfl (av:= .xb true) rfl (zbc (zaa ⟨_,h,so (l4 rfl rfl rfl rfl (lq rfl lt0))⟩))))))))))
   .replace h:=zcf h hc
    refine gy (zah (av:= .xi a2) rfl (gy (zbm rfl rfl (gq (zar rfl (av:= .xb (decide (a2<1))) rfl (qm (.xb (decide (a2<1))) rfl (zcc (p:=a2<1) 40 rfl (λ hc=> ?_) (λ hc=> ?_))))))))
    .replace h:=zcg h hc
     refine gn (gn (gq (zat rfl (av:= .xb true) rfl (zbc (zaa ⟨_,h,so (l4 rfl rfl rfl rfl (lq rfl lt0))⟩)))))
    .replace h:=zcf h hc
     refine gy (zah (av:= .xi a2) rfl (gy (zfx rfl rfl (gq (zar rfl (av:= .xb (decide (16384<a2))) rfl (zbc (zaa ⟨_,h,so (l4 rfl rfl rfl rfl (lq rfl lt0))⟩)))))))
 .refine kb (p:=G) rfl h (λ hc h=> ?_) (λ hc h=> ?_)
  .refine zan ?_
   cases h
  .refine zap (zaf (sr (gq (zbx (m:=4) (c':=zcw a0) (by kernel_rfl) rfl rfl rfl (gq (zft (c':=[.row 6 zbu a0.1, .row 4 zbs a0.2.1, .row 6 zbh a0.2.2.1, .row 1 zab a0.2.2.2, .exact (.slice none 0 0), .xi 0]) (CellsAll.cons rfl CellsOf.agg CellsAll.nil) rfl (lc lf (lc lf (lc lf (lc lf (lc lf (lc lf ln)))))) (G_l rfl (op_boxI (c:=[.row 6 zbu a0.1, .row 4 zbs a0.2.1, .row 6 zbh a0.2.2.1, .row 1 zab a0.2.2.2, .exact (.slice none 0 0), .xi 0]) rfl CellsOf.agg (lc lf (lc lf (lc lf (lc lf (lc lf (lc lf ln)))))) (λ b13=>qa (pA b13 0) rfl (gd (qm (pA b13 0) rfl (qm (.xs a1) rfl (G_sub rfl (SubU.nilT (P:=Tryz.prog) (t:=63) (n:=4) (enc:=zas)) ?_)))))))))))))
   obtain⟨y20,W,h⟩:=zae h
   refine G_l rfl (opB_f1 (op_fun_2_0_1 (m_examine_ok _ _ _ _ W) func19 (by kernel_rfl) (lc lf (lc lf (lc (zcy (by decide)) ln))) (gd (G_l rfl (zel (c:=[.exact (.slice none 0 0)]) rfl (lc lf ln) (λ b22=>gd (qa (.xi 0) rfl (gc (zax h (λ(C:Int)=>(pt (pt (pt (pt (pt (pt AF0 2 (.xi a2)) 3 (.ptr (zcw a0))) 6 (pA b1 0)) 8 (pA b13 0)) 9 (pA b22 0)) 10 (.xi C))) (λ(C:Int)=>[boxI 29 b1 [.exact (.slice none 0 0), .exact (.slice none 0 0)],boxI 65 b13 [.row 6 zbu y20.2.1.1, .row 4 zbs y20.2.1.2.1, .row 6 zbh y20.2.1.2.2.1, .row 1 zab y20.2.1.2.2.2, .row 4 zas y20.2.2.1, .xi y20.2.2.2],boxI 36 b22 [.exact (.slice none 0 0)]]) (λ k23 h=> ?_) (λ C h=> ?_))))))))))
   .refine sr (qa (.xi 0) rfl (gc (zaq (zey (m_ref21_Compile_L2 y20 k23) (m_ref21_Compile_B2 y20 k23) (λ _ _=>rfl) (λ m _ _=>rfl) h (λ(B:Int) (g:Int)=>(pt (pt (pt (pt (pt (pt (pt AF0 2 (.xi a2)) 3 (.ptr (zcw a0))) 6 (pA b1 0)) 8 (pA b13 0)) 9 (pA b22 0)) 10 (.xi B)) 11 (.xi g))) (λ(B:Int) (g:Int)=>[boxI 29 b1 [.exact (.slice none 0 0), .exact (.slice none 0 0)],boxI 65 b13 [.row 6 zbu y20.2.1.1, .row 4 zbs y20.2.1.2.1, .row 6 zbh y20.2.1.2.2.1, .row 1 zab y20.2.1.2.2.2, .row 4 zas y20.2.2.1, .xi y20.2.2.2],boxI 36 b22 [.exact (.slice none 0 0)]]) ?_ (λ ag B g h=> ?_)))))
    .refine Sub.trans (SubU.to SubU.f1) (Sub.trans (SubU.to SubU.f2) (so (l4 rfl rfl rfl rfl (lq rfl (lq rfl (lq rfl lt0))))))
    .unfold m_ref21_Compile_B2 at h
     refine zan (sr (qm (.xi g) rfl (qm (pA b13 0) rfl (gq (zes rfl (gq (zba (o:=4) (by kernel_rfl) rfl (G_r rfl (opR_f1 (zaz (a:= .row 4 zas y20.2.2.1) (by kernel_rfl) rfl rfl (gq (zao (by kernel_rfl) rfl (gq (zbm rfl rfl (gc (kd (p:=g<(List.length y20.2.2.1:Int)) rfl h (λ hc h=> ?_) (λ hc h=> ?_)))))))))))))))))
     .refine zap (zaf (zax h (λ(J:Int)=>(pt (pt (pt (pt (pt (pt (pt AF0 2 (.xi a2)) 3 (.ptr (zcw a0))) 6 (pA b1 0)) 8 (pA b13 0)) 9 (pA b22 0)) 10 (.xi J)) 11 (.xi g))) (λ(J:Int)=>[boxI 29 b1 [.exact (.slice none 0 0), .exact (.slice none 0 0)],boxI 65 b13 [.row 6 zbu y20.2.1.1, .row 4 zbs y20.2.1.2.1, .row 6 zbh y20.2.1.2.2.1, .row 1 zab y20.2.1.2.2.2, .row 4 zas y20.2.2.1, .xi y20.2.2.2],boxI 36 b22 [.exact (.slice none 0 0)]]) (λ k70 h=> ?_) (λ J h=> ?_)))
      .refine zaq (kr (qm (.xi B) rfl (qm (pA b13 0) rfl (gq (zes rfl (gq (zba (o:=4) (by kernel_rfl) rfl (G_r rfl (opR_f1 (zaz (a:= .row 4 zas y20.2.2.1) (by kernel_rfl) rfl rfl (qm (.xi g) rfl ?_)))))))))))
       obtain⟨n75,h⟩:=zad h
       refine gq (zai (by kernel_rfl) rfl rfl n75.1 n75.2 (gq (zaj (o:=3) (c':=(List.drop 3 (zas (gi y20.2.2.1 g)))) (by kernel_rfl) rfl rfl (gq (zak (a:= .xb ((gi y20.2.2.1 g).2.2.2)) (by kernel_rfl) rfl rfl (gq (zdh rfl (qm (.xb (!((gi y20.2.2.1 g).2.2.2))) rfl (zfl (c:= !((gi y20.2.2.1 g).2.2.2)) 70 rfl (λ hc=> ?_) (λ hc=> ?_))))))))))
       .replace h:=zcg h hc
        refine gy (zah (av:=pA b13 0) rfl (gy (zah (av:= .xi g) rfl ?_)))
        obtain⟨y76,X,h⟩:=zae h
        refine Gy_l rfl rfl rfl (opB_f1 (zdg (m_ref21_builder_under_ok _ _ _ X) func21 (by kernel_rfl) (lc lf (lc lf ln)) (gq (zat rfl (av:= .xb y76) rfl ?_))))
        obtain⟨y77,Y,h⟩:=zae h
        refine gq (zal (m_ref21_b2i_ok _ _ Y) func20 (by kernel_rfl) (lc lf ln) (gq (zbo rfl rfl rfl (qa (.xi (i64 (B+y77))) rfl (zbc (zau (zaa ⟨_,h, ?_⟩)))))))
        refine Sub.trans (SubU.to SubU.f2) (Sub.trans (SubU.to SubU.f1) (Sub.trans (SubU.to SubU.f2) (so (l4 rfl rfl rfl rfl (lq rfl (lq rfl (lq rfl lt0)))))))
       .replace h:=zcf h hc
        refine gn (gn (gn (gq (zar rfl (av:= .xb false) rfl ?_))))
        obtain⟨y78,Z,h⟩:=zae h
        refine gq (zal (m_ref21_b2i_ok _ _ Z) func20 (by kernel_rfl) (lc lf ln) (gq (zbo rfl rfl rfl (qa (.xi (i64 (B+y78))) rfl (zbc (zau (zaa ⟨_,h,so (l4 rfl rfl rfl rfl (lq rfl (lq rfl (lq rfl lt0))))⟩)))))))
      .refine kr (qm (.xi g) rfl (gq (zbo rfl rfl rfl (qa (.xi (i64 (g+1))) rfl (zbc (zaa ⟨_,_,h,so (l4 rfl rfl rfl rfl (lq rfl (lq rfl (lq rfl lt0))))⟩))))))
     .refine zbr (zbi (zbk (zbj (zaa ⟨_,h,so (l4 rfl rfl rfl rfl (lq rfl (lq rfl lt0)))⟩))))
   .refine zan (sr (qm (.xi C) rfl (gq (zfx rfl rfl (gc (kd (p:=12<C) rfl h (λ hc h=> ?_) (λ hc h=> ?_)))))))
    .refine zan ?_
     cases h
    .refine zap (zaf (sr (qm (pA b13 0) rfl (G_sub rfl (SubU.nilT (P:=Tryz.prog) (t:=36) (n:=1) (enc:=zab)) ?_))))
     obtain⟨y80,aa,h⟩:=zae h
     refine G_l rfl (opB_f3 (opB_f3 (op_fun_3_1_3 (m_ref21_builder_shape_ok _ _ _ _ aa) func22 (by kernel_rfl) (lc lf (lc lf (lc lf ln))) (λ q81v0=>qa (.xs y80.1) rfl (gc (zan (sr (qm (.xs y80.1) rfl (gq (op_eqlS rfl rfl (gc (kd (p:=y80.1=([]:List UInt8)) rfl h (λ hc h=> ?_) (λ hc h=> ?_)))))))))))))
     .refine zan ?_
      cases h
     .refine zap (zaf (sr (G_l rfl (zel (c:=[.exact (.slice none 0 0), .exact (.slice none 0 0)]) rfl (lc lf (lc lf ln)) (λ b82=>gd (qa (.exact (.slice none 0 0)) rfl (gc (k_join2_2 h (λ(e:List ((List (List (Int×Int)))×(List (List UInt8)))) (K:List (List Int)) (v13_0_j83:Value) (v14_j83:Value)=>(pt (pt (pt (pt (pt AF0 6 (pA b1 0)) 9 (pA b22 0)) 12 (.xs y80.1)) 13 (pA b82 0)) 14 (.exact v14_j83))) (λ(e:List ((List (List (Int×Int)))×(List (List UInt8)))) (K:List (List Int)) (v13_0_j83:Value) (v14_j83:Value)=>[boxI 29 b1 [.exact (.slice none 0 0), .exact (.slice none 0 0)],vecT Tryz.prog 36 1 zab q81v0 y80.2,boxI 36 b22 [.exact q81v0],vecT Tryz.prog 26 2 zbd v13_0_j83 e,boxI 29 b82 [.exact v13_0_j83, .exact (.slice none 0 0)],vecT Tryz.prog 73 1 zdz v14_j83 K]) (λ k83 h=> ?_) (λ e K v13_0_j83 v14_j83 h=> ?_)))))))))
      .refine sr (qa (.xi 0) rfl (gc (zaq (k_loop3_2 (m_ref21_Compile_L4 a0 a2 y80 k83) (m_ref21_Compile_B4 a0 a2 y80 k83) (λ _ _ _=>rfl) (λ m _ _ _=>rfl) h (λ(L:List ((List (List (Int×Int)))×(List (List UInt8)))) (M:List (List Int)) (w:Int) (v13_0_l4:Value) (v14_l4:Value)=>(pt (pt (pt (pt (pt (pt (pt (pt AF0 2 (.xi a2)) 3 (.ptr (zcw a0))) 6 (pA b1 0)) 9 (pA b22 0)) 12 (.xs y80.1)) 13 (pA b82 0)) 14 (.exact v14_l4)) 15 (.xi w))) (λ(L:List ((List (List (Int×Int)))×(List (List UInt8)))) (M:List (List Int)) (w:Int) (v13_0_l4:Value) (v14_l4:Value)=>[boxI 29 b1 [.exact (.slice none 0 0), .exact (.slice none 0 0)],vecT Tryz.prog 36 1 zab q81v0 y80.2,boxI 36 b22 [.exact q81v0],vecT Tryz.prog 26 2 zbd v13_0_l4 L,boxI 29 b82 [.exact v13_0_l4, .exact (.slice none 0 0)],vecT Tryz.prog 73 1 zdz v14_l4 M]) (.slice none 0 0) (.slice none 0 0) ?_ (λ ah L M w v13_0_l4 v14_l4 h=> ?_)))))
       .refine Sub.trans (SubU.to SubU.f1) (Sub.trans (SubU.to SubU.drop) (Sub.trans (SubU.to (SubU.nilT (P:=Tryz.prog) (t:=26) (n:=2) (enc:=zbd))) (Sub.trans (SubU.to (SubU.nilT (P:=Tryz.prog) (t:=73) (n:=1) (enc:=zdz))) (Sub.trans (SubU.to SubU.f2) (Sub.trans (SubU.to SubU.f2) (Sub.trans (SubU.to SubU.f3) (Sub.trans (SubU.to SubU.f4) (Sub.trans (SubU.to SubU.f5) (so (l4 rfl rfl rfl rfl (l4 rfl rfl rfl rfl lt0)))))))))))
       .unfold m_ref21_Compile_B4 at h
        refine zan (sr (qm (.xi w) rfl (G_r rfl (opR_f2 (zaz (a:= .exact q81v0) (by kernel_rfl) rfl rfl (G_r rfl (opR_f1 (zcl (by kernel_rfl) rfl (gq (zbm rfl rfl (gc (kd (p:=w<(List.length y80.2:Int)) rfl h (λ hc h=> ?_) (λ hc h=> ?_)))))))))))))
        .refine zap (zaf (zan (zaq (zan (zck [boxI 36 b22 [.exact q81v0],vecT Tryz.prog 36 1 zab q81v0 y80.2] [(0,0),(0,2),(0,5),(4,1),(4,3),(4,4),(0,6),(0,7),(0,8),(0,9),(0,10),(0,11),(3,12),(2,13),(0,14),(0,15),(0,16)] hmixP (by kernel_rfl) (pq rfl (zbx (m:=4) (c':=zcw a0) (by kernel_rfl) rfl rfl rfl (pq rfl (zah (av:= .xi w) rfl (pq rfl (zah (av:= .xi a2) rfl (P_r4 (Has.cons (List.Mem.tail _ (List.Mem.tail _ (List.Mem.head _))) (Has.cons (List.Mem.tail _ (List.Mem.head _)) Has.mk0)) rfl (opI_mk (List.Mem.head _) (λ _=>zaz (a:= .exact q81v0) (by kernel_rfl) rfl rfl rfl) ?_)))))))))))))
         obtain⟨n125,h⟩:=zad h
         refine P_r4 (Has.cons (List.Mem.tail _ (List.Mem.tail _ (List.Mem.head _))) (Has.cons (List.Mem.tail _ (List.Mem.head _)) Has.mk0)) rfl (opI_mk (List.Mem.tail _ (List.Mem.head _)) (λ _=>zbl (by kernel_rfl) rfl rfl n125.1 n125.2 rfl) (P_r4 (Has.cons (List.Mem.tail _ (List.Mem.tail _ (List.Mem.head _))) (Has.cons (List.Mem.tail _ (List.Mem.head _)) Has.mk0)) rfl (opI_mk (List.Mem.tail _ (List.Mem.head _)) (λ _=>zcs (i:=w) (o:=0) (a:= .xs (gi y80.2 w)) (by kernel_rfl) zbt rfl n125.1 n125.2 rfl rfl) ?_)))
         obtain⟨y126,ab,h⟩:=zae h
         refine pq rfl (zal (m_ref18_Explore_ok _ _ _ _ ab) func23 (by kernel_rfl) (lc lf (lc lf (lc lf ln))) (pq rfl (zah (av:= .tup [.agg (zef y126.1), .row 1 zab y126.2.1, .xi y126.2.2.1, .xi y126.2.2.2]) rfl (pq rfl (zbq (av:= .agg (zef y126.1)) rfl rfl (pq rfl (zbq (av:= .row 1 zab y126.2.1) rfl rfl (pq rfl (zbq (av:= .xi y126.2.2.1) rfl rfl (pq rfl (zbq (av:= .xi y126.2.2.2) rfl rfl (P_l3 rfl (zel (c:=[.row 1 zby ([]:(List (List (Int×Int))))]) rfl (lc (zcy (by decide)) ln) (λ b127=>⟨(Has.cons (List.Mem.tail _ (List.Mem.tail _ (List.Mem.tail _ (List.Mem.head _)))) (Has.cons (List.Mem.tail _ (List.Mem.tail _ (List.Mem.head _))) Has.mk0)), ?_⟩))))))))))))))
         refine P_l rfl (zbz (c':=[.row 1 zby y126.1]) (c3:=[.row 1 zby y126.1]) rfl rfl CellsOf.agg (lc lf ln) (oc_c_api_LTS _) (by kernel_rfl) (Nat.le_of_ble_eq_true rfl) rfl (pq rfl (zcj (av:= .row 1 zab y126.2.1) rfl (pq rfl (zcj (av:= .xi y126.2.2.1) rfl (pq rfl (zcj (av:= .xi y126.2.2.2) rfl (zcn (zaf (zan (sr (qm (.xi y126.2.2.2) rfl (gq (zfr rfl rfl (gc (kd (p:= ¬y126.2.2.2=0) rfl h (λ hc h=> ?_) (λ hc h=> ?_)))))))))))))))))
         .refine zan ?_
          cases h
         .refine zap (zaf (sr (gq (zba (o:=0) (by kernel_rfl) rfl (G_r rfl (opR_f5 (zaz (a:= .exact v13_0_l4) (by kernel_rfl) rfl rfl (G_r rfl (zei (m:=1) (c':=zef y126.1) (by kernel_rfl) rfl rfl rfl (qm (.row 1 zab y126.2.1) rfl (gq (zft (c':=zbd (y126.1,y126.2.1)) (CellsAll.cons rfl CellsOf.agg (CellsAll.cons rfl CellsOf.row CellsAll.nil)) rfl (lc lf (lc lf ln)) (gq (zcd (n:=2) (enc:=zbd) [(y126.1,y126.2.1)] (CellsAll.cons rfl CellsOf.agg CellsAll.nil) rfl (by kernel_rfl) (LEss.cons (lc lf (lc lf ln)) LEss.nil) ?_))))))))))))))
          obtain⟨n128,h⟩:=zad h
          refine G_l rfl (opB_f4 (zcu (by kernel_rfl) rfl rfl oc_c_api_Component n128 (λ v129=>gq (zba (o:=0) (by kernel_rfl) rfl (G_l rfl (opB_sl (List.Mem.head _) (λ hsl=>(opB_f5 (zbz (c':=[.exact v129]) (c3:=[.exact v129, .exact (.slice none 0 0)]) rfl rfl (CellsOf.sl hsl) (lc lf ln) (OneC.sl hsl OneC.nil) (by kernel_rfl) (Nat.le_of_ble_eq_true rfl) rfl (gc (kr (qm (.exact v14_l4) rfl (G_r rfl (opR_f2 (zei (m:=1) (c':=zef y126.1) (by kernel_rfl) rfl rfl rfl ?_)))))))))))))))
          obtain⟨y130,ac,h⟩:=zae h
          refine gq (zal (m_ref21_performed_ok _ _ ac) func24 (by kernel_rfl) (lc lf ln) (gq (zcd (n:=1) (enc:=zdz) [y130] (CellsAll.cons rfl CellsOf.row CellsAll.nil) rfl (by kernel_rfl) (LEss.cons (lc lf ln) LEss.nil) ?_)))
          obtain⟨n131,h⟩:=zad h
          refine G_l rfl (opB_f6 (zcu (by kernel_rfl) rfl rfl oc_c_L_int n131 (λ v132=>qa (.exact v132) rfl (zbc (zau (zaf (kr (qm (.xi w) rfl (gq (zbo rfl rfl rfl (qa (.xi (i64 (w+1))) rfl (zbc (zaa ⟨_,_,_,v129,v132,h, ?_⟩)))))))))))))
          refine Sub.trans (SubU.to SubU.f3) (Sub.trans (SubU.to SubU.drop) (Sub.trans (SubU.to SubU.f1) (Sub.trans (SubU.to SubU.f2) (Sub.trans (SubU.to SubU.f5) (Sub.trans (SubU.to SubU.f5) (Sub.trans (SubU.to SubU.f5) (so (l4 rfl rfl rfl rfl (l4 rfl rfl rfl rfl lt0)))))))))
        .refine zbr (zbi (zbk (zbj (zaa ⟨_,_,v13_0_l4,v14_l4,h,so (l4 rfl rfl rfl rfl (lq rfl lt0))⟩))))
      .refine sr (qm (.xs y80.1) rfl (G_l rfl (op_litI (n:=1) (enc:=zab) [y80.1] (by kernel_rfl) (CellsAll.cons rfl CellsOf.str CellsAll.nil) rfl (by kernel_rfl) (LEss.cons (lc lf ln) LEss.nil) (λ v133=>qa (.exact v133) rfl (gd (qa (.xi 0) rfl (gc (zcb h (λ(u:List ((List UInt8)×(List Bool)×(List ((List Int)×Int×Int)))) (v13_1_j134:Value)=>(pt (pt AF0 6 (pA b1 0)) 13 (pA b82 0))) (λ(u:List ((List UInt8)×(List Bool)×(List ((List Int)×Int×Int)))) (v13_1_j134:Value)=>[boxI 29 b1 [.exact (.slice none 0 0), .exact (.slice none 0 0)],vecT Tryz.prog 26 2 zbd v13_0_j83 e,vecT Tryz.prog 27 3 zaw v13_1_j134 u,boxI 29 b82 [.exact v13_0_j83, .exact v13_1_j134]]) (λ k134 h=> ?_) (λ u v13_1_j134 h=> ?_)))))))))
       .refine sr (qa (.xi 0) rfl (gc (zaq (k_loop5_2 (m_ref21_Compile_L162 y80 k134) (m_ref21_Compile_B162 y80 k134) (λ _ _ _ _ _=>rfl) (λ m _ _ _ _ _=>rfl) h (λ(v:List ((List UInt8)×(List Bool)×(List ((List Int)×Int×Int)))) (k:List (List Int)) (D:List (List UInt8)) (f:Int) (b:Int) (v13_1_l162:Value) (v20_l162:Value)=>(pt (pt (pt (pt (pt (pt (pt AF0 6 (pA b1 0)) 9 (pA b22 0)) 13 (pA b82 0)) 14 (.row 1 zdz k)) 20 (.exact v20_l162)) 21 (.xi f)) 22 (.xi b))) (λ(v:List ((List UInt8)×(List Bool)×(List ((List Int)×Int×Int)))) (k:List (List Int)) (D:List (List UInt8)) (f:Int) (b:Int) (v13_1_l162:Value) (v20_l162:Value)=>[boxI 29 b1 [.exact (.slice none 0 0), .exact (.slice none 0 0)],vecT Tryz.prog 36 1 zab q81v0 y80.2,boxI 36 b22 [.exact q81v0],vecT Tryz.prog 26 2 zbd v13_0_j83 e,vecT Tryz.prog 27 3 zaw v13_1_l162 v,boxI 29 b82 [.exact v13_0_j83, .exact v13_1_l162],vecT Tryz.prog 36 1 zab v20_l162 D]) (.slice none 0 0) v133 ?_ (λ ai v k D f b v13_1_l162 v20_l162 h=> ?_)))))
        .refine Sub.trans (SubU.to SubU.f6) (Sub.trans (SubU.to (SubU.freezeT (s:=14) rfl len_c_L_int)) (Sub.trans (SubU.to (SubU.nilT (P:=Tryz.prog) (t:=27) (n:=3) (enc:=zaw))) (Sub.trans (SubU.to SubU.f1) (Sub.trans (SubU.to SubU.f6) (Sub.trans (SubU.to SubU.f2) (Sub.trans (SubU.to SubU.f6) (Sub.trans (SubU.to SubU.f6) (Sub.trans (SubU.to SubU.f6) (Sub.trans (SubU.to SubU.f6) (so (l4 rfl rfl rfl rfl (lq rfl (lq rfl (lq rfl lt0))))))))))))))
        .unfold m_ref21_Compile_B162 at h
         refine zan (sr (qm (.xi b) rfl (qm (.exact v20_l162) rfl (G_r rfl (opR_f6 (zcl (by kernel_rfl) rfl (gq (zbm rfl rfl (gc (kd (p:=b<(List.length D:Int)) rfl h (λ hc h=> ?_) (λ hc h=> ?_)))))))))))
         .refine zap (zaf (k_join3_2 h (λ(N:List ((List UInt8)×(List Bool)×(List ((List Int)×Int×Int)))) (O:List (List UInt8)) (Q:Int) (v13_1_j9631:Value) (v20_j9631:Value)=>(pt (pt (pt (pt (pt (pt (pt AF0 6 (pA b1 0)) 9 (pA b22 0)) 13 (pA b82 0)) 14 (.row 1 zdz k)) 20 (.exact v20_j9631)) 21 (.xi Q)) 22 (.xi b))) (λ(N:List ((List UInt8)×(List Bool)×(List ((List Int)×Int×Int)))) (O:List (List UInt8)) (Q:Int) (v13_1_j9631:Value) (v20_j9631:Value)=>[boxI 29 b1 [.exact (.slice none 0 0), .exact (.slice none 0 0)],vecT Tryz.prog 36 1 zab q81v0 y80.2,boxI 36 b22 [.exact q81v0],vecT Tryz.prog 26 2 zbd v13_0_j83 e,vecT Tryz.prog 27 3 zaw v13_1_j9631 N,boxI 29 b82 [.exact v13_0_j83, .exact v13_1_j9631],vecT Tryz.prog 36 1 zab v20_j9631 O]) (λ k9631 h=> ?_) (λ N O Q v13_1_j9631 v20_j9631 h=> ?_)))
          .refine zaq (sr (qm (.exact v20_l162) rfl (qm (.xi b) rfl ?_)))
           obtain⟨n10581,h⟩:=zad h
           refine G_r rfl (opR_f6 (zbl (by kernel_rfl) rfl rfl n10581.1 n10581.2 (G_r rfl (opR_f6 (zcs (i:=b) (o:=0) (a:= .xs (gi D b)) (by kernel_rfl) zbt rfl n10581.1 n10581.2 rfl (qm (.row 1 zdz k) rfl ?_))))))
           obtain⟨y10582,ad,h⟩:=zae h
           refine G_l rfl (op_fun_0_2_2 (m_ref21_Rules_ok _ _ _ ad) func25 (by kernel_rfl) (lc lf (lc lf ln)) (λ v10583 v10584=>qm (.tup [.exact v10583, .exact v10584, .xi y10582.2.2]) rfl (gq (zbq (av:= .exact v10583) rfl rfl (gq (zbq (av:= .exact v10584) rfl rfl (gq (zbq (av:= .xi y10582.2.2) rfl rfl (qa (.exact v10583) rfl (qa (.exact v10584) rfl (qa (.xi y10582.2.2) rfl (gd (qm (.xi f) rfl (qm (.exact v10583) rfl (G_r rfl (zcl (by kernel_rfl) rfl (gq (zbo rfl rfl rfl (qa (.xi (i64 (f+(List.length y10582.1:Int)))) rfl (gc (k_join2_1 h (λ(y:List (List UInt8)) (F:List ((List Int)×Int×Int)) (v20_j10585:Value)=>(pt (pt (pt (pt (pt (pt (pt (pt AF0 6 (pA b1 0)) 9 (pA b22 0)) 13 (pA b82 0)) 14 (.row 1 zdz k)) 20 (.exact v20_j10585)) 21 (.xi (i64 (f+(List.length y10582.1:Int))))) 22 (.xi b)) 23 (.exact v10583))) (λ(y:List (List UInt8)) (F:List ((List Int)×Int×Int)) (v20_j10585:Value)=>[boxI 29 b1 [.exact (.slice none 0 0), .exact (.slice none 0 0)],vecT Tryz.prog 36 1 zab q81v0 y80.2,boxI 36 b22 [.exact q81v0],vecT Tryz.prog 26 2 zbd v13_0_j83 e,vecT Tryz.prog 27 3 zaw v13_1_l162 v,boxI 29 b82 [.exact v13_0_j83, .exact v13_1_l162],vecT Tryz.prog 36 1 zab v20_j10585 y,vecT Tryz.prog 82 3 zay v10583 F]) (λ k10585 h=> ?_) (λ y F v20_j10585 h=> ?_))))))))))))))))))))))
           .refine sr (qa (.xi 0) rfl (gc (zaq (k_loop3_1 (m_ref21_Compile_L306 y10582 k10585) (m_ref21_Compile_B306 y10582 k10585) (λ _ _ _=>rfl) (λ m _ _ _=>rfl) h (λ(l:List (List UInt8)) (x:List ((List Int)×Int×Int)) (d:Int) (v20_l306:Value)=>(pt (pt (pt (pt (pt (pt (pt (pt (pt (pt AF0 6 (pA b1 0)) 9 (pA b22 0)) 13 (pA b82 0)) 14 (.row 1 zdz k)) 20 (.exact v20_l306)) 21 (.xi (i64 (f+(List.length y10582.1:Int))))) 22 (.xi b)) 23 (.exact v10583)) 24 (.exact v10584)) 26 (.xi d))) (λ(l:List (List UInt8)) (x:List ((List Int)×Int×Int)) (d:Int) (v20_l306:Value)=>[boxI 29 b1 [.exact (.slice none 0 0), .exact (.slice none 0 0)],vecT Tryz.prog 36 1 zab q81v0 y80.2,boxI 36 b22 [.exact q81v0],vecT Tryz.prog 26 2 zbd v13_0_j83 e,vecT Tryz.prog 27 3 zaw v13_1_l162 v,boxI 29 b82 [.exact v13_0_j83, .exact v13_1_l162],vecT Tryz.prog 36 1 zab v20_l306 l,vecT Tryz.prog 82 3 zay v10583 x,vecT Tryz.prog 36 1 zab v10584 y10582.2.1]) v20_l162 ?_ (λ aj l x d v20_l306 h=> ?_)))))
            .refine Sub.trans (SubU.to SubU.f1) (Sub.trans (SubU.to SubU.f1) (Sub.trans (SubU.to SubU.f8) (Sub.trans (SubU.to SubU.f8) (Sub.trans (SubU.to SubU.f8) (Sub.trans (SubU.to SubU.f8) (Sub.trans (SubU.to SubU.f8) (Sub.trans (SubU.to SubU.f8) (Sub.trans (SubU.to SubU.f8) (so (l4 rfl rfl rfl rfl (l4 rfl rfl rfl rfl (lq rfl (lq rfl lt0)))))))))))))
            .unfold m_ref21_Compile_B306 at h
             refine zan (sr (qm (.xi d) rfl (qm (.exact v10583) rfl (G_r rfl (opR_f7 (zcl (by kernel_rfl) rfl (gq (zbm rfl rfl (gc (kd (p:=d<(List.length x:Int)) rfl h (λ hc h=> ?_) (λ hc h=> ?_)))))))))))
             .refine zap (zaf (k_join2_1 h (λ(R:List (List UInt8)) (S:List ((List Int)×Int×Int)) (v20_j11362:Value)=>(pt (pt (pt (pt (pt (pt (pt (pt (pt (pt AF0 6 (pA b1 0)) 9 (pA b22 0)) 13 (pA b82 0)) 14 (.row 1 zdz k)) 20 (.exact v20_j11362)) 21 (.xi (i64 (f+(List.length y10582.1:Int))))) 22 (.xi b)) 23 (.exact v10583)) 24 (.exact v10584)) 26 (.xi d))) (λ(R:List (List UInt8)) (S:List ((List Int)×Int×Int)) (v20_j11362:Value)=>[boxI 29 b1 [.exact (.slice none 0 0), .exact (.slice none 0 0)],vecT Tryz.prog 36 1 zab q81v0 y80.2,boxI 36 b22 [.exact q81v0],vecT Tryz.prog 26 2 zbd v13_0_j83 e,vecT Tryz.prog 27 3 zaw v13_1_l162 v,boxI 29 b82 [.exact v13_0_j83, .exact v13_1_l162],vecT Tryz.prog 36 1 zab v20_j11362 R,vecT Tryz.prog 82 3 zay v10583 S,vecT Tryz.prog 36 1 zab v10584 y10582.2.1]) (λ k11362 h=> ?_) (λ R S v20_j11362 h=> ?_)))
              .refine zaq (sr (qa (.xi 0) rfl (gc (zax h (λ(A:Int)=>(pt (pt (pt (pt (pt (pt (pt (pt (pt (pt (pt AF0 6 (pA b1 0)) 9 (pA b22 0)) 13 (pA b82 0)) 14 (.row 1 zdz k)) 20 (.exact v20_l306)) 21 (.xi (i64 (f+(List.length y10582.1:Int))))) 22 (.xi b)) 23 (.exact v10583)) 24 (.exact v10584)) 26 (.xi d)) 27 (.xi A))) (λ(A:Int)=>[boxI 29 b1 [.exact (.slice none 0 0), .exact (.slice none 0 0)],vecT Tryz.prog 36 1 zab q81v0 y80.2,boxI 36 b22 [.exact q81v0],vecT Tryz.prog 26 2 zbd v13_0_j83 e,vecT Tryz.prog 27 3 zaw v13_1_l162 v,boxI 29 b82 [.exact v13_0_j83, .exact v13_1_l162],vecT Tryz.prog 36 1 zab v20_l306 l,vecT Tryz.prog 82 3 zay v10583 x,vecT Tryz.prog 36 1 zab v10584 y10582.2.1]) (λ k11440 h=> ?_) (λ A h=> ?_)))))
               .refine zaq (zcr (m_ref21_Compile_L318 y10582 l d k11440) (m_ref21_Compile_B318 y10582 l d k11440) (λ _=>rfl) (λ m _=>rfl) h (λ(q:Int)=>(pt (pt (pt (pt (pt (pt (pt (pt (pt (pt (pt AF0 6 (pA b1 0)) 9 (pA b22 0)) 13 (pA b82 0)) 14 (.row 1 zdz k)) 20 (.exact v20_l306)) 21 (.xi (i64 (f+(List.length y10582.1:Int))))) 22 (.xi b)) 23 (.exact v10583)) 24 (.exact v10584)) 26 (.xi d)) 27 (.xi q))) (λ(q:Int)=>[boxI 29 b1 [.exact (.slice none 0 0), .exact (.slice none 0 0)],vecT Tryz.prog 36 1 zab q81v0 y80.2,boxI 36 b22 [.exact q81v0],vecT Tryz.prog 26 2 zbd v13_0_j83 e,vecT Tryz.prog 27 3 zaw v13_1_l162 v,boxI 29 b82 [.exact v13_0_j83, .exact v13_1_l162],vecT Tryz.prog 36 1 zab v20_l306 l,vecT Tryz.prog 82 3 zay v10583 x,vecT Tryz.prog 36 1 zab v10584 y10582.2.1]) ?_ (λ ak q h=> ?_))
                .exact so (l4 rfl rfl rfl rfl (l4 rfl rfl rfl rfl (lq rfl (lq rfl (lq rfl lt0)))))
                .unfold m_ref21_Compile_B318 at h
                 refine zan (zax h (λ(H:Bool)=>(pt (pt (pt (pt (pt (pt (pt (pt (pt (pt (pt (pt AF0 6 (pA b1 0)) 9 (pA b22 0)) 13 (pA b82 0)) 14 (.row 1 zdz k)) 20 (.exact v20_l306)) 21 (.xi (i64 (f+(List.length y10582.1:Int))))) 22 (.xi b)) 23 (.exact v10583)) 24 (.exact v10584)) 26 (.xi d)) 27 (.xi q)) 162 (.xb H))) (λ(H:Bool)=>[boxI 29 b1 [.exact (.slice none 0 0), .exact (.slice none 0 0)],vecT Tryz.prog 36 1 zab q81v0 y80.2,boxI 36 b22 [.exact q81v0],vecT Tryz.prog 26 2 zbd v13_0_j83 e,vecT Tryz.prog 27 3 zaw v13_1_l162 v,boxI 29 b82 [.exact v13_0_j83, .exact v13_1_l162],vecT Tryz.prog 36 1 zab v20_l306 l,vecT Tryz.prog 82 3 zay v10583 x,vecT Tryz.prog 36 1 zab v10584 y10582.2.1]) (λ k11503 h=> ?_) (λ H h=> ?_))
                 .refine zck [] [(0,0),(0,1),(1,2),(0,3),(0,4),(0,5),(0,6),(0,9),(0,10),(1,7),(1,8),(1,11),(1,12),(0,13),(0,14)] hmixP (by kernel_rfl) (pq rfl (zah (av:= .xi q) rfl (pq rfl (zah (av:= .exact v20_l306) rfl (P_r rfl (opR_f6 (zcl (by kernel_rfl) rfl (pq rfl (zbm rfl rfl (pq rfl (zah (av:= .xb (decide (q<(List.length l:Int)))) rfl (zfd (p:=q<(List.length l:Int)) 152 rfl (λ hc=> ?_) (λ hc=> ?_)))))))))))))
                  .replace h:=zcg h hc
                   refine py rfl (zah (av:= .exact v20_l306) rfl (py rfl (zah (av:= .xi q) rfl (py rfl (zah (av:= .exact v10584) rfl (py rfl (zah (av:= .xi d) rfl ?_)))))))
                   obtain⟨n11506,h⟩:=zad h
                   refine Py_r rfl rfl rfl (opR_f6 (zbl (by kernel_rfl) rfl rfl n11506.1 n11506.2 (Py_r rfl rfl rfl (opR_f6 (zcs (i:=q) (o:=0) (a:= .xs (gi l q)) (by kernel_rfl) zbt rfl n11506.1 n11506.2 rfl ?_)))))
                   obtain⟨n11507,h⟩:=zad h
                   refine Py_r rfl rfl rfl (opR_f8 (zbl (by kernel_rfl) rfl rfl n11507.1 n11507.2 (Py_r rfl rfl rfl (opR_f8 (zcs (i:=d) (o:=0) (a:= .xs (gi y10582.2.1 d)) (by kernel_rfl) zbt rfl n11507.1 n11507.2 rfl (py rfl (op_neqS rfl rfl (pq rfl (zat rfl (av:= .xb (decide (¬(gi l q)=(gi y10582.2.1 d)))) rfl (zcn (zaa ⟨_,h,so (l4 rfl rfl rfl rfl (l4 rfl rfl rfl rfl (l4 rfl rfl rfl rfl lt0)))⟩)))))))))))
                  .replace h:=zcf h hc
                   refine pn rfl (pn rfl (pn rfl (pn rfl (P_n zdl rfl rfl rfl (P_n zdl rfl rfl rfl (P_n zdl rfl rfl rfl (P_n zdl rfl rfl rfl (pn rfl (pq rfl (zar rfl (av:= .xb false) rfl (zcn (zaa ⟨_,h,so (l4 rfl rfl rfl rfl (l4 rfl rfl rfl rfl (l4 rfl rfl rfl rfl lt0)))⟩))))))))))))
                 .refine kb (p:=H) rfl h (λ hc h=> ?_) (λ hc h=> ?_)
                  .refine zap (zaf (zaq (kr (qm (.xi q) rfl (gq (zbo rfl rfl rfl (qa (.xi (i64 (q+1))) rfl (zbc (zau (zaa ⟨_,h,so (l4 rfl rfl rfl rfl (l4 rfl rfl rfl rfl (lq rfl (lq rfl (lq rfl lt0)))))⟩))))))))))
                  .refine zbr (zbi (zbk (zbj (zaa ⟨_,h,so (l4 rfl rfl rfl rfl (l4 rfl rfl rfl rfl (lq rfl (lq rfl (lq rfl lt0)))))⟩))))
               .refine zcb h (λ(T:List (List UInt8)) (v20_j11508:Value)=>(pt (pt (pt (pt (pt (pt (pt (pt (pt (pt (pt AF0 6 (pA b1 0)) 9 (pA b22 0)) 13 (pA b82 0)) 14 (.row 1 zdz k)) 20 (.exact v20_j11508)) 21 (.xi (i64 (f+(List.length y10582.1:Int))))) 22 (.xi b)) 23 (.exact v10583)) 24 (.exact v10584)) 26 (.xi d)) 27 (.xi A))) (λ(T:List (List UInt8)) (v20_j11508:Value)=>[boxI 29 b1 [.exact (.slice none 0 0), .exact (.slice none 0 0)],vecT Tryz.prog 36 1 zab q81v0 y80.2,boxI 36 b22 [.exact q81v0],vecT Tryz.prog 26 2 zbd v13_0_j83 e,vecT Tryz.prog 27 3 zaw v13_1_l162 v,boxI 29 b82 [.exact v13_0_j83, .exact v13_1_l162],vecT Tryz.prog 36 1 zab v20_j11508 T,vecT Tryz.prog 82 3 zay v10583 x,vecT Tryz.prog 36 1 zab v10584 y10582.2.1]) (λ k11508 h=> ?_) (λ T v20_j11508 h=> ?_)
                .refine sr (qm (.xi A) rfl (qm (.exact v20_l306) rfl (G_r rfl (opR_f6 (zcl (by kernel_rfl) rfl (gq (zbf rfl rfl (gc (kd (p:=A=(List.length l:Int)) rfl h (λ hc h=> ?_) (λ hc h=> ?_))))))))))
                 .refine kr (qm (.exact v20_l306) rfl (qm (.exact v10584) rfl (qm (.xi d) rfl ?_)))
                  obtain⟨n11512,h⟩:=zad h
                  refine G_r rfl (opR_f8 (zbl (by kernel_rfl) rfl rfl n11512.1 n11512.2 (G_r rfl (opR_f8 (zcs (i:=d) (o:=0) (a:= .xs (gi y10582.2.1 d)) (by kernel_rfl) zbt rfl n11512.1 n11512.2 rfl (gq (zcd (n:=1) (enc:=zab) [gi y10582.2.1 d] (CellsAll.cons rfl CellsOf.str CellsAll.nil) rfl (by kernel_rfl) (LEss.cons (lc lf ln) LEss.nil) ?_)))))))
                  obtain⟨n11513,h⟩:=zad h
                  refine G_l rfl (opB_f6 (zcu (by kernel_rfl) rfl rfl zco n11513 (λ v11514=>qa (.exact v11514) rfl (zbc (zaa ⟨_,v11514,h, ?_⟩)))))
                  refine Sub.trans (SubU.to SubU.f8) (Sub.trans (SubU.to SubU.f8) (Sub.trans (SubU.to SubU.f2) (Sub.trans (SubU.to SubU.f8) (Sub.trans (SubU.to SubU.f8) (Sub.trans (SubU.to SubU.f8) (Sub.trans (SubU.to SubU.f8) (Sub.trans (SubU.to SubU.f8) (Sub.trans (SubU.to SubU.f8) (so (l4 rfl rfl rfl rfl (l4 rfl rfl rfl rfl (lq rfl (lq rfl (lq rfl lt0))))))))))))))
                 .refine zap (zaa ⟨_,v20_l306,h,so (l4 rfl rfl rfl rfl (l4 rfl rfl rfl rfl (lq rfl (lq rfl (lq rfl lt0)))))⟩)
                .refine kr (qm (.exact v10583) rfl (qm (.xi d) rfl (qm (.xi A) rfl ?_)))
                 obtain⟨n11515,h⟩:=zad h
                 refine G_r rfl (opR_f7 (zbl (by kernel_rfl) rfl rfl n11515.1 n11515.2 (gq (zem (o:=2) (by kernel_rfl) rfl (G_l rfl (opB_f7 (zcm (i:=d) (o:=2) (z:=((gi x d).1,(gi x d).2.1,A)) (c':=[.xi A]) (by kernel_rfl) zhj rfl n11515.1 n11515.2 rfl CellsOf.int (lc lf ln) (OneC.int OneC.nil) (by kernel_rfl) (Nat.le_of_ble_eq_true rfl) rfl (zbc (zau (zaa ⟨_,_,v20_j11508,h, ?_⟩))))))))))
                 refine Sub.trans (SubU.to SubU.f8) (Sub.trans (SubU.to SubU.f1) (Sub.trans (SubU.to SubU.f8) (Sub.trans (SubU.to SubU.f8) (Sub.trans (SubU.to SubU.f8) (Sub.trans (SubU.to SubU.f8) (Sub.trans (SubU.to SubU.f8) (Sub.trans (SubU.to SubU.f8) (Sub.trans (SubU.to SubU.f8) (so (l4 rfl rfl rfl rfl (l4 rfl rfl rfl rfl (lq rfl (lq rfl lt0)))))))))))))
              .refine kr (qm (.xi d) rfl (gq (zbo rfl rfl rfl (qa (.xi (i64 (d+1))) rfl (zbc (zaa ⟨_,_,_,v20_j11362,h,so (l4 rfl rfl rfl rfl (l4 rfl rfl rfl rfl (lq rfl (lq rfl lt0))))⟩))))))
             .refine zbr (zbi (zbk (zbj (zaa ⟨_,_,v20_l306,h, ?_⟩))))
              refine Sub.trans (SubU.to SubU.f8) (Sub.trans (SubU.to SubU.drop) (so (l4 rfl rfl rfl rfl (l4 rfl rfl rfl rfl lt0))))
           .refine zan (zax h (λ(I:Bool)=>(pt (pt (pt (pt (pt (pt (pt (pt (pt AF0 6 (pA b1 0)) 9 (pA b22 0)) 13 (pA b82 0)) 14 (.row 1 zdz k)) 20 (.exact v20_j10585)) 21 (.xi (i64 (f+(List.length y10582.1:Int))))) 22 (.xi b)) 23 (.exact v10583)) 187 (.xb I))) (λ(I:Bool)=>[boxI 29 b1 [.exact (.slice none 0 0), .exact (.slice none 0 0)],vecT Tryz.prog 36 1 zab q81v0 y80.2,boxI 36 b22 [.exact q81v0],vecT Tryz.prog 26 2 zbd v13_0_j83 e,vecT Tryz.prog 27 3 zaw v13_1_l162 v,boxI 29 b82 [.exact v13_0_j83, .exact v13_1_l162],vecT Tryz.prog 36 1 zab v20_j10585 y,vecT Tryz.prog 82 3 zay v10583 F]) (λ k11518 h=> ?_) (λ I h=> ?_))
            .refine kr (qm (.xi (i64 (f+(List.length y10582.1:Int)))) rfl (gq (zfx rfl rfl (qm (.xb (decide (16384<(i64 (f+(List.length y10582.1:Int)))))) rfl (zcc (p:=16384<(i64 (f+(List.length y10582.1:Int)))) 183 rfl (λ hc=> ?_) (λ hc=> ?_))))))
             .replace h:=zcg h hc
              refine gn (gn (gn (gq (zat rfl (av:= .xb true) rfl (zbc (zaa ⟨_,h,so (l4 rfl rfl rfl rfl (l4 rfl rfl rfl rfl (lq rfl lt0)))⟩))))))
             .replace h:=zcf h hc
              refine gy (zah (av:= .exact v20_j10585) rfl (Gy_r rfl rfl rfl (opR_f6 (zcl (by kernel_rfl) rfl (gy (zfx rfl rfl (gq (zar rfl (av:= .xb (decide (64<(List.length y:Int)))) rfl (zbc (zaa ⟨_,h,so (l4 rfl rfl rfl rfl (l4 rfl rfl rfl rfl (lq rfl lt0)))⟩))))))))))
            .refine kb (p:=I) rfl h (λ hc h=> ?_) (λ hc h=> ?_)
             .refine zan ?_
              cases h
             .refine zap (zaf (awp_sub (SubU.to (SubU.trans SubU.f7 (SubU.freezeT (s:=23) rfl zhj))) (zck [] [(0,0),(0,2),(0,3),(0,6),(0,7),(0,13),(1,1),(1,4),(1,5),(1,8),(1,9),(1,10),(1,11),(0,12),(0,14),(0,15),(0,16),(2,17),(0,18),(2,19)] hmixP (by kernel_rfl) (pq rfl (zba (o:=1) (by kernel_rfl) rfl (pq rfl (zah (av:= .exact v20_j10585) rfl (pq rfl (zah (av:= .xi b) rfl (pq rfl (zah (av:= .exact v20_j10585) rfl (pq rfl (zah (av:= .xi b) rfl (pq rfl (zah (av:= .row 3 zay F) rfl (P_r rfl (opR_f5 (zaz (a:= .exact v13_1_l162) (by kernel_rfl) rfl rfl ?_))))))))))))))))))
              obtain⟨n11522,h⟩:=zad h
              refine P_r rfl (opR_f6 (zbl (by kernel_rfl) rfl rfl n11522.1 n11522.2 (P_r rfl (opR_f6 (zcs (i:=b) (o:=0) (a:= .xs (gi y b)) (by kernel_rfl) zbt rfl n11522.1 n11522.2 rfl ?_)))))
              obtain⟨n11523,h⟩:=zad h
              refine P_r rfl (opR_f6 (zbl (by kernel_rfl) rfl rfl n11523.1 n11523.2 (P_r rfl (opR_f6 (zcs (i:=b) (o:=0) (a:= .xs (gi y b)) (by kernel_rfl) zbt rfl n11523.1 n11523.2 rfl (P_r rfl (opR_f2 (zaz (a:= .exact q81v0) (by kernel_rfl) rfl rfl (P_r rfl (opR_f1 (zcl (by kernel_rfl) rfl ?_)))))))))))
              obtain⟨y11524,ae,h⟩:=zae h
              refine pq rfl (zal (m_ref21_alive_ok _ _ _ ae) func26 (by kernel_rfl) (lc lf (lc lf ln)) ?_)
              obtain⟨y11525,af,h⟩:=zae h
              refine pq rfl (zal (m_ref21_ascending_ok _ _ af) func27 (by kernel_rfl) (lc lf ln) (pq rfl (zft (c':=zaw (gi y b,y11524,y11525)) (CellsAll.cons rfl CellsOf.str (CellsAll.cons rfl CellsOf.row (CellsAll.cons rfl CellsOf.row CellsAll.nil))) rfl (lc lf (lc lf (lc lf ln))) (pq rfl (zcd (n:=3) (enc:=zaw) [(gi y b,y11524,y11525)] (CellsAll.cons rfl CellsOf.agg CellsAll.nil) rfl (by kernel_rfl) (LEss.cons (lc lf (lc lf (lc lf ln))) LEss.nil) ?_)))))
              obtain⟨n11526,h⟩:=zad h
              refine P_l rfl (opB_f4 (zcu (by kernel_rfl) rfl rfl oc_c_api_Format n11526 (λ v11527=>pq rfl (zba (o:=1) (by kernel_rfl) rfl (P_l rfl (opB_sl (List.Mem.head _) (λ hsl=>(opB_f5 (zbz (c':=[.exact v11527]) (c3:=[.exact v13_0_j83, .exact v11527]) rfl rfl (CellsOf.sl hsl) (lc lf ln) (OneC.sl hsl OneC.nil) (by kernel_rfl) (Nat.le_of_ble_eq_true rfl) rfl (zcn (zau (zaa ⟨_,_,_,v11527,v20_j10585,h, ?_⟩))))))))))))
              refine Sub.trans (SubU.to SubU.f6) (Sub.trans (SubU.to SubU.f1) (Sub.trans (SubU.to SubU.f2) (Sub.trans (SubU.to SubU.f6) (Sub.trans (SubU.to SubU.f6) (Sub.trans (SubU.to SubU.f6) (Sub.trans (SubU.to SubU.f6) (so (l4 rfl rfl rfl rfl (lq rfl (lq rfl (lq rfl lt0)))))))))))
          .refine kr (qm (.xi b) rfl (gq (zbo rfl rfl rfl (qa (.xi (i64 (b+1))) rfl (zbc (zaa ⟨_,_,_,_,_,v13_1_j9631,v20_j9631,h,so (l4 rfl rfl rfl rfl (lq rfl (lq rfl (lq rfl lt0))))⟩))))))
         .refine zbr (zbi (zbk (zbj (zaa ⟨_,v13_1_l162,h, ?_⟩))))
          refine Sub.trans (SubU.to SubU.f1) (Sub.trans (SubU.to SubU.drop) (Sub.trans (SubU.to SubU.f1) (Sub.trans (SubU.to SubU.drop) (Sub.trans (SubU.to SubU.f4) (Sub.trans (SubU.to SubU.drop) (s2 rfl rfl))))))
       .refine sr (G_sub rfl (SubU.trans (SubU.f1) (SubU.trans (SubU.know len_c_api_Component) (SubU.trans (SubU.f3) (SubU.trans (SubU.f1) (SubU.trans (SubU.knowC (j:=0) (c':=[.row 2 zbd e, .exact v13_1_j134]) rfl rfl) (SubU.drop)))))) (G_sub rfl (SubU.trans (SubU.f2) (SubU.trans (SubU.know len_c_api_Format) (SubU.trans (SubU.knowC (j:=1) (c':=[.row 2 zbd e, .row 3 zaw u]) rfl rfl) (SubU.drop)))) (G_r rfl (zei (m:=2) (c':=zbb (e,u)) (by kernel_rfl) rfl rfl rfl (G_l rfl (opB_f1 (zbz (c':=[.row 2 zbd ((e,u).1), .row 3 zaw ((e,u).2)]) (c3:=[.row 2 zbd ((e,u).1), .row 3 zaw ((e,u).2)]) rfl rfl CellsOf.agg (lc lf (lc lf ln)) (oc_c_api_Machine _) (by kernel_rfl) (Nat.le_of_ble_eq_true rfl) rfl (qa (.xi 0) rfl (gc (zbn ?_))))))))))
        obtain rfl:=oi h
        refine kP_any (endM (af':=(pt (pt AF0 6 (.ptr (zbb ((e,u).1,(e,u).2)))) 7 (.xi 0))) (σ':=[]) (Sub.trans (SubU.to (SubU.freezeBox (s:=6) rfl)) (Sub.trans (SubU.to SubU.drop) (s2 rfl rfl))) (ResIs.cell rfl (by kernel_rfl) (ResIs.tmp ResIs.nil)) ⟨rfl,rfl⟩)
theorem m_slices_IndexFunc_L_api_Value_api_Value_ok (a0:List (List UInt8)) (a1:(List UInt8)->Option Bool) (r:Int) (h:zen a0 a1=some r):Pure Tryz.prog 166 [(.row 1 zab a0),(.fn Tryz.prog (λ(i:(List UInt8))=>[.exact (.string (bs i))]) (λ(i:(List UInt8))=>a1 i) (λ(r:Bool)=> .exact (.bool r)))] (.exact (.int .i64 r)):=by
 unfold zen at h
 refine Pure.ofFun (zam func166 rfl ntmps166 (by simp) rfl (res1 rfl) λ E hE=>zca (sr (qa (.xi 0) rfl (gc (zbw h (AF0) ([]) (λ k1 h=> ?_) (λ  h=> ?_))))))
 .refine sr (qm (.row 1 zab a0) rfl (gq (zao (by kernel_rfl) rfl (qm (.xi 0) rfl (gc (zaq (zcr (zeb a0 a1 k1) (zec a0 a1 k1) (λ _=>rfl) (λ m _=>rfl) h (λ(b:Int)=>(pt (pt (pt (pt AF0 0 (.row 1 zab a0)) 1 (.fn Tryz.prog (λ(i:(List UInt8))=>[.xs i]) (λ(i:(List UInt8))=>a1 i) (λ(r:Bool)=> .xb r))) 7 (.xi (List.length a0:Int))) 8 (.xi b))) (λ(b:Int)=>[]) ?_ (λ d b h=> ?_))))))))
  .exact s4 rfl rfl rfl rfl
  .unfold zec at h
   refine sr (gq (zbm rfl rfl (gc (zan (kd (p:=b<(List.length a0:Int)) rfl h (λ hc h=> ?_) (λ hc h=> ?_))))))
   .refine zap (zaf (zan (zaq (sr (qm (.xi b) rfl (qa (.xi b) rfl (gd (qm (.fn Tryz.prog (λ(i:(List UInt8))=>[.xs i]) (λ(i:(List UInt8))=>a1 i) (λ(r:Bool)=> .xb r)) rfl (qm (.row 1 zab a0) rfl (qm (.xi b) rfl ?_))))))))))
    obtain⟨n13,h⟩:=zad h
    refine gq (zai (by kernel_rfl) rfl rfl n13.1 n13.2 (gq (zak (a:= .xs (gi a0 b)) (by kernel_rfl) rfl rfl ?_)))
    obtain⟨y14,c,h⟩:=zae h
    refine gq (op_callfn (gi a0 b) rfl c (lc lf ln) (gc (kb (p:=y14) rfl h (λ hc h=> ?_) (λ hc h=> ?_))))
    .refine sr (qm (.xi b) rfl (qa (.xi b) rfl (gc (zbn (zde (zdb (zek (zde (zek ?_)))))))))
     obtain rfl:=oi h
     refine ke (pt AF0 4 (.xi b)) [] rfl (s1 rfl) ⟨rfl,rfl⟩
    .refine zap (zau (zaf (kr (gq (zbo rfl rfl rfl (qm (.xi (i64 (b+1))) rfl (zbc (zaa ⟨_,h,s4 rfl rfl rfl rfl⟩))))))))
   .refine zbr (zbi (zbk (zbj (zaa ⟨h,Sub.of_le lt0⟩))))
 .refine sr (qa (.xi (-1)) rfl (gc (zbn ?_)))
  obtain rfl:=oi h
  refine ke (pt AF0 4 (.xi (-1))) [] rfl (s1 rfl) ⟨rfl,rfl⟩
theorem zhk (a0:List (List UInt8)) (a1:(List UInt8)->Option Bool) (r:Bool) (h:zea a0 a1=some r):Pure Tryz.prog 120 [(.row 1 zab a0),(.fn Tryz.prog (λ(i:(List UInt8))=>[.exact (.string (bs i))]) (λ(i:(List UInt8))=>a1 i) (λ(r:Bool)=> .exact (.bool r)))] (.exact (.bool r)):=by
 unfold zea at h
 refine Pure.ofFun (zam func120 rfl ntmps120 (by simp) rfl (res1 rfl) λ E hE=>zca (sr (qa (.xb false) rfl (gd (qm (.row 1 zab a0) rfl (qm (.fn Tryz.prog (λ(i:(List UInt8))=>[.xs i]) (λ(i:(List UInt8))=>a1 i) (λ(r:Bool)=> .xb r)) rfl ?_))))))
 obtain⟨y1,a,h⟩:=zae h
 refine gq (zal (m_slices_IndexFunc_L_api_Value_api_Value_ok _ _ _ a) func166 (by kernel_rfl) (lc lf (lc lf ln)) (gq (zgm rfl rfl (qa (.xb (decide (0≤y1))) rfl (gc (zbn ?_))))))
 obtain rfl:=oi h
 refine ke (pt AF0 4 (.xb (decide (0≤y1)))) [] rfl (s1 rfl) ⟨rfl,rfl⟩
theorem m_value_ascending_ok (a0:List (List UInt8)) (r:Bool) (h:m_value_ascending a0=some r):Pure Tryz.prog 378 [(.row 1 zab a0)] (.exact (.bool r)):=by
 unfold m_value_ascending at h
 refine Pure.ofFun (zam func378 rfl ntmps378 (by simp) rfl (res1 rfl) λ E hE=>zca (sr (qa (.xb false) rfl (gc (zbw h (AF0) ([]) (λ k1 h=> ?_) (λ  h=> ?_))))))
 .refine sr (qa (.xi 1) rfl (gc (zaq (zgs (m_value_ascending_L2 a0 k1) (m_value_ascending_B2 a0 k1) (λ _=>rfl) (λ m _=>rfl) h ((pt (pt AF0 0 (.row 1 zab a0)) 3 (.xi 1))) ([]) ?_ (λ a  h=> ?_)))))
  .exact s2 rfl rfl
  .unfold m_value_ascending_B2 at h
   refine zan (sr (qm (.xi 1) rfl (qm (.row 1 zab a0) rfl (gq (zao (by kernel_rfl) rfl (gq (zbm rfl rfl (gc (kd (p:=1<(List.length a0:Int)) rfl h (λ hc h=> ?_) (λ hc h=> ?_))))))))))
   .refine zap (zaf (zan (zaq (zan ?_))))
    cases h
   .refine zbr (zbi (zbk (zbj (zaa ⟨h,Sub.of_le lt0⟩))))
 .refine sr (qa (.xb true) rfl (gc (zbn ?_)))
  obtain rfl:=oi h
  refine ke (pt AF0 2 (.xb true)) [] rfl (s1 rfl) ⟨rfl,rfl⟩
theorem m_value_integer_ok (a0:List UInt8) (r:Int) (h:m_value_integer a0=some r):Pure Tryz.prog 216 [(.exact (.string (bs a0)))] (.exact (.int .i64 r)):=by
 unfold m_value_integer at h
 refine Pure.ofFun (zam func216 rfl ntmps216 (by simp) rfl (res1 rfl) λ E hE=>zca (sr (qa (.xi 0) rfl (gd (qa (.exact (.int .u64 0)) rfl (gc (zax h (λ(b:Int)=>(pt AF0 3 (.exact (.int .u64 b)))) (λ(b:Int)=>[]) (λ k1 h=> ?_) (λ b h=> ?_))))))))
 .refine sr (qa (.xi 1) rfl (gc (zaq (zey (m_value_integer_L2 a0 k1) (m_value_integer_B2 a0 k1) (λ _ _=>rfl) (λ m _ _=>rfl) h (λ(c:Int) (a:Int)=>(pt (pt (pt AF0 0 (.xs a0)) 3 (.exact (.int .u64 c))) 4 (.xi a))) (λ(c:Int) (a:Int)=>[]) ?_ (λ d c a h=> ?_)))))
  .exact s3 rfl rfl rfl
  .unfold m_value_integer_B2 at h
   refine zan (sr (qm (.xi a) rfl (gq (zbm rfl rfl (gc (kd (p:=a<9) rfl h (λ hc h=> ?_) (λ hc h=> ?_)))))))
   .refine zap (zaf (zan (zaq (kr (qm (.exact (.int .u64 c)) rfl (gq (op_shl rfl rfl (by decide) rfl (qm (.xs a0) rfl (qm (.xi a) rfl ?_)))))))))
    obtain⟨n8,h⟩:=zad h
    refine gq (zct (by kernel_rfl) rfl rfl n8.1 n8.2 (gq (zds (k:= .u64) (r:=(UInt8.toNat (gi a0 a):Int)) (by kernel_rfl) rfl (wrap_u8 rfl _) (gq (op_or rfl rfl rfl (qa (.exact (.int .u64 (bOr .u64 (IntKind.u64.wrap (c*2^min (Int.toNat 8) IntKind.u64.bits)) (UInt8.toNat (gi a0 a):Int)))) rfl (zbc (zau (zaf (kr (qm (.xi a) rfl (gq (zbo rfl rfl rfl (qa (.xi (i64 (a+1))) rfl (zbc (zaa ⟨_,_,h,s3 rfl rfl rfl⟩))))))))))))))))
   .refine zbr (zbi (zbk (zbj (zaa ⟨_,h,s1 rfl⟩))))
 .refine sr (qm (.exact (.int .u64 b)) rfl (gq (zds (k:= .i64) (by kernel_rfl) rfl rfl (qa (.xi (i64 (b))) rfl (gc (zbn ?_))))))
  obtain rfl:=oi h
  refine ke (pt AF0 2 (.xi (i64 (b)))) [] rfl (s1 rfl) ⟨rfl,rfl⟩
theorem m_value_between_ok (a0:List UInt8) (a1:Int) (a2:Int) (r:Bool) (h:m_value_between a0 a1 a2=some r):Pure Tryz.prog 379 [(.exact (.string (bs a0))),(.exact (.int .i64 a1)),(.exact (.int .i64 a2))] (.exact (.bool r)):=by
 unfold m_value_between at h
 refine Pure.ofFun (zam func379 rfl ntmps379 (by simp) rfl (res1 rfl) λ E hE=>zca (sr (qa (.xb false) rfl (gc (zax h (λ(c:Bool)=>(pt AF0 6 (.xb c))) (λ(c:Bool)=>[]) (λ k1 h=> ?_) (λ c h=> ?_))))))
 .refine kr (qm (.xs a0) rfl ?_)
  obtain⟨n5,h⟩:=zad h
  refine gq (zct (by kernel_rfl) rfl rfl n5.1 n5.2 (gq (zgr (a:=(gi a0 0)) (b:=1) rfl rfl (qm (.xb (decide ((gi a0 0)=1))) rfl (zcc (p:=(gi a0 0)=1) 10 rfl (λ hc=> ?_) (λ hc=> ?_))))))
  .replace h:=zcg h hc
   refine gy (zah (av:= .xs a0) rfl ?_)
   obtain⟨y6,d,h⟩:=zae h
   refine gy (zal (m_value_integer_ok _ _ d) func216 (by kernel_rfl) (lc lf ln) (gy (zah (av:= .xi a1) rfl (gy (zgm rfl rfl (gq (zat rfl (av:= .xb (decide (a1≤y6))) rfl (qm (.xb (decide (a1≤y6))) rfl (zcc (p:=a1≤y6) 16 rfl (λ hc=> ?_) (λ hc=> ?_))))))))))
   .replace h:=zcg h hc
    refine gy (zah (av:= .xs a0) rfl ?_)
    obtain⟨y7,e,h⟩:=zae h
    refine gy (zal (m_value_integer_ok _ _ e) func216 (by kernel_rfl) (lc lf ln) (gy (zah (av:= .xi a2) rfl (gy (op_leq rfl rfl (gq (zat rfl (av:= .xb (decide (y7≤a2))) rfl (qa (.xb (decide (y7≤a2))) rfl (zbc (zaa ⟨_,h,s1 rfl⟩))))))))))
   .replace h:=zcf h hc
    refine gn (gn (gn (gn (gq (zar rfl (av:= .xb false) rfl (qa (.xb false) rfl (zbc (zaa ⟨_,h,s1 rfl⟩))))))))
  .replace h:=zcf h hc
   refine gn (gn (gn (gn (gq (zar rfl (av:= .xb false) rfl (qm (.xb false) rfl (gn (gn (gn (gn (gq (zar rfl (av:= .xb false) rfl (qa (.xb false) rfl (zbc (zaa ⟨_,h,s1 rfl⟩)))))))))))))))
 .refine zbn ?_
  obtain rfl:=oi h
  refine ke (pt AF0 6 (.xb c)) [] rfl (s1 rfl) ⟨rfl,rfl⟩
theorem m_value_formed_ok (a0:Int) (a1:List (List UInt8)) (r:Bool) (h:m_value_formed a0 a1=some r):Pure Tryz.prog 343 [(.exact (.int .i64 a0)),(.row 1 zab a1)] (.exact (.bool r)):=by
 unfold m_value_formed at h
 refine Pure.ofFun (zam func343 rfl ntmps343 (by simp) rfl (res1 rfl) λ E hE=>zca (sr (qa (.xb false) rfl (gd (qm (.row 1 zab a1) rfl (gq (zao (by kernel_rfl) rfl (qa (.xi (List.length a1:Int)) rfl (gc (zbw h (AF0) ([]) (λ k1 h=> ?_) (λ  h=> ?_)))))))))))
 .refine sr (qm (.xi a0) rfl (gc (zaq (sr (gq (zbf rfl rfl (qa (.xb (decide (a0=3))) rfl (gc (kd (p:=a0=3) rfl h (λ hc h=> ?_) (λ hc h=> ?_))))))))))
  .refine zan ?_
   cases h
  .refine sr (gq (zbf rfl rfl (qa (.xb (decide (a0=5))) rfl (gc (kd (p:=a0=5) rfl h (λ hc h=> ?_) (λ hc h=> ?_))))))
   .refine sr (qm (.row 1 zab a1) rfl ?_)
    obtain⟨y12,c,h⟩:=zae h
    refine gq (zal (m_value_ascending_ok _ _ c) func378 (by kernel_rfl) (lc lf ln) (qa (.xb y12) rfl (gc (zbn (zde (zek ?_))))))
    obtain rfl:=oi h
    refine ke (pt AF0 4 (.xb y12)) [] rfl (s1 rfl) ⟨rfl,rfl⟩
   .refine sr (gq (zbf rfl rfl (qa (.xb (decide (a0=6))) rfl (gc (kd (p:=a0=6) rfl h (λ hc h=> ?_) (λ hc h=> ?_))))))
    .refine zan ?_
     cases h
    .refine sr (gq (zbf rfl rfl (qa (.xb (decide (a0=7))) rfl (gc (kd (p:=a0=7) rfl h (λ hc h=> ?_) (λ hc h=> ?_))))))
     .refine zan ?_
      cases h
     .refine sr (gq (zbf rfl rfl (qa (.xb (decide (a0=8))) rfl (gc (kd (p:=a0=8) rfl h (λ hc h=> ?_) (λ hc h=> ?_))))))
      .refine zan ?_
       cases h
      .refine sr (gq (zbf rfl rfl (qa (.xb (decide (a0=9))) rfl (gc (kd (p:=a0=9) rfl h (λ hc h=> ?_) (λ hc h=> ?_))))))
       .refine zax h (λ(b:Bool)=>(pt AF0 4 (.xb b))) (λ(b:Bool)=>[]) (λ k15 h=> ?_) (λ b h=> ?_)
        .refine kr (qm (.xi (List.length a1:Int)) rfl (gq (zgm rfl rfl (qm (.xb (decide (1≤(List.length a1:Int)))) rfl (zcc (p:=1≤(List.length a1:Int)) 77 rfl (λ hc=> ?_) (λ hc=> ?_))))))
         .replace h:=zcg h hc
          refine gy (zah (av:= .row 1 zab a1) rfl ?_)
          obtain⟨n18,h⟩:=zad h
          refine gy (zai (by kernel_rfl) rfl rfl n18.1 n18.2 (gy (zak (a:= .xs (gi a1 0)) (by kernel_rfl) rfl rfl ?_)))
          obtain⟨y19,d,h⟩:=zae h
          refine gy (zal (m_value_between_ok _ _ _ _ d) func379 (by kernel_rfl) (lc lf (lc lf (lc lf ln))) (gq (zat rfl (av:= .xb y19) rfl (qa (.xb y19) rfl (zbc (zaa ⟨_,h,s1 rfl⟩))))))
         .replace h:=zcf h hc
          refine gn (gn (gn (gn (gq (zar rfl (av:= .xb false) rfl (qa (.xb false) rfl (zbc (zaa ⟨_,h,s1 rfl⟩))))))))
        .refine zbn (zde (zek ?_))
         obtain rfl:=oi h
         refine ke (pt AF0 4 (.xb b)) [] rfl (s1 rfl) ⟨rfl,rfl⟩
       .refine zap (zau (zaa ⟨h,Sub.of_le lt0⟩))
 .refine zan ?_
  cases h
theorem m_value_long_ok (d:(List UInt8)->Int->Option Int) (hself_value_length: ∀(a0:List UInt8) (a1:Int) (r:Int),d a0 a1=some r->Pure Tryz.prog 273 [(.exact (.string (bs a0))),(.exact (.int .i64 a1))] (.exact (.int .i64 r))) (a0:List UInt8) (a1:Int) (r:Int) (h:m_value_long d a0 a1=some r):Pure Tryz.prog 305 [(.exact (.string (bs a0))),(.exact (.int .i64 a1))] (.exact (.int .i64 r)):=by
 unfold m_value_long at h
 refine Pure.ofFun (zam func305 rfl ntmps305 (by simp) rfl (res1 rfl) λ E hE=>zca (sr (qa (.xi 0) rfl (gc (zan (sr (qm (.xs a0) rfl (gq (op_lenS (by kernel_rfl) rfl (gq (zbm rfl rfl (gc (kd (p:=(List.length a0:Int)<3) rfl h (λ hc h=> ?_) (λ hc h=> ?_))))))))))))))
 .refine zan ?_
  cases h
 .refine zap (zaf (sr (qa (.xi 3) rfl (gd (qa (.exact (.slice none 0 0)) rfl (gc (k_join2_1 h (λ(b:Int) (e:List (List UInt8)) (v6_j1:Value)=>(pt (pt (pt AF0 0 (.xs a0)) 5 (.xi b)) 6 (.exact v6_j1))) (λ(b:Int) (e:List (List UInt8)) (v6_j1:Value)=>[vecT Tryz.prog 36 1 zab v6_j1 e]) (λ k1 h=> ?_) (λ b e v6_j1 h=> ?_))))))))
  .refine zan (zck [] [(0,0),(0,1),(0,2),(0,3),(0,4),(0,5),(0,6),(0,7),(0,8)] hmixP (by kernel_rfl) (pq rfl (zah (av:= .xs a0) rfl ?_)))
   obtain⟨n20,h⟩:=zad h
   refine pq rfl (zct (by kernel_rfl) rfl rfl n20.1 n20.2 (pq rfl (zds (k:= .i64) (r:=(UInt8.toNat (gi a0 1):Int)) (by kernel_rfl) rfl (wrap_u8 rfl _) (pq rfl (op_shl rfl rfl (by decide) rfl (pq rfl (zah (av:= .xs a0) rfl ?_)))))))
   obtain⟨n21,h⟩:=zad h
   refine pq rfl (zct (by kernel_rfl) rfl rfl n21.1 n21.2 (pq rfl (zds (k:= .i64) (r:=(UInt8.toNat (gi a0 2):Int)) (by kernel_rfl) rfl (wrap_u8 rfl _) (pq rfl (op_or rfl rfl rfl (pq rfl (zah (av:= .xi 0) rfl (zcn (zaf (zaq (k_loop3_1 (m_value_long_L2 d a0 a1 k1) (m_value_long_B2 d a0 a1 k1) (λ _ _ _=>rfl) (λ m _ _ _=>rfl) h (λ(a:Int) (f:List (List UInt8)) (c:Int) (v6_l2:Value)=>(pt (pt (pt (pt (pt (pt AF0 0 (.xs a0)) 1 (.xi a1)) 5 (.xi a)) 6 (.exact v6_l2)) 18 (.xi (bOr .i64 (i64 ((UInt8.toNat (gi a0 1):Int)*2^min (Int.toNat 8) IntKind.i64.bits)) (UInt8.toNat (gi a0 2):Int)))) 19 (.xi c))) (λ(a:Int) (f:List (List UInt8)) (c:Int) (v6_l2:Value)=>[vecT Tryz.prog 36 1 zab v6_l2 f]) (.slice none 0 0) ?_ (λ j a f c v6_l2 h=> ?_))))))))))))
   .refine Sub.trans (SubU.to (SubU.nilT (P:=Tryz.prog) (t:=36) (n:=1) (enc:=zab))) (so (l4 rfl rfl rfl rfl (lq rfl (lq rfl lt0))))
   .unfold m_value_long_B2 at h
    refine sr (gq (zbm rfl rfl (gc (zan (kd (p:=c<(bOr .i64 (i64 ((UInt8.toNat (gi a0 1):Int)*2^min (Int.toNat 8) IntKind.i64.bits)) (UInt8.toNat (gi a0 2):Int))) rfl h (λ hc h=> ?_) (λ hc h=> ?_))))))
    .refine zap (zaf (zan (zaq (sr (qm (.xs a0) rfl (qm (.xi a) rfl ?_))))))
     obtain⟨n32,h⟩:=zad h
     refine gq (op_slice_strd (by kernel_rfl) rfl (zdn rfl) zdu n32.1 n32.2 (Int.le_refl _) (qm (.xi a1) rfl (gq (zbo rfl rfl rfl ?_))))
     obtain⟨y33,g,h⟩:=zae h
     refine gq (zal (hself_value_length _ _ _ g) func273 (by kernel_rfl) (lc lf (lc lf ln)) (qa (.xi y33) rfl (gc (zan (sr (qm (.xi y33) rfl (gq (zbf rfl rfl (gc (kd (p:=y33=0) rfl h (λ hc h=> ?_) (λ hc h=> ?_)))))))))))
     .refine zan ?_
      cases h
     .refine zap (zaf (sr (qm (.exact v6_l2) rfl (qm (.xs a0) rfl (qm (.xi a) rfl (qm (.xi a) rfl (qm (.xi y33) rfl (gq (zbo rfl rfl rfl ?_)))))))))
      obtain⟨n34,h⟩:=zad h
      refine gq (op_slice_str (by kernel_rfl) rfl (zdn rfl) (zdn rfl) n34.1 n34.2.1 n34.2.2 (gq (zcd (n:=1) (enc:=zab) [List.take (Int.toNat (i64 (a+y33)) - Int.toNat a) (List.drop (Int.toNat a) a0)] (CellsAll.cons rfl CellsOf.str CellsAll.nil) rfl (by kernel_rfl) (LEss.cons (lc lf ln) LEss.nil) ?_)))
      obtain⟨n35,h⟩:=zad h
      refine G_l rfl (zcu (by kernel_rfl) rfl rfl zco n35 (λ v36=>qa (.exact v36) rfl (gc (kr (qm (.xi a) rfl (qm (.xi y33) rfl (gq (zbo rfl rfl rfl (qa (.xi (i64 (a+y33))) rfl (zbc (zau (zaf (kr (gq (zbo rfl rfl rfl (qm (.xi (i64 (c+1))) rfl (zbc (zaa ⟨_,_,_,v36,h,so (l4 rfl rfl rfl rfl (lq rfl (lq rfl lt0)))⟩))))))))))))))))))
    .refine zbr (zbi (zbk (zbj (zaa ⟨_,_,v6_l2,h,s3 rfl rfl rfl⟩))))
  .refine zan (sr (qm (.xs a0) rfl ?_))
   obtain⟨n37,h⟩:=zad h
   refine gq (zct (by kernel_rfl) rfl rfl n37.1 n37.2 (gq (zds (k:= .i64) (r:=(UInt8.toNat (gi a0 0):Int)) (by kernel_rfl) rfl (wrap_u8 rfl _) (qm (.exact v6_j1) rfl (G_sub rfl (SubU.freezeT2 (s1:=6) (s2:=45) rfl rfl zbt) ?_)))))
   obtain⟨y38,i,h⟩:=zae h
   refine gq (zal (m_value_formed_ok _ _ _ i) func343 (by kernel_rfl) (lc lf (lc lf ln)) (gq (zdh rfl (gc (kb (p:= !y38) rfl h (λ hc h=> ?_) (λ hc h=> ?_))))))
   .refine zan ?_
    cases h
   .refine zap (zaf (sr (qm (.xi b) rfl (qa (.xi b) rfl (gc (zbn ?_))))))
    obtain rfl:=oi h
    refine ke (pt AF0 4 (.xi b)) [] rfl (s1 rfl) ⟨rfl,rfl⟩
theorem m_value_length_F_ok (f:(List UInt8)->Int->Option Int) (hself_value_length: ∀(a0:List UInt8) (a1:Int) (r:Int),f a0 a1=some r->Pure Tryz.prog 273 [(.exact (.string (bs a0))),(.exact (.int .i64 a1))] (.exact (.int .i64 r))) (a0:List UInt8) (a1:Int) (r:Int) (h:m_value_length_F f a0 a1=some r):Pure Tryz.prog 273 [(.exact (.string (bs a0))),(.exact (.int .i64 a1))] (.exact (.int .i64 r)):=by
 unfold m_value_length_F at h
 refine Pure.ofFun (zam func273 rfl ntmps273 (by simp) rfl (res1 rfl) λ E hE=>zca (sr (qa (.xi 0) rfl (gc (zan (zax h (λ(d:Bool)=>(pt (pt (pt AF0 0 (.xs a0)) 1 (.xi a1)) 11 (.xb d))) (λ(d:Bool)=>[]) (λ k3 h=> ?_) (λ d h=> ?_)))))))
 .refine kr (qm (.xs a0) rfl (gq (op_eqlS rfl rfl (qm (.xb (decide (a0=([]:List UInt8)))) rfl (zcc (p:=a0=([]:List UInt8)) 8 rfl (λ hc=> ?_) (λ hc=> ?_))))))
  .replace h:=zcg h hc
   refine gn (gn (gq (zat rfl (av:= .xb true) rfl (zbc (zaa ⟨_,h,s3 rfl rfl rfl⟩)))))
  .replace h:=zcf h hc
   refine gy (zah (av:= .xi a1) rfl (gy (zfx rfl rfl (gq (zar rfl (av:= .xb (decide (32<a1))) rfl (zbc (zaa ⟨_,h,s3 rfl rfl rfl⟩)))))))
 .refine kb (p:=d) rfl h (λ hc h=> ?_) (λ hc h=> ?_)
  .refine zan ?_
   cases h
  .refine zap (zaf (sr (qa (.xi 0) rfl (gc (zax h (λ(c:Int)=>(pt (pt AF0 0 (.xs a0)) 5 (.xi c))) (λ(c:Int)=>[]) (λ k4 h=> ?_) (λ c h=> ?_))))))
   .refine sr (qm (.xs a0) rfl ?_)
    obtain⟨n11,h⟩:=zad h
    refine gq (zct (by kernel_rfl) rfl rfl n11.1 n11.2 (gc (zaq (sr (gq (zgr (a:=(gi a0 0)) (b:=1) rfl rfl (qa (.xb (decide ((gi a0 0)=1))) rfl (gc (kd (p:=(gi a0 0)=1) rfl h (λ hc h=> ?_) (λ hc h=> ?_))))))))))
    .refine kr (qa (.xi 9) rfl (zbc (zau (zaa ⟨_,h,s2 rfl rfl⟩))))
    .refine sr (gq (zgr (a:=(gi a0 0)) (b:=2) rfl rfl (qa (.xb (decide ((gi a0 0)=2))) rfl (gc (kd (p:=(gi a0 0)=2) rfl h (λ hc h=> ?_) (λ hc h=> ?_))))))
     .refine zan (zan ?_)
      cases h
     .refine sr (gq (zgr (a:=(gi a0 0)) (b:=10) rfl rfl (qa (.xb (decide ((gi a0 0)=10))) rfl (gc (kd (p:=(gi a0 0)=10) rfl h (λ hc h=> ?_) (λ hc h=> ?_))))))
      .cases h
      .refine zax h (λ(e:Bool)=>(pt (pt (pt (pt AF0 0 (.xs a0)) 1 (.xi a1)) 5 (.xi 0)) 28 (.xb e))) (λ(e:Bool)=>[]) (λ k15 h=> ?_) (λ e h=> ?_)
       .refine sr (gq (zgr (a:=(gi a0 0)) (b:=3) rfl rfl (qa (.xb (decide ((gi a0 0)=3))) rfl (gc (kd (p:=(gi a0 0)=3) rfl h (λ hc h=> ?_) (λ hc h=> ?_))))))
        .refine zap (zaa ⟨_,h,s4 rfl rfl rfl rfl⟩)
        .refine sr (gq (zgr (a:=(gi a0 0)) (b:=4) rfl rfl (qa (.xb (decide ((gi a0 0)=4))) rfl (gc (kd (p:=(gi a0 0)=4) rfl h (λ hc h=> ?_) (λ hc h=> ?_))))))
         .refine zap (zaa ⟨_,h,s4 rfl rfl rfl rfl⟩)
         .refine sr (gq (zgr (a:=(gi a0 0)) (b:=5) rfl rfl (qa (.xb (decide ((gi a0 0)=5))) rfl (gc (kd (p:=(gi a0 0)=5) rfl h (λ hc h=> ?_) (λ hc h=> ?_))))))
          .refine zap (zaa ⟨_,h,s4 rfl rfl rfl rfl⟩)
          .refine sr (gq (zgr (a:=(gi a0 0)) (b:=6) rfl rfl (qa (.xb (decide ((gi a0 0)=6))) rfl (gc (kd (p:=(gi a0 0)=6) rfl h (λ hc h=> ?_) (λ hc h=> ?_))))))
           .refine zap (zaa ⟨_,h,s4 rfl rfl rfl rfl⟩)
           .refine sr (gq (zgr (a:=(gi a0 0)) (b:=7) rfl rfl (qa (.xb (decide ((gi a0 0)=7))) rfl (gc (kd (p:=(gi a0 0)=7) rfl h (λ hc h=> ?_) (λ hc h=> ?_))))))
            .refine zap (zaa ⟨_,h,s4 rfl rfl rfl rfl⟩)
            .refine sr (gq (zgr (a:=(gi a0 0)) (b:=8) rfl rfl (qa (.xb (decide ((gi a0 0)=8))) rfl (gc (kd (p:=(gi a0 0)=8) rfl h (λ hc h=> ?_) (λ hc h=> ?_))))))
             .refine zap (zaa ⟨_,h,s4 rfl rfl rfl rfl⟩)
             .refine kr (gq (zgr (a:=(gi a0 0)) (b:=9) rfl rfl (qa (.xb (decide ((gi a0 0)=9))) rfl (zbc (zaa ⟨_,h,s4 rfl rfl rfl rfl⟩)))))
       .refine kb (p:=e) rfl h (λ hc h=> ?_) (λ hc h=> ?_)
        .refine sr (qm (.xs a0) rfl (qm (.xi a1) rfl ?_))
         obtain⟨y16,g,h⟩:=zae h
         refine gq (zal (m_value_long_ok f hself_value_length _ _ _ g) func305 (by kernel_rfl) (lc lf (lc lf ln)) (qa (.xi y16) rfl (gc (zbn (zde (zek ?_))))))
         obtain rfl:=oi h
         refine ke (pt AF0 4 (.xi y16)) [] rfl (s1 rfl) ⟨rfl,rfl⟩
        .refine zap (zau (zaa ⟨_,h,s2 rfl rfl⟩))
   .refine zan (sr (qm (.xi c) rfl (qm (.xs a0) rfl (gq (op_lenS (by kernel_rfl) rfl (gq (zfx rfl rfl (gc (kd (p:=(List.length a0:Int)<c) rfl h (λ hc h=> ?_) (λ hc h=> ?_))))))))))
    .refine zan ?_
     cases h
    .refine zap (zaf (sr (qm (.xi c) rfl (qa (.xi c) rfl (gc (zbn ?_))))))
     obtain rfl:=oi h
     refine ke (pt AF0 4 (.xi c)) [] rfl (s1 rfl) ⟨rfl,rfl⟩
theorem m_value_length_S_ok: ∀n:Nat,(∀(a0:List UInt8) (a1:Int) (r:Int),m_value_length_S n a0 a1=some r->Pure Tryz.prog 273 [(.exact (.string (bs a0))),(.exact (.int .i64 a1))] (.exact (.int .i64 r)))
  |0=>(λ _ _ _ h=>by have h':(none:Option _)=some _:=h;cases h')
  |n+1=>by
    have ih:=m_value_length_S_ok n
    exact λ a0 a1 r h=>m_value_length_F_ok (m_value_length_S n) ih a0 a1 r h
theorem m_value_length_ok (a0:List UInt8) (a1:Int) (r:Int) (h:m_value_length a0 a1=some r):Pure Tryz.prog 273 [(.exact (.string (bs a0))),(.exact (.int .i64 a1))] (.exact (.int .i64 r)):=(m_value_length_S_ok FU) a0 a1 r h
theorem m_value_Valid_ok (a0:List UInt8) (r:Bool) (h:m_value_Valid a0=some r):Pure Tryz.prog 244 [(.exact (.string (bs a0)))] (.exact (.bool r)):=by
 unfold m_value_Valid at h
 refine Pure.ofFun (zam func244 rfl ntmps244 (by simp) rfl (res1 rfl) λ E hE=>zca (sr (qa (.xb false) rfl (gc (zax h (λ(a:Bool)=>(pt AF0 2 (.xb a))) (λ(a:Bool)=>[]) (λ k1 h=> ?_) (λ a h=> ?_))))))
 .refine kr (qm (.xs a0) rfl (gq (op_neqS rfl rfl (qm (.xb (decide (¬a0=([]:List UInt8)))) rfl (zcc (p:= ¬a0=([]:List UInt8)) 5 rfl (λ hc=> ?_) (λ hc=> ?_))))))
  .replace h:=zcg h hc
   refine gy (zah (av:= .xs a0) rfl (gy (op_lenS (by kernel_rfl) rfl (gy (op_leq rfl rfl (gq (zat rfl (av:= .xb (decide ((List.length a0:Int)≤131072))) rfl (qm (.xb (decide ((List.length a0:Int)≤131072))) rfl (zcc (p:=(List.length a0:Int)≤131072) 10 rfl (λ hc=> ?_) (λ hc=> ?_))))))))))
   .replace h:=zcg h hc
    refine gy (zah (av:= .xs a0) rfl ?_)
    obtain⟨y3,b,h⟩:=zae h
    refine gy (zal (m_value_length_ok _ _ _ b) func273 (by kernel_rfl) (lc lf (lc lf ln)) (gy (zah (av:= .xs a0) rfl (gy (op_lenS (by kernel_rfl) rfl (gy (zbf rfl rfl (gq (zat rfl (av:= .xb (decide (y3=(List.length a0:Int)))) rfl (qa (.xb (decide (y3=(List.length a0:Int)))) rfl (zbc (zaa ⟨_,h,s1 rfl⟩))))))))))))
   .replace h:=zcf h hc
    refine gn (gn (gn (gn (gn (gq (zar rfl (av:= .xb false) rfl (qa (.xb false) rfl (zbc (zaa ⟨_,h,s1 rfl⟩)))))))))
  .replace h:=zcf h hc
   refine gn (gn (gn (gq (zar rfl (av:= .xb false) rfl (qm (.xb false) rfl (gn (gn (gn (gn (gn (gq (zar rfl (av:= .xb false) rfl (qa (.xb false) rfl (zbc (zaa ⟨_,h,s1 rfl⟩)))))))))))))))
 .refine zbn ?_
  obtain rfl:=oi h
  refine ke (pt AF0 2 (.xb a)) [] rfl (s1 rfl) ⟨rfl,rfl⟩
end
noncomputable section
open Go.RowKit
attribute [local irreducible] AV.exact AV.top AV.row AV.ptr AV.agg AV.tup AV.eptr AV.fn AV.nilq AV.nilqn opA opB opM opR Quiet Loud Reads wpG awp den Sub SubU Pure Fun vecI vecT boxI CellsAll CellsOf OneC LEs LEss
set_option maxRecDepth 100000
set_option maxHeartbeats 4000000
theorem zia (a0:List UInt8) (r:Int) (h:zic a0=some r):Pure Tryz.prog 215 [(.exact (.string (bs a0)))] (.exact (.int .i64 r)):=by
 unfold zic at h
 refine Pure.ofFun (zam func215 rfl ntmps215 (by simp) rfl (res1 rfl) λ E hE=>zca (sr (qa (.xi 0) rfl (gc (zan (sr (qm (.xs a0) rfl ?_)))))))
 obtain⟨y1,a,h⟩:=zae h
 refine gq (zal (m_value_Valid_ok _ _ a) func244 (by kernel_rfl) (lc lf ln) (gq (zdh rfl (gc (kb (p:= !y1) rfl h (λ hc h=> ?_) (λ hc h=> ?_))))))
 .refine zan ?_
  cases h
 .refine zap (zaf (sr (qm (.xs a0) rfl ?_)))
  obtain⟨n2,h⟩:=zad h
  refine gq (zct (by kernel_rfl) rfl rfl n2.1 n2.2 (gq (zds (k:= .i64) (r:=(UInt8.toNat (gi a0 0):Int)) (by kernel_rfl) rfl (wrap_u8 rfl _) (qa (.xi (UInt8.toNat (gi a0 0):Int)) rfl (gc (zbn ?_))))))
  obtain rfl:=oi h
  refine ke (pt AF0 2 (.xi (UInt8.toNat (gi a0 0):Int))) [] rfl (s1 rfl) ⟨rfl,rfl⟩
theorem m_value_simple_ok (a0:Int) (r:Bool) (h:m_value_simple a0=some r):Pure Tryz.prog 265 [(.exact (.int .i64 a0))] (.exact (.bool r)):=by
 unfold m_value_simple at h
 refine Pure.ofFun (zam func265 rfl ntmps265 (by simp) rfl (res1 rfl) λ E hE=>zca (sr (qa (.xb false) rfl (gc (zax h (λ(a:Bool)=>(pt AF0 2 (.xb a))) (λ(a:Bool)=>[]) (λ k1 h=> ?_) (λ a h=> ?_))))))
 .refine kr (qm (.xi a0) rfl (gq (zbf rfl rfl (qm (.xb (decide (a0=0))) rfl (zcc (p:=a0=0) 5 rfl (λ hc=> ?_) (λ hc=> ?_))))))
  .replace h:=zcg h hc
   refine gn (gn (gq (zat rfl (av:= .xb true) rfl (qm (.xb true) rfl (gn (gn (gq (zat rfl (av:= .xb true) rfl (qm (.xb true) rfl (gn (gn (gq (zat rfl (av:= .xb true) rfl (qa (.xb true) rfl (zbc (zaa ⟨_,h,s1 rfl⟩))))))))))))))))
  .replace h:=zcf h hc
   refine gy (zah (av:= .xi a0) rfl (gy (zbf rfl rfl (gq (zar rfl (av:= .xb (decide (a0=1))) rfl (qm (.xb (decide (a0=1))) rfl (zcc (p:=a0=1) 9 rfl (λ hc=> ?_) (λ hc=> ?_))))))))
   .replace h:=zcg h hc
    refine gn (gn (gq (zat rfl (av:= .xb true) rfl (qm (.xb true) rfl (gn (gn (gq (zat rfl (av:= .xb true) rfl (qa (.xb true) rfl (zbc (zaa ⟨_,h,s1 rfl⟩)))))))))))
   .replace h:=zcf h hc
    refine gy (zah (av:= .xi a0) rfl (gy (zbf rfl rfl (gq (zar rfl (av:= .xb (decide (a0=2))) rfl (qm (.xb (decide (a0=2))) rfl (zcc (p:=a0=2) 13 rfl (λ hc=> ?_) (λ hc=> ?_))))))))
    .replace h:=zcg h hc
     refine gn (gn (gq (zat rfl (av:= .xb true) rfl (qa (.xb true) rfl (zbc (zaa ⟨_,h,s1 rfl⟩))))))
    .replace h:=zcf h hc
     refine gy (zah (av:= .xi a0) rfl (gy (zbf rfl rfl (gq (zar rfl (av:= .xb (decide (a0=10))) rfl (qa (.xb (decide (a0=10))) rfl (zbc (zaa ⟨_,h,s1 rfl⟩))))))))
 .refine zbn ?_
  obtain rfl:=oi h
  refine ke (pt AF0 2 (.xb a)) [] rfl (s1 rfl) ⟨rfl,rfl⟩
theorem m_value_span_F_ok (f:(List UInt8)->Option Int) (hself_value_span: ∀(a0:List UInt8) (r:Int),f a0=some r->Pure Tryz.prog 301 [(.exact (.string (bs a0)))] (.exact (.int .i64 r))) (a0:List UInt8) (r:Int) (h:m_value_span_F f a0=some r):Pure Tryz.prog 301 [(.exact (.string (bs a0)))] (.exact (.int .i64 r)):=by
 unfold m_value_span_F at h
 refine Pure.ofFun (zam func301 rfl ntmps301 (by simp) rfl (res1 rfl) λ E hE=>zca (sr (qa (.xi 0) rfl (gc (zan (sr (qm (.xs a0) rfl ?_)))))))
 obtain⟨n1,h⟩:=zad h
 refine gq (zct (by kernel_rfl) rfl rfl n1.1 n1.2 (gc (zaq (sr (gq (zgr (a:=(gi a0 0)) (b:=1) rfl rfl (qa (.xb (decide ((gi a0 0)=1))) rfl (gc (kd (p:=(gi a0 0)=1) rfl h (λ hc h=> ?_) (λ hc h=> ?_))))))))))
 .refine sr (qa (.xi 9) rfl (gc (zbn (zde (zdb ?_)))))
  obtain rfl:=oi h
  refine ke (pt AF0 2 (.xi 9)) [] rfl (s1 rfl) ⟨rfl,rfl⟩
 .refine sr (gq (zgr (a:=(gi a0 0)) (b:=2) rfl rfl (qa (.xb (decide ((gi a0 0)=2))) rfl (gc (kd (p:=(gi a0 0)=2) rfl h (λ hc h=> ?_) (λ hc h=> ?_))))))
  .refine zan ?_
   cases h
  .refine sr (gq (zgr (a:=(gi a0 0)) (b:=10) rfl rfl (qa (.xb (decide ((gi a0 0)=10))) rfl (gc (kd (p:=(gi a0 0)=10) rfl h (λ hc h=> ?_) (λ hc h=> ?_))))))
   .refine zan ?_
    cases h
   .refine zap (zau (zaf (sr (qa (.xi 3) rfl (gc (zax h (λ(c:Int)=>(pt AF0 3 (.xi c))) (λ(c:Int)=>[]) (λ k2 h=> ?_) (λ c h=> ?_)))))))
    .refine zan (zck [] [(0,0),(0,1),(0,2),(0,3),(0,4),(0,5),(0,6),(0,7),(0,8)] hmixP (by kernel_rfl) (pq rfl (zah (av:= .xs a0) rfl ?_)))
     obtain⟨n12,h⟩:=zad h
     refine pq rfl (zct (by kernel_rfl) rfl rfl n12.1 n12.2 (pq rfl (zds (k:= .i64) (r:=(UInt8.toNat (gi a0 1):Int)) (by kernel_rfl) rfl (wrap_u8 rfl _) (pq rfl (op_shl rfl rfl (by decide) rfl (pq rfl (zah (av:= .xs a0) rfl ?_)))))))
     obtain⟨n13,h⟩:=zad h
     refine pq rfl (zct (by kernel_rfl) rfl rfl n13.1 n13.2 (pq rfl (zds (k:= .i64) (r:=(UInt8.toNat (gi a0 2):Int)) (by kernel_rfl) rfl (wrap_u8 rfl _) (pq rfl (op_or rfl rfl rfl (pq rfl (zah (av:= .xi 0) rfl (zcn (zaf (zaq (zey (m_value_span_L2 f a0 k2) (m_value_span_B2 f a0 k2) (λ _ _=>rfl) (λ m _ _=>rfl) h (λ(d:Int) (e:Int)=>(pt (pt (pt (pt AF0 0 (.xs a0)) 3 (.xi d)) 19 (.xi (bOr .i64 (i64 ((UInt8.toNat (gi a0 1):Int)*2^min (Int.toNat 8) IntKind.i64.bits)) (UInt8.toNat (gi a0 2):Int)))) 20 (.xi e))) (λ(d:Int) (e:Int)=>[]) ?_ (λ i d e h=> ?_))))))))))))
     .exact s4 rfl rfl rfl rfl
     .unfold m_value_span_B2 at h
      refine sr (gq (zbm rfl rfl (gc (zan (kd (p:=e<(bOr .i64 (i64 ((UInt8.toNat (gi a0 1):Int)*2^min (Int.toNat 8) IntKind.i64.bits)) (UInt8.toNat (gi a0 2):Int))) rfl h (λ hc h=> ?_) (λ hc h=> ?_))))))
      .refine zap (zaf (zan (zaq (kr (qm (.xi d) rfl (qm (.xs a0) rfl (qm (.xi d) rfl ?_)))))))
       obtain⟨n18,h⟩:=zad h
       refine gq (op_slice_strd (by kernel_rfl) rfl (zdn rfl) zdu n18.1 n18.2 (Int.le_refl _) ?_)
       obtain⟨y19,g,h⟩:=zae h
       refine gq (zal (hself_value_span _ _ g) func301 (by kernel_rfl) (lc lf ln) (gq (zbo rfl rfl rfl (qa (.xi (i64 (d+y19))) rfl (zbc (zau (zaf (kr (gq (zbo rfl rfl rfl (qm (.xi (i64 (e+1))) rfl (zbc (zaa ⟨_,_,h,s4 rfl rfl rfl rfl⟩)))))))))))))
      .refine zbr (zbi (zbk (zbj (zaa ⟨_,h,s1 rfl⟩))))
    .refine sr (qm (.xi c) rfl (qa (.xi c) rfl (gc (zbn ?_))))
     obtain rfl:=oi h
     refine ke (pt AF0 2 (.xi c)) [] rfl (s1 rfl) ⟨rfl,rfl⟩
theorem m_value_span_S_ok: ∀n:Nat,(∀(a0:List UInt8) (r:Int),m_value_span_S n a0=some r->Pure Tryz.prog 301 [(.exact (.string (bs a0)))] (.exact (.int .i64 r)))
  |0=>(λ _ _ h=>by have h':(none:Option _)=some _:=h;cases h')
  |n+1=>by
    have ih:=m_value_span_S_ok n
    exact λ a0 r h=>m_value_span_F_ok (m_value_span_S n) ih a0 r h
theorem m_value_span_ok (a0:List UInt8) (r:Int) (h:m_value_span a0=some r):Pure Tryz.prog 301 [(.exact (.string (bs a0)))] (.exact (.int .i64 r)):=(m_value_span_S_ok FU) a0 r h
theorem zfz (a0:List (List UInt8)) (r:(List (List UInt8))) (h:zed a0=some r):Pure Tryz.prog 219 [(.row 1 zab a0)] (.row 1 zab r):=by
 unfold zed at h
 refine Pure.ofFun (zam func219 rfl ntmps219 (by simp) rfl (res1 rfl) λ E hE=>zca (sr (qa (.exact (.slice none 0 0)) rfl (gd (qm (.row 1 zab a0) rfl (qm (.row 1 zab a0) rfl (gq (zao (by kernel_rfl) rfl (qm (.row 1 zab a0) rfl (gq (zao (by kernel_rfl) rfl ?_)))))))))))
 obtain⟨n1,h⟩:=zad h
 refine gq (op_slice_row3 (by kernel_rfl) rfl zdu rfl rfl (Int.le_refl 0) n1 (Int.le_refl _) (Int.le_refl _) (qa (.row 1 zab (List.take (Int.toNat (List.length a0:Int)) a0)) rfl (gc (zbn ?_))))
 obtain rfl:=oi h
 refine ke (pt AF0 2 (.row 1 zab (List.take (Int.toNat (List.length a0:Int)) a0))) [] rfl (s1 rfl) ⟨rfl,rfl⟩
theorem m_value_parts_ok (a0:List UInt8) (r:(List (List UInt8))) (h:m_value_parts a0=some r):Pure Tryz.prog 266 [(.exact (.string (bs a0)))] (.row 1 zab r):=by
 unfold m_value_parts at h
 refine Pure.ofFun (zam func266 rfl ntmps266 (by simp) rfl (res1 rfl) λ E hE=>zca (sr (qa (.exact (.slice none 0 0)) rfl (gd (qa (.exact (.slice none 0 0)) rfl (gc (zcb h (λ(b:List (List UInt8)) (v3_j1:Value)=>(pt AF0 3 (.exact v3_j1))) (λ(b:List (List UInt8)) (v3_j1:Value)=>[vecT Tryz.prog 36 1 zab v3_j1 b]) (λ k1 h=> ?_) (λ b v3_j1 h=> ?_))))))))
 .refine sr (qa (.xi 3) rfl (gc (zaq (zcz (m_value_parts_L2 a0 k1) (m_value_parts_B2 a0 k1) (λ _ _=>rfl) (λ m _ _=>rfl) h (λ(c:List (List UInt8)) (a:Int) (v3_l2:Value)=>(pt (pt (pt AF0 0 (.xs a0)) 3 (.exact v3_l2)) 4 (.xi a))) (λ(c:List (List UInt8)) (a:Int) (v3_l2:Value)=>[vecT Tryz.prog 36 1 zab v3_l2 c]) (.slice none 0 0) ?_ (λ f c a v3_l2 h=> ?_)))))
  .refine Sub.trans (SubU.to (SubU.nilT (P:=Tryz.prog) (t:=36) (n:=1) (enc:=zab))) (s3 rfl rfl rfl)
  .unfold m_value_parts_B2 at h
   refine zan (sr (qm (.xi a) rfl (qm (.xs a0) rfl (gq (op_lenS (by kernel_rfl) rfl (gq (zbm rfl rfl (gc (kd (p:=a<(List.length a0:Int)) rfl h (λ hc h=> ?_) (λ hc h=> ?_))))))))))
   .refine zap (zaf (zaq (sr (qm (.xs a0) rfl (qm (.xi a) rfl ?_)))))
    obtain⟨n28,h⟩:=zad h
    refine gq (op_slice_strd (by kernel_rfl) rfl (zdn rfl) zdu n28.1 n28.2 (Int.le_refl _) ?_)
    obtain⟨y29,d,h⟩:=zae h
    refine gq (zal (m_value_span_ok _ _ d) func301 (by kernel_rfl) (lc lf ln) (qa (.xi y29) rfl (gd (qm (.exact v3_l2) rfl (qm (.xs a0) rfl (qm (.xi a) rfl (qm (.xi a) rfl (qm (.xi y29) rfl (gq (zbo rfl rfl rfl ?_))))))))))
    obtain⟨n30,h⟩:=zad h
    refine gq (op_slice_str (by kernel_rfl) rfl (zdn rfl) (zdn rfl) n30.1 n30.2.1 n30.2.2 (gq (zcd (n:=1) (enc:=zab) [List.take (Int.toNat (i64 (a+y29)) - Int.toNat a) (List.drop (Int.toNat a) a0)] (CellsAll.cons rfl CellsOf.str CellsAll.nil) rfl (by kernel_rfl) (LEss.cons (lc lf ln) LEss.nil) ?_)))
    obtain⟨n31,h⟩:=zad h
    refine G_l rfl (zcu (by kernel_rfl) rfl rfl zco n31 (λ v32=>qa (.exact v32) rfl (gc (kr (qm (.xi a) rfl (qm (.xi y29) rfl (gq (zbo rfl rfl rfl (qa (.xi (i64 (a+y29))) rfl (zbc (zau (zaa ⟨_,_,v32,h,s3 rfl rfl rfl⟩))))))))))))
   .refine zbr (zbi (zbk (zbj (zaa ⟨_,v3_l2,h,s1 rfl⟩))))
 .refine sr (qm (.exact v3_j1) rfl (G_sub rfl (SubU.freezeT2 (s1:=3) (s2:=26) rfl rfl zbt) ?_))
  obtain⟨y33,e,h⟩:=zae h
  refine gq (zal (zfz _ _ e) func219 (by kernel_rfl) (lc lf ln) (qa (.row 1 zab y33) rfl (gc (zbn ?_))))
  obtain rfl:=oi h
  refine ke (pt AF0 2 (.row 1 zab y33)) [] rfl (s1 rfl) ⟨rfl,rfl⟩
theorem m_value_Parts_ok (a0:List UInt8) (r:(List (List UInt8))) (h:m_value_Parts a0=some r):Pure Tryz.prog 236 [(.exact (.string (bs a0)))] (.row 1 zab r):=by
 unfold m_value_Parts at h
 refine Pure.ofFun (zam func236 rfl ntmps236 (by simp) rfl (res1 rfl) λ E hE=>zca (sr (qa (.exact (.slice none 0 0)) rfl (gc (zan (sr (qm (.xs a0) rfl ?_)))))))
 obtain⟨y1,a,h⟩:=zae h
 refine gq (zal (zia _ _ a) func215 (by kernel_rfl) (lc lf ln) ?_)
 obtain⟨y2,b,h⟩:=zae h
 refine gq (zal (m_value_simple_ok _ _ b) func265 (by kernel_rfl) (lc lf ln) (gc (kb (p:=y2) rfl h (λ hc h=> ?_) (λ hc h=> ?_))))
 .refine zan ?_
  cases h
 .refine zap (zaf (sr (qm (.xs a0) rfl ?_)))
  obtain⟨y3,c,h⟩:=zae h
  refine gq (zal (m_value_parts_ok _ _ c) func266 (by kernel_rfl) (lc lf ln) (qa (.row 1 zab y3) rfl (gc (zbn ?_))))
  obtain rfl:=oi h
  refine ke (pt AF0 2 (.row 1 zab y3)) [] rfl (s1 rfl) ⟨rfl,rfl⟩
theorem zhy (a0:List UInt8) (r:Int) (h:zhf a0=some r):Pure Tryz.prog 171 [(.exact (.string (bs a0)))] (.exact (.int .i64 r)):=by
 unfold zhf at h
 refine Pure.ofFun (zam func171 rfl ntmps171 (by simp) rfl (res1 rfl) λ E hE=>zca (sr (qa (.xi 0) rfl (gc (zan (sr (qm (.xs a0) rfl ?_)))))))
 obtain⟨y1,a,h⟩:=zae h
 refine gq (zal (zia _ _ a) func215 (by kernel_rfl) (lc lf ln) (gc (zaq (sr (gq (zbf rfl rfl (qa (.xb (decide (y1=1))) rfl (gc (kd (p:=y1=1) rfl h (λ hc h=> ?_) (λ hc h=> ?_))))))))))
 .refine sr (qm (.xs a0) rfl ?_)
  obtain⟨y2,b,h⟩:=zae h
  refine gq (zal (m_value_integer_ok _ _ b) func216 (by kernel_rfl) (lc lf ln) (qa (.xi y2) rfl (gc (zbn (zde (zdb ?_))))))
  obtain rfl:=oi h
  refine ke (pt AF0 2 (.xi y2)) [] rfl (s1 rfl) ⟨rfl,rfl⟩
 .refine sr (gq (zbf rfl rfl (qa (.xb (decide (y1=2))) rfl (gc (kd (p:=y1=2) rfl h (λ hc h=> ?_) (λ hc h=> ?_))))))
  .refine zan ?_
   cases h
  .refine sr (gq (zbf rfl rfl (qa (.xb (decide (y1=10))) rfl (gc (kd (p:=y1=10) rfl h (λ hc h=> ?_) (λ hc h=> ?_))))))
   .refine zan ?_
    cases h
   .refine zap (zau (zaf (zan ?_)))
    cases h
theorem m_procterm_split_ok (a0:List UInt8) (r:Int×(List (List UInt8))) (h:m_procterm_split a0=some r):Pure Tryz.prog 205 [(.exact (.string (bs a0)))] (.tup [.exact (.int .i64 r.1), .row 1 zab r.2]):=by
 unfold m_procterm_split at h
 refine Pure.ofFun (zam func205 rfl ntmps205 (by simp) rfl (res2 rfl) λ E hE=>zca (sr (qa (.xi 0) rfl (qa (.exact (.slice none 0 0)) rfl (gc (zan (sr (qm (.xs a0) rfl ?_))))))))
 obtain⟨y1,b,h⟩:=zae h
 refine gq (zal (zia _ _ b) func215 (by kernel_rfl) (lc lf ln) (gq (zfr rfl rfl (gc (kd (p:= ¬y1=9) rfl h (λ hc h=> ?_) (λ hc h=> ?_))))))
 .refine zan ?_
  cases h
 .refine zap (zaf (sr (qm (.xs a0) rfl ?_)))
  obtain⟨y2,c,h⟩:=zae h
  refine gq (zal (m_value_Parts_ok _ _ c) func236 (by kernel_rfl) (lc lf ln) (qa (.row 1 zab y2) rfl (gc (zan (zck [] [(0,0),(0,1),(0,2),(0,3),(0,4),(0,5),(0,6),(0,7)] hmixP (by kernel_rfl) (pq rfl (zah (av:= .row 1 zab y2) rfl ?_)))))))
  obtain⟨n3,h⟩:=zad h
  refine pq rfl (zai (by kernel_rfl) rfl rfl n3.1 n3.2 (pq rfl (zak (a:= .xs (gi y2 0)) (by kernel_rfl) rfl rfl ?_)))
  obtain⟨y4,d,h⟩:=zae h
  refine pq rfl (zal (zhy _ _ d) func171 (by kernel_rfl) (lc lf ln) (pq rfl (zah (av:= .row 1 zab y2) rfl ?_)))
  obtain⟨n5,h⟩:=zad h
  refine pq rfl (op_slice_rowd (by kernel_rfl) rfl (zdn rfl) zdu (by decide) n5 (Int.le_refl _) (pq rfl (zcj (av:= .xi y4) rfl (pq rfl (zcj (av:= .row 1 zab (List.drop (Int.toNat 1) y2)) rfl (zcn (zaf (zbn ?_))))))))
  obtain rfl:=oi h
  refine ke (pt (pt AF0 2 (.xi y4)) 3 (.row 1 zab (List.drop (Int.toNat 1) y2))) [] rfl (s2 rfl rfl) ⟨rfl,rfl⟩
theorem m_procterm_event_ok (a0:List UInt8) (r:Int×Bool) (h:m_procterm_event a0=some r):Pure Tryz.prog 237 [(.exact (.string (bs a0)))] (.tup [.exact (.int .i64 r.1), .exact (.bool r.2)]):=by
 unfold m_procterm_event at h
 refine Pure.ofFun (zam func237 rfl ntmps237 (by simp) rfl (res2 rfl) λ E hE=>zca (sr (qa (.xi 0) rfl (qa (.xb false) rfl (gd (qm (.xs a0) rfl ?_))))))
 obtain⟨y1,b,h⟩:=zae h
 refine gq (zal (zhy _ _ b) func171 (by kernel_rfl) (lc lf ln) (qa (.xi y1) rfl (gc (zax h (λ(a:Bool)=>(pt (pt AF0 2 (.xi y1)) 3 (.xb a))) (λ(a:Bool)=>[]) (λ k2 h=> ?_) (λ a h=> ?_)))))
 .refine kr (qm (.xi y1) rfl (qm (.xs a0) rfl ?_))
  obtain⟨y4,c,h⟩:=zae h
  refine gq (zal (zia _ _ c) func215 (by kernel_rfl) (lc lf ln) (gq (zbf rfl rfl (qm (.xb (decide (y4=1))) rfl (zcc (p:=y4=1) 11 rfl (λ hc=> ?_) (λ hc=> ?_))))))
  .replace h:=zcg h hc
   refine gy (zah (av:= .xi y1) rfl (gy (zgm rfl rfl (gq (zat rfl (av:= .xb (decide (2≤y1))) rfl (qm (.xb (decide (2≤y1))) rfl (zcc (p:=2≤y1) 15 rfl (λ hc=> ?_) (λ hc=> ?_))))))))
   .replace h:=zcg h hc
    refine gy (zah (av:= .xi y1) rfl (gy (zbm rfl rfl (gq (zat rfl (av:= .xb (decide (y1<1026))) rfl (qa (.xi y1) rfl (qa (.xb (decide (y1<1026))) rfl (zbc (zaa ⟨_,h,s2 rfl rfl⟩)))))))))
   .replace h:=zcf h hc
    refine gn (gn (gq (zar rfl (av:= .xb false) rfl (qa (.xi y1) rfl (qa (.xb false) rfl (zbc (zaa ⟨_,h,s2 rfl rfl⟩)))))))
  .replace h:=zcf h hc
   refine gn (gn (gq (zar rfl (av:= .xb false) rfl (qm (.xb false) rfl (gn (gn (gq (zar rfl (av:= .xb false) rfl (qa (.xi y1) rfl (qa (.xb false) rfl (zbc (zaa ⟨_,h,s2 rfl rfl⟩))))))))))))
 .refine zbn ?_
  obtain rfl:=oi h
  refine ke (pt (pt AF0 2 (.xi y1)) 3 (.xb a)) [] rfl (s2 rfl rfl) ⟨rfl,rfl⟩
theorem m_slices_Clip_L_api_Offer_api_Offer_ok (a0:List (Int×(List UInt8))) (r:(List (Int×(List UInt8)))) (h:zfa a0=some r):Pure Tryz.prog 245 [(.row 2 zbg a0)] (.row 2 zbg r):=by
 unfold zfa at h
 refine Pure.ofFun (zam func245 rfl ntmps245 (by simp) rfl (res1 rfl) λ E hE=>zca (sr (qa (.exact (.slice none 0 0)) rfl (gd (qm (.row 2 zbg a0) rfl (qm (.row 2 zbg a0) rfl (gq (zao (by kernel_rfl) rfl (qm (.row 2 zbg a0) rfl (gq (zao (by kernel_rfl) rfl ?_)))))))))))
 obtain⟨n1,h⟩:=zad h
 refine gq (op_slice_row3 (by kernel_rfl) rfl zdu rfl rfl (Int.le_refl 0) n1 (Int.le_refl _) (Int.le_refl _) (qa (.row 2 zbg (List.take (Int.toNat (List.length a0:Int)) a0)) rfl (gc (zbn ?_))))
 obtain rfl:=oi h
 refine ke (pt AF0 2 (.row 2 zbg (List.take (Int.toNat (List.length a0:Int)) a0))) [] rfl (s1 rfl) ⟨rfl,rfl⟩
theorem m_procterm_pairUp_ok (a0:List (List UInt8)) (r:(List (Int×(List UInt8)))) (h:m_procterm_pairUp a0=some r):Pure Tryz.prog 218 [(.row 1 zab a0)] (.row 2 zbg r):=by
 unfold m_procterm_pairUp at h
 refine Pure.ofFun (zam func218 rfl ntmps218 (by simp) rfl (res1 rfl) λ E hE=>zca (sr (qa (.exact (.slice none 0 0)) rfl (gd (qa (.exact (.slice none 0 0)) rfl (gc (zcb h (λ(c:List (Int×(List UInt8))) (v3_j1:Value)=>(pt AF0 3 (.exact v3_j1))) (λ(c:List (Int×(List UInt8))) (v3_j1:Value)=>[vecT Tryz.prog 109 2 zbg v3_j1 c]) (λ k1 h=> ?_) (λ c v3_j1 h=> ?_))))))))
 .refine sr (qa (.xi 0) rfl (gc (zaq (zcz (m_procterm_pairUp_L2 a0 k1) (m_procterm_pairUp_B2 a0 k1) (λ _ _=>rfl) (λ m _ _=>rfl) h (λ(d:List (Int×(List UInt8))) (b:Int) (v3_l2:Value)=>(pt (pt (pt AF0 0 (.row 1 zab a0)) 3 (.exact v3_l2)) 4 (.xi b))) (λ(d:List (Int×(List UInt8))) (b:Int) (v3_l2:Value)=>[vecT Tryz.prog 109 2 zbg v3_l2 d]) (.slice none 0 0) ?_ (λ g d b v3_l2 h=> ?_)))))
  .refine Sub.trans (SubU.to (SubU.nilT (P:=Tryz.prog) (t:=109) (n:=2) (enc:=zbg))) (s3 rfl rfl rfl)
  .unfold m_procterm_pairUp_B2 at h
   refine zan (sr (qm (.xi b) rfl (qm (.row 1 zab a0) rfl (gq (zao (by kernel_rfl) rfl (gq (zbm rfl rfl (gc (kd (p:=b<(List.length a0:Int)) rfl h (λ hc h=> ?_) (λ hc h=> ?_))))))))))
   .refine zap (zaf (zan (zaq (zck [] [(0,0),(0,1),(0,2),(0,3),(0,4),(0,5),(0,6),(0,7),(0,8),(0,9),(0,10),(0,11),(0,12),(2,13),(0,14)] hmixP (by kernel_rfl) (pq rfl (zah (av:= .exact v3_l2) rfl (pq rfl (zah (av:= .row 1 zab a0) rfl (pq rfl (zah (av:= .xi b) rfl ?_))))))))))
    obtain⟨n28,h⟩:=zad h
    refine pq rfl (zai (by kernel_rfl) rfl rfl n28.1 n28.2 (pq rfl (zak (a:= .xs (gi a0 b)) (by kernel_rfl) rfl rfl ?_)))
    obtain⟨y29,e,h⟩:=zae h
    refine pq rfl (zal (zhy _ _ e) func171 (by kernel_rfl) (lc lf ln) (pq rfl (zah (av:= .row 1 zab a0) rfl (pq rfl (zah (av:= .xi b) rfl (pq rfl (zbo rfl rfl rfl ?_)))))))
    obtain⟨n30,h⟩:=zad h
    refine pq rfl (zai (by kernel_rfl) rfl rfl n30.1 n30.2 (pq rfl (zak (a:= .xs (gi a0 (i64 (b+1)))) (by kernel_rfl) rfl rfl (pq rfl (zft (c':=zbg (y29,gi a0 (i64 (b+1)))) (CellsAll.cons rfl CellsOf.int (CellsAll.cons rfl CellsOf.str CellsAll.nil)) rfl (lc lf (lc lf ln)) (pq rfl (zcd (n:=2) (enc:=zbg) [(y29,gi a0 (i64 (b+1)))] (CellsAll.cons rfl CellsOf.agg CellsAll.nil) rfl (by kernel_rfl) (LEss.cons (lc lf (lc lf ln)) LEss.nil) ?_)))))))
    obtain⟨n31,h⟩:=zad h
    refine P_l rfl (zcu (by kernel_rfl) rfl rfl oc_c_api_Offer n31 (λ v32=>pq rfl (zcj (av:= .exact v32) rfl (zcn (zau (zaf (kr (qm (.xi b) rfl (gq (zbo rfl rfl rfl (qa (.xi (i64 (b+2))) rfl (zbc (zaa ⟨_,_,v32,h,s3 rfl rfl rfl⟩)))))))))))))
   .refine zbr (zbi (zbk (zbj (zaa ⟨_,v3_l2,h,s1 rfl⟩))))
 .refine sr (qm (.exact v3_j1) rfl (G_sub rfl (SubU.freezeT2 (s1:=3) (s2:=25) rfl rfl zez) ?_))
  obtain⟨y33,f,h⟩:=zae h
  refine gq (zal (m_slices_Clip_L_api_Offer_api_Offer_ok _ _ f) func245 (by kernel_rfl) (lc lf ln) (qa (.row 2 zbg y33) rfl (gc (zbn ?_))))
  obtain rfl:=oi h
  refine ke (pt AF0 2 (.row 2 zbg y33)) [] rfl (s1 rfl) ⟨rfl,rfl⟩
end
noncomputable section
open Go.RowKit
attribute [local irreducible] AV.exact AV.top AV.row AV.ptr AV.agg AV.tup AV.eptr AV.fn AV.nilq AV.nilqn opA opB opM opR Quiet Loud Reads wpG awp den Sub SubU Pure Fun vecI vecT boxI CellsAll CellsOf OneC LEs LEss
set_option maxRecDepth 100000
set_option maxHeartbeats 4000000
theorem m_procterm_offers_ok (d:(List UInt8)->Option Bool) (hself_procterm_term: ∀(a0:List UInt8) (r:Bool),d a0=some r->Pure Tryz.prog 167 [(.exact (.string (bs a0)))] (.exact (.bool r))) (a0:List (List UInt8)) (r:Bool) (h:m_procterm_offers d a0=some r):Pure Tryz.prog 207 [(.row 1 zab a0)] (.exact (.bool r)):=by
 unfold m_procterm_offers at h
 refine Pure.ofFun (zam func207 rfl ntmps207 (by simp) rfl (res1 rfl) λ E hE=>zca (sr (qa (.xb false) rfl (gc (zan (zax h (λ(e:Bool)=>(pt (pt AF0 0 (.row 1 zab a0)) 16 (.xb e))) (λ(e:Bool)=>[]) (λ k3 h=> ?_) (λ e h=> ?_)))))))
 .refine kr (qm (.row 1 zab a0) rfl (gq (zao (by kernel_rfl) rfl (gq (zbf rfl rfl (qm (.xb (decide ((List.length a0:Int)=0))) rfl (zcc (p:=(List.length a0:Int)=0) 11 rfl (λ hc=> ?_) (λ hc=> ?_))))))))
  .replace h:=zcg h hc
   refine gn (gn (gn (gn (gq (zat rfl (av:= .xb true) rfl (zbc (zaa ⟨_,h,s2 rfl rfl⟩)))))))
  .replace h:=zcf h hc
   refine gy (zah (av:= .row 1 zab a0) rfl (gy (zao (by kernel_rfl) rfl (gy (op_rem rfl rfl (by decide) rfl (gy (zfr rfl rfl (gq (zar rfl (av:= .xb (decide (¬(Int.tmod (List.length a0:Int) 2)=0))) rfl (zbc (zaa ⟨_,h,s2 rfl rfl⟩)))))))))))
 .refine kb (p:=e) rfl h (λ hc h=> ?_) (λ hc h=> ?_)
  .refine zan ?_
   cases h
  .refine zap (zaf (zbw h ((pt AF0 0 (.row 1 zab a0))) ([]) (λ k4 h=> ?_) (λ  h=> ?_)))
   .refine sr (qa (.xi 0) rfl (gc (zaq (zcr (m_procterm_offers_L2 d a0 k4) (m_procterm_offers_B2 d a0 k4) (λ _=>rfl) (λ m _=>rfl) h (λ(b:Int)=>(pt (pt AF0 0 (.row 1 zab a0)) 3 (.xi b))) (λ(b:Int)=>[]) ?_ (λ k b h=> ?_)))))
    .exact s2 rfl rfl
    .unfold m_procterm_offers_B2 at h
     refine zan (sr (qm (.xi b) rfl (qm (.row 1 zab a0) rfl (gq (zao (by kernel_rfl) rfl (gq (zbm rfl rfl (gc (kd (p:=b<(List.length a0:Int)) rfl h (λ hc h=> ?_) (λ hc h=> ?_))))))))))
     .refine zap (zaf (zan (zaq (sr (qm (.row 1 zab a0) rfl (qm (.xi b) rfl ?_))))))
      obtain⟨n89,h⟩:=zad h
      refine gq (zai (by kernel_rfl) rfl rfl n89.1 n89.2 (gq (zak (a:= .xs (gi a0 b)) (by kernel_rfl) rfl rfl ?_)))
      obtain⟨y90,g,h⟩:=zae h
      refine gq (zal (m_procterm_event_ok _ _ g) func237 (by kernel_rfl) (lc lf ln) (qm (.tup [.xi y90.1, .xb y90.2]) rfl (gq (zbq (av:= .xi y90.1) rfl rfl (gq (zbq (av:= .xb y90.2) rfl rfl (qa (.xi y90.1) rfl (qa (.xb y90.2) rfl (gc (zax h (λ(f:Bool)=>(pt (pt (pt AF0 0 (.row 1 zab a0)) 3 (.xi b)) 41 (.xb f))) (λ(f:Bool)=>[]) (λ k91 h=> ?_) (λ f h=> ?_)))))))))))
      .refine kr (qm (.xb y90.2) rfl (gq (zdh rfl (qm (.xb (!y90.2)) rfl (zfl (c:= !y90.2) 33 rfl (λ hc=> ?_) (λ hc=> ?_))))))
       .replace h:=zcg h hc
        refine gn (gn (gn (gn (gn (gn (gn (gq (zat rfl (av:= .xb true) rfl (zbc (zaa ⟨_,h,s3 rfl rfl rfl⟩))))))))))
       .replace h:=zcf h hc
        refine gy (zah (av:= .row 1 zab a0) rfl (gy (zah (av:= .xi b) rfl (gy (zbo rfl rfl rfl ?_)))))
        obtain⟨n94,h⟩:=zad h
        refine gy (zai (by kernel_rfl) rfl rfl n94.1 n94.2 (gy (zak (a:= .xs (gi a0 (i64 (b+1)))) (by kernel_rfl) rfl rfl ?_)))
        obtain⟨y95,i,h⟩:=zae h
        refine gy (zal (hself_procterm_term _ _ i) func167 (by kernel_rfl) (lc lf ln) (gy (zdh rfl (gq (zar rfl (av:= .xb (!y95)) rfl (zbc (zaa ⟨_,h,s3 rfl rfl rfl⟩)))))))
      .refine kb (p:=f) rfl h (λ hc h=> ?_) (λ hc h=> ?_)
       .refine zan ?_
        cases h
       .refine zap (zau (zaf (kr (qm (.xi b) rfl (gq (zbo rfl rfl rfl (qa (.xi (i64 (b+2))) rfl (zbc (zaa ⟨_,h,s2 rfl rfl⟩)))))))))
     .refine zbr (zbi (zbk (zbj (zaa ⟨h,s1 rfl⟩))))
   .refine sr (qm (.row 1 zab a0) rfl ?_)
    obtain⟨y96,j,h⟩:=zae h
    refine gq (zal (m_procterm_pairUp_ok _ _ j) func218 (by kernel_rfl) (lc lf ln) (qa (.row 2 zbg y96) rfl (gc (zbw h (AF0) ([]) (λ k97 h=> ?_) (λ  h=> ?_)))))
    .refine sr (qa (.xi 1) rfl (gc (zaq (zgs (m_procterm_offers_L4 y96 k97) (m_procterm_offers_B4 y96 k97) (λ _=>rfl) (λ m _=>rfl) h ((pt (pt AF0 6 (.row 2 zbg y96)) 7 (.xi 1))) ([]) ?_ (λ l  h=> ?_)))))
     .exact s2 rfl rfl
     .unfold m_procterm_offers_B4 at h
      refine zan (sr (qm (.xi 1) rfl (qm (.row 2 zbg y96) rfl (gq (zao (by kernel_rfl) rfl (gq (zbm rfl rfl (gc (kd (p:=1<(List.length y96:Int)) rfl h (λ hc h=> ?_) (λ hc h=> ?_))))))))))
      .refine zap (zaf (zan (zaq (zan ?_))))
       cases h
      .refine zbr (zbi (zbk (zbj (zaa ⟨h,Sub.of_le lt0⟩))))
    .refine sr (qa (.xb true) rfl (gc (zbn ?_)))
     obtain rfl:=oi h
     refine ke (pt AF0 2 (.xb true)) [] rfl (s1 rfl) ⟨rfl,rfl⟩
theorem m_procterm_number_ok (a0:List UInt8) (a1:Int) (r:Bool) (h:m_procterm_number a0 a1=some r):Pure Tryz.prog 206 [(.exact (.string (bs a0))),(.exact (.int .i64 a1))] (.exact (.bool r)):=by
 unfold m_procterm_number at h
 refine Pure.ofFun (zam func206 rfl ntmps206 (by simp) rfl (res1 rfl) λ E hE=>zca (sr (qa (.xb false) rfl (gd (qm (.xs a0) rfl ?_)))))
 obtain⟨y1,b,h⟩:=zae h
 refine gq (zal (zhy _ _ b) func171 (by kernel_rfl) (lc lf ln) (qa (.xi y1) rfl (gc (zax h (λ(a:Bool)=>(pt AF0 4 (.xb a))) (λ(a:Bool)=>[]) (λ k2 h=> ?_) (λ a h=> ?_)))))
 .refine kr (qm (.xs a0) rfl ?_)
  obtain⟨y4,c,h⟩:=zae h
  refine gq (zal (zia _ _ c) func215 (by kernel_rfl) (lc lf ln) (gq (zbf rfl rfl (qm (.xb (decide (y4=1))) rfl (zcc (p:=y4=1) 11 rfl (λ hc=> ?_) (λ hc=> ?_))))))
  .replace h:=zcg h hc
   refine gy (zah (av:= .xi y1) rfl (gy (zgm rfl rfl (gq (zat rfl (av:= .xb (decide (0≤y1))) rfl (qm (.xb (decide (0≤y1))) rfl (zcc (p:=0≤y1) 15 rfl (λ hc=> ?_) (λ hc=> ?_))))))))
   .replace h:=zcg h hc
    refine gy (zah (av:= .xi y1) rfl (gy (zah (av:= .xi a1) rfl (gy (op_leq rfl rfl (gq (zat rfl (av:= .xb (decide (y1≤a1))) rfl (qa (.xb (decide (y1≤a1))) rfl (zbc (zaa ⟨_,h,s1 rfl⟩))))))))))
   .replace h:=zcf h hc
    refine gn (gn (gn (gq (zar rfl (av:= .xb false) rfl (qa (.xb false) rfl (zbc (zaa ⟨_,h,s1 rfl⟩)))))))
  .replace h:=zcf h hc
   refine gn (gn (gq (zar rfl (av:= .xb false) rfl (qm (.xb false) rfl (gn (gn (gn (gq (zar rfl (av:= .xb false) rfl (qa (.xb false) rfl (zbc (zaa ⟨_,h,s1 rfl⟩))))))))))))
 .refine zbn ?_
  obtain rfl:=oi h
  refine ke (pt AF0 4 (.xb a)) [] rfl (s1 rfl) ⟨rfl,rfl⟩
theorem m_procterm_form_ok (a0:Int) (r:(List UInt8)) (h:m_procterm_form a0=some r):Pure Tryz.prog 208 [(.exact (.int .i64 a0))] (.exact (.string (bs r))):=by
 unfold m_procterm_form at h
 refine Pure.ofFun (zam func208 rfl ntmps208 (by simp) rfl (res1 rfl) λ E hE=>zca (sr (qa (.xs ([]:List UInt8)) rfl (gc (zan (sr (qm (.xi a0) rfl (gc (zaq (zax h (λ(a:Bool)=>(pt (pt AF0 3 (.xi a0)) 4 (.xb a))) (λ(a:Bool)=>[]) (λ k5 h=> ?_) (λ a h=> ?_)))))))))))
 .refine sr (gq (zbf rfl rfl (qa (.xb (decide (a0=7))) rfl (gc (kd (p:=a0=7) rfl h (λ hc h=> ?_) (λ hc h=> ?_))))))
  .refine zap (zaa ⟨_,h,s2 rfl rfl⟩)
  .refine sr (gq (zbf rfl rfl (qa (.xb (decide (a0=8))) rfl (gc (kd (p:=a0=8) rfl h (λ hc h=> ?_) (λ hc h=> ?_))))))
   .refine zap (zaa ⟨_,h,s2 rfl rfl⟩)
   .refine sr (gq (zbf rfl rfl (qa (.xb (decide (a0=9))) rfl (gc (kd (p:=a0=9) rfl h (λ hc h=> ?_) (λ hc h=> ?_))))))
    .refine zap (zaa ⟨_,h,s2 rfl rfl⟩)
    .refine sr (gq (zbf rfl rfl (qa (.xb (decide (a0=10))) rfl (gc (kd (p:=a0=10) rfl h (λ hc h=> ?_) (λ hc h=> ?_))))))
     .refine zap (zaa ⟨_,h,s2 rfl rfl⟩)
     .refine kr (gq (zbf rfl rfl (qa (.xb (decide (a0=11))) rfl (zbc (zaa ⟨_,h,s2 rfl rfl⟩)))))
 .refine kb (p:=a) rfl h (λ hc h=> ?_) (λ hc h=> ?_)
  .refine zan ?_
   cases h
  .refine zax h (λ(b:Bool)=>(pt (pt AF0 3 (.xi a0)) 10 (.xb b))) (λ(b:Bool)=>[]) (λ k6 h=> ?_) (λ b h=> ?_)
   .refine sr (gq (zbf rfl rfl (qa (.xb (decide (a0=12))) rfl (gc (kd (p:=a0=12) rfl h (λ hc h=> ?_) (λ hc h=> ?_))))))
    .refine zap (zaa ⟨_,h,s2 rfl rfl⟩)
    .refine sr (gq (zbf rfl rfl (qa (.xb (decide (a0=13))) rfl (gc (kd (p:=a0=13) rfl h (λ hc h=> ?_) (λ hc h=> ?_))))))
     .refine zap (zaa ⟨_,h,s2 rfl rfl⟩)
     .refine kr (gq (zbf rfl rfl (qa (.xb (decide (a0=16))) rfl (zbc (zaa ⟨_,h,s2 rfl rfl⟩)))))
   .refine kb (p:=b) rfl h (λ hc h=> ?_) (λ hc h=> ?_)
    .refine sr (qa (.exact (.string (bs [112,115,112]))) rfl (gc (zbn (zde (zdb ?_)))))
     obtain rfl:=oi h
     refine ke (pt AF0 2 (.exact (.string (bs [112,115,112])))) [] rfl (s1 rfl) ⟨rfl,rfl⟩
    .refine sr (gq (zbf rfl rfl (qa (.xb (decide (a0=17))) rfl (gc (kd (p:=a0=17) rfl h (λ hc h=> ?_) (λ hc h=> ?_))))))
     .refine zan ?_
      cases h
     .refine sr (gq (zbf rfl rfl (qa (.xb (decide (a0=20))) rfl (gc (kd (p:=a0=20) rfl h (λ hc h=> ?_) (λ hc h=> ?_))))))
      .refine zan ?_
       cases h
      .refine sr (gq (zbf rfl rfl (qa (.xb (decide (a0=14))) rfl (gc (kd (p:=a0=14) rfl h (λ hc h=> ?_) (λ hc h=> ?_))))))
       .refine zan ?_
        cases h
       .refine zax h (λ(c:Bool)=>(pt (pt AF0 3 (.xi a0)) 20 (.xb c))) (λ(c:Bool)=>[]) (λ k7 h=> ?_) (λ c h=> ?_)
        .refine sr (gq (zbf rfl rfl (qa (.xb (decide (a0=15))) rfl (gc (kd (p:=a0=15) rfl h (λ hc h=> ?_) (λ hc h=> ?_))))))
         .refine zap (zaa ⟨_,h,s2 rfl rfl⟩)
         .refine kr (gq (zbf rfl rfl (qa (.xb (decide (a0=18))) rfl (zbc (zaa ⟨_,h,s2 rfl rfl⟩)))))
        .refine kb (p:=c) rfl h (λ hc h=> ?_) (λ hc h=> ?_)
         .refine zan ?_
          cases h
         .refine sr (gq (zbf rfl rfl (qa (.xb (decide (a0=19))) rfl (gc (kd (p:=a0=19) rfl h (λ hc h=> ?_) (λ hc h=> ?_))))))
          .refine zan ?_
           cases h
          .refine zap (zau (zaf (sr (qa (.xs ([]:List UInt8)) rfl (gc (zbn ?_))))))
           obtain rfl:=oi h
           refine ke (pt AF0 2 (.xs ([]:List UInt8))) [] rfl (s1 rfl) ⟨rfl,rfl⟩
theorem zgx (a0:List Int) (r:(List Int)) (h:zfg a0=some r):Pure Tryz.prog 174 [(.row 1 zav a0)] (.row 1 zav r):=by
 unfold zfg at h
 refine Pure.ofFun (zam func174 rfl ntmps174 (by simp) rfl (res1 rfl) λ E hE=>zca (sr (qa (.exact (.slice none 0 0)) rfl (gd (qm (.row 1 zav a0) rfl (qm (.row 1 zav a0) rfl (gq (zao (by kernel_rfl) rfl (qm (.row 1 zav a0) rfl (gq (zao (by kernel_rfl) rfl ?_)))))))))))
 obtain⟨n1,h⟩:=zad h
 refine gq (op_slice_row3 (by kernel_rfl) rfl zdu rfl rfl (Int.le_refl 0) n1 (Int.le_refl _) (Int.le_refl _) (qa (.row 1 zav (List.take (Int.toNat (List.length a0:Int)) a0)) rfl (gc (zbn ?_))))
 obtain rfl:=oi h
 refine ke (pt AF0 2 (.row 1 zav (List.take (Int.toNat (List.length a0:Int)) a0))) [] rfl (s1 rfl) ⟨rfl,rfl⟩
theorem m_procterm_events_ok (a0:List UInt8) (r:(List Int)×Bool) (h:m_procterm_events a0=some r):Pure Tryz.prog 239 [(.exact (.string (bs a0)))] (.tup [.row 1 zav r.1, .exact (.bool r.2)]):=by
 unfold m_procterm_events at h
 refine Pure.ofFun (zam func239 rfl ntmps239 (by simp) rfl (res2 rfl) λ E hE=>zca (sr (qa (.exact (.slice none 0 0)) rfl (qa (.xb false) rfl (gc (zan (sr (qm (.xs a0) rfl ?_))))))))
 obtain⟨y1,e,h⟩:=zae h
 refine gq (zal (zia _ _ e) func215 (by kernel_rfl) (lc lf ln) (gq (zfr rfl rfl (gc (kd (p:= ¬y1=5) rfl h (λ hc h=> ?_) (λ hc h=> ?_))))))
 .refine zan ?_
  cases h
 .refine zap (zaf (sr (qa (.exact (.slice none 0 0)) rfl (gc (zcb h (λ(c:List Int) (v4_j2:Value)=>(pt AF0 4 (.exact v4_j2))) (λ(c:List Int) (v4_j2:Value)=>[vecT Tryz.prog 22 1 zav v4_j2 c]) (λ k2 h=> ?_) (λ c v4_j2 h=> ?_))))))
  .refine sr (qm (.xs a0) rfl ?_)
   obtain⟨y17,f,h⟩:=zae h
   refine gq (zal (m_value_Parts_ok _ _ f) func236 (by kernel_rfl) (lc lf ln) (gq (zao (by kernel_rfl) rfl (qm (.xi 0) rfl (gc (zaq (zcz (m_procterm_events_L2 k2 y17) (m_procterm_events_B2 k2 y17) (λ _ _=>rfl) (λ m _ _=>rfl) h (λ(d:List Int) (b:Int) (v4_l2:Value)=>(pt (pt (pt (pt AF0 4 (.exact v4_l2)) 13 (.row 1 zab y17)) 14 (.xi (List.length y17:Int))) 15 (.xi b))) (λ(d:List Int) (b:Int) (v4_l2:Value)=>[vecT Tryz.prog 22 1 zav v4_l2 d]) (.slice none 0 0) ?_ (λ j d b v4_l2 h=> ?_))))))))
   .refine Sub.trans (SubU.to (SubU.nilT (P:=Tryz.prog) (t:=22) (n:=1) (enc:=zav))) (s4 rfl rfl rfl rfl)
   .unfold m_procterm_events_B2 at h
    refine sr (gq (zbm rfl rfl (gc (zan (kd (p:=b<(List.length y17:Int)) rfl h (λ hc h=> ?_) (λ hc h=> ?_))))))
    .refine zap (zaf (zan (zaq (sr ?_))))
     obtain⟨n26,h⟩:=zad h
     refine gq (zai (by kernel_rfl) rfl rfl n26.1 n26.2 (gq (zak (a:= .xs (gi y17 b)) (by kernel_rfl) rfl rfl (qa (.xs (gi y17 b)) rfl (gd (qm (.xs (gi y17 b)) rfl ?_))))))
     obtain⟨y27,g,h⟩:=zae h
     refine gq (zal (m_procterm_event_ok _ _ g) func237 (by kernel_rfl) (lc lf ln) (qm (.tup [.xi y27.1, .xb y27.2]) rfl (gq (zbq (av:= .xi y27.1) rfl rfl (gq (zbq (av:= .xb y27.2) rfl rfl (qa (.xi y27.1) rfl (qa (.xb y27.2) rfl (gc (zan (sr (qm (.xb y27.2) rfl (gq (zdh rfl (gc (kb (p:= !y27.2) rfl h (λ hc h=> ?_) (λ hc h=> ?_)))))))))))))))))
     .refine zan ?_
      cases h
     .refine zap (zaf (kr (qm (.exact v4_l2) rfl (qm (.xi y27.1) rfl (gq (zcd (n:=1) (enc:=zav) [y27.1] (CellsAll.cons rfl CellsOf.int CellsAll.nil) rfl (by kernel_rfl) (LEss.cons (lc lf ln) LEss.nil) ?_))))))
      obtain⟨n28,h⟩:=zad h
      refine G_l rfl (zcu (by kernel_rfl) rfl rfl oc_c_int n28 (λ v29=>qa (.exact v29) rfl (zbc (zau (zaf (kr (gq (zbo rfl rfl rfl (qm (.xi (i64 (b+1))) rfl (zbc (zaa ⟨_,_,v29,h,s4 rfl rfl rfl rfl⟩)))))))))))
    .refine zbr (zbi (zbk (zbj (zaa ⟨_,v4_l2,h,s1 rfl⟩))))
  .refine sr (qm (.exact v4_j2) rfl (G_sub rfl (SubU.freezeT2 (s1:=4) (s2:=31) rfl rfl zdf) ?_))
   obtain⟨y30,i,h⟩:=zae h
   refine gq (zal (zgx _ _ i) func174 (by kernel_rfl) (lc lf ln) (qa (.row 1 zav y30) rfl (qa (.xb true) rfl (gc (zbn ?_)))))
   obtain rfl:=oi h
   refine ke (pt (pt AF0 2 (.row 1 zav y30)) 3 (.xb true)) [] rfl (s2 rfl rfl) ⟨rfl,rfl⟩
theorem m_procterm_part_ok (d:(List UInt8)->Option Bool) (hself_procterm_term: ∀(a0:List UInt8) (r:Bool),d a0=some r->Pure Tryz.prog 167 [(.exact (.string (bs a0)))] (.exact (.bool r))) (a0:UInt8) (a1:List UInt8) (r:Bool) (h:m_procterm_part d a0 a1=some r):Pure Tryz.prog 209 [(.exact (.int .u8 (UInt8.toNat a0:Int))),(.exact (.string (bs a1)))] (.exact (.bool r)):=by
 unfold m_procterm_part at h
 refine Pure.ofFun (zam func209 rfl ntmps209 (by simp) rfl (res1 rfl) λ E hE=>zca (sr (qa (.xb false) rfl (gd (qa (.xb false) rfl (gc (zax h (λ(c:Bool)=>(pt AF0 5 (.xb c))) (λ(c:Bool)=>[]) (λ k1 h=> ?_) (λ c h=> ?_))))))))
 .refine sr (qm (.exact (.int .u8 (UInt8.toNat a0:Int))) rfl (gc (zaq (sr (gq (zgr (a:=a0) (b:=112) rfl rfl (qa (.xb (decide (a0=112))) rfl (gc (kd (p:=a0=112) rfl h (λ hc h=> ?_) (λ hc h=> ?_))))))))))
  .refine kr (qm (.xs a1) rfl ?_)
   obtain⟨y4,e,h⟩:=zae h
   refine gq (zal (hself_procterm_term _ _ e) func167 (by kernel_rfl) (lc lf ln) (qa (.xb y4) rfl (zbc (zau (zaa ⟨_,h,s1 rfl⟩)))))
  .refine sr (gq (zgr (a:=a0) (b:=115) rfl rfl (qa (.xb (decide (a0=115))) rfl (gc (kd (p:=a0=115) rfl h (λ hc h=> ?_) (λ hc h=> ?_))))))
   .refine kr (qm (.xs a1) rfl ?_)
    obtain⟨y5,f,h⟩:=zae h
    refine gq (zal (m_procterm_events_ok _ _ f) func239 (by kernel_rfl) (lc lf ln) (qm (.tup [.row 1 zav y5.1, .xb y5.2]) rfl (gq (zbq (av:= .row 1 zav y5.1) rfl rfl (gq (zbq (av:= .xb y5.2) rfl rfl (qa (.xb y5.2) rfl (zbc (zau (zaa ⟨_,h,s1 rfl⟩))))))))))
   .refine sr (gq (zgr (a:=a0) (b:=114) rfl rfl (qa (.xb (decide (a0=114))) rfl (gc (kd (p:=a0=114) rfl h (λ hc h=> ?_) (λ hc h=> ?_))))))
    .cases h
    .refine zap (zau (zaa ⟨_,h,s1 rfl⟩))
 .refine sr (qm (.xb c) rfl (qa (.xb c) rfl (gc (zbn ?_))))
  obtain rfl:=oi h
  refine ke (pt AF0 4 (.xb c)) [] rfl (s1 rfl) ⟨rfl,rfl⟩
theorem m_procterm_term_F_ok (c:(List UInt8)->Option Bool) (hself_procterm_term: ∀(a0:List UInt8) (r:Bool),c a0=some r->Pure Tryz.prog 167 [(.exact (.string (bs a0)))] (.exact (.bool r))) (a0:List UInt8) (r:Bool) (h:m_procterm_term_F c a0=some r):Pure Tryz.prog 167 [(.exact (.string (bs a0)))] (.exact (.bool r)):=by
 unfold m_procterm_term_F at h
 refine Pure.ofFun (zam func167 rfl ntmps167 (by simp) rfl (res1 rfl) λ E hE=>zca (sr (qa (.xb false) rfl (gd (qm (.xs a0) rfl ?_)))))
 obtain⟨y1,f,h⟩:=zae h
 refine gq (zal (m_procterm_split_ok _ _ f) func205 (by kernel_rfl) (lc lf ln) (qm (.tup [.xi y1.1, .row 1 zab y1.2]) rfl (gq (zbq (av:= .xi y1.1) rfl rfl (gq (zbq (av:= .row 1 zab y1.2) rfl rfl (qa (.xi y1.1) rfl (qa (.row 1 zab y1.2) rfl (gc (zan (sr (qm (.xi y1.1) rfl (gc (zaq (sr (gq (zbf rfl rfl (qa (.xb (decide (y1.1=0))) rfl (gc (kd (p:=y1.1=0) rfl h (λ hc h=> ?_) (λ hc h=> ?_)))))))))))))))))))))
 .refine zan ?_
  cases h
 .refine zax h (λ(d:Bool)=>(pt (pt (pt (pt AF0 3 (.xi y1.1)) 4 (.row 1 zab y1.2)) 15 (.xi y1.1)) 18 (.xb d))) (λ(d:Bool)=>[]) (λ k11 h=> ?_) (λ d h=> ?_)
  .refine sr (gq (zbf rfl rfl (qa (.xb (decide (y1.1=1))) rfl (gc (kd (p:=y1.1=1) rfl h (λ hc h=> ?_) (λ hc h=> ?_))))))
   .refine zap (zaa ⟨_,h,s4 rfl rfl rfl rfl⟩)
   .refine sr (gq (zbf rfl rfl (qa (.xb (decide (y1.1=2))) rfl (gc (kd (p:=y1.1=2) rfl h (λ hc h=> ?_) (λ hc h=> ?_))))))
    .refine zap (zaa ⟨_,h,s4 rfl rfl rfl rfl⟩)
    .refine sr (gq (zbf rfl rfl (qa (.xb (decide (y1.1=3))) rfl (gc (kd (p:=y1.1=3) rfl h (λ hc h=> ?_) (λ hc h=> ?_))))))
     .refine zap (zaa ⟨_,h,s4 rfl rfl rfl rfl⟩)
     .refine kr (gq (zbf rfl rfl (qa (.xb (decide (y1.1=4))) rfl (zbc (zaa ⟨_,h,s4 rfl rfl rfl rfl⟩)))))
  .refine kb (p:=d) rfl h (λ hc h=> ?_) (λ hc h=> ?_)
   .refine sr (qm (.row 1 zab y1.2) rfl (gq (zao (by kernel_rfl) rfl (gq (zbf rfl rfl (qa (.xb (decide ((List.length y1.2:Int)=0))) rfl (gc (zbn (zde (zdb ?_))))))))))
    obtain rfl:=oi h
    refine ke (pt AF0 2 (.xb (decide ((List.length y1.2:Int)=0)))) [] rfl (s1 rfl) ⟨rfl,rfl⟩
   .refine sr (gq (zbf rfl rfl (qa (.xb (decide (y1.1=5))) rfl (gc (kd (p:=y1.1=5) rfl h (λ hc h=> ?_) (λ hc h=> ?_))))))
    .refine zan ?_
     cases h
    .refine sr (gq (zbf rfl rfl (qa (.xb (decide (y1.1=6))) rfl (gc (kd (p:=y1.1=6) rfl h (λ hc h=> ?_) (λ hc h=> ?_))))))
     .refine sr (qm (.row 1 zab y1.2) rfl ?_)
      obtain⟨y13,g,h⟩:=zae h
      refine gq (zal (m_procterm_offers_ok c hself_procterm_term _ _ g) func207 (by kernel_rfl) (lc lf ln) (qa (.xb y13) rfl (gc (zbn (zde (zdb ?_))))))
      obtain rfl:=oi h
      refine ke (pt AF0 2 (.xb y13)) [] rfl (s1 rfl) ⟨rfl,rfl⟩
     .refine sr (gq (zbf rfl rfl (qa (.xb (decide (y1.1=21))) rfl (gc (kd (p:=y1.1=21) rfl h (λ hc h=> ?_) (λ hc h=> ?_))))))
      .refine zax h (λ(e:Bool)=>(pt AF0 2 (.xb e))) (λ(e:Bool)=>[]) (λ k14 h=> ?_) (λ e h=> ?_)
       .refine kr (qm (.row 1 zab y1.2) rfl (gq (zao (by kernel_rfl) rfl (gq (zbf rfl rfl (qm (.xb (decide ((List.length y1.2:Int)=1))) rfl (zcc (p:=(List.length y1.2:Int)=1) 51 rfl (λ hc=> ?_) (λ hc=> ?_))))))))
        .replace h:=zcg h hc
         refine gy (zah (av:= .row 1 zab y1.2) rfl ?_)
         obtain⟨n17,h⟩:=zad h
         refine gy (zai (by kernel_rfl) rfl rfl n17.1 n17.2 (gy (zak (a:= .xs (gi y1.2 0)) (by kernel_rfl) rfl rfl ?_)))
         obtain⟨y18,i,h⟩:=zae h
         refine gy (zal (m_procterm_number_ok _ _ _ i) func206 (by kernel_rfl) (lc lf (lc lf ln)) (gq (zat rfl (av:= .xb y18) rfl (qa (.xb y18) rfl (zbc (zaa ⟨_,h,s1 rfl⟩))))))
        .replace h:=zcf h hc
         refine gn (gn (gn (gn (gq (zar rfl (av:= .xb false) rfl (qa (.xb false) rfl (zbc (zaa ⟨_,h,s1 rfl⟩))))))))
       .refine zbn (zde (zdb ?_))
        obtain rfl:=oi h
        refine ke (pt AF0 2 (.xb e)) [] rfl (s1 rfl) ⟨rfl,rfl⟩
      .refine zap (zau (zaf (sr (qm (.xi y1.1) rfl ?_))))
       obtain⟨y19,j,h⟩:=zae h
       refine gq (zal (m_procterm_form_ok _ _ j) func208 (by kernel_rfl) (lc lf ln) (qa (.xs y19) rfl (gc (zan (sr (qm (.row 1 zab y1.2) rfl (gq (zao (by kernel_rfl) rfl (qm (.xs y19) rfl (gq (op_lenS (by kernel_rfl) rfl (gq (zfr rfl rfl (gc (kd (p:= ¬(List.length y1.2:Int)=(List.length y19:Int)) rfl h (λ hc h=> ?_) (λ hc h=> ?_))))))))))))))))
       .refine zan ?_
        cases h
       .refine zap (zaf (zbw h ((pt (pt AF0 3 (.xi y1.1)) 4 (.row 1 zab y1.2))) ([]) (λ k20 h=> ?_) (λ  h=> ?_)))
        .refine sr (qm (.row 1 zab y1.2) rfl (gq (zao (by kernel_rfl) rfl (qm (.xi 0) rfl (gc (zaq (zcr (m_procterm_term_L2 c y1 y19 k20) (m_procterm_term_B2 c y1 y19 k20) (λ _=>rfl) (λ m _=>rfl) h (λ(b:Int)=>(pt (pt (pt (pt (pt (pt AF0 3 (.xi y1.1)) 4 (.row 1 zab y1.2)) 5 (.xs y19)) 64 (.row 1 zab y1.2)) 65 (.xi (List.length y1.2:Int))) 66 (.xi b))) (λ(b:Int)=>[]) ?_ (λ l b h=> ?_))))))))
         .exact so (l4 rfl rfl rfl rfl (lq rfl (lq rfl lt0)))
         .unfold m_procterm_term_B2 at h
          refine sr (gq (zbm rfl rfl (gc (zan (kd (p:=b<(List.length y1.2:Int)) rfl h (λ hc h=> ?_) (λ hc h=> ?_))))))
          .refine zap (zaf (zan (zaq (sr (qm (.xi b) rfl ?_)))))
           obtain⟨n37,h⟩:=zad h
           refine gq (zai (by kernel_rfl) rfl rfl n37.1 n37.2 (gq (zak (a:= .xs (gi y1.2 b)) (by kernel_rfl) rfl rfl (qa (.xi b) rfl (qa (.xs (gi y1.2 b)) rfl (gd (qm (.xs y19) rfl (qm (.xi b) rfl ?_))))))))
           obtain⟨n38,h⟩:=zad h
           refine gq (zct (by kernel_rfl) rfl rfl n38.1 n38.2 (qm (.xs (gi y1.2 b)) rfl ?_))
           obtain⟨y39,k,h⟩:=zae h
           refine gq (zal (m_procterm_part_ok c hself_procterm_term _ _ _ k) func209 (by kernel_rfl) (lc lf (lc lf ln)) (gq (zdh rfl (gc (kb (p:= !y39) rfl h (λ hc h=> ?_) (λ hc h=> ?_))))))
           .refine zan ?_
            cases h
           .refine zap (zau (zaf (kr (gq (zbo rfl rfl rfl (qm (.xi (i64 (b+1))) rfl (zbc (zaa ⟨_,h,so (l4 rfl rfl rfl rfl (lq rfl (lq rfl lt0)))⟩))))))))
          .refine zbr (zbi (zbk (zbj (zaa ⟨h,s2 rfl rfl⟩))))
        .refine zan (sr (qm (.xi y1.1) rfl (gq (zfr rfl rfl (gc (kd (p:= ¬y1.1=18) rfl h (λ hc h=> ?_) (λ hc h=> ?_)))))))
         .refine sr (qa (.xb true) rfl (gc (zbn (zdb ?_))))
          obtain rfl:=oi h
          refine ke (pt AF0 2 (.xb true)) [] rfl (s1 rfl) ⟨rfl,rfl⟩
         .refine zap (zaf (zan ?_))
          cases h
theorem m_procterm_term_S_ok: ∀n:Nat,(∀(a0:List UInt8) (r:Bool),m_procterm_term_S n a0=some r->Pure Tryz.prog 167 [(.exact (.string (bs a0)))] (.exact (.bool r)))
  |0=>(λ _ _ h=>by have h':(none:Option _)=some _:=h;cases h')
  |n+1=>by
    have ih:=m_procterm_term_S_ok n
    exact λ a0 r h=>m_procterm_term_F_ok (m_procterm_term_S n) ih a0 r h
theorem m_procterm_term_ok (a0:List UInt8) (r:Bool) (h:m_procterm_term a0=some r):Pure Tryz.prog 167 [(.exact (.string (bs a0)))] (.exact (.bool r)):=(m_procterm_term_S_ok FU) a0 r h
theorem m_procterm_Valid_ok (a0:List UInt8) (r:Bool) (h:m_procterm_Valid a0=some r):Pure Tryz.prog 122 [(.exact (.string (bs a0)))] (.exact (.bool r)):=by
 unfold m_procterm_Valid at h
 refine Pure.ofFun (zam func122 rfl ntmps122 (by simp) rfl (res1 rfl) λ E hE=>zca (sr (qa (.xb false) rfl (gd (qm (.xs a0) rfl ?_)))))
 obtain⟨y1,a,h⟩:=zae h
 refine gq (zal (m_procterm_term_ok _ _ a) func167 (by kernel_rfl) (lc lf ln) (qa (.xb y1) rfl (gc (zbn ?_))))
 obtain rfl:=oi h
 refine ke (pt AF0 2 (.xb y1)) [] rfl (s1 rfl) ⟨rfl,rfl⟩
theorem m_combinator_Valid_1_ok (a0:List UInt8) (r:Bool) (h:m_combinator_Valid_1 a0=some r):Pure Tryz.prog 121 [(.exact (.string (bs a0)))] (.exact (.bool r)):=by
 unfold m_combinator_Valid_1 at h
 refine Pure.ofFun (zam func121 rfl ntmps121 (by simp) rfl (res1 rfl) λ E hE=>zca (sr (qa (.xb false) rfl (gd (qm (.xs a0) rfl ?_)))))
 obtain⟨y1,a,h⟩:=zae h
 refine gq (zal (m_procterm_Valid_ok _ _ a) func122 (by kernel_rfl) (lc lf ln) (gq (zdh rfl (qa (.xb (!y1)) rfl (gc (zbn ?_))))))
 obtain rfl:=oi h
 refine ke (pt AF0 2 (.xb (!y1))) [] rfl (s1 rfl) ⟨rfl,rfl⟩
theorem m_procterm_Op_ok (a0:List UInt8) (r:Int) (h:m_procterm_Op a0=some r):Pure Tryz.prog 213 [(.exact (.string (bs a0)))] (.exact (.int .i64 r)):=by
 unfold m_procterm_Op at h
 refine Pure.ofFun (zam func213 rfl ntmps213 (by simp) rfl (res1 rfl) λ E hE=>zca (sr (qa (.xi 0) rfl (gc (zan (sr (qm (.xs a0) rfl ?_)))))))
 obtain⟨y1,a,h⟩:=zae h
 refine gq (zal (m_procterm_term_ok _ _ a) func167 (by kernel_rfl) (lc lf ln) (gq (zdh rfl (gc (kb (p:= !y1) rfl h (λ hc h=> ?_) (λ hc h=> ?_))))))
 .refine zan ?_
  cases h
 .refine zap (zaf (sr (qm (.xs a0) rfl ?_)))
  obtain⟨y2,b,h⟩:=zae h
  refine gq (zal (m_procterm_split_ok _ _ b) func205 (by kernel_rfl) (lc lf ln) (qm (.tup [.xi y2.1, .row 1 zab y2.2]) rfl (gq (zbq (av:= .xi y2.1) rfl rfl (gq (zbq (av:= .row 1 zab y2.2) rfl rfl (qa (.xi y2.1) rfl (qa (.row 1 zab y2.2) rfl (gd (qm (.xi y2.1) rfl (qa (.xi y2.1) rfl (gc (zbn ?_)))))))))))))
  obtain rfl:=oi h
  refine ke (pt AF0 2 (.xi y2.1)) [] rfl (s1 rfl) ⟨rfl,rfl⟩
theorem m_combinator_parallel_ok (a0:Int) (r:Bool) (h:m_combinator_parallel a0=some r):Pure Tryz.prog 243 [(.exact (.int .i64 a0))] (.exact (.bool r)):=by
 unfold m_combinator_parallel at h
 refine Pure.ofFun (zam func243 rfl ntmps243 (by simp) rfl (res1 rfl) λ E hE=>zca (sr (qa (.xb false) rfl (gc (zax h (λ(a:Bool)=>(pt AF0 2 (.xb a))) (λ(a:Bool)=>[]) (λ k1 h=> ?_) (λ a h=> ?_))))))
 .refine kr (qm (.xi a0) rfl (gq (zbf rfl rfl (qm (.xb (decide (a0=16))) rfl (zcc (p:=a0=16) 5 rfl (λ hc=> ?_) (λ hc=> ?_))))))
  .replace h:=zcg h hc
   refine gn (gn (gq (zat rfl (av:= .xb true) rfl (qm (.xb true) rfl (gn (gn (gq (zat rfl (av:= .xb true) rfl (qa (.xb true) rfl (zbc (zaa ⟨_,h,s1 rfl⟩)))))))))))
  .replace h:=zcf h hc
   refine gy (zah (av:= .xi a0) rfl (gy (zbf rfl rfl (gq (zar rfl (av:= .xb (decide (a0=17))) rfl (qm (.xb (decide (a0=17))) rfl (zcc (p:=a0=17) 9 rfl (λ hc=> ?_) (λ hc=> ?_))))))))
   .replace h:=zcg h hc
    refine gn (gn (gq (zat rfl (av:= .xb true) rfl (qa (.xb true) rfl (zbc (zaa ⟨_,h,s1 rfl⟩))))))
   .replace h:=zcf h hc
    refine gy (zah (av:= .xi a0) rfl (gy (zbf rfl rfl (gq (zar rfl (av:= .xb (decide (a0=20))) rfl (qa (.xb (decide (a0=20))) rfl (zbc (zaa ⟨_,h,s1 rfl⟩))))))))
 .refine zbn ?_
  obtain rfl:=oi h
  refine ke (pt AF0 2 (.xb a)) [] rfl (s1 rfl) ⟨rfl,rfl⟩
end
noncomputable section
open Go.RowKit
attribute [local irreducible] AV.exact AV.top AV.row AV.ptr AV.agg AV.tup AV.eptr AV.fn AV.nilq AV.nilqn opA opB opM opR Quiet Loud Reads wpG awp den Sub SubU Pure Fun vecI vecT boxI CellsAll CellsOf OneC LEs LEss
set_option maxRecDepth 100000
set_option maxHeartbeats 4000000
theorem m_combinator_structural_ok (a0:Int) (r:Bool) (h:m_combinator_structural a0=some r):Pure Tryz.prog 214 [(.exact (.int .i64 a0))] (.exact (.bool r)):=by
 unfold m_combinator_structural at h
 refine Pure.ofFun (zam func214 rfl ntmps214 (by simp) rfl (res1 rfl) λ E hE=>zca (sr (qa (.xb false) rfl (gc (zan (sr (qm (.xi a0) rfl (gc (zaq (zax h (λ(a:Bool)=>(pt (pt AF0 0 (.xi a0)) 4 (.xb a))) (λ(a:Bool)=>[]) (λ k3 h=> ?_) (λ a h=> ?_)))))))))))
 .refine sr (gq (zbf rfl rfl (qa (.xb (decide (a0=14))) rfl (gc (kd (p:=a0=14) rfl h (λ hc h=> ?_) (λ hc h=> ?_))))))
  .refine zap (zaa ⟨_,h,s2 rfl rfl⟩)
  .refine sr (gq (zbf rfl rfl (qa (.xb (decide (a0=15))) rfl (gc (kd (p:=a0=15) rfl h (λ hc h=> ?_) (λ hc h=> ?_))))))
   .refine zap (zaa ⟨_,h,s2 rfl rfl⟩)
   .refine sr (gq (zbf rfl rfl (qa (.xb (decide (a0=7))) rfl (gc (kd (p:=a0=7) rfl h (λ hc h=> ?_) (λ hc h=> ?_))))))
    .refine zap (zaa ⟨_,h,s2 rfl rfl⟩)
    .refine sr (gq (zbf rfl rfl (qa (.xb (decide (a0=13))) rfl (gc (kd (p:=a0=13) rfl h (λ hc h=> ?_) (λ hc h=> ?_))))))
     .refine zap (zaa ⟨_,h,s2 rfl rfl⟩)
     .refine sr (gq (zbf rfl rfl (qa (.xb (decide (a0=10))) rfl (gc (kd (p:=a0=10) rfl h (λ hc h=> ?_) (λ hc h=> ?_))))))
      .refine zap (zaa ⟨_,h,s2 rfl rfl⟩)
      .refine sr (gq (zbf rfl rfl (qa (.xb (decide (a0=11))) rfl (gc (kd (p:=a0=11) rfl h (λ hc h=> ?_) (λ hc h=> ?_))))))
       .refine zap (zaa ⟨_,h,s2 rfl rfl⟩)
       .refine sr (gq (zbf rfl rfl (qa (.xb (decide (a0=12))) rfl (gc (kd (p:=a0=12) rfl h (λ hc h=> ?_) (λ hc h=> ?_))))))
        .refine zap (zaa ⟨_,h,s2 rfl rfl⟩)
        .refine kr (gq (zbf rfl rfl (qa (.xb (decide (a0=9))) rfl (zbc (zaa ⟨_,h,s2 rfl rfl⟩)))))
 .refine kb (p:=a) rfl h (λ hc h=> ?_) (λ hc h=> ?_)
  .refine zan ?_
   cases h
  .refine zap (zau (zaf (sr (qm (.xi a0) rfl ?_))))
   obtain⟨y4,b,h⟩:=zae h
   refine gq (zal (m_combinator_parallel_ok _ _ b) func243 (by kernel_rfl) (lc lf ln) (qa (.xb y4) rfl (gc (zbn ?_))))
   obtain rfl:=oi h
   refine ke (pt AF0 2 (.xb y4)) [] rfl (s1 rfl) ⟨rfl,rfl⟩
theorem m_procterm_open_ok (a0:List UInt8) (r:Int×(List (List UInt8))) (h:m_procterm_open a0=some r):Pure Tryz.prog 170 [(.exact (.string (bs a0)))] (.tup [.exact (.int .i64 r.1), .row 1 zab r.2]):=by
 unfold m_procterm_open at h
 refine Pure.ofFun (zam func170 rfl ntmps170 (by simp) rfl (res2 rfl) λ E hE=>zca (sr (qa (.xi 0) rfl (qa (.exact (.slice none 0 0)) rfl (gc (zan (sr (qm (.xs a0) rfl ?_))))))))
 obtain⟨y1,a,h⟩:=zae h
 refine gq (zal (m_procterm_term_ok _ _ a) func167 (by kernel_rfl) (lc lf ln) (gq (zdh rfl (gc (kb (p:= !y1) rfl h (λ hc h=> ?_) (λ hc h=> ?_))))))
 .refine zan ?_
  cases h
 .refine zap (zaf (sr (qm (.xs a0) rfl ?_)))
  obtain⟨y2,b,h⟩:=zae h
  refine gq (zal (m_procterm_split_ok _ _ b) func205 (by kernel_rfl) (lc lf ln) (gq (zbq (av:= .xi y2.1) rfl rfl (gq (zbq (av:= .row 1 zab y2.2) rfl rfl (qa (.xi y2.1) rfl (qa (.row 1 zab y2.2) rfl (gc (zbn ?_)))))))))
  obtain rfl:=oi h
  refine ke (pt (pt AF0 2 (.xi y2.1)) 3 (.row 1 zab y2.2)) [] rfl (s2 rfl rfl) ⟨rfl,rfl⟩
theorem m_procterm_pick_ok (a0:Int) (a1:List (List UInt8)) (a2:UInt8) (r:(List (List UInt8))) (h:m_procterm_pick a0 a1 a2=some r):Pure Tryz.prog 217 [(.exact (.int .i64 a0)),(.row 1 zab a1),(.exact (.int .u8 (UInt8.toNat a2:Int)))] (.row 1 zab r):=by
 unfold m_procterm_pick at h
 refine Pure.ofFun (zam func217 rfl ntmps217 (by simp) rfl (res1 rfl) λ E hE=>zca (sr (qa (.exact (.slice none 0 0)) rfl (gd (qa (.exact (.slice none 0 0)) rfl (gd (qm (.xi a0) rfl ?_)))))))
 obtain⟨y1,f,h⟩:=zae h
 refine gq (zal (m_procterm_form_ok _ _ f) func208 (by kernel_rfl) (lc lf ln) (qa (.xs y1) rfl (gc (zcb h (λ(d:List (List UInt8)) (v7_j2:Value)=>(pt AF0 7 (.exact v7_j2))) (λ(d:List (List UInt8)) (v7_j2:Value)=>[vecT Tryz.prog 36 1 zab v7_j2 d]) (λ k2 h=> ?_) (λ d v7_j2 h=> ?_)))))
 .refine sr (qm (.xs y1) rfl (G_l rfl (op_rangeS (by kernel_rfl) rfl (λ b17=>gc (zaq (zcz (m_procterm_pick_L2 a1 a2 y1 k2) (m_procterm_pick_B2 a1 a2 y1 k2) (λ _ _=>rfl) (λ m _ _=>rfl) h (λ(e:List (List UInt8)) (c:Nat) (v7_l2:Value)=>(pt (pt (pt (pt (pt AF0 1 (.row 1 zab a1)) 2 (.exact (.int .u8 (UInt8.toNat a2:Int)))) 7 (.exact v7_l2)) 8 (.xs y1)) 13 (pA b17 0))) (λ(e:List (List UInt8)) (c:Nat) (v7_l2:Value)=>[vecT Tryz.prog 36 1 zab v7_l2 e,sitI b17 y1 c]) (.slice none 0 0) ?_ (λ i e c v7_l2 h=> ?_)))))))
  .refine Sub.trans (SubU.to (SubU.nilT (P:=Tryz.prog) (t:=36) (n:=1) (enc:=zab))) (so (l4 rfl rfl rfl rfl (lq rfl lt0)))
  .unfold m_procterm_pick_B2 at h
   refine sr (G_l rfl (opB_f1 (op_nextS rfl (gq (op_sit0 rfl (gc (zan (kd (p:=c<List.length y1) rfl h (λ hc h=> ?_) (λ hc h=> ?_)))))))))
   .refine zap (zaf (zaq (sr (gq (op_sit1 rfl (by assumption) (qa (.xi (c:Int)) rfl (gd (qm (.xs y1) rfl (qm (.xi (c:Int)) rfl ?_)))))))))
    obtain⟨n26,h⟩:=zad h
    refine gq (zct (by kernel_rfl) rfl rfl n26.1 n26.2 (qm (.exact (.int .u8 (UInt8.toNat a2:Int))) rfl (gq (zgr (a:=(gi y1 (c:Int))) (b:=a2) rfl rfl (gc (kd (p:=(gi y1 (c:Int))=a2) rfl h (λ hc h=> ?_) (λ hc h=> ?_)))))))
    .refine kr (qm (.exact v7_l2) rfl (qm (.row 1 zab a1) rfl (qm (.xi (c:Int)) rfl ?_)))
     obtain⟨n27,h⟩:=zad h
     refine gq (zai (by kernel_rfl) rfl rfl n27.1 n27.2 (gq (zak (a:= .xs (gi a1 (c:Int))) (by kernel_rfl) rfl rfl (gq (zcd (n:=1) (enc:=zab) [gi a1 (c:Int)] (CellsAll.cons rfl CellsOf.str CellsAll.nil) rfl (by kernel_rfl) (LEss.cons (lc lf ln) LEss.nil) ?_)))))
     obtain⟨n28,h⟩:=zad h
     refine G_l rfl (opB_f1 (zcu (by kernel_rfl) rfl rfl zco n28 (λ v29=>qa (.exact v29) rfl (zbc (zau (zaa ⟨_,_,v29,h,so (l4 rfl rfl rfl rfl (lq rfl lt0))⟩))))))
    .refine zap (zau (zaa ⟨_,_,v7_l2,h, ?_⟩))
     refine Sub.trans (SubU.to SubU.f1) (so (l4 rfl rfl rfl rfl (lq rfl lt0)))
   .refine zbr (zbi (zbk (zbj (zaa ⟨_,v7_l2,h, ?_⟩))))
    refine Sub.trans (SubU.to SubU.drop) (s1 rfl)
 .refine sr (qm (.exact v7_j2) rfl (G_sub rfl (SubU.freezeT2 (s1:=7) (s2:=29) rfl rfl zbt) ?_))
  obtain⟨y30,g,h⟩:=zae h
  refine gq (zal (zfz _ _ g) func219 (by kernel_rfl) (lc lf ln) (qa (.row 1 zab y30) rfl (gc (zbn ?_))))
  obtain rfl:=oi h
  refine ke (pt AF0 6 (.row 1 zab y30)) [] rfl (s1 rfl) ⟨rfl,rfl⟩
theorem m_procterm_Operands_ok (a0:List UInt8) (r:(List (List UInt8))) (h:m_procterm_Operands a0=some r):Pure Tryz.prog 172 [(.exact (.string (bs a0)))] (.row 1 zab r):=by
 unfold m_procterm_Operands at h
 refine Pure.ofFun (zam func172 rfl ntmps172 (by simp) rfl (res1 rfl) λ E hE=>zca (sr (qa (.exact (.slice none 0 0)) rfl (gd (qm (.xs a0) rfl ?_)))))
 obtain⟨y1,a,h⟩:=zae h
 refine gq (zal (m_procterm_open_ok _ _ a) func170 (by kernel_rfl) (lc lf ln) (qm (.tup [.xi y1.1, .row 1 zab y1.2]) rfl (gq (zbq (av:= .xi y1.1) rfl rfl (gq (zbq (av:= .row 1 zab y1.2) rfl rfl (qa (.xi y1.1) rfl (qa (.row 1 zab y1.2) rfl (gc (zan (sr (qm (.xi y1.1) rfl (gq (zfr rfl rfl (gc (kd (p:= ¬y1.1=6) rfl h (λ hc h=> ?_) (λ hc h=> ?_)))))))))))))))))
 .refine sr (qm (.xi y1.1) rfl (qm (.row 1 zab y1.2) rfl ?_))
  obtain⟨y2,b,h⟩:=zae h
  refine gq (zal (m_procterm_pick_ok _ _ _ _ b) func217 (by kernel_rfl) (lc lf (lc lf (lc lf ln))) (qa (.row 1 zab y2) rfl (gc (zbn (zdb ?_)))))
  obtain rfl:=oi h
  refine ke (pt AF0 2 (.row 1 zab y2)) [] rfl (s1 rfl) ⟨rfl,rfl⟩
 .refine zap (zaf (zan ?_))
  cases h
theorem m_combinator_formed_F_ok {w1:Nat} (c:(List UInt8)->Int->Option (Bool×Int)) (hself_combinator_formed: ∀ ⦃w1:Nat⦄ (a0:List UInt8) (a1:Int) (r:Bool×Int),c a0 a1=some r->Fun Tryz.prog 168 [(.exact (.string (bs a0))),(pA w1 0)] [boxI 3 w1 [.exact (.int .i64 a1)]] (λ a s=>a= .exact (.bool r.1)/\s=[boxI 3 w1 [.exact (.int .i64 r.2)]])) (a0:List UInt8) (a1:Int) (r:Bool×Int) (h:m_combinator_formed_F c a0 a1=some r):Fun Tryz.prog 168 [(.exact (.string (bs a0))),(pA w1 0)] [boxI 3 w1 [.exact (.int .i64 a1)]] (λ a s=>a= .exact (.bool r.1)/\s=[boxI 3 w1 [.exact (.int .i64 r.2)]]):=by
 unfold m_combinator_formed_F at h
 refine zam func168 rfl ntmps168 (by simp) rfl (res1 rfl) λ E hE=>zca (sr (qa (.xb false) rfl (gc (zan (sr (qm (.xs a0) rfl ?_))))))
 obtain⟨y1,f,h⟩:=zae h
 refine gq (zal (m_procterm_Op_ok _ _ f) func213 (by kernel_rfl) (lc lf ln) (qa (.xi y1) rfl (gc (zaq (sr (qm (.xi y1) rfl (gq (zbf rfl rfl (qa (.xb (decide (y1=21))) rfl (gc (kd (p:=y1=21) rfl h (λ hc h=> ?_) (λ hc h=> ?_))))))))))))
 .refine sr (qm (pA w1 0) rfl (gq (zes rfl (G_r rfl (zaz (a:= .xi a1) (by kernel_rfl) rfl rfl (gq (zbo rfl rfl rfl (gq (zes rfl (G_l rfl (zbz (c':=[.xi (i64 (a1+1))]) (c3:=[.xi (i64 (a1+1))]) rfl rfl CellsOf.int (lc lf ln) (OneC.int OneC.nil) (by kernel_rfl) (Nat.le_of_ble_eq_true rfl) rfl (gd (qa (.xb true) rfl (gc (zbn (zde (zdb ?_)))))))))))))))))
  obtain rfl:=oi h
  refine ke (pt AF0 4 (.xb true)) [boxI 3 w1 [.xi (i64 (a1+1))]] rfl (s1 rfl) ⟨rfl,rfl⟩
 .refine sr (qm (.xi y1) rfl (gq (zbf rfl rfl (qa (.xb (decide (y1=4))) rfl (gc (kd (p:=y1=4) rfl h (λ hc h=> ?_) (λ hc h=> ?_)))))))
  .refine sr (qa (.xb true) rfl (gc (zbn (zde (zdb ?_)))))
   obtain rfl:=oi h
   refine ke (pt AF0 4 (.xb true)) [boxI 3 w1 [.xi a1]] rfl (s1 rfl) ⟨rfl,rfl⟩
  .refine sr (qm (.xi y1) rfl ?_)
   obtain⟨y2,g,h⟩:=zae h
   refine gq (zal (m_combinator_structural_ok _ _ g) func214 (by kernel_rfl) (lc lf ln) (gq (zdh rfl (qa (.xb (!y2)) rfl (gc (kb (p:= !y2) rfl h (λ hc h=> ?_) (λ hc h=> ?_)))))))
   .refine zan ?_
    cases h
   .refine zap (zau (zaf (zax h (λ(d:Int)=>(pt AF0 1 (pA w1 0))) (λ(d:Int)=>[boxI 3 w1 [.xi d]]) (λ k3 h=> ?_) (λ d h=> ?_))))
    .refine sr (qm (.xs a0) rfl ?_)
     obtain⟨y12,i,h⟩:=zae h
     refine gq (zal (m_procterm_Operands_ok _ _ i) func172 (by kernel_rfl) (lc lf ln) (gq (zao (by kernel_rfl) rfl (qm (.xi 0) rfl (gc (zaq (zey (m_combinator_formed_L2 c k3 y12) (m_combinator_formed_B2 c k3 y12) (λ _ _=>rfl) (λ m _ _=>rfl) h (λ(e:Int) (b:Int)=>(pt (pt (pt (pt AF0 1 (pA w1 0)) 26 (.row 1 zab y12)) 27 (.xi (List.length y12:Int))) 28 (.xi b))) (λ(e:Int) (b:Int)=>[boxI 3 w1 [.xi e]]) ?_ (λ k e b h=> ?_))))))))
     .exact s4 rfl rfl rfl rfl
     .unfold m_combinator_formed_B2 at h
      refine sr (gq (zbm rfl rfl (gc (zan (kd (p:=b<(List.length y12:Int)) rfl h (λ hc h=> ?_) (λ hc h=> ?_))))))
      .refine zap (zaf (zan (zaq (sr ?_))))
       obtain⟨n17,h⟩:=zad h
       refine gq (zai (by kernel_rfl) rfl rfl n17.1 n17.2 (gq (zak (a:= .xs (gi y12 b)) (by kernel_rfl) rfl rfl (qa (.xs (gi y12 b)) rfl (gd (qm (.xs (gi y12 b)) rfl (qm (pA w1 0) rfl ?_)))))))
       obtain⟨y18,j,h⟩:=zae h
       refine G_l rfl (zdg (hself_combinator_formed _ _ _ j) func168 (by kernel_rfl) (lc lf (lc lf ln)) (gq (zdh rfl (gc (kb (p:= !y18.1) rfl h (λ hc h=> ?_) (λ hc h=> ?_))))))
       .refine zan ?_
        cases h
       .refine zap (zau (zaf (kr (gq (zbo rfl rfl rfl (qm (.xi (i64 (b+1))) rfl (zbc (zaa ⟨_,_,h,s4 rfl rfl rfl rfl⟩))))))))
      .refine zbr (zbi (zbk (zbj (zaa ⟨_,h,s1 rfl⟩))))
    .refine sr (qa (.xb true) rfl (gc (zbn ?_)))
     obtain rfl:=oi h
     refine ke (pt AF0 4 (.xb true)) [boxI 3 w1 [.xi d]] rfl (s1 rfl) ⟨rfl,rfl⟩
theorem m_combinator_formed_S_ok: ∀n:Nat,(∀ ⦃w1:Nat⦄ (a0:List UInt8) (a1:Int) (r:Bool×Int),zhe n a0 a1=some r->Fun Tryz.prog 168 [(.exact (.string (bs a0))),(pA w1 0)] [boxI 3 w1 [.exact (.int .i64 a1)]] (λ a s=>a= .exact (.bool r.1)/\s=[boxI 3 w1 [.exact (.int .i64 r.2)]]))
  |0=>(λ _ _ _ _ h=>by have h':(none:Option _)=some _:=h;cases h')
  |n+1=>by
    have ih:=m_combinator_formed_S_ok n
    exact λ w1 a0 a1 r h=>m_combinator_formed_F_ok (zhe n) ih a0 a1 r h
theorem m_combinator_formed_ok {w1:Nat} (a0:List UInt8) (a1:Int) (r:Bool×Int) (h:m_combinator_formed a0 a1=some r):Fun Tryz.prog 168 [(.exact (.string (bs a0))),(pA w1 0)] [boxI 3 w1 [.exact (.int .i64 a1)]] (λ a s=>a= .exact (.bool r.1)/\s=[boxI 3 w1 [.exact (.int .i64 r.2)]]):=(m_combinator_formed_S_ok FU) a0 a1 r h
theorem m_slices_Compact_L_int_int_ok {w0:Value} (a0:List Int) (r:(List Int)) (h:zfm a0=some r):Fun Tryz.prog 175 [(.exact w0)] [vecT Tryz.prog 22 1 zav w0 a0] (λ a s=>a= .row 1 zav r/\s=[]):=by
 unfold zfm at h
 refine zam func175 rfl ntmps175 (by simp) rfl (res1 rfl) λ E hE=>zca (sr (qa (.exact (.slice none 0 0)) rfl (gc (zan (sr (qm (.exact w0) rfl (G_r rfl (zcl (by kernel_rfl) rfl (gq (zbm rfl rfl (gc (kd (p:=(List.length a0:Int)<2) rfl h (λ hc h=> ?_) (λ hc h=> ?_)))))))))))))
 .refine sr (qm (.exact w0) rfl (qa (.exact w0) rfl (gc (zbn (zdb ?_)))))
  obtain rfl:=oi h
  refine ke (pt AF0 2 (.row 1 zav a0)) [] rfl (Sub.trans (SubU.to (SubU.freezeT (s:=2) rfl zdf)) (s1 rfl)) ⟨rfl,rfl⟩
 .refine zap (zaf (zbw h ((pt AF0 0 (.exact w0))) ([vecT Tryz.prog 22 1 zav w0 a0]) (λ k1 h=> ?_) (λ  h=> ?_)))
  .refine sr (qa (.xi 1) rfl (gc (zaq (zcr (zfu a0 k1) (zfw a0 k1) (λ _=>rfl) (λ m _=>rfl) h (λ(b:Int)=>(pt (pt AF0 0 (.exact w0)) 3 (.xi b))) (λ(b:Int)=>[vecT Tryz.prog 22 1 zav w0 a0]) ?_ (λ n b h=> ?_)))))
   .exact s2 rfl rfl
   .unfold zfw at h
    refine zan (sr (qm (.xi b) rfl (qm (.exact w0) rfl (G_r rfl (zcl (by kernel_rfl) rfl (gq (zbm rfl rfl (gc (kd (p:=b<(List.length a0:Int)) rfl h (λ hc h=> ?_) (λ hc h=> ?_))))))))))
    .refine zap (zaf (zbw h ((pt (pt AF0 0 (.exact w0)) 3 (.xi b))) ([vecT Tryz.prog 22 1 zav w0 a0]) (λ k628 h=> ?_) (λ  h=> ?_)))
     .refine zaq (zan (zck [] [(0,0),(0,1),(0,4),(0,5),(0,6),(1,2),(1,3),(1,7),(1,8),(0,9)] hmixP (by kernel_rfl) (pq rfl (zah (av:= .exact w0) rfl (pq rfl (zah (av:= .xi b) rfl (pq rfl (zah (av:= .exact w0) rfl (pq rfl (zah (av:= .xi b) rfl (pq rfl (op_sub rfl rfl rfl ?_))))))))))))
      obtain⟨n691,h⟩:=zad h
      refine P_r rfl (zbl (by kernel_rfl) rfl rfl n691.1 n691.2 (P_r rfl (zcs (i:=b) (o:=0) (a:= .xi (gi a0 b)) (by kernel_rfl) zdf rfl n691.1 n691.2 rfl ?_)))
      obtain⟨n692,h⟩:=zad h
      refine P_r rfl (zbl (by kernel_rfl) rfl rfl n692.1 n692.2 (P_r rfl (zcs (i:=i64 (b - 1)) (o:=0) (a:= .xi (gi a0 (i64 (b - 1)))) (by kernel_rfl) zdf rfl n692.1 n692.2 rfl (pq rfl (zbf rfl rfl (zcn (zaf (kd (p:=(gi a0 b)=(gi a0 (i64 (b - 1)))) rfl h (λ hc h=> ?_) (λ hc h=> ?_)))))))))
      .refine sr (qm (.exact w0) rfl (qm (.xi b) rfl ?_))
       obtain⟨n693,h⟩:=zad h
       refine G_r rfl (zeh (by kernel_rfl) rfl (zdn rfl) zdu n693.1 n693.2.1 n693.2.2 (qa (.vsub w0 1 (Int.toNat b) (Int.toNat (List.length a0:Int) - Int.toNat b)) rfl (gc (k_join2_0 h (λ(e:List Int) (d:Int)=>(pt (pt AF0 0 (.exact w0)) 3 (.xi d))) (λ(e:List Int) (d:Int)=>[vecT Tryz.prog 22 1 zav w0 e]) (λ k694 h=> ?_) (λ e d h=> ?_)))))
       .refine sr (qa (.xi 1) rfl (gc (zaq (k_loop3_0 (zfv a0 b k694) (zfy a0 b k694) (λ _ _ _=>rfl) (λ m _ _ _=>rfl) h (λ(f:List Int) (g:Int) (c:Int)=>(pt (pt (pt (pt AF0 0 (.exact w0)) 3 (.xi g)) 4 (.vsub w0 1 (Int.toNat b) (Int.toNat (List.length a0:Int) - Int.toNat b))) 5 (.xi c))) (λ(f:List Int) (g:Int) (c:Int)=>[vecT Tryz.prog 22 1 zav w0 f]) ?_ (λ q f g c h=> ?_)))))
        .exact s4 rfl rfl rfl rfl
        .unfold zfy at h
         refine zan (sr (qm (.xi c) rfl (qm (.vsub w0 1 (Int.toNat b) (Int.toNat (List.length a0:Int) - Int.toNat b)) rfl (gq (op_len_vsub (by kernel_rfl) rfl (gq (zbm rfl rfl (gc (kd (p:=c<((Int.toNat (List.length a0:Int) - Int.toNat b:Nat):Int)) rfl h (λ hc h=> ?_) (λ hc h=> ?_))))))))))
         .refine zap (zaf (k_join2_0 h (λ(k:List Int) (l:Int)=>(pt (pt (pt (pt AF0 0 (.exact w0)) 3 (.xi l)) 4 (.vsub w0 1 (Int.toNat b) (Int.toNat (List.length a0:Int) - Int.toNat b))) 5 (.xi c))) (λ(k:List Int) (l:Int)=>[vecT Tryz.prog 22 1 zav w0 k]) (λ k741 h=> ?_) (λ k l h=> ?_)))
          .refine zaq (zan (zck [] [(0,0),(0,1),(0,4),(0,5),(0,6),(1,2),(1,3),(1,7),(1,8),(0,9)] hmixP (by kernel_rfl) (pq rfl (zah (av:= .vsub w0 1 (Int.toNat b) (Int.toNat (List.length a0:Int) - Int.toNat b)) rfl (pq rfl (zah (av:= .xi c) rfl (pq rfl (zah (av:= .vsub w0 1 (Int.toNat b) (Int.toNat (List.length a0:Int) - Int.toNat b)) rfl (pq rfl (zah (av:= .xi c) rfl (pq rfl (op_sub rfl rfl rfl ?_))))))))))))
           obtain⟨n746,h⟩:=zad h
           refine P_r rfl (op_index_vsub (j:=(b+c)) (by kernel_rfl) rfl rfl n746.2.1 (by have hh:=n746;try simp only[i64]at *;omega) (by have hh:=n746;try simp only[i64]at *;omega) (by have hh:=n746;try simp only[i64]at *;omega) (P_r rfl (zcs (i:=(b+c)) (o:=0) (a:= .xi (gi f (b+c))) (by kernel_rfl) zdf rfl n746.2.2.2.1 n746.2.2.2.2 rfl ?_)))
           obtain⟨n747,h⟩:=zad h
           refine P_r rfl (op_index_vsub (j:=(b+(i64 (c - 1)))) (by kernel_rfl) rfl rfl n747.2.1 (by have hh:=n747;try simp only[i64]at *;omega) (by have hh:=n747;try simp only[i64]at *;omega) (by have hh:=n747;try simp only[i64]at *;omega) (P_r rfl (zcs (i:=(b+(i64 (c - 1)))) (o:=0) (a:= .xi (gi f (b+(i64 (c - 1))))) (by kernel_rfl) zdf rfl n747.2.2.2.1 n747.2.2.2.2 rfl (pq rfl (zfr rfl rfl (zcn (zaf (kd (p:= ¬(gi f (b+c))=(gi f (b+(i64 (c - 1))))) rfl h (λ hc h=> ?_) (λ hc h=> ?_)))))))))
           .refine sr (qm (.exact w0) rfl (qm (.xi g) rfl (qm (.vsub w0 1 (Int.toNat b) (Int.toNat (List.length a0:Int) - Int.toNat b)) rfl (qm (.xi c) rfl ?_))))
            obtain⟨n748,h⟩:=zad h
            refine G_r rfl (op_index_vsub (j:=(b+c)) (by kernel_rfl) rfl rfl n748.2.1 (by have hh:=n748;try simp only[i64]at *;omega) (by have hh:=n748;try simp only[i64]at *;omega) (by have hh:=n748;try simp only[i64]at *;omega) (G_r rfl (zcs (i:=(b+c)) (o:=0) (a:= .xi (gi f (b+c))) (by kernel_rfl) zdf rfl n748.2.2.2.1 n748.2.2.2.2 rfl ?_)))
            obtain⟨n749,h⟩:=zad h
            refine G_r rfl (zbl (by kernel_rfl) rfl rfl n749.1 n749.2 (G_l rfl (zcm (i:=g) (o:=0) (z:=gi f (b+c)) (c':=[.xi (gi f (b+c))]) (by kernel_rfl) zdf rfl n749.1 n749.2 rfl CellsOf.int (lc lf ln) (OneC.int OneC.nil) (by kernel_rfl) (Nat.le_of_ble_eq_true rfl) rfl (gc (kr (qm (.xi g) rfl (gq (zbo rfl rfl rfl (qa (.xi (i64 (g+1))) rfl (zbc (zau (zaa ⟨_,_,h,s4 rfl rfl rfl rfl⟩))))))))))))
           .refine zap (zau (zaa ⟨_,_,h,s4 rfl rfl rfl rfl⟩))
          .refine kr (qm (.xi c) rfl (gq (zbo rfl rfl rfl (qa (.xi (i64 (c+1))) rfl (zbc (zaa ⟨_,_,_,h,s4 rfl rfl rfl rfl⟩))))))
         .refine zbr (zbi (zbk (zbj (zaa ⟨_,_,h,s2 rfl rfl⟩))))
       .refine sr (qm (.exact w0) rfl (qm (.xi d) rfl ?_))
        obtain⟨n750,h⟩:=zad h
        refine G_r rfl (zeh (by kernel_rfl) rfl (zdn rfl) zdu n750.1 n750.2.1 n750.2.2 (G_l rfl (op_clear (zr:=0) (by kernel_rfl) zdf oc_c_int rfl (by have:=n750;omega) zeroValue3 (λ _ _=>(Fit.ex Fit.nil0)) (gd (qm (.exact w0) rfl (qm (.xi d) rfl (G_sub rfl (SubU.freezeT3 (s1:=0) (s2:=54) (s3:=57) rfl rfl rfl zdf) ?_)))))))
        obtain⟨n751,h⟩:=zad h
        refine gq (op_slice_rowt (by kernel_rfl) rfl zdu (zdn rfl) (Int.le_refl 0) n751.1 n751.2 (qa (.row 1 zav (List.take (Int.toNat d) (List.take (Int.toNat d) e++List.replicate (Int.toNat (List.length e:Int) - Int.toNat d) (0:Int)++List.drop (Int.toNat d+(Int.toNat (List.length e:Int) - Int.toNat d)) e))) rfl (gc (zbn (zde (zek (zek (zde (zek ?_)))))))))
        obtain rfl:=oi h
        refine ke (pt AF0 2 (.row 1 zav (List.take (Int.toNat d) (List.take (Int.toNat d) e++List.replicate (Int.toNat (List.length e:Int) - Int.toNat d) (0:Int)++List.drop (Int.toNat d+(Int.toNat (List.length e:Int) - Int.toNat d)) e)))) [] rfl (s1 rfl) ⟨rfl,rfl⟩
      .refine zap (zau (zaa ⟨h,s2 rfl rfl⟩))
     .refine kr (qm (.xi b) rfl (gq (zbo rfl rfl rfl (qa (.xi (i64 (b+1))) rfl (zbc (zaa ⟨_,h,s2 rfl rfl⟩))))))
    .refine zbr (zbi (zbk (zbj (zaa ⟨h,s1 rfl⟩))))
  .refine sr (qm (.exact w0) rfl (qa (.exact w0) rfl (gc (zbn ?_))))
   obtain rfl:=oi h
   refine ke (pt AF0 2 (.row 1 zav a0)) [] rfl (Sub.trans (SubU.to (SubU.freezeT (s:=2) rfl zdf)) (s1 rfl)) ⟨rfl,rfl⟩
theorem m_procterm_Holes_F_ok (c:(List UInt8)->Option (List Int)) (hself_procterm_Holes: ∀(a0:List UInt8) (r:(List Int)),c a0=some r->Pure Tryz.prog 125 [(.exact (.string (bs a0)))] (.row 1 zav r)) (a0:List UInt8) (r:(List Int)) (h:m_procterm_Holes_F c a0=some r):Pure Tryz.prog 125 [(.exact (.string (bs a0)))] (.row 1 zav r):=by
 unfold m_procterm_Holes_F at h
 refine Pure.ofFun (zam func125 rfl ntmps125 (by simp) rfl (res1 rfl) λ E hE=>zca (sr (qa (.exact (.slice none 0 0)) rfl (gd (qa (.exact (.slice none 0 0)) rfl (gd (qm (.xs a0) rfl ?_)))))))
 obtain⟨y1,f,h⟩:=zae h
 refine gq (zal (m_procterm_open_ok _ _ f) func170 (by kernel_rfl) (lc lf ln) (qm (.tup [.xi y1.1, .row 1 zab y1.2]) rfl (gq (zbq (av:= .xi y1.1) rfl rfl (gq (zbq (av:= .row 1 zab y1.2) rfl rfl (qa (.xi y1.1) rfl (qa (.row 1 zab y1.2) rfl (gc (zan (sr (qm (.xi y1.1) rfl (gq (zbf rfl rfl (gc (kd (p:=y1.1=21) rfl h (λ hc h=> ?_) (λ hc h=> ?_)))))))))))))))))
 .refine sr (qm (.row 1 zab y1.2) rfl ?_)
  obtain⟨n2,h⟩:=zad h
  refine gq (zai (by kernel_rfl) rfl rfl n2.1 n2.2 (gq (zak (a:= .xs (gi y1.2 0)) (by kernel_rfl) rfl rfl ?_)))
  obtain⟨y3,g,h⟩:=zae h
  refine gq (zal (zhy _ _ g) func171 (by kernel_rfl) (lc lf ln) (gq (zcd (n:=1) (enc:=zav) [y3] (CellsAll.cons rfl CellsOf.int CellsAll.nil) rfl (by kernel_rfl) (LEss.cons (lc lf ln) LEss.nil) (qa (.row 1 zav [y3]) rfl (gc (zbn (zdb ?_)))))))
  obtain rfl:=oi h
  refine ke (pt AF0 2 (.row 1 zav [y3])) [] rfl (s1 rfl) ⟨rfl,rfl⟩
 .refine zap (zaf (zcb h (λ(d:List Int) (v3_j4:Value)=>(pt AF0 3 (.exact v3_j4))) (λ(d:List Int) (v3_j4:Value)=>[vecT Tryz.prog 22 1 zav v3_j4 d]) (λ k4 h=> ?_) (λ d v3_j4 h=> ?_)))
  .refine sr (qm (.xs a0) rfl ?_)
   obtain⟨y19,i,h⟩:=zae h
   refine gq (zal (m_procterm_Operands_ok _ _ i) func172 (by kernel_rfl) (lc lf ln) (gq (zao (by kernel_rfl) rfl (qm (.xi 0) rfl (gc (zaq (zcz (m_procterm_Holes_L2 c k4 y19) (m_procterm_Holes_B2 c k4 y19) (λ _ _=>rfl) (λ m _ _=>rfl) h (λ(e:List Int) (b:Int) (v3_l2:Value)=>(pt (pt (pt (pt AF0 3 (.exact v3_l2)) 21 (.row 1 zab y19)) 22 (.xi (List.length y19:Int))) 23 (.xi b))) (λ(e:List Int) (b:Int) (v3_l2:Value)=>[vecT Tryz.prog 22 1 zav v3_l2 e]) (.slice none 0 0) ?_ (λ q e b v3_l2 h=> ?_))))))))
   .refine Sub.trans (SubU.to (SubU.nilT (P:=Tryz.prog) (t:=22) (n:=1) (enc:=zav))) (s4 rfl rfl rfl rfl)
   .unfold m_procterm_Holes_B2 at h
    refine sr (gq (zbm rfl rfl (gc (zan (kd (p:=b<(List.length y19:Int)) rfl h (λ hc h=> ?_) (λ hc h=> ?_))))))
    .refine zap (zaf (zan (zaq (sr ?_))))
     obtain⟨n28,h⟩:=zad h
     refine gq (zai (by kernel_rfl) rfl rfl n28.1 n28.2 (gq (zak (a:= .xs (gi y19 b)) (by kernel_rfl) rfl rfl (qa (.xs (gi y19 b)) rfl (gc (kr (qm (.exact v3_l2) rfl (qm (.xs (gi y19 b)) rfl ?_))))))))
     obtain⟨y29,j,h⟩:=zae h
     refine gq (zal (hself_procterm_Holes _ _ j) func125 (by kernel_rfl) (lc lf ln) ?_)
     obtain⟨n30,h⟩:=zad h
     refine G_l rfl (zcu (by kernel_rfl) rfl rfl oc_c_int n30 (λ v31=>qa (.exact v31) rfl (zbc (zau (zaf (kr (gq (zbo rfl rfl rfl (qm (.xi (i64 (b+1))) rfl (zbc (zaa ⟨_,_,v31,h,s4 rfl rfl rfl rfl⟩)))))))))))
    .refine zbr (zbi (zbk (zbj (zaa ⟨_,v3_l2,h,s1 rfl⟩))))
  .refine sr (qm (.exact v3_j4) rfl ?_)
   obtain⟨y32,k,h⟩:=zae h
   refine G_l rfl (zdg (m_sortE_ok _ _ k) func173 (by kernel_rfl) (lc lf ln) (gd (qm (.exact v3_j4) rfl ?_)))
   obtain⟨y33,l,h⟩:=zae h
   refine G_l rfl (op_fun_1_0_0 (m_slices_Compact_L_int_int_ok _ _ l) func175 (by kernel_rfl) (lc lf ln) ?_)
   obtain⟨y34,o,h⟩:=zae h
   refine gq (zal (zgx _ _ o) func174 (by kernel_rfl) (lc lf ln) (qa (.row 1 zav y34) rfl (gc (zbn ?_))))
   obtain rfl:=oi h
   refine ke (pt AF0 2 (.row 1 zav y34)) [] rfl (s1 rfl) ⟨rfl,rfl⟩
theorem m_procterm_Holes_S_ok: ∀n:Nat,(∀(a0:List UInt8) (r:(List Int)),m_procterm_Holes_S n a0=some r->Pure Tryz.prog 125 [(.exact (.string (bs a0)))] (.row 1 zav r))
  |0=>(λ _ _ h=>by have h':(none:Option _)=some _:=h;cases h')
  |n+1=>by
    have ih:=m_procterm_Holes_S_ok n
    exact λ a0 r h=>m_procterm_Holes_F_ok (m_procterm_Holes_S n) ih a0 r h
theorem m_procterm_Holes_ok (a0:List UInt8) (r:(List Int)) (h:m_procterm_Holes a0=some r):Pure Tryz.prog 125 [(.exact (.string (bs a0)))] (.row 1 zav r):=(m_procterm_Holes_S_ok FU) a0 r h
theorem m_combinator_shape_ok (a0:List UInt8) (r:Bool) (h:m_combinator_shape a0=some r):Pure Tryz.prog 123 [(.exact (.string (bs a0)))] (.exact (.bool r)):=by
 unfold m_combinator_shape at h
 refine Pure.ofFun (zam func123 rfl ntmps123 (by simp) rfl (res1 rfl) λ E hE=>zca (sr (qa (.xb false) rfl (gd (G_l rfl (zel (c:=[.xi 0]) rfl (lc lf ln) (λ b1=>G_l rfl (zbz (c':=[.xi 0]) (c3:=[.xi 0]) rfl rfl CellsOf.int (lc lf ln) (OneC.int OneC.nil) (by kernel_rfl) (Nat.le_of_ble_eq_true rfl) rfl (gc (zax h (λ(b:Bool)=>(pt AF0 2 (.xb b))) (λ(b:Bool)=>[]) (λ k2 h=> ?_) (λ b h=> ?_)))))))))))
 .refine zck [] [(0,0),(0,1),(0,2),(0,3),(2,4),(0,5),(0,6),(0,8),(0,9),(0,10),(1,7),(0,11),(0,12),(0,13)] hmixP (by kernel_rfl) (pq rfl (zah (av:= .xs a0) rfl ?_))
  obtain⟨y6,d,h⟩:=zae h
  refine pq rfl (zal (m_procterm_Valid_ok _ _ d) func122 (by kernel_rfl) (lc lf ln) (pq rfl (zah (av:= .xb y6) rfl (P_splitB (c:=y6) 6 rfl (λ hc=> ?_) (λ hc=> ?_)))))
  .replace h:=zcg h hc
   refine py rfl (zah (av:= .xs a0) rfl ?_)
   obtain⟨y7,e,h⟩:=zae h
   refine Py_l rfl rfl rfl (zdg (m_combinator_formed_ok _ _ _ e) func168 (by kernel_rfl) (lc lf (lc lf ln)) (pq rfl (zat rfl (av:= .xb y7.1) rfl (pq rfl (zah (av:= .xb y7.1) rfl (P_splitB (c:=y7.1) 10 rfl (λ hc=> ?_) (λ hc=> ?_)))))))
   .replace h:=zcg h hc
    refine py rfl (zah (av:= .xs a0) rfl ?_)
    obtain⟨y8,f,h⟩:=zae h
    refine py rfl (zal (m_procterm_Holes_ok _ _ f) func125 (by kernel_rfl) (lc lf ln) (py rfl (zao (by kernel_rfl) rfl (Py_r rfl rfl rfl (zaz (a:= .xi y7.2) (by kernel_rfl) rfl rfl (py rfl (zbf rfl rfl (pq rfl (zat rfl (av:= .xb (decide (y7.2=(List.length y8:Int)))) rfl (pq rfl (zcj (av:= .xb (decide (y7.2=(List.length y8:Int)))) rfl (zcn (zaa ⟨_,h, ?_⟩)))))))))))))
    refine Sub.trans (SubU.to SubU.drop) (s1 rfl)
   .replace h:=zcf h hc
    refine pn rfl (pn rfl (pn rfl (P_n zdl rfl rfl rfl (pn rfl (pq rfl (zar rfl (av:= .xb false) rfl (pq rfl (zcj (av:= .xb false) rfl (zcn (zaa ⟨_,h, ?_⟩))))))))))
    refine Sub.trans (SubU.to SubU.drop) (s1 rfl)
  .replace h:=zcf h hc
   refine pn rfl (P_n no34_2 rfl rfl rfl (pq rfl (zar rfl (av:= .xb false) rfl (pq rfl (zah (av:= .xb false) rfl (pn rfl (pn rfl (pn rfl (P_n zdl rfl rfl rfl (pn rfl (pq rfl (zar rfl (av:= .xb false) rfl (pq rfl (zcj (av:= .xb false) rfl (zcn (zaa ⟨_,h, ?_⟩))))))))))))))))
   refine Sub.trans (SubU.to SubU.drop) (s1 rfl)
 .refine zbn ?_
  obtain rfl:=oi h
  refine ke (pt AF0 2 (.xb b)) [] rfl (s1 rfl) ⟨rfl,rfl⟩
theorem m_combinator_Valid_2_ok (a0:Int) (a1:Int) (r:Bool) (h:zho a0 a1=some r):Pure Tryz.prog 126 [(.exact (.int .i64 a0)),(.ptr [.exact (.int .i64 a1)])] (.exact (.bool r)):=by
 unfold zho at h
 refine Pure.ofFun (zam func126 rfl ntmps126 (by simp) rfl (res1 rfl) λ E hE=>zca (sr (qa (.xb false) rfl (gd (qm (.xi a0) rfl (gq (zak (a:= .xi a1) (by kernel_rfl) rfl rfl (gq (zgm rfl rfl (qa (.xb (decide (a1≤a0))) rfl (gc (zbn ?_))))))))))))
 obtain rfl:=oi h
 refine ke (pt AF0 3 (.xb (decide (a1≤a0)))) [] rfl (s1 rfl) ⟨rfl,rfl⟩
theorem m_slices_IndexFunc_L_int_int_ok (a0:List Int) (a1:Int->Option Bool) (r:Int) (h:zgk a0 a1=some r):Pure Tryz.prog 169 [(.row 1 zav a0),(.fn Tryz.prog (λ(i:Int)=>[.exact (.int .i64 i)]) (λ(i:Int)=>a1 i) (λ(r:Bool)=> .exact (.bool r)))] (.exact (.int .i64 r)):=by
 unfold zgk at h
 refine Pure.ofFun (zam func169 rfl ntmps169 (by simp) rfl (res1 rfl) λ E hE=>zca (sr (qa (.xi 0) rfl (gc (zbw h (AF0) ([]) (λ k1 h=> ?_) (λ  h=> ?_))))))
 .refine sr (qm (.row 1 zav a0) rfl (gq (zao (by kernel_rfl) rfl (qm (.xi 0) rfl (gc (zaq (zcr (zfp a0 a1 k1) (zfq a0 a1 k1) (λ _=>rfl) (λ m _=>rfl) h (λ(b:Int)=>(pt (pt (pt (pt AF0 0 (.row 1 zav a0)) 1 (.fn Tryz.prog (λ(i:Int)=>[.xi i]) (λ(i:Int)=>a1 i) (λ(r:Bool)=> .xb r))) 7 (.xi (List.length a0:Int))) 8 (.xi b))) (λ(b:Int)=>[]) ?_ (λ d b h=> ?_))))))))
  .exact s4 rfl rfl rfl rfl
  .unfold zfq at h
   refine sr (gq (zbm rfl rfl (gc (zan (kd (p:=b<(List.length a0:Int)) rfl h (λ hc h=> ?_) (λ hc h=> ?_))))))
   .refine zap (zaf (zan (zaq (sr (qm (.xi b) rfl (qa (.xi b) rfl (gd (qm (.fn Tryz.prog (λ(i:Int)=>[.xi i]) (λ(i:Int)=>a1 i) (λ(r:Bool)=> .xb r)) rfl (qm (.row 1 zav a0) rfl (qm (.xi b) rfl ?_))))))))))
    obtain⟨n13,h⟩:=zad h
    refine gq (zai (by kernel_rfl) rfl rfl n13.1 n13.2 (gq (zak (a:= .xi (gi a0 b)) (by kernel_rfl) rfl rfl ?_)))
    obtain⟨y14,c,h⟩:=zae h
    refine gq (op_callfn (gi a0 b) rfl c (lc lf ln) (gc (kb (p:=y14) rfl h (λ hc h=> ?_) (λ hc h=> ?_))))
    .refine sr (qm (.xi b) rfl (qa (.xi b) rfl (gc (zbn (zde (zdb (zek (zde (zek ?_)))))))))
     obtain rfl:=oi h
     refine ke (pt AF0 4 (.xi b)) [] rfl (s1 rfl) ⟨rfl,rfl⟩
    .refine zap (zau (zaf (kr (gq (zbo rfl rfl rfl (qm (.xi (i64 (b+1))) rfl (zbc (zaa ⟨_,h,s4 rfl rfl rfl rfl⟩))))))))
   .refine zbr (zbi (zbk (zbj (zaa ⟨h,Sub.of_le lt0⟩))))
 .refine sr (qa (.xi (-1)) rfl (gc (zbn ?_)))
  obtain rfl:=oi h
  refine ke (pt AF0 4 (.xi (-1))) [] rfl (s1 rfl) ⟨rfl,rfl⟩
end
noncomputable section
open Go.RowKit
attribute [local irreducible] AV.exact AV.top AV.row AV.ptr AV.agg AV.tup AV.eptr AV.fn AV.nilq AV.nilqn opA opB opM opR Quiet Loud Reads wpG awp den Sub SubU Pure Fun vecI vecT boxI CellsAll CellsOf OneC LEs LEss
set_option maxRecDepth 100000
set_option maxHeartbeats 4000000
theorem m_slices_ContainsFunc_L_int_int_ok (a0:List Int) (a1:Int->Option Bool) (r:Bool) (h:zfo a0 a1=some r):Pure Tryz.prog 124 [(.row 1 zav a0),(.fn Tryz.prog (λ(i:Int)=>[.exact (.int .i64 i)]) (λ(i:Int)=>a1 i) (λ(r:Bool)=> .exact (.bool r)))] (.exact (.bool r)):=by
 unfold zfo at h
 refine Pure.ofFun (zam func124 rfl ntmps124 (by simp) rfl (res1 rfl) λ E hE=>zca (sr (qa (.xb false) rfl (gd (qm (.row 1 zav a0) rfl (qm (.fn Tryz.prog (λ(i:Int)=>[.xi i]) (λ(i:Int)=>a1 i) (λ(r:Bool)=> .xb r)) rfl ?_))))))
 obtain⟨y1,a,h⟩:=zae h
 refine gq (zal (m_slices_IndexFunc_L_int_int_ok _ _ _ a) func169 (by kernel_rfl) (lc lf (lc lf ln)) (gq (zgm rfl rfl (qa (.xb (decide (0≤y1))) rfl (gc (zbn ?_))))))
 obtain rfl:=oi h
 refine ke (pt AF0 4 (.xb (decide (0≤y1)))) [] rfl (s1 rfl) ⟨rfl,rfl⟩
theorem m_combinator_alive_ok (a0:List UInt8) (a1:Int) (r:(List Bool)) (h:m_combinator_alive a0 a1=some r):Pure Tryz.prog 128 [(.exact (.string (bs a0))),(.exact (.int .i64 a1))] (.row 1 zdk r):=by
 unfold m_combinator_alive at h
 refine Pure.ofFun (zam func128 rfl ntmps128 (by simp) rfl (res1 rfl) λ E hE=>zca (sr (qa (.exact (.slice none 0 0)) rfl (gd (qm (.xi a1) rfl ?_)))))
 obtain⟨n1,h⟩:=zad h
 refine G_l rfl (op_make (enc:=zdk) (zr:=(false:Bool)) (by kernel_rfl) rfl rfl n1.1 n1.2 len_c_bool zeroValue4 (λ _ _=>(Fit.ex Fit.nil0)) (λ v2=>qa (.exact v2) rfl (gc (zax h (λ(c:List Bool)=>(pt AF0 5 (.exact v2))) (λ(c:List Bool)=>[vecT Tryz.prog 87 1 zdk v2 c]) (λ k3 h=> ?_) (λ c h=> ?_)))))
 .refine sr (qm (.xs a0) rfl ?_)
  obtain⟨y12,e,h⟩:=zae h
  refine gq (zal (m_procterm_Holes_ok _ _ e) func125 (by kernel_rfl) (lc lf ln) (gq (zao (by kernel_rfl) rfl (qm (.xi 0) rfl (gc (zaq (zey (m_combinator_alive_L2 k3 y12) (m_combinator_alive_B2 k3 y12) (λ _ _=>rfl) (λ m _ _=>rfl) h (λ(d:List Bool) (b:Int)=>(pt (pt (pt (pt AF0 5 (.exact v2)) 11 (.row 1 zav y12)) 12 (.xi (List.length y12:Int))) 13 (.xi b))) (λ(d:List Bool) (b:Int)=>[vecT Tryz.prog 87 1 zdk v2 d]) ?_ (λ f d b h=> ?_))))))))
  .exact s4 rfl rfl rfl rfl
  .unfold m_combinator_alive_B2 at h
   refine sr (gq (zbm rfl rfl (gc (zan (kd (p:=b<(List.length y12:Int)) rfl h (λ hc h=> ?_) (λ hc h=> ?_))))))
   .refine zap (zaf (zan (zaq (sr ?_))))
    obtain⟨n17,h⟩:=zad h
    refine gq (zai (by kernel_rfl) rfl rfl n17.1 n17.2 (gq (zak (a:= .xi (gi y12 b)) (by kernel_rfl) rfl rfl (qa (.xi (gi y12 b)) rfl (gc (kr (qm (.exact v2) rfl (qm (.xi (gi y12 b)) rfl ?_))))))))
    obtain⟨n18,h⟩:=zad h
    refine G_r rfl (zbl (by kernel_rfl) rfl rfl n18.1 n18.2 (G_l rfl (zcm (i:=gi y12 b) (o:=0) (z:=true) (c':=[.xb true]) (by kernel_rfl) len_c_bool rfl n18.1 n18.2 rfl CellsOf.bool (lc lf ln) (OneC.bool OneC.nil) (by kernel_rfl) (Nat.le_of_ble_eq_true rfl) rfl (zbc (zau (zaf (kr (gq (zbo rfl rfl rfl (qm (.xi (i64 (b+1))) rfl (zbc (zaa ⟨_,_,h,s4 rfl rfl rfl rfl⟩))))))))))))
   .refine zbr (zbi (zbk (zbj (zaa ⟨_,h,s1 rfl⟩))))
 .refine sr (qm (.exact v2) rfl (qa (.exact v2) rfl (gc (zbn ?_))))
  obtain rfl:=oi h
  refine ke (pt AF0 4 (.row 1 zdk c)) [] rfl (Sub.trans (SubU.to (SubU.freezeT (s:=4) rfl len_c_bool)) (s1 rfl)) ⟨rfl,rfl⟩
theorem m_slices_Equal_L_bool_bool_ok (a0:List Bool) (a1:List Bool) (r:Bool) (h:zgz a0 a1=some r):Pure Tryz.prog 127 [(.row 1 zdk a0),(.row 1 zdk a1)] (.exact (.bool r)):=by
 unfold zgz at h
 refine Pure.ofFun (zam func127 rfl ntmps127 (by simp) rfl (res1 rfl) λ E hE=>zca (sr (qa (.xb false) rfl (gc (zan (sr (qm (.row 1 zdk a0) rfl (gq (zao (by kernel_rfl) rfl (qm (.row 1 zdk a1) rfl (gq (zao (by kernel_rfl) rfl (gq (zfr rfl rfl (gc (kd (p:= ¬(List.length a0:Int)=(List.length a1:Int)) rfl h (λ hc h=> ?_) (λ hc h=> ?_)))))))))))))))))
 .refine sr (qa (.xb false) rfl (gc (zbn (zdb ?_))))
  obtain rfl:=oi h
  refine ke (pt AF0 4 (.xb false)) [] rfl (s1 rfl) ⟨rfl,rfl⟩
 .refine zap (zaf (zbw h (AF0) ([]) (λ k1 h=> ?_) (λ  h=> ?_)))
  .refine sr (qm (.row 1 zdk a0) rfl (gq (zao (by kernel_rfl) rfl (qm (.xi 0) rfl (gc (zaq (zcr (zgb a0 a1 k1) (zgd a0 a1 k1) (λ _=>rfl) (λ m _=>rfl) h (λ(c:Int)=>(pt (pt (pt (pt AF0 0 (.row 1 zdk a0)) 1 (.row 1 zdk a1)) 12 (.xi (List.length a0:Int))) 13 (.xi c))) (λ(c:Int)=>[]) ?_ (λ d c h=> ?_))))))))
   .exact s4 rfl rfl rfl rfl
   .unfold zgd at h
    refine sr (gq (zbm rfl rfl (gc (zan (kd (p:=c<(List.length a0:Int)) rfl h (λ hc h=> ?_) (λ hc h=> ?_))))))
    .refine zap (zaf (zan (zaq (sr (qm (.xi c) rfl (qa (.xi c) rfl (gc (zan (zck [] [(0,0),(0,1),(0,2),(0,3),(0,4),(0,5),(0,6),(0,7),(0,8)] hmixP (by kernel_rfl) (pq rfl (zah (av:= .row 1 zdk a0) rfl (pq rfl (zah (av:= .xi c) rfl ?_)))))))))))))
     obtain⟨n13,h⟩:=zad h
     refine pq rfl (zai (by kernel_rfl) rfl rfl n13.1 n13.2 (pq rfl (zak (a:= .xb (gi a0 c)) (by kernel_rfl) rfl rfl (pq rfl (zah (av:= .row 1 zdk a1) rfl (pq rfl (zah (av:= .xi c) rfl ?_)))))))
     obtain⟨n14,h⟩:=zad h
     refine pq rfl (zai (by kernel_rfl) rfl rfl n14.1 n14.2 (pq rfl (zak (a:= .xb (gi a1 c)) (by kernel_rfl) rfl rfl (pq rfl (op_neqB (a:=(gi a0 c)) (b:=(gi a1 c)) (by kernel_rfl) rfl rfl (zcn (zaf (kd (p:= ¬(gi a0 c)=(gi a1 c)) rfl h (λ hc h=> ?_) (λ hc h=> ?_)))))))))
     .refine sr (qa (.xb false) rfl (gc (zbn (zde (zdb (zek (zde (zek ?_))))))))
      obtain rfl:=oi h
      refine ke (pt AF0 4 (.xb false)) [] rfl (s1 rfl) ⟨rfl,rfl⟩
     .refine zap (zau (zaf (kr (gq (zbo rfl rfl rfl (qm (.xi (i64 (c+1))) rfl (zbc (zaa ⟨_,h,s4 rfl rfl rfl rfl⟩))))))))
    .refine zbr (zbi (zbk (zbj (zaa ⟨h,Sub.of_le lt0⟩))))
  .refine sr (qa (.xb true) rfl (gc (zbn ?_)))
   obtain rfl:=oi h
   refine ke (pt AF0 4 (.xb true)) [] rfl (s1 rfl) ⟨rfl,rfl⟩
theorem m_alphabet_visible_ok (a0:Int) (r:Bool) (h:m_alphabet_visible a0=some r):Pure Tryz.prog 268 [(.exact (.int .i64 a0))] (.exact (.bool r)):=by
 unfold m_alphabet_visible at h
 refine Pure.ofFun (zam func268 rfl ntmps268 (by simp) rfl (res1 rfl) λ E hE=>zca (sr (qa (.xb false) rfl (gc (zax h (λ(a:Bool)=>(pt AF0 2 (.xb a))) (λ(a:Bool)=>[]) (λ k1 h=> ?_) (λ a h=> ?_))))))
 .refine kr (qm (.xi a0) rfl (gq (zgm rfl rfl (qm (.xb (decide (2≤a0))) rfl (zcc (p:=2≤a0) 5 rfl (λ hc=> ?_) (λ hc=> ?_))))))
  .replace h:=zcg h hc
   refine gy (zah (av:= .xi a0) rfl (gy (zbm rfl rfl (gq (zat rfl (av:= .xb (decide (a0<1026))) rfl (qa (.xb (decide (a0<1026))) rfl (zbc (zaa ⟨_,h,s1 rfl⟩))))))))
  .replace h:=zcf h hc
   refine gn (gn (gq (zar rfl (av:= .xb false) rfl (qa (.xb false) rfl (zbc (zaa ⟨_,h,s1 rfl⟩))))))
 .refine zbn ?_
  obtain rfl:=oi h
  refine ke (pt AF0 2 (.xb a)) [] rfl (s1 rfl) ⟨rfl,rfl⟩
theorem m_alphabet_Set_ok (a0:List Int) (r:(List Int)) (h:m_alphabet_Set a0=some r):Pure Tryz.prog 277 [(.row 1 zav a0)] (.row 1 zav r):=by
 unfold m_alphabet_Set at h
 refine Pure.ofFun (zam func277 rfl ntmps277 (by simp) rfl (res1 rfl) λ E hE=>zca (sr (qa (.exact (.slice none 0 0)) rfl (gd (qa (.exact (.slice none 0 0)) rfl (gc (zcb h (λ(c:List Int) (v3_j1:Value)=>(pt AF0 3 (.exact v3_j1))) (λ(c:List Int) (v3_j1:Value)=>[vecT Tryz.prog 22 1 zav v3_j1 c]) (λ k1 h=> ?_) (λ c v3_j1 h=> ?_))))))))
 .refine sr (qm (.row 1 zav a0) rfl (gq (zao (by kernel_rfl) rfl (qm (.xi 0) rfl (gc (zaq (zcz (m_alphabet_Set_L2 a0 k1) (m_alphabet_Set_B2 a0 k1) (λ _ _=>rfl) (λ m _ _=>rfl) h (λ(d:List Int) (b:Int) (v3_l2:Value)=>(pt (pt (pt (pt AF0 3 (.exact v3_l2)) 6 (.row 1 zav a0)) 7 (.xi (List.length a0:Int))) 8 (.xi b))) (λ(d:List Int) (b:Int) (v3_l2:Value)=>[vecT Tryz.prog 22 1 zav v3_l2 d]) (.slice none 0 0) ?_ (λ k d b v3_l2 h=> ?_))))))))
  .refine Sub.trans (SubU.to (SubU.nilT (P:=Tryz.prog) (t:=22) (n:=1) (enc:=zav))) (s4 rfl rfl rfl rfl)
  .unfold m_alphabet_Set_B2 at h
   refine sr (gq (zbm rfl rfl (gc (zan (kd (p:=b<(List.length a0:Int)) rfl h (λ hc h=> ?_) (λ hc h=> ?_))))))
   .refine zap (zaf (zcb h (λ(e:List Int) (v3_j48:Value)=>(pt (pt (pt (pt AF0 3 (.exact v3_j48)) 6 (.row 1 zav a0)) 7 (.xi (List.length a0:Int))) 8 (.xi b))) (λ(e:List Int) (v3_j48:Value)=>[vecT Tryz.prog 22 1 zav v3_j48 e]) (λ k48 h=> ?_) (λ e v3_j48 h=> ?_)))
    .refine zaq (sr ?_)
     obtain⟨n53,h⟩:=zad h
     refine gq (zai (by kernel_rfl) rfl rfl n53.1 n53.2 (gq (zak (a:= .xi (gi a0 b)) (by kernel_rfl) rfl rfl (qa (.xi (gi a0 b)) rfl (gd (qm (.xi (gi a0 b)) rfl ?_))))))
     obtain⟨y54,f,h⟩:=zae h
     refine gq (zal (m_alphabet_visible_ok _ _ f) func268 (by kernel_rfl) (lc lf ln) (gc (kb (p:=y54) rfl h (λ hc h=> ?_) (λ hc h=> ?_))))
     .refine kr (qm (.exact v3_l2) rfl (qm (.xi (gi a0 b)) rfl (gq (zcd (n:=1) (enc:=zav) [gi a0 b] (CellsAll.cons rfl CellsOf.int CellsAll.nil) rfl (by kernel_rfl) (LEss.cons (lc lf ln) LEss.nil) ?_))))
      obtain⟨n55,h⟩:=zad h
      refine G_l rfl (zcu (by kernel_rfl) rfl rfl oc_c_int n55 (λ v56=>qa (.exact v56) rfl (zbc (zau (zaa ⟨_,v56,h,s4 rfl rfl rfl rfl⟩)))))
     .refine zap (zau (zaa ⟨_,v3_l2,h,s4 rfl rfl rfl rfl⟩))
    .refine kr (gq (zbo rfl rfl rfl (qm (.xi (i64 (b+1))) rfl (zbc (zaa ⟨_,_,v3_j48,h,s4 rfl rfl rfl rfl⟩)))))
   .refine zbr (zbi (zbk (zbj (zaa ⟨_,v3_l2,h,s1 rfl⟩))))
 .refine sr (qm (.exact v3_j1) rfl ?_)
  obtain⟨y57,g,h⟩:=zae h
  refine G_l rfl (zdg (m_sortE_ok _ _ g) func173 (by kernel_rfl) (lc lf ln) (gd (qm (.exact v3_j1) rfl ?_)))
  obtain⟨y58,i,h⟩:=zae h
  refine G_l rfl (op_fun_1_0_0 (m_slices_Compact_L_int_int_ok _ _ i) func175 (by kernel_rfl) (lc lf ln) ?_)
  obtain⟨y59,j,h⟩:=zae h
  refine gq (zal (zgx _ _ j) func174 (by kernel_rfl) (lc lf ln) (qa (.row 1 zav y59) rfl (gc (zbn ?_))))
  obtain rfl:=oi h
  refine ke (pt AF0 2 (.row 1 zav y59)) [] rfl (s1 rfl) ⟨rfl,rfl⟩
theorem m_explore_event_ok (a0:Int) (r:Bool) (h:m_explore_event a0=some r):Pure Tryz.prog 255 [(.exact (.int .i64 a0))] (.exact (.bool r)):=by
 unfold m_explore_event at h
 refine Pure.ofFun (zam func255 rfl ntmps255 (by simp) rfl (res1 rfl) λ E hE=>zca (sr (qa (.xb false) rfl (gc (zax h (λ(a:Bool)=>(pt AF0 2 (.xb a))) (λ(a:Bool)=>[]) (λ k1 h=> ?_) (λ a h=> ?_))))))
 .refine kr (qm (.xi a0) rfl (gq (zbf rfl rfl (qm (.xb (decide (a0=0))) rfl (zcc (p:=a0=0) 5 rfl (λ hc=> ?_) (λ hc=> ?_))))))
  .replace h:=zcg h hc
   refine gn (gn (gq (zat rfl (av:= .xb true) rfl (qm (.xb true) rfl (gn (gn (gn (gn (gn (gq (zat rfl (av:= .xb true) rfl (qa (.xb true) rfl (zbc (zaa ⟨_,h,s1 rfl⟩))))))))))))))
  .replace h:=zcf h hc
   refine gy (zah (av:= .xi a0) rfl (gy (zbf rfl rfl (gq (zar rfl (av:= .xb (decide (a0=1))) rfl (qm (.xb (decide (a0=1))) rfl (zcc (p:=a0=1) 9 rfl (λ hc=> ?_) (λ hc=> ?_))))))))
   .replace h:=zcg h hc
    refine gn (gn (gn (gn (gn (gq (zat rfl (av:= .xb true) rfl (qa (.xb true) rfl (zbc (zaa ⟨_,h,s1 rfl⟩)))))))))
   .replace h:=zcf h hc
    refine gy (zah (av:= .xi a0) rfl (gy (zcd (n:=1) (enc:=zav) [a0] (CellsAll.cons rfl CellsOf.int CellsAll.nil) rfl (by kernel_rfl) (LEss.cons (lc lf ln) LEss.nil) ?_)))
    obtain⟨y3,b,h⟩:=zae h
    refine gy (zal (m_alphabet_Set_ok _ _ b) func277 (by kernel_rfl) (lc lf ln) (gy (zao (by kernel_rfl) rfl (gy (zbf rfl rfl (gq (zar rfl (av:= .xb (decide ((List.length y3:Int)=1))) rfl (qa (.xb (decide ((List.length y3:Int)=1))) rfl (zbc (zaa ⟨_,h,s1 rfl⟩))))))))))
 .refine zbn ?_
  obtain rfl:=oi h
  refine ke (pt AF0 2 (.xb a)) [] rfl (s1 rfl) ⟨rfl,rfl⟩
theorem m_explore_formed_ok (a0:(List (List (Int×Int)))) (r:Bool) (h:m_explore_formed a0=some r):Pure Tryz.prog 221 [(.agg (zef a0))] (.exact (.bool r)):=by
 unfold m_explore_formed at h
 refine Pure.ofFun (zam func221 rfl ntmps221 (by simp) rfl (res1 rfl) λ E hE=>zca (sr (gq (zfe (c:=zef a0) rfl CellsOf.agg (qa (.xb false) rfl (gd (gq (zaj (o:=0) (c':=(List.drop 0 (zef a0))) (by kernel_rfl) rfl rfl (gq (zak (a:= .row 1 zby a0) (by kernel_rfl) rfl rfl (gq (zao (by kernel_rfl) rfl (qa (.xi (List.length a0:Int)) rfl (qa (.xi 0) rfl (gc (zax h (λ(f:Int)=>(pt (pt AF0 3 (.xi (List.length a0:Int))) 4 (.xi f))) (λ(f:Int)=>[]) (λ k1 h=> ?_) (λ f h=> ?_)))))))))))))))))
 .refine sr (gq (zaj (o:=0) (c':=(List.drop 0 (zef a0))) (by kernel_rfl) rfl rfl (gq (zak (a:= .row 1 zby a0) (by kernel_rfl) rfl rfl (gq (zao (by kernel_rfl) rfl (qm (.xi 0) rfl (gc (zaq (zey (m_explore_formed_L8 a0 k1) (m_explore_formed_B8 a0 k1) (λ _ _=>rfl) (λ m _ _=>rfl) h (λ(e:Int) (b:Int)=>(pt (pt (pt (pt (pt AF0 3 (.xi (List.length a0:Int))) 4 (.xi e)) 13 (.row 1 zby a0)) 14 (.xi (List.length a0:Int))) 15 (.xi b))) (λ(e:Int) (b:Int)=>[]) ?_ (λ k e b h=> ?_)))))))))))
  .exact so (l4 rfl rfl rfl rfl (lq rfl lt0))
  .unfold m_explore_formed_B8 at h
   refine sr (gq (zbm rfl rfl (gc (zan (kd (p:=b<(List.length a0:Int)) rfl h (λ hc h=> ?_) (λ hc h=> ?_))))))
   .refine zap (zaf (zbw h ((pt (pt (pt (pt (pt AF0 3 (.xi (List.length a0:Int))) 4 (.xi (i64 (e+(List.length (gi a0 b):Int))))) 13 (.row 1 zby a0)) 14 (.xi (List.length a0:Int))) 15 (.xi b))) ([]) (λ k358 h=> ?_) (λ  h=> ?_)))
    .refine zaq (sr ?_)
     obtain⟨n394,h⟩:=zad h
     refine gq (zai (by kernel_rfl) rfl rfl n394.1 n394.2 (gq (zak (a:= .row 2 zbp (gi a0 b)) (by kernel_rfl) rfl rfl (qa (.row 2 zbp (gi a0 b)) rfl (gd (qm (.xi e) rfl (qm (.row 2 zbp (gi a0 b)) rfl (gq (zao (by kernel_rfl) rfl (gq (zbo rfl rfl rfl (qa (.xi (i64 (e+(List.length (gi a0 b):Int)))) rfl (gd (qm (.row 2 zbp (gi a0 b)) rfl (gq (zao (by kernel_rfl) rfl (qm (.xi 0) rfl (gc (zaq (zcr (m_explore_formed_L14 a0 b k358) (m_explore_formed_B14 a0 b k358) (λ _=>rfl) (λ m _=>rfl) h (λ(d:Int)=>(pt (pt (pt (pt (pt (pt (pt (pt AF0 3 (.xi (List.length a0:Int))) 4 (.xi (i64 (e+(List.length (gi a0 b):Int))))) 13 (.row 1 zby a0)) 14 (.xi (List.length a0:Int))) 15 (.xi b)) 23 (.row 2 zbp (gi a0 b))) 24 (.xi (List.length (gi a0 b):Int))) 25 (.xi d))) (λ(d:Int)=>[]) ?_ (λ l d h=> ?_)))))))))))))))))))))
     .exact so (l4 rfl rfl rfl rfl (l4 rfl rfl rfl rfl lt0))
     .unfold m_explore_formed_B14 at h
      refine sr (gq (zbm rfl rfl (gc (zan (kd (p:=d<(List.length (gi a0 b):Int)) rfl h (λ hc h=> ?_) (λ hc h=> ?_))))))
      .refine zap (zaf (zan (zaq (sr ?_))))
       obtain⟨n423,h⟩:=zad h
       refine gq (zai (by kernel_rfl) rfl rfl n423.1 n423.2 (gq (zbx (m:=2) (c':=zbp (gi (gi a0 b) d)) (by kernel_rfl) rfl rfl rfl (G_l rfl (zel (c:=[.xi ((0,0).1), .xi ((0,0).2)]) rfl (lc lf (lc lf ln)) (λ b424=>G_l rfl (zbz (c':=[.xi ((gi (gi a0 b) d).1), .xi ((gi (gi a0 b) d).2)]) (c3:=[.xi ((gi (gi a0 b) d).1), .xi ((gi (gi a0 b) d).2)]) rfl rfl CellsOf.agg (lc lf (lc lf ln)) (oc_c_api_Arc _) (by kernel_rfl) (Nat.le_of_ble_eq_true rfl) rfl (gc (zax h (λ(g:Bool)=>(pt (pt (pt (pt (pt (pt (pt (pt (pt AF0 3 (.xi (List.length a0:Int))) 4 (.xi (i64 (e+(List.length (gi a0 b):Int))))) 13 (.row 1 zby a0)) 14 (.xi (List.length a0:Int))) 15 (.xi b)) 23 (.row 2 zbp (gi a0 b))) 24 (.xi (List.length (gi a0 b):Int))) 25 (.xi d)) 43 (.xb g))) (λ(g:Bool)=>[]) (λ k425 h=> ?_) (λ g h=> ?_))))))))))
       .refine kr (gq (zba (o:=0) (by kernel_rfl) rfl (G_r rfl (zaz (a:= .xi ((gi (gi a0 b) d).1)) (by kernel_rfl) rfl rfl ?_))))
        obtain⟨y427,j,h⟩:=zae h
        refine gq (zal (m_explore_event_ok _ _ j) func255 (by kernel_rfl) (lc lf ln) (gq (zdh rfl (qm (.xb (!y427)) rfl (zfl (c:= !y427) 33 rfl (λ hc=> ?_) (λ hc=> ?_))))))
        .replace h:=zcg h hc
         refine gn (gn (gn (gq (zat rfl (av:= .xb true) rfl (qm (.xb true) rfl (gn (gn (gn (gn (gq (zat rfl (av:= .xb true) rfl (zbc (zaa ⟨_,h, ?_⟩)))))))))))))
         refine Sub.trans (SubU.to SubU.drop) (so (l4 rfl rfl rfl rfl (l4 rfl rfl rfl rfl (lq rfl lt0))))
        .replace h:=zcf h hc
         refine gy (zba (o:=1) (by kernel_rfl) rfl (Gy_r rfl rfl rfl (zaz (a:= .xi ((gi (gi a0 b) d).2)) (by kernel_rfl) rfl rfl (gy (zbm rfl rfl (gq (zar rfl (av:= .xb (decide (((gi (gi a0 b) d).2)<0))) rfl (qm (.xb (decide (((gi (gi a0 b) d).2)<0))) rfl (zcc (p:=((gi (gi a0 b) d).2)<0) 38 rfl (λ hc=> ?_) (λ hc=> ?_))))))))))
         .replace h:=zcg h hc
          refine gn (gn (gn (gn (gq (zat rfl (av:= .xb true) rfl (zbc (zaa ⟨_,h, ?_⟩)))))))
          refine Sub.trans (SubU.to SubU.drop) (so (l4 rfl rfl rfl rfl (l4 rfl rfl rfl rfl (lq rfl lt0))))
         .replace h:=zcf h hc
          refine gy (zba (o:=1) (by kernel_rfl) rfl (Gy_r rfl rfl rfl (zaz (a:= .xi ((gi (gi a0 b) d).2)) (by kernel_rfl) rfl rfl (gy (zah (av:= .xi (List.length a0:Int)) rfl (gy (zgm rfl rfl (gq (zar rfl (av:= .xb (decide ((List.length a0:Int)≤((gi (gi a0 b) d).2)))) rfl (zbc (zaa ⟨_,h, ?_⟩)))))))))))
          refine Sub.trans (SubU.to SubU.drop) (so (l4 rfl rfl rfl rfl (l4 rfl rfl rfl rfl (lq rfl lt0))))
       .refine kb (p:=g) rfl h (λ hc h=> ?_) (λ hc h=> ?_)
        .refine zan ?_
         cases h
        .refine zap (zau (zaf (kr (gq (zbo rfl rfl rfl (qm (.xi (i64 (d+1))) rfl (zbc (zaa ⟨_,h,so (l4 rfl rfl rfl rfl (l4 rfl rfl rfl rfl lt0))⟩))))))))
      .refine zbr (zbi (zbk (zbj (zau (zaa ⟨h,so (l4 rfl rfl rfl rfl (lq rfl lt0))⟩)))))
    .refine kr (gq (zbo rfl rfl rfl (qm (.xi (i64 (b+1))) rfl (zbc (zaa ⟨_,_,h,so (l4 rfl rfl rfl rfl (lq rfl lt0))⟩)))))
   .refine zbr (zbi (zbk (zbj (zaa ⟨_,h,s2 rfl rfl⟩))))
 .refine zax h (λ(i:Bool)=>(pt AF0 2 (.xb i))) (λ(i:Bool)=>[]) (λ k428 h=> ?_) (λ i h=> ?_)
  .refine kr (qm (.xi (List.length a0:Int)) rfl (gq (zgm rfl rfl (qm (.xb (decide (1≤(List.length a0:Int)))) rfl (zcc (p:=1≤(List.length a0:Int)) 48 rfl (λ hc=> ?_) (λ hc=> ?_))))))
   .replace h:=zcg h hc
    refine gy (zah (av:= .xi (List.length a0:Int)) rfl (gy (op_leq rfl rfl (gq (zat rfl (av:= .xb (decide ((List.length a0:Int)≤16384))) rfl (qm (.xb (decide ((List.length a0:Int)≤16384))) rfl (zcc (p:=(List.length a0:Int)≤16384) 52 rfl (λ hc=> ?_) (λ hc=> ?_))))))))
    .replace h:=zcg h hc
     refine gy (zah (av:= .xi f) rfl (gy (op_leq rfl rfl (gq (zat rfl (av:= .xb (decide (f≤262144))) rfl (qa (.xb (decide (f≤262144))) rfl (zbc (zaa ⟨_,h,s1 rfl⟩))))))))
    .replace h:=zcf h hc
     refine gn (gn (gq (zar rfl (av:= .xb false) rfl (qa (.xb false) rfl (zbc (zaa ⟨_,h,s1 rfl⟩))))))
   .replace h:=zcf h hc
    refine gn (gn (gq (zar rfl (av:= .xb false) rfl (qm (.xb false) rfl (gn (gn (gq (zar rfl (av:= .xb false) rfl (qa (.xb false) rfl (zbc (zaa ⟨_,h,s1 rfl⟩)))))))))))
  .refine zbn ?_
   obtain rfl:=oi h
   refine ke (pt AF0 2 (.xb i)) [] rfl (s1 rfl) ⟨rfl,rfl⟩
theorem m_explore_compareArcs_ok (a0:Int×Int) (a1:Int×Int) (r:Int) (h:m_explore_compareArcs a0 a1=some r):Pure Tryz.prog 222 [(.agg (zbp a0)),(.agg (zbp a1))] (.exact (.int .i64 r)):=by
 unfold m_explore_compareArcs at h
 refine Pure.ofFun (zam func222 rfl ntmps222 (by simp) rfl (res1 rfl) λ E hE=>zca (sr (gq (zfe (c:=zbp a0) rfl CellsOf.agg (gq (zfe (c:=zbp a1) rfl CellsOf.agg (qa (.xi 0) rfl (gc (zan ?_)))))))))
 cases h
theorem m_explore_Canonical_ok (a0:(List (List (Int×Int)))) (r:Bool) (h:m_explore_Canonical a0=some r):Pure Tryz.prog 176 [(.agg (zef a0))] (.exact (.bool r)):=by
 unfold m_explore_Canonical at h
 refine Pure.ofFun (zam func176 rfl ntmps176 (by simp) rfl (res1 rfl) λ E hE=>zca (sr (gq (zfe (c:=zef a0) rfl CellsOf.agg (qa (.xb false) rfl (gc (zan (sr (gq (zbx (m:=1) (c':=zef a0) (by kernel_rfl) rfl rfl rfl ?_))))))))))
 obtain⟨y1,j,h⟩:=zae h
 refine gq (zal (m_explore_formed_ok _ _ j) func221 (by kernel_rfl) (lc lf ln) (gq (zdh rfl (gc (kb (p:= !y1) rfl h (λ hc h=> ?_) (λ hc h=> ?_))))))
 .refine zan ?_
  cases h
 .refine zap (zaf (sr (qa (.xi 1) rfl (gc (zbw h (AF0) ([]) (λ k2 h=> ?_) (λ  h=> ?_))))))
  .refine sr (gq (zaj (o:=0) (c':=(List.drop 0 (zef a0))) (by kernel_rfl) rfl rfl (gq (zak (a:= .row 1 zby a0) (by kernel_rfl) rfl rfl (gq (zao (by kernel_rfl) rfl (qm (.xi 0) rfl (gc (zaq (zey (m_explore_Canonical_L8 a0 k2) (m_explore_Canonical_B8 a0 k2) (λ _ _=>rfl) (λ m _ _=>rfl) h (λ(f:Int) (b:Int)=>(pt (pt (pt (pt AF0 3 (.xi f)) 12 (.row 1 zby a0)) 13 (.xi (List.length a0:Int))) 14 (.xi b))) (λ(f:Int) (b:Int)=>[]) ?_ (λ l f b h=> ?_)))))))))))
   .exact s4 rfl rfl rfl rfl
   .unfold m_explore_Canonical_B8 at h
    refine sr (gq (zbm rfl rfl (gc (zan (kd (p:=b<(List.length a0:Int)) rfl h (λ hc h=> ?_) (λ hc h=> ?_))))))
    .refine zap (zaf (zax h (λ(i:Int)=>(pt (pt (pt (pt AF0 3 (.xi i)) 12 (.row 1 zby a0)) 13 (.xi (List.length a0:Int))) 14 (.xi b))) (λ(i:Int)=>[]) (λ k839 h=> ?_) (λ i h=> ?_)))
     .refine zaq (sr (qm (.xi b) rfl ?_))
      obtain⟨n923,h⟩:=zad h
      refine gq (zai (by kernel_rfl) rfl rfl n923.1 n923.2 (gq (zak (a:= .row 2 zbp (gi a0 b)) (by kernel_rfl) rfl rfl (qa (.xi b) rfl (qa (.row 2 zbp (gi a0 b)) rfl (gc (zan (sr (qm (.xi b) rfl (qm (.xi f) rfl (gq (zbf rfl rfl (gc (kd (p:=b=f) rfl h (λ hc h=> ?_) (λ hc h=> ?_)))))))))))))))
      .refine zan ?_
       cases h
      .refine zap (zaf (sr (qm (.row 2 zbp (gi a0 b)) rfl (gq (zao (by kernel_rfl) rfl (qm (.xi 0) rfl (gc (zaq (zey (m_explore_Canonical_L14 a0 b k839) (m_explore_Canonical_B14 a0 b k839) (λ _ _=>rfl) (λ m _ _=>rfl) h (λ(e:Int) (d:Int)=>(pt (pt (pt (pt (pt (pt (pt (pt AF0 3 (.xi e)) 5 (.row 2 zbp (gi a0 b))) 12 (.row 1 zby a0)) 13 (.xi (List.length a0:Int))) 14 (.xi b)) 22 (.row 2 zbp (gi a0 b))) 23 (.xi (List.length (gi a0 b):Int))) 24 (.xi d))) (λ(e:Int) (d:Int)=>[]) ?_ (λ n e d h=> ?_))))))))))
       .exact so (l4 rfl rfl rfl rfl (l4 rfl rfl rfl rfl lt0))
       .unfold m_explore_Canonical_B14 at h
        refine sr (gq (zbm rfl rfl (gc (zan (kd (p:=d<(List.length (gi a0 b):Int)) rfl h (λ hc h=> ?_) (λ hc h=> ?_))))))
        .refine zap (zaf (zan (zaq (sr (qm (.xi d) rfl ?_)))))
         obtain⟨n992,h⟩:=zad h
         refine gq (zai (by kernel_rfl) rfl rfl n992.1 n992.2 (gq (zbx (m:=2) (c':=zbp (gi (gi a0 b) d)) (by kernel_rfl) rfl rfl rfl (G_l rfl (zel (c:=[.xi ((0,0).1), .xi ((0,0).2)]) rfl (lc lf (lc lf ln)) (λ b993=>qa (.xi d) rfl (G_l rfl (zbz (c':=[.xi ((gi (gi a0 b) d).1), .xi ((gi (gi a0 b) d).2)]) (c3:=[.xi ((gi (gi a0 b) d).1), .xi ((gi (gi a0 b) d).2)]) rfl rfl CellsOf.agg (lc lf (lc lf ln)) (oc_c_api_Arc _) (by kernel_rfl) (Nat.le_of_ble_eq_true rfl) rfl (gc (zan (zax h (λ(g:Bool)=>(pt (pt (pt (pt (pt (pt (pt (pt (pt (pt AF0 3 (.xi e)) 5 (.row 2 zbp (gi a0 b))) 7 (pA b993 0)) 12 (.row 1 zby a0)) 13 (.xi (List.length a0:Int))) 14 (.xi b)) 22 (.row 2 zbp (gi a0 b))) 23 (.xi (List.length (gi a0 b):Int))) 24 (.xi d)) 46 (.xb g))) (λ(g:Bool)=>[boxI 128 b993 [.xi ((gi (gi a0 b) d).1), .xi ((gi (gi a0 b) d).2)]]) (λ k1000 h=> ?_) (λ g h=> ?_))))))))))))
         .refine zck [] [(0,0),(0,1),(0,2),(0,3),(0,4),(0,5),(0,6),(0,7),(1,8),(0,9),(0,10),(0,11),(0,12),(0,13),(0,15),(1,14),(0,16),(0,17)] hmixP (by kernel_rfl) (pq rfl (zah (av:= .xi d) rfl (pq rfl (zfx rfl rfl (pq rfl (zah (av:= .xb (decide (0<d))) rfl (zfd (p:=0<d) 31 rfl (λ hc=> ?_) (λ hc=> ?_))))))))
          .replace h:=zcg h hc
           refine py rfl (zah (av:= .row 2 zbp (gi a0 b)) rfl (py rfl (zah (av:= .xi d) rfl (py rfl (op_sub rfl rfl rfl ?_)))))
           obtain⟨n1003,h⟩:=zad h
           refine py rfl (zai (by kernel_rfl) rfl rfl n1003.1 n1003.2 (py rfl (zbx (m:=2) (c':=zbp (gi (gi a0 b) (i64 (d - 1)))) (by kernel_rfl) rfl rfl rfl (Py_r rfl rfl rfl (zei (m:=2) (c':=zbp ((gi (gi a0 b) d).1,(gi (gi a0 b) d).2)) (by kernel_rfl) rfl rfl rfl ?_)))))
           obtain⟨y1004,k,h⟩:=zae h
           refine py rfl (zal (m_explore_compareArcs_ok _ _ _ k) func222 (by kernel_rfl) (lc lf (lc lf ln)) (py rfl (zgm rfl rfl (pq rfl (zat rfl (av:= .xb (decide (0≤y1004))) rfl (pq rfl (zah (av:= .xb (decide (0≤y1004))) rfl (zfd (p:=0≤y1004) 41 rfl (λ hc=> ?_) (λ hc=> ?_)))))))))
           .replace h:=zcg h hc
            refine pn rfl (pn rfl (P_n zdl rfl rfl rfl (pn rfl (pq rfl (zat rfl (av:= .xb true) rfl (zcn (zaa ⟨_,h,so (l4 rfl rfl rfl rfl (l4 rfl rfl rfl rfl (lq rfl (lq rfl lt0))))⟩)))))))
           .replace h:=zcf h hc
            refine py rfl (zba (o:=1) (by kernel_rfl) rfl (py rfl (zah (av:= .xi e) rfl (Py_r rfl rfl rfl (zaz (a:= .xi ((gi (gi a0 b) d).2)) (by kernel_rfl) rfl rfl (py rfl (zfx rfl rfl (pq rfl (zar rfl (av:= .xb (decide (e<((gi (gi a0 b) d).2)))) rfl (zcn (zaa ⟨_,h,so (l4 rfl rfl rfl rfl (l4 rfl rfl rfl rfl (lq rfl (lq rfl lt0))))⟩)))))))))))
          .replace h:=zcf h hc
           refine pn rfl (pn rfl (pn rfl (pn rfl (pn rfl (P_n zdl rfl rfl rfl (pn rfl (pn rfl (pq rfl (zar rfl (av:= .xb false) rfl (pq rfl (zah (av:= .xb false) rfl (py rfl (zba (o:=1) (by kernel_rfl) rfl (py rfl (zah (av:= .xi e) rfl (Py_r rfl rfl rfl (zaz (a:= .xi ((gi (gi a0 b) d).2)) (by kernel_rfl) rfl rfl (py rfl (zfx rfl rfl (pq rfl (zar rfl (av:= .xb (decide (e<((gi (gi a0 b) d).2)))) rfl (zcn (zaa ⟨_,h,so (l4 rfl rfl rfl rfl (l4 rfl rfl rfl rfl (lq rfl (lq rfl lt0))))⟩)))))))))))))))))))))))
         .refine kb (p:=g) rfl h (λ hc h=> ?_) (λ hc h=> ?_)
          .refine zan ?_
           cases h
          .refine zap (zaf (kr (qm (.xi e) rfl (gq (zba (o:=1) (by kernel_rfl) rfl (G_r rfl (zaz (a:= .xi ((gi (gi a0 b) d).2)) (by kernel_rfl) rfl rfl (gq (zbo rfl rfl rfl (gq (op_max rfl rfl (qa (.xi (max e (i64 (((gi (gi a0 b) d).2)+1)))) rfl (zbc (zau (zaf (kr (gq (zbo rfl rfl rfl (qm (.xi (i64 (d+1))) rfl (zbc (zaa ⟨_,_,h, ?_⟩)))))))))))))))))))))
           refine Sub.trans (SubU.to SubU.drop) (so (l4 rfl rfl rfl rfl (l4 rfl rfl rfl rfl lt0)))
        .refine zbr (zbi (zbk (zbj (zau (zaa ⟨_,h,s4 rfl rfl rfl rfl⟩)))))
     .refine kr (gq (zbo rfl rfl rfl (qm (.xi (i64 (b+1))) rfl (zbc (zaa ⟨_,_,h,s4 rfl rfl rfl rfl⟩)))))
    .refine zbr (zbi (zbk (zbj (zaa ⟨h,Sub.of_le lt0⟩))))
  .refine sr (qa (.xb true) rfl (gc (zbn ?_)))
   obtain rfl:=oi h
   refine ke (pt AF0 2 (.xb true)) [] rfl (s1 rfl) ⟨rfl,rfl⟩
theorem m_slices_Index_L_bool_bool_ok (a0:List Bool) (a1:Bool) (r:Int) (h:zgy a0 a1=some r):Pure Tryz.prog 223 [(.row 1 zdk a0),(.exact (.bool a1))] (.exact (.int .i64 r)):=by
 unfold zgy at h
 refine Pure.ofFun (zam func223 rfl ntmps223 (by simp) rfl (res1 rfl) λ E hE=>zca (sr (qa (.xi 0) rfl (gc (zbw h (AF0) ([]) (λ k1 h=> ?_) (λ  h=> ?_))))))
 .refine sr (qm (.row 1 zdk a0) rfl (gq (zao (by kernel_rfl) rfl (qm (.xi 0) rfl (gc (zaq (zcr (zgc a0 a1 k1) (zgh a0 a1 k1) (λ _=>rfl) (λ m _=>rfl) h (λ(c:Int)=>(pt (pt (pt (pt AF0 0 (.row 1 zdk a0)) 1 (.xb a1)) 7 (.xi (List.length a0:Int))) 8 (.xi c))) (λ(c:Int)=>[]) ?_ (λ d c h=> ?_))))))))
  .exact s4 rfl rfl rfl rfl
  .unfold zgh at h
   refine sr (gq (zbm rfl rfl (gc (zan (kd (p:=c<(List.length a0:Int)) rfl h (λ hc h=> ?_) (λ hc h=> ?_))))))
   .refine zap (zaf (zan (zaq (sr (qm (.xi c) rfl (qa (.xi c) rfl (gd (qm (.xb a1) rfl (qm (.row 1 zdk a0) rfl (qm (.xi c) rfl ?_))))))))))
    obtain⟨n8,h⟩:=zad h
    refine gq (zai (by kernel_rfl) rfl rfl n8.1 n8.2 (gq (zak (a:= .xb (gi a0 c)) (by kernel_rfl) rfl rfl (gq (op_eqlB (a:=a1) (b:=(gi a0 c)) (by kernel_rfl) rfl rfl (gc (kd (p:=a1=(gi a0 c)) rfl h (λ hc h=> ?_) (λ hc h=> ?_))))))))
    .refine sr (qm (.xi c) rfl (qa (.xi c) rfl (gc (zbn (zde (zdb (zek (zde (zek ?_)))))))))
     obtain rfl:=oi h
     refine ke (pt AF0 4 (.xi c)) [] rfl (s1 rfl) ⟨rfl,rfl⟩
    .refine zap (zau (zaf (kr (gq (zbo rfl rfl rfl (qm (.xi (i64 (c+1))) rfl (zbc (zaa ⟨_,h,s4 rfl rfl rfl rfl⟩))))))))
   .refine zbr (zbi (zbk (zbj (zaa ⟨h,Sub.of_le lt0⟩))))
 .refine sr (qa (.xi (-1)) rfl (gc (zbn ?_)))
  obtain rfl:=oi h
  refine ke (pt AF0 4 (.xi (-1))) [] rfl (s1 rfl) ⟨rfl,rfl⟩
theorem m_slices_Contains_L_bool_bool_ok (a0:List Bool) (a1:Bool) (r:Bool) (h:zgg a0 a1=some r):Pure Tryz.prog 177 [(.row 1 zdk a0),(.exact (.bool a1))] (.exact (.bool r)):=by
 unfold zgg at h
 refine Pure.ofFun (zam func177 rfl ntmps177 (by simp) rfl (res1 rfl) λ E hE=>zca (sr (qa (.xb false) rfl (gd (qm (.row 1 zdk a0) rfl (qm (.xb a1) rfl ?_))))))
 obtain⟨y1,a,h⟩:=zae h
 refine gq (zal (m_slices_Index_L_bool_bool_ok _ _ _ a) func223 (by kernel_rfl) (lc lf (lc lf ln)) (gq (zgm rfl rfl (qa (.xb (decide (0≤y1))) rfl (gc (zbn ?_))))))
 obtain rfl:=oi h
 refine ke (pt AF0 4 (.xb (decide (0≤y1)))) [] rfl (s1 rfl) ⟨rfl,rfl⟩
theorem m_combinator_event_ok (a0:Int) (r:Bool) (h:m_combinator_event a0=some r):Pure Tryz.prog 224 [(.exact (.int .i64 a0))] (.exact (.bool r)):=by
 unfold m_combinator_event at h
 refine Pure.ofFun (zam func224 rfl ntmps224 (by simp) rfl (res1 rfl) λ E hE=>zca (sr (qa (.xb false) rfl (gc (zax h (λ(a:Bool)=>(pt AF0 2 (.xb a))) (λ(a:Bool)=>[]) (λ k1 h=> ?_) (λ a h=> ?_))))))
 .refine kr (qm (.xi a0) rfl (gq (zgm rfl rfl (qm (.xb (decide (0≤a0))) rfl (zcc (p:=0≤a0) 5 rfl (λ hc=> ?_) (λ hc=> ?_))))))
  .replace h:=zcg h hc
   refine gy (zah (av:= .xi a0) rfl (gy (zbm rfl rfl (gq (zat rfl (av:= .xb (decide (a0<1026))) rfl (qa (.xb (decide (a0<1026))) rfl (zbc (zaa ⟨_,h,s1 rfl⟩))))))))
  .replace h:=zcf h hc
   refine gn (gn (gq (zar rfl (av:= .xb false) rfl (qa (.xb false) rfl (zbc (zaa ⟨_,h,s1 rfl⟩))))))
 .refine zbn ?_
  obtain rfl:=oi h
  refine ke (pt AF0 2 (.xb a)) [] rfl (s1 rfl) ⟨rfl,rfl⟩
end
noncomputable section
open Go.RowKit
attribute [local irreducible] AV.exact AV.top AV.row AV.ptr AV.agg AV.tup AV.eptr AV.fn AV.nilq AV.nilqn opA opB opM opR Quiet Loud Reads wpG awp den Sub SubU Pure Fun vecI vecT boxI CellsAll CellsOf OneC LEs LEss
set_option maxRecDepth 100000
set_option maxHeartbeats 4000000
theorem m_cmp_isNaN_int_ok (a0:Int) (r:Bool) (h:m_cmp_isNaN_int a0=some r):Pure Tryz.prog 165 [(.exact (.int .i64 a0))] (.exact (.bool r)):=by
 unfold m_cmp_isNaN_int at h
 refine Pure.ofFun (zam func165 rfl ntmps165 (by simp) rfl (res1 rfl) λ E hE=>zca (sr (qa (.xb false) rfl (gd (qm (.xi a0) rfl (qm (.xi a0) rfl (gq (zfr rfl rfl (qa (.xb (decide (¬a0=a0))) rfl (gc (zbn ?_)))))))))))
 obtain rfl:=oi h
 refine ke (pt AF0 2 (.xb (decide (¬a0=a0)))) [] rfl (s1 rfl) ⟨rfl,rfl⟩
theorem zer (a0:Int) (a1:Int) (r:Int) (h:zep a0 a1=some r):Pure Tryz.prog 116 [(.exact (.int .i64 a0)),(.exact (.int .i64 a1))] (.exact (.int .i64 r)):=by
 unfold zep at h
 refine Pure.ofFun (zam func116 rfl ntmps116 (by simp) rfl (res1 rfl) λ E hE=>zca (sr (qa (.xi 0) rfl (gd (qm (.xi a0) rfl ?_)))))
 obtain⟨y1,a,h⟩:=zae h
 refine gq (zal (m_cmp_isNaN_int_ok _ _ a) func165 (by kernel_rfl) (lc lf ln) (qa (.xb y1) rfl (gd (qm (.xi a1) rfl ?_))))
 obtain⟨y2,b,h⟩:=zae h
 refine gq (zal (m_cmp_isNaN_int_ok _ _ b) func165 (by kernel_rfl) (lc lf ln) (qa (.xb y2) rfl (gc (zan (sr (qm (.xb y1) rfl (gc (kb (p:=y1) rfl h (λ hc h=> ?_) (λ hc h=> ?_)))))))))
 .refine zan (sr (qm (.xb y2) rfl (gc (kb (p:=y2) rfl h (λ hc h=> ?_) (λ hc h=> ?_)))))
  .refine sr (qa (.xi 0) rfl (gc (zbn (zdb (zdb ?_)))))
   obtain rfl:=oi h
   refine ke (pt AF0 4 (.xi 0)) [] rfl (s1 rfl) ⟨rfl,rfl⟩
  .refine zap (zaf (sr (qa (.xi (-1)) rfl (gc (zbn (zdb ?_))))))
   obtain rfl:=oi h
   refine ke (pt AF0 4 (.xi (-1))) [] rfl (s1 rfl) ⟨rfl,rfl⟩
 .refine zap (zaf (zan (sr (qm (.xb y2) rfl (gc (kb (p:=y2) rfl h (λ hc h=> ?_) (λ hc h=> ?_)))))))
  .refine sr (qa (.xi 1) rfl (gc (zbn (zdb ?_))))
   obtain rfl:=oi h
   refine ke (pt AF0 4 (.xi 1)) [] rfl (s1 rfl) ⟨rfl,rfl⟩
  .refine zap (zaf (zan (sr (qm (.xi a0) rfl (qm (.xi a1) rfl (gq (zbm rfl rfl (gc (kd (p:=a0<a1) rfl h (λ hc h=> ?_) (λ hc h=> ?_))))))))))
   .refine sr (qa (.xi (-1)) rfl (gc (zbn (zdb ?_))))
    obtain rfl:=oi h
    refine ke (pt AF0 4 (.xi (-1))) [] rfl (s1 rfl) ⟨rfl,rfl⟩
   .refine zap (zaf (zan (sr (qm (.xi a0) rfl (qm (.xi a1) rfl (gq (zfx rfl rfl (gc (kd (p:=a1<a0) rfl h (λ hc h=> ?_) (λ hc h=> ?_))))))))))
    .refine sr (qa (.xi 1) rfl (gc (zbn (zdb ?_))))
     obtain rfl:=oi h
     refine ke (pt AF0 4 (.xi 1)) [] rfl (s1 rfl) ⟨rfl,rfl⟩
    .refine zap (zaf (sr (qa (.xi 0) rfl (gc (zbn ?_)))))
     obtain rfl:=oi h
     refine ke (pt AF0 4 (.xi 0)) [] rfl (s1 rfl) ⟨rfl,rfl⟩
theorem m_slices_Compare_L_int_int_ok (a0:List Int) (a1:List Int) (r:Int) (h:zfn a0 a1=some r):Pure Tryz.prog 117 [(.row 1 zav a0),(.row 1 zav a1)] (.exact (.int .i64 r)):=by
 unfold zfn at h
 refine Pure.ofFun (zam func117 rfl ntmps117 (by simp) rfl (res1 rfl) λ E hE=>zca (sr (qa (.xi 0) rfl (gc (zbw h ((pt (pt AF0 0 (.row 1 zav a0)) 1 (.row 1 zav a1))) ([]) (λ k1 h=> ?_) (λ  h=> ?_))))))
 .refine sr (qm (.row 1 zav a0) rfl (gq (zao (by kernel_rfl) rfl (qm (.xi 0) rfl (gc (zaq (zcr (zge a0 a1 k1) (zgi a0 a1 k1) (λ _=>rfl) (λ m _=>rfl) h (λ(b:Int)=>(pt (pt (pt (pt (pt AF0 0 (.row 1 zav a0)) 1 (.row 1 zav a1)) 9 (.row 1 zav a0)) 10 (.xi (List.length a0:Int))) 11 (.xi b))) (λ(b:Int)=>[]) ?_ (λ d b h=> ?_))))))))
  .exact so (l4 rfl rfl rfl rfl (lq rfl lt0))
  .unfold zgi at h
   refine sr (gq (zbm rfl rfl (gc (zan (kd (p:=b<(List.length a0:Int)) rfl h (λ hc h=> ?_) (λ hc h=> ?_))))))
   .refine zap (zaf (zan (zaq (sr (qm (.xi b) rfl ?_)))))
    obtain⟨n18,h⟩:=zad h
    refine gq (zai (by kernel_rfl) rfl rfl n18.1 n18.2 (gq (zak (a:= .xi (gi a0 b)) (by kernel_rfl) rfl rfl (qa (.xi b) rfl (qa (.xi (gi a0 b)) rfl (gc (zan (sr (qm (.xi b) rfl (qm (.row 1 zav a1) rfl (gq (zao (by kernel_rfl) rfl (gq (zgm rfl rfl (gc (kd (p:=(List.length a1:Int)≤b) rfl h (λ hc h=> ?_) (λ hc h=> ?_)))))))))))))))))
    .refine sr (qa (.xi 1) rfl (gc (zbn (zdb (zde (zdb (zek (zde (zek ?_)))))))))
     obtain rfl:=oi h
     refine ke (pt AF0 4 (.xi 1)) [] rfl (s1 rfl) ⟨rfl,rfl⟩
    .refine zap (zaf (sr (qm (.row 1 zav a1) rfl (qm (.xi b) rfl ?_))))
     obtain⟨n19,h⟩:=zad h
     refine gq (zai (by kernel_rfl) rfl rfl n19.1 n19.2 (gq (zak (a:= .xi (gi a1 b)) (by kernel_rfl) rfl rfl (qa (.xi (gi a1 b)) rfl (gd (qm (.xi (gi a0 b)) rfl (qm (.xi (gi a1 b)) rfl ?_)))))))
     obtain⟨y20,c,h⟩:=zae h
     refine gq (zal (zer _ _ _ c) func116 (by kernel_rfl) (lc lf (lc lf ln)) (qa (.xi y20) rfl (gd (qm (.xi y20) rfl (gq (zfr rfl rfl (gc (kd (p:= ¬y20=0) rfl h (λ hc h=> ?_) (λ hc h=> ?_)))))))))
     .refine sr (qm (.xi y20) rfl (qa (.xi y20) rfl (gc (zbn (zde (zdb (zek (zde (zek ?_)))))))))
      obtain rfl:=oi h
      refine ke (pt AF0 4 (.xi y20)) [] rfl (s1 rfl) ⟨rfl,rfl⟩
     .refine zap (zau (zaf (kr (gq (zbo rfl rfl rfl (qm (.xi (i64 (b+1))) rfl (zbc (zaa ⟨_,h,so (l4 rfl rfl rfl rfl (lq rfl lt0))⟩))))))))
   .refine zbr (zbi (zbk (zbj (zaa ⟨h,s2 rfl rfl⟩))))
 .refine zan (sr (qm (.row 1 zav a0) rfl (gq (zao (by kernel_rfl) rfl (qm (.row 1 zav a1) rfl (gq (zao (by kernel_rfl) rfl (gq (zbm rfl rfl (gc (kd (p:=(List.length a0:Int)<(List.length a1:Int)) rfl h (λ hc h=> ?_) (λ hc h=> ?_))))))))))))
  .refine sr (qa (.xi (-1)) rfl (gc (zbn (zdb ?_))))
   obtain rfl:=oi h
   refine ke (pt AF0 4 (.xi (-1))) [] rfl (s1 rfl) ⟨rfl,rfl⟩
  .refine zap (zaf (sr (qa (.xi 0) rfl (gc (zbn ?_)))))
   obtain rfl:=oi h
   refine ke (pt AF0 4 (.xi 0)) [] rfl (s1 rfl) ⟨rfl,rfl⟩
theorem m_cmp_Or_int_ok (a0:List Int) (r:Int) (h:m_cmp_Or_int a0=some r):Pure Tryz.prog 115 [(.row 1 zav a0)] (.exact (.int .i64 r)):=by
 unfold m_cmp_Or_int at h
 refine Pure.ofFun (zam func115 rfl ntmps115 (by simp) rfl (res1 rfl) λ E hE=>zca (sr (qa (.xi 0) rfl (gd (qa (.xi 0) rfl (gc (zbw h ((pt AF0 3 (.xi 0))) ([]) (λ k1 h=> ?_) (λ  h=> ?_))))))))
 .refine sr (qm (.row 1 zav a0) rfl (gq (zao (by kernel_rfl) rfl (qm (.xi 0) rfl (gc (zaq (zcr (m_cmp_Or_int_L2 a0 k1) (m_cmp_Or_int_B2 a0 k1) (λ _=>rfl) (λ m _=>rfl) h (λ(b:Int)=>(pt (pt (pt (pt AF0 3 (.xi 0)) 6 (.row 1 zav a0)) 7 (.xi (List.length a0:Int))) 8 (.xi b))) (λ(b:Int)=>[]) ?_ (λ c b h=> ?_))))))))
  .exact s4 rfl rfl rfl rfl
  .unfold m_cmp_Or_int_B2 at h
   refine sr (gq (zbm rfl rfl (gc (zan (kd (p:=b<(List.length a0:Int)) rfl h (λ hc h=> ?_) (λ hc h=> ?_))))))
   .refine zap (zaf (zan (zaq (sr ?_))))
    obtain⟨n8,h⟩:=zad h
    refine gq (zai (by kernel_rfl) rfl rfl n8.1 n8.2 (gq (zak (a:= .xi (gi a0 b)) (by kernel_rfl) rfl rfl (qa (.xi (gi a0 b)) rfl (gd (qm (.xi (gi a0 b)) rfl (qm (.xi 0) rfl (gq (zfr rfl rfl (gc (kd (p:= ¬(gi a0 b)=0) rfl h (λ hc h=> ?_) (λ hc h=> ?_))))))))))))
    .refine sr (qm (.xi (gi a0 b)) rfl (qa (.xi (gi a0 b)) rfl (gc (zbn (zde (zdb (zek (zde (zek ?_)))))))))
     obtain rfl:=oi h
     refine ke (pt AF0 2 (.xi (gi a0 b))) [] rfl (s1 rfl) ⟨rfl,rfl⟩
    .refine zap (zau (zaf (kr (gq (zbo rfl rfl rfl (qm (.xi (i64 (b+1))) rfl (zbc (zaa ⟨_,h,s4 rfl rfl rfl rfl⟩))))))))
   .refine zbr (zbi (zbk (zbj (zaa ⟨h,s1 rfl⟩))))
 .refine sr (qm (.xi 0) rfl (qa (.xi 0) rfl (gc (zbn ?_))))
  obtain rfl:=oi h
  refine ke (pt AF0 2 (.xi 0)) [] rfl (s1 rfl) ⟨rfl,rfl⟩
theorem m_combinator_compareRules_ok (a0:(List Int)×Int×Int) (a1:(List Int)×Int×Int) (r:Int) (h:zhg a0 a1=some r):Pure Tryz.prog 225 [(.agg (zay a0)),(.agg (zay a1))] (.exact (.int .i64 r)):=by
 unfold zhg at h
 refine Pure.ofFun (zam func225 rfl ntmps225 (by simp) rfl (res1 rfl) λ E hE=>zca (sr (gq (zfe (c:=zay a0) rfl CellsOf.agg (gq (zfe (c:=zay a1) rfl CellsOf.agg (qa (.xi 0) rfl (gc (zan (zck [] [(0,0),(0,1),(0,2),(0,3),(0,4),(0,5),(0,6),(0,7),(0,8),(0,9),(0,10),(0,11),(0,12),(0,13),(0,14),(0,15),(0,16),(0,17)] hmixP (by kernel_rfl) (pq rfl (zaj (o:=0) (c':=(List.drop 0 (zay a0))) (by kernel_rfl) rfl rfl (pq rfl (zak (a:= .row 1 zav a0.1) (by kernel_rfl) rfl rfl (pq rfl (zaj (o:=0) (c':=(List.drop 0 (zay a1))) (by kernel_rfl) rfl rfl (pq rfl (zak (a:= .row 1 zav a1.1) (by kernel_rfl) rfl rfl ?_))))))))))))))))))
 obtain⟨y1,b,h⟩:=zae h
 refine pq rfl (zal (m_slices_Compare_L_int_int_ok _ _ _ b) func117 (by kernel_rfl) (lc lf (lc lf ln)) (pq rfl (zaj (o:=1) (c':=(List.drop 1 (zay a0))) (by kernel_rfl) rfl rfl (pq rfl (zak (a:= .xi a0.2.1) (by kernel_rfl) rfl rfl (pq rfl (zaj (o:=1) (c':=(List.drop 1 (zay a1))) (by kernel_rfl) rfl rfl (pq rfl (zak (a:= .xi a1.2.1) (by kernel_rfl) rfl rfl ?_)))))))))
 obtain⟨y2,d,h⟩:=zae h
 refine pq rfl (zal (zer _ _ _ d) func116 (by kernel_rfl) (lc lf (lc lf ln)) (pq rfl (zaj (o:=2) (c':=(List.drop 2 (zay a0))) (by kernel_rfl) rfl rfl (pq rfl (zak (a:= .xi a0.2.2) (by kernel_rfl) rfl rfl (pq rfl (zaj (o:=2) (c':=(List.drop 2 (zay a1))) (by kernel_rfl) rfl rfl (pq rfl (zak (a:= .xi a1.2.2) (by kernel_rfl) rfl rfl ?_)))))))))
 obtain⟨y3,e,h⟩:=zae h
 refine pq rfl (zal (zer _ _ _ e) func116 (by kernel_rfl) (lc lf (lc lf ln)) (pq rfl (zcd (n:=1) (enc:=zav) [y1,y2,y3] (CellsAll.cons rfl CellsOf.int (CellsAll.cons rfl CellsOf.int (CellsAll.cons rfl CellsOf.int CellsAll.nil))) rfl (by kernel_rfl) (LEss.cons (lc lf ln) (LEss.cons (lc lf ln) (LEss.cons (lc lf ln) LEss.nil))) ?_)))
 obtain⟨y4,f,h⟩:=zae h
 refine pq rfl (zal (m_cmp_Or_int_ok _ _ f) func115 (by kernel_rfl) (lc lf ln) (pq rfl (zcj (av:= .xi y4) rfl (zcn (zaf (zbn ?_))))))
 obtain rfl:=oi h
 refine ke (pt AF0 4 (.xi y4)) [] rfl (s1 rfl) ⟨rfl,rfl⟩
theorem m_combinator_ordered_ok (a0:(List UInt8)×(List Bool)×(List ((List Int)×Int×Int))) (a1:List ((List UInt8)×(List Bool)×(List ((List Int)×Int×Int)))) (r:Bool) (h:m_combinator_ordered a0 a1=some r):Pure Tryz.prog 179 [(.agg (zaw a0)),(.row 3 zaw a1)] (.exact (.bool r)):=by
 unfold m_combinator_ordered at h
 refine Pure.ofFun (zam func179 rfl ntmps179 (by simp) rfl (res1 rfl) λ E hE=>zca (sr (gq (zfe (c:=zaw a0) rfl CellsOf.agg (qa (.xb false) rfl (gc (zbw h (AF0) ([]) (λ k1 h=> ?_) (λ  h=> ?_))))))))
 .refine sr (gq (zaj (o:=2) (c':=(List.drop 2 (zaw a0))) (by kernel_rfl) rfl rfl (gq (zak (a:= .row 3 zay a0.2.2) (by kernel_rfl) rfl rfl (gq (zao (by kernel_rfl) rfl (qm (.xi 0) rfl (gc (zaq (zcr (m_combinator_ordered_L8 a0 a1 k1) (m_combinator_ordered_B8 a0 a1 k1) (λ _=>rfl) (λ m _=>rfl) h (λ(b:Int)=>(pt (pt (pt (pt (pt AF0 1 (.row 3 zaw a1)) 2 (.ptr (zaw a0))) 10 (.row 3 zay a0.2.2)) 11 (.xi (List.length a0.2.2:Int))) 12 (.xi b))) (λ(b:Int)=>[]) ?_ (λ k b h=> ?_)))))))))))
  .exact so (l4 rfl rfl rfl rfl (lq rfl lt0))
  .unfold m_combinator_ordered_B8 at h
   refine sr (gq (zbm rfl rfl (gc (zan (kd (p:=b<(List.length a0.2.2:Int)) rfl h (λ hc h=> ?_) (λ hc h=> ?_))))))
   .refine zap (zaf (zbw h ((pt (pt (pt (pt (pt AF0 1 (.row 3 zaw a1)) 2 (.ptr (zaw a0))) 10 (.row 3 zay a0.2.2)) 11 (.xi (List.length a0.2.2:Int))) 12 (.xi b))) ([]) (λ k1298 h=> ?_) (λ  h=> ?_)))
    .refine zaq (sr (qm (.xi b) rfl ?_))
     obtain⟨n1428,h⟩:=zad h
     refine gq (zai (by kernel_rfl) rfl rfl n1428.1 n1428.2 (gq (zbx (m:=3) (c':=zay (gi a0.2.2 b)) (by kernel_rfl) rfl rfl rfl (G_l rfl (zel (c:=[.row 1 zav ((([],0,0):(List Int)×Int×Int).1), .xi ((([],0,0):(List Int)×Int×Int).2.1), .xi ((([],0,0):(List Int)×Int×Int).2.2)]) rfl (lc (zcy (by decide)) (lc lf (lc lf ln))) (λ b1429=>qa (.xi b) rfl (G_l rfl (zbz (c':=[.row 1 zav ((gi a0.2.2 b).1), .xi ((gi a0.2.2 b).2.1), .xi ((gi a0.2.2 b).2.2)]) (c3:=[.row 1 zav ((gi a0.2.2 b).1), .xi ((gi a0.2.2 b).2.1), .xi ((gi a0.2.2 b).2.2)]) rfl rfl CellsOf.agg (lc lf (lc lf (lc lf ln))) (oc_c_api_Rule _) (by kernel_rfl) (Nat.le_of_ble_eq_true rfl) rfl (gc (zan (zax h (λ(e:Bool)=>(pt (pt (pt (pt (pt (pt (pt AF0 1 (.row 3 zaw a1)) 2 (.ptr (zaw a0))) 6 (pA b1429 0)) 10 (.row 3 zay a0.2.2)) 11 (.xi (List.length a0.2.2:Int))) 12 (.xi b)) 56 (.xb e))) (λ(e:Bool)=>[boxI 86 b1429 [.row 1 zav ((gi a0.2.2 b).1), .xi ((gi a0.2.2 b).2.1), .xi ((gi a0.2.2 b).2.2)]]) (λ k1438 h=> ?_) (λ e h=> ?_))))))))))))
     .refine zck [] [(0,0),(1,1),(0,2),(0,3),(0,4),(0,5),(1,6),(0,7),(0,8),(0,9),(0,10),(0,12),(0,13),(1,11),(0,14),(0,15),(0,16),(0,17),(0,20),(0,21),(0,22),(1,18),(0,19),(0,23),(0,24),(0,25),(0,26),(0,27),(0,28),(0,29),(0,30),(0,31),(0,32),(0,33),(0,34),(1,35),(0,36),(0,37),(0,38),(0,39)] hmixP (by kernel_rfl) (pq rfl (zba (o:=1) (by kernel_rfl) rfl (P_r rfl (zaz (a:= .xi ((gi a0.2.2 b).2.1)) (by kernel_rfl) rfl rfl ?_))))
      obtain⟨y1442,g,h⟩:=zae h
      refine pq rfl (zal (m_combinator_event_ok _ _ g) func224 (by kernel_rfl) (lc lf ln) (pq rfl (zdh rfl (pq rfl (zah (av:= .xb (!y1442)) rfl (P_splitB (c:= !y1442) 21 rfl (λ hc=> ?_) (λ hc=> ?_)))))))
      .replace h:=zcg h hc
       refine pn rfl (P_n zdl rfl rfl rfl (pn rfl (pq rfl (zat rfl (av:= .xb true) rfl (pq rfl (zah (av:= .xb true) rfl (pn rfl (pn rfl (pn rfl (P_n zdl rfl rfl rfl (pn rfl (pq rfl (zat rfl (av:= .xb true) rfl (pq rfl (zah (av:= .xb true) rfl (pn rfl (pn rfl (pn rfl (pn rfl (P_n zdl rfl rfl rfl (pn rfl (pn rfl (pq rfl (zat rfl (av:= .xb true) rfl (pq rfl (zah (av:= .xb true) rfl (pn rfl (pn rfl (pn rfl (pu rfl ?_))))))))))))))))))))))))))))))
       refine pu rfl (pu rfl (pu rfl (pu rfl (pu rfl (P_u zdl rfl rfl rfl (pu rfl (pu rfl (pn rfl (pq rfl (zat rfl (av:= .xb true) rfl (zcn (zaa ⟨_,h,so (l4 rfl rfl rfl rfl (lq rfl (lq rfl (lq rfl lt0))))⟩))))))))))))
      .replace h:=zcf h hc
       refine py rfl (zba (o:=2) (by kernel_rfl) rfl (Py_r rfl rfl rfl (zaz (a:= .xi ((gi a0.2.2 b).2.2)) (by kernel_rfl) rfl rfl (py rfl (zbm rfl rfl (pq rfl (zar rfl (av:= .xb (decide (((gi a0.2.2 b).2.2)<0))) rfl (pq rfl (zah (av:= .xb (decide (((gi a0.2.2 b).2.2)<0))) rfl (zfd (p:=((gi a0.2.2 b).2.2)<0) 26 rfl (λ hc=> ?_) (λ hc=> ?_)))))))))))
       .replace h:=zcg h hc
        refine pn rfl (pn rfl (pn rfl (P_n zdl rfl rfl rfl (pn rfl (pq rfl (zat rfl (av:= .xb true) rfl (pq rfl (zah (av:= .xb true) rfl (pn rfl (pn rfl (pn rfl (pn rfl (P_n zdl rfl rfl rfl (pn rfl (pn rfl (pq rfl (zat rfl (av:= .xb true) rfl (pq rfl (zah (av:= .xb true) rfl (pn rfl (pn rfl (pn rfl (pu rfl (pu rfl (pu rfl (pu rfl (pu rfl (pu rfl ?_))))))))))))))))))))))))))))
        refine P_u zdl rfl rfl rfl (pu rfl (pu rfl (pn rfl (pq rfl (zat rfl (av:= .xb true) rfl (zcn (zaa ⟨_,h,so (l4 rfl rfl rfl rfl (lq rfl (lq rfl (lq rfl lt0))))⟩)))))))
       .replace h:=zcf h hc
        refine py rfl (zba (o:=2) (by kernel_rfl) rfl (py rfl (zah (av:= .row 3 zaw a1) rfl (py rfl (zao (by kernel_rfl) rfl (Py_r rfl rfl rfl (zaz (a:= .xi ((gi a0.2.2 b).2.2)) (by kernel_rfl) rfl rfl (py rfl (zgm rfl rfl (pq rfl (zar rfl (av:= .xb (decide ((List.length a1:Int)≤((gi a0.2.2 b).2.2)))) rfl (pq rfl (zah (av:= .xb (decide ((List.length a1:Int)≤((gi a0.2.2 b).2.2)))) rfl (zfd (p:=(List.length a1:Int)≤((gi a0.2.2 b).2.2)) 33 rfl (λ hc=> ?_) (λ hc=> ?_)))))))))))))))
        .replace h:=zcg h hc
         refine pn rfl (pn rfl (pn rfl (pn rfl (P_n zdl rfl rfl rfl (pn rfl (pn rfl (pq rfl (zat rfl (av:= .xb true) rfl (pq rfl (zah (av:= .xb true) rfl (pn rfl (pn rfl (pn rfl (pu rfl (pu rfl (pu rfl (pu rfl (pu rfl (pu rfl (P_u zdl rfl rfl rfl (pu rfl (pu rfl (pn rfl (pq rfl (zat rfl (av:= .xb true) rfl (zcn (zaa ⟨_,h,so (l4 rfl rfl rfl rfl (lq rfl (lq rfl (lq rfl lt0))))⟩)))))))))))))))))))))))))))
        .replace h:=zcf h hc
         refine py rfl (zba (o:=0) (by kernel_rfl) rfl (py rfl (zaj (o:=1) (c':=(List.drop 1 (zaw a0))) (by kernel_rfl) rfl rfl (py rfl (zak (a:= .row 1 zdk a0.2.1) (by kernel_rfl) rfl rfl (py rfl (zao (by kernel_rfl) rfl (Py_r rfl rfl rfl (zaz (a:= .row 1 zav ((gi a0.2.2 b).1)) (by kernel_rfl) rfl rfl (py rfl (zao (by kernel_rfl) rfl (py rfl (zfr rfl rfl (pq rfl (zar rfl (av:= .xb (decide (¬(List.length ((gi a0.2.2 b).1):Int)=(List.length a0.2.1:Int)))) rfl (pq rfl (zah (av:= .xb (decide (¬(List.length ((gi a0.2.2 b).1):Int)=(List.length a0.2.1:Int)))) rfl (zfd (p:= ¬(List.length ((gi a0.2.2 b).1):Int)=(List.length a0.2.1:Int)) 42 rfl (λ hc=> ?_) (λ hc=> ?_)))))))))))))))))))
         .replace h:=zcg h hc
          refine pn rfl (pn rfl (pn rfl (pu rfl (pu rfl (pu rfl (pu rfl (pu rfl (pu rfl (P_u zdl rfl rfl rfl (pu rfl (pu rfl (pn rfl (pq rfl (zat rfl (av:= .xb true) rfl (zcn (zaa ⟨_,h,so (l4 rfl rfl rfl rfl (lq rfl (lq rfl (lq rfl lt0))))⟩))))))))))))))))
         .replace h:=zcf h hc
          refine py rfl (zah (av:= .xi b) rfl (py rfl (zfx rfl rfl (py rfl (zah (av:= .xb (decide (0<b))) rfl (zfd (p:=0<b) 45 rfl (λ hc=> ?_) (λ hc=> ?_)))))))
          .replace h:=zcg h hc
           refine py rfl (zaj (o:=2) (c':=(List.drop 2 (zaw a0))) (by kernel_rfl) rfl rfl (py rfl (zak (a:= .row 3 zay a0.2.2) (by kernel_rfl) rfl rfl (py rfl (zah (av:= .xi b) rfl (py rfl (op_sub rfl rfl rfl ?_)))))))
           obtain⟨n1443,h⟩:=zad h
           refine py rfl (zai (by kernel_rfl) rfl rfl n1443.1 n1443.2 (py rfl (zbx (m:=3) (c':=zay (gi a0.2.2 (i64 (b - 1)))) (by kernel_rfl) rfl rfl rfl (Py_r rfl rfl rfl (zei (m:=3) (c':=zay ((gi a0.2.2 b).1,(gi a0.2.2 b).2.1,(gi a0.2.2 b).2.2)) (by kernel_rfl) rfl rfl rfl ?_)))))
           obtain⟨y1444,i,h⟩:=zae h
           refine py rfl (zal (m_combinator_compareRules_ok _ _ _ i) func225 (by kernel_rfl) (lc lf (lc lf ln)) (py rfl (zgm rfl rfl (py rfl (zat rfl (av:= .xb (decide (0≤y1444))) rfl (pq rfl (zar rfl (av:= .xb (decide (0≤y1444))) rfl (zcn (zaa ⟨_,h,so (l4 rfl rfl rfl rfl (lq rfl (lq rfl (lq rfl lt0))))⟩)))))))))
          .replace h:=zcf h hc
           refine pn rfl (pn rfl (pn rfl (pn rfl (pn rfl (pn rfl (P_n zdl rfl rfl rfl (pn rfl (pn rfl (py rfl (zar rfl (av:= .xb false) rfl (pq rfl (zar rfl (av:= .xb false) rfl (zcn (zaa ⟨_,h,so (l4 rfl rfl rfl rfl (lq rfl (lq rfl (lq rfl lt0))))⟩))))))))))))))
     .refine kb (p:=e) rfl h (λ hc h=> ?_) (λ hc h=> ?_)
      .refine zan ?_
       cases h
      .refine zap (zaf (sr (gq (zba (o:=0) (by kernel_rfl) rfl (G_r rfl (zaz (a:= .row 1 zav ((gi a0.2.2 b).1)) (by kernel_rfl) rfl rfl (gq (zao (by kernel_rfl) rfl (qm (.xi 0) rfl (gc (zaq (zcr (zht a0 a1 b k1298) (zhs a0 a1 b k1298) (λ _=>rfl) (λ m _=>rfl) h (λ(d:Int)=>(pt (pt (pt (pt (pt (pt (pt (pt (pt AF0 1 (.row 3 zaw a1)) 2 (.ptr (zaw a0))) 6 (pA b1429 0)) 10 (.row 3 zay a0.2.2)) 11 (.xi (List.length a0.2.2:Int))) 12 (.xi b)) 58 (.row 1 zav ((gi a0.2.2 b).1))) 59 (.xi (List.length ((gi a0.2.2 b).1):Int))) 60 (.xi d))) (λ(d:Int)=>[boxI 86 b1429 [.row 1 zav ((gi a0.2.2 b).1), .xi ((gi a0.2.2 b).2.1), .xi ((gi a0.2.2 b).2.2)]]) ?_ (λ l d h=> ?_)))))))))))))
       .exact so (l4 rfl rfl rfl rfl (l4 rfl rfl rfl rfl (lq rfl lt0)))
       .unfold zhs at h
        refine sr (gq (zbm rfl rfl (gc (zan (kd (p:=d<(List.length ((gi a0.2.2 b).1):Int)) rfl h (λ hc h=> ?_) (λ hc h=> ?_))))))
        .refine zap (zaf (zan (zaq (sr (qm (.xi d) rfl ?_)))))
         obtain⟨n1538,h⟩:=zad h
         refine gq (zai (by kernel_rfl) rfl rfl n1538.1 n1538.2 (gq (zak (a:= .xi (gi ((gi a0.2.2 b).1) d)) (by kernel_rfl) rfl rfl (qa (.xi d) rfl (qa (.xi (gi ((gi a0.2.2 b).1) d)) rfl (gc (zax h (λ(f:Bool)=>(pt (pt (pt (pt (pt (pt (pt (pt (pt (pt AF0 1 (.row 3 zaw a1)) 2 (.ptr (zaw a0))) 6 (pA b1429 0)) 10 (.row 3 zay a0.2.2)) 11 (.xi (List.length a0.2.2:Int))) 12 (.xi b)) 58 (.row 1 zav ((gi a0.2.2 b).1))) 59 (.xi (List.length ((gi a0.2.2 b).1):Int))) 60 (.xi d)) 98 (.xb f))) (λ(f:Bool)=>[boxI 86 b1429 [.row 1 zav ((gi a0.2.2 b).1), .xi ((gi a0.2.2 b).2.1), .xi ((gi a0.2.2 b).2.2)]]) (λ k1539 h=> ?_) (λ f h=> ?_))))))))
         .refine kr (qm (.xi (gi ((gi a0.2.2 b).1) d)) rfl (gq (zfr rfl rfl (qm (.xb (decide (¬(gi ((gi a0.2.2 b).1) d)=(-1)))) rfl (zcc (p:= ¬(gi ((gi a0.2.2 b).1) d)=(-1)) 67 rfl (λ hc=> ?_) (λ hc=> ?_))))))
          .replace h:=zcg h hc
           refine gy (zah (av:= .xi (gi ((gi a0.2.2 b).1) d)) rfl ?_)
           obtain⟨y1548,j,h⟩:=zae h
           refine gy (zal (m_combinator_event_ok _ _ j) func224 (by kernel_rfl) (lc lf ln) (gy (zdh rfl (gy (zah (av:= .xb (!y1548)) rfl (zfl (c:= !y1548) 71 rfl (λ hc=> ?_) (λ hc=> ?_)))))))
           .replace h:=zcg h hc
            refine gn (gn (gn (gn (gn (gn (gy (zat rfl (av:= .xb true) rfl (gq (zat rfl (av:= .xb true) rfl (qm (.xb true) rfl (gn (gn (gn (gn (gn (gn (gn (gn (gn (gn (G_u rfl rfl (G_u rfl rfl (G_u rfl rfl (G_u rfl rfl (G_u rfl rfl (G_u rfl rfl (gn (gq (zat rfl (av:= .xb true) rfl (zbc (zaa ⟨_,h,so (l4 rfl rfl rfl rfl (l4 rfl rfl rfl rfl (lq rfl (lq rfl lt0))))⟩)))))))))))))))))))))))))))))))
           .replace h:=zcf h hc
            refine gy (zaj (o:=1) (c':=(List.drop 1 (zaw a0))) (by kernel_rfl) rfl rfl (gy (zak (a:= .row 1 zdk a0.2.1) (by kernel_rfl) rfl rfl (gy (zah (av:= .xi d) rfl ?_)))))
            obtain⟨n1549,h⟩:=zad h
            refine gy (zai (by kernel_rfl) rfl rfl n1549.1 n1549.2 (gy (zak (a:= .xb (gi a0.2.1 d)) (by kernel_rfl) rfl rfl (gy (zdh rfl (gy (zar rfl (av:= .xb (!(gi a0.2.1 d))) rfl (gq (zat rfl (av:= .xb (!(gi a0.2.1 d))) rfl (qm (.xb (!(gi a0.2.1 d))) rfl (zfl (c:= !(gi a0.2.1 d)) 80 rfl (λ hc=> ?_) (λ hc=> ?_))))))))))))
            .replace h:=zcg h hc
             refine gn (gn (gn (gn (gn (gn (gn (gn (gn (gn (G_u rfl rfl (G_u rfl rfl (G_u rfl rfl (G_u rfl rfl (G_u rfl rfl (G_u rfl rfl (gn (gq (zat rfl (av:= .xb true) rfl (zbc (zaa ⟨_,h,so (l4 rfl rfl rfl rfl (l4 rfl rfl rfl rfl (lq rfl (lq rfl lt0))))⟩))))))))))))))))))))
            .replace h:=zcf h hc
             refine gy (zah (av:= .row 3 zaw a1) rfl (gy (zba (o:=2) (by kernel_rfl) rfl (Gy_r rfl rfl rfl (zaz (a:= .xi ((gi a0.2.2 b).2.2)) (by kernel_rfl) rfl rfl ?_)))))
             obtain⟨n1550,h⟩:=zad h
             refine gy (zai (by kernel_rfl) rfl rfl n1550.1 n1550.2 (gy (zaj (o:=1) (c':=(List.drop 1 (zaw (gi a1 ((gi a0.2.2 b).2.2))))) (by kernel_rfl) rfl rfl (gy (zak (a:= .row 1 zdk ((gi a1 ((gi a0.2.2 b).2.2)).2.1)) (by kernel_rfl) rfl rfl (gy (zah (av:= .xi d) rfl ?_)))))))
             obtain⟨n1551,h⟩:=zad h
             refine gy (zai (by kernel_rfl) rfl rfl n1551.1 n1551.2 (gy (zak (a:= .xb (gi ((gi a1 ((gi a0.2.2 b).2.2)).2.1) d)) (by kernel_rfl) rfl rfl (gy (zah (av:= .xb (gi ((gi a1 ((gi a0.2.2 b).2.2)).2.1) d)) rfl (zfl (c:=gi ((gi a1 ((gi a0.2.2 b).2.2)).2.1) d) 90 rfl (λ hc=> ?_) (λ hc=> ?_)))))))
             .replace h:=zcg h hc
              refine gy (zaj (o:=1) (c':=(List.drop 1 (zaw a0))) (by kernel_rfl) rfl rfl (gy (zak (a:= .row 1 zdk a0.2.1) (by kernel_rfl) rfl rfl (gy (zah (av:= .xi d) rfl ?_)))))
              obtain⟨n1552,h⟩:=zad h
              refine gy (zai (by kernel_rfl) rfl rfl n1552.1 n1552.2 (gy (zak (a:= .xb (gi a0.2.1 d)) (by kernel_rfl) rfl rfl (gy (zdh rfl (gy (zat rfl (av:= .xb (!(gi a0.2.1 d))) rfl (gq (zar rfl (av:= .xb (!(gi a0.2.1 d))) rfl (zbc (zaa ⟨_,h,so (l4 rfl rfl rfl rfl (l4 rfl rfl rfl rfl (lq rfl (lq rfl lt0))))⟩)))))))))))
             .replace h:=zcf h hc
              refine gn (gn (gn (gn (gn (gn (gy (zar rfl (av:= .xb false) rfl (gq (zar rfl (av:= .xb false) rfl (zbc (zaa ⟨_,h,so (l4 rfl rfl rfl rfl (l4 rfl rfl rfl rfl (lq rfl (lq rfl lt0))))⟩)))))))))))
          .replace h:=zcf h hc
           refine gn (gn (gn (gn (G_u rfl rfl (G_u rfl rfl (G_u rfl rfl (G_u rfl rfl (G_u rfl rfl (G_u rfl rfl (gn (gq (zar rfl (av:= .xb false) rfl (qm (.xb false) rfl (gy (zah (av:= .row 3 zaw a1) rfl (gy (zba (o:=2) (by kernel_rfl) rfl (Gy_r rfl rfl rfl (zaz (a:= .xi ((gi a0.2.2 b).2.2)) (by kernel_rfl) rfl rfl ?_)))))))))))))))))))
           obtain⟨n1553,h⟩:=zad h
           refine gy (zai (by kernel_rfl) rfl rfl n1553.1 n1553.2 (gy (zaj (o:=1) (c':=(List.drop 1 (zaw (gi a1 ((gi a0.2.2 b).2.2))))) (by kernel_rfl) rfl rfl (gy (zak (a:= .row 1 zdk ((gi a1 ((gi a0.2.2 b).2.2)).2.1)) (by kernel_rfl) rfl rfl (gy (zah (av:= .xi d) rfl ?_)))))))
           obtain⟨n1554,h⟩:=zad h
           refine gy (zai (by kernel_rfl) rfl rfl n1554.1 n1554.2 (gy (zak (a:= .xb (gi ((gi a1 ((gi a0.2.2 b).2.2)).2.1) d)) (by kernel_rfl) rfl rfl (gy (zah (av:= .xb (gi ((gi a1 ((gi a0.2.2 b).2.2)).2.1) d)) rfl (zfl (c:=gi ((gi a1 ((gi a0.2.2 b).2.2)).2.1) d) 90 rfl (λ hc=> ?_) (λ hc=> ?_)))))))
           .replace h:=zcg h hc
            refine gy (zaj (o:=1) (c':=(List.drop 1 (zaw a0))) (by kernel_rfl) rfl rfl (gy (zak (a:= .row 1 zdk a0.2.1) (by kernel_rfl) rfl rfl (gy (zah (av:= .xi d) rfl ?_)))))
            obtain⟨n1555,h⟩:=zad h
            refine gy (zai (by kernel_rfl) rfl rfl n1555.1 n1555.2 (gy (zak (a:= .xb (gi a0.2.1 d)) (by kernel_rfl) rfl rfl (gy (zdh rfl (gy (zat rfl (av:= .xb (!(gi a0.2.1 d))) rfl (gq (zar rfl (av:= .xb (!(gi a0.2.1 d))) rfl (zbc (zaa ⟨_,h,so (l4 rfl rfl rfl rfl (l4 rfl rfl rfl rfl (lq rfl (lq rfl lt0))))⟩)))))))))))
           .replace h:=zcf h hc
            refine gn (gn (gn (gn (gn (gn (gy (zar rfl (av:= .xb false) rfl (gq (zar rfl (av:= .xb false) rfl (zbc (zaa ⟨_,h,so (l4 rfl rfl rfl rfl (l4 rfl rfl rfl rfl (lq rfl (lq rfl lt0))))⟩)))))))))))
         .refine kb (p:=f) rfl h (λ hc h=> ?_) (λ hc h=> ?_)
          .refine zan ?_
           cases h
          .refine zap (zau (zaf (kr (gq (zbo rfl rfl rfl (qm (.xi (i64 (d+1))) rfl (zbc (zaa ⟨_,h,so (l4 rfl rfl rfl rfl (l4 rfl rfl rfl rfl (lq rfl lt0)))⟩))))))))
        .refine zbr (zbi (zbk (zbj (zau (zaa ⟨h, ?_⟩)))))
         refine Sub.trans (SubU.to SubU.drop) (so (l4 rfl rfl rfl rfl (lq rfl lt0)))
    .refine kr (gq (zbo rfl rfl rfl (qm (.xi (i64 (b+1))) rfl (zbc (zaa ⟨_,h,so (l4 rfl rfl rfl rfl (lq rfl lt0))⟩)))))
   .refine zbr (zbi (zbk (zbj (zaa ⟨h,Sub.of_le lt0⟩))))
 .refine sr (qa (.xb true) rfl (gc (zbn ?_)))
  obtain rfl:=oi h
  refine ke (pt AF0 4 (.xb true)) [] rfl (s1 rfl) ⟨rfl,rfl⟩
theorem m_combinator_ruled_1_ok (a0:(List UInt8)×(List Bool)×(List ((List Int)×Int×Int))) (a1:(List ((List (List (Int×Int)))×(List (List UInt8))))×(List ((List UInt8)×(List Bool)×(List ((List Int)×Int×Int))))) (r:Bool) (h:zhm a0 a1=some r):Pure Tryz.prog 178 [(.agg (zaw a0)),(.ptr (zbb a1))] (.exact (.bool r)):=by
 unfold zhm at h
 refine Pure.ofFun (zam func178 rfl ntmps178 (by simp) rfl (res1 rfl) λ E hE=>zca (sr (gq (zfe (c:=zaw a0) rfl CellsOf.agg (qa (.xb false) rfl (gd (gq (zbx (m:=3) (c':=zaw a0) (by kernel_rfl) rfl rfl rfl (gq (zaj (o:=1) (c':=(List.drop 1 (zbb a1))) (by kernel_rfl) rfl rfl (gq (zak (a:= .row 3 zaw a1.2) (by kernel_rfl) rfl rfl ?_))))))))))))
 obtain⟨y1,b,h⟩:=zae h
 refine gq (zal (m_combinator_ordered_ok _ _ _ b) func179 (by kernel_rfl) (lc lf (lc lf ln)) (gq (zdh rfl (qa (.xb (!y1)) rfl (gc (zbn ?_))))))
 obtain rfl:=oi h
 refine ke (pt AF0 3 (.xb (!y1))) [] rfl (s1 rfl) ⟨rfl,rfl⟩
theorem zhw (a0:List ((List UInt8)×(List Bool)×(List ((List Int)×Int×Int)))) (a1:((List UInt8)×(List Bool)×(List ((List Int)×Int×Int)))->Option Bool) (r:Int) (h:zee a0 a1=some r):Pure Tryz.prog 181 [(.row 3 zaw a0),(.fn Tryz.prog (λ(i:((List UInt8)×(List Bool)×(List ((List Int)×Int×Int))))=>[.agg (zaw i)]) (λ(i:((List UInt8)×(List Bool)×(List ((List Int)×Int×Int))))=>a1 i) (λ(r:Bool)=> .exact (.bool r)))] (.exact (.int .i64 r)):=by
 unfold zee at h
 refine Pure.ofFun (zam func181 rfl ntmps181 (by simp) rfl (res1 rfl) λ E hE=>zca (sr (qa (.xi 0) rfl (gc (zbw h (AF0) ([]) (λ k1 h=> ?_) (λ  h=> ?_))))))
 .refine sr (qm (.row 3 zaw a0) rfl (gq (zao (by kernel_rfl) rfl (qm (.xi 0) rfl (gc (zaq (zcr (zdp a0 a1 k1) (zdt a0 a1 k1) (λ _=>rfl) (λ m _=>rfl) h (λ(a:Int)=>(pt (pt (pt (pt AF0 0 (.row 3 zaw a0)) 1 (.fn Tryz.prog (λ(i:((List UInt8)×(List Bool)×(List ((List Int)×Int×Int))))=>[.agg (zaw i)]) (λ(i:((List UInt8)×(List Bool)×(List ((List Int)×Int×Int))))=>a1 i) (λ(r:Bool)=> .xb r))) 7 (.xi (List.length a0:Int))) 8 (.xi a))) (λ(a:Int)=>[]) ?_ (λ c a h=> ?_))))))))
  .exact s4 rfl rfl rfl rfl
  .unfold zdt at h
   refine sr (gq (zbm rfl rfl (gc (zan (kd (p:=a<(List.length a0:Int)) rfl h (λ hc h=> ?_) (λ hc h=> ?_))))))
   .refine zap (zaf (zan (zaq (sr (qm (.xi a) rfl (qa (.xi a) rfl (gd (qm (.fn Tryz.prog (λ(i:((List UInt8)×(List Bool)×(List ((List Int)×Int×Int))))=>[.agg (zaw i)]) (λ(i:((List UInt8)×(List Bool)×(List ((List Int)×Int×Int))))=>a1 i) (λ(r:Bool)=> .xb r)) rfl (qm (.row 3 zaw a0) rfl (qm (.xi a) rfl ?_))))))))))
    obtain⟨n13,h⟩:=zad h
    refine gq (zai (by kernel_rfl) rfl rfl n13.1 n13.2 (gq (zbx (m:=3) (c':=zaw (gi a0 a)) (by kernel_rfl) rfl rfl rfl ?_)))
    obtain⟨y14,b,h⟩:=zae h
    refine gq (op_callfn (gi a0 a) rfl b (lc lf ln) (gc (kb (p:=y14) rfl h (λ hc h=> ?_) (λ hc h=> ?_))))
    .refine sr (qm (.xi a) rfl (qa (.xi a) rfl (gc (zbn (zde (zdb (zek (zde (zek ?_)))))))))
     obtain rfl:=oi h
     refine ke (pt AF0 4 (.xi a)) [] rfl (s1 rfl) ⟨rfl,rfl⟩
    .refine zap (zau (zaf (kr (gq (zbo rfl rfl rfl (qm (.xi (i64 (a+1))) rfl (zbc (zaa ⟨_,h,s4 rfl rfl rfl rfl⟩))))))))
   .refine zbr (zbi (zbk (zbj (zaa ⟨h,Sub.of_le lt0⟩))))
 .refine sr (qa (.xi (-1)) rfl (gc (zbn ?_)))
  obtain rfl:=oi h
  refine ke (pt AF0 4 (.xi (-1))) [] rfl (s1 rfl) ⟨rfl,rfl⟩
theorem zha (a0:List ((List UInt8)×(List Bool)×(List ((List Int)×Int×Int)))) (a1:((List UInt8)×(List Bool)×(List ((List Int)×Int×Int)))->Option Bool) (r:Bool) (h:zdr a0 a1=some r):Pure Tryz.prog 132 [(.row 3 zaw a0),(.fn Tryz.prog (λ(i:((List UInt8)×(List Bool)×(List ((List Int)×Int×Int))))=>[.agg (zaw i)]) (λ(i:((List UInt8)×(List Bool)×(List ((List Int)×Int×Int))))=>a1 i) (λ(r:Bool)=> .exact (.bool r)))] (.exact (.bool r)):=by
 unfold zdr at h
 refine Pure.ofFun (zam func132 rfl ntmps132 (by simp) rfl (res1 rfl) λ E hE=>zca (sr (qa (.xb false) rfl (gd (qm (.row 3 zaw a0) rfl (qm (.fn Tryz.prog (λ(i:((List UInt8)×(List Bool)×(List ((List Int)×Int×Int))))=>[.agg (zaw i)]) (λ(i:((List UInt8)×(List Bool)×(List ((List Int)×Int×Int))))=>a1 i) (λ(r:Bool)=> .xb r)) rfl ?_))))))
 obtain⟨y1,a,h⟩:=zae h
 refine gq (zal (zhw _ _ _ a) func181 (by kernel_rfl) (lc lf (lc lf ln)) (gq (zgm rfl rfl (qa (.xb (decide (0≤y1))) rfl (gc (zbn ?_))))))
 obtain rfl:=oi h
 refine ke (pt AF0 4 (.xb (decide (0≤y1)))) [] rfl (s1 rfl) ⟨rfl,rfl⟩
theorem m_combinator_ruled_ok (a0:(List ((List (List (Int×Int)))×(List (List UInt8))))×(List ((List UInt8)×(List Bool)×(List ((List Int)×Int×Int))))) (r:Bool) (h:m_combinator_ruled a0=some r):Pure Tryz.prog 129 [(.agg (zbb a0))] (.exact (.bool r)):=by
 unfold m_combinator_ruled at h
 refine Pure.ofFun (zam func129 rfl ntmps129 (by simp) rfl (res1 rfl) λ E hE=>zca (sr (G_l rfl (op_boxI (c:=[.row 2 zbd a0.1, .row 3 zaw a0.2]) rfl CellsOf.agg (lc lf (lc lf ln)) (λ b1=>qa (.xb false) rfl (gc (zan (zck [] [(0,0),(0,3),(1,1),(0,2),(0,6),(1,4),(0,5),(0,7)] hmixP (by kernel_rfl) (pq rfl (zba (o:=0) (by kernel_rfl) rfl (pq rfl (zba (o:=1) (by kernel_rfl) rfl (P_r rfl (zaz (a:= .row 2 zbd a0.1) (by kernel_rfl) rfl rfl (pq rfl (zao (by kernel_rfl) rfl (pq rfl (zcj (av:= .xi (List.length a0.1:Int)) rfl (P_r rfl (zaz (a:= .row 3 zaw a0.2) (by kernel_rfl) rfl rfl (pq rfl (zao (by kernel_rfl) rfl (pq rfl (zcj (av:= .xi (List.length a0.2:Int)) rfl (zcn (zaf (zan (zax h (λ(j:Bool)=>(pt (pt (pt AF0 1 (pA b1 0)) 3 (.xi (List.length a0.1:Int))) 29 (.xb j))) (λ(j:Bool)=>[boxI 29 b1 [.row 2 zbd a0.1, .row 3 zaw a0.2]]) (λ k4 h=> ?_) (λ j h=> ?_)))))))))))))))))))))))))))))
 .refine kr (qm (.xi (List.length a0.1:Int)) rfl (gq (zbm rfl rfl (qm (.xb (decide ((List.length a0.1:Int)<1))) rfl (zcc (p:=(List.length a0.1:Int)<1) 18 rfl (λ hc=> ?_) (λ hc=> ?_))))))
  .replace h:=zcg h hc
   refine gn (gn (gq (zat rfl (av:= .xb true) rfl (qm (.xb true) rfl (gn (gn (gq (zat rfl (av:= .xb true) rfl (qm (.xb true) rfl (gn (gn (gq (zat rfl (av:= .xb true) rfl (zbc (zaa ⟨_,h,s3 rfl rfl rfl⟩)))))))))))))))
  .replace h:=zcf h hc
   refine gy (zah (av:= .xi (List.length a0.1:Int)) rfl (gy (zfx rfl rfl (gq (zar rfl (av:= .xb (decide (12<(List.length a0.1:Int)))) rfl (qm (.xb (decide (12<(List.length a0.1:Int)))) rfl (zcc (p:=12<(List.length a0.1:Int)) 22 rfl (λ hc=> ?_) (λ hc=> ?_))))))))
   .replace h:=zcg h hc
    refine gn (gn (gq (zat rfl (av:= .xb true) rfl (qm (.xb true) rfl (gn (gn (gq (zat rfl (av:= .xb true) rfl (zbc (zaa ⟨_,h,s3 rfl rfl rfl⟩))))))))))
   .replace h:=zcf h hc
    refine gy (zah (av:= .xi (List.length a0.2:Int)) rfl (gy (zbm rfl rfl (gq (zar rfl (av:= .xb (decide ((List.length a0.2:Int)<1))) rfl (qm (.xb (decide ((List.length a0.2:Int)<1))) rfl (zcc (p:=(List.length a0.2:Int)<1) 26 rfl (λ hc=> ?_) (λ hc=> ?_))))))))
    .replace h:=zcg h hc
     refine gn (gn (gq (zat rfl (av:= .xb true) rfl (zbc (zaa ⟨_,h,s3 rfl rfl rfl⟩)))))
    .replace h:=zcf h hc
     refine gy (zah (av:= .xi (List.length a0.2:Int)) rfl (gy (zfx rfl rfl (gq (zar rfl (av:= .xb (decide (64<(List.length a0.2:Int)))) rfl (zbc (zaa ⟨_,h,s3 rfl rfl rfl⟩)))))))
 .refine kb (p:=j) rfl h (λ hc h=> ?_) (λ hc h=> ?_)
  .refine zan ?_
   cases h
  .refine zap (zaf (zbw h ((pt (pt AF0 1 (pA b1 0)) 3 (.xi (List.length a0.1:Int)))) ([boxI 29 b1 [.row 2 zbd a0.1, .row 3 zaw a0.2]]) (λ k5 h=> ?_) (λ  h=> ?_)))
   .refine sr (gq (zba (o:=0) (by kernel_rfl) rfl (G_r rfl (zaz (a:= .row 2 zbd a0.1) (by kernel_rfl) rfl rfl (gq (zao (by kernel_rfl) rfl (qm (.xi 0) rfl (gc (zaq (zcr (m_combinator_ruled_L2 a0 k5) (m_combinator_ruled_B2 a0 k5) (λ _=>rfl) (λ m _=>rfl) h (λ(d:Int)=>(pt (pt (pt (pt (pt AF0 1 (pA b1 0)) 3 (.xi (List.length a0.1:Int))) 31 (.row 2 zbd a0.1)) 32 (.xi (List.length a0.1:Int))) 33 (.xi d))) (λ(d:Int)=>[boxI 29 b1 [.row 2 zbd a0.1, .row 3 zaw a0.2]]) ?_ (λ u d h=> ?_)))))))))))
    .exact so (l4 rfl rfl rfl rfl (lq rfl lt0))
    .unfold m_combinator_ruled_B2 at h
     refine sr (gq (zbm rfl rfl (gc (zan (kd (p:=d<(List.length a0.1:Int)) rfl h (λ hc h=> ?_) (λ hc h=> ?_))))))
     .refine zap (zaf (zan (zaq (sr ?_))))
      obtain⟨n22,h⟩:=zad h
      refine gq (zai (by kernel_rfl) rfl rfl n22.1 n22.2 (gq (zbx (m:=2) (c':=zbd (gi a0.1 d)) (by kernel_rfl) rfl rfl rfl (G_l rfl (zel (c:=[.row 1 zby ((([],[]):(List (List (Int×Int)))×(List (List UInt8))).1), .row 1 zab ((([],[]):(List (List (Int×Int)))×(List (List UInt8))).2)]) rfl (lc (zcy (by decide)) (lc (zcy (by decide)) ln)) (λ b23=>G_l rfl (zbz (c':=[.row 1 zby ((gi a0.1 d).1), .row 1 zab ((gi a0.1 d).2)]) (c3:=[.row 1 zby ((gi a0.1 d).1), .row 1 zab ((gi a0.1 d).2)]) rfl rfl CellsOf.agg (lc lf (lc lf ln)) (oc_c_api_Component _) (by kernel_rfl) (Nat.le_of_ble_eq_true rfl) rfl (gd (gq (zba (o:=0) (by kernel_rfl) rfl (G_r rfl (zei (m:=1) (c':=zef ((gi a0.1 d).1)) (by kernel_rfl) rfl rfl rfl ?_))))))))))))
      obtain⟨y24,n,h⟩:=zae h
      refine gq (zal (m_explore_Canonical_ok _ _ n) func176 (by kernel_rfl) (lc lf ln) (gq (zdh rfl (gc (kb (p:= !y24) rfl h (λ hc h=> ?_) (λ hc h=> ?_))))))
      .refine zan ?_
       cases h
      .refine zap (zau (zaf (kr (gq (zbo rfl rfl rfl (qm (.xi (i64 (d+1))) rfl (zbc (zaa ⟨_,h, ?_⟩))))))))
       refine Sub.trans (SubU.to SubU.drop) (so (l4 rfl rfl rfl rfl (lq rfl lt0)))
     .refine zbr (zbi (zbk (zbj (zaa ⟨h,s2 rfl rfl⟩))))
   .refine sr (qa (.xi 0) rfl (gc (zax h (λ(e:Int)=>(pt (pt AF0 1 (pA b1 0)) 7 (.xi e))) (λ(e:Int)=>[boxI 29 b1 [.row 2 zbd a0.1, .row 3 zaw a0.2]]) (λ k25 h=> ?_) (λ e h=> ?_))))
    .refine sr (gq (zba (o:=1) (by kernel_rfl) rfl (G_r rfl (zaz (a:= .row 3 zaw a0.2) (by kernel_rfl) rfl rfl (gq (zao (by kernel_rfl) rfl (qm (.xi 0) rfl (gc (zaq (zey (m_combinator_ruled_L4 a0 k25) (m_combinator_ruled_B4 a0 k25) (λ _ _=>rfl) (λ m _ _=>rfl) h (λ(g:Int) (b:Int)=>(pt (pt (pt (pt (pt (pt AF0 1 (pA b1 0)) 3 (.xi (List.length a0.1:Int))) 7 (.xi g)) 43 (.row 3 zaw a0.2)) 44 (.xi (List.length a0.2:Int))) 45 (.xi b))) (λ(g:Int) (b:Int)=>[boxI 29 b1 [.row 2 zbd a0.1, .row 3 zaw a0.2]]) ?_ (λ v g b h=> ?_)))))))))))
     .exact so (l4 rfl rfl rfl rfl (lq rfl (lq rfl lt0)))
     .unfold m_combinator_ruled_B4 at h
      refine sr (gq (zbm rfl rfl (gc (zan (kd (p:=b<(List.length a0.2:Int)) rfl h (λ hc h=> ?_) (λ hc h=> ?_))))))
      .refine zap (zaf (zan (zaq (sr (qm (.xi b) rfl ?_)))))
       obtain⟨n88,h⟩:=zad h
       refine gq (zai (by kernel_rfl) rfl rfl n88.1 n88.2 (gq (zbx (m:=3) (c':=zaw (gi a0.2 b)) (by kernel_rfl) rfl rfl rfl (G_l rfl (zel (c:=[.xs ((([],[],[]):(List UInt8)×(List Bool)×(List ((List Int)×Int×Int))).1), .row 1 zdk ((([],[],[]):(List UInt8)×(List Bool)×(List ((List Int)×Int×Int))).2.1), .row 3 zay ((([],[],[]):(List UInt8)×(List Bool)×(List ((List Int)×Int×Int))).2.2)]) rfl (lc lf (lc (zcy (by decide)) (lc (zcy (by decide)) ln))) (λ b89=>qa (.xi b) rfl (G_l rfl (zbz (c':=[.xs ((gi a0.2 b).1), .row 1 zdk ((gi a0.2 b).2.1), .row 3 zay ((gi a0.2 b).2.2)]) (c3:=[.xs ((gi a0.2 b).1), .row 1 zdk ((gi a0.2 b).2.1), .row 3 zay ((gi a0.2 b).2.2)]) rfl rfl CellsOf.agg (lc lf (lc lf (lc lf ln))) (oc_c_api_Format _) (by kernel_rfl) (Nat.le_of_ble_eq_true rfl) rfl (gd (qm (.xi g) rfl (gq (zba (o:=2) (by kernel_rfl) rfl (G_r rfl (zaz (a:= .row 3 zay ((gi a0.2 b).2.2)) (by kernel_rfl) rfl rfl (gq (zao (by kernel_rfl) rfl (gq (zbo rfl rfl rfl (qa (.xi (i64 (g+(List.length ((gi a0.2 b).2.2):Int)))) rfl (gc (zax h (λ(k:Bool)=>(pt (pt (pt (pt (pt (pt (pt AF0 1 (pA b1 0)) 3 (.xi (List.length a0.1:Int))) 7 (.xi (i64 (g+(List.length ((gi a0.2 b).2.2):Int))))) 43 (.row 3 zaw a0.2)) 44 (.xi (List.length a0.2:Int))) 45 (.xi b)) 68 (.xb k))) (λ(k:Bool)=>[boxI 29 b1 [.row 2 zbd a0.1, .row 3 zaw a0.2]]) (λ k90 h=> ?_) (λ k h=> ?_))))))))))))))))))))))
       .refine kr (gq (zba (o:=1) (by kernel_rfl) rfl (G_r rfl (zaz (a:= .row 1 zdk ((gi a0.2 b).2.1)) (by kernel_rfl) rfl rfl (gq (zao (by kernel_rfl) rfl (qm (.xi (List.length a0.1:Int)) rfl (gq (zfr rfl rfl (qm (.xb (decide (¬(List.length ((gi a0.2 b).2.1):Int)=(List.length a0.1:Int)))) rfl (zcc (p:= ¬(List.length ((gi a0.2 b).2.1):Int)=(List.length a0.1:Int)) 60 rfl (λ hc=> ?_) (λ hc=> ?_))))))))))))
        .replace h:=zcg h hc
         refine gn (gn (gn (G_u rfl rfl (G_u rfl rfl (G_u rfl rfl (gn (gq (zat rfl (av:= .xb true) rfl (zbc (zaa ⟨_,h, ?_⟩))))))))))
         refine Sub.trans (SubU.to SubU.drop) (so (l4 rfl rfl rfl rfl (lq rfl (lq rfl (lq rfl lt0)))))
        .replace h:=zcf h hc
         refine gy (zah (av:= .xi b) rfl (gy (zbf rfl rfl (gy (zah (av:= .xb (decide (b=0))) rfl (zcc (p:=b=0) 63 rfl (λ hc=> ?_) (λ hc=> ?_)))))))
         .replace h:=zcg h hc
          refine gy (zba (o:=1) (by kernel_rfl) rfl (Gy_r rfl rfl rfl (zaz (a:= .row 1 zdk ((gi a0.2 b).2.1)) (by kernel_rfl) rfl rfl ?_)))
          obtain⟨y92,q,h⟩:=zae h
          refine gy (zal (m_slices_Contains_L_bool_bool_ok _ _ _ q) func177 (by kernel_rfl) (lc lf (lc lf ln)) (gy (zat rfl (av:= .xb y92) rfl (gq (zar rfl (av:= .xb y92) rfl (zbc (zaa ⟨_,h, ?_⟩)))))))
          refine Sub.trans (SubU.to SubU.drop) (so (l4 rfl rfl rfl rfl (lq rfl (lq rfl (lq rfl lt0)))))
         .replace h:=zcf h hc
          refine gn (gn (gn (gy (zar rfl (av:= .xb false) rfl (gq (zar rfl (av:= .xb false) rfl (zbc (zaa ⟨_,h, ?_⟩))))))))
          refine Sub.trans (SubU.to SubU.drop) (so (l4 rfl rfl rfl rfl (lq rfl (lq rfl (lq rfl lt0)))))
       .refine kb (p:=k) rfl h (λ hc h=> ?_) (λ hc h=> ?_)
        .refine zan ?_
         cases h
        .refine zap (zau (zaf (kr (gq (zbo rfl rfl rfl (qm (.xi (i64 (b+1))) rfl (zbc (zaa ⟨_,_,h,so (l4 rfl rfl rfl rfl (lq rfl (lq rfl lt0)))⟩))))))))
      .refine zbr (zbi (zbk (zbj (zaa ⟨_,h,s2 rfl rfl⟩))))
    .refine zax h (λ(l:Bool)=>(pt AF0 2 (.xb l))) (λ(l:Bool)=>[]) (λ k93 h=> ?_) (λ l h=> ?_)
     .refine kr (qm (.xi e) rfl (gq (op_leq rfl rfl (qm (.xb (decide (e≤16384))) rfl (zcc (p:=e≤16384) 72 rfl (λ hc=> ?_) (λ hc=> ?_))))))
      .replace h:=zcg h hc
       refine gy (zba (o:=1) (by kernel_rfl) rfl (Gy_r rfl rfl rfl (zaz (a:= .row 3 zaw a0.2) (by kernel_rfl) rfl rfl (G_sub rfl (SubU.freezeBox (s:=1) rfl) (gy (op_makeFunc (args:=(λ(i:((List UInt8)×(List Bool)×(List ((List Int)×Int×Int))))=>[.agg (zaw i)])) (f:=(λ(i:((List UInt8)×(List Bool)×(List ((List Int)×Int×Int))))=>(λ(x0:(List UInt8)×(List Bool)×(List ((List Int)×Int×Int)))=>zhm x0 (a0.1,a0.2)) i)) (res:=(λ(r:Bool)=> .xb r)) func178 (by kernel_rfl) [.ptr (zbb (a0.1,a0.2))] (lc lf ln) (λ i r h=>m_combinator_ruled_1_ok i (a0.1,a0.2) r h) ?_))))))
       obtain⟨y95,t,h⟩:=zae h
       refine gy (zal (zha _ _ _ t) func132 (by kernel_rfl) (lc lf (lc lf ln)) (gy (zdh rfl (gq (zat rfl (av:= .xb (!y95)) rfl (qa (.xb (!y95)) rfl (zbc (zaa ⟨_,h,s1 rfl⟩))))))))
      .replace h:=zcf h hc
       refine gn (gn (gn (gn (gn (gq (zar rfl (av:= .xb false) rfl (qa (.xb false) rfl (zbc (zaa ⟨_,h, ?_⟩)))))))))
       refine Sub.trans (SubU.to SubU.drop) (s1 rfl)
     .refine zbn ?_
      obtain rfl:=oi h
      refine ke (pt AF0 2 (.xb l)) [] rfl (s1 rfl) ⟨rfl,rfl⟩
theorem m_combinator_Valid_ok (a0:(List ((List (List (Int×Int)))×(List (List UInt8))))×(List ((List UInt8)×(List Bool)×(List ((List Int)×Int×Int))))) (r:Bool) (h:m_combinator_Valid a0=some r):Pure Tryz.prog 79 [(.agg (zbb a0))] (.exact (.bool r)):=by
 unfold m_combinator_Valid at h
 refine Pure.ofFun (zam func79 rfl ntmps79 (by simp) rfl (res1 rfl) λ E hE=>zca (sr (gq (zfe (c:=zbb a0) rfl CellsOf.agg (qa (.xb false) rfl (gc (zbw h ((pt AF0 1 (.ptr (zbb a0)))) ([]) (λ k1 h=> ?_) (λ  h=> ?_))))))))
 .refine sr (gq (zaj (o:=0) (c':=(List.drop 0 (zbb a0))) (by kernel_rfl) rfl rfl (gq (zak (a:= .row 2 zbd a0.1) (by kernel_rfl) rfl rfl (gq (zao (by kernel_rfl) rfl (qm (.xi 0) rfl (gc (zaq (zcr (m_combinator_Valid_L2 a0 k1) (m_combinator_Valid_B2 a0 k1) (λ _=>rfl) (λ m _=>rfl) h (λ(b:Int)=>(pt (pt (pt (pt AF0 1 (.ptr (zbb a0))) 9 (.row 2 zbd a0.1)) 10 (.xi (List.length a0.1:Int))) 11 (.xi b))) (λ(b:Int)=>[]) ?_ (λ v b h=> ?_)))))))))))
  .exact s4 rfl rfl rfl rfl
  .unfold m_combinator_Valid_B2 at h
   refine sr (gq (zbm rfl rfl (gc (zan (kd (p:=b<(List.length a0.1:Int)) rfl h (λ hc h=> ?_) (λ hc h=> ?_))))))
   .refine zap (zaf (zan (zaq (sr ?_))))
    obtain⟨n64,h⟩:=zad h
    refine gq (zai (by kernel_rfl) rfl rfl n64.1 n64.2 (gq (zbx (m:=2) (c':=zbd (gi a0.1 b)) (by kernel_rfl) rfl rfl rfl (G_l rfl (zel (c:=[.row 1 zby ((([],[]):(List (List (Int×Int)))×(List (List UInt8))).1), .row 1 zab ((([],[]):(List (List (Int×Int)))×(List (List UInt8))).2)]) rfl (lc (zcy (by decide)) (lc (zcy (by decide)) ln)) (λ b65=>G_l rfl (zbz (c':=[.row 1 zby ((gi a0.1 b).1), .row 1 zab ((gi a0.1 b).2)]) (c3:=[.row 1 zby ((gi a0.1 b).1), .row 1 zab ((gi a0.1 b).2)]) rfl rfl CellsOf.agg (lc lf (lc lf ln)) (oc_c_api_Component _) (by kernel_rfl) (Nat.le_of_ble_eq_true rfl) rfl (gc (zax h (λ(e:Bool)=>(pt (pt (pt (pt (pt AF0 1 (.ptr (zbb a0))) 9 (.row 2 zbd a0.1)) 10 (.xi (List.length a0.1:Int))) 11 (.xi b)) 27 (.xb e))) (λ(e:Bool)=>[]) (λ k66 h=> ?_) (λ e h=> ?_))))))))))
    .refine kr (gq (zba (o:=1) (by kernel_rfl) rfl (G_r rfl (zaz (a:= .row 1 zab ((gi a0.1 b).2)) (by kernel_rfl) rfl rfl (gq (zao (by kernel_rfl) rfl (gq (zba (o:=0) (by kernel_rfl) rfl (gq (zba (o:=0) (by kernel_rfl) rfl (G_r rfl (zaz (a:= .row 1 zby ((gi a0.1 b).1)) (by kernel_rfl) rfl rfl (gq (zao (by kernel_rfl) rfl (gq (zfr rfl rfl (qm (.xb (decide (¬(List.length ((gi a0.1 b).2):Int)=(List.length ((gi a0.1 b).1):Int)))) rfl (zcc (p:= ¬(List.length ((gi a0.1 b).2):Int)=(List.length ((gi a0.1 b).1):Int)) 23 rfl (λ hc=> ?_) (λ hc=> ?_)))))))))))))))))))
     .replace h:=zcg h hc
      refine gn (gn (gn (gq (zat rfl (av:= .xb true) rfl (zbc (zaa ⟨_,h, ?_⟩))))))
      refine Sub.trans (SubU.to SubU.drop) (so (l4 rfl rfl rfl rfl (lq rfl lt0)))
     .replace h:=zcf h hc
      refine gy (zba (o:=1) (by kernel_rfl) rfl (Gy_r rfl rfl rfl (zaz (a:= .row 1 zab ((gi a0.1 b).2)) (by kernel_rfl) rfl rfl ?_)))
      obtain⟨y68,j,h⟩:=zae h
      refine gy (zal (zhk _ _ _ j) func120 (by kernel_rfl) (lc lf (lc ((fn_le func121 (by kernel_rfl) (λ i r h=>m_combinator_Valid_1_ok i r h))) ln)) (gq (zar rfl (av:= .xb y68) rfl (zbc (zaa ⟨_,h, ?_⟩)))))
      refine Sub.trans (SubU.to SubU.drop) (so (l4 rfl rfl rfl rfl (lq rfl lt0)))
    .refine kb (p:=e) rfl h (λ hc h=> ?_) (λ hc h=> ?_)
     .refine zan ?_
      cases h
     .refine zap (zau (zaf (kr (gq (zbo rfl rfl rfl (qm (.xi (i64 (b+1))) rfl (zbc (zaa ⟨_,h,s4 rfl rfl rfl rfl⟩))))))))
   .refine zbr (zbi (zbk (zbj (zaa ⟨h,s1 rfl⟩))))
 .refine sr (gq (zaj (o:=0) (c':=(List.drop 0 (zbb a0))) (by kernel_rfl) rfl rfl (gq (zak (a:= .row 2 zbd a0.1) (by kernel_rfl) rfl rfl (gq (zao (by kernel_rfl) rfl (G_l rfl (zel (c:=[.xi 0]) rfl (lc lf ln) (λ b69=>G_l rfl (zbz (c':=[.xi (List.length a0.1:Int)]) (c3:=[.xi (List.length a0.1:Int)]) rfl rfl CellsOf.int (lc lf ln) (OneC.int OneC.nil) (by kernel_rfl) (Nat.le_of_ble_eq_true rfl) rfl (gc (zbw h ((pt AF0 1 (.ptr (zbb a0)))) ([]) (λ k70 h=> ?_) (λ  h=> ?_)))))))))))))
  .refine sr (gq (zaj (o:=1) (c':=(List.drop 1 (zbb a0))) (by kernel_rfl) rfl rfl (gq (zak (a:= .row 3 zaw a0.2) (by kernel_rfl) rfl rfl (gq (zao (by kernel_rfl) rfl (qm (.xi 0) rfl (gc (zaq (awp_sub (SubU.to (SubU.freezeBox (s:=5) rfl)) (zcr (m_combinator_Valid_L6 a0 k70) (m_combinator_Valid_B6 a0 k70) (λ _=>rfl) (λ m _=>rfl) h (λ(d:Int)=>(pt (pt (pt (pt (pt AF0 1 (.ptr (zbb a0))) 5 (.ptr [.xi (List.length a0.1:Int)])) 33 (.row 3 zaw a0.2)) 34 (.xi (List.length a0.2:Int))) 35 (.xi d))) (λ(d:Int)=>[]) ?_ (λ w d h=> ?_))))))))))))
   .exact so (l4 rfl rfl rfl rfl (lq rfl lt0))
   .unfold m_combinator_Valid_B6 at h
    refine sr (gq (zbm rfl rfl (gc (zan (kd (p:=d<(List.length a0.2:Int)) rfl h (λ hc h=> ?_) (λ hc h=> ?_))))))
    .refine zap (zaf (zan (zaq (sr ?_))))
     obtain⟨n284,h⟩:=zad h
     refine gq (zai (by kernel_rfl) rfl rfl n284.1 n284.2 (gq (zbx (m:=3) (c':=zaw (gi a0.2 d)) (by kernel_rfl) rfl rfl rfl (G_l rfl (zel (c:=[.xs ((([],[],[]):(List UInt8)×(List Bool)×(List ((List Int)×Int×Int))).1), .row 1 zdk ((([],[],[]):(List UInt8)×(List Bool)×(List ((List Int)×Int×Int))).2.1), .row 3 zay ((([],[],[]):(List UInt8)×(List Bool)×(List ((List Int)×Int×Int))).2.2)]) rfl (lc lf (lc (zcy (by decide)) (lc (zcy (by decide)) ln))) (λ b285=>G_l rfl (zbz (c':=[.xs ((gi a0.2 d).1), .row 1 zdk ((gi a0.2 d).2.1), .row 3 zay ((gi a0.2 d).2.2)]) (c3:=[.xs ((gi a0.2 d).1), .row 1 zdk ((gi a0.2 d).2.1), .row 3 zay ((gi a0.2 d).2.2)]) rfl rfl CellsOf.agg (lc lf (lc lf (lc lf ln))) (oc_c_api_Format _) (by kernel_rfl) (Nat.le_of_ble_eq_true rfl) rfl (gc (zax h (λ(g:Bool)=>(pt (pt (pt (pt (pt (pt AF0 1 (.ptr (zbb a0))) 5 (.ptr [.xi (List.length a0.1:Int)])) 33 (.row 3 zaw a0.2)) 34 (.xi (List.length a0.2:Int))) 35 (.xi d)) 59 (.xb g))) (λ(g:Bool)=>[]) (λ k286 h=> ?_) (λ g h=> ?_))))))))))
     .refine zck [] [(0,0),(1,1),(0,2),(0,3),(0,4),(0,5),(0,8),(1,6),(0,7),(0,9),(0,10),(0,11),(0,12),(0,14),(0,16),(1,13),(1,15),(0,17),(0,18),(0,19),(0,20)] hmixP (by kernel_rfl) (pq rfl (zba (o:=0) (by kernel_rfl) rfl (P_r rfl (zaz (a:= .xs ((gi a0.2 d).1)) (by kernel_rfl) rfl rfl ?_))))
      obtain⟨y292,k,h⟩:=zae h
      refine pq rfl (zal (m_combinator_shape_ok _ _ k) func123 (by kernel_rfl) (lc lf ln) (pq rfl (zdh rfl (pq rfl (zah (av:= .xb (!y292)) rfl (P_splitB (c:= !y292) 43 rfl (λ hc=> ?_) (λ hc=> ?_)))))))
      .replace h:=zcg h hc
       refine pn rfl (pn rfl (P_n zdl rfl rfl rfl (pn rfl (pn rfl (pq rfl (zat rfl (av:= .xb true) rfl (pq rfl (zah (av:= .xb true) rfl (pn rfl (pn rfl (pn rfl (P_n zdl rfl rfl rfl (P_n zdl rfl rfl rfl (pn rfl (pn rfl (pn rfl (pq rfl (zat rfl (av:= .xb true) rfl (zcn (zaa ⟨_,h, ?_⟩))))))))))))))))))))
       refine Sub.trans (SubU.to SubU.drop) (so (l4 rfl rfl rfl rfl (lq rfl (lq rfl lt0))))
      .replace h:=zcf h hc
       refine py rfl (zba (o:=0) (by kernel_rfl) rfl (py rfl (op_makeFunc (args:=(λ(i:Int)=>[.xi i])) (f:=(λ(i:Int)=>(λ(x0:Int)=>zho x0 (List.length a0.1:Int)) i)) (res:=(λ(r:Bool)=> .xb r)) func126 (by kernel_rfl) [.ptr [.xi (List.length a0.1:Int)]] (lc lf ln) (λ i r h=>m_combinator_Valid_2_ok i (List.length a0.1:Int) r h) (Py_r rfl rfl rfl (zaz (a:= .xs ((gi a0.2 d).1)) (by kernel_rfl) rfl rfl ?_)))))
       obtain⟨y293,l,h⟩:=zae h
       refine py rfl (zal (m_procterm_Holes_ok _ _ l) func125 (by kernel_rfl) (lc lf ln) ?_)
       obtain⟨y294,n,h⟩:=zae h
       refine py rfl (zal (m_slices_ContainsFunc_L_int_int_ok _ _ _ n) func124 (by kernel_rfl) (lc lf (lc lf ln)) (pq rfl (zar rfl (av:= .xb y294) rfl (pq rfl (zah (av:= .xb y294) rfl (P_splitB (c:=y294) 50 rfl (λ hc=> ?_) (λ hc=> ?_)))))))
       .replace h:=zcg h hc
        refine pn rfl (pn rfl (pn rfl (P_n zdl rfl rfl rfl (P_n zdl rfl rfl rfl (pn rfl (pn rfl (pn rfl (pq rfl (zat rfl (av:= .xb true) rfl (zcn (zaa ⟨_,h, ?_⟩)))))))))))
        refine Sub.trans (SubU.to SubU.drop) (so (l4 rfl rfl rfl rfl (lq rfl (lq rfl lt0))))
       .replace h:=zcf h hc
        refine py rfl (zba (o:=1) (by kernel_rfl) rfl (py rfl (zba (o:=0) (by kernel_rfl) rfl (py rfl (zak (a:= .xi (List.length a0.1:Int)) (by kernel_rfl) rfl rfl (Py_r rfl rfl rfl (zaz (a:= .row 1 zdk ((gi a0.2 d).2.1)) (by kernel_rfl) rfl rfl (Py_r rfl rfl rfl (zaz (a:= .xs ((gi a0.2 d).1)) (by kernel_rfl) rfl rfl ?_)))))))))
        obtain⟨y295,q,h⟩:=zae h
        refine py rfl (zal (m_combinator_alive_ok _ _ _ q) func128 (by kernel_rfl) (lc lf (lc lf ln)) ?_)
        obtain⟨y296,t,h⟩:=zae h
        refine py rfl (zal (m_slices_Equal_L_bool_bool_ok _ _ _ t) func127 (by kernel_rfl) (lc lf (lc lf ln)) (py rfl (zdh rfl (pq rfl (zar rfl (av:= .xb (!y296)) rfl (zcn (zaa ⟨_,h, ?_⟩)))))))
        refine Sub.trans (SubU.to SubU.drop) (so (l4 rfl rfl rfl rfl (lq rfl (lq rfl lt0))))
     .refine kb (p:=g) rfl h (λ hc h=> ?_) (λ hc h=> ?_)
      .refine zan ?_
       cases h
      .refine zap (zau (zaf (kr (gq (zbo rfl rfl rfl (qm (.xi (i64 (d+1))) rfl (zbc (zaa ⟨_,h,so (l4 rfl rfl rfl rfl (lq rfl lt0))⟩))))))))
    .refine zbr (zbi (zbk (zbj (zaa ⟨h,s1 rfl⟩))))
  .refine sr (gq (zbx (m:=2) (c':=zbb a0) (by kernel_rfl) rfl rfl rfl ?_))
   obtain⟨y297,u,h⟩:=zae h
   refine gq (zal (m_combinator_ruled_ok _ _ u) func129 (by kernel_rfl) (lc lf ln) (qa (.xb y297) rfl (gc (zbn ?_))))
   obtain rfl:=oi h
   refine ke (pt AF0 2 (.xb y297)) [] rfl (s1 rfl) ⟨rfl,rfl⟩
theorem m_combinator_Bare_ok (a0:(List ((List (List (Int×Int)))×(List (List UInt8))))×(List ((List UInt8)×(List Bool)×(List ((List Int)×Int×Int))))) (r:Bool) (h:m_combinator_Bare a0=some r):Pure Tryz.prog 80 [(.agg (zbb a0))] (.exact (.bool r)):=by
 unfold m_combinator_Bare at h
 refine Pure.ofFun (zam func80 rfl ntmps80 (by simp) rfl (res1 rfl) λ E hE=>zca (sr (gq (zfe (c:=zbb a0) rfl CellsOf.agg (qa (.xb false) rfl (gc (zan ?_)))))))
 cases h
end
end Go.Proofs.YtohjfjmjnkglgaaGreatDoor
