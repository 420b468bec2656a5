/- Parts, merged. -/
import Derived.Test.YtohjfjmjnkglgaaGreatDoorQk6
import Derived.Test.YtohjfjmjnkglgaaGreatDoorQk4
import Derived.Test.YtohjfjmjnkglgaaGreatDoorQk0
import Derived.Test.YtohjfjmjnkglgaaGreatDoorQk3
import Derived.Shelf.Strconv.Itoa4
import Derived.Lib.LaidTab
import Derived.LaidSub
import Derived.Shelf.Strings.OnBuilder
import Derived.Lib.AppendIntMem
namespace Go.Proofs.YtohjfjmjnkglgaaGreatDoor
open _root_.Go.Proofs.Tryz
noncomputable section
open Go.RowKit
attribute [local irreducible] AV.exact AV.top AV.row AV.ptr AV.agg AV.tup AV.eptr AV.fn AV.nilq AV.nilqn opA opB opM opR Quiet Loud Reads wpG awp den Sub SubU Pure Fun vecI vecT boxI CellsAll CellsOf OneC LEs LEss
set_option maxRecDepth 100000
set_option maxHeartbeats 4000000
theorem m_network_runs_ok (a0:(List ((List (List (Int×Int)))×(List (List UInt8))))×(List ((List UInt8)×(List Bool)×(List ((List Int)×Int×Int))))) (r:Bool) (h:m_network_runs a0=some r):Pure Tryz.prog 36 [(.agg (zbb a0))] (.exact (.bool r)):=by
 unfold m_network_runs at h
 refine Pure.ofFun (zam func36 rfl ntmps36 (by simp) rfl (res1 rfl) λ E hE=>zca (sr (gq (zfe (c:=zbb a0) rfl CellsOf.agg (qa (.xb false) rfl (gc (zax h (λ(a:Bool)=>(pt AF0 2 (.xb a))) (λ(a:Bool)=>[]) (λ k1 h=> ?_) (λ a h=> ?_))))))))
 .refine kr (gq (zbx (m:=2) (c':=zbb a0) (by kernel_rfl) rfl rfl rfl ?_))
  obtain⟨y4,b,h⟩:=zae h
  refine gq (zal (m_combinator_Valid_ok _ _ b) func79 (by kernel_rfl) (lc lf ln) (qm (.xb y4) rfl (zfl (c:=y4) 5 rfl (λ hc=> ?_) (λ hc=> ?_))))
  .replace h:=zcg h hc
   refine gn (gn (gq (zat rfl (av:= .xb true) rfl (qa (.xb true) rfl (zbc (zaa ⟨_,h,s1 rfl⟩))))))
  .replace h:=zcf h hc
   refine gy (zbx (m:=2) (c':=zbb a0) (by kernel_rfl) rfl rfl rfl ?_)
   obtain⟨y5,d,h⟩:=zae h
   refine gy (zal (m_combinator_Bare_ok _ _ d) func80 (by kernel_rfl) (lc lf ln) (gq (zar rfl (av:= .xb y5) rfl (qa (.xb y5) rfl (zbc (zaa ⟨_,h,s1 rfl⟩))))))
 .refine zbn ?_
  obtain rfl:=oi h
  refine ke (pt AF0 2 (.xb a)) [] rfl (s1 rfl) ⟨rfl,rfl⟩
theorem m_network_start_ok (a0:(List ((List (List (Int×Int)))×(List (List UInt8))))×(List ((List UInt8)×(List Bool)×(List ((List Int)×Int×Int))))) (r:(List Int)) (h:m_network_start a0=some r):Pure Tryz.prog 37 [(.agg (zbb a0))] (.row 1 zav r):=by
 unfold m_network_start at h
 refine Pure.ofFun (zam func37 rfl ntmps37 (by simp) rfl (res1 rfl) λ E hE=>zca (sr (gq (zfe (c:=zbb a0) rfl CellsOf.agg (qa (.exact (.slice none 0 0)) rfl (gd (gq (zaj (o:=0) (c':=(List.drop 0 (zbb a0))) (by kernel_rfl) rfl rfl (gq (zak (a:= .row 2 zbd a0.1) (by kernel_rfl) rfl rfl (gq (zao (by kernel_rfl) rfl (gq (zbo rfl rfl rfl ?_))))))))))))))
 obtain⟨n1,h⟩:=zad h
 refine G_l rfl (op_make (enc:=zav) (zr:=(0:Int)) (by kernel_rfl) rfl rfl n1.1 n1.2 zdf zeroValue3 (λ _ _=>(Fit.ex Fit.nil0)) (λ v2=>qa (.exact v2) rfl (gc (zbn ?_))))
 obtain rfl:=oi h
 refine ke (pt AF0 2 (.row 1 zav (List.replicate (Int.toNat (i64 ((List.length a0.1:Int)+1))) (0:Int)))) [] rfl (Sub.trans (SubU.to (SubU.freezeT (s:=2) rfl zdf)) (s1 rfl)) ⟨rfl,rfl⟩
theorem m_network_Start_ok (a0:(List ((List (List (Int×Int)))×(List (List UInt8))))×(List ((List UInt8)×(List Bool)×(List ((List Int)×Int×Int))))) (r:(List Int)) (h:m_network_Start a0=some r):Pure Tryz.prog 13 [(.agg (zbb a0))] (.row 1 zav r):=by
 unfold m_network_Start at h
 refine Pure.ofFun (zam func13 rfl ntmps13 (by simp) rfl (res1 rfl) λ E hE=>zca (sr (gq (zfe (c:=zbb a0) rfl CellsOf.agg (qa (.exact (.slice none 0 0)) rfl (gc (zan (sr (gq (zbx (m:=2) (c':=zbb a0) (by kernel_rfl) rfl rfl rfl ?_))))))))))
 obtain⟨y1,a,h⟩:=zae h
 refine gq (zal (m_network_runs_ok _ _ a) func36 (by kernel_rfl) (lc lf ln) (gq (zdh rfl (gc (kb (p:= !y1) rfl h (λ hc h=> ?_) (λ hc h=> ?_))))))
 .refine zan ?_
  cases h
 .refine zap (zaf (sr (gq (zbx (m:=2) (c':=zbb a0) (by kernel_rfl) rfl rfl rfl ?_))))
  obtain⟨y2,b,h⟩:=zae h
  refine gq (zal (m_network_start_ok _ _ b) func37 (by kernel_rfl) (lc lf ln) (qa (.row 1 zav y2) rfl (gc (zbn ?_))))
  obtain rfl:=oi h
  refine ke (pt AF0 2 (.row 1 zav y2)) [] rfl (s1 rfl) ⟨rfl,rfl⟩
theorem m_network_state_ok (a0:(List ((List (List (Int×Int)))×(List (List UInt8))))×(List ((List UInt8)×(List Bool)×(List ((List Int)×Int×Int))))) (a1:List Int) (r:Bool) (h:m_network_state a0 a1=some r):Pure Tryz.prog 71 [(.agg (zbb a0)),(.row 1 zav a1)] (.exact (.bool r)):=by
 unfold m_network_state at h
 refine Pure.ofFun (zam func71 rfl ntmps71 (by simp) rfl (res1 rfl) λ E hE=>zca (sr (gq (zfe (c:=zbb a0) rfl CellsOf.agg (qa (.xb false) rfl (gc (zan (zax h (λ(d:Bool)=>(pt (pt (pt AF0 1 (.row 1 zav a1)) 2 (.ptr (zbb a0))) 28 (.xb d))) (λ(d:Bool)=>[]) (λ k7 h=> ?_) (λ d h=> ?_)))))))))
 .refine zck [] [(0,0),(0,1),(0,2),(0,3),(0,4),(0,5),(0,6),(0,7),(0,8),(0,9),(0,10),(0,11),(0,12),(0,13),(0,14),(0,15),(0,16),(0,17),(0,18),(0,19),(0,20),(0,21)] hmixP (by kernel_rfl) (pq rfl (zah (av:= .row 1 zav a1) rfl (pq rfl (zao (by kernel_rfl) rfl (pq rfl (zaj (o:=0) (c':=(List.drop 0 (zbb a0))) (by kernel_rfl) rfl rfl (pq rfl (zak (a:= .row 2 zbd a0.1) (by kernel_rfl) rfl rfl (pq rfl (zao (by kernel_rfl) rfl (pq rfl (zbo rfl rfl rfl (pq rfl (zfr rfl rfl (pq rfl (zah (av:= .xb (decide (¬(List.length a1:Int)=(i64 ((List.length a0.1:Int)+1))))) rfl (zfd (p:= ¬(List.length a1:Int)=(i64 ((List.length a0.1:Int)+1))) 14 rfl (λ hc=> ?_) (λ hc=> ?_))))))))))))))))))
  .replace h:=zcg h hc
   refine pn rfl (pn rfl (pn rfl (pn rfl (pq rfl (zat rfl (av:= .xb true) rfl (pq rfl (zah (av:= .xb true) rfl (pn rfl (pn rfl (pn rfl (pn rfl (pn rfl (pn rfl (pn rfl (pq rfl (zat rfl (av:= .xb true) rfl (zcn (zaa ⟨_,h,s3 rfl rfl rfl⟩))))))))))))))))))
  .replace h:=zcf h hc
   refine py rfl (zah (av:= .row 1 zav a1) rfl ?_)
   obtain⟨n10,h⟩:=zad h
   refine py rfl (zai (by kernel_rfl) rfl rfl n10.1 n10.2 (py rfl (zak (a:= .xi (gi a1 0)) (by kernel_rfl) rfl rfl (py rfl (zbm rfl rfl (pq rfl (zar rfl (av:= .xb (decide ((gi a1 0)<0))) rfl (pq rfl (zah (av:= .xb (decide ((gi a1 0)<0))) rfl (zfd (p:=(gi a1 0)<0) 20 rfl (λ hc=> ?_) (λ hc=> ?_)))))))))))
   .replace h:=zcg h hc
    refine pn rfl (pn rfl (pn rfl (pn rfl (pn rfl (pn rfl (pn rfl (pq rfl (zat rfl (av:= .xb true) rfl (zcn (zaa ⟨_,h,s3 rfl rfl rfl⟩))))))))))
   .replace h:=zcf h hc
    refine py rfl (zah (av:= .row 1 zav a1) rfl ?_)
    obtain⟨n11,h⟩:=zad h
    refine py rfl (zai (by kernel_rfl) rfl rfl n11.1 n11.2 (py rfl (zak (a:= .xi (gi a1 0)) (by kernel_rfl) rfl rfl (py rfl (zaj (o:=1) (c':=(List.drop 1 (zbb a0))) (by kernel_rfl) rfl rfl (py rfl (zak (a:= .row 3 zaw a0.2) (by kernel_rfl) rfl rfl (py rfl (zao (by kernel_rfl) rfl (py rfl (zgm rfl rfl (pq rfl (zar rfl (av:= .xb (decide ((List.length a0.2:Int)≤(gi a1 0)))) rfl (zcn (zaa ⟨_,h,s3 rfl rfl rfl⟩)))))))))))))))
 .refine kb (p:=d) rfl h (λ hc h=> ?_) (λ hc h=> ?_)
  .refine zan ?_
   cases h
  .refine zap (zaf (zbw h (AF0) ([]) (λ k12 h=> ?_) (λ  h=> ?_)))
   .refine sr (gq (zaj (o:=0) (c':=(List.drop 0 (zbb a0))) (by kernel_rfl) rfl rfl (gq (zak (a:= .row 2 zbd a0.1) (by kernel_rfl) rfl rfl (gq (zao (by kernel_rfl) rfl (qm (.xi 0) rfl (gc (zaq (zcr (m_network_state_L2 a0 a1 k12) (m_network_state_B2 a0 a1 k12) (λ _=>rfl) (λ m _=>rfl) h (λ(b:Int)=>(pt (pt (pt (pt (pt AF0 1 (.row 1 zav a1)) 2 (.ptr (zbb a0))) 30 (.row 2 zbd a0.1)) 31 (.xi (List.length a0.1:Int))) 32 (.xi b))) (λ(b:Int)=>[]) ?_ (λ f b h=> ?_)))))))))))
    .exact so (l4 rfl rfl rfl rfl (lq rfl lt0))
    .unfold m_network_state_B2 at h
     refine sr (gq (zbm rfl rfl (gc (zan (kd (p:=b<(List.length a0.1:Int)) rfl h (λ hc h=> ?_) (λ hc h=> ?_))))))
     .refine zap (zaf (zan (zaq (sr (qm (.xi b) rfl ?_)))))
      obtain⟨n339,h⟩:=zad h
      refine gq (zai (by kernel_rfl) rfl rfl n339.1 n339.2 (gq (zbx (m:=2) (c':=zbd (gi a0.1 b)) (by kernel_rfl) rfl rfl rfl (G_l rfl (zel (c:=[.row 1 zby ((([],[]):(List (List (Int×Int)))×(List (List UInt8))).1), .row 1 zab ((([],[]):(List (List (Int×Int)))×(List (List UInt8))).2)]) rfl (lc (zcy (by decide)) (lc (zcy (by decide)) ln)) (λ b340=>qa (.xi b) rfl (G_l rfl (zbz (c':=[.row 1 zby ((gi a0.1 b).1), .row 1 zab ((gi a0.1 b).2)]) (c3:=[.row 1 zby ((gi a0.1 b).1), .row 1 zab ((gi a0.1 b).2)]) rfl rfl CellsOf.agg (lc lf (lc lf ln)) (oc_c_api_Component _) (by kernel_rfl) (Nat.le_of_ble_eq_true rfl) rfl (gc (zax h (λ(e:Bool)=>(pt (pt (pt (pt (pt (pt AF0 1 (.row 1 zav a1)) 2 (.ptr (zbb a0))) 30 (.row 2 zbd a0.1)) 31 (.xi (List.length a0.1:Int))) 32 (.xi b)) 89 (.xb e))) (λ(e:Bool)=>[]) (λ k341 h=> ?_) (λ e h=> ?_)))))))))))
      .refine zck [] [(0,0),(0,1),(0,2),(0,3),(0,4),(0,5),(0,6),(0,7),(0,8),(0,9),(0,10),(0,11),(0,12),(0,13),(0,14),(0,15),(0,16),(0,17),(0,18),(0,19),(0,20),(0,21),(0,22),(0,23),(0,24),(0,25),(1,26),(0,27),(0,28),(0,29),(0,30),(0,31),(0,32),(0,33),(0,34),(0,35),(0,36),(0,37),(0,38),(0,39),(0,40),(0,41),(0,42),(0,43),(0,44),(0,45),(0,46),(0,47),(0,48),(0,49),(0,50),(0,51),(0,52)] hmixP (by kernel_rfl) (pq rfl (zaj (o:=1) (c':=(List.drop 1 (zbb a0))) (by kernel_rfl) rfl rfl (pq rfl (zak (a:= .row 3 zaw a0.2) (by kernel_rfl) rfl rfl (pq rfl (zah (av:= .row 1 zav a1) rfl ?_))))))
       obtain⟨n355,h⟩:=zad h
       refine pq rfl (zai (by kernel_rfl) rfl rfl n355.1 n355.2 (pq rfl (zak (a:= .xi (gi a1 0)) (by kernel_rfl) rfl rfl ?_)))
       obtain⟨n356,h⟩:=zad h
       refine pq rfl (zai (by kernel_rfl) rfl rfl n356.1 n356.2 (pq rfl (zaj (o:=1) (c':=(List.drop 1 (zaw (gi a0.2 (gi a1 0))))) (by kernel_rfl) rfl rfl (pq rfl (zak (a:= .row 1 zdk ((gi a0.2 (gi a1 0)).2.1)) (by kernel_rfl) rfl rfl (pq rfl (zah (av:= .xi b) rfl ?_)))))))
       obtain⟨n357,h⟩:=zad h
       refine pq rfl (zai (by kernel_rfl) rfl rfl n357.1 n357.2 (pq rfl (zak (a:= .xb (gi ((gi a0.2 (gi a1 0)).2.1) b)) (by kernel_rfl) rfl rfl (pq rfl (zah (av:= .xb (gi ((gi a0.2 (gi a1 0)).2.1) b)) rfl (P_splitB (c:=gi ((gi a0.2 (gi a1 0)).2.1) b) 48 rfl (λ hc=> ?_) (λ hc=> ?_)))))))
       .replace h:=zcg h hc
        refine py rfl (zah (av:= .row 1 zav a1) rfl (py rfl (zah (av:= .xi b) rfl (py rfl (zbo rfl rfl rfl ?_)))))
        obtain⟨n358,h⟩:=zad h
        refine py rfl (zai (by kernel_rfl) rfl rfl n358.1 n358.2 (py rfl (zak (a:= .xi (gi a1 (i64 (b+1)))) (by kernel_rfl) rfl rfl (py rfl (zbm rfl rfl (py rfl (zah (av:= .xb (decide ((gi a1 (i64 (b+1)))<0))) rfl (zfd (p:=(gi a1 (i64 (b+1)))<0) 55 rfl (λ hc=> ?_) (λ hc=> ?_)))))))))
        .replace h:=zcg h hc
         refine pn rfl (pn rfl (pn rfl (pn rfl (pn rfl (pn rfl (pn rfl (P_n zdl rfl rfl rfl (pn rfl (pn rfl (py rfl (zat rfl (av:= .xb true) rfl (pq rfl (zat rfl (av:= .xb true) rfl (pq rfl (zah (av:= .xb true) rfl (pn rfl (pn rfl (pn rfl (pn rfl (pn rfl (pn rfl (pn rfl (pn rfl (pn rfl (pn rfl (pn rfl (pn rfl ?_)))))))))))))))))))))))))))
         refine pn rfl (pu rfl (pu rfl (pu rfl (pu rfl (pu rfl (pu rfl (pn rfl (pq rfl (zat rfl (av:= .xb true) rfl (zcn (zaa ⟨_,h, ?_⟩)))))))))))
         refine Sub.trans (SubU.to SubU.drop) (so (l4 rfl rfl rfl rfl (lq rfl (lq rfl lt0))))
        .replace h:=zcf h hc
         refine py rfl (zah (av:= .row 1 zav a1) rfl (py rfl (zah (av:= .xi b) rfl (py rfl (zbo rfl rfl rfl ?_)))))
         obtain⟨n359,h⟩:=zad h
         refine py rfl (zai (by kernel_rfl) rfl rfl n359.1 n359.2 (py rfl (zak (a:= .xi (gi a1 (i64 (b+1)))) (by kernel_rfl) rfl rfl (py rfl (zba (o:=0) (by kernel_rfl) rfl (py rfl (zba (o:=0) (by kernel_rfl) rfl (Py_r rfl rfl rfl (zaz (a:= .row 1 zby ((gi a0.1 b).1)) (by kernel_rfl) rfl rfl (py rfl (zao (by kernel_rfl) rfl (py rfl (zgm rfl rfl (py rfl (zar rfl (av:= .xb (decide ((List.length ((gi a0.1 b).1):Int)≤(gi a1 (i64 (b+1)))))) rfl (pq rfl (zat rfl (av:= .xb (decide ((List.length ((gi a0.1 b).1):Int)≤(gi a1 (i64 (b+1)))))) rfl (pq rfl (zah (av:= .xb (decide ((List.length ((gi a0.1 b).1):Int)≤(gi a1 (i64 (b+1)))))) rfl (zfd (p:=(List.length ((gi a0.1 b).1):Int)≤(gi a1 (i64 (b+1)))) 68 rfl (λ hc=> ?_) (λ hc=> ?_)))))))))))))))))))))
         .replace h:=zcg h hc
          refine pn rfl (pn rfl (pn rfl (pn rfl (pn rfl (pn rfl (pn rfl (pn rfl (pn rfl (pn rfl (pn rfl (pn rfl (pn rfl (pu rfl (pu rfl (pu rfl (pu rfl (pu rfl (pu rfl (pn rfl (pq rfl (zat rfl (av:= .xb true) rfl (zcn (zaa ⟨_,h, ?_⟩)))))))))))))))))))))))
          refine Sub.trans (SubU.to SubU.drop) (so (l4 rfl rfl rfl rfl (lq rfl (lq rfl lt0))))
         .replace h:=zcf h hc
          refine py rfl (zaj (o:=1) (c':=(List.drop 1 (zbb a0))) (by kernel_rfl) rfl rfl (py rfl (zak (a:= .row 3 zaw a0.2) (by kernel_rfl) rfl rfl (py rfl (zah (av:= .row 1 zav a1) rfl ?_)))))
          obtain⟨n360,h⟩:=zad h
          refine py rfl (zai (by kernel_rfl) rfl rfl n360.1 n360.2 (py rfl (zak (a:= .xi (gi a1 0)) (by kernel_rfl) rfl rfl ?_)))
          obtain⟨n361,h⟩:=zad h
          refine py rfl (zai (by kernel_rfl) rfl rfl n361.1 n361.2 (py rfl (zaj (o:=1) (c':=(List.drop 1 (zaw (gi a0.2 (gi a1 0))))) (by kernel_rfl) rfl rfl (py rfl (zak (a:= .row 1 zdk ((gi a0.2 (gi a1 0)).2.1)) (by kernel_rfl) rfl rfl (py rfl (zah (av:= .xi b) rfl ?_)))))))
          obtain⟨n362,h⟩:=zad h
          refine py rfl (zai (by kernel_rfl) rfl rfl n362.1 n362.2 (py rfl (zak (a:= .xb (gi ((gi a0.2 (gi a1 0)).2.1) b)) (by kernel_rfl) rfl rfl (py rfl (zdh rfl (py rfl (zah (av:= .xb (!(gi ((gi a0.2 (gi a1 0)).2.1) b))) rfl (P_splitB (c:= !(gi ((gi a0.2 (gi a1 0)).2.1) b)) 81 rfl (λ hc=> ?_) (λ hc=> ?_)))))))))
          .replace h:=zcg h hc
           refine py rfl (zah (av:= .row 1 zav a1) rfl (py rfl (zah (av:= .xi b) rfl (py rfl (zbo rfl rfl rfl ?_)))))
           obtain⟨n363,h⟩:=zad h
           refine py rfl (zai (by kernel_rfl) rfl rfl n363.1 n363.2 (py rfl (zak (a:= .xi (gi a1 (i64 (b+1)))) (by kernel_rfl) rfl rfl (py rfl (zfr rfl rfl (py rfl (zat rfl (av:= .xb (decide (¬(gi a1 (i64 (b+1)))=(-1)))) rfl (pq rfl (zar rfl (av:= .xb (decide (¬(gi a1 (i64 (b+1)))=(-1)))) rfl (zcn (zaa ⟨_,h, ?_⟩)))))))))))
           refine Sub.trans (SubU.to SubU.drop) (so (l4 rfl rfl rfl rfl (lq rfl (lq rfl lt0))))
          .replace h:=zcf h hc
           refine pn rfl (pn rfl (pn rfl (pn rfl (pn rfl (pn rfl (py rfl (zar rfl (av:= .xb false) rfl (pq rfl (zar rfl (av:= .xb false) rfl (zcn (zaa ⟨_,h, ?_⟩)))))))))))
           refine Sub.trans (SubU.to SubU.drop) (so (l4 rfl rfl rfl rfl (lq rfl (lq rfl lt0))))
       .replace h:=zcf h hc
        refine pn rfl (pn rfl (pn rfl (pn rfl (pn rfl (pn rfl (pn rfl (pu rfl (pu rfl (pu rfl (pu rfl (pu rfl (pu rfl (pu rfl (P_u zdl rfl rfl rfl (pu rfl (pu rfl (pn rfl (pq rfl (zar rfl (av:= .xb false) rfl (pq rfl (zah (av:= .xb false) rfl (py rfl (zaj (o:=1) (c':=(List.drop 1 (zbb a0))) (by kernel_rfl) rfl rfl (py rfl (zak (a:= .row 3 zaw a0.2) (by kernel_rfl) rfl rfl (py rfl (zah (av:= .row 1 zav a1) rfl ?_)))))))))))))))))))))))))))
        obtain⟨n364,h⟩:=zad h
        refine py rfl (zai (by kernel_rfl) rfl rfl n364.1 n364.2 (py rfl (zak (a:= .xi (gi a1 0)) (by kernel_rfl) rfl rfl ?_)))
        obtain⟨n365,h⟩:=zad h
        refine py rfl (zai (by kernel_rfl) rfl rfl n365.1 n365.2 (py rfl (zaj (o:=1) (c':=(List.drop 1 (zaw (gi a0.2 (gi a1 0))))) (by kernel_rfl) rfl rfl (py rfl (zak (a:= .row 1 zdk ((gi a0.2 (gi a1 0)).2.1)) (by kernel_rfl) rfl rfl (py rfl (zah (av:= .xi b) rfl ?_)))))))
        obtain⟨n366,h⟩:=zad h
        refine py rfl (zai (by kernel_rfl) rfl rfl n366.1 n366.2 (py rfl (zak (a:= .xb (gi ((gi a0.2 (gi a1 0)).2.1) b)) (by kernel_rfl) rfl rfl (py rfl (zdh rfl (py rfl (zah (av:= .xb (!(gi ((gi a0.2 (gi a1 0)).2.1) b))) rfl (P_splitB (c:= !(gi ((gi a0.2 (gi a1 0)).2.1) b)) 81 rfl (λ hc=> ?_) (λ hc=> ?_)))))))))
        .replace h:=zcg h hc
         refine py rfl (zah (av:= .row 1 zav a1) rfl (py rfl (zah (av:= .xi b) rfl (py rfl (zbo rfl rfl rfl ?_)))))
         obtain⟨n367,h⟩:=zad h
         refine py rfl (zai (by kernel_rfl) rfl rfl n367.1 n367.2 (py rfl (zak (a:= .xi (gi a1 (i64 (b+1)))) (by kernel_rfl) rfl rfl (py rfl (zfr rfl rfl (py rfl (zat rfl (av:= .xb (decide (¬(gi a1 (i64 (b+1)))=(-1)))) rfl (pq rfl (zar rfl (av:= .xb (decide (¬(gi a1 (i64 (b+1)))=(-1)))) rfl (zcn (zaa ⟨_,h, ?_⟩)))))))))))
         refine Sub.trans (SubU.to SubU.drop) (so (l4 rfl rfl rfl rfl (lq rfl (lq rfl lt0))))
        .replace h:=zcf h hc
         refine pn rfl (pn rfl (pn rfl (pn rfl (pn rfl (pn rfl (py rfl (zar rfl (av:= .xb false) rfl (pq rfl (zar rfl (av:= .xb false) rfl (zcn (zaa ⟨_,h, ?_⟩)))))))))))
         refine Sub.trans (SubU.to SubU.drop) (so (l4 rfl rfl rfl rfl (lq rfl (lq rfl lt0))))
      .refine kb (p:=e) rfl h (λ hc h=> ?_) (λ hc h=> ?_)
       .refine zan ?_
        cases h
       .refine zap (zau (zaf (kr (gq (zbo rfl rfl rfl (qm (.xi (i64 (b+1))) rfl (zbc (zaa ⟨_,h,so (l4 rfl rfl rfl rfl (lq rfl lt0))⟩))))))))
     .refine zbr (zbi (zbk (zbj (zaa ⟨h,Sub.of_le lt0⟩))))
   .refine sr (qa (.xb true) rfl (gc (zbn ?_)))
    obtain rfl:=oi h
    refine ke (pt AF0 4 (.xb true)) [] rfl (s1 rfl) ⟨rfl,rfl⟩
theorem m_network_ValidState_ok (a0:(List ((List (List (Int×Int)))×(List (List UInt8))))×(List ((List UInt8)×(List Bool)×(List ((List Int)×Int×Int))))) (a1:List Int) (r:Bool) (h:zhn a0 a1=some r):Pure Tryz.prog 34 [(.agg (zbb a0)),(.row 1 zav a1)] (.exact (.bool r)):=by
 unfold zhn at h
 refine Pure.ofFun (zam func34 rfl ntmps34 (by simp) rfl (res1 rfl) λ E hE=>zca (sr (gq (zfe (c:=zbb a0) rfl CellsOf.agg (qa (.xb false) rfl (gc (zax h (λ(a:Bool)=>(pt AF0 4 (.xb a))) (λ(a:Bool)=>[]) (λ k1 h=> ?_) (λ a h=> ?_))))))))
 .refine kr (gq (zbx (m:=2) (c':=zbb a0) (by kernel_rfl) rfl rfl rfl ?_))
  obtain⟨y4,b,h⟩:=zae h
  refine gq (zal (m_network_runs_ok _ _ b) func36 (by kernel_rfl) (lc lf ln) (qm (.xb y4) rfl (zfl (c:=y4) 7 rfl (λ hc=> ?_) (λ hc=> ?_))))
  .replace h:=zcg h hc
   refine gy (zbx (m:=2) (c':=zbb a0) (by kernel_rfl) rfl rfl rfl (gy (zah (av:= .row 1 zav a1) rfl ?_)))
   obtain⟨y5,d,h⟩:=zae h
   refine gy (zal (m_network_state_ok _ _ _ d) func71 (by kernel_rfl) (lc lf (lc lf ln)) (gq (zat rfl (av:= .xb y5) rfl (qa (.xb y5) rfl (zbc (zaa ⟨_,h,s1 rfl⟩))))))
  .replace h:=zcf h hc
   refine gn (gn (gn (gq (zar rfl (av:= .xb false) rfl (qa (.xb false) rfl (zbc (zaa ⟨_,h,s1 rfl⟩)))))))
 .refine zbn ?_
  obtain rfl:=oi h
  refine ke (pt AF0 4 (.xb a)) [] rfl (s1 rfl) ⟨rfl,rfl⟩
theorem m_network_choices_F_ok (j:((List ((List (List (Int×Int)))×(List (List UInt8))))×(List ((List UInt8)×(List Bool)×(List ((List Int)×Int×Int)))))->(List Int)->((List Int)×Int×Int)->Int->Option (List (List (Int×Int×Int)))) (hself_network_choices: ∀(a0:(List ((List (List (Int×Int)))×(List (List UInt8))))×(List ((List UInt8)×(List Bool)×(List ((List Int)×Int×Int))))) (a1:List Int) (a2:(List Int)×Int×Int) (a3:Int) (r:(List (List (Int×Int×Int)))),j a0 a1 a2 a3=some r->Pure Tryz.prog 72 [(.agg (zbb a0)),(.row 1 zav a1),(.agg (zay a2)),(.exact (.int .i64 a3))] (.row 1 zce r)) (a0:(List ((List (List (Int×Int)))×(List (List UInt8))))×(List ((List UInt8)×(List Bool)×(List ((List Int)×Int×Int))))) (a1:List Int) (a2:(List Int)×Int×Int) (a3:Int) (r:(List (List (Int×Int×Int)))) (h:m_network_choices_F j a0 a1 a2 a3=some r):Pure Tryz.prog 72 [(.agg (zbb a0)),(.row 1 zav a1),(.agg (zay a2)),(.exact (.int .i64 a3))] (.row 1 zce r):=by
 unfold m_network_choices_F at h
 refine Pure.ofFun (zam func72 rfl ntmps72 (by simp) rfl (res1 rfl) λ E hE=>zca (sr (gq (zfe (c:=zbb a0) rfl CellsOf.agg (gq (zfe (c:=zay a2) rfl CellsOf.agg (qa (.exact (.slice none 0 0)) rfl (gc (zan (sr (qm (.xi a3) rfl (gq (zaj (o:=0) (c':=(List.drop 0 (zay a2))) (by kernel_rfl) rfl rfl (gq (zak (a:= .row 1 zav a2.1) (by kernel_rfl) rfl rfl (gq (zao (by kernel_rfl) rfl (gq (zbf rfl rfl (gc (kd (p:=a3=(List.length a2.1:Int)) rfl h (λ hc h=> ?_) (λ hc h=> ?_))))))))))))))))))))))
 .refine sr (gq (zcd (n:=1) (enc:=zce) [([]:List (Int×Int×Int))] (CellsAll.cons rfl CellsOf.slice CellsAll.nil) rfl (by kernel_rfl) (LEss.cons (lc (zcy (by decide)) ln) LEss.nil) (qa (.row 1 zce ([([]:List (Int×Int×Int))])) rfl (gc (zbn (zdb ?_))))))
  obtain rfl:=oi h
  refine ke (pt AF0 8 (.row 1 zce ([([]:List (Int×Int×Int))]))) [] rfl (s1 rfl) ⟨rfl,rfl⟩
 .refine zap (zaf (sr (gq (zbx (m:=2) (c':=zbb a0) (by kernel_rfl) rfl rfl rfl (qm (.row 1 zav a1) rfl (gq (zbx (m:=3) (c':=zay a2) (by kernel_rfl) rfl rfl rfl (qm (.xi a3) rfl (gq (zbo rfl rfl rfl ?_))))))))))
  obtain⟨y1,k,h⟩:=zae h
  refine gq (zal (hself_network_choices _ _ _ _ _ k) func72 (by kernel_rfl) (lc lf (lc lf (lc lf (lc lf ln)))) (qa (.row 1 zce y1) rfl (gc (zan (sr (gq (zaj (o:=0) (c':=(List.drop 0 (zay a2))) (by kernel_rfl) rfl rfl (gq (zak (a:= .row 1 zav a2.1) (by kernel_rfl) rfl rfl (qm (.xi a3) rfl ?_))))))))))
  obtain⟨n2,h⟩:=zad h
  refine gq (zai (by kernel_rfl) rfl rfl n2.1 n2.2 (gq (zak (a:= .xi (gi a2.1 a3)) (by kernel_rfl) rfl rfl (gq (zbf rfl rfl (gc (kd (p:=(gi a2.1 a3)=(-1)) rfl h (λ hc h=> ?_) (λ hc h=> ?_))))))))
  .refine sr (qm (.row 1 zce y1) rfl (qa (.row 1 zce y1) rfl (gc (zbn (zdb ?_)))))
   obtain rfl:=oi h
   refine ke (pt AF0 8 (.row 1 zce y1)) [] rfl (s1 rfl) ⟨rfl,rfl⟩
  .refine zap (zaf (zan (sr (qm (.row 1 zav a1) rfl (qm (.xi a3) rfl (gq (zbo rfl rfl rfl ?_)))))))
   obtain⟨n3,h⟩:=zad h
   refine gq (zai (by kernel_rfl) rfl rfl n3.1 n3.2 (gq (zak (a:= .xi (gi a1 (i64 (a3+1)))) (by kernel_rfl) rfl rfl (gq (zbm rfl rfl (gc (kd (p:=(gi a1 (i64 (a3+1)))<0) rfl h (λ hc h=> ?_) (λ hc h=> ?_))))))))
   .refine zan ?_
    cases h
   .refine zap (zaf (sr (qa (.exact (.slice none 0 0)) rfl (gc (zcb h (λ(e:List (List (Int×Int×Int))) (v10_j4:Value)=>(pt AF0 10 (.exact v10_j4))) (λ(e:List (List (Int×Int×Int))) (v10_j4:Value)=>[vecT Tryz.prog 148 1 zce v10_j4 e]) (λ k4 h=> ?_) (λ e v10_j4 h=> ?_))))))
    .refine zan (zck [] [(0,0),(0,1),(0,2),(0,3),(0,4),(0,5),(0,6),(0,7),(0,8),(0,9),(0,10),(0,11),(0,12),(0,13),(0,14),(0,15)] hmixP (by kernel_rfl) (pq rfl (zaj (o:=0) (c':=(List.drop 0 (zbb a0))) (by kernel_rfl) rfl rfl (pq rfl (zak (a:= .row 2 zbd a0.1) (by kernel_rfl) rfl rfl (pq rfl (zah (av:= .xi a3) rfl ?_)))))))
     obtain⟨n144,h⟩:=zad h
     refine pq rfl (zai (by kernel_rfl) rfl rfl n144.1 n144.2 (pq rfl (zaj (o:=0) (c':=(List.drop 0 (zbd (gi a0.1 a3)))) (by kernel_rfl) rfl rfl (pq rfl (zaj (o:=0) (c':=(List.drop 0 (List.drop 0 (zbd (gi a0.1 a3))))) (by kernel_rfl) rfl rfl (pq rfl (zak (a:= .row 1 zby ((gi a0.1 a3).1)) (by kernel_rfl) rfl rfl (pq rfl (zah (av:= .row 1 zav a1) rfl (pq rfl (zah (av:= .xi a3) rfl (pq rfl (zbo rfl rfl rfl ?_)))))))))))))
     obtain⟨n145,h⟩:=zad h
     refine pq rfl (zai (by kernel_rfl) rfl rfl n145.1 n145.2 (pq rfl (zak (a:= .xi (gi a1 (i64 (a3+1)))) (by kernel_rfl) rfl rfl ?_)))
     obtain⟨n146,h⟩:=zad h
     refine pq rfl (zai (by kernel_rfl) rfl rfl n146.1 n146.2 (pq rfl (zak (a:= .row 2 zbp (gi ((gi a0.1 a3).1) (gi a1 (i64 (a3+1))))) (by kernel_rfl) rfl rfl (pq rfl (zao (by kernel_rfl) rfl (pq rfl (zah (av:= .xi 0) rfl (zcn (zaf (zaq (zcz (m_network_choices_L8 a0 a1 a2 a3 y1 k4) (m_network_choices_B8 a0 a1 a2 a3 y1 k4) (λ _ _=>rfl) (λ m _ _=>rfl) h (λ(f:List (List (Int×Int×Int))) (b:Int) (v10_l8:Value)=>(pt (pt (pt (pt (pt (pt (pt AF0 3 (.xi a3)) 6 (.ptr (zay a2))) 9 (.row 1 zce y1)) 10 (.exact v10_l8)) 53 (.row 2 zbp (gi ((gi a0.1 a3).1) (gi a1 (i64 (a3+1)))))) 54 (.xi (List.length (gi ((gi a0.1 a3).1) (gi a1 (i64 (a3+1)))):Int))) 55 (.xi b))) (λ(f:List (List (Int×Int×Int))) (b:Int) (v10_l8:Value)=>[vecT Tryz.prog 148 1 zce v10_l8 f]) (.slice none 0 0) ?_ (λ l f b v10_l8 h=> ?_))))))))))))
     .refine Sub.trans (SubU.to (SubU.nilT (P:=Tryz.prog) (t:=148) (n:=1) (enc:=zce))) (so (l4 rfl rfl rfl rfl (lq rfl (lq rfl (lq rfl lt0)))))
     .unfold m_network_choices_B8 at h
      refine sr (gq (zbm rfl rfl (gc (zan (kd (p:=b<(List.length (gi ((gi a0.1 a3).1) (gi a1 (i64 (a3+1)))):Int)) rfl h (λ hc h=> ?_) (λ hc h=> ?_))))))
      .refine zap (zaf (zcb h (λ(g:List (List (Int×Int×Int))) (v10_j237:Value)=>(pt (pt (pt (pt (pt (pt (pt AF0 3 (.xi a3)) 6 (.ptr (zay a2))) 9 (.row 1 zce y1)) 10 (.exact v10_j237)) 53 (.row 2 zbp (gi ((gi a0.1 a3).1) (gi a1 (i64 (a3+1)))))) 54 (.xi (List.length (gi ((gi a0.1 a3).1) (gi a1 (i64 (a3+1)))):Int))) 55 (.xi b))) (λ(g:List (List (Int×Int×Int))) (v10_j237:Value)=>[vecT Tryz.prog 148 1 zce v10_j237 g]) (λ k237 h=> ?_) (λ g v10_j237 h=> ?_)))
       .refine zaq (sr ?_)
        obtain⟨n260,h⟩:=zad h
        refine gq (zai (by kernel_rfl) rfl rfl n260.1 n260.2 (gq (zbx (m:=2) (c':=zbp (gi (gi ((gi a0.1 a3).1) (gi a1 (i64 (a3+1)))) b)) (by kernel_rfl) rfl rfl rfl (G_l rfl (zel (c:=[.xi ((0,0).1), .xi ((0,0).2)]) rfl (lc lf (lc lf ln)) (λ b261=>G_l rfl (zbz (c':=[.xi ((gi (gi ((gi a0.1 a3).1) (gi a1 (i64 (a3+1)))) b).1), .xi ((gi (gi ((gi a0.1 a3).1) (gi a1 (i64 (a3+1)))) b).2)]) (c3:=[.xi ((gi (gi ((gi a0.1 a3).1) (gi a1 (i64 (a3+1)))) b).1), .xi ((gi (gi ((gi a0.1 a3).1) (gi a1 (i64 (a3+1)))) b).2)]) rfl rfl CellsOf.agg (lc lf (lc lf ln)) (oc_c_api_Arc _) (by kernel_rfl) (Nat.le_of_ble_eq_true rfl) rfl (gc (zan (zan (zck [] [(0,0),(0,2),(0,3),(0,4),(0,5),(0,6),(1,1),(0,7)] hmixP (by kernel_rfl) (pq rfl (zba (o:=0) (by kernel_rfl) rfl (pq rfl (zaj (o:=0) (c':=(List.drop 0 (zay a2))) (by kernel_rfl) rfl rfl (pq rfl (zak (a:= .row 1 zav a2.1) (by kernel_rfl) rfl rfl (pq rfl (zah (av:= .xi a3) rfl ?_)))))))))))))))))))
        obtain⟨n262,h⟩:=zad h
        refine pq rfl (zai (by kernel_rfl) rfl rfl n262.1 n262.2 (pq rfl (zak (a:= .xi (gi a2.1 a3)) (by kernel_rfl) rfl rfl (P_r rfl (zaz (a:= .xi ((gi (gi ((gi a0.1 a3).1) (gi a1 (i64 (a3+1)))) b).1)) (by kernel_rfl) rfl rfl (pq rfl (zfr rfl rfl (zcn (zaf (kd (p:= ¬((gi (gi ((gi a0.1 a3).1) (gi a1 (i64 (a3+1)))) b).1)=(gi a2.1 a3)) rfl h (λ hc h=> ?_) (λ hc h=> ?_)))))))))))
        .refine zbr (zbi (zbj (zaa ⟨_,v10_l8,h, ?_⟩)))
         refine Sub.trans (SubU.to SubU.drop) (so (l4 rfl rfl rfl rfl (lq rfl (lq rfl (lq rfl lt0)))))
        .refine zap (zaf (sr (qm (.row 1 zce y1) rfl (gq (zao (by kernel_rfl) rfl (qm (.xi 0) rfl (gc (zaq (zcz (m_network_choices_L14 a0 a1 a3 y1 b k237) (m_network_choices_B14 a0 a1 a3 y1 b k237) (λ _ _=>rfl) (λ m _ _=>rfl) h (λ(i:List (List (Int×Int×Int))) (d:Int) (v10_l14:Value)=>(pt (pt (pt (pt (pt (pt (pt (pt (pt (pt (pt AF0 3 (.xi a3)) 6 (.ptr (zay a2))) 9 (.row 1 zce y1)) 10 (.exact v10_l14)) 12 (pA b261 0)) 53 (.row 2 zbp (gi ((gi a0.1 a3).1) (gi a1 (i64 (a3+1)))))) 54 (.xi (List.length (gi ((gi a0.1 a3).1) (gi a1 (i64 (a3+1)))):Int))) 55 (.xi b)) 67 (.row 1 zce y1)) 68 (.xi (List.length y1:Int))) 69 (.xi d))) (λ(i:List (List (Int×Int×Int))) (d:Int) (v10_l14:Value)=>[vecT Tryz.prog 148 1 zce v10_l14 i,boxI 128 b261 [.xi ((gi (gi ((gi a0.1 a3).1) (gi a1 (i64 (a3+1)))) b).1), .xi ((gi (gi ((gi a0.1 a3).1) (gi a1 (i64 (a3+1)))) b).2)]]) v10_l8 ?_ (λ q i d v10_l14 h=> ?_))))))))))
         .refine Sub.trans (SubU.to SubU.f1) (so (l4 rfl rfl rfl rfl (l4 rfl rfl rfl rfl (lq rfl (lq rfl (lq rfl lt0))))))
         .unfold m_network_choices_B14 at h
          refine sr (gq (zbm rfl rfl (gc (zan (kd (p:=d<(List.length y1:Int)) rfl h (λ hc h=> ?_) (λ hc h=> ?_))))))
          .refine zap (zaf (zan (zaq (sr ?_))))
           obtain⟨n275,h⟩:=zad h
           refine gq (zai (by kernel_rfl) rfl rfl n275.1 n275.2 (gq (zak (a:= .row 3 zbv (gi y1 d)) (by kernel_rfl) rfl rfl (qa (.row 3 zbv (gi y1 d)) rfl (gc (kr (qm (.exact v10_l14) rfl (qm (.xi a3) rfl (gq (zba (o:=0) (by kernel_rfl) rfl (G_r rfl (opR_f1 (zaz (a:= .xi ((gi (gi ((gi a0.1 a3).1) (gi a1 (i64 (a3+1)))) b).1)) (by kernel_rfl) rfl rfl (gq (zba (o:=1) (by kernel_rfl) rfl (G_r rfl (opR_f1 (zaz (a:= .xi ((gi (gi ((gi a0.1 a3).1) (gi a1 (i64 (a3+1)))) b).2)) (by kernel_rfl) rfl rfl (gq (zft (c':=zbv (a3,(gi (gi ((gi a0.1 a3).1) (gi a1 (i64 (a3+1)))) b).1,(gi (gi ((gi a0.1 a3).1) (gi a1 (i64 (a3+1)))) b).2)) (CellsAll.cons rfl CellsOf.int (CellsAll.cons rfl CellsOf.int (CellsAll.cons rfl CellsOf.int CellsAll.nil))) rfl (lc lf (lc lf (lc lf ln))) (G_l rfl (op_litI (n:=3) (enc:=zbv) [(a3,(gi (gi ((gi a0.1 a3).1) (gi a1 (i64 (a3+1)))) b).1,(gi (gi ((gi a0.1 a3).1) (gi a1 (i64 (a3+1)))) b).2)] (by kernel_rfl) (CellsAll.cons rfl CellsOf.agg CellsAll.nil) rfl (by kernel_rfl) (LEss.cons (lc lf (lc lf (lc lf ln))) LEss.nil) (λ v276=>qm (.row 3 zbv (gi y1 d)) rfl ?_)))))))))))))))))))))))
           obtain⟨n277,h⟩:=zad h
           refine G_l rfl (zcu (by kernel_rfl) rfl rfl oc_c_api_Move n277 (λ v278=>G_sub rfl (SubU.freezeT (s:=82) rfl len_c_api_Move) (gq (zcd (n:=1) (enc:=zce) [([(a3,(gi (gi ((gi a0.1 a3).1) (gi a1 (i64 (a3+1)))) b).1,(gi (gi ((gi a0.1 a3).1) (gi a1 (i64 (a3+1)))) b).2)]++(gi y1 d))] (CellsAll.cons rfl CellsOf.row CellsAll.nil) rfl (by kernel_rfl) (LEss.cons (lc lf ln) LEss.nil) ?_))))
           obtain⟨n279,h⟩:=zad h
           refine G_l rfl (zcu (by kernel_rfl) rfl rfl oc_c_L_api_Move n279 (λ v280=>qa (.exact v280) rfl (zbc (zau (zaf (kr (gq (zbo rfl rfl rfl (qm (.xi (i64 (d+1))) rfl (zbc (zaa ⟨_,_,v280,h,so (l4 rfl rfl rfl rfl (l4 rfl rfl rfl rfl (lq rfl (lq rfl (lq rfl lt0)))))⟩)))))))))))
          .refine zbr (zbi (zbk (zbj (zau (zaa ⟨_,v10_l14,h, ?_⟩)))))
           refine Sub.trans (SubU.to SubU.f1) (Sub.trans (SubU.to SubU.drop) (so (l4 rfl rfl rfl rfl (lq rfl (lq rfl (lq rfl lt0))))))
       .refine kr (gq (zbo rfl rfl rfl (qm (.xi (i64 (b+1))) rfl (zbc (zaa ⟨_,_,v10_j237,h,so (l4 rfl rfl rfl rfl (lq rfl (lq rfl (lq rfl lt0))))⟩)))))
      .refine zbr (zbi (zbk (zbj (zaa ⟨_,v10_l8,h,s1 rfl⟩))))
    .refine sr (qm (.exact v10_j4) rfl (qa (.exact v10_j4) rfl (gc (zbn ?_))))
     obtain rfl:=oi h
     refine ke (pt AF0 8 (.row 1 zce e)) [] rfl (Sub.trans (SubU.to (SubU.freezeT (s:=8) rfl len_c_L_api_Move)) (s1 rfl)) ⟨rfl,rfl⟩
theorem m_network_choices_S_ok: ∀n:Nat,(∀(a0:(List ((List (List (Int×Int)))×(List (List UInt8))))×(List ((List UInt8)×(List Bool)×(List ((List Int)×Int×Int))))) (a1:List Int) (a2:(List Int)×Int×Int) (a3:Int) (r:(List (List (Int×Int×Int)))),m_network_choices_S n a0 a1 a2 a3=some r->Pure Tryz.prog 72 [(.agg (zbb a0)),(.row 1 zav a1),(.agg (zay a2)),(.exact (.int .i64 a3))] (.row 1 zce r))
  |0=>(λ _ _ _ _ _ h=>by have h':(none:Option _)=some _:=h;cases h')
  |n+1=>by
    have ih:=m_network_choices_S_ok n
    exact λ a0 a1 a2 a3 r h=>m_network_choices_F_ok (m_network_choices_S n) ih a0 a1 a2 a3 r h
theorem m_network_choices_ok (a0:(List ((List (List (Int×Int)))×(List (List UInt8))))×(List ((List UInt8)×(List Bool)×(List ((List Int)×Int×Int))))) (a1:List Int) (a2:(List Int)×Int×Int) (a3:Int) (r:(List (List (Int×Int×Int)))) (h:m_network_choices a0 a1 a2 a3=some r):Pure Tryz.prog 72 [(.agg (zbb a0)),(.row 1 zav a1),(.agg (zay a2)),(.exact (.int .i64 a3))] (.row 1 zce r):=(m_network_choices_S_ok FU) a0 a1 a2 a3 r h
theorem m_slices_Clone_L_int_int_ok (a0:List Int) (r:(List Int)) (h:zhq a0=some r):Fun Tryz.prog 73 [(.row 1 zav a0)] [] (λ a s=> ∃z0,a= .exact z0/\s=[vecT Tryz.prog 22 1 zav z0 r]):=by
 unfold zhq at h
 refine zam func73 rfl ntmps73 (by simp) rfl (res1 rfl) λ E hE=>zca (sr (qa (.exact (.slice none 0 0)) rfl (gc (zan (sr (qm (.row 1 zav a0) rfl (gq (op_eqnil_row (by kernel_rfl) rfl (gc ?_)))))))))
 obtain⟨h1,h⟩:=nilcD_some h
 refine k_cond_u (p:=a0=[]) rfl (λ hc=> ?_) ?_
 .replace h:=h1 hc
  refine sr (qa (.exact (.slice none 0 0)) rfl (gc (zbn (zdb ?_))))
  obtain rfl:=oi h
  refine ke (pt AF0 2 (.exact (.slice none 0 0))) [vecT Tryz.prog 22 1 zav (.slice none 0 0) []] rfl (Sub.trans (SubU.to (SubU.nilT (P:=Tryz.prog) (t:=22) (n:=1) (enc:=zav))) (s1 rfl)) ⟨(.slice none 0 0),rfl,rfl⟩
 .refine zap (zaf (sr (G_l rfl (op_lit0I (enc:=zav) (n:=1) (by kernel_rfl) (λ v1=>qm (.row 1 zav a0) rfl ?_)))))
  obtain⟨n2,h⟩:=zad h
  refine G_l rfl (zcu (by kernel_rfl) rfl rfl oc_c_int n2 (λ v3=>qa (.exact v3) rfl (gc (zbn ?_))))
  obtain rfl:=oi h
  refine ke (pt AF0 2 (.exact v3)) [vecT Tryz.prog 22 1 zav v3 (([]:List Int)++a0)] rfl (s1 rfl) ⟨v3,rfl,rfl⟩
theorem zff (a0:List (Int×Int×Int)) (a1:List (Int×Int×Int)) (a2:(Int×Int×Int)->(Int×Int×Int)->Option Int) (r:Int) (h:zcv a0 a1 a2=some r):Pure Tryz.prog 118 [(.row 3 zbv a0),(.row 3 zbv a1),(.fn Tryz.prog (λ(i:(Int×Int×Int)×(Int×Int×Int))=>[.agg (zbv i.1), .agg (zbv i.2)]) (λ(i:(Int×Int×Int)×(Int×Int×Int))=>a2 i.1 i.2) (λ(r:Int)=> .exact (.int .i64 r)))] (.exact (.int .i64 r)):=by
 unfold zcv at h
 refine Pure.ofFun (zam func118 rfl ntmps118 (by simp) rfl (res1 rfl) λ E hE=>zca (sr (qa (.xi 0) rfl (gc (zbw h ((pt (pt AF0 0 (.row 3 zbv a0)) 1 (.row 3 zbv a1))) ([]) (λ k1 h=> ?_) (λ  h=> ?_))))))
 .refine sr (qm (.row 3 zbv a0) rfl (gq (zao (by kernel_rfl) rfl (qm (.xi 0) rfl (gc (zaq (zcr (zcq a0 a1 a2 k1) (zcp a0 a1 a2 k1) (λ _=>rfl) (λ m _=>rfl) h (λ(a:Int)=>(pt (pt (pt (pt (pt (pt AF0 0 (.row 3 zbv a0)) 1 (.row 3 zbv a1)) 2 (.fn Tryz.prog (λ(i:(Int×Int×Int)×(Int×Int×Int))=>[.agg (zbv i.1), .agg (zbv i.2)]) (λ(i:(Int×Int×Int)×(Int×Int×Int))=>a2 i.1 i.2) (λ(r:Int)=> .xi r))) 11 (.row 3 zbv a0)) 12 (.xi (List.length a0:Int))) 13 (.xi a))) (λ(a:Int)=>[]) ?_ (λ d a h=> ?_))))))))
  .exact so (l4 rfl rfl rfl rfl (lq rfl (lq rfl lt0)))
  .unfold zcp at h
   refine sr (gq (zbm rfl rfl (gc (zan (kd (p:=a<(List.length a0:Int)) rfl h (λ hc h=> ?_) (λ hc h=> ?_))))))
   .refine zap (zaf (zan (zaq (sr (qm (.xi a) rfl ?_)))))
    obtain⟨n28,h⟩:=zad h
    refine gq (zai (by kernel_rfl) rfl rfl n28.1 n28.2 (gq (zbx (m:=3) (c':=zbv (gi a0 a)) (by kernel_rfl) rfl rfl rfl (G_l rfl (zel (c:=[.xi ((0,0,0).1), .xi ((0,0,0).2.1), .xi ((0,0,0).2.2)]) rfl (lc lf (lc lf (lc lf ln))) (λ b29=>qa (.xi a) rfl (G_l rfl (zbz (c':=[.xi ((gi a0 a).1), .xi ((gi a0 a).2.1), .xi ((gi a0 a).2.2)]) (c3:=[.xi ((gi a0 a).1), .xi ((gi a0 a).2.1), .xi ((gi a0 a).2.2)]) rfl rfl CellsOf.agg (lc lf (lc lf (lc lf ln))) (oc_c_api_Move _) (by kernel_rfl) (Nat.le_of_ble_eq_true rfl) rfl (gc (zan (sr (qm (.xi a) rfl (qm (.row 3 zbv a1) rfl (gq (zao (by kernel_rfl) rfl (gq (zgm rfl rfl (gc (kd (p:=(List.length a1:Int)≤a) rfl h (λ hc h=> ?_) (λ hc h=> ?_))))))))))))))))))))
    .refine sr (qa (.xi 1) rfl (gc (zbn (zdb (zde (zdb (zek (zde (zek ?_)))))))))
     obtain rfl:=oi h
     refine ke (pt AF0 6 (.xi 1)) [] rfl (Sub.trans (SubU.to SubU.drop) (s1 rfl)) ⟨rfl,rfl⟩
    .refine zap (zaf (sr (qm (.row 3 zbv a1) rfl (qm (.xi a) rfl ?_))))
     obtain⟨n30,h⟩:=zad h
     refine gq (zai (by kernel_rfl) rfl rfl n30.1 n30.2 (gq (zbx (m:=3) (c':=zbv (gi a1 a)) (by kernel_rfl) rfl rfl rfl (G_l rfl (zel (c:=[.xi ((0,0,0).1), .xi ((0,0,0).2.1), .xi ((0,0,0).2.2)]) rfl (lc lf (lc lf (lc lf ln))) (λ b31=>G_l rfl (zbz (c':=[.xi ((gi a1 a).1), .xi ((gi a1 a).2.1), .xi ((gi a1 a).2.2)]) (c3:=[.xi ((gi a1 a).1), .xi ((gi a1 a).2.1), .xi ((gi a1 a).2.2)]) rfl rfl CellsOf.agg (lc lf (lc lf (lc lf ln))) (oc_c_api_Move _) (by kernel_rfl) (Nat.le_of_ble_eq_true rfl) rfl (gd (qm (.fn Tryz.prog (λ(i:(Int×Int×Int)×(Int×Int×Int))=>[.agg (zbv i.1), .agg (zbv i.2)]) (λ(i:(Int×Int×Int)×(Int×Int×Int))=>a2 i.1 i.2) (λ(r:Int)=> .xi r)) rfl (G_r rfl (opR_f1 (zei (m:=3) (c':=zbv ((gi a0 a).1,(gi a0 a).2.1,(gi a0 a).2.2)) (by kernel_rfl) rfl rfl rfl (G_r rfl (zei (m:=3) (c':=zbv ((gi a1 a).1,(gi a1 a).2.1,(gi a1 a).2.2)) (by kernel_rfl) rfl rfl rfl ?_))))))))))))))
     obtain⟨y32,b,h⟩:=zae h
     refine gq (op_callfn (((gi a0 a).1,(gi a0 a).2.1,(gi a0 a).2.2),((gi a1 a).1,(gi a1 a).2.1,(gi a1 a).2.2)) rfl b (lc lf (lc lf ln)) (qa (.xi y32) rfl (gd (qm (.xi y32) rfl (gq (zfr rfl rfl (gc (kd (p:= ¬y32=0) rfl h (λ hc h=> ?_) (λ hc h=> ?_)))))))))
     .refine sr (qm (.xi y32) rfl (qa (.xi y32) rfl (gc (zbn (zde (zdb (zek (zde (zek ?_)))))))))
      obtain rfl:=oi h
      refine ke (pt AF0 6 (.xi y32)) [] rfl (Sub.trans (SubU.to SubU.drop) (Sub.trans (SubU.to SubU.drop) (s1 rfl))) ⟨rfl,rfl⟩
     .refine zap (zau (zaf (kr (gq (zbo rfl rfl rfl (qm (.xi (i64 (a+1))) rfl (zbc (zaa ⟨_,h, ?_⟩))))))))
      refine Sub.trans (SubU.to SubU.drop) (Sub.trans (SubU.to SubU.drop) (so (l4 rfl rfl rfl rfl (lq rfl (lq rfl lt0)))))
   .refine zbr (zbi (zbk (zbj (zaa ⟨h,s2 rfl rfl⟩))))
 .refine zan (sr (qm (.row 3 zbv a0) rfl (gq (zao (by kernel_rfl) rfl (qm (.row 3 zbv a1) rfl (gq (zao (by kernel_rfl) rfl (gq (zbm rfl rfl (gc (kd (p:=(List.length a0:Int)<(List.length a1:Int)) rfl h (λ hc h=> ?_) (λ hc h=> ?_))))))))))))
  .refine sr (qa (.xi (-1)) rfl (gc (zbn (zdb ?_))))
   obtain rfl:=oi h
   refine ke (pt AF0 6 (.xi (-1))) [] rfl (s1 rfl) ⟨rfl,rfl⟩
  .refine zap (zaf (sr (qa (.xi 0) rfl (gc (zbn ?_)))))
   obtain rfl:=oi h
   refine ke (pt AF0 6 (.xi 0)) [] rfl (s1 rfl) ⟨rfl,rfl⟩
theorem m_network_compareMoves_ok (a0:Int×Int×Int) (a1:Int×Int×Int) (r:Int) (h:m_network_compareMoves a0 a1=some r):Pure Tryz.prog 119 [(.agg (zbv a0)),(.agg (zbv a1))] (.exact (.int .i64 r)):=by
 unfold m_network_compareMoves at h
 refine Pure.ofFun (zam func119 rfl ntmps119 (by simp) rfl (res1 rfl) λ E hE=>zca (sr (gq (zfe (c:=zbv a0) rfl CellsOf.agg (gq (zfe (c:=zbv a1) rfl CellsOf.agg (qa (.xi 0) rfl (gc (zan (zck [] [(0,0),(0,1),(0,2),(0,3),(0,4),(0,5),(0,6),(0,7),(0,8),(0,9),(0,10),(0,11),(0,12),(0,13),(0,14),(0,15),(0,16),(0,17)] hmixP (by kernel_rfl) (pq rfl (zaj (o:=0) (c':=(List.drop 0 (zbv a0))) (by kernel_rfl) rfl rfl (pq rfl (zak (a:= .xi a0.1) (by kernel_rfl) rfl rfl (pq rfl (zaj (o:=0) (c':=(List.drop 0 (zbv a1))) (by kernel_rfl) rfl rfl (pq rfl (zak (a:= .xi a1.1) (by kernel_rfl) rfl rfl ?_))))))))))))))))))
 obtain⟨y1,b,h⟩:=zae h
 refine pq rfl (zal (zer _ _ _ b) func116 (by kernel_rfl) (lc lf (lc lf ln)) (pq rfl (zaj (o:=1) (c':=(List.drop 1 (zbv a0))) (by kernel_rfl) rfl rfl (pq rfl (zak (a:= .xi a0.2.1) (by kernel_rfl) rfl rfl (pq rfl (zaj (o:=1) (c':=(List.drop 1 (zbv a1))) (by kernel_rfl) rfl rfl (pq rfl (zak (a:= .xi a1.2.1) (by kernel_rfl) rfl rfl ?_)))))))))
 obtain⟨y2,d,h⟩:=zae h
 refine pq rfl (zal (zer _ _ _ d) func116 (by kernel_rfl) (lc lf (lc lf ln)) (pq rfl (zaj (o:=2) (c':=(List.drop 2 (zbv a0))) (by kernel_rfl) rfl rfl (pq rfl (zak (a:= .xi a0.2.2) (by kernel_rfl) rfl rfl (pq rfl (zaj (o:=2) (c':=(List.drop 2 (zbv a1))) (by kernel_rfl) rfl rfl (pq rfl (zak (a:= .xi a1.2.2) (by kernel_rfl) rfl rfl ?_)))))))))
 obtain⟨y3,e,h⟩:=zae h
 refine pq rfl (zal (zer _ _ _ e) func116 (by kernel_rfl) (lc lf (lc lf ln)) (pq rfl (zcd (n:=1) (enc:=zav) [y1,y2,y3] (CellsAll.cons rfl CellsOf.int (CellsAll.cons rfl CellsOf.int (CellsAll.cons rfl CellsOf.int CellsAll.nil))) rfl (by kernel_rfl) (LEss.cons (lc lf ln) (LEss.cons (lc lf ln) (LEss.cons (lc lf ln) LEss.nil))) ?_)))
 obtain⟨y4,f,h⟩:=zae h
 refine pq rfl (zal (m_cmp_Or_int_ok _ _ f) func115 (by kernel_rfl) (lc lf ln) (pq rfl (zcj (av:= .xi y4) rfl (zcn (zaf (zbn ?_))))))
 obtain rfl:=oi h
 refine ke (pt AF0 4 (.xi y4)) [] rfl (s1 rfl) ⟨rfl,rfl⟩
theorem m_network_compareSteps_ok (a0:Int×(List Int)×(List (Int×Int×Int))) (a1:Int×(List Int)×(List (Int×Int×Int))) (r:Int) (h:zdj a0 a1=some r):Pure Tryz.prog 75 [(.agg (zbe a0)),(.agg (zbe a1))] (.exact (.int .i64 r)):=by
 unfold zdj at h
 refine Pure.ofFun (zam func75 rfl ntmps75 (by simp) rfl (res1 rfl) λ E hE=>zca (sr (gq (zfe (c:=zbe a0) rfl CellsOf.agg (gq (zfe (c:=zbe a1) rfl CellsOf.agg (qa (.xi 0) rfl (gc (zan (zck [] [(0,0),(0,1),(0,2),(0,3),(0,4),(0,5),(0,6),(0,7),(0,8),(0,9),(0,10),(0,11),(0,12),(0,13),(0,14),(0,15),(0,16),(0,17)] hmixP (by kernel_rfl) (pq rfl (zaj (o:=0) (c':=(List.drop 0 (zbe a0))) (by kernel_rfl) rfl rfl (pq rfl (zak (a:= .xi a0.1) (by kernel_rfl) rfl rfl (pq rfl (zaj (o:=0) (c':=(List.drop 0 (zbe a1))) (by kernel_rfl) rfl rfl (pq rfl (zak (a:= .xi a1.1) (by kernel_rfl) rfl rfl ?_))))))))))))))))))
 obtain⟨y1,b,h⟩:=zae h
 refine pq rfl (zal (zer _ _ _ b) func116 (by kernel_rfl) (lc lf (lc lf ln)) (pq rfl (zaj (o:=1) (c':=(List.drop 1 (zbe a0))) (by kernel_rfl) rfl rfl (pq rfl (zak (a:= .row 1 zav a0.2.1) (by kernel_rfl) rfl rfl (pq rfl (zaj (o:=1) (c':=(List.drop 1 (zbe a1))) (by kernel_rfl) rfl rfl (pq rfl (zak (a:= .row 1 zav a1.2.1) (by kernel_rfl) rfl rfl ?_)))))))))
 obtain⟨y2,d,h⟩:=zae h
 refine pq rfl (zal (m_slices_Compare_L_int_int_ok _ _ _ d) func117 (by kernel_rfl) (lc lf (lc lf ln)) (pq rfl (zaj (o:=2) (c':=(List.drop 2 (zbe a0))) (by kernel_rfl) rfl rfl (pq rfl (zak (a:= .row 3 zbv a0.2.2) (by kernel_rfl) rfl rfl (pq rfl (zaj (o:=2) (c':=(List.drop 2 (zbe a1))) (by kernel_rfl) rfl rfl (pq rfl (zak (a:= .row 3 zbv a1.2.2) (by kernel_rfl) rfl rfl ?_)))))))))
 obtain⟨y3,e,h⟩:=zae h
 refine pq rfl (zal (zff _ _ _ _ e) func118 (by kernel_rfl) (lc lf (lc lf (lc ((fn_le func119 (by kernel_rfl) (λ i r h=>m_network_compareMoves_ok i.1 i.2 r h))) ln))) (pq rfl (zcd (n:=1) (enc:=zav) [y1,y2,y3] (CellsAll.cons rfl CellsOf.int (CellsAll.cons rfl CellsOf.int (CellsAll.cons rfl CellsOf.int CellsAll.nil))) rfl (by kernel_rfl) (LEss.cons (lc lf ln) (LEss.cons (lc lf ln) (LEss.cons (lc lf ln) LEss.nil))) ?_)))
 obtain⟨y4,f,h⟩:=zae h
 refine pq rfl (zal (m_cmp_Or_int_ok _ _ f) func115 (by kernel_rfl) (lc lf ln) (pq rfl (zcj (av:= .xi y4) rfl (zcn (zaf (zbn ?_))))))
 obtain rfl:=oi h
 refine ke (pt AF0 4 (.xi y4)) [] rfl (s1 rfl) ⟨rfl,rfl⟩
theorem m_slices_CompactFunc_L_api_Step_api_Step_ok {w0:Value} (a0:List (Int×(List Int)×(List (Int×Int×Int)))) (a1:(Int×(List Int)×(List (Int×Int×Int)))->(Int×(List Int)×(List (Int×Int×Int)))->Option Bool) (r:(List (Int×(List Int)×(List (Int×Int×Int))))) (h:zci a0 a1=some r):Fun Tryz.prog 77 [(.exact w0),(.fn Tryz.prog (λ(i:(Int×(List Int)×(List (Int×Int×Int)))×(Int×(List Int)×(List (Int×Int×Int))))=>[.agg (zbe i.1), .agg (zbe i.2)]) (λ(i:(Int×(List Int)×(List (Int×Int×Int)))×(Int×(List Int)×(List (Int×Int×Int))))=>a1 i.1 i.2) (λ(r:Bool)=> .exact (.bool r)))] [vecT Tryz.prog 45 3 zbe w0 a0] (λ a s=>a= .row 3 zbe r/\s=[]):=by
 unfold zci at h
 refine zam func77 rfl ntmps77 (by simp) rfl (res1 rfl) λ E hE=>zca (sr (qa (.exact (.slice none 0 0)) rfl (gc (zan (sr (qm (.exact w0) rfl (G_r rfl (zcl (by kernel_rfl) rfl (gq (zbm rfl rfl (gc (kd (p:=(List.length a0:Int)<2) rfl h (λ hc h=> ?_) (λ hc h=> ?_)))))))))))))
 .refine sr (qm (.exact w0) rfl (qa (.exact w0) rfl (gc (zbn (zdb ?_)))))
  obtain rfl:=oi h
  refine ke (pt AF0 4 (.row 3 zbe a0)) [] rfl (Sub.trans (SubU.to (SubU.freezeT (s:=4) rfl zex)) (s1 rfl)) ⟨rfl,rfl⟩
 .refine zap (zaf (zbw h ((pt AF0 0 (.exact w0))) ([vecT Tryz.prog 45 3 zbe w0 a0]) (λ k1 h=> ?_) (λ  h=> ?_)))
  .refine sr (qa (.xi 1) rfl (gc (zaq (zcr (zdx a0 a1 k1) (zdw a0 a1 k1) (λ _=>rfl) (λ m _=>rfl) h (λ(b:Int)=>(pt (pt (pt AF0 0 (.exact w0)) 1 (.fn Tryz.prog (λ(i:(Int×(List Int)×(List (Int×Int×Int)))×(Int×(List Int)×(List (Int×Int×Int))))=>[.agg (zbe i.1), .agg (zbe i.2)]) (λ(i:(Int×(List Int)×(List (Int×Int×Int)))×(Int×(List Int)×(List (Int×Int×Int))))=>a1 i.1 i.2) (λ(r:Bool)=> .xb r))) 5 (.xi b))) (λ(b:Int)=>[vecT Tryz.prog 45 3 zbe w0 a0]) ?_ (λ t b h=> ?_)))))
   .exact s3 rfl rfl rfl
   .unfold zdw at h
    refine zan (sr (qm (.xi b) rfl (qm (.exact w0) rfl (G_r rfl (zcl (by kernel_rfl) rfl (gq (zbm rfl rfl (gc (kd (p:=b<(List.length a0:Int)) rfl h (λ hc h=> ?_) (λ hc h=> ?_))))))))))
    .refine zap (zaf (zbw h ((pt (pt (pt AF0 0 (.exact w0)) 1 (.fn Tryz.prog (λ(i:(Int×(List Int)×(List (Int×Int×Int)))×(Int×(List Int)×(List (Int×Int×Int))))=>[.agg (zbe i.1), .agg (zbe i.2)]) (λ(i:(Int×(List Int)×(List (Int×Int×Int)))×(Int×(List Int)×(List (Int×Int×Int))))=>a1 i.1 i.2) (λ(r:Bool)=> .xb r))) 5 (.xi b))) ([vecT Tryz.prog 45 3 zbe w0 a0]) (λ k758 h=> ?_) (λ  h=> ?_)))
     .refine zaq (zan (zck [] [(0,0),(0,1),(0,2),(0,5),(0,6),(0,7),(1,3),(1,4),(1,8),(1,9),(0,10)] hmixP (by kernel_rfl) (pq rfl (zah (av:= .fn Tryz.prog (λ(i:(Int×(List Int)×(List (Int×Int×Int)))×(Int×(List Int)×(List (Int×Int×Int))))=>[.agg (zbe i.1), .agg (zbe i.2)]) (λ(i:(Int×(List Int)×(List (Int×Int×Int)))×(Int×(List Int)×(List (Int×Int×Int))))=>a1 i.1 i.2) (λ(r:Bool)=> .xb r)) rfl (pq rfl (zah (av:= .exact w0) rfl (pq rfl (zah (av:= .xi b) rfl (pq rfl (zah (av:= .exact w0) rfl (pq rfl (zah (av:= .xi b) rfl (pq rfl (op_sub rfl rfl rfl ?_))))))))))))))
      obtain⟨n834,h⟩:=zad h
      refine P_r rfl (zbl (by kernel_rfl) rfl rfl n834.1 n834.2 (P_r rfl (zet (i:=b) (o:=0) (m:=3) (c':=zbe (gi a0 b)) (by kernel_rfl) zex rfl n834.1 n834.2 rfl rfl ?_)))
      obtain⟨n835,h⟩:=zad h
      refine P_r rfl (zbl (by kernel_rfl) rfl rfl n835.1 n835.2 (P_r rfl (zet (i:=i64 (b - 1)) (o:=0) (m:=3) (c':=zbe (gi a0 (i64 (b - 1)))) (by kernel_rfl) zex rfl n835.1 n835.2 rfl rfl ?_)))
      obtain⟨y836,n,h⟩:=zae h
      refine pq rfl (op_callfn (gi a0 b,gi a0 (i64 (b - 1))) rfl n (lc lf (lc lf ln)) (zcn (zaf (kb (p:=y836) rfl h (λ hc h=> ?_) (λ hc h=> ?_)))))
      .refine sr (qm (.exact w0) rfl (qm (.xi b) rfl ?_))
       obtain⟨n837,h⟩:=zad h
       refine G_r rfl (zeh (by kernel_rfl) rfl (zdn rfl) zdu n837.1 n837.2.1 n837.2.2 (qa (.vsub w0 3 (Int.toNat b) (Int.toNat (List.length a0:Int) - Int.toNat b)) rfl (gc (k_join2_0 h (λ(f:List (Int×(List Int)×(List (Int×Int×Int)))) (d:Int)=>(pt (pt AF0 0 (.exact w0)) 5 (.xi d))) (λ(f:List (Int×(List Int)×(List (Int×Int×Int)))) (d:Int)=>[vecT Tryz.prog 45 3 zbe w0 f]) (λ k838 h=> ?_) (λ f d h=> ?_)))))
       .refine sr (qa (.xi 1) rfl (gc (zaq (k_loop3_0 (zdy a0 a1 b k838) (zdv a0 a1 b k838) (λ _ _ _=>rfl) (λ m _ _ _=>rfl) h (λ(e:List (Int×(List Int)×(List (Int×Int×Int)))) (g:Int) (c:Int)=>(pt (pt (pt (pt (pt AF0 0 (.exact w0)) 1 (.fn Tryz.prog (λ(i:(Int×(List Int)×(List (Int×Int×Int)))×(Int×(List Int)×(List (Int×Int×Int))))=>[.agg (zbe i.1), .agg (zbe i.2)]) (λ(i:(Int×(List Int)×(List (Int×Int×Int)))×(Int×(List Int)×(List (Int×Int×Int))))=>a1 i.1 i.2) (λ(r:Bool)=> .xb r))) 5 (.xi g)) 6 (.vsub w0 3 (Int.toNat b) (Int.toNat (List.length a0:Int) - Int.toNat b))) 7 (.xi c))) (λ(e:List (Int×(List Int)×(List (Int×Int×Int)))) (g:Int) (c:Int)=>[vecT Tryz.prog 45 3 zbe w0 e]) ?_ (λ u e g c h=> ?_)))))
        .exact so (l4 rfl rfl rfl rfl (lq rfl lt0))
        .unfold zdv at h
         refine zan (sr (qm (.xi c) rfl (qm (.vsub w0 3 (Int.toNat b) (Int.toNat (List.length a0:Int) - Int.toNat b)) rfl (gq (op_len_vsub (by kernel_rfl) rfl (gq (zbm rfl rfl (gc (kd (p:=c<((Int.toNat (List.length a0:Int) - Int.toNat b:Nat):Int)) rfl h (λ hc h=> ?_) (λ hc h=> ?_))))))))))
         .refine zap (zaf (k_join2_0 h (λ(k:List (Int×(List Int)×(List (Int×Int×Int)))) (l:Int)=>(pt (pt (pt (pt (pt AF0 0 (.exact w0)) 1 (.fn Tryz.prog (λ(i:(Int×(List Int)×(List (Int×Int×Int)))×(Int×(List Int)×(List (Int×Int×Int))))=>[.agg (zbe i.1), .agg (zbe i.2)]) (λ(i:(Int×(List Int)×(List (Int×Int×Int)))×(Int×(List Int)×(List (Int×Int×Int))))=>a1 i.1 i.2) (λ(r:Bool)=> .xb r))) 5 (.xi l)) 6 (.vsub w0 3 (Int.toNat b) (Int.toNat (List.length a0:Int) - Int.toNat b))) 7 (.xi c))) (λ(k:List (Int×(List Int)×(List (Int×Int×Int)))) (l:Int)=>[vecT Tryz.prog 45 3 zbe w0 k]) (λ k895 h=> ?_) (λ k l h=> ?_)))
          .refine zaq (zan (zck [] [(0,0),(0,1),(0,2),(0,5),(0,6),(0,7),(1,3),(1,4),(1,8),(1,9),(0,10),(0,11)] hmixP (by kernel_rfl) (pq rfl (zah (av:= .fn Tryz.prog (λ(i:(Int×(List Int)×(List (Int×Int×Int)))×(Int×(List Int)×(List (Int×Int×Int))))=>[.agg (zbe i.1), .agg (zbe i.2)]) (λ(i:(Int×(List Int)×(List (Int×Int×Int)))×(Int×(List Int)×(List (Int×Int×Int))))=>a1 i.1 i.2) (λ(r:Bool)=> .xb r)) rfl (pq rfl (zah (av:= .vsub w0 3 (Int.toNat b) (Int.toNat (List.length a0:Int) - Int.toNat b)) rfl (pq rfl (zah (av:= .xi c) rfl (pq rfl (zah (av:= .vsub w0 3 (Int.toNat b) (Int.toNat (List.length a0:Int) - Int.toNat b)) rfl (pq rfl (zah (av:= .xi c) rfl (pq rfl (op_sub rfl rfl rfl ?_))))))))))))))
           obtain⟨n901,h⟩:=zad h
           refine P_r rfl (op_index_vsub (j:=(b+c)) (by kernel_rfl) rfl rfl n901.2.1 (by have hh:=n901;try simp only[i64]at *;omega) (by have hh:=n901;try simp only[i64]at *;omega) (by have hh:=n901;try simp only[i64]at *;omega) (P_r rfl (zet (i:=(b+c)) (o:=0) (m:=3) (c':=zbe (gi e (b+c))) (by kernel_rfl) zex rfl n901.2.2.2.1 n901.2.2.2.2 rfl rfl ?_)))
           obtain⟨n902,h⟩:=zad h
           refine P_r rfl (op_index_vsub (j:=(b+(i64 (c - 1)))) (by kernel_rfl) rfl rfl n902.2.1 (by have hh:=n902;try simp only[i64]at *;omega) (by have hh:=n902;try simp only[i64]at *;omega) (by have hh:=n902;try simp only[i64]at *;omega) (P_r rfl (zet (i:=(b+(i64 (c - 1)))) (o:=0) (m:=3) (c':=zbe (gi e (b+(i64 (c - 1))))) (by kernel_rfl) zex rfl n902.2.2.2.1 n902.2.2.2.2 rfl rfl ?_)))
           obtain⟨y903,q,h⟩:=zae h
           refine pq rfl (op_callfn (gi e (b+c),gi e (b+(i64 (c - 1)))) rfl q (lc lf (lc lf ln)) (pq rfl (zdh rfl (zcn (zaf (kb (p:= !y903) rfl h (λ hc h=> ?_) (λ hc h=> ?_)))))))
           .refine sr (qm (.exact w0) rfl (qm (.xi g) rfl (qm (.vsub w0 3 (Int.toNat b) (Int.toNat (List.length a0:Int) - Int.toNat b)) rfl (qm (.xi c) rfl ?_))))
            obtain⟨n904,h⟩:=zad h
            refine G_r rfl (op_index_vsub (j:=(b+c)) (by kernel_rfl) rfl rfl n904.2.1 (by have hh:=n904;try simp only[i64]at *;omega) (by have hh:=n904;try simp only[i64]at *;omega) (by have hh:=n904;try simp only[i64]at *;omega) (G_r rfl (zet (i:=(b+c)) (o:=0) (m:=3) (c':=zbe (gi e (b+c))) (by kernel_rfl) zex rfl n904.2.2.2.1 n904.2.2.2.2 rfl rfl ?_)))
            obtain⟨n905,h⟩:=zad h
            refine G_r rfl (zbl (by kernel_rfl) rfl rfl n905.1 n905.2 (G_l rfl (zcm (i:=g) (o:=0) (z:=gi e (b+c)) (c':=[.xi ((gi e (b+c)).1), .row 1 zav ((gi e (b+c)).2.1), .row 3 zbv ((gi e (b+c)).2.2)]) (by kernel_rfl) zex rfl n905.1 n905.2 rfl CellsOf.agg (lc lf (lc lf (lc lf ln))) (oc_c_api_Step _) (by kernel_rfl) (Nat.le_of_ble_eq_true rfl) rfl (gc (kr (qm (.xi g) rfl (gq (zbo rfl rfl rfl (qa (.xi (i64 (g+1))) rfl (zbc (zau (zaa ⟨_,_,h,so (l4 rfl rfl rfl rfl (lq rfl lt0))⟩))))))))))))
           .refine zap (zau (zaa ⟨_,_,h,so (l4 rfl rfl rfl rfl (lq rfl lt0))⟩))
          .refine kr (qm (.xi c) rfl (gq (zbo rfl rfl rfl (qa (.xi (i64 (c+1))) rfl (zbc (zaa ⟨_,_,_,h,so (l4 rfl rfl rfl rfl (lq rfl lt0))⟩))))))
         .refine zbr (zbi (zbk (zbj (zaa ⟨_,_,h,s2 rfl rfl⟩))))
       .refine sr (qm (.exact w0) rfl (qm (.xi d) rfl ?_))
        obtain⟨n906,h⟩:=zad h
        refine G_r rfl (zeh (by kernel_rfl) rfl (zdn rfl) zdu n906.1 n906.2.1 n906.2.2 (G_l rfl (op_clear (zr:=(0,[],[])) (by kernel_rfl) zex oc_c_api_Step rfl (by have:=n906;omega) zeroValue50 (λ _ _=>(Fit.ex (Fit.rw0 (Fit.rw0 Fit.nil0)))) (gd (qm (.exact w0) rfl (qm (.xi d) rfl (G_sub rfl (SubU.freezeT3 (s1:=0) (s2:=59) (s3:=62) rfl rfl rfl zex) ?_)))))))
        obtain⟨n907,h⟩:=zad h
        refine gq (op_slice_rowt (by kernel_rfl) rfl zdu (zdn rfl) (Int.le_refl 0) n907.1 n907.2 (qa (.row 3 zbe (List.take (Int.toNat d) (List.take (Int.toNat d) f++List.replicate (Int.toNat (List.length f:Int) - Int.toNat d) ((0,[],[]):Int×(List Int)×(List (Int×Int×Int)))++List.drop (Int.toNat d+(Int.toNat (List.length f:Int) - Int.toNat d)) f))) rfl (gc (zbn (zde (zek (zek (zde (zek ?_)))))))))
        obtain rfl:=oi h
        refine ke (pt AF0 4 (.row 3 zbe (List.take (Int.toNat d) (List.take (Int.toNat d) f++List.replicate (Int.toNat (List.length f:Int) - Int.toNat d) ((0,[],[]):Int×(List Int)×(List (Int×Int×Int)))++List.drop (Int.toNat d+(Int.toNat (List.length f:Int) - Int.toNat d)) f)))) [] rfl (s1 rfl) ⟨rfl,rfl⟩
      .refine zap (zau (zaa ⟨h,s3 rfl rfl rfl⟩))
     .refine kr (qm (.xi b) rfl (gq (zbo rfl rfl rfl (qa (.xi (i64 (b+1))) rfl (zbc (zaa ⟨_,h,s3 rfl rfl rfl⟩))))))
    .refine zbr (zbi (zbk (zbj (zaa ⟨h,s1 rfl⟩))))
  .refine sr (qm (.exact w0) rfl (qa (.exact w0) rfl (gc (zbn ?_))))
   obtain rfl:=oi h
   refine ke (pt AF0 4 (.row 3 zbe a0)) [] rfl (Sub.trans (SubU.to (SubU.freezeT (s:=4) rfl zex)) (s1 rfl)) ⟨rfl,rfl⟩
end
noncomputable section
open Go.RowKit Go.Sort
set_option maxRecDepth 100000
def layf_ren:Go.Shelf.Ren:=⟨λ|129=>164|246=>82|283=>134|284=>135|285=>136|286=>137|317=>182|318=>183|319=>184|320=>185|337=>226|338=>227|n=>n,λ|0=>0|2=>2|3=>3|4=>4|5=>5|9=>9|20=>20|37=>52|46=>174|51=>241|53=>210|171=>209|173=>213|212=>254|213=>255|232=>318|233=>319|n=>n,λ|17=>0|18=>1|19=>2|n=>n⟩
theorem layf:Go.Proofs.LaysM.n246 Tryz.prog layf_ren where
  mixed:=by kernel_rfl
  f129:=func164.trans (congrArg some (by kernel_rfl))
  f246:=func82.trans (congrArg some (by kernel_rfl))
  f283:=func134.trans (congrArg some (by kernel_rfl))
  f284:=func135.trans (congrArg some (by kernel_rfl))
  f285:=func136.trans (congrArg some (by kernel_rfl))
  f286:=func137.trans (congrArg some (by kernel_rfl))
  f317:=func182.trans (congrArg some (by kernel_rfl))
  f318:=func183.trans (congrArg some (by kernel_rfl))
  f319:=func184.trans (congrArg some (by kernel_rfl))
  f320:=func185.trans (congrArg some (by kernel_rfl))
  f337:=func226.trans (congrArg some (by kernel_rfl))
  f338:=func227.trans (congrArg some (by kernel_rfl))
  t0:=underlying0
  a0:=Tryz.isAgg0
  z0:=Tryz.sizeOf0
  v0:=zeroValue0
  t2:=underlying2
  a2:=Tryz.isAgg2
  z2:=Tryz.sizeOf2
  v2:=zeroValue2
  t3:=underlying3
  a3:=Tryz.isAgg3
  z3:=Tryz.sizeOf3
  v3:=zeroValue3
  t4:=underlying4
  a4:=Tryz.isAgg4
  z4:=Tryz.sizeOf4
  v4:=zeroValue4
  t5:=underlying5
  a5:=Tryz.isAgg5
  z5:=Tryz.sizeOf5
  v5:=zeroValue5
  t9:=underlying9
  a9:=Tryz.isAgg9
  z9:=Tryz.sizeOf9
  v9:=zeroValue9
  t20:=underlying20
  a20:=Tryz.isAgg20
  z20:=Tryz.sizeOf20
  v20:=zeroValue20
  t37:=underlying52
  a37:=Tryz.isAgg52
  z37:=Tryz.sizeOf52
  v37:=zeroValue52
  t46:=underlying174
  a46:=Tryz.isAgg174
  z46:=Tryz.sizeOf174
  v46:=zeroValue174
  t51:=underlying241
  a51:=Tryz.isAgg241
  z51:=Tryz.sizeOf241
  v51:=zeroValue241
  t53:=underlying210
  a53:=Tryz.isAgg210
  z53:=Tryz.sizeOf210
  v53:=zeroValue210
  t171:=underlying209
  a171:=Tryz.isAgg209
  z171:=Tryz.sizeOf209
  v171:=zeroValue209
  t173:=underlying213
  a173:=Tryz.isAgg213
  z173:=Tryz.sizeOf213
  v173:=zeroValue213
  t212:=underlying254
  a212:=Tryz.isAgg254
  z212:=Tryz.sizeOf254
  v212:=zeroValue254
  t213:=underlying255
  a213:=Tryz.isAgg255
  z213:=Tryz.sizeOf255
  t232:=underlying318
  a232:=Tryz.isAgg318
  z232:=Tryz.sizeOf318
  v232:=zeroValue318
  t233:=underlying319
  a233:=Tryz.isAgg319
  z233:=Tryz.sizeOf319
  v233:=zeroValue319
  g17:=by kernel_rfl
  g18:=by kernel_rfl
  g19:=by kernel_rfl
  i0:=by kernel_rfl
  i2:=by kernel_rfl
  i3:=by kernel_rfl
  i4:=by kernel_rfl
  i5:=by kernel_rfl
  i9:=by kernel_rfl
  i20:=by kernel_rfl
  i37:=by kernel_rfl
  i46:=by kernel_rfl
  i51:=by kernel_rfl
  i53:=by kernel_rfl
  i171:=by kernel_rfl
  i173:=by kernel_rfl
  i212:=by kernel_rfl
  i232:=by kernel_rfl
  i233:=by kernel_rfl
  m17:=by kernel_rfl
  m18:=by kernel_rfl
  m19:=by kernel_rfl
def tabIP (P:Program) (g:Nat) (nm:String) (k:IntKind) (zs:List Int) (hg:P.globalNamed nm=some g):Item where
  own:=[]
  p:=λ M w=>g<w.heap.size/\ ¬M g/\Lib.TabIs P w nm k zs
  keep:=λ {M M' w w'} hk hm ⟨h1,h2,h3⟩=>⟨Nat.lt_of_lt_of_le h1 hk.size,λ h=>h2 (hm g h1 h),by
    unfold Lib.TabIs World.var? at h3⊢
    rw[hg]at h3⊢
    simp only[Option.bind_some]at h3⊢
    rw[hk.block g h1 (λ h=>h2 h.1)]
    exact h3⟩
theorem tab_named:Tryz.prog.globalNamed "internal/strconv.uint64pow10" =some 0:=by kernel_rfl
def tabI:Item:=tabIP Tryz.prog 0 "internal/strconv.uint64pow10" .u64 Lib.pow10Tab tab_named
theorem tabI_own:tabI.own=[]:=rfl
theorem tab_laid {l:List (String×DataW Unit)} {W:World} (h:laidMetH Tryz.prog l W) (hl:(l.filter (λ x=>x.1 == "internal/strconv.uint64pow10"))=[("internal/strconv.uint64pow10",Lib.tabData .u64 Lib.pow10Tab)]):Lib.TabIs Tryz.prog W "internal/strconv.uint64pow10" .u64 Lib.pow10Tab/\0<W.heap.size:=by
  have h1:=h.filter (λ x=>x.1 == "internal/strconv.uint64pow10")
  rw[hl]at h1
  have h2:laidMet Tryz.prog [("internal/strconv.uint64pow10",Lib.tabData .u64 Lib.pow10Tab)] W:=(laidMetH_iff.1 h1).1
  have h3:=Lib.tabIs_of_head (g:=0) tab_named (t:=254) (by kernel_rfl) underlying254 underlying174 (by kernel_rfl) (by kernel_rfl) h2
  refine⟨h3, ?_⟩
  unfold Lib.TabIs World.var? at h3
  rw[tab_named]at h3
  simp only[Option.bind_some]at h3
  rcases Nat.lt_or_ge 0 W.heap.size with h4|h4
  . exact h4
  . rw[Array.getElem?_eq_none h4]at h3;cases h3
theorem Fun.callT {f:FuncId} {args:List AV} {r:Value} (h:Fun Tryz.prog f args [tabI] (λ a s=>a= .exact r/\s=[tabI])) {W:World} {vs:List Value} (hv:Fit noB W args vs) (hW:0<W.heap.size) (ht:Lib.TabIs Tryz.prog W "internal/strconv.uint64pow10" .u64 Lib.pow10Tab):Calls Tryz.prog f vs.toArray W (λ e w'=>e= .returned r/\Below W.heap.size W w'):=by
  have hno: ∀k, ¬Items.own [tabI] k:=λ k hk=>by simp[Items.own,tabI_own]at hk
  have hb: ∀k, ¬both noB (Items.own [tabI]) k:=λ k hk=>hk.elim (λ h=>h) (hno k)
  refine(h noB W vs ⟨λ _ hk=>hk.elim,λ k hk=>absurd hk (hno k),by simp[tabI_own],λ it hi=> ?_⟩ (hv.keep (M':=both noB (Items.own [tabI])) (Keeps.refl _ _) (λ k _ hk=>absurd hk (hb k)))).mono λ e w' hh=> ?_
  . rw[List.mem_singleton.1 hi]
    exact⟨hW,hb _,ht⟩
  . obtain⟨v,e1,av,σ',⟨h1,h2⟩,_,hk,_,hv⟩:=hh
    subst h1 h2
    exact⟨by rw[e1];exact congrArg _ hv,(hk.mono (λ k _ h=>absurd h (hno k)):Keeps noB W w').below⟩
end
noncomputable section
open Go.RowKit Go.Sort
set_option maxRecDepth 100000
def layb_ren:Go.Shelf.Ren:=⟨λ|166=>14|169=>16|240=>38|276=>81|n=>n,λ|37=>52|70=>51|72=>54|75=>56|80=>60|127=>112|164=>157|n=>n,λ n=>n⟩
theorem layb:Go.Proofs.Lays.n166 Tryz.prog layb_ren where
  mixed:=by kernel_rfl
  f166:=func14.trans (congrArg some (by kernel_rfl))
  f240:=func38.trans (congrArg some (by kernel_rfl))
  f276:=func81.trans (congrArg some (by kernel_rfl))
  t0:=underlying0
  a0:=Tryz.isAgg0
  z0:=Tryz.sizeOf0
  v0:=zeroValue0
  t3:=underlying3
  a3:=Tryz.isAgg3
  z3:=Tryz.sizeOf3
  v3:=zeroValue3
  t4:=underlying4
  a4:=Tryz.isAgg4
  z4:=Tryz.sizeOf4
  v4:=zeroValue4
  t9:=underlying9
  a9:=Tryz.isAgg9
  z9:=Tryz.sizeOf9
  v9:=zeroValue9
  t20:=underlying20
  a20:=Tryz.isAgg20
  z20:=Tryz.sizeOf20
  v20:=zeroValue20
  t37:=underlying52
  a37:=Tryz.isAgg52
  z37:=Tryz.sizeOf52
  v37:=zeroValue52
  t70:=underlying51
  a70:=Tryz.isAgg51
  z70:=Tryz.sizeOf51
  v70:=zeroValue51
  t72:=underlying54
  a72:=Tryz.isAgg54
  z72:=Tryz.sizeOf54
  v72:=zeroValue54
  t75:=underlying56
  a75:=Tryz.isAgg56
  z75:=Tryz.sizeOf56
  v75:=zeroValue56
  t164:=underlying157
  a164:=Tryz.isAgg157
  z164:=Tryz.sizeOf157
  v164:=zeroValue157
theorem layc:Go.Proofs.Lays.n169 Tryz.prog layb_ren where
  mixed:=by kernel_rfl
  f169:=func16.trans (congrArg some (by kernel_rfl))
  t0:=underlying0
  a0:=Tryz.isAgg0
  z0:=Tryz.sizeOf0
  v0:=zeroValue0
  t3:=underlying3
  a3:=Tryz.isAgg3
  z3:=Tryz.sizeOf3
  v3:=zeroValue3
  t9:=underlying9
  a9:=Tryz.isAgg9
  z9:=Tryz.sizeOf9
  v9:=zeroValue9
  t37:=underlying52
  a37:=Tryz.isAgg52
  z37:=Tryz.sizeOf52
  v37:=zeroValue52
  t70:=underlying51
  a70:=Tryz.isAgg51
  z70:=Tryz.sizeOf51
  v70:=zeroValue51
  t72:=underlying54
  a72:=Tryz.isAgg54
  z72:=Tryz.sizeOf54
  v72:=zeroValue54
  t127:=underlying112
  a127:=Tryz.isAgg112
  z127:=Tryz.sizeOf112
  v127:=zeroValue112
theorem laybX:Go.Proofs.Builder.Extra Tryz.prog layb_ren where
  sizeBuilder:=by kernel_rfl
  liesBuilder:=by kernel_rfl
  t5:=underlying5
  a5:=Tryz.isAgg5
  z5:=Tryz.sizeOf5
  v5:=zeroValue5
  infoByte:=by kernel_rfl
  cellsByte:=by kernel_rfl
  sizeByte:=by kernel_rfl
  neB5:=by decide
theorem itoa39 (n:Int) (h0: -9223372036854775808≤n) (h1:n≤9223372036854775807) (w:World) (ht:Lib.TabIs Tryz.prog w "internal/strconv.uint64pow10" .u64 Lib.pow10Tab):Calls Tryz.prog 39 #[.int .i64 n] w λ e w'=>e= .returned (.string ⟨(Lib.itoa n).toArray⟩)/\ ∃k os,w'=grow (w.drewN k) os:=by
  go_enter func39,ntmps39
  go_wp2_with (go_at_call 82;refine(Any.internal_strconv_FormatInt_10 layf n h0 h1 _ ht).mono ?_;rintro e w' ⟨rfl,k,os,rfl⟩)
  go_ret
  exact⟨rfl,k,os,rfl⟩
theorem itoa15 (n:Int) (h0: -9223372036854775808≤n) (h1:n≤9223372036854775807) (w:World) (ht:Lib.TabIs Tryz.prog w "internal/strconv.uint64pow10" .u64 Lib.pow10Tab):Calls Tryz.prog 15 #[.int .i64 n] w λ e w'=>e= .returned (.string ⟨(Lib.itoa n).toArray⟩)/\ ∃k os,w'=grow (w.drewN k) os:=by
  go_enter func15,ntmps15
  go_wp2_with (go_at_call 39;refine(itoa39 n h0 h1 _ ht).mono ?_;rintro e w' ⟨rfl,k,os,rfl⟩)
  go_ret
  exact⟨rfl,k,os,rfl⟩
theorem tab_below {w w':World} (hg:0<w.heap.size) (h:Lib.TabIs Tryz.prog w "internal/strconv.uint64pow10" .u64 Lib.pow10Tab) (hb:Below w.heap.size w w'):Lib.TabIs Tryz.prog w' "internal/strconv.uint64pow10" .u64 Lib.pow10Tab:=by
  unfold Lib.TabIs World.var? at h⊢
  rw[tab_named]at h⊢
  simp only[Option.bind_some]at h⊢
  rw[hb.block 0 hg];exact h
theorem isb_grow {T e:TypeId} {B b:Nat} {l:List Value} {w:World} (h:Lib.IsBuilder T e B b l w) (k:Nat) (os:Array Obj):Lib.IsBuilder T e B b l (grow (w.drewN k) os):=by
  have key: ∀p,Lib.BuilderAt T e B b p l w->Lib.BuilderAt T e B b p l (grow (w.drewN k) os):=λ p h=>by
    have hl:=h.lt
    obtain⟨h1,v,h2,h3,h4⟩:=h
    exact⟨h1,v,by show(w.heap++os)[b]?=_;rw[Array.getElem?_append_left hl];exact h2,Go.Lib.ownsRow_grow h3 k os,h4⟩
  rcases h with h|h
  . exact .inl (key _ h)
  . exact .inr (key _ h)
theorem dec_len: ∀(k u:Nat),u<10^(k+1)->(Lib.decDigits u).length≤k+1
  |k,u,h=>by
    rw[Lib.decDigits]
    split
    . simp
    . rename_i h0
      match k,h with
      |0,h=>simp at h;omega
      |k+1,h=>
        rw[List.length_append,List.length_singleton]
        have:=dec_len k (u / 10) (by rw[Nat.pow_succ]at h;omega)
        omega
theorem itoa_len {n:Int} (h0: -9223372036854775808≤n) (h1:n≤9223372036854775807):(Lib.itoa n).length≤20:=by
  unfold Lib.itoa
  split
  . rw[List.length_cons]
    have:=dec_len 18 n.natAbs (by omega)
    omega
  . have:=dec_len 18 n.toNat (by omega)
    omega
theorem keyL_take {s:List Int} {k:Nat} {x:Int} (h:s[k]?=some x):keyL (s.take (k+1))=keyL (s.take k)++(Lib.itoa x++[44]):=by
  unfold keyL
  rw[List.take_add_one,h,Option.toList_some,List.flatMap_append]
  simp
theorem keyL_len {s:List Int} (h: ∀x∈s,(Lib.itoa x).length≤20):(keyL s).length≤21*s.length:=by
  induction s with
  |nil=>simp[keyL]
  |cons x s ih=>
    have h1:=h x List.mem_cons_self
    have h2:=ih (λ y hy=>h y (List.mem_cons_of_mem _ hy))
    have e:keyL (x::s)=(Lib.itoa x++[44])++keyL s:=by unfold keyL;rw[List.flatMap_cons]
    rw[e]
    simp only[List.length_append,List.length_cons,List.length_nil]
    omega
theorem wStr (B b:Nat) (l:List Value) (s:ByteArray) (w:World) (h:Lib.IsBuilder 54 5 B b l w) (hl:l.length+s.size≤140737488355328) (hB:B≤w.heap.size):Calls Tryz.prog 14 #[.pointer (some ⟨b,0,none⟩), .string s] w λ e w'=>e= .returned (.tuple #[.int .i64 s.size, .nilIface])/\(Lib.BuilderAt 54 5 B b (.pointer (some ⟨b,0,none⟩)) (l++Lib.strCells s) w'/\Below B w w'):=Any.Builder_WriteString layb laybX B b l s w h hl hB
theorem gStr (B b:Nat) (l:List UInt8) (w:World) (h:Lib.IsBuilder 54 5 B b (Lib.byteCells l) w) (hB:B≤w.heap.size):Calls Tryz.prog 16 #[.pointer (some ⟨b,0,none⟩)] w λ e w'=>e= .returned (.string ⟨l.toArray⟩)/\Below B w w':=Any.Builder_String_any layc laybX B b l w h hB
theorem key_walk (bk o c : Nat) (s : List Int) (w : World) (hc : ∀ (j : Nat) x, s[j]? = some x → w.cell? ⟨bk, o + j, none⟩ = some (.int .i64 x)) (hbk : bk < w.heap.size) (hn : s.length ≤ 4294967296) (hsc : s.length ≤ c) (hr : ∀ x ∈ s, -9223372036854775808 ≤ x ∧ x ≤ 9223372036854775807) (hl : ∀ x ∈ s, (Lib.itoa x).length ≤ 20) (hg : 0 < w.heap.size) (ht : Lib.TabIs Tryz.prog w "internal/strconv.uint64pow10" .u64 Lib.pow10Tab) :
    Calls Tryz.prog 5 #[.slice (some ⟨bk,o,none⟩) s.length c] w λ e w'=>e= .returned (.string ⟨(keyL s).toArray⟩)/\Below w.heap.size w w':=by
  have HC:=Any.hidJ hc
  have HR:=Any.hidJ hr
  have HL:=Any.hidJ hl
  have HT:=Any.hidJ ht
  clear hc hr hl ht
  go_enter func5,ntmps5
  go_wp2_with fail
  go_loopw [8] (λ i wr=> ∃k:Nat,k≤s.length/\i= .int .i64 k/\Hid (Lib.IsBuilder 54 5 w.heap.size w.heap.size (Lib.byteCells (keyL (s.take k))) wr)/\Hid (Below w.heap.size w wr)) (λ i _=>s.length - (intOf i).toNat)
  case atStart=>exact⟨0,Nat.zero_le _,rfl,Any.hidJ (Lib.fresh_isBuilder 54 5 w),Any.hidJ ((Below.refl _ w).alloc (Nat.le_refl _) _)⟩
  case round=>
    obtain⟨k,hk,rfl,HB,HW⟩:=hrel
    by_cases hks:k<s.length
    . obtain⟨x,hx⟩: ∃x,s[k]?=some x:=⟨s[k],List.getElem?_eq_getElem hks⟩
      have hxm:x∈s:=List.mem_of_getElem? hx
      have hcx:wr.cell? ⟨bk,o+k,none⟩=some (.int .i64 x):=by
        rw[HW.out.cell (p:=⟨bk,o+k,none⟩) hbk];exact HC.out k x hx
      have hx1:=(HR.out x hxm).1
      have hx2:=(HR.out x hxm).2
      have hlx:=HL.out x hxm
      have hlt:=keyL_len (s:=s.take k) (λ y hy=>HL.out y (List.mem_of_mem_take hy))
      rw[List.length_take]at hlt
      have hBw:w.heap.size≤wr.heap.size:=HW.out.size
      have htr:=tab_below hg HT.out HW.out
      have HTR:=Any.hidJ htr
      have HCX:=Any.hidJ hcx
      clear htr
      go_wp2_with (go_at_call 15;refine(itoa15 x hx1 hx2 _ HTR.out).mono ?_;rintro e w1 ⟨rfl,k1,os1,rfl⟩)
      have H1:=Any.hidJ (isb_grow HB.out k1 os1)
      have B1:=Any.hidJ (HW.out.trans (Go.Lib.below_grow w.heap.size wr hBw k1 os1))
      have S1:w.heap.size≤(grow (wr.drewN k1) os1).heap.size:=B1.out.size
      clear hcx hbk
      have e44:((⟨(Lib.itoa x).toArray⟩:ByteArray)++⟨#[44]⟩:ByteArray)=⟨(Lib.itoa x++[44]).toArray⟩:=ByteArray.ext (by simp)
      have hnext:Lib.byteCells (keyL (s.take k))++Lib.strCells ⟨(Lib.itoa x++[44]).toArray⟩=Lib.byteCells (keyL (s.take (k+1))):=by
        rw[keyL_take hx]
        exact(Lib.byteCells_append _ _).symm
      have hsz:(⟨(Lib.itoa x++[44]).toArray⟩:ByteArray).size=(Lib.itoa x).length+1:=by
        show(Lib.itoa x++[44]).toArray.size=_
        simp
      go_wp2_with fail
      rw[e44]
      have W1:=wStr w.heap.size w.heap.size _ ⟨(Lib.itoa x++[44]).toArray⟩ _ H1.out (by rw[Lib.byteCells_length,hsz];omega) S1
      refine W1.mono ?_
      rintro e w3 ⟨rfl,h3,b3⟩
      rw[hnext]at h3
      have H3:=Any.hidJ (Or.inr h3:Lib.IsBuilder 54 5 w.heap.size w.heap.size _ w3)
      have B3:=Any.hidJ (B1.out.trans b3)
      clear h3 b3 hnext e44
      go_wp2
      exact⟨⟨k+1,by omega,by go_num,H3,B3⟩,by simp[intOf];omega⟩
    . have hke:k=s.length:=by omega
      subst hke
      have hB:=HB.out
      rw[List.take_length]at hB
      have hBw:w.heap.size≤wr.heap.size:=HW.out.size
      go_wp2_with (go_at_call 16;refine(gStr w.heap.size w.heap.size _ wr hB hBw).mono ?_)
      rintro e w5 ⟨rfl,hb5⟩
      go_wp2
      go_ret
      exact⟨rfl,HW.out.trans hb5⟩
theorem key_none (A:Option Addr) (c:Nat) (w:World):Calls Tryz.prog 5 #[.slice A 0 c] w λ e w'=>e= .returned (.string ⟨(keyL []).toArray⟩)/\Below w.heap.size w w':=by
  go_enter func5,ntmps5
  go_wp2_with fail
  go_loopw [8] (λ i wr=>i= .int .i64 0/\Hid (Lib.IsBuilder 54 5 w.heap.size w.heap.size (Lib.byteCells []) wr)/\Hid (Below w.heap.size w wr)) (λ _ _=>0)
  case atStart=>exact⟨rfl,Any.hidJ (Lib.fresh_isBuilder 54 5 w),Any.hidJ ((Below.refl _ w).alloc (Nat.le_refl _) _)⟩
  case round=>
    obtain⟨rfl,HB,HW⟩:=hrel
    have hB:=HB.out
    have hBw:w.heap.size≤wr.heap.size:=HW.out.size
    go_wp2_with (go_at_call 16;refine(gStr w.heap.size w.heap.size _ wr hB hBw).mono ?_)
    rintro e w5 ⟨rfl,hb5⟩
    go_wp2
    go_ret
    exact⟨rfl,HW.out.trans hb5⟩
theorem m_key_ok (s:List Int) (r:List UInt8) (h:m_key s=some r):Fun Tryz.prog 5 [.row 1 zav s] [tabI] (λ a σ=>a= .exact (.string (bs r))/\σ=[tabI]):=by
  unfold m_key at h
  obtain⟨⟨hn,hr⟩,h⟩:=zad h
  cases h
  intro F w vs hg hfit
  match vs,hfit with
  |[v],⟨⟨A,c,e1,h1,h2,h3⟩,_⟩=>
  subst e1
  obtain⟨t1,t2,t3⟩:=hg.items tabI List.mem_cons_self
  have conv: ∀(e:Ending) (w':World),(e= .returned (.string ⟨(keyL s).toArray⟩)/\Below w.heap.size w w')/\(e≠ .outgrown->w.drawn≤w'.drawn)-> ∃v,e= .returned v/\Out F [tabI] w (λ a σ=>a= .exact (.string (bs (keyL s)))/\σ=[tabI]) v w':=by
    rintro e w' ⟨⟨rfl,hb⟩,hd⟩
    have hk:Keeps noB w w':=⟨hb.os,hb.tape,hb.output,hd (by simp),hb.size,λ k hk _=>hb.block k hk⟩
    exact⟨_,rfl, .exact (.string (bs (keyL s))),[tabI],⟨rfl,rfl⟩,hg.keep hk,hk.mono (λ _ _ h=>h.elim),λ _ h _=>h,rfl⟩
  by_cases h0:s=[]
  . subst h0
    exact(Calls_drawn (key_none A c w)).mono λ e w' he=>conv e w' he
  . obtain⟨b,off,rfl,hb,_,hx⟩:=h3 h0
    have hc: ∀(j:Nat) x,s[j]?=some x->w.cell? ⟨b,off+j,none⟩=some (.int .i64 x):=λ j x hj=>by
      obtain⟨u,hu1,hu2⟩:=(hx j x hj).2 0 _ rfl
      have hu2:u= .int .i64 x:=hu2
      subst hu2
      simpa using hu1
    exact(Calls_drawn (key_walk b off c s w hc hb hn (by simpa using h1) hr (λ x hx=>itoa_len (hr x hx).1 (hr x hx).2) t1 t3)).mono λ e w' he=>conv e w' he
end
noncomputable section
open Go.RowKit
attribute [local irreducible] AV.exact AV.top AV.row AV.ptr AV.agg AV.tup AV.eptr AV.fn AV.nilq AV.nilqn opA opB opM opR Quiet Loud Reads wpG awp den Sub SubU Pure Fun vecI vecT boxI CellsAll CellsOf OneC LEs LEss
set_option maxRecDepth 100000
set_option maxHeartbeats 4000000
theorem m_network_steps_1_ok (a0:Int×(List Int)×(List (Int×Int×Int))) (a1:Int×(List Int)×(List (Int×Int×Int))) (r:Bool) (h:zgp a0 a1=some r):Pure Tryz.prog 78 [(.agg (zbe a0)),(.agg (zbe a1))] (.exact (.bool r)):=by
 unfold zgp at h
 refine Pure.ofFun (zam func78 rfl ntmps78 (by simp) rfl (res1 rfl) λ E hE=>zca (sr (gq (zfe (c:=zbe a0) rfl CellsOf.agg (gq (zfe (c:=zbe a1) rfl CellsOf.agg (qa (.xb false) rfl (gd (gq (zbx (m:=3) (c':=zbe a0) (by kernel_rfl) rfl rfl rfl (gq (zbx (m:=3) (c':=zbe a1) (by kernel_rfl) rfl rfl rfl ?_))))))))))))
 obtain⟨y1,a,h⟩:=zae h
 refine gq (zal (m_network_compareSteps_ok _ _ _ a) func75 (by kernel_rfl) (lc lf (lc lf ln)) (gq (zbf rfl rfl (qa (.xb (decide (y1=0))) rfl (gc (zbn ?_))))))
 obtain rfl:=oi h
 refine ke (pt AF0 4 (.xb (decide (y1=0)))) [] rfl (s1 rfl) ⟨rfl,rfl⟩
theorem m_slices_Clip_L_api_Step_api_Step_ok (a0:List (Int×(List Int)×(List (Int×Int×Int)))) (r:(List (Int×(List Int)×(List (Int×Int×Int))))) (h:zdc a0=some r):Pure Tryz.prog 76 [(.row 3 zbe a0)] (.row 3 zbe r):=by
 unfold zdc at h
 refine Pure.ofFun (zam func76 rfl ntmps76 (by simp) rfl (res1 rfl) λ E hE=>zca (sr (qa (.exact (.slice none 0 0)) rfl (gd (qm (.row 3 zbe a0) rfl (qm (.row 3 zbe a0) rfl (gq (zao (by kernel_rfl) rfl (qm (.row 3 zbe a0) rfl (gq (zao (by kernel_rfl) rfl ?_)))))))))))
 obtain⟨n1,h⟩:=zad h
 refine gq (op_slice_row3 (by kernel_rfl) rfl zdu rfl rfl (Int.le_refl 0) n1 (Int.le_refl _) (Int.le_refl _) (qa (.row 3 zbe (List.take (Int.toNat (List.length a0:Int)) a0)) rfl (gc (zbn ?_))))
 obtain rfl:=oi h
 refine ke (pt AF0 2 (.row 3 zbe (List.take (Int.toNat (List.length a0:Int)) a0))) [] rfl (s1 rfl) ⟨rfl,rfl⟩
theorem m_network_steps_ok (a0:(List ((List (List (Int×Int)))×(List (List UInt8))))×(List ((List UInt8)×(List Bool)×(List ((List Int)×Int×Int))))) (a1:List Int) (r:(List (Int×(List Int)×(List (Int×Int×Int))))) (h:m_network_steps a0 a1=some r):Pure Tryz.prog 35 [(.agg (zbb a0)),(.row 1 zav a1)] (.row 3 zbe r):=by
 unfold m_network_steps at h
 refine Pure.ofFun (zam func35 rfl ntmps35 (by simp) rfl (res1 rfl) λ E hE=>zca (sr (gq (zfe (c:=zbb a0) rfl CellsOf.agg (qa (.exact (.slice none 0 0)) rfl (gd (qa (.exact (.slice none 0 0)) rfl (gc (zcb h (λ(k:List (Int×(List Int)×(List (Int×Int×Int)))) (v5_j1:Value)=>(pt AF0 5 (.exact v5_j1))) (λ(k:List (Int×(List Int)×(List (Int×Int×Int)))) (v5_j1:Value)=>[vecT Tryz.prog 45 3 zbe v5_j1 k]) (λ k1 h=> ?_) (λ k v5_j1 h=> ?_))))))))))
 .refine zan (zck [] [(0,0),(0,1),(0,2),(0,3),(0,4),(0,5),(0,6),(0,7),(0,8),(0,9)] hmixP (by kernel_rfl) (pq rfl (zaj (o:=1) (c':=(List.drop 1 (zbb a0))) (by kernel_rfl) rfl rfl (pq rfl (zak (a:= .row 3 zaw a0.2) (by kernel_rfl) rfl rfl (pq rfl (zah (av:= .row 1 zav a1) rfl ?_)))))))
  obtain⟨n1850,h⟩:=zad h
  refine pq rfl (zai (by kernel_rfl) rfl rfl n1850.1 n1850.2 (pq rfl (zak (a:= .xi (gi a1 0)) (by kernel_rfl) rfl rfl ?_)))
  obtain⟨n1851,h⟩:=zad h
  refine pq rfl (zai (by kernel_rfl) rfl rfl n1851.1 n1851.2 (pq rfl (zaj (o:=2) (c':=(List.drop 2 (zaw (gi a0.2 (gi a1 0))))) (by kernel_rfl) rfl rfl (pq rfl (zak (a:= .row 3 zay ((gi a0.2 (gi a1 0)).2.2)) (by kernel_rfl) rfl rfl (pq rfl (zao (by kernel_rfl) rfl (pq rfl (zah (av:= .xi 0) rfl (zcn (zaf (zaq (zcz (zhp a0 a1 k1) (m_network_steps_B152 a0 a1 k1) (λ _ _=>rfl) (λ m _ _=>rfl) h (λ(l:List (Int×(List Int)×(List (Int×Int×Int)))) (b:Int) (v5_l152:Value)=>(pt (pt (pt (pt (pt (pt AF0 1 (.row 1 zav a1)) 2 (.ptr (zbb a0))) 5 (.exact v5_l152)) 22 (.row 3 zay ((gi a0.2 (gi a1 0)).2.2))) 23 (.xi (List.length ((gi a0.2 (gi a1 0)).2.2):Int))) 24 (.xi b))) (λ(l:List (Int×(List Int)×(List (Int×Int×Int)))) (b:Int) (v5_l152:Value)=>[vecT Tryz.prog 45 3 zbe v5_l152 l]) (.slice none 0 0) ?_ (λ B l b v5_l152 h=> ?_))))))))))))))
  .refine Sub.trans (SubU.to (SubU.nilT (P:=Tryz.prog) (t:=45) (n:=3) (enc:=zbe))) (so (l4 rfl rfl rfl rfl (lq rfl (lq rfl lt0))))
  .unfold m_network_steps_B152 at h
   refine sr (gq (zbm rfl rfl (gc (zan (kd (p:=b<(List.length ((gi a0.2 (gi a1 0)).2.2):Int)) rfl h (λ hc h=> ?_) (λ hc h=> ?_))))))
   .refine zap (zaf (zcb h (λ(q:List (Int×(List Int)×(List (Int×Int×Int)))) (v5_j3082:Value)=>(pt (pt (pt (pt (pt (pt AF0 1 (.row 1 zav a1)) 2 (.ptr (zbb a0))) 5 (.exact v5_j3082)) 22 (.row 3 zay ((gi a0.2 (gi a1 0)).2.2))) 23 (.xi (List.length ((gi a0.2 (gi a1 0)).2.2):Int))) 24 (.xi b))) (λ(q:List (Int×(List Int)×(List (Int×Int×Int)))) (v5_j3082:Value)=>[vecT Tryz.prog 45 3 zbe v5_j3082 q]) (λ k3082 h=> ?_) (λ q v5_j3082 h=> ?_)))
    .refine zaq (sr ?_)
     obtain⟨n3390,h⟩:=zad h
     refine gq (zai (by kernel_rfl) rfl rfl n3390.1 n3390.2 (gq (zbx (m:=3) (c':=zay (gi ((gi a0.2 (gi a1 0)).2.2) b)) (by kernel_rfl) rfl rfl rfl (G_l rfl (zel (c:=[.row 1 zav ((([],0,0):(List Int)×Int×Int).1), .xi ((([],0,0):(List Int)×Int×Int).2.1), .xi ((([],0,0):(List Int)×Int×Int).2.2)]) rfl (lc (zcy (by decide)) (lc lf (lc lf ln))) (λ b3391=>G_l rfl (zbz (c':=[.row 1 zav ((gi ((gi a0.2 (gi a1 0)).2.2) b).1), .xi ((gi ((gi a0.2 (gi a1 0)).2.2) b).2.1), .xi ((gi ((gi a0.2 (gi a1 0)).2.2) b).2.2)]) (c3:=[.row 1 zav ((gi ((gi a0.2 (gi a1 0)).2.2) b).1), .xi ((gi ((gi a0.2 (gi a1 0)).2.2) b).2.1), .xi ((gi ((gi a0.2 (gi a1 0)).2.2) b).2.2)]) rfl rfl CellsOf.agg (lc lf (lc lf (lc lf ln))) (oc_c_api_Rule _) (by kernel_rfl) (Nat.le_of_ble_eq_true rfl) rfl (gd (gq (zbx (m:=2) (c':=zbb a0) (by kernel_rfl) rfl rfl rfl (qm (.row 1 zav a1) rfl (G_r rfl (zei (m:=3) (c':=zay ((gi ((gi a0.2 (gi a1 0)).2.2) b).1,(gi ((gi a0.2 (gi a1 0)).2.2) b).2.1,(gi ((gi a0.2 (gi a1 0)).2.2) b).2.2)) (by kernel_rfl) rfl rfl rfl ?_)))))))))))))
     obtain⟨y3392,v,h⟩:=zae h
     refine gq (zal (m_network_choices_ok _ _ _ _ _ v) func72 (by kernel_rfl) (lc lf (lc lf (lc lf (lc lf ln)))) (gq (zao (by kernel_rfl) rfl (qm (.xi 0) rfl (gc (zaq (zcz (m_network_steps_L278 a0 a1 b k3082 y3392) (m_network_steps_B278 a0 a1 b k3082 y3392) (λ _ _=>rfl) (λ m _ _=>rfl) h (λ(g:List (Int×(List Int)×(List (Int×Int×Int)))) (d:Int) (v5_l278:Value)=>(pt (pt (pt (pt (pt (pt (pt (pt (pt (pt AF0 1 (.row 1 zav a1)) 2 (.ptr (zbb a0))) 5 (.exact v5_l278)) 7 (pA b3391 0)) 22 (.row 3 zay ((gi a0.2 (gi a1 0)).2.2))) 23 (.xi (List.length ((gi a0.2 (gi a1 0)).2.2):Int))) 24 (.xi b)) 31 (.row 1 zce y3392)) 32 (.xi (List.length y3392:Int))) 33 (.xi d))) (λ(g:List (Int×(List Int)×(List (Int×Int×Int)))) (d:Int) (v5_l278:Value)=>[vecT Tryz.prog 45 3 zbe v5_l278 g,boxI 86 b3391 [.row 1 zav ((gi ((gi a0.2 (gi a1 0)).2.2) b).1), .xi ((gi ((gi a0.2 (gi a1 0)).2.2) b).2.1), .xi ((gi ((gi a0.2 (gi a1 0)).2.2) b).2.2)]]) v5_l152 ?_ (λ C g d v5_l278 h=> ?_))))))))
     .refine Sub.trans (SubU.to SubU.f1) (so (l4 rfl rfl rfl rfl (l4 rfl rfl rfl rfl (lq rfl (lq rfl lt0)))))
     .unfold m_network_steps_B278 at h
      refine sr (gq (zbm rfl rfl (gc (zan (kd (p:=d<(List.length y3392:Int)) rfl h (λ hc h=> ?_) (λ hc h=> ?_))))))
      .refine zap (zaf (zcb h (λ(s:List (Int×(List Int)×(List (Int×Int×Int)))) (v5_j3595:Value)=>(pt (pt (pt (pt (pt (pt (pt (pt (pt (pt AF0 1 (.row 1 zav a1)) 2 (.ptr (zbb a0))) 5 (.exact v5_j3595)) 7 (pA b3391 0)) 22 (.row 3 zay ((gi a0.2 (gi a1 0)).2.2))) 23 (.xi (List.length ((gi a0.2 (gi a1 0)).2.2):Int))) 24 (.xi b)) 31 (.row 1 zce y3392)) 32 (.xi (List.length y3392:Int))) 33 (.xi d))) (λ(s:List (Int×(List Int)×(List (Int×Int×Int)))) (v5_j3595:Value)=>[vecT Tryz.prog 45 3 zbe v5_j3595 s,boxI 86 b3391 [.row 1 zav ((gi ((gi a0.2 (gi a1 0)).2.2) b).1), .xi ((gi ((gi a0.2 (gi a1 0)).2.2) b).2.1), .xi ((gi ((gi a0.2 (gi a1 0)).2.2) b).2.2)]]) (λ k3595 h=> ?_) (λ s v5_j3595 h=> ?_)))
       .refine zaq (sr ?_)
        obtain⟨n3646,h⟩:=zad h
        refine gq (zai (by kernel_rfl) rfl rfl n3646.1 n3646.2 (gq (zak (a:= .row 3 zbv (gi y3392 d)) (by kernel_rfl) rfl rfl (qa (.row 3 zbv (gi y3392 d)) rfl (gd (qm (.row 1 zav a1) rfl ?_))))))
        obtain⟨y3647,w,h⟩:=zae h
        refine G_l rfl (op_fun_0_1_1 (m_slices_Clone_L_int_int_ok _ _ w) func73 (by kernel_rfl) (lc lf ln) (λ v3648=>qa (.exact v3648) rfl (gd (qm (.exact v3648) rfl (gq (zba (o:=2) (by kernel_rfl) rfl (G_r rfl (opR_f2 (zaz (a:= .xi ((gi ((gi a0.2 (gi a1 0)).2.2) b).2.2)) (by kernel_rfl) rfl rfl ?_)))))))))
        obtain⟨n3649,h⟩:=zad h
        refine G_r rfl (zbl (by kernel_rfl) rfl rfl n3649.1 n3649.2 (G_l rfl (zcm (i:=0) (o:=0) (z:=(gi ((gi a0.2 (gi a1 0)).2.2) b).2.2) (c':=[.xi ((gi ((gi a0.2 (gi a1 0)).2.2) b).2.2)]) (by kernel_rfl) zdf rfl n3649.1 n3649.2 rfl CellsOf.int (lc lf ln) (OneC.int OneC.nil) (by kernel_rfl) (Nat.le_of_ble_eq_true rfl) rfl (gc (zax h (λ(j:List Int)=>(pt (pt (pt (pt (pt (pt (pt (pt (pt (pt (pt (pt AF0 1 (.row 1 zav a1)) 2 (.ptr (zbb a0))) 5 (.exact v5_l278)) 7 (pA b3391 0)) 9 (.row 3 zbv (gi y3392 d))) 10 (.exact v3648)) 22 (.row 3 zay ((gi a0.2 (gi a1 0)).2.2))) 23 (.xi (List.length ((gi a0.2 (gi a1 0)).2.2):Int))) 24 (.xi b)) 31 (.row 1 zce y3392)) 32 (.xi (List.length y3392:Int))) 33 (.xi d))) (λ(j:List Int)=>[vecT Tryz.prog 45 3 zbe v5_l278 g,boxI 86 b3391 [.row 1 zav ((gi ((gi a0.2 (gi a1 0)).2.2) b).1), .xi ((gi ((gi a0.2 (gi a1 0)).2.2) b).2.1), .xi ((gi ((gi a0.2 (gi a1 0)).2.2) b).2.2)],vecT Tryz.prog 22 1 zav v3648 j]) (λ k3650 h=> ?_) (λ j h=> ?_))))))
        .refine sr (qm (.row 3 zbv (gi y3392 d)) rfl (gq (zao (by kernel_rfl) rfl (qm (.xi 0) rfl (gc (zaq (zey (m_network_steps_L300 y3392 d k3650) (m_network_steps_B300 y3392 d k3650) (λ _ _=>rfl) (λ m _ _=>rfl) h (λ(u:List Int) (e:Int)=>(pt (pt (pt (pt (pt (pt (pt (pt (pt (pt (pt (pt (pt (pt (pt AF0 1 (.row 1 zav a1)) 2 (.ptr (zbb a0))) 5 (.exact v5_l278)) 7 (pA b3391 0)) 9 (.row 3 zbv (gi y3392 d))) 10 (.exact v3648)) 22 (.row 3 zay ((gi a0.2 (gi a1 0)).2.2))) 23 (.xi (List.length ((gi a0.2 (gi a1 0)).2.2):Int))) 24 (.xi b)) 31 (.row 1 zce y3392)) 32 (.xi (List.length y3392:Int))) 33 (.xi d)) 43 (.row 3 zbv (gi y3392 d))) 44 (.xi (List.length (gi y3392 d):Int))) 45 (.xi e))) (λ(u:List Int) (e:Int)=>[vecT Tryz.prog 45 3 zbe v5_l278 g,boxI 86 b3391 [.row 1 zav ((gi ((gi a0.2 (gi a1 0)).2.2) b).1), .xi ((gi ((gi a0.2 (gi a1 0)).2.2) b).2.1), .xi ((gi ((gi a0.2 (gi a1 0)).2.2) b).2.2)],vecT Tryz.prog 22 1 zav v3648 u]) ?_ (λ D u e h=> ?_))))))))
         .refine Sub.trans (SubU.to SubU.f2) (Sub.trans (SubU.to SubU.f2) (so (l4 rfl rfl rfl rfl (l4 rfl rfl rfl rfl (l4 rfl rfl rfl rfl (lq rfl (lq rfl (lq rfl lt0))))))))
         .unfold m_network_steps_B300 at h
          refine sr (gq (zbm rfl rfl (gc (zan (kd (p:=e<(List.length (gi y3392 d):Int)) rfl h (λ hc h=> ?_) (λ hc h=> ?_))))))
          .refine zap (zaf (zan (zaq (sr ?_))))
           obtain⟨n3667,h⟩:=zad h
           refine gq (zai (by kernel_rfl) rfl rfl n3667.1 n3667.2 (gq (zbx (m:=3) (c':=zbv (gi (gi y3392 d) e)) (by kernel_rfl) rfl rfl rfl (G_l rfl (zel (c:=[.xi ((0,0,0).1), .xi ((0,0,0).2.1), .xi ((0,0,0).2.2)]) rfl (lc lf (lc lf (lc lf ln))) (λ b3668=>G_l rfl (zbz (c':=[.xi ((gi (gi y3392 d) e).1), .xi ((gi (gi y3392 d) e).2.1), .xi ((gi (gi y3392 d) e).2.2)]) (c3:=[.xi ((gi (gi y3392 d) e).1), .xi ((gi (gi y3392 d) e).2.1), .xi ((gi (gi y3392 d) e).2.2)]) rfl rfl CellsOf.agg (lc lf (lc lf (lc lf ln))) (oc_c_api_Move _) (by kernel_rfl) (Nat.le_of_ble_eq_true rfl) rfl (gc (kr (qm (.exact v3648) rfl (gq (zba (o:=0) (by kernel_rfl) rfl (G_r rfl (zaz (a:= .xi ((gi (gi y3392 d) e).1)) (by kernel_rfl) rfl rfl (gq (zbo rfl rfl rfl (gq (zba (o:=2) (by kernel_rfl) rfl (G_r rfl (zaz (a:= .xi ((gi (gi y3392 d) e).2.2)) (by kernel_rfl) rfl rfl ?_))))))))))))))))))))
           obtain⟨n3669,h⟩:=zad h
           refine G_r rfl (opR_f3 (zbl (by kernel_rfl) rfl rfl n3669.1 n3669.2 (G_l rfl (opB_f3 (zcm (i:=i64 (((gi (gi y3392 d) e).1)+1)) (o:=0) (z:=(gi (gi y3392 d) e).2.2) (c':=[.xi ((gi (gi y3392 d) e).2.2)]) (by kernel_rfl) zdf rfl n3669.1 n3669.2 rfl CellsOf.int (lc lf ln) (OneC.int OneC.nil) (by kernel_rfl) (Nat.le_of_ble_eq_true rfl) rfl (zbc (zau (zaf (kr (gq (zbo rfl rfl rfl (qm (.xi (i64 (e+1))) rfl (zbc (zaa ⟨_,_,h, ?_⟩))))))))))))))
           refine Sub.trans (SubU.to SubU.f1) (Sub.trans (SubU.to SubU.drop) (Sub.trans (SubU.to SubU.f2) (Sub.trans (SubU.to SubU.f2) (so (l4 rfl rfl rfl rfl (l4 rfl rfl rfl rfl (l4 rfl rfl rfl rfl (lq rfl (lq rfl (lq rfl lt0))))))))))
          .refine zbr (zbi (zbk (zbj (zaa ⟨_,h,so (l4 rfl rfl rfl rfl (l4 rfl rfl rfl rfl (l4 rfl rfl rfl rfl lt0)))⟩))))
        .refine zbw h ((pt (pt (pt (pt (pt (pt (pt (pt (pt (pt (pt (pt AF0 1 (.row 1 zav a1)) 2 (.ptr (zbb a0))) 5 (.exact v5_l278)) 7 (pA b3391 0)) 9 (.row 3 zbv (gi y3392 d))) 10 (.exact v3648)) 22 (.row 3 zay ((gi a0.2 (gi a1 0)).2.2))) 23 (.xi (List.length ((gi a0.2 (gi a1 0)).2.2):Int))) 24 (.xi b)) 31 (.row 1 zce y3392)) 32 (.xi (List.length y3392:Int))) 33 (.xi d))) ([vecT Tryz.prog 45 3 zbe v5_l278 g,boxI 86 b3391 [.row 1 zav ((gi ((gi a0.2 (gi a1 0)).2.2) b).1), .xi ((gi ((gi a0.2 (gi a1 0)).2.2) b).2.1), .xi ((gi ((gi a0.2 (gi a1 0)).2.2) b).2.2)],vecT Tryz.prog 22 1 zav v3648 j]) (λ k3670 h=> ?_) (λ  h=> ?_)
         .refine sr (gq (zaj (o:=1) (c':=(List.drop 1 (zbb a0))) (by kernel_rfl) rfl rfl (gq (zak (a:= .row 3 zaw a0.2) (by kernel_rfl) rfl rfl (gq (zba (o:=2) (by kernel_rfl) rfl (G_r rfl (opR_f1 (zaz (a:= .xi ((gi ((gi a0.2 (gi a1 0)).2.2) b).2.2)) (by kernel_rfl) rfl rfl ?_)))))))))
          obtain⟨n3682,h⟩:=zad h
          refine gq (zai (by kernel_rfl) rfl rfl n3682.1 n3682.2 (gq (zaj (o:=1) (c':=(List.drop 1 (zaw (gi a0.2 ((gi ((gi a0.2 (gi a1 0)).2.2) b).2.2))))) (by kernel_rfl) rfl rfl (gq (zak (a:= .row 1 zdk ((gi a0.2 ((gi ((gi a0.2 (gi a1 0)).2.2) b).2.2)).2.1)) (by kernel_rfl) rfl rfl (gq (zao (by kernel_rfl) rfl (qm (.xi 0) rfl (gc (zaq (zcr (m_network_steps_L302 a0 a1 b k3670) (m_network_steps_B302 a0 a1 b k3670) (λ _=>rfl) (λ m _=>rfl) h (λ(f:Int)=>(pt (pt (pt (pt (pt (pt (pt (pt (pt (pt (pt (pt (pt (pt (pt AF0 1 (.row 1 zav a1)) 2 (.ptr (zbb a0))) 5 (.exact v5_l278)) 7 (pA b3391 0)) 9 (.row 3 zbv (gi y3392 d))) 10 (.exact v3648)) 22 (.row 3 zay ((gi a0.2 (gi a1 0)).2.2))) 23 (.xi (List.length ((gi a0.2 (gi a1 0)).2.2):Int))) 24 (.xi b)) 31 (.row 1 zce y3392)) 32 (.xi (List.length y3392:Int))) 33 (.xi d)) 63 (.row 1 zdk ((gi a0.2 ((gi ((gi a0.2 (gi a1 0)).2.2) b).2.2)).2.1))) 64 (.xi (List.length ((gi a0.2 ((gi ((gi a0.2 (gi a1 0)).2.2) b).2.2)).2.1):Int))) 65 (.xi f))) (λ(f:Int)=>[vecT Tryz.prog 45 3 zbe v5_l278 g,boxI 86 b3391 [.row 1 zav ((gi ((gi a0.2 (gi a1 0)).2.2) b).1), .xi ((gi ((gi a0.2 (gi a1 0)).2.2) b).2.1), .xi ((gi ((gi a0.2 (gi a1 0)).2.2) b).2.2)],vecT Tryz.prog 22 1 zav v3648 j]) ?_ (λ F f h=> ?_))))))))))))
          .exact so (l4 rfl rfl rfl rfl (l4 rfl rfl rfl rfl (l4 rfl rfl rfl rfl (lq rfl (lq rfl (lq rfl lt0))))))
          .unfold m_network_steps_B302 at h
           refine sr (gq (zbm rfl rfl (gc (zan (kd (p:=f<(List.length ((gi a0.2 ((gi ((gi a0.2 (gi a1 0)).2.2) b).2.2)).2.1):Int)) rfl h (λ hc h=> ?_) (λ hc h=> ?_))))))
           .refine zap (zaf (zan (zaq (sr (qm (.xi f) rfl ?_)))))
            obtain⟨n3691,h⟩:=zad h
            refine gq (zai (by kernel_rfl) rfl rfl n3691.1 n3691.2 (gq (zak (a:= .xb (gi ((gi a0.2 ((gi ((gi a0.2 (gi a1 0)).2.2) b).2.2)).2.1) f)) (by kernel_rfl) rfl rfl (qa (.xi f) rfl (qa (.xb (gi ((gi a0.2 ((gi ((gi a0.2 (gi a1 0)).2.2) b).2.2)).2.1) f)) rfl (gd (qm (.xb (gi ((gi a0.2 ((gi ((gi a0.2 (gi a1 0)).2.2) b).2.2)).2.1) f)) rfl (gq (zdh rfl (gc (kb (p:= !(gi ((gi a0.2 ((gi ((gi a0.2 (gi a1 0)).2.2) b).2.2)).2.1) f)) rfl h (λ hc h=> ?_) (λ hc h=> ?_))))))))))))
            .cases h
            .refine zap (zau (zaf (kr (gq (zbo rfl rfl rfl (qm (.xi (i64 (f+1))) rfl (zbc (zaa ⟨_,h,so (l4 rfl rfl rfl rfl (l4 rfl rfl rfl rfl (l4 rfl rfl rfl rfl (lq rfl (lq rfl (lq rfl lt0))))))⟩))))))))
           .refine zbr (zbi (zbk (zbj (zaa ⟨h,so (l4 rfl rfl rfl rfl (l4 rfl rfl rfl rfl (l4 rfl rfl rfl rfl lt0)))⟩))))
         .refine kr (qm (.exact v5_l278) rfl (gq (zba (o:=1) (by kernel_rfl) rfl (G_r rfl (opR_f1 (zaz (a:= .xi ((gi ((gi a0.2 (gi a1 0)).2.2) b).2.1)) (by kernel_rfl) rfl rfl (qm (.exact v3648) rfl (qm (.row 3 zbv (gi y3392 d)) rfl (G_sub rfl (SubU.trans SubU.f2 (SubU.freezeT2 (s1:=10) (s2:=80) rfl rfl zdf)) (gq (zft (c':=zbe ((gi ((gi a0.2 (gi a1 0)).2.2) b).2.1,j,gi y3392 d)) (CellsAll.cons rfl CellsOf.int (CellsAll.cons rfl CellsOf.row (CellsAll.cons rfl CellsOf.row CellsAll.nil))) rfl (lc lf (lc lf (lc lf ln))) (gq (zcd (n:=3) (enc:=zbe) [((gi ((gi a0.2 (gi a1 0)).2.2) b).2.1,j,gi y3392 d)] (CellsAll.cons rfl CellsOf.agg CellsAll.nil) rfl (by kernel_rfl) (LEss.cons (lc lf (lc lf (lc lf ln))) LEss.nil) ?_)))))))))))))
          obtain⟨n3692,h⟩:=zad h
          refine G_l rfl (zcu (by kernel_rfl) rfl rfl oc_c_api_Step n3692 (λ v3693=>qa (.exact v3693) rfl (zbc (zau (zaa ⟨_,v3693,h,so (l4 rfl rfl rfl rfl (l4 rfl rfl rfl rfl (lq rfl (lq rfl lt0))))⟩)))))
       .refine kr (gq (zbo rfl rfl rfl (qm (.xi (i64 (d+1))) rfl (zbc (zaa ⟨_,_,v5_j3595,h,so (l4 rfl rfl rfl rfl (l4 rfl rfl rfl rfl (lq rfl (lq rfl lt0))))⟩)))))
      .refine zbr (zbi (zbk (zbj (zau (zaa ⟨_,v5_l278,h, ?_⟩)))))
       refine Sub.trans (SubU.to SubU.f1) (Sub.trans (SubU.to SubU.drop) (so (l4 rfl rfl rfl rfl (lq rfl (lq rfl lt0)))))
    .refine kr (gq (zbo rfl rfl rfl (qm (.xi (i64 (b+1))) rfl (zbc (zaa ⟨_,_,v5_j3082,h,so (l4 rfl rfl rfl rfl (lq rfl (lq rfl lt0)))⟩)))))
   .refine zbr (zbi (zbk (zbj (zaa ⟨_,v5_l152,h,s1 rfl⟩))))
 .refine sr (qm (.exact v5_j1) rfl ?_)
  obtain⟨y3694,x,h⟩:=zae h
  refine G_l rfl (zdg (m_sort_api_Step_ok m_network_compareSteps_ok _ _ x) func74 (by kernel_rfl) (lc lf (lc lf ln)) (gd (qm (.exact v5_j1) rfl ?_)))
  obtain⟨y3695,y,h⟩:=zae h
  refine G_l rfl (op_fun_1_0_0 (m_slices_CompactFunc_L_api_Step_api_Step_ok _ _ _ y) func77 (by kernel_rfl) (lc lf (lc ((fn_le func78 (by kernel_rfl) (λ i r h=>m_network_steps_1_ok i.1 i.2 r h))) ln)) ?_)
  obtain⟨y3696,A,h⟩:=zae h
  refine gq (zal (m_slices_Clip_L_api_Step_api_Step_ok _ _ A) func76 (by kernel_rfl) (lc lf ln) (qa (.row 3 zbe y3696) rfl (gc (zbn ?_))))
  obtain rfl:=oi h
  refine ke (pt AF0 4 (.row 3 zbe y3696)) [] rfl (s1 rfl) ⟨rfl,rfl⟩
theorem m_network_Steps_ok (a0:(List ((List (List (Int×Int)))×(List (List UInt8))))×(List ((List UInt8)×(List Bool)×(List ((List Int)×Int×Int))))) (a1:List Int) (r:(List (Int×(List Int)×(List (Int×Int×Int))))) (h:m_network_Steps a0 a1=some r):Pure Tryz.prog 12 [(.agg (zbb a0)),(.row 1 zav a1)] (.row 3 zbe r):=by
 unfold m_network_Steps at h
 refine Pure.ofFun (zam func12 rfl ntmps12 (by simp) rfl (res1 rfl) λ E hE=>zca (sr (gq (zfe (c:=zbb a0) rfl CellsOf.agg (qa (.exact (.slice none 0 0)) rfl (gc (zan (sr (gq (zbx (m:=2) (c':=zbb a0) (by kernel_rfl) rfl rfl rfl (qm (.row 1 zav a1) rfl ?_)))))))))))
 obtain⟨y1,a,h⟩:=zae h
 refine gq (zal (m_network_ValidState_ok _ _ _ a) func34 (by kernel_rfl) (lc lf (lc lf ln)) (gq (zdh rfl (gc (kb (p:= !y1) rfl h (λ hc h=> ?_) (λ hc h=> ?_))))))
 .refine zan ?_
  cases h
 .refine zap (zaf (sr (gq (zbx (m:=2) (c':=zbb a0) (by kernel_rfl) rfl rfl rfl (qm (.row 1 zav a1) rfl ?_)))))
  obtain⟨y2,b,h⟩:=zae h
  refine gq (zal (m_network_steps_ok _ _ _ b) func35 (by kernel_rfl) (lc lf (lc lf ln)) (qa (.row 3 zbe y2) rfl (gc (zbn ?_))))
  obtain rfl:=oi h
  refine ke (pt AF0 4 (.row 3 zbe y2)) [] rfl (s1 rfl) ⟨rfl,rfl⟩
theorem m_help_Equal_int_ok (a0:List Int) (a1:List Int) (r:Bool) (h:zga a0 a1=some r):Pure Tryz.prog 6 [(.row 1 zav a0),(.row 1 zav a1)] (.exact (.bool r)):=by
 unfold zga at h
 refine Pure.ofFun (zam func6 rfl ntmps6 (by simp) rfl (res1 rfl) λ E hE=>zca (sr (qa (.xb false) rfl (gc (zan (sr (qm (.row 1 zav a0) rfl (gq (zao (by kernel_rfl) rfl (qm (.row 1 zav a1) rfl (gq (zao (by kernel_rfl) rfl (gq (zfr rfl rfl (gc (kd (p:= ¬(List.length a0:Int)=(List.length a1:Int)) rfl h (λ hc h=> ?_) (λ hc h=> ?_)))))))))))))))))
 .refine sr (qa (.xb false) rfl (gc (zbn (zdb ?_))))
  obtain rfl:=oi h
  refine ke (pt AF0 4 (.xb false)) [] rfl (s1 rfl) ⟨rfl,rfl⟩
 .refine zap (zaf (zbw h (AF0) ([]) (λ k1 h=> ?_) (λ  h=> ?_)))
  .refine sr (qa (.xi 0) rfl (gc (zaq (zcr (zfc a0 a1 k1) (zgt a0 a1 k1) (λ _=>rfl) (λ m _=>rfl) h (λ(b:Int)=>(pt (pt (pt AF0 0 (.row 1 zav a0)) 1 (.row 1 zav a1)) 5 (.xi b))) (λ(b:Int)=>[]) ?_ (λ c b h=> ?_)))))
   .exact s3 rfl rfl rfl
   .unfold zgt at h
    refine zan (sr (qm (.xi b) rfl (qm (.row 1 zav a0) rfl (gq (zao (by kernel_rfl) rfl (gq (zbm rfl rfl (gc (kd (p:=b<(List.length a0:Int)) rfl h (λ hc h=> ?_) (λ hc h=> ?_))))))))))
    .refine zap (zaf (zan (zaq (zan (zck [] [(0,0),(0,1),(0,2),(0,3),(0,4),(0,5),(0,6),(0,7),(0,8)] hmixP (by kernel_rfl) (pq rfl (zah (av:= .row 1 zav a0) rfl (pq rfl (zah (av:= .xi b) rfl ?_)))))))))
     obtain⟨n13,h⟩:=zad h
     refine pq rfl (zai (by kernel_rfl) rfl rfl n13.1 n13.2 (pq rfl (zak (a:= .xi (gi a0 b)) (by kernel_rfl) rfl rfl (pq rfl (zah (av:= .row 1 zav a1) rfl (pq rfl (zah (av:= .xi b) rfl ?_)))))))
     obtain⟨n14,h⟩:=zad h
     refine pq rfl (zai (by kernel_rfl) rfl rfl n14.1 n14.2 (pq rfl (zak (a:= .xi (gi a1 b)) (by kernel_rfl) rfl rfl (pq rfl (zfr rfl rfl (zcn (zaf (kd (p:= ¬(gi a0 b)=(gi a1 b)) rfl h (λ hc h=> ?_) (λ hc h=> ?_)))))))))
     .refine sr (qa (.xb false) rfl (gc (zbn (zde (zdb (zek (zde (zek ?_))))))))
      obtain rfl:=oi h
      refine ke (pt AF0 4 (.xb false)) [] rfl (s1 rfl) ⟨rfl,rfl⟩
     .refine zap (zau (zaf (kr (qm (.xi b) rfl (gq (zbo rfl rfl rfl (qa (.xi (i64 (b+1))) rfl (zbc (zaa ⟨_,h,s3 rfl rfl rfl⟩)))))))))
    .refine zbr (zbi (zbk (zbj (zaa ⟨h,Sub.of_le lt0⟩))))
  .refine sr (qa (.xb true) rfl (gc (zbn ?_)))
   obtain rfl:=oi h
   refine ke (pt AF0 4 (.xb true)) [] rfl (s1 rfl) ⟨rfl,rfl⟩
theorem m_law22_awake_ok  (r:Bool) (h:m_law22_awake=some r):Pure Tryz.prog 4 [] (.exact (.bool r)):=by
 unfold m_law22_awake at h
 refine Pure.ofFun (zam func4 rfl ntmps4 (by simp) rfl (res1 rfl) λ E hE=>zca (sr (qa (.xb false) rfl (gd ?_))))
 obtain⟨y1,d,h⟩:=zae h
 refine G_l rfl (op_fun_0_1_1 (m_gen_New_ok _ _ d) func8 (by kernel_rfl) (lc (zcy (by decide)) ln) (λ b2=> ?_))
 obtain⟨y3,e,h⟩:=zae h
 refine G_l rfl (zdg (m_gen_Choices_Core_ok _ _ _ _ e) func9 (by kernel_rfl) (lc lf (lc lf (lc lf ln))) ?_)
 obtain⟨y4,f,h⟩:=zae h
 refine gq (zal (m_law22_prefix_ok _ _ f) func11 (by kernel_rfl) (lc lf ln) (gq (zcd (n:=1) (enc:=zav) [2] (CellsAll.cons rfl CellsOf.int CellsAll.nil) rfl (by kernel_rfl) (LEss.cons (lc lf ln) LEss.nil) ?_)))
 obtain⟨y5,g,h⟩:=zae h
 refine gq (zal (m_law22_prefix_ok _ _ g) func11 (by kernel_rfl) (lc lf ln) ?_)
 obtain⟨y6,i,h⟩:=zae h
 refine gq (zal (m_ref16_Guarded_ok _ _ _ _ _ i) func10 (by kernel_rfl) (lc lf (lc lf (lc lf (lc lf ln)))) ?_)
 obtain⟨y7,j,h⟩:=zae h
 refine gq (zal (m_ref21_Compile_ok _ _ _ _ j) func7 (by kernel_rfl) (lc lf (lc lf (lc lf ln))) (qm (.tup [.agg (zbb y7.1), .xi y7.2]) rfl (gq (zbq (av:= .agg (zbb y7.1)) rfl rfl (gq (zbq (av:= .xi y7.2) rfl rfl (G_l rfl (zel (c:=[.row 2 zbd ((([],[]):(List ((List (List (Int×Int)))×(List (List UInt8))))×(List ((List UInt8)×(List Bool)×(List ((List Int)×Int×Int))))).1), .row 3 zaw ((([],[]):(List ((List (List (Int×Int)))×(List (List UInt8))))×(List ((List UInt8)×(List Bool)×(List ((List Int)×Int×Int))))).2)]) rfl (lc (zcy (by decide)) (lc (zcy (by decide)) ln)) (λ b8=>G_l rfl (zbz (c':=[.row 2 zbd y7.1.1, .row 3 zaw y7.1.2]) (c3:=[.row 2 zbd y7.1.1, .row 3 zaw y7.1.2]) rfl rfl CellsOf.agg (lc lf (lc lf ln)) (oc_c_api_Machine _) (by kernel_rfl) (Nat.le_of_ble_eq_true rfl) rfl (qa (.xi y7.2) rfl (gc (zan (zck [] [(1,0),(1,1),(0,2),(0,3),(0,4)] hmixP (by kernel_rfl) (P_r rfl (zei (m:=2) (c':=zbb (y7.1.1,y7.1.2)) (by kernel_rfl) rfl rfl rfl (P_r rfl (zei (m:=2) (c':=zbb (y7.1.1,y7.1.2)) (by kernel_rfl) rfl rfl rfl ?_))))))))))))))))))
 obtain⟨y9,k,h⟩:=zae h
 refine pq rfl (zal (m_network_Start_ok _ _ k) func13 (by kernel_rfl) (lc lf ln) ?_)
 obtain⟨y10,l,h⟩:=zae h
 refine pq rfl (zal (m_network_Steps_ok _ _ _ l) func12 (by kernel_rfl) (lc lf (lc lf ln)) (pq rfl (zcj (av:= .row 3 zbe y10) rfl (zcn (zaf (zax h (λ(b:Bool)=>(pt AF0 0 (.xb b))) (λ(b:Bool)=>[]) (λ k11 h=> ?_) (λ b h=> ?_)))))))
 .refine kr (G_r rfl (zei (m:=2) (c':=zbb (y7.1.1,y7.1.2)) (by kernel_rfl) rfl rfl rfl ?_))
  obtain⟨y18,q,h⟩:=zae h
  refine gq (zal (m_network_Start_ok _ _ q) func13 (by kernel_rfl) (lc lf ln) (gq (zcd (n:=1) (enc:=zav) [0,0,0] (CellsAll.cons rfl CellsOf.int (CellsAll.cons rfl CellsOf.int (CellsAll.cons rfl CellsOf.int CellsAll.nil))) rfl (by kernel_rfl) (LEss.cons (lc lf ln) (LEss.cons (lc lf ln) (LEss.cons (lc lf ln) LEss.nil))) ?_)))
  obtain⟨y19,s,h⟩:=zae h
  refine gq (zal (m_help_Equal_int_ok _ _ _ s) func6 (by kernel_rfl) (lc lf (lc lf ln)) (qm (.xb y19) rfl (zfl (c:=y19) 22 rfl (λ hc=> ?_) (λ hc=> ?_))))
  .replace h:=zcg h hc
   refine gy (zah (av:= .row 3 zbe y10) rfl (gy (zao (by kernel_rfl) rfl (gy (zbf rfl rfl (gq (zat rfl (av:= .xb (decide ((List.length y10:Int)=1))) rfl (qm (.xb (decide ((List.length y10:Int)=1))) rfl (zcc (p:=(List.length y10:Int)=1) 27 rfl (λ hc=> ?_) (λ hc=> ?_))))))))))
   .replace h:=zcg h hc
    refine gy (zah (av:= .row 3 zbe y10) rfl ?_)
    obtain⟨n20,h⟩:=zad h
    refine gy (zai (by kernel_rfl) rfl rfl n20.1 n20.2 (gy (zaj (o:=0) (c':=(List.drop 0 (zbe (gi y10 0)))) (by kernel_rfl) rfl rfl (gy (zak (a:= .xi ((gi y10 0).1)) (by kernel_rfl) rfl rfl (gy (zbf rfl rfl (gq (zat rfl (av:= .xb (decide (((gi y10 0).1)=2))) rfl (qm (.xb (decide (((gi y10 0).1)=2))) rfl (zcc (p:=((gi y10 0).1)=2) 34 rfl (λ hc=> ?_) (λ hc=> ?_))))))))))))
    .replace h:=zcg h hc
     refine gy (zah (av:= .row 3 zbe y10) rfl ?_)
     obtain⟨n21,h⟩:=zad h
     refine gy (zai (by kernel_rfl) rfl rfl n21.1 n21.2 (gy (zaj (o:=2) (c':=(List.drop 2 (zbe (gi y10 0)))) (by kernel_rfl) rfl rfl (gy (zak (a:= .row 3 zbv ((gi y10 0).2.2)) (by kernel_rfl) rfl rfl (gy (zao (by kernel_rfl) rfl (gy (zbf rfl rfl (gq (zat rfl (av:= .xb (decide ((List.length ((gi y10 0).2.2):Int)=2))) rfl (qm (.xb (decide ((List.length ((gi y10 0).2.2):Int)=2))) rfl (zcc (p:=(List.length ((gi y10 0).2.2):Int)=2) 42 rfl (λ hc=> ?_) (λ hc=> ?_))))))))))))))
     .replace h:=zcg h hc
      refine gy (zah (av:= .row 3 zbe y10) rfl ?_)
      obtain⟨n22,h⟩:=zad h
      refine gy (zai (by kernel_rfl) rfl rfl n22.1 n22.2 (gy (zaj (o:=1) (c':=(List.drop 1 (zbe (gi y10 0)))) (by kernel_rfl) rfl rfl (gy (zak (a:= .row 1 zav ((gi y10 0).2.1)) (by kernel_rfl) rfl rfl (gy (zcd (n:=1) (enc:=zav) [0,1,1] (CellsAll.cons rfl CellsOf.int (CellsAll.cons rfl CellsOf.int (CellsAll.cons rfl CellsOf.int CellsAll.nil))) rfl (by kernel_rfl) (LEss.cons (lc lf ln) (LEss.cons (lc lf ln) (LEss.cons (lc lf ln) LEss.nil))) ?_)))))))
      obtain⟨y23,t,h⟩:=zae h
      refine gy (zal (m_help_Equal_int_ok _ _ _ t) func6 (by kernel_rfl) (lc lf (lc lf ln)) (gq (zat rfl (av:= .xb y23) rfl (qa (.xb y23) rfl (zbc (zaa ⟨_,h, ?_⟩))))))
      refine Sub.trans (SubU.to SubU.drop) (Sub.trans (SubU.to SubU.drop) (s1 rfl))
     .replace h:=zcf h hc
      refine gn (gn (gn (gn (gn (gn (gq (zar rfl (av:= .xb false) rfl (qa (.xb false) rfl (zbc (zaa ⟨_,h, ?_⟩))))))))))
      refine Sub.trans (SubU.to SubU.drop) (Sub.trans (SubU.to SubU.drop) (s1 rfl))
    .replace h:=zcf h hc
     refine gn (gn (gn (gn (gn (gn (gq (zar rfl (av:= .xb false) rfl (qm (.xb false) rfl (gn (gn (gn (gn (gn (gn (gq (zar rfl (av:= .xb false) rfl (qa (.xb false) rfl (zbc (zaa ⟨_,h, ?_⟩)))))))))))))))))))
     refine Sub.trans (SubU.to SubU.drop) (Sub.trans (SubU.to SubU.drop) (s1 rfl))
   .replace h:=zcf h hc
    refine gn (gn (gn (gn (gn (gq (zar rfl (av:= .xb false) rfl (qm (.xb false) rfl (gn (gn (gn (gn (gn (gn (gq (zar rfl (av:= .xb false) rfl (qm (.xb false) rfl (gn (gn (gn (gn (gn (gn (gq (zar rfl (av:= .xb false) rfl (qa (.xb false) rfl (zbc (zaa ⟨_,h, ?_⟩)))))))))))))))))))))))))))
    refine Sub.trans (SubU.to SubU.drop) (Sub.trans (SubU.to SubU.drop) (s1 rfl))
  .replace h:=zcf h hc
   refine gn (gn (gn (gq (zar rfl (av:= .xb false) rfl (qm (.xb false) rfl (gn (gn (gn (gn (gn (gq (zar rfl (av:= .xb false) rfl (qm (.xb false) rfl (gn (gn (gn (gn (gn (gn (gq (zar rfl (av:= .xb false) rfl (qm (.xb false) rfl (gn (gn (gn (gn (gn (gn (gq (zar rfl (av:= .xb false) rfl (qa (.xb false) rfl (zbc (zaa ⟨_,h, ?_⟩)))))))))))))))))))))))))))))))))
   refine Sub.trans (SubU.to SubU.drop) (Sub.trans (SubU.to SubU.drop) (s1 rfl))
 .refine zbn ?_
  obtain rfl:=oi h
  refine ke (pt AF0 0 (.xb b)) [] rfl (s1 rfl) ⟨rfl,rfl⟩
theorem m_law22_NetworkKeys_ok (a0:List Int) (a1:List Int) (r:Bool) (h:m_law22_NetworkKeys a0 a1=some r):Fun Tryz.prog 3 [(.row 1 zav a0),(.row 1 zav a1)] [tabI] (λ a s=>a= .exact (.bool r)/\s=[tabI]):=by
 unfold m_law22_NetworkKeys at h
 refine zam func3 rfl ntmps3 (by simp) rfl (res1 rfl) λ E hE=>zca (sr (qa (.xb false) rfl (gc (zax h (λ(d:Bool)=>(pt AF0 4 (.xb d))) (λ(d:Bool)=>[tabI]) (λ k1 h=> ?_) (λ d h=> ?_)))))
 .refine kr ?_
  obtain⟨y12,e,h⟩:=zae h
  refine gq (zal (m_law22_awake_ok _ e) func4 (by kernel_rfl) ln (qm (.xb y12) rfl (zfl (c:=y12) 6 rfl (λ hc=> ?_) (λ hc=> ?_))))
  .replace h:=zcg h hc
   refine gy (zah (av:= .row 1 zav a0) rfl ?_)
   obtain⟨y13,f,h⟩:=zae h
   refine Gy_l rfl rfl rfl (zdg (m_key_ok _ _ f) func5 (by kernel_rfl) (lc lf ln) (gy (zah (av:= .row 1 zav a1) rfl ?_)))
   obtain⟨y14,g,h⟩:=zae h
   refine Gy_l rfl rfl rfl (zdg (m_key_ok _ _ g) func5 (by kernel_rfl) (lc lf ln) (gy (op_eqlS rfl rfl (gy (zah (av:= .row 1 zav a0) rfl (gy (zah (av:= .row 1 zav a1) rfl ?_)))))))
   obtain⟨y15,i,h⟩:=zae h
   refine gy (zal (m_help_Equal_int_ok _ _ _ i) func6 (by kernel_rfl) (lc lf (lc lf ln)) (gy (op_eqlB (a:=(decide (y13=y14))) (b:=y15) (by kernel_rfl) rfl rfl (gq (zat rfl (av:= .xb (decide ((decide (y13=y14))=y15))) rfl (qm (.xb (decide ((decide (y13=y14))=y15))) rfl (zcc (p:=(decide (y13=y14))=y15) 17 rfl (λ hc=> ?_) (λ hc=> ?_))))))))
   .replace h:=zcg h hc
    refine gy (zah (av:= .row 1 zav a0) rfl ?_)
    obtain⟨n16,h⟩:=zad h
    refine Gy_l rfl rfl rfl (op_appN (enc:=zav) (by kernel_rfl) rfl rfl oc_c_int n16 (λ v17=>gy (zcd (n:=1) (enc:=zav) [0] (CellsAll.cons rfl CellsOf.int CellsAll.nil) rfl (by kernel_rfl) (LEss.cons (lc lf ln) LEss.nil) ?_)))
    obtain⟨n18,h⟩:=zad h
    refine Gy_l rfl rfl rfl (zcu (by kernel_rfl) rfl rfl oc_c_int n18 (λ v19=>G_sub rfl (SubU.freezeT (s:=21) rfl zdf) ?_))
    obtain⟨y20,j,h⟩:=zae h
    refine Gy_l rfl rfl rfl (zdg (m_key_ok _ _ j) func5 (by kernel_rfl) (lc lf ln) (gy (zah (av:= .row 1 zav a0) rfl ?_)))
    obtain⟨y21,k,h⟩:=zae h
    refine Gy_l rfl rfl rfl (zdg (m_key_ok _ _ k) func5 (by kernel_rfl) (lc lf ln) (gy (op_neqS rfl rfl (gq (zat rfl (av:= .xb (decide (¬y20=y21))) rfl (qa (.xb (decide (¬y20=y21))) rfl (zbc (zaa ⟨_,h,s1 rfl⟩))))))))
   .replace h:=zcf h hc
    refine gn (gn (gn (gn (gn (gn (gn (gn (gq (zar rfl (av:= .xb false) rfl (qa (.xb false) rfl (zbc (zaa ⟨_,h,s1 rfl⟩))))))))))))
  .replace h:=zcf h hc
   refine gn (gn (gn (gn (gn (gn (gn (gn (gn (gq (zar rfl (av:= .xb false) rfl (qm (.xb false) rfl (gn (gn (gn (gn (gn (gn (gn (gn (gq (zar rfl (av:= .xb false) rfl (qa (.xb false) rfl (zbc (zaa ⟨_,h,s1 rfl⟩))))))))))))))))))))))))
 .refine zbn ?_
  obtain rfl:=oi h
  refine ke (pt AF0 4 (.xb d)) [tabI] rfl (s1 rfl) ⟨rfl,rfl⟩
end
end Go.Proofs.YtohjfjmjnkglgaaGreatDoor
